/- A part of the proof. -/
import Derived.Test.YtmjgpbohlbakiaaGreatDoorPart4
set_option linter.unusedVariables false
set_option linter.unusedSimpArgs false
set_option maxRecDepth 100000
namespace Go.Av
open Go.RowKit Go.Base Go.Proofs Go.ChangeShapes Go.WideShapes
noncomputable def d61 (a0:T27) (a1:Int):JF Tryz.prog Tryz.f61 [(e27 a0),(.int .u32 a1)] (fun(r:Int×Bool)=>(.tup [(.int .u16 r.1),(.bool r.2)])) :=
 (.sq 3 [(1,tm1 10 (eSl 1 D.str))] [(0,[1,2,6,7],[16])] (fun(y1:(List (List UInt8)))=>⟨[(1,(.d (.int .u32 a1))),(2,(.ptr 16 0)),(6,(.d (eSl 1 D.str y1))),(7,(.d (.int .u16 0)))],[(16,(.cells (g27 a0)))],[],112⟩) (c3 (@p24) fun x1=>(.nx x1)) (fun y1=>(.sc (fun(y3:Int)=>⟨[(2,(.ptr 16 0)),(7,(.d (.int .u16 y3)))],[(16,(.cells (g27 a0)))],[],512⟩) (.sq 1 [] [(0,[1,2,6,7,12,13,14],[16])] (fun(_:Unit)=>⟨[(1,(.d (.int .u32 a1))),(2,(.ptr 16 0)),(6,(.d (eSl 1 D.str y1))),(7,(.d (.int .u16 0))),(12,(.d (eSl 1 D.str a0.Conds))),(13,(aI (a0.Conds.length:Int))),(14,(aI 0))],[(16,(.cells (g27 a0)))],[],176⟩) (.nx ()) (fun _=>(.bk (.lp (fun(s2:Int×Int)=>⟨[(1,(.d (.int .u32 a1))),(2,(.ptr 16 0)),(6,(.d (eSl 1 D.str y1))),(7,(.d (.int .u16 s2.1))),(12,(.d (eSl 1 D.str a0.Conds))),(13,(aI (a0.Conds.length:Int))),(14,(aI s2.2))],[(16,(.cells (g27 a0)))],[],496⟩) ((0:Int),(0:Int)) (wk [(16,16)] []) fun s2=>(.sg [(6,tm1 22 dI)] [(0,[1,2,6,7,12,13,14],[16]),(2,[2,7],[16])] (.ite (decide (s2.2 < (a0.Conds.length:Int))) (nd (0≤s2.2) (nd (s2.2 < (a0.Conds.length:Int)) (.exi (Int) ((m108 y1 (a0.Conds.getD s2.2.toNat default)).bind fun r6_0=>(if 0≤r6_0 then some r6_0 else none)) (fun x6=>(.p (PureAt Tryz.prog 108 [(eSl 1 D.str y1),(.str (a0.Conds.getD s2.2.toNat default))] (dI x6)) (.p (0≤x6) (.fin 0)))) (by intro x6 h;obtain⟨r6_0,h1,h⟩:=Option.bind_eq_some_iff.1 h;obtain⟨h2,h⟩:=if_some h;cases h;exact⟨p108 h1,h2,trivial⟩) (fun x6 _=>(.ite ((IntKind.wrap .u32 ((((BitVec.ofInt (IntKind.bits .u32) (Int.fdiv a1 (2 ^ (min x6.toNat (IntKind.bits .u32))))) &&& (BitVec.ofInt (IntKind.bits .u32) (1:Int))).toNat:Int)))==1) (nd (0≤s2.2) (.ret .normal ⟨[(1,(.d (.int .u32 a1))),(2,(.ptr 16 0)),(6,(.d (eSl 1 D.str y1))),(7,(.d (.int .u16 (IntKind.wrap .u16 ((((BitVec.ofInt (IntKind.bits .u16) s2.1) ||| (BitVec.ofInt (IntKind.bits .u16) (IntKind.wrap .u16 ((1:Int) * 2 ^ (min s2.2.toNat (IntKind.bits .u16)))))).toNat:Int)))))),(12,(.d (eSl 1 D.str a0.Conds))),(13,(aI (a0.Conds.length:Int))),(14,(aI (IntKind.wrap .i64 (s2.2+1))))],[(16,(.cells (g27 a0)))],[],816⟩ (.inl ((IntKind.wrap .u16 ((((BitVec.ofInt (IntKind.bits .u16) s2.1) ||| (BitVec.ofInt (IntKind.bits .u16) (IntKind.wrap .u16 ((1:Int) * 2 ^ (min s2.2.toNat (IntKind.bits .u16)))))).toNat:Int))),(IntKind.wrap .i64 (s2.2+1)))) ⟨rfl,(wk [(16,16)] [])⟩)) (.ret .normal ⟨[(1,(.d (.int .u32 a1))),(2,(.ptr 16 0)),(6,(.d (eSl 1 D.str y1))),(7,(.d (.int .u16 s2.1))),(12,(.d (eSl 1 D.str a0.Conds))),(13,(aI (a0.Conds.length:Int))),(14,(aI (IntKind.wrap .i64 (s2.2+1))))],[(16,(.cells (g27 a0)))],[],736⟩ (.inl (s2.1,(IntKind.wrap .i64 (s2.2+1)))) ⟨rfl,(wk [(16,16)] [])⟩)))))) (.ret (.exit 0) _ (.inr (.inl s2.1)) ⟨rfl,rfl,Weak.refl _⟩))))))) fun y3=>(.sg [(9,tm1 34 D.bool)] [(1,[4,5],[])] (c3 (@p34 a0 y3) fun x9=>(.ret .ret ⟨[(4,(.d (.int .u16 y3))),(5,(aB x9))],[],[],608⟩ (y3,x9) ⟨rfl,_,Weak.refl _,⟨dr,dr,trivial⟩⟩))))))
noncomputable def m61 (a0:T27) (a1:Int):Option (Int×Bool):=(d61 a0 a1).m
theorem p61 {a0:T27} {a1:Int} {r:Int×Bool} (h:m61 a0 a1=some r):PureAt Tryz.prog 61 [(e27 a0),(.int .u32 a1)] (.tup [(.int .u16 r.1),(.bool r.2)]):=pure_jd (d61 a0 a1) Tryz.func61 h
noncomputable def d57 (a0:T27) (a1:T41):JF Tryz.prog Tryz.f57 [(e27 a0),(e41 a1)] (fun(r:Bool)=>(.bool r)) :=
 (.sq 2 [(1,⟨Bool×Bool,fun x=>[(10,(.bool x.1)),(16,(.bool x.2))],fun x=>[],[]⟩)] [(1,[4],[]),(0,[2,3],[16,32])] (fun(_:Unit)=>⟨[(2,(.ptr 16 0)),(3,(.ptr 32 0))],[(16,(.cells (g27 a0))),(32,(.cells (g41 a1)))],[],384⟩) (.exi (Bool×Bool) ((m79 a0 a1.Leaf).bind fun r1_0=>((if(!(!r1_0))=true then m105 a0 a1.Leaf else some default).bind fun r1_1=>some (r1_0,r1_1))) (fun x1=>(.p (PureAt Tryz.prog 79 [(e27 a0),(dI a1.Leaf)] (.bool x1.1)) (.g (!(!x1.1)) (PureAt Tryz.prog 105 [(e27 a0),(dI a1.Leaf)] (.bool x1.2)) (.fin 0)))) (by intro x1 h;obtain⟨r1_0,h1,h⟩:=Option.bind_eq_some_iff.1 h;obtain⟨r1_1,h2,h⟩:=Option.bind_eq_some_iff.1 h;cases h;exact⟨p79 h1,fun g=>p105 (by rw[if_pos g]at h2;exact h2),trivial⟩) (fun x1 _=>(.ite (((!x1.1) || x1.2) || ((a1.Memory.length:Int) != (a0.States.length:Int))) (.ret .ret ⟨[(4,(aB false))],[],[],400⟩ (.inr (false)) ⟨rfl,rfl,_,Weak.refl _,dr⟩) (.nx ())))) (fun _=>(.sc (fun(_:Unit)=>⟨[],[],[],1024⟩) (.sq 1 [] [(0,[2,28,29,30],[16])] (fun(_:Unit)=>⟨[(2,(.ptr 16 0)),(28,(.d (eSl 1 dI a1.Memory))),(29,(aI (a1.Memory.length:Int))),(30,(aI 0))],[(16,(.cells (g27 a0)))],[],448⟩) (.nx ()) (fun _=>(.bk (.lp (fun(s1:Int)=>⟨[(2,(.ptr 16 0)),(28,(.d (eSl 1 dI a1.Memory))),(29,(aI (a1.Memory.length:Int))),(30,(aI s1))],[(16,(.cells (g27 a0)))],[],1008⟩) (0:Int) (wk [(16,16)] []) fun s1=>(.sg [(6,tm1 40 D.bool)] [(1,[4],[]),(0,[2,28,29,30],[16]),(2,[],[])] (.ite (decide (s1 < (a1.Memory.length:Int))) (nd (0≤s1) (nd (s1 < (a1.Memory.length:Int)) (.exi (Bool) ((if((a1.Memory.getD s1.toNat default) != (-1:Int))=true then m79 a0 (a1.Memory.getD s1.toNat default)else some default).bind fun r6_0=>(if(((a1.Memory.getD s1.toNat default) != (-1:Int))&&(!(!r6_0)))=true→0≤s1 then(if(((a1.Memory.getD s1.toNat default) != (-1:Int))&&(!(!r6_0)))=true→s1 < (a0.States.length:Int)then(if(((a1.Memory.getD s1.toNat default) != (-1:Int))&&(!((!r6_0) || (!(a0.States.getD s1.toNat default).History))))=true→0≤(a1.Memory.getD s1.toNat default)then(if(((a1.Memory.getD s1.toNat default) != (-1:Int))&&(!((!r6_0) || (!(a0.States.getD s1.toNat default).History))))=true→(a1.Memory.getD s1.toNat default) < (a0.States.length:Int)then some r6_0 else none)else none)else none)else none)) (fun x6=>(.g ((a1.Memory.getD s1.toNat default) != (-1:Int)) (PureAt Tryz.prog 79 [(e27 a0),(dI (a1.Memory.getD s1.toNat default))] (.bool x6)) (.g (((a1.Memory.getD s1.toNat default) != (-1:Int))&&(!(!x6))) (0≤s1) (.g (((a1.Memory.getD s1.toNat default) != (-1:Int))&&(!(!x6))) (s1 < (a0.States.length:Int)) (.g (((a1.Memory.getD s1.toNat default) != (-1:Int))&&(!((!x6) || (!(a0.States.getD s1.toNat default).History)))) (0≤(a1.Memory.getD s1.toNat default)) (.g (((a1.Memory.getD s1.toNat default) != (-1:Int))&&(!((!x6) || (!(a0.States.getD s1.toNat default).History)))) ((a1.Memory.getD s1.toNat default) < (a0.States.length:Int)) (.fin 0))))))) (by intro x6 h;obtain⟨r6_0,h1,h⟩:=Option.bind_eq_some_iff.1 h;obtain⟨h2,h⟩:=if_some h;obtain⟨h3,h⟩:=if_some h;obtain⟨h4,h⟩:=if_some h;obtain⟨h5,h⟩:=if_some h;cases h;exact⟨fun g=>p79 (by rw[if_pos g]at h1;exact h1),h2,h3,h4,h5,trivial⟩) (fun x6 _=>(.ite (((a1.Memory.getD s1.toNat default) != (-1:Int))&&(((!x6) || (!(a0.States.getD s1.toNat default).History)) || ((a0.States.getD (a1.Memory.getD s1.toNat default).toNat default).Parent != s1))) (.ret .ret ⟨[(4,(aB false))],[],[],1552⟩ (.inr (.inr (false))) ⟨rfl,rfl,rfl,_,Weak.refl _,dr⟩) (.ret .normal ⟨[(2,(.ptr 16 0)),(28,(.d (eSl 1 dI a1.Memory))),(29,(aI (a1.Memory.length:Int))),(30,(aI (IntKind.wrap .i64 (s1+1))))],[(16,(.cells (g27 a0)))],[],1568⟩ (.inl (IntKind.wrap .i64 (s1+1))) ⟨rfl,(wk [(16,16)] [])⟩)))))) (.ret (.exit 0) _ (.inr (.inl ())) ⟨rfl,rfl,Weak.refl _⟩))))))) fun _=>(.sg [] [(1,[4],[])] (.ret .ret ⟨[(4,(aB true))],[],[],1040⟩ true ⟨rfl,_,Weak.refl _,dr⟩)))))
noncomputable def m57 (a0:T27) (a1:T41):Option (Bool):=(d57 a0 a1).m
theorem p57 {a0:T27} {a1:T41} {r:Bool} (h:m57 a0 a1=some r):PureAt Tryz.prog 57 [(e27 a0),(e41 a1)] (.bool r):=pure_jd (d57 a0 a1) Tryz.func57 h
noncomputable def d70 (a0:T27) (a1:Int):JF Tryz.prog Tryz.f70 [(e27 a0),(dI a1)] (fun(r:(List Int))=>(eSl 1 dI r)) :=
 (.sq 3 [(1,tm1 9 D.bool)] [(1,[4],[]),(0,[1,2,5],[16])] (fun(_:Unit)=>⟨[(1,(aI a1)),(2,(.ptr 16 0)),(5,(.ap 1 ([a1]:List Int).length (cF dI ([a1]:List Int)) (.tok 128 3)))],[(16,(.cells (g27 a0)))],[128],160⟩) (c3 (@p79 a0 a1) fun x1=>(.ite (!x1) (.ret .ret ⟨[(4,aN)],[],[],128⟩ (.inr ([])) ⟨rfl,rfl,_,Weak.refl _,de_nil⟩) (.ret .normal ⟨[(1,(aI a1)),(2,(.ptr 16 0)),(5,(.ap 1 1 (litF [(dI a1)]) (.tok 128 3)))],[(16,(.cells (g27 a0)))],[128],160⟩ (.inl ()) ⟨rfl,(wh [(16,16)] [(128,128)] ⟨dr,⟨rfl,rfl⟩,⟨rfl,rfl,rfl,(de_lit rfl rfl)⟩⟩)⟩))) (fun _=>(.bk (.lp (fun(s1:Int×(List Int))=>⟨[(1,(aI s1.1)),(2,(.ptr 16 0)),(5,(.ap 1 s1.2.length (cF dI s1.2) (.tok 128 3)))],[(16,(.cells (g27 a0)))],[128],496⟩) (a1,([a1]:List Int)) (wk [(16,16)] [(128,128)]) fun s1=>(.sg [] [(1,[4],[]),(0,[1,2,5],[16])] (nd (0≤s1.1) (nd (s1.1 < (a0.States.length:Int)) (.ite ((decide ((a0.States.getD s1.1.toNat default).Parent < 0)) || (decide (s1.1≤(a0.States.getD s1.1.toNat default).Parent))) (.ret .ret ⟨[(4,(.ap 1 s1.2.length (cF dI s1.2) (.tok 128 3)))],[],[128],752⟩ (.inr (s1.2)) ⟨rfl,rfl,_,Weak.refl _,dr⟩) (nd ((s1.2.length+1) * 8≤140737488355328) (.ret .normal ⟨[(1,(aI (a0.States.getD s1.1.toNat default).Parent)),(2,(.ptr 16 0)),(5,(.ap 1 (s1.2.length+1) (appF s1.2.length (cF dI s1.2) (litF [(dI (a0.States.getD s1.1.toNat default).Parent)])) (.tok 768 3)))],[(16,(.cells (g27 a0)))],[768,752],832⟩ (.inl ((a0.States.getD s1.1.toNat default).Parent,(s1.2++([(a0.States.getD s1.1.toNat default).Parent]:List Int)))) ⟨rfl,(wh [(16,16)] [(128,768)] ⟨dr,⟨rfl,rfl⟩,⟨rfl,rfl,rfl,(de_app dr (de_lit rfl rfl))⟩⟩)⟩))))))))))
noncomputable def m70 (a0:T27) (a1:Int):Option ((List Int)):=(d70 a0 a1).m
theorem p70 {a0:T27} {a1:Int} {r:(List Int)} (h:m70 a0 a1=some r):PureAt Tryz.prog 70 [(e27 a0),(dI a1)] (eSl 1 dI r):=pure_jd (d70 a0 a1) Tryz.func70 h
noncomputable def d101 (a0:List Int) (a1:Int):JF Tryz.prog Tryz.f101 [(eSl 1 dI a0),(dI a1)] (fun(r:Int)=>(dI r)) :=
 (.sq 1 [] [(0,[0,1],[])] (fun(_:Unit)=>⟨[(0,(.d (eSl 1 dI a0))),(1,(aI a1))],[],[],32⟩) (.nx ()) (fun _=>(.sc (fun(_:Unit)=>⟨[],[],[],272⟩) (.sq 1 [] [(0,[0,1,7,8],[])] (fun(_:Unit)=>⟨[(0,(.d (eSl 1 dI a0))),(1,(aI a1)),(7,(aI (a0.length:Int))),(8,(aI 0))],[],[],80⟩) (.nx ()) (fun _=>(.bk (.lp (fun(s1:Int)=>⟨[(0,(.d (eSl 1 dI a0))),(1,(aI a1)),(7,(aI (a0.length:Int))),(8,(aI s1))],[],[],256⟩) (0:Int) (wk [] []) fun s1=>(.sg [] [(1,[4],[]),(0,[0,1,7,8],[]),(2,[],[])] (.ite (decide (s1 < (a0.length:Int))) (nd (0≤s1) (nd (s1 < (a0.length:Int)) (.ite (a1==(a0.getD s1.toNat default)) (.ret .ret ⟨[(4,(aI s1))],[],[],432⟩ (.inr (.inr (s1))) ⟨rfl,rfl,rfl,_,Weak.refl _,dr⟩) (.ret .normal ⟨[(0,(.d (eSl 1 dI a0))),(1,(aI a1)),(7,(aI (a0.length:Int))),(8,(aI (IntKind.wrap .i64 (s1+1))))],[],[],432⟩ (.inl (IntKind.wrap .i64 (s1+1))) ⟨rfl,(wk [] [])⟩)))) (.ret (.exit 0) _ (.inr (.inl ())) ⟨rfl,rfl,Weak.refl _⟩))))))) fun _=>(.sg [] [(1,[4],[])] (.ret .ret ⟨[(4,(aI (-1)))],[],[],288⟩ (-1:Int) ⟨rfl,_,Weak.refl _,dr⟩)))))
noncomputable def m101 (a0:List Int) (a1:Int):Option (Int):=(d101 a0 a1).m
theorem p101 {a0:List Int} {a1:Int} {r:Int} (h:m101 a0 a1=some r):PureAt Tryz.prog 101 [(eSl 1 dI a0),(dI a1)] (dI r):=pure_jd (d101 a0 a1) Tryz.func101 h
noncomputable def d71 (a0:List Int) (a1:Int):JF Tryz.prog Tryz.f71 [(eSl 1 dI a0),(dI a1)] (fun(r:Bool)=>(.bool r)) :=
 (.sg [(1,tm1 7 dI)] [(1,[4],[])] (c3 (@p101 a0 a1) fun x1=>(.ret .ret ⟨[(4,(aB (decide (0≤x1))))],[],[],112⟩ (decide (0≤x1)) ⟨rfl,_,Weak.refl _,dr⟩)))
noncomputable def m71 (a0:List Int) (a1:Int):Option (Bool):=(d71 a0 a1).m
theorem p71 {a0:List Int} {a1:Int} {r:Bool} (h:m71 a0 a1=some r):PureAt Tryz.prog 71 [(eSl 1 dI a0),(dI a1)] (.bool r):=pure_jd (d71 a0 a1) Tryz.func71 h
noncomputable def d33 (a0:T27) (a1 a2:Int):JF Tryz.prog Tryz.f33 [(e27 a0),(dI a1),(.int .u16 a2)] (fun(r:(List Int))=>(eSl 1 dI r)) :=
 (.sq 3 [(1,tm1 13 (eSl 1 dI))] [(0,[2,3,7,8],[16])] (fun(y1:(List Int))=>⟨[(2,(.d (.int .u16 a2))),(3,(.ptr 16 0)),(7,(.d (eSl 1 dI y1))),(8,aN)],[(16,(.cells (g27 a0)))],[],128⟩) (c3 (@p70 a0 a1) fun x1=>(.nx x1)) (fun y1=>(.sc (fun(y3:(List Int))=>⟨[(8,(.ap 1 y3.length (cF dI y3) (.tok 512 3)))],[],[512],592⟩) (.sq 1 [] [(0,[2,7,8,15,16,17],[])] (fun(_:Unit)=>⟨[(2,(.d (.int .u16 a2))),(7,(.d (eSl 1 dI y1))),(8,aN),(15,(.d (eSl 4 e78 a0.Transitions))),(16,(aI (a0.Transitions.length:Int))),(17,(aI 0))],[],[],192⟩) (.nx ()) (fun _=>(.bk (.lp (fun(s2:(List Int)×Int)=>⟨[(2,(.d (.int .u16 a2))),(7,(.d (eSl 1 dI y1))),(8,(.ap 1 s2.1.length (cF dI s2.1) (.tok 512 3))),(15,(.d (eSl 4 e78 a0.Transitions))),(16,(aI (a0.Transitions.length:Int))),(17,(aI s2.2))],[],[512],576⟩) ([],(0:Int)) (wk [] []) fun s2=>(.sg [(6,⟨Bool×Bool,fun x=>[(25,(.bool x.1)),(30,(.bool x.2))],fun x=>[],[]⟩)] [(0,[2,7,8,15,16,17],[]),(2,[8],[])] (.ite (decide (s2.2 < (a0.Transitions.length:Int))) (nd (0≤s2.2) (nd (s2.2 < (a0.Transitions.length:Int)) (.exi (Bool×Bool) ((m71 y1 (a0.Transitions.getD s2.2.toNat default).From).bind fun r6_0=>((if r6_0=true then m72 (a0.Transitions.getD s2.2.toNat default).When a2 else some default).bind fun r6_1=>some (r6_0,r6_1))) (fun x6=>(.p (PureAt Tryz.prog 71 [(eSl 1 dI y1),(dI (a0.Transitions.getD s2.2.toNat default).From)] (.bool x6.1)) (.g x6.1 (PureAt Tryz.prog 72 [(eSl 2 e151 (a0.Transitions.getD s2.2.toNat default).When),(.int .u16 a2)] (.bool x6.2)) (.fin 0)))) (by intro x6 h;obtain⟨r6_0,h1,h⟩:=Option.bind_eq_some_iff.1 h;obtain⟨r6_1,h2,h⟩:=Option.bind_eq_some_iff.1 h;cases h;exact⟨p71 h1,fun g=>p72 (by rw[if_pos g]at h2;exact h2),trivial⟩) (fun x6 _=>(.ite (x6.1&&x6.2) (nd ((s2.1.length+1) * 8≤140737488355328) (.ret .normal ⟨[(2,(.d (.int .u16 a2))),(7,(.d (eSl 1 dI y1))),(8,(.ap 1 (s2.1.length+1) (appF s2.1.length (cF dI s2.1) (litF [(dI s2.2)])) (.tok 896 3))),(15,(.d (eSl 4 e78 a0.Transitions))),(16,(aI (a0.Transitions.length:Int))),(17,(aI (IntKind.wrap .i64 (s2.2+1))))],[],[896,880],960⟩ (.inl ((s2.1++([s2.2]:List Int)),(IntKind.wrap .i64 (s2.2+1)))) ⟨rfl,(wh [] [(512,896)] ⟨dr,dr,⟨rfl,rfl,rfl,(de_app dr (de_lit rfl rfl))⟩,dr,dr,dr⟩)⟩)) (.ret .normal ⟨[(2,(.d (.int .u16 a2))),(7,(.d (eSl 1 dI y1))),(8,(.ap 1 s2.1.length (cF dI s2.1) (.tok 512 3))),(15,(.d (eSl 4 e78 a0.Transitions))),(16,(aI (a0.Transitions.length:Int))),(17,(aI (IntKind.wrap .i64 (s2.2+1))))],[],[512],880⟩ (.inl (s2.1,(IntKind.wrap .i64 (s2.2+1)))) ⟨rfl,(wk [] [(512,512)])⟩)))))) (.ret (.exit 0) _ (.inr (.inl s2.1)) ⟨rfl,rfl,Weak.refl _⟩))))))) fun y3=>(.sg [] [(1,[6],[])] (.ret .ret ⟨[(6,(.ap 1 y3.length (cF dI y3) (.tok 512 3)))],[],[512],624⟩ y3 ⟨rfl,_,Weak.refl _,dr⟩)))))
noncomputable def m33 (a0:T27) (a1 a2:Int):Option ((List Int)):=(d33 a0 a1 a2).m
theorem p33 {a0:T27} {a1:Int} {a2:Int} {r:(List Int)} (h:m33 a0 a1 a2=some r):PureAt Tryz.prog 33 [(e27 a0),(dI a1),(.int .u16 a2)] (eSl 1 dI r):=pure_jd (d33 a0 a1 a2) Tryz.func33 h
noncomputable def q54o0 (a0:T27) (a1:T41) (y:Unit):OF:=⟨(.ptr 304 0),[(112,(.arr 1 (a1.Memory.length:Int).toNat (fun i=>if i < a1.Memory.length then(cF dI a1.Memory) i else(fun _=>(dI 0)) i))),(304,(.cells (g27 a0++([(aI a1.Leaf),(.arr 112 1 (a1.Memory.length:Int).toNat),aN]:List AV))))],[]⟩
noncomputable def d54o0 (a0:T27) (a1:T41):JO Tryz.prog Tryz.f54 [(.d (e27 a0)),(.d (e41 a1))] [] [] (q54o0 a0 a1) :=
 (.sg [] [(1,[4],[304,112])] (nd (0≤(a1.Memory.length:Int)) (nd ((a1.Memory.length:Int)=(a1.Memory.length:Int)) (nd ((a1.Memory.length:Int) * 8≤140737488355328) (nd ((a1.Memory.length:Int)≤9223372036854775807) (nd ((a1.Memory.length:Int).toNat=(a1.Memory.length:Int).toNat) (.ret .ret ⟨[(4,(.ptr 304 0))],[(304,(.cells (g27 a0++([(aI a1.Leaf),(.arr 112 1 (a1.Memory.length:Int).toNat),aN]:List AV)))),(112,(.arr 1 (a1.Memory.length:Int).toNat (fun i=>if i < a1.Memory.length then(cF dI a1.Memory) i else(fun _=>(dI 0)) i)))],[],336⟩ () ⟨rfl,(rk (idn [304,112]) [] 336)⟩)))))))
noncomputable def m54o0 (a0:T27) (a1:T41):Option (Unit):=(d54o0 a0 a1).m
theorem po54o0 {a0:T27} {a1:T41} {r:Unit} (h:m54o0 a0 a1=some r):ObjF Tryz.prog 54 [(.d (e27 a0)),(.d (e41 a1))] [] [] (q54o0 a0 a1 r):=obj_jd (d54o0 a0 a1) Tryz.func54 h
noncomputable def d106 (a0:T27) (a1 a2:Int):JF Tryz.prog Tryz.f106 [(e27 a0),(dI a1),(dI a2)] (fun(r:Int)=>(dI r)) :=
 (.sq 2 [(1,tm1 12 (eSl 1 dI))] [(0,[1,3,7],[16])] (fun(y1:(List Int))=>⟨[(1,(aI a1)),(3,(.ptr 16 0)),(7,(.d (eSl 1 dI y1)))],[(16,(.cells (g27 a0)))],[],128⟩) (.exi ((List Int)) ((m70 a0 a2).bind fun r1_0=>(if(0:Int)≤(1:Int)then(if 1≤(r1_0.length:Int)then some r1_0 else none)else none)) (fun x1=>(.p (PureAt Tryz.prog 70 [(e27 a0),(dI a2)] (eSl 1 dI x1)) (.p ((0:Int)≤(1:Int)) (.p (1≤(x1.length:Int)) (.fin 0))))) (by intro x1 h;obtain⟨r1_0,h1,h⟩:=Option.bind_eq_some_iff.1 h;obtain⟨h2,h⟩:=if_some h;obtain⟨h3,h⟩:=if_some h;cases h;exact⟨p70 h1,h2,h3,trivial⟩) (fun x1 _=>(.ret .normal ⟨[(1,(aI a1)),(3,(.ptr 16 0)),(7,(.d (.sl 1 (x1.length - (1:Int).toNat) (fun i=>cF dI x1 ((1:Int).toNat+i)))))],[(16,(.cells (g27 a0)))],[],128⟩ (.inl (subL x1 (1:Int).toNat (x1.length - (1:Int).toNat))) ⟨rfl,(wh [(16,16)] [] ⟨dr,⟨rfl,rfl⟩,de_sub⟩)⟩))) (fun y1=>(.sc (fun(_:Unit)=>⟨[],[],[],384⟩) (.sq 1 [(2,tm1 16 (eSl 1 dI))] [(0,[7,17,18,19],[])] (fun(y2:(List Int)×Int)=>⟨[(7,(.d (eSl 1 dI y1))),(17,(.d (eSl 1 dI y2.1))),(18,(aI y2.2)),(19,(aI 0))],[],[],224⟩) (.exi ((List Int)) ((m70 a0 a1).bind fun r2_0=>(if(0:Int)≤(1:Int)then(if 1≤(r2_0.length:Int)then some r2_0 else none)else none)) (fun x2=>(.p (PureAt Tryz.prog 70 [(e27 a0),(dI a1)] (eSl 1 dI x2)) (.p ((0:Int)≤(1:Int)) (.p (1≤(x2.length:Int)) (.fin 0))))) (by intro x2 h;obtain⟨r2_0,h1,h⟩:=Option.bind_eq_some_iff.1 h;obtain⟨h2,h⟩:=if_some h;obtain⟨h3,h⟩:=if_some h;cases h;exact⟨p70 h1,h2,h3,trivial⟩) (fun x2 _=>(.ret .normal ⟨[(7,(.d (eSl 1 dI y1))),(17,(.d (.sl 1 (x2.length - (1:Int).toNat) (fun i=>cF dI x2 ((1:Int).toNat+i))))),(18,(aI (((x2.length - (1:Int).toNat):Nat):Int))),(19,(aI 0))],[],[],224⟩ (.inl ((subL x2 (1:Int).toNat (x2.length - (1:Int).toNat)),(((x2.length - (1:Int).toNat):Nat):Int))) ⟨rfl,(wh [] [] ⟨dr,de_sub,dr,dr⟩)⟩))) (fun y2=>(.bk (.lp (fun(s3:Int)=>⟨[(7,(.d (eSl 1 dI y1))),(17,(.d (eSl 1 dI y2.1))),(18,(aI y2.2)),(19,(aI s3))],[],[],368⟩) (0:Int) (wk [] []) fun s3=>(.sg [(5,tm1 25 D.bool)] [(1,[6],[]),(0,[7,17,18,19],[]),(2,[],[])] (.ite (decide (s3 < y2.2)) (nd (0≤s3) (nd (s3 < (y2.1.length:Int)) (c3 (@p71 y1 (y2.1.getD s3.toNat default)) fun x5=>(.ite x5 (.ret .ret ⟨[(6,(aI (y2.1.getD s3.toNat default)))],[],[],512⟩ (.inr (.inr ((y2.1.getD s3.toNat default)))) ⟨rfl,rfl,rfl,_,Weak.refl _,dr⟩) (.ret .normal ⟨[(7,(.d (eSl 1 dI y1))),(17,(.d (eSl 1 dI y2.1))),(18,(aI y2.2)),(19,(aI (IntKind.wrap .i64 (s3+1))))],[],[],512⟩ (.inl (IntKind.wrap .i64 (s3+1))) ⟨rfl,(wk [] [])⟩))))) (.ret (.exit 0) _ (.inr (.inl ())) ⟨rfl,rfl,Weak.refl _⟩))))))) fun _=>(.sg [] [(1,[6],[])] (.ret .ret ⟨[(6,(aI (-1)))],[],[],400⟩ (-1:Int) ⟨rfl,_,Weak.refl _,dr⟩)))))
noncomputable def m106 (a0:T27) (a1 a2:Int):Option (Int):=(d106 a0 a1 a2).m
theorem p106 {a0:T27} {a1:Int} {a2:Int} {r:Int} (h:m106 a0 a1 a2=some r):PureAt Tryz.prog 106 [(e27 a0),(dI a1),(dI a2)] (dI r):=pure_jd (d106 a0 a1 a2) Tryz.func106 h
noncomputable abbrev z107o0_0 (a1:T27) (a2:Int) (a3:List Int) (s2:Int×Int×(List Int)×(List (List UInt8))) (y1:(List Int)×Int):Ob:=(.cells (g27 a1++([(aI a2),(.arr 1 1 a3.length),(.ap 1 (s2.2.2.2.length+(a1.States.getD (y1.1.getD s2.2.1.toNat default).toNat default).Exit.length) (appF s2.2.2.2.length (cF D.str s2.2.2.2) (cF D.str (a1.States.getD (y1.1.getD s2.2.1.toNat default).toNat default).Exit)) (.tok 1360 9))]:List AV)))
noncomputable abbrev z107o0_1 (a1:T27) (a2:Int) (a3:List Int) (a4:List (List UInt8)):Ob:=(.cells [(aS a1.Name),(.d (eSl 1 D.str a1.Conds)),(.d (eSl 1 (eSl 2 e151) a1.Never)),(.d (eSl 6 e76 a1.States)),(aI a1.Start),(.d (eSl 4 e78 a1.Transitions)),(aI a2),(.arr 1 1 a3.length),(.ap 1 a4.length (cF D.str a4) (.tok 0 9))])
noncomputable abbrev z107o0_2 (a1:T27) (a2:Int) (a3:List Int) (s2:Int×Int×(List Int)×(List (List UInt8))):Ob:=(.cells (g27 a1++([(aI a2),(.arr 1 1 a3.length),(.ap 1 s2.2.2.2.length (cF D.str s2.2.2.2) (.tok 0 9))]:List AV)))
noncomputable def q107o0 (a0:Int) (a1:T27) (a2:Int) (a3:List Int) (a4:List (List UInt8)) (y:(List Int)×(List (List UInt8))):OF:=⟨(.tup []),[(1,(.arr 1 a3.length (cF dI y.1))),(0,(.cells (g27 a1++([(aI a2),(.arr 1 1 a3.length),(.ap 1 y.2.length (cF D.str y.2) (.tok 0 9))]:List AV))))],[0]⟩
noncomputable def d107o0 (a0:Int) (a1:T27) (a2:Int) (a3:List Int) (a4:List (List UInt8)):JO Tryz.prog Tryz.f107 [(.ptr 0 0),(aI a0)] [(1,(.arr 1 a3.length (cF dI a3))),(0,(z107o0_1 a1 a2 a3 a4))] [0] (q107o0 a0 a1 a2 a3 a4) :=
 (.sq 2 [(1,tm1 17 (eSl 1 dI))] [(0,[0,1,4,17,18,19],[1,0])] (fun(y1:(List Int)×Int)=>⟨[(0,(.ptr 0 0)),(1,(aI a0)),(4,(aI (-1))),(17,(.d (eSl 1 dI y1.1))),(18,(aI y1.2)),(19,(aI 0))],[(1,(.arr 1 a3.length (cF dI a3))),(0,(.cells (g27 a1++([(aI a2),(.arr 1 1 a3.length),(.ap 1 a4.length (cF D.str a4) (.tok 0 9))]:List AV))))],[0],224⟩) (c3 (@p70 a1 a2) fun x1=>(.nx (x1,(x1.length:Int)))) (fun y1=>(.bk (.lp (fun(s2:Int×Int×(List Int)×(List (List UInt8)))=>⟨[(0,(.ptr 0 0)),(1,(aI a0)),(4,(aI s2.1)),(17,(.d (eSl 1 dI y1.1))),(18,(aI y1.2)),(19,(aI s2.2.1))],[(1,(.arr 1 a3.length (cF dI s2.2.2.1))),(0,(z107o0_2 a1 a2 a3 s2))],[0],976⟩) ((-1:Int),(0:Int),a3,a4) (ws (idn [0,1]) [(0,0)] ⟨⟨_,_,rfl,rfl,⟨rfl,(de_keep dr)⟩⟩,⟨_,_,rfl,rfl,⟨dr,dr,dr,dr,dr,dr,dr,⟨rfl,rfl,rfl⟩,⟨rfl,rfl,rfl,dr⟩,trivial⟩⟩⟩) fun s2=>(.sg [] [(1,[0],[0,1]),(0,[0,1,4,17,18,19],[1,0]),(2,[0],[0,1])] (.ite (decide (s2.2.1 < y1.2)) (nd (0≤s2.2.1) (nd (s2.2.1 < (y1.1.length:Int)) (.ite ((y1.1.getD s2.2.1.toNat default)==a0) (.ret .ret ⟨[(0,(.ptr 0 0))],[(0,(z107o0_2 a1 a2 a3 s2)),(1,(.arr 1 a3.length (cF dI s2.2.2.1)))],[0],1088⟩ (.inr ((s2.2.2.1,s2.2.2.2))) ⟨rfl,rfl,(rk (idn [0,1]) [(0,0)] 1088)⟩) (nd (0≤(y1.1.getD s2.2.1.toNat default)) (nd ((y1.1.getD s2.2.1.toNat default) < (a1.States.length:Int)) (nd ((s2.2.2.2.length+(a1.States.getD (y1.1.getD s2.2.1.toNat default).toNat default).Exit.length) * 16≤140737488355328) (.ite ((a1.States.getD (y1.1.getD s2.2.1.toNat default).toNat default).History&&(s2.1 != (-1:Int))) (nd (0≤(y1.1.getD s2.2.1.toNat default)) (nd ((y1.1.getD s2.2.1.toNat default) < (a3.length:Int)) (nd ((y1.1.getD s2.2.1.toNat default).toNat < a3.length) (.ret .normal ⟨[(0,(.ptr 0 0)),(1,(aI a0)),(4,(aI (y1.1.getD s2.2.1.toNat default))),(17,(.d (eSl 1 dI y1.1))),(18,(aI y1.2)),(19,(aI (IntKind.wrap .i64 (s2.2.1+1))))],[(1,(.arr 1 a3.length (fun k=>if k=(y1.1.getD s2.2.1.toNat default).toNat then(dI s2.1)else(cF dI s2.2.2.1) k))),(0,(z107o0_0 a1 a2 a3 s2 y1))],[1360],1728⟩ (.inl ((y1.1.getD s2.2.1.toNat default),(IntKind.wrap .i64 (s2.2.1+1)),((subL s2.2.2.1 0 a3.length).set (y1.1.getD s2.2.1.toNat default).toNat s2.1),(s2.2.2.2++(a1.States.getD (y1.1.getD s2.2.1.toNat default).toNat default).Exit))) ⟨rfl,(ws (idn [0,1]) [(0,1360)] ⟨⟨_,_,rfl,rfl,⟨rfl,(de_keep (de_set de_sub0))⟩⟩,⟨_,_,rfl,rfl,⟨dr,dr,dr,dr,dr,dr,dr,⟨rfl,rfl,rfl⟩,⟨rfl,rfl,rfl,(de_app dr dr)⟩,trivial⟩⟩⟩)⟩)))) (.ret .normal ⟨[(0,(.ptr 0 0)),(1,(aI a0)),(4,(aI (y1.1.getD s2.2.1.toNat default))),(17,(.d (eSl 1 dI y1.1))),(18,(aI y1.2)),(19,(aI (IntKind.wrap .i64 (s2.2.1+1))))],[(1,(.arr 1 a3.length (cF dI s2.2.2.1))),(0,(z107o0_0 a1 a2 a3 s2 y1))],[1360],1584⟩ (.inl ((y1.1.getD s2.2.1.toNat default),(IntKind.wrap .i64 (s2.2.1+1)),s2.2.2.1,(s2.2.2.2++(a1.States.getD (y1.1.getD s2.2.1.toNat default).toNat default).Exit))) ⟨rfl,(ws (idn [0,1]) [(0,1360)] ⟨⟨_,_,rfl,rfl,⟨rfl,dr⟩⟩,⟨_,_,rfl,rfl,⟨dr,dr,dr,dr,dr,dr,dr,⟨rfl,rfl,rfl⟩,⟨rfl,rfl,rfl,(de_app dr dr)⟩,trivial⟩⟩⟩)⟩)))))))) (.ret (.exit 0) ⟨[(0,(.ptr 0 0))],[(0,(z107o0_2 a1 a2 a3 s2)),(1,(.arr 1 a3.length (cF dI s2.2.2.1)))],[0],992⟩ (.inr ((s2.2.2.1,s2.2.2.2))) ⟨rfl,rfl,(rk (idn [0,1]) [(0,0)] 1088)⟩)))))))
noncomputable def m107o0 (a0:Int) (a1:T27) (a2:Int) (a3:List Int) (a4:List (List UInt8)):Option ((List Int)×(List (List UInt8))):=(d107o0 a0 a1 a2 a3 a4).m
theorem po107o0 {a0:Int} {a1:T27} {a2:Int} {a3:List Int} {a4:List (List UInt8)} {r:(List Int)×(List (List UInt8))} (h:m107o0 a0 a1 a2 a3 a4=some r):ObjF Tryz.prog 107 [(.ptr 0 0),(aI a0)] [(1,(.arr 1 a3.length (cF dI a3))),(0,(z107o0_1 a1 a2 a3 a4))] [0] (q107o0 a0 a1 a2 a3 a4 r):=obj_jd (d107o0 a0 a1 a2 a3 a4) Tryz.func107 h
noncomputable def q102o0 (a0:List Int) (y:Unit):OF:=⟨(.fn 137 [(.ptr 16 0)]),[(16,(.cells [(.d (eSl 1 dI a0))]))],[]⟩
noncomputable def d102o0 (a0:List Int):JO Tryz.prog Tryz.f102 [(.d (eSl 1 dI a0))] [] [] (q102o0 a0) :=
 (.sg [] [(1,[2],[16])] (.ret .ret ⟨[(2,(.fn 137 [(.ptr 16 0)]))],[(16,(.cells [(.d (eSl 1 dI a0))]))],[],80⟩ () ⟨rfl,(rk [(16,16)] [] 80)⟩))
noncomputable def m102o0 (a0:List Int):Option (Unit):=(d102o0 a0).m
theorem po102o0 {a0:List Int} {r:Unit} (h:m102o0 a0=some r):ObjF Tryz.prog 102 [(.d (eSl 1 dI a0))] [] [] (q102o0 a0 r):=obj_jd (d102o0 a0) Tryz.func102 h
noncomputable def q103o0 (a0:Int) (a1:T27) (a2:Int) (a3:List Int) (a4:List (List UInt8)) (y:(List Int)):OF:=⟨(.tup []),[(1,(.arr 1 a3.length (cF dI y))),(0,(.cells (g27 a1++([(aI a2),(.arr 1 1 a3.length),(.ap 1 (a4++(a1.States.getD a0.toNat default).Entry).length (cF D.str (a4++(a1.States.getD a0.toNat default).Entry)) (.tok 288 9))]:List AV))))],[288]⟩
noncomputable def d103o0 (a0:Int) (a1:T27) (a2:Int) (a3:List Int) (a4:List (List UInt8)):JO Tryz.prog Tryz.f103 [(.ptr 0 0),(aI a0)] [(1,(.arr 1 a3.length (cF dI a3))),(0,(.cells (g27 a1++([(aI a2),(.arr 1 1 a3.length),(.ap 1 a4.length (cF D.str a4) (.tok 0 9))]:List AV))))] [0] (q103o0 a0 a1 a2 a3 a4) :=
 (.sg [] [(0,[0],[0,1])] (nd (0≤a0) (nd (a0 < (a1.States.length:Int)) (nd ((a4.length+(a1.States.getD a0.toNat default).Entry.length) * 16≤140737488355328) (.ite (a1.States.getD a0.toNat default).History (nd (0≤a0) (nd (a0 < (a3.length:Int)) (nd (a0.toNat < a3.length) (.ret .normal ⟨[(0,(.ptr 0 0))],[(0,(.cells (g27 a1++([(aI a2),(.arr 1 1 a3.length),(.ap 1 (a4.length+(a1.States.getD a0.toNat default).Entry.length) (appF a4.length (cF D.str a4) (cF D.str (a1.States.getD a0.toNat default).Entry)) (.tok 288 9))]:List AV)))),(1,(.arr 1 a3.length (fun k=>if k=a0.toNat then(dI (-1))else(cF dI a3) k)))],[288],512⟩ (a3.set a0.toNat (-1:Int)) ⟨rfl,(retO_of [(0,0),(1,1)] [(288,288)] 512 rfl (by kernel_rfl) (by kernel_rfl) trivial ⟨⟨_,_,rfl,rfl,⟨rfl,(de_keep (de_set dr))⟩⟩,⟨_,_,rfl,rfl,⟨dr,dr,dr,dr,dr,dr,dr,⟨rfl,rfl,rfl⟩,⟨rfl,rfl,rfl,(de_app dr dr)⟩,trivial⟩⟩⟩)⟩)))) (.ret .normal ⟨[(0,(.ptr 0 0))],[(0,(.cells (g27 a1++([(aI a2),(.arr 1 1 a3.length),(.ap 1 (a4.length+(a1.States.getD a0.toNat default).Entry.length) (appF a4.length (cF D.str a4) (cF D.str (a1.States.getD a0.toNat default).Entry)) (.tok 288 9))]:List AV)))),(1,(.arr 1 a3.length (cF dI a3)))],[288],384⟩ a3 ⟨rfl,(retO_of [(0,0),(1,1)] [(288,288)] 512 rfl (by kernel_rfl) (by kernel_rfl) trivial ⟨⟨_,_,rfl,rfl,⟨rfl,(de_keep dr)⟩⟩,⟨_,_,rfl,rfl,⟨dr,dr,dr,dr,dr,dr,dr,⟨rfl,rfl,rfl⟩,⟨rfl,rfl,rfl,(de_app dr dr)⟩,trivial⟩⟩⟩)⟩))))))
noncomputable def m103o0 (a0:Int) (a1:T27) (a2:Int) (a3:List Int) (a4:List (List UInt8)):Option ((List Int)):=(d103o0 a0 a1 a2 a3 a4).m
theorem po103o0 {a0:Int} {a1:T27} {a2:Int} {a3:List Int} {a4:List (List UInt8)} {r:(List Int)} (h:m103o0 a0 a1 a2 a3 a4=some r):ObjF Tryz.prog 103 [(.ptr 0 0),(aI a0)] [(1,(.arr 1 a3.length (cF dI a3))),(0,(.cells (g27 a1++([(aI a2),(.arr 1 1 a3.length),(.ap 1 a4.length (cF D.str a4) (.tok 0 9))]:List AV))))] [0] (q103o0 a0 a1 a2 a3 a4 r):=obj_jd (d103o0 a0 a1 a2 a3 a4) Tryz.func103 h
noncomputable abbrev z104o0_0 (a1:T27) (s1:Int×(List Int)×(List (List UInt8))):AV:=(.ap 1 (s1.2.2++(a1.States.getD s1.1.toNat default).Entry).length (cF D.str (s1.2.2++(a1.States.getD s1.1.toNat default).Entry)) (.tok 1280 9))
noncomputable abbrev z104o0_1 (a1:T27) (s1:Int×(List Int)×(List (List UInt8))):AV:=(.ap 1 (s1.2.2++(a1.States.getD s1.1.toNat default).Entry).length (cF D.str (s1.2.2++(a1.States.getD s1.1.toNat default).Entry)) (.tok 1136 9))
noncomputable abbrev z104o0_2 (a1:T27) (a2:Int) (a3:List Int) (s1:Int×(List Int)×(List (List UInt8))):Ob:=(.cells (g27 a1++([(aI a2),(.arr 1 1 a3.length),(.ap 1 s1.2.2.length (cF D.str s1.2.2) (.tok 0 9))]:List AV)))
noncomputable def q104o0 (a0:Int) (a1:T27) (a2:Int) (a3:List Int) (a4:List (List UInt8)) (y:Int×(List Int)×(List (List UInt8))):OF:=⟨(.tup []),[(1,(.arr 1 a3.length (cF dI y.2.1))),(0,(.cells (g27 a1++([(aI y.1),(.arr 1 1 a3.length),(.ap 1 y.2.2.length (cF D.str y.2.2) (.tok 1280 9))]:List AV))))],[1280]⟩
noncomputable def o104o0_0 (a1:T27) (a2:Int) (a3:List Int) (s1:Int×(List Int)×(List (List UInt8))) (x:(List Int)):OT:=⟨(.tup []),[0,1],[0],[(1,(.arr 1 a3.length (cF dI x))),(0,(.cells (g27 a1++([(aI a2),(.arr 1 1 a3.length),(z104o0_0 a1 s1)]:List AV))))],[1280]⟩
noncomputable def o104o0_1 (a1:T27) (a2:Int) (a3:List Int) (s1:Int×(List Int)×(List (List UInt8))) (x:(List Int)):OT:=⟨(.tup []),[0,1],[0],[(1,(.arr 1 a3.length (cF dI x))),(0,(.cells (g27 a1++([(aI a2),(.arr 1 1 a3.length),(z104o0_1 a1 s1)]:List AV))))],[1136]⟩
noncomputable def d104o0 (a0:Int) (a1:T27) (a2:Int) (a3:List Int) (a4:List (List UInt8)):JO Tryz.prog Tryz.f104 [(.ptr 0 0),(aI a0)] [(1,(.arr 1 a3.length (cF dI a3))),(0,(.cells (g27 a1++([(aI a2),(.arr 1 1 a3.length),(.ap 1 a4.length (cF D.str a4) (.tok 0 9))]:List AV))))] [0] (q104o0 a0 a1 a2 a3 a4) :=
 (.bk (.lp (fun(s1:Int×(List Int)×(List (List UInt8)))=>⟨[(0,(.ptr 0 0)),(1,(aI s1.1))],[(1,(.arr 1 a3.length (cF dI s1.2.1))),(0,(z104o0_2 a1 a2 a3 s1))],[0],688⟩) (a0,a3,a4) (ws (idn [0,1]) [(0,0)] ⟨⟨_,_,rfl,rfl,⟨rfl,(de_keep dr)⟩⟩,⟨_,_,rfl,rfl,⟨dr,dr,dr,dr,dr,dr,dr,⟨rfl,rfl,rfl⟩,⟨rfl,rfl,rfl,dr⟩,trivial⟩⟩⟩) fun s1=>(.sg [(4,⟨(List Int),fun x=>[],fun x=>[(1280,(o104o0_0 a1 a2 a3 s1 x)),(1136,(o104o0_1 a1 a2 a3 s1 x))],[]⟩)] [(1,[0],[0,1]),(0,[0,1],[1,0])] (nd (0≤s1.1) (nd (s1.1 < (a1.States.length:Int)) (.needG (a1.States.getD s1.1.toNat default).History (0≤s1.1) inferInstance (.needG (a1.States.getD s1.1.toNat default).History (s1.1 < (a3.length:Int)) inferInstance (.needG (a1.States.getD s1.1.toNat default).History (s1.1.toNat < a3.length) inferInstance (.ite ((a1.States.getD s1.1.toNat default).History&&((s1.2.1.getD s1.1.toNat default) != (-1:Int))) (nd (0≤s1.1) (nd (s1.1 < (a3.length:Int)) (nd (s1.1.toNat < a3.length) (c3 (p:=fun x4=>ObjL Tryz.prog 103 [(.ptr 0 0),(aI s1.1)] [(0,some (z104o0_2 a1 a2 a3 s1)),(1,some (.arr 1 a3.length (cF dI s1.2.1)))] 1280 (o104o0_0 a1 a2 a3 s1 x4)) (fun x4 (h1:m103o0 s1.1 a1 a2 (subL s1.2.1 0 a3.length) s1.2.2=some _)=>objL_of (po103o0 h1) [(0,0),(1,1)] [(0,0)] [(0,0),(1,1)] [(1280,288)] (by kernel_rfl) ⟨⟨rfl,rfl⟩,dr,trivial⟩ ⟨⟨_,_,rfl,rfl,⟨rfl,de_sub0⟩⟩,⟨_,_,rfl,rfl,⟨dr,dr,dr,dr,dr,dr,dr,⟨rfl,rfl,(len_of (sz:=1) (e:=dI) (f:=(cF dI s1.2.1)) (l:=(subL s1.2.1 0 a3.length)) de_sub0)⟩,⟨rfl,rfl,rfl,dr⟩,trivial⟩⟩⟩ (by kernel_rfl) trivial ⟨⟨_,_,rfl,rfl,⟨rfl,(de_len (Eq.symm (len_of (sz:=1) (e:=dI) (f:=(cF dI s1.2.1)) (l:=(subL s1.2.1 0 a3.length)) de_sub0)))⟩⟩,⟨_,_,rfl,rfl,⟨dr,dr,dr,dr,dr,dr,dr,⟨rfl,rfl,(Eq.symm (len_of (sz:=1) (e:=dI) (f:=(cF dI s1.2.1)) (l:=(subL s1.2.1 0 a3.length)) de_sub0))⟩,⟨rfl,rfl,rfl,dr⟩,trivial⟩⟩⟩) fun x4=>(.ite ((s1.2.1.getD s1.1.toNat default)==(-1:Int)) (.ret .ret ⟨[(0,(.ptr 0 0))],[(0,(.cells (g27 a1++([(aI s1.1),(.arr 1 1 a3.length),(z104o0_0 a1 s1)]:List AV)))),(1,(.arr 1 a3.length (cF dI x4)))],[1280],1424⟩ (.inr ((s1.1,x4,(s1.2.2++(a1.States.getD s1.1.toNat default).Entry)))) ⟨rfl,rfl,(rk (idn [0,1]) [(1280,1280)] 1424)⟩) (.ret .normal ⟨[(0,(.ptr 0 0)),(1,(aI (s1.2.1.getD s1.1.toNat default)))],[(1,(.arr 1 a3.length (cF dI x4))),(0,(.cells (g27 a1++([(aI a2),(.arr 1 1 a3.length),(z104o0_0 a1 s1)]:List AV))))],[1280],1360⟩ (.inl ((s1.2.1.getD s1.1.toNat default),x4,(s1.2.2++(a1.States.getD s1.1.toNat default).Entry))) ⟨rfl,(wk (idn [0,1]) [(0,1280)])⟩)))))) (c3 (p:=fun x4=>ObjL Tryz.prog 103 [(.ptr 0 0),(aI s1.1)] [(0,some (z104o0_2 a1 a2 a3 s1)),(1,some (.arr 1 a3.length (cF dI s1.2.1)))] 1136 (o104o0_1 a1 a2 a3 s1 x4)) (fun x4 (h1:m103o0 s1.1 a1 a2 (subL s1.2.1 0 a3.length) s1.2.2=some _)=>objL_of (po103o0 h1) [(0,0),(1,1)] [(0,0)] [(0,0),(1,1)] [(1136,288)] (by kernel_rfl) ⟨⟨rfl,rfl⟩,dr,trivial⟩ ⟨⟨_,_,rfl,rfl,⟨rfl,de_sub0⟩⟩,⟨_,_,rfl,rfl,⟨dr,dr,dr,dr,dr,dr,dr,⟨rfl,rfl,(len_of (sz:=1) (e:=dI) (f:=(cF dI s1.2.1)) (l:=(subL s1.2.1 0 a3.length)) de_sub0)⟩,⟨rfl,rfl,rfl,dr⟩,trivial⟩⟩⟩ (by kernel_rfl) trivial ⟨⟨_,_,rfl,rfl,⟨rfl,(de_len (Eq.symm (len_of (sz:=1) (e:=dI) (f:=(cF dI s1.2.1)) (l:=(subL s1.2.1 0 a3.length)) de_sub0)))⟩⟩,⟨_,_,rfl,rfl,⟨dr,dr,dr,dr,dr,dr,dr,⟨rfl,rfl,(Eq.symm (len_of (sz:=1) (e:=dI) (f:=(cF dI s1.2.1)) (l:=(subL s1.2.1 0 a3.length)) de_sub0))⟩,⟨rfl,rfl,rfl,dr⟩,trivial⟩⟩⟩) fun x4=>(.ite ((a1.States.getD s1.1.toNat default).Initial==(-1:Int)) (.ret .ret ⟨[(0,(.ptr 0 0))],[(0,(.cells (g27 a1++([(aI s1.1),(.arr 1 1 a3.length),(z104o0_1 a1 s1)]:List AV)))),(1,(.arr 1 a3.length (cF dI x4)))],[1136],1280⟩ (.inr ((s1.1,x4,(s1.2.2++(a1.States.getD s1.1.toNat default).Entry)))) ⟨rfl,rfl,(rk (idn [0,1]) [(1280,1136)] 1424)⟩) (.ret .normal ⟨[(0,(.ptr 0 0)),(1,(aI (a1.States.getD s1.1.toNat default).Initial))],[(1,(.arr 1 a3.length (cF dI x4))),(0,(.cells (g27 a1++([(aI a2),(.arr 1 1 a3.length),(z104o0_1 a1 s1)]:List AV))))],[1136],1216⟩ (.inl ((a1.States.getD s1.1.toNat default).Initial,x4,(s1.2.2++(a1.States.getD s1.1.toNat default).Entry))) ⟨rfl,(wk (idn [0,1]) [(0,1136)])⟩))))))))))))
noncomputable def m104o0 (a0:Int) (a1:T27) (a2:Int) (a3:List Int) (a4:List (List UInt8)):Option (Int×(List Int)×(List (List UInt8))):=(d104o0 a0 a1 a2 a3 a4).m
theorem po104o0 {a0:Int} {a1:T27} {a2:Int} {a3:List Int} {a4:List (List UInt8)} {r:Int×(List Int)×(List (List UInt8))} (h:m104o0 a0 a1 a2 a3 a4=some r):ObjF Tryz.prog 104 [(.ptr 0 0),(aI a0)] [(1,(.arr 1 a3.length (cF dI a3))),(0,(.cells (g27 a1++([(aI a2),(.arr 1 1 a3.length),(.ap 1 a4.length (cF D.str a4) (.tok 0 9))]:List AV))))] [0] (q104o0 a0 a1 a2 a3 a4 r):=obj_jd (d104o0 a0 a1 a2 a3 a4) Tryz.func104 h
noncomputable abbrev z56o0_0 (a2:T27) (a3:Int) (a4:List Int) (a5:List (List UInt8)):Ob:=(.cells (g27 a2++([(aI a3),(.arr 1 1 a4.length),(.ap 1 a5.length (cF D.str a5) (.tok 0 9))]:List AV)))
noncomputable def q56o0 (a0 a1:Int) (a2:T27) (a3:Int) (a4:List Int) (a5:List (List UInt8)) (y:Int×(List Int)×(List (List UInt8))):OF:=⟨(.tup []),[(1,(.arr 1 a4.length (cF dI y.2.1))),(0,(.cells (g27 a2++([(aI y.1),(.arr 1 1 a4.length),(.ap 1 y.2.2.length (cF D.str y.2.2) (.tok 384 9))]:List AV))))],[384]⟩
noncomputable def o56o0_0 (y3:(List Int)) (x:Unit):OT:=⟨(.fn 137 [(.ptr 336 0)]),[],[],[(336,(.cells [(.d (eSl 1 dI y3))]))],[]⟩
noncomputable def o56o0_1 (a2:T27) (a4:List Int) (x:(Int×(List Int)×(List (List UInt8)))):OT:=⟨(.tup []),[0,1],[0],[(1,(.arr 1 a4.length (cF dI x.2.1))),(0,(.cells (g27 a2++([(aI x.1),(.arr 1 1 a4.length),(.ap 1 x.2.2.length (cF D.str x.2.2) (.tok 384 9))]:List AV))))],[384]⟩
noncomputable def s56o0_0 (a0 a1:Int) (a2:T27) (a3:Int) (a4:List Int) (a5:List (List UInt8)) (y:Unit):St:=⟨[(0,(.ptr 0 0)),(1,(aI a0)),(2,(aI a1)),(3,(.ptr 16 0))],[(1,(.arr 1 a4.length (cF dI a4))),(0,(z56o0_0 a2 a3 a4 a5)),(16,(.cells [(.ptr 0 0)]))],[0],32⟩
noncomputable def s56o0_1 (a0 a1:Int) (a2:T27) (a3:Int) (a4:List Int) (a5:List (List UInt8)) (y:(List Int)):St:=⟨[(0,(.ptr 0 0)),(1,(aI a0)),(2,(aI a1)),(3,(.ptr 16 0)),(6,(.d (eSl 1 dI y)))],[(1,(.arr 1 a4.length (cF dI a4))),(0,(z56o0_0 a2 a3 a4 a5)),(16,(.cells [(.ptr 0 0)]))],[0],160⟩
noncomputable def s56o0_2 (a0 a1:Int) (a2:T27) (a3:Int) (a4:List Int) (a5:List (List UInt8)) (y2:(List Int)) (y:(List Int)):St:=⟨[(0,(.ptr 0 0)),(1,(aI a0)),(3,(.ptr 16 0)),(6,(.d (eSl 1 dI y)))],[(1,(.arr 1 a4.length (cF dI a4))),(0,(z56o0_0 a2 a3 a4 a5)),(16,(.cells [(.ptr 0 0)]))],[0],320⟩
noncomputable def s56o0_3 (a0 a1:Int) (a2:T27) (a3:Int) (a4:List Int) (a5:List (List UInt8)) (y2 y3:(List Int)) (y:Unit):St:=⟨[(0,(.ptr 0 0)),(1,(aI a0)),(3,(.ptr 16 0)),(26,(.fn 137 [(.ptr 336 0)]))],[(1,(.arr 1 a4.length (cF dI a4))),(0,(z56o0_0 a2 a3 a4 a5)),(16,(.cells [(.ptr 0 0)])),(336,(.cells [(.d (eSl 1 dI y3))]))],[0],352⟩
noncomputable def h56o0_6 (a0 a1:Int) (a2:T27) (a3:Int) (a4:List Int) (a5:List (List UInt8)) (y2 y3:(List Int)) (y:(List Int)×(List (List UInt8))):St:=⟨[(0,(.ptr 0 0)),(1,(aI a0)),(3,(.ptr 16 0))],[(1,(.arr 1 a4.length (cF dI y.1))),(0,(.cells (g27 a2++([(aI a3),(.arr 1 1 a4.length),(.ap 1 y.2.length (cF D.str y.2) (.tok 0 9))]:List AV)))),(16,(.cells [(.ptr 0 0)]))],[0],352⟩
noncomputable def d56o0_0 (a0 a1:Int) (a2:T27) (a3:Int) (a4:List Int) (a5:List (List UInt8)):JD Tryz.prog 35 (sub (body Tryz.f56) [0]) ⟨argA 0 [(.ptr 0 0),(aI a0),(aI a1)],[(1,(.arr 1 a4.length (cF dI a4))),(0,(z56o0_0 a2 a3 a4 a5))],[0],16⟩ (fun y=>go (s56o0_0 a0 a1 a2 a3 a4 a5 y)) :=
 (.sg [] [(0,[0,1,2,3],[1,0,16])] (.ret .normal _ () ⟨rfl,Weak.refl _⟩))
noncomputable def d56o0_1 (a0 a1:Int) (a2:T27) (a3:Int) (a4:List Int) (a5:List (List UInt8)):JD Tryz.prog 35 (sub (body Tryz.f56) [1,0]) (s56o0_0 a0 a1 a2 a3 a4 a5 ()) (fun y=>go (s56o0_1 a0 a1 a2 a3 a4 a5 y)) :=
 (.sg [(1,tm1 15 (eSl 1 dI))] [(0,[0,1,2,3,6],[1,0,16])] (.exi ((List Int)) ((m70 a2 a0).bind fun r1_0=>(if(0:Int)≤(1:Int)then(if 1≤(r1_0.length:Int)then some r1_0 else none)else none)) (fun x1=>(.p (PureAt Tryz.prog 70 [(e27 a2),(dI a0)] (eSl 1 dI x1)) (.p ((0:Int)≤(1:Int)) (.p (1≤(x1.length:Int)) (.fin 0))))) (by intro x1 h;obtain⟨r1_0,h1,h⟩:=Option.bind_eq_some_iff.1 h;obtain⟨h2,h⟩:=if_some h;obtain⟨h3,h⟩:=if_some h;cases h;exact⟨p70 h1,h2,h3,trivial⟩) (fun x1 _=>(.ret .normal ⟨[(0,(.ptr 0 0)),(1,(aI a0)),(2,(aI a1)),(3,(.ptr 16 0)),(6,(.d (.sl 1 (x1.length - (1:Int).toNat) (fun i=>cF dI x1 ((1:Int).toNat+i)))))],[(1,(.arr 1 a4.length (cF dI a4))),(0,(z56o0_0 a2 a3 a4 a5)),(16,(.cells [(.ptr 0 0)]))],[0],160⟩ (subL x1 (1:Int).toNat (x1.length - (1:Int).toNat)) ⟨rfl,(wh (idn [0,16,1]) [(0,0)] ⟨⟨rfl,rfl⟩,dr,dr,⟨rfl,rfl⟩,de_sub⟩)⟩))))
noncomputable def d56o0_2 (a0 a1:Int) (a2:T27) (a3:Int) (a4:List Int) (a5:List (List UInt8)) (y2:(List Int)):JD Tryz.prog 35 (sub (body Tryz.f56) [1,1,0]) (s56o0_1 a0 a1 a2 a3 a4 a5 y2) (fun y=>go (s56o0_2 a0 a1 a2 a3 a4 a5 y2 y)) :=
 (.sg [(2,tm1 19 dI)] [(0,[0,1,3,6],[1,0,16])] (c3 (@p101 y2 a1) fun x2=>(.ite (decide (0≤x2)) (nd (0≤x2) (nd (x2≤(y2.length:Int)) (.ret .normal ⟨[(0,(.ptr 0 0)),(1,(aI a0)),(3,(.ptr 16 0)),(6,(.d (.sl 1 x2.toNat (cF dI y2))))],[(1,(.arr 1 a4.length (cF dI a4))),(0,(z56o0_0 a2 a3 a4 a5)),(16,(.cells [(.ptr 0 0)]))],[0],320⟩ (subL y2 0 x2.toNat) ⟨rfl,(wh (idn [0,16,1]) [(0,0)] ⟨⟨rfl,rfl⟩,dr,⟨rfl,rfl⟩,de_sub0⟩)⟩))) (.ret .normal ⟨[(0,(.ptr 0 0)),(1,(aI a0)),(3,(.ptr 16 0)),(6,(.d (eSl 1 dI y2)))],[(1,(.arr 1 a4.length (cF dI a4))),(0,(z56o0_0 a2 a3 a4 a5)),(16,(.cells [(.ptr 0 0)]))],[0],256⟩ y2 ⟨rfl,(wk (idn [0,16,1]) [(0,0)])⟩))))
noncomputable def d56o0_3 (a0 a1:Int) (a2:T27) (a3:Int) (a4:List Int) (a5:List (List UInt8)) (y2 y3:(List Int)):JD Tryz.prog 35 (sub (body Tryz.f56) [1,1,1,0,0]) (s56o0_2 a0 a1 a2 a3 a4 a5 y2 y3) (fun y=>go (s56o0_3 a0 a1 a2 a3 a4 a5 y2 y3 y)) :=
 (.sg [(5,⟨Unit,fun x=>[],fun x=>[(336,(o56o0_0 y3 x))],[]⟩)] [(0,[0,1,3,26],[1,0,16,336])] (c3 (p:=fun x5=>ObjL Tryz.prog 102 [(.d (eSl 1 dI y3))] [] 336 (o56o0_0 y3 x5)) (fun x5 (h1:m102o0 y3=some _)=>ok [] [] [(336,16)] [] (po102o0 h1)) fun x5=>(.ret .normal _ () ⟨rfl,Weak.refl _⟩)))
noncomputable def d56o0_p (a0 a1:Int) (a2:T27) (a3:Int) (a4:List Int) (a5:List (List UInt8)) (y2 y3:(List Int)) (s5:(List Int)×(List (List UInt8))):JD Tryz.prog 35 (sub (body Tryz.f56) [1,1,1,1]) (h56o0_6 a0 a1 a2 a3 a4 a5 y2 y3 s5) (fun r ex st=>isN ex=true∧RetO Tryz.prog Tryz.f56.results.toList st (q56o0 a0 a1 a2 a3 a4 a5 r)) :=
 (.sg [(8,⟨(Int×(List Int)×(List (List UInt8))),fun x=>[],fun x=>[(384,(o56o0_1 a2 a4 x))],[]⟩)] [(0,[0],[0,1])] (c3 (p:=fun x8=>ObjL Tryz.prog 104 [(.ptr 0 0),(aI a0)] [(0,some (.cells (g27 a2++([(aI a3),(.arr 1 1 a4.length),(.ap 1 s5.2.length (cF D.str s5.2) (.tok 0 9))]:List AV)))),(1,some (.arr 1 a4.length (cF dI s5.1)))] 384 (o56o0_1 a2 a4 x8)) (fun x8 (h1:m104o0 a0 a2 a3 (subL s5.1 0 a4.length) s5.2=some _)=>objL_of (po104o0 h1) [(0,0),(1,1)] [(0,0)] [(0,0),(1,1)] [(384,1280)] (by kernel_rfl) ⟨⟨rfl,rfl⟩,dr,trivial⟩ ⟨⟨_,_,rfl,rfl,⟨rfl,de_sub0⟩⟩,⟨_,_,rfl,rfl,⟨dr,dr,dr,dr,dr,dr,dr,⟨rfl,rfl,(len_of (sz:=1) (e:=dI) (f:=(cF dI s5.1)) (l:=(subL s5.1 0 a4.length)) de_sub0)⟩,⟨rfl,rfl,rfl,dr⟩,trivial⟩⟩⟩ (by kernel_rfl) trivial ⟨⟨_,_,rfl,rfl,⟨rfl,(de_len (Eq.symm (len_of (sz:=1) (e:=dI) (f:=(cF dI s5.1)) (l:=(subL s5.1 0 a4.length)) de_sub0)))⟩⟩,⟨_,_,rfl,rfl,⟨dr,dr,dr,dr,dr,dr,dr,⟨rfl,rfl,(Eq.symm (len_of (sz:=1) (e:=dI) (f:=(cF dI s5.1)) (l:=(subL s5.1 0 a4.length)) de_sub0))⟩,⟨rfl,rfl,rfl,dr⟩,trivial⟩⟩⟩) fun x8=>(.ret .normal ⟨[(0,(.ptr 0 0))],[(0,(.cells (g27 a2++([(aI x8.1),(.arr 1 1 a4.length),(.ap 1 x8.2.2.length (cF D.str x8.2.2) (.tok 384 9))]:List AV)))),(1,(.arr 1 a4.length (cF dI x8.2.1)))],[384],400⟩ (x8.1,x8.2.1,x8.2.2) ⟨rfl,(rk (idn [0,1]) [(384,384)] 400)⟩)))
noncomputable def mr56o0 (a0 a1:Int) (a2:T27) (a3:Int) (a4:List Int) (a5:List (List UInt8)) (y2 y3:(List Int)) (s5:(List Int)×(List (List UInt8))) (i:Nat):Option ((List Int)×(List (List UInt8))):=(m103o0 (y3.getD i 0) a2 a3 (subL s5.1 0 a4.length) s5.2).map fun r=>(r,(s5.2++(a2.States.getD (y3.getD i 0).toNat default).Entry))
noncomputable def m56o0 (a0 a1:Int) (a2:T27) (a3:Int) (a4:List Int) (a5:List (List UInt8)):Option (Int×(List Int)×(List (List UInt8))):=((d56o0_0 a0 a1 a2 a3 a4 a5).m).bind fun y1=>((d56o0_1 a0 a1 a2 a3 a4 a5).m).bind fun y2=>((d56o0_2 a0 a1 a2 a3 a4 a5 y2).m).bind fun y3=>((d56o0_3 a0 a1 a2 a3 a4 a5 y2 y3).m).bind fun y4=>if y3.length < 4611686018427387904 then((dn y3.length y3.length).foldlM (mr56o0 a0 a1 a2 a3 a4 a5 y2 y3) (a4,a5)).bind fun s5=>(d56o0_p a0 a1 a2 a3 a4 a5 y2 y3 s5).m else none
theorem po56o0 {a0:Int} {a1:Int} {a2:T27} {a3:Int} {a4:List Int} {a5:List (List UInt8)} {r:Int×(List Int)×(List (List UInt8))} (h:m56o0 a0 a1 a2 a3 a4 a5=some r):ObjF Tryz.prog 56 [(.ptr 0 0),(aI a0),(aI a1)] [(1,(.arr 1 a4.length (cF dI a4))),(0,(z56o0_0 a2 a3 a4 a5))] [0] (q56o0 a0 a1 a2 a3 a4 a5 r):=by
 refine obj_range (c:=body Tryz.f56) (p0:=(sub (body Tryz.f56) [0])) (p1:=(sub (body Tryz.f56) [1,0])) (p2:=(sub (body Tryz.f56) [1,1,0])) (p3:=(sub (body Tryz.f56) [1,1,1,0,0])) (asg:=rfAsg (sub (body Tryz.f56) [1,1,1,0,1,0])) (bod:=rfBod (sub (body Tryz.f56) [1,1,1,0,1,0])) (post:=(sub (body Tryz.f56) [1,1,1,1])) (bi:=0) (g:=26) (ps:=#[27,28]) (fB:=137) (bx:=336) (nx:=352) (ids:=[0,16])
  Tryz.func56 (by kernel_rfl) (by decide) (Nat.le_of_ble_eq_true rfl) (by kernel_rfl) rfl (by kernel_rfl)
  (m0:=(d56o0_0 a0 a1 a2 a3 a4 a5).m) (st1:=fun y1=>s56o0_0 a0 a1 a2 a3 a4 a5 y1) (fun V=>(d56o0_0 a0 a1 a2 a3 a4 a5).j V) (m1:=fun y1=>(d56o0_1 a0 a1 a2 a3 a4 a5).m) (st2:=fun y1 y2=>s56o0_1 a0 a1 a2 a3 a4 a5 y2) (fun V y1=>(d56o0_1 a0 a1 a2 a3 a4 a5).j V) (m2:=fun y1 y2=>(d56o0_2 a0 a1 a2 a3 a4 a5 y2).m) (st3:=fun y1 y2 y3=>s56o0_2 a0 a1 a2 a3 a4 a5 y2 y3) (fun V y1 y2=>(d56o0_2 a0 a1 a2 a3 a4 a5 y2).j V) (m3:=fun y1 y2 y3=>(d56o0_3 a0 a1 a2 a3 a4 a5 y2 y3).m) (sp:=fun y1 y2 y3 y4=>s56o0_3 a0 a1 a2 a3 a4 a5 y2 y3 y4) (fun V y1 y2 y3=>(d56o0_3 a0 a1 a2 a3 a4 a5 y2 y3).j V)
  (fun y1 y2 y3 y4 s5=>h56o0_6 a0 a1 a2 a3 a4 a5 y2 y3 s5) (fun y1 y2 y3 y4=>y3) (fun y1 y2 y3 y4=>(a4,a5)) (fun y1 y2 y3 y4=>mr56o0 a0 a1 a2 a3 a4 a5 y2 y3) (mpost:=fun y1 y2 y3 y4 s5=>(d56o0_p a0 a1 a2 a3 a4 a5 y2 y3 s5).m) (en:=q56o0 a0 a1 a2 a3 a4 a5) (φ:=fun _ _ _ _ _ r=>r) (fr:=fun y1 y2 y3 y4=>[(0,(.ptr 0 0)),(1,(aI a0)),(3,(.ptr 16 0))])
  back_stops ⟨_,Tryz.func137,by kernel_rfl,by decide⟩ (fun _ _ _ _ _=>rfl) (fun _ _ _ _ _=>rfl) (fun _ _ _ _=>by kernel_rfl) (fun _ _ _ _ _=>noMap_of (by kernel_rfl)) ?hround
  (fun _ _ _ _=>rfl) (fun _ _ _ _=>rfl) (fun _ _ _ _=>hst_of (by exact⟨rfl,rfl,rfl⟩) (by kernel_rfl)) (fun _ _ _ _=>rfl) (fun _ _ _ _=>rfl) (fun _ _ _ _=>fr0_of (by exact⟨rfl,rfl,rfl⟩)) (fun V y1 y2 y3 y4 s5=>(d56o0_p a0 a1 a2 a3 a4 a5 y2 y3 s5).j V) (fun _=>noMap_of (by kernel_rfl)) (by
   have e:∀ {α:Type} (o:Option α),o.map (fun r=>r)=o:=fun o=>by cases o<;>rfl
   simp only[e];exact h)
 case hround =>
  intro y1 y2 y3 y4 s5 i s' h hi
  obtain⟨r,h1,rfl⟩:=Option.map_eq_some_iff.1 h
  exact round_call (asg:=rfAsg (sub (body Tryz.f56) [1,1,1,0,1,0])) (bod:=rfBod (sub (body Tryz.f56) [1,1,1,0,1,0])) (oa:=(opN (rfAsg (sub (body Tryz.f56) [1,1,1,0,1,0])) 0)) (o1:=(opN (rfBod (sub (body Tryz.f56) [1,1,1,0,1,0])) 0)) (o2:=(opN (rfBod (sub (body Tryz.f56) [1,1,1,0,1,0])) 1)) (o3:=(opN (rfBod (sub (body Tryz.f56) [1,1,1,0,1,0])) 2)) (ia:=6) (ib:=1) (ir:=7) (tp:=27) (tq:=28) (td:=9) (t3:=3) (d1:=29) (d2:=30) (T:=119) (fp:=103) (st:=(h56o0_6 a0 a1 a2 a3 a4 a5 y2 y3 s5)) (st':=(h56o0_6 a0 a1 a2 a3 a4 a5 y2 y3 (r,(s5.2++(a2.States.getD (y3.getD i 0).toNat default).Entry)))) (bi:=16) (rid:=0) (t:=⟨(.tup []),[0,1],[0],[(1,(.arr 1 a4.length (cF dI r))),(0,(.cells (g27 a2++([(aI a3),(.arr 1 1 a4.length),(.ap 1 (s5.2++(a2.States.getD (y3.getD i 0).toNat default).Entry).length (cF D.str (s5.2++(a2.States.getD (y3.getD i 0).toNat default).Entry)) (.tok 384 9))]:List AV))))],[384]⟩) (cid:=384) (by kernel_rfl) (by kernel_rfl) (by kernel_rfl) (by kernel_rfl) (by kernel_rfl) (by kernel_rfl) (by kernel_rfl) (by kernel_rfl) (by kernel_rfl) (by kernel_rfl) (by kernel_rfl) (ats:=#[119,3]) (by kernel_rfl) (by kernel_rfl) (hT:=Tryz.underlying119) (by kernel_rfl) (by kernel_rfl) (by kernel_rfl) (objL_of (xs:=[.ptr 0 0,.d (.int .i64 (y3.getD i 0))]) (hl:=[(0,some (.cells (g27 a2++([(aI a3),(.arr 1 1 a4.length),(.ap 1 s5.2.length (cF D.str s5.2) (.tok 0 9))]:List AV)))),(1,some (.arr 1 a4.length (cF dI s5.1)))]) (id:=384) (t:=⟨(.tup []),[0,1],[0],[(1,(.arr 1 a4.length (cF dI r))),(0,(.cells (g27 a2++([(aI a3),(.arr 1 1 a4.length),(.ap 1 (s5.2++(a2.States.getD (y3.getD i 0).toNat default).Entry).length (cF D.str (s5.2++(a2.States.getD (y3.getD i 0).toNat default).Entry)) (.tok 384 9))]:List AV))))],[384]⟩) (po103o0 h1) [(0,0),(1,1)] [(0,0)] [(0,0),(1,1)] [(384,288)] (by kernel_rfl) ⟨⟨rfl,rfl⟩,dr,trivial⟩ ⟨⟨_,_,rfl,rfl,⟨rfl,de_sub0⟩⟩,⟨_,_,rfl,rfl,⟨dr,dr,dr,dr,dr,dr,dr,⟨rfl,rfl,(len_of (sz:=1) (e:=dI) (f:=(cF dI s5.1)) (l:=(subL s5.1 0 a4.length)) de_sub0)⟩,⟨rfl,rfl,rfl,dr⟩,trivial⟩⟩⟩ (by kernel_rfl) trivial ⟨⟨_,_,rfl,rfl,⟨rfl,(de_len (Eq.symm (len_of (sz:=1) (e:=dI) (f:=(cF dI s5.1)) (l:=(subL s5.1 0 a4.length)) de_sub0)))⟩⟩,⟨_,_,rfl,rfl,⟨dr,dr,dr,dr,dr,dr,dr,⟨rfl,rfl,(Eq.symm (len_of (sz:=1) (e:=dI) (f:=(cF dI s5.1)) (l:=(subL s5.1 0 a4.length)) de_sub0))⟩,⟨rfl,rfl,rfl,dr⟩,trivial⟩⟩⟩) (by kernel_rfl) (by exact⟨rfl,rfl,trivial⟩) (by kernel_rfl) [(0,0),(16,16),(1,1)] [(0,384)] (by kernel_rfl) (by kernel_rfl) (by kernel_rfl) (by kernel_rfl) (by kernel_rfl) (by exact⟨⟨_,_,rfl,rfl,⟨rfl,dr⟩⟩,⟨_,_,rfl,rfl,⟨dr,dr,dr,dr,dr,dr,dr,⟨rfl,rfl,rfl⟩,⟨rfl,rfl,rfl,dr⟩,trivial⟩⟩,⟨_,_,rfl,rfl,⟨⟨rfl,rfl⟩,trivial⟩⟩⟩)
noncomputable def E58 (r:T41×(List (List UInt8))×Int):D:=(.tup [(e41 r.1),(eSl 1 D.str r.2.1),(dI r.2.2)])
noncomputable def o58_0 (a0:T27) (a1:T41) (x:Unit):OT:=⟨(.ptr 657 0),[],[],[(656,(.arr 1 (a1.Memory.length:Int).toNat (fun i=>if i < a1.Memory.length then(cF dI a1.Memory) i else(fun _=>(dI 0)) i))),(657,(.cells (g27 a0++([(aI a1.Leaf),(.arr 656 1 (a1.Memory.length:Int).toNat),aN]:List AV))))],[]⟩
noncomputable def o58_1 (a0:T27) (a1:T41) (x:((List Int)×(List (List UInt8)))):OT:=⟨(.tup []),[657,656],[],[(656,(.arr 1 (a1.Memory.length:Int).toNat (cF dI x.1))),(657,(.cells (g27 a0++([(aI a1.Leaf),(.arr 656 1 (a1.Memory.length:Int).toNat),(.ap 1 x.2.length (cF D.str x.2) (.tok 832 9))]:List AV))))],[832]⟩
noncomputable def o58_2 (a0:T27) (a1:T41) (x:(Int×(List Int)×(List (List UInt8)))):OT:=⟨(.tup []),[657,656],[960],[(656,(.arr 1 (a1.Memory.length:Int).toNat (cF dI x.2.1))),(657,(.cells (g27 a0++([(aI x.1),(.arr 656 1 (a1.Memory.length:Int).toNat),(.ap 1 x.2.2.length (cF D.str x.2.2) (.tok 1088 9))]:List AV))))],[1088]⟩
noncomputable def d58 (a0:T27) (a1:T41) (a2:Int):JF Tryz.prog Tryz.f58 [(e27 a0),(e41 a1),(dI a2)] E58 :=
 (.sg [(1,tm1 14 dI),(4,tm1 21 D.bool),(9,⟨(List Int)×Bool,fun x=>[(42,(eSl 1 dI x.1)),(45,(.bool x.2))],fun x=>[],[]⟩),(11,⟨Unit,fun x=>[],fun x=>[(656,(o58_0 a0 a1 x))],[]⟩),(12,tm1 56 dI),(13,⟨((List Int)×(List (List UInt8))),fun x=>[],fun x=>[(832,(o58_1 a0 a1 x))],[]⟩),(15,⟨(Int×(List Int)×(List (List UInt8))),fun x=>[],fun x=>[(1088,(o58_2 a0 a1 x))],[]⟩)] [(1,[6,7,8],[48,656])] (c3 (@p35 a0) fun x1=>(.ite (x1 != 0) (.ret .ret ⟨[(6,(.ptr 48 0)),(7,aN),(8,(aI x1))],[(48,(.cells [(aI 0),aN]))],[],256⟩ ((⟨(0:Int),[]⟩:T41),[],x1) ⟨rfl,_,Weak.refl _,⟨⟨dr,de_nil,trivial⟩,de_nil,dr,trivial⟩⟩) (c3 (@p57 a0 a1) fun x4=>(.ite (!x4) (.ret .ret ⟨[(6,(.ptr 48 0)),(7,aN),(8,(aI 8))],[(48,(.cells [(aI 0),aN]))],[],304⟩ ((⟨(0:Int),[]⟩:T41),[],(8:Int)) ⟨rfl,_,Weak.refl _,⟨⟨dr,de_nil,trivial⟩,de_nil,dr,trivial⟩⟩) (.ite ((decide (a2 < 0)) || (decide ((a0.Transitions.length:Int)≤a2))) (.ret .ret ⟨[(6,(.ptr 48 0)),(7,aN),(8,(aI 2))],[(48,(.cells [(aI 0),aN]))],[],448⟩ ((⟨(0:Int),[]⟩:T41),[],(2:Int)) ⟨rfl,_,Weak.refl _,⟨⟨dr,de_nil,trivial⟩,de_nil,dr,trivial⟩⟩) (nd (0≤a2) (nd (a2 < (a0.Transitions.length:Int)) (.exi ((List Int)×Bool) ((m70 a0 a1.Leaf).bind fun r9_0=>((m71 r9_0 (a0.Transitions.getD a2.toNat default).From).bind fun r9_1=>some (r9_0,r9_1))) (fun x9=>(.p (PureAt Tryz.prog 70 [(e27 a0),(dI a1.Leaf)] (eSl 1 dI x9.1)) (.p (PureAt Tryz.prog 71 [(eSl 1 dI x9.1),(dI (a0.Transitions.getD a2.toNat default).From)] (.bool x9.2)) (.fin 0)))) (by intro x9 h;obtain⟨r9_0,h1,h⟩:=Option.bind_eq_some_iff.1 h;obtain⟨r9_1,h2,h⟩:=Option.bind_eq_some_iff.1 h;cases h;exact⟨p70 h1,p71 h2,trivial⟩) (fun x9 _=>(.ite (!x9.2) (.ret .ret ⟨[(6,(.ptr 48 0)),(7,aN),(8,(aI 9))],[(48,(.cells [(aI 0),aN]))],[],688⟩ ((⟨(0:Int),[]⟩:T41),[],(9:Int)) ⟨rfl,_,Weak.refl _,⟨⟨dr,de_nil,trivial⟩,de_nil,dr,trivial⟩⟩) (c3 (p:=fun x11=>ObjL Tryz.prog 54 [(.d (e27 a0)),(.d (e41 a1))] [] 656 (o58_0 a0 a1 x11)) (fun x11 (h1:m54o0 a0 a1=some _)=>ok [] [] [(656,112),(657,304)] [] (po54o0 h1)) fun x11=>(c3 (@p106 a0 (a0.Transitions.getD a2.toNat default).From (a0.Transitions.getD a2.toNat default).To) fun x12=>(c3 (p:=fun x13=>ObjL Tryz.prog 107 [(.ptr 657 0),(aI x12)] [(657,some (.cells (g27 a0++([(aI a1.Leaf),(.arr 656 1 (a1.Memory.length:Int).toNat),aN]:List AV)))),(656,some (.arr 1 (a1.Memory.length:Int).toNat (fun i=>if i < a1.Memory.length then(cF dI a1.Memory) i else(fun _=>(dI 0)) i)))] 832 (o58_1 a0 a1 x13)) (fun x13 (h1:m107o0 x12 a0 a1.Leaf (copyL (List.replicate (a1.Memory.length:Int).toNat (0:Int)) a1.Memory) []=some _)=>objL_of (po107o0 h1) [(0,657),(1,656)] [] [(657,0),(656,1)] [(832,0)] (by kernel_rfl) ⟨⟨rfl,rfl⟩,dr,trivial⟩ ⟨⟨_,_,rfl,rfl,⟨rfl,(de_copy (z:=1) (sz':=1) de_rep dr)⟩⟩,⟨_,_,rfl,rfl,⟨dr,dr,dr,dr,dr,dr,dr,⟨rfl,rfl,(len_of (sz:=1) (e:=dI) (f:=(fun i=>if i < a1.Memory.length then(cF dI a1.Memory) i else(fun _=>(dI 0)) i)) (l:=(copyL (List.replicate (a1.Memory.length:Int).toNat (0:Int)) a1.Memory)) (de_copy (z:=1) (sz':=1) de_rep dr))⟩,rfl,trivial⟩⟩⟩ (by kernel_rfl) trivial ⟨⟨_,_,rfl,rfl,⟨rfl,(de_len (Eq.symm (len_of (sz:=1) (e:=dI) (f:=(fun i=>if i < a1.Memory.length then(cF dI a1.Memory) i else(fun _=>(dI 0)) i)) (l:=(copyL (List.replicate (a1.Memory.length:Int).toNat (0:Int)) a1.Memory)) (de_copy (z:=1) (sz':=1) de_rep dr))))⟩⟩,⟨_,_,rfl,rfl,⟨dr,dr,dr,dr,dr,dr,dr,⟨rfl,rfl,(Eq.symm (len_of (sz:=1) (e:=dI) (f:=(fun i=>if i < a1.Memory.length then(cF dI a1.Memory) i else(fun _=>(dI 0)) i)) (l:=(copyL (List.replicate (a1.Memory.length:Int).toNat (0:Int)) a1.Memory)) (de_copy (z:=1) (sz':=1) de_rep dr)))⟩,⟨rfl,rfl,rfl,dr⟩,trivial⟩⟩⟩) fun x13=>(nd ((x13.2.length+(a0.Transitions.getD a2.toNat default).Actions.length) * 16≤140737488355328) (c3 (p:=fun x15=>ObjL Tryz.prog 56 [(.ptr 657 0),(aI (a0.Transitions.getD a2.toNat default).To),(aI x12)] [(657,some (.cells (g27 a0++([(aI a1.Leaf),(.arr 656 1 (a1.Memory.length:Int).toNat),(.ap 1 (x13.2.length+(a0.Transitions.getD a2.toNat default).Actions.length) (appF x13.2.length (cF D.str x13.2) (cF D.str (a0.Transitions.getD a2.toNat default).Actions)) (.tok 960 9))]:List AV)))),(656,some (.arr 1 (a1.Memory.length:Int).toNat (cF dI x13.1)))] 1088 (o58_2 a0 a1 x15)) (fun x15 (h1:m56o0 (a0.Transitions.getD a2.toNat default).To x12 a0 a1.Leaf (subL x13.1 0 (a1.Memory.length:Int).toNat) (x13.2++(a0.Transitions.getD a2.toNat default).Actions)=some _)=>objL_of (po56o0 h1) [(0,657),(1,656)] [(0,960)] [(657,0),(656,1)] [(1088,384)] (by kernel_rfl) ⟨⟨rfl,rfl⟩,dr,dr,trivial⟩ ⟨⟨_,_,rfl,rfl,⟨rfl,de_sub0⟩⟩,⟨_,_,rfl,rfl,⟨dr,dr,dr,dr,dr,dr,dr,⟨rfl,rfl,(len_of (sz:=1) (e:=dI) (f:=(cF dI x13.1)) (l:=(subL x13.1 0 (a1.Memory.length:Int).toNat)) de_sub0)⟩,⟨rfl,rfl,rfl,(de_app dr dr)⟩,trivial⟩⟩⟩ (by kernel_rfl) trivial ⟨⟨_,_,rfl,rfl,⟨rfl,(de_len (Eq.symm (len_of (sz:=1) (e:=dI) (f:=(cF dI x13.1)) (l:=(subL x13.1 0 (a1.Memory.length:Int).toNat)) de_sub0)))⟩⟩,⟨_,_,rfl,rfl,⟨dr,dr,dr,dr,dr,dr,dr,⟨rfl,rfl,(Eq.symm (len_of (sz:=1) (e:=dI) (f:=(cF dI x13.1)) (l:=(subL x13.1 0 (a1.Memory.length:Int).toNat)) de_sub0))⟩,⟨rfl,rfl,rfl,dr⟩,trivial⟩⟩⟩) fun x15=>(.ret .ret ⟨[(6,(.ptr 48 0)),(7,(.ap 1 x15.2.2.length (cF D.str x15.2.2) (.tok 1088 9))),(8,(aI 0))],[(48,(.cells [(aI x15.1),(.arr 656 1 (a1.Memory.length:Int).toNat)])),(656,(.arr 1 (a1.Memory.length:Int).toNat (cF dI x15.2.1)))],[1088],1280⟩ ((⟨x15.1,(subL x15.2.1 0 (a1.Memory.length:Int).toNat)⟩:T41),x15.2.2,(0:Int)) ⟨rfl,_,(weak_frz (st':=⟨[(6,(.ptr 48 0)),(7,(.ap 1 x15.2.2.length (cF D.str x15.2.2) (.tok 1088 9))),(8,(aI 0))],[(48,(.cells [(aI x15.1),(.d (eSl 1 dI (subL x15.2.1 0 (a1.Memory.length:Int).toNat)))]))],[1088],1280⟩) [(656,1,(a1.Memory.length:Int).toNat,(cF dI x15.2.1))] (by rfl) (by rfl) (by kernel_rfl) (by kernel_rfl) (by exact(rowIs_arr rfl)) (by exact .inr ⟨_,_,rfl,rfl,(.same (.arr (.head _) (Nat.le_refl _) de_sub0 .nil))⟩) (by exact⟨(.same .nil),(.same .nil),(.same .nil)⟩)),⟨dr,dr,dr,trivial⟩⟩)))))))))))))))))
noncomputable def m58 (a0:T27) (a1:T41) (a2:Int):Option (T41×(List (List UInt8))×Int):=(d58 a0 a1 a2).m
theorem p58 {a0:T27} {a1:T41} {a2:Int} {r:T41×(List (List UInt8))×Int} (h:m58 a0 a1 a2=some r):PureAt Tryz.prog 58 [(e27 a0),(e41 a1),(dI a2)] (E58 r):=pure_jd (d58 a0 a1 a2) Tryz.func58 h
noncomputable def E16 (r:T41×(List (List UInt8))×Int):D:=(.tup [(e41 r.1),(eSl 1 D.str r.2.1),(dI r.2.2)])
noncomputable def d16 (a0:T27) (a1:T41) (a2:Int):JF Tryz.prog Tryz.f16 [(e27 a0),(e41 a1),(.int .u16 a2)] E16 :=
 (.sg [(1,tm1 12 dI),(4,tm1 19 D.bool),(6,tm1 24 D.bool),(8,tm1 31 (eSl 1 dI)),(13,tm1 44 (fun(x:(T41×(List (List UInt8))×Int))=>(.tup [(e41 x.1),(eSl 1 D.str x.2.1),(dI x.2.2)])))] [(1,[6,7,8],[48])] (c3 (@p35 a0) fun x1=>(.ite (x1 != 0) (.ret .ret ⟨[(6,(.ptr 48 0)),(7,aN),(8,(aI x1))],[(48,(.cells [(aI 0),aN]))],[],256⟩ ((⟨(0:Int),[]⟩:T41),[],x1) ⟨rfl,_,Weak.refl _,⟨⟨dr,de_nil,trivial⟩,de_nil,dr,trivial⟩⟩) (c3 (@p57 a0 a1) fun x4=>(.ite (!x4) (.ret .ret ⟨[(6,(.ptr 48 0)),(7,aN),(8,(aI 8))],[(48,(.cells [(aI 0),aN]))],[],304⟩ ((⟨(0:Int),[]⟩:T41),[],(8:Int)) ⟨rfl,_,Weak.refl _,⟨⟨dr,de_nil,trivial⟩,de_nil,dr,trivial⟩⟩) (c3 (@p34 a0 a2) fun x6=>(.ite (!x6) (.ret .ret ⟨[(6,(.ptr 48 0)),(7,aN),(8,(aI 1))],[(48,(.cells [(aI 0),aN]))],[],368⟩ ((⟨(0:Int),[]⟩:T41),[],(1:Int)) ⟨rfl,_,Weak.refl _,⟨⟨dr,de_nil,trivial⟩,de_nil,dr,trivial⟩⟩) (c3 (@p33 a0 a1.Leaf a2) fun x8=>(.ite ((x8.length:Int)==(0:Int)) (.ret .ret ⟨[(6,(.ptr 48 0)),(7,aN),(8,(aI 6))],[(48,(.cells [(aI 0),aN]))],[],528⟩ ((⟨(0:Int),[]⟩:T41),[],(6:Int)) ⟨rfl,_,Weak.refl _,⟨⟨dr,de_nil,trivial⟩,de_nil,dr,trivial⟩⟩) (.ite ((x8.length:Int)==(1:Int)) (.exi ((T41×(List (List UInt8))×Int)) (if(0:Int)≤(0:Int)then(if 0 < (x8.length:Int)then((m58 a0 a1 (x8.getD (0:Int).toNat default)).bind fun r13_0=>some r13_0)else none)else none) (fun x13=>(.p ((0:Int)≤(0:Int)) (.p (0 < (x8.length:Int)) (.p (PureAt Tryz.prog 58 [(e27 a0),(e41 a1),(dI (x8.getD (0:Int).toNat default))] (.tup [(e41 x13.1),(eSl 1 D.str x13.2.1),(dI x13.2.2)])) (.fin 0))))) (by intro x13 h;obtain⟨h1,h⟩:=if_some h;obtain⟨h2,h⟩:=if_some h;obtain⟨r13_0,h3,h⟩:=Option.bind_eq_some_iff.1 h;cases h;exact⟨h1,h2,p58 h3,trivial⟩) (fun x13 _=>(.ret .ret ⟨[(6,(.ptr 48 0)),(7,(.d (eSl 1 D.str x13.2.1))),(8,(aI x13.2.2))],[(48,(.cells (g41 x13.1)))],[],688⟩ (x13.1,x13.2.1,x13.2.2) ⟨rfl,_,Weak.refl _,⟨dr,dr,dr,trivial⟩⟩))) (.ret .ret ⟨[(6,(.ptr 48 0)),(7,aN),(8,(aI 11))],[(48,(.cells [(aI 0),aN]))],[],560⟩ ((⟨(0:Int),[]⟩:T41),[],(11:Int)) ⟨rfl,_,Weak.refl _,⟨⟨dr,de_nil,trivial⟩,de_nil,dr,trivial⟩⟩)))))))))))
noncomputable def m16 (a0:T27) (a1:T41) (a2:Int):Option (T41×(List (List UInt8))×Int):=(d16 a0 a1 a2).m
theorem p16 {a0:T27} {a1:T41} {a2:Int} {r:T41×(List (List UInt8))×Int} (h:m16 a0 a1 a2=some r):PureAt Tryz.prog 16 [(e27 a0),(e41 a1),(.int .u16 a2)] (E16 r):=pure_jd (d16 a0 a1 a2) Tryz.func16 h
noncomputable abbrev z19_0 (y10:T27×T27×T27×Int×Int×Int):AV:=(.d (.agg [(.str y10.1.Name),(eSl 1 D.str y10.1.Conds),(eSl 1 (eSl 2 e151) y10.1.Never),(eSl 6 e76 y10.1.States),(dI y10.1.Start),(eSl 4 e78 y10.1.Transitions),(.str y10.2.1.Name),(eSl 1 D.str y10.2.1.Conds),(eSl 1 (eSl 2 e151) y10.2.1.Never),(eSl 6 e76 y10.2.1.States),(dI y10.2.1.Start),(eSl 4 e78 y10.2.1.Transitions),(.str y10.2.2.1.Name),(eSl 1 D.str y10.2.2.1.Conds),(eSl 1 (eSl 2 e151) y10.2.2.1.Never),(eSl 6 e76 y10.2.2.1.States),(dI y10.2.2.1.Start),(eSl 4 e78 y10.2.2.1.Transitions)]))
noncomputable abbrev z19_1:Ob:=(.cells [(.d (.int .u8 0)),(.d (.int .u8 0)),(.d (.int .u8 0))])
noncomputable abbrev z19_2 (y10:T27×T27×T27×Int×Int×Int):Ob:=(.cells [(.d (.int .u16 y10.2.2.2.1)),(.d (.int .u16 y10.2.2.2.2.1)),(.d (.int .u16 y10.2.2.2.2.2))])
noncomputable abbrev z19_3:Ob:=(.cells [(aS ([]:List UInt8)),aN,aN,aN,(aI 0),aN,(aS ([]:List UInt8)),aN,aN,aN,(aI 0),aN,(aS ([]:List UInt8)),aN,aN,aN,(aI 0),aN])
noncomputable abbrev z19_4:Ob:=(.cells [(.d (.int .u16 0)),(.d (.int .u16 0)),(.d (.int .u16 0))])
noncomputable abbrev z19_5 (y13:(List (List UInt8))×Int):Ob:=(.cells [(.d (.int .u8 y13.2)),(.d (.int .u8 0)),(.d (.int .u8 0))])
noncomputable abbrev z19_6 (y3:T27×Int):Ob:=(.cells [(.d (.int .u16 y3.2)),(.d (.int .u16 0)),(.d (.int .u16 0))])
noncomputable abbrev z19_7 (y13:(List (List UInt8))×Int) (y16:(List (List UInt8))×Int):Ob:=(.cells [(.d (.int .u8 y13.2)),(.d (.int .u8 y16.2)),(.d (.int .u8 0))])
noncomputable abbrev z19_8 (y3:T27×Int) (y6:T27×Int):Ob:=(.cells [(.d (.int .u16 y3.2)),(.d (.int .u16 y6.2)),(.d (.int .u16 0))])
noncomputable abbrev z19_9 (y3:T27×Int):Ob:=(.cells (g27 y3.1++([(aS ([]:List UInt8)),aN,aN,aN,(aI 0),aN,(aS ([]:List UInt8)),aN,aN,aN,(aI 0),aN]:List AV)))
noncomputable abbrev z19_a (y1:Int×Bool×T27):Ob:=(.cells (g27 y1.2.2++([(aS ([]:List UInt8)),aN,aN,aN,(aI 0),aN,(aS ([]:List UInt8)),aN,aN,aN,(aI 0),aN]:List AV)))
noncomputable abbrev z19_b (y13:(List (List UInt8))×Int):AV:=(.ap 1 y13.1.length (cF D.str y13.1) (.tok 2592 9))
noncomputable abbrev z19_c (y16:(List (List UInt8))×Int):AV:=(.ap 1 y16.1.length (cF D.str y16.1) (.tok 3328 9))
noncomputable abbrev z19_d (a1:Int):List (Nat×AV):=[(1,(.d (.int .u32 a1))),(4,(.ptr 32 0)),(7,(.ptr 320 0)),(8,(.ptr 352 0)),(9,(.ptr 368 0)),(38,(aI 0))]
noncomputable abbrev z19_e (a1:Int):List (Nat×AV):=[(1,(.d (.int .u32 a1))),(4,(.ptr 32 0)),(7,(.ptr 320 0)),(8,(.ptr 352 0)),(9,(.ptr 368 0)),(38,(aI 1))]
noncomputable abbrev z19_f (a1:Int):List (Nat×AV):=[(1,(.d (.int .u32 a1))),(4,(.ptr 32 0)),(7,(.ptr 320 0)),(8,(.ptr 352 0)),(9,(.ptr 368 0)),(38,(aI 2))]
noncomputable abbrev z19_g (y3:T27×Int) (y6:T27×Int):Ob:=(.cells (g27 y3.1++g27 y6.1++([(aS ([]:List UInt8)),aN,aN,aN,(aI 0),aN]:List AV)))
noncomputable abbrev z19_h (y3:T27×Int) (y4:Int×Bool×T27):Ob:=(.cells (g27 y3.1++g27 y4.2.2++([(aS ([]:List UInt8)),aN,aN,aN,(aI 0),aN]:List AV)))
noncomputable def E19 (r:T49×(List (List UInt8))×Int):D:=(.tup [(e49 r.1),(eSl 1 D.str r.2.1),(dI r.2.2)])
noncomputable def d19 (a0:T49) (a1:Int):JF Tryz.prog Tryz.f19 [(e49 a0),(.int .u32 a1)] E19 :=
 (.sq 6 [(1,tm1 22 D.bool),(3,tm1 26 (eSl 1 D.str))] [(1,[4,5,6],[32]),(0,[1,4,7,8,9],[32,320,352,368])] (fun(_:Unit)=>⟨[(1,(.d (.int .u32 a1))),(4,(.ptr 32 0)),(7,(.ptr 320 0)),(8,(.ptr 352 0)),(9,(.ptr 368 0))],[(32,z19_1),(320,(.cells (g49 a0))),(352,z19_3),(368,z19_4)],[],384⟩) (c3 (@p23 a0) fun x1=>(.ite (!x1) (.ret .ret ⟨[(4,(.ptr 32 0)),(5,aN),(6,(aI 8))],[(32,z19_1)],[],192⟩ (.inr (((⟨(0:Int),(0:Int),(0:Int)⟩:T49),[],(8:Int)))) ⟨rfl,rfl,_,Weak.refl _,⟨dr,de_nil,dr,trivial⟩⟩) (.exi ((List (List UInt8))) ((m24 ).bind fun r3_0=>(if 0≤(r3_0.length:Int)then some r3_0 else none)) (fun x3=>(.p (PureAt Tryz.prog 24 [] (eSl 1 D.str x3)) (.p (0≤(x3.length:Int)) (.fin 0)))) (by intro x3 h;obtain⟨r3_0,h1,h⟩:=Option.bind_eq_some_iff.1 h;obtain⟨h2,h⟩:=if_some h;cases h;exact⟨p24 h1,h2,trivial⟩) (fun x3 _=>(.ite ((Int.fdiv a1 (2 ^ (min (x3.length:Int).toNat (IntKind.bits .u32)))) != 0) (.ret .ret ⟨[(4,(.ptr 32 0)),(5,aN),(6,(aI 1))],[(32,z19_1)],[],272⟩ (.inr (((⟨(0:Int),(0:Int),(0:Int)⟩:T49),[],(1:Int)))) ⟨rfl,rfl,_,Weak.refl _,⟨dr,de_nil,dr,trivial⟩⟩) (.nx ())))))) (fun _=>(.sc (fun(y10:T27×T27×T27×Int×Int×Int)=>⟨[(4,(.ptr 32 0)),(7,(.ptr 320 0)),(8,(.ptr 352 0)),(9,(.ptr 368 0))],[(32,z19_1),(320,(.cells (g49 a0))),(352,(.cells (g27 y10.1++g27 y10.2.1++g27 y10.2.2.1))),(368,(z19_2 y10))],[],1856⟩) (.sq 1 [] [(0,[1,4,7,8,9,38],[32,320,352,368])] (fun(_:Unit)=>⟨(z19_d a1),[(32,z19_1),(320,(.cells (g49 a0))),(352,z19_3),(368,z19_4)],[],400⟩) (.nx ()) (fun _=>(.bk (.lu 4 (.r (fun(y3:T27×Int)=>⟨(z19_e a1),[(32,z19_1),(320,(.cells (g49 a0))),(352,(z19_9 y3)),(368,(z19_6 y3))],[],880⟩) (.sq 1 [] [(0,[1,4,7,8,9,38,39],[32,320,352,368])] (fun(_:Unit)=>⟨[(1,(.d (.int .u32 a1))),(4,(.ptr 32 0)),(7,(.ptr 320 0)),(8,(.ptr 352 0)),(9,(.ptr 368 0)),(38,(aI 0)),(39,(aB true))],[(32,z19_1),(320,(.cells (g49 a0))),(352,z19_3),(368,z19_4)],[],416⟩) (.nx ()) (fun _=>(.sc (fun(_:Unit)=>⟨(z19_d a1),[(32,z19_1),(320,(.cells (g49 a0))),(352,z19_3),(368,z19_4)],[],416⟩) (.ct (.sg [] [(0,[1,4,7,8,9,38],[32,320,352,368])] (.nx ()))) fun _=>(.sc (fun(y2:T27×Int)=>⟨(z19_d a1),[(32,z19_1),(320,(.cells (g49 a0))),(352,(.cells (g27 y2.1++([(aS ([]:List UInt8)),aN,aN,aN,(aI 0),aN,(aS ([]:List UInt8)),aN,aN,aN,(aI 0),aN]:List AV)))),(368,(.cells [(.d (.int .u16 y2.2)),(.d (.int .u16 0)),(.d (.int .u16 0))]))],[],848⟩) (.bk (.sq 3 [(11,tm1 45 (fun(x:(T27×Int))=>(.tup [(e27 x.1),(dI x.2)]))),(12,tm1 54 (fun(x:(Int×Bool))=>(.tup [(.int .u16 x.1),(.bool x.2)])))] [(0,[1,4,7,8,9,10,11,12,38],[32,320,352,368])] (fun(y1:Int×Bool×T27)=>⟨[(1,(.d (.int .u32 a1))),(4,(.ptr 32 0)),(7,(.ptr 320 0)),(8,(.ptr 352 0)),(9,(.ptr 368 0)),(10,(aI 0)),(11,(.d (.int .u16 y1.1))),(12,(aB y1.2.1)),(38,(aI 0))],[(32,z19_1),(320,(.cells (g49 a0))),(352,(z19_a y1)),(368,z19_4)],[],752⟩) (c3 (@p20 (1:Int)) fun x11=>(c3 (@p61 x11.1 a1) fun x12=>(.nx (x12.1,x12.2,x11.1)))) (fun y1=>(.sc (fun(_:Unit)=>⟨[(1,(.d (.int .u32 a1))),(4,(.ptr 32 0)),(7,(.ptr 320 0)),(8,(.ptr 352 0)),(9,(.ptr 368 0)),(10,(aI 0)),(11,(.d (.int .u16 y1.1))),(38,(aI 0))],[(32,z19_1),(320,(.cells (g49 a0))),(352,(z19_a y1)),(368,z19_4)],[],784⟩) (.sq 1 [] [(0,[1,4,7,8,9,10,11,38,58],[32,320,352,368])] (fun(_:Unit)=>⟨[(1,(.d (.int .u32 a1))),(4,(.ptr 32 0)),(7,(.ptr 320 0)),(8,(.ptr 352 0)),(9,(.ptr 368 0)),(10,(aI 0)),(11,(.d (.int .u16 y1.1))),(38,(aI 0)),(58,(aB (!y1.2.1)))],[(32,z19_1),(320,(.cells (g49 a0))),(352,(z19_a y1)),(368,z19_4)],[],784⟩) (.nx ()) (fun _=>(.cd (!y1.2.1) (.sg [] [(1,[4,5,6],[32])] (.ret .ret ⟨[(4,(.ptr 32 0)),(5,aN),(6,(aI 11))],[(32,z19_1)],[],848⟩ (.inr (.inr (.inr (.inr (((⟨(0:Int),(0:Int),(0:Int)⟩:T49),[],(11:Int))))))) ⟨rfl,rfl,rfl,rfl,rfl,_,Weak.refl _,⟨dr,de_nil,dr,trivial⟩⟩)) (.sg [] [(0,[1,4,7,8,9,10,11,38],[32,320,352,368])] (.nx ()))))) fun _=>(.sg [] [(0,[1,4,7,8,9,38],[32,320,352,368])] (.ret .normal _ (.inl (y1.2.2,y1.1)) ⟨rfl,Weak.refl _⟩)))))) fun y2=>(.sg [] [(0,[1,4,7,8,9,38],[32,320,352,368])] (.nx (y2.1,y2.2))))))) fun y3=>(.r (fun(y6:T27×Int)=>⟨(z19_f a1),[(32,z19_1),(320,(.cells (g49 a0))),(352,(z19_g y3 y6)),(368,(z19_8 y3 y6))],[],1360⟩) (.sq 1 [] [(0,[1,4,7,8,9,38,39],[32,320,352,368])] (fun(_:Unit)=>⟨[(1,(.d (.int .u32 a1))),(4,(.ptr 32 0)),(7,(.ptr 320 0)),(8,(.ptr 352 0)),(9,(.ptr 368 0)),(38,(aI 1)),(39,(aB true))],[(32,z19_1),(320,(.cells (g49 a0))),(352,(z19_9 y3)),(368,(z19_6 y3))],[],896⟩) (.nx ()) (fun _=>(.sc (fun(_:Unit)=>⟨(z19_e a1),[(32,z19_1),(320,(.cells (g49 a0))),(352,(z19_9 y3)),(368,(z19_6 y3))],[],896⟩) (.ct (.sg [] [(0,[1,4,7,8,9,38],[32,320,352,368])] (.nx ()))) fun _=>(.sc (fun(y5:T27×Int)=>⟨(z19_e a1),[(32,z19_1),(320,(.cells (g49 a0))),(352,(.cells (g27 y3.1++g27 y5.1++([(aS ([]:List UInt8)),aN,aN,aN,(aI 0),aN]:List AV)))),(368,(.cells [(.d (.int .u16 y3.2)),(.d (.int .u16 y5.2)),(.d (.int .u16 0))]))],[],1328⟩) (.bk (.sq 3 [(11,tm1 45 (fun(x:(T27×Int))=>(.tup [(e27 x.1),(dI x.2)]))),(12,tm1 54 (fun(x:(Int×Bool))=>(.tup [(.int .u16 x.1),(.bool x.2)])))] [(0,[1,4,7,8,9,10,11,12,38],[32,320,352,368])] (fun(y4:Int×Bool×T27)=>⟨[(1,(.d (.int .u32 a1))),(4,(.ptr 32 0)),(7,(.ptr 320 0)),(8,(.ptr 352 0)),(9,(.ptr 368 0)),(10,(aI 1)),(11,(.d (.int .u16 y4.1))),(12,(aB y4.2.1)),(38,(aI 1))],[(32,z19_1),(320,(.cells (g49 a0))),(352,(z19_h y3 y4)),(368,(z19_6 y3))],[],1232⟩) (c3 (@p20 (2:Int)) fun x11=>(c3 (@p61 x11.1 a1) fun x12=>(.nx (x12.1,x12.2,x11.1)))) (fun y4=>(.sc (fun(_:Unit)=>⟨[(1,(.d (.int .u32 a1))),(4,(.ptr 32 0)),(7,(.ptr 320 0)),(8,(.ptr 352 0)),(9,(.ptr 368 0)),(10,(aI 1)),(11,(.d (.int .u16 y4.1))),(38,(aI 1))],[(32,z19_1),(320,(.cells (g49 a0))),(352,(z19_h y3 y4)),(368,(z19_6 y3))],[],1264⟩) (.sq 1 [] [(0,[1,4,7,8,9,10,11,38,58],[32,320,352,368])] (fun(_:Unit)=>⟨[(1,(.d (.int .u32 a1))),(4,(.ptr 32 0)),(7,(.ptr 320 0)),(8,(.ptr 352 0)),(9,(.ptr 368 0)),(10,(aI 1)),(11,(.d (.int .u16 y4.1))),(38,(aI 1)),(58,(aB (!y4.2.1)))],[(32,z19_1),(320,(.cells (g49 a0))),(352,(z19_h y3 y4)),(368,(z19_6 y3))],[],1264⟩) (.nx ()) (fun _=>(.cd (!y4.2.1) (.sg [] [(1,[4,5,6],[32])] (.ret .ret ⟨[(4,(.ptr 32 0)),(5,aN),(6,(aI 11))],[(32,z19_1)],[],1328⟩ (.inr (.inr (.inr (.inr (((⟨(0:Int),(0:Int),(0:Int)⟩:T49),[],(11:Int))))))) ⟨rfl,rfl,rfl,rfl,rfl,_,Weak.refl _,⟨dr,de_nil,dr,trivial⟩⟩)) (.sg [] [(0,[1,4,7,8,9,10,11,38],[32,320,352,368])] (.nx ()))))) fun _=>(.sg [] [(0,[1,4,7,8,9,38],[32,320,352,368])] (.ret .normal _ (.inl (y4.2.2,y4.1)) ⟨rfl,Weak.refl _⟩)))))) fun y5=>(.sg [] [(0,[1,4,7,8,9,38],[32,320,352,368])] (.nx (y5.1,y5.2))))))) fun y6=>(.r (fun(y9:T27×Int)=>⟨[(1,(.d (.int .u32 a1))),(4,(.ptr 32 0)),(7,(.ptr 320 0)),(8,(.ptr 352 0)),(9,(.ptr 368 0)),(38,(aI 3))],[(32,z19_1),(320,(.cells (g49 a0))),(352,(.cells (g27 y3.1++g27 y6.1++g27 y9.1))),(368,(.cells [(.d (.int .u16 y3.2)),(.d (.int .u16 y6.2)),(.d (.int .u16 y9.2))]))],[],1840⟩) (.sq 1 [] [(0,[1,4,7,8,9,38,39],[32,320,352,368])] (fun(_:Unit)=>⟨[(1,(.d (.int .u32 a1))),(4,(.ptr 32 0)),(7,(.ptr 320 0)),(8,(.ptr 352 0)),(9,(.ptr 368 0)),(38,(aI 2)),(39,(aB true))],[(32,z19_1),(320,(.cells (g49 a0))),(352,(z19_g y3 y6)),(368,(z19_8 y3 y6))],[],1376⟩) (.nx ()) (fun _=>(.sc (fun(_:Unit)=>⟨(z19_f a1),[(32,z19_1),(320,(.cells (g49 a0))),(352,(z19_g y3 y6)),(368,(z19_8 y3 y6))],[],1376⟩) (.ct (.sg [] [(0,[1,4,7,8,9,38],[32,320,352,368])] (.nx ()))) fun _=>(.sc (fun(y8:T27×Int)=>⟨(z19_f a1),[(32,z19_1),(320,(.cells (g49 a0))),(352,(.cells (g27 y3.1++g27 y6.1++g27 y8.1))),(368,(.cells [(.d (.int .u16 y3.2)),(.d (.int .u16 y6.2)),(.d (.int .u16 y8.2))]))],[],1808⟩) (.bk (.sq 3 [(11,tm1 45 (fun(x:(T27×Int))=>(.tup [(e27 x.1),(dI x.2)]))),(12,tm1 54 (fun(x:(Int×Bool))=>(.tup [(.int .u16 x.1),(.bool x.2)])))] [(0,[1,4,7,8,9,10,11,12,38],[32,320,352,368])] (fun(y7:Int×Bool×T27)=>⟨[(1,(.d (.int .u32 a1))),(4,(.ptr 32 0)),(7,(.ptr 320 0)),(8,(.ptr 352 0)),(9,(.ptr 368 0)),(10,(aI 2)),(11,(.d (.int .u16 y7.1))),(12,(aB y7.2.1)),(38,(aI 2))],[(32,z19_1),(320,(.cells (g49 a0))),(352,(.cells (g27 y3.1++g27 y6.1++g27 y7.2.2))),(368,(z19_8 y3 y6))],[],1712⟩) (c3 (@p20 (3:Int)) fun x11=>(c3 (@p61 x11.1 a1) fun x12=>(.nx (x12.1,x12.2,x11.1)))) (fun y7=>(.sc (fun(_:Unit)=>⟨[(1,(.d (.int .u32 a1))),(4,(.ptr 32 0)),(7,(.ptr 320 0)),(8,(.ptr 352 0)),(9,(.ptr 368 0)),(10,(aI 2)),(11,(.d (.int .u16 y7.1))),(38,(aI 2))],[(32,z19_1),(320,(.cells (g49 a0))),(352,(.cells (g27 y3.1++g27 y6.1++g27 y7.2.2))),(368,(z19_8 y3 y6))],[],1744⟩) (.sq 1 [] [(0,[1,4,7,8,9,10,11,38,58],[32,320,352,368])] (fun(_:Unit)=>⟨[(1,(.d (.int .u32 a1))),(4,(.ptr 32 0)),(7,(.ptr 320 0)),(8,(.ptr 352 0)),(9,(.ptr 368 0)),(10,(aI 2)),(11,(.d (.int .u16 y7.1))),(38,(aI 2)),(58,(aB (!y7.2.1)))],[(32,z19_1),(320,(.cells (g49 a0))),(352,(.cells (g27 y3.1++g27 y6.1++g27 y7.2.2))),(368,(z19_8 y3 y6))],[],1744⟩) (.nx ()) (fun _=>(.cd (!y7.2.1) (.sg [] [(1,[4,5,6],[32])] (.ret .ret ⟨[(4,(.ptr 32 0)),(5,aN),(6,(aI 11))],[(32,z19_1)],[],1808⟩ (.inr (.inr (.inr (.inr (((⟨(0:Int),(0:Int),(0:Int)⟩:T49),[],(11:Int))))))) ⟨rfl,rfl,rfl,rfl,rfl,_,Weak.refl _,⟨dr,de_nil,dr,trivial⟩⟩)) (.sg [] [(0,[1,4,7,8,9,10,11,38],[32,320,352,368])] (.nx ()))))) fun _=>(.sg [] [(0,[1,4,7,8,9,38],[32,320,352,368])] (.ret .normal _ (.inl (y7.2.2,y7.1)) ⟨rfl,Weak.refl _⟩)))))) fun y8=>(.sg [] [(0,[1,4,7,8,9,38],[32,320,352,368])] (.nx (y8.1,y8.2))))))) fun y9=>(.z (.sq 1 [] [(0,[1,4,7,8,9,38,39],[32,320,352,368])] (fun(_:Unit)=>⟨[(1,(.d (.int .u32 a1))),(4,(.ptr 32 0)),(7,(.ptr 320 0)),(8,(.ptr 352 0)),(9,(.ptr 368 0)),(38,(aI 3)),(39,(aB false))],[(32,z19_1),(320,(.cells (g49 a0))),(352,(.cells (g27 y3.1++g27 y6.1++g27 y9.1))),(368,(.cells [(.d (.int .u16 y3.2)),(.d (.int .u16 y6.2)),(.d (.int .u16 y9.2))]))],[],1856⟩) (.nx ()) (fun _=>(.se (.ce (.sg [] [(2,[4,7,8,9],[32,320,352,368])] (.ret (.exit 0) _ (.inr (.inr (.inl (y3.1,y6.1,y9.1,y3.2,y6.2,y9.2)))) ⟨rfl,rfl,rfl,Weak.refl _⟩)))))))))))))) fun y10=>(.sq 2 [] [(0,[4,7,8,9,13,14],[32,320,352,368,1856])] (fun(_:Unit)=>⟨[(4,(.ptr 32 0)),(7,(.ptr 320 0)),(8,(.ptr 352 0)),(9,(.ptr 368 0)),(13,(.ptr 1856 0)),(14,aN)],[(32,z19_1),(320,(.cells (g49 a0))),(352,(.cells (g27 y10.1++g27 y10.2.1++g27 y10.2.2.1))),(368,(z19_2 y10)),(1856,z19_1)],[],1888⟩) (.nx ()) (fun _=>(.sc (fun(y20:(List (List UInt8))×Int×Int×Int)=>⟨[(4,(.ptr 32 0)),(13,(.ptr 1856 0)),(14,(.ap 1 y20.1.length (cF D.str y20.1) (.tok 4064 9)))],[(32,z19_1),(1856,(.cells [(.d (.int .u8 y20.2.1)),(.d (.int .u8 y20.2.2.1)),(.d (.int .u8 y20.2.2.2))]))],[4064],4144⟩) (.sq 1 [] [(0,[4,7,9,13,14,64,65],[32,320,368,1856])] (fun(_:Unit)=>⟨[(4,(.ptr 32 0)),(7,(.ptr 320 0)),(9,(.ptr 368 0)),(13,(.ptr 1856 0)),(14,aN),(64,(z19_0 y10)),(65,(aI 0))],[(32,z19_1),(320,(.cells (g49 a0))),(368,(z19_2 y10)),(1856,z19_1)],[],1920⟩) (.nx ()) (fun _=>(.bk (.lu 4 (.r (fun(y13:(List (List UInt8))×Int)=>⟨[(4,(.ptr 32 0)),(7,(.ptr 320 0)),(9,(.ptr 368 0)),(13,(.ptr 1856 0)),(14,(z19_b y13)),(64,(z19_0 y10)),(65,(aI 1))],[(32,z19_1),(320,(.cells (g49 a0))),(368,(z19_2 y10)),(1856,(z19_5 y13))],[2592],2656⟩) (.sq 1 [] [(0,[4,7,9,13,14,64,65,66],[32,320,368,1856])] (fun(_:Unit)=>⟨[(4,(.ptr 32 0)),(7,(.ptr 320 0)),(9,(.ptr 368 0)),(13,(.ptr 1856 0)),(14,aN),(64,(z19_0 y10)),(65,(aI 0)),(66,(aB true))],[(32,z19_1),(320,(.cells (g49 a0))),(368,(z19_2 y10)),(1856,z19_1)],[],1936⟩) (.nx ()) (fun _=>(.sc (fun(_:Unit)=>⟨[(4,(.ptr 32 0)),(7,(.ptr 320 0)),(9,(.ptr 368 0)),(13,(.ptr 1856 0)),(14,aN),(64,(z19_0 y10)),(65,(aI 0))],[(32,z19_1),(320,(.cells (g49 a0))),(368,(z19_2 y10)),(1856,z19_1)],[],1936⟩) (.ct (.sg [] [(0,[4,7,9,13,14,64,65],[32,320,368,1856])] (.nx ()))) fun _=>(.sc (fun(y12:(List (List UInt8))×Int)=>⟨[(4,(.ptr 32 0)),(7,(.ptr 320 0)),(9,(.ptr 368 0)),(13,(.ptr 1856 0)),(14,(.ap 1 y12.1.length (cF D.str y12.1) (.tok 2592 9))),(64,(z19_0 y10)),(65,(aI 0))],[(32,z19_1),(320,(.cells (g49 a0))),(368,(z19_2 y10)),(1856,(.cells [(.d (.int .u8 y12.2)),(.d (.int .u8 0)),(.d (.int .u8 0))]))],[2592],2624⟩) (.bk (.sq 3 [(22,tm1 77 (eSl 1 dI)),(23,tm1 85 (fun(x:(T41×(List (List UInt8))×Int))=>(.tup [(e41 x.1),(eSl 1 D.str x.2.1),(dI x.2.2)])))] [(0,[4,7,9,13,14,15,18,19,20,64,65],[32,320,368,1856,2368])] (fun(y11:(List (List UInt8))×Int×T41)=>⟨[(4,(.ptr 32 0)),(7,(.ptr 320 0)),(9,(.ptr 368 0)),(13,(.ptr 1856 0)),(14,aN),(15,(aI 0)),(18,(.ptr 2368 0)),(19,(.d (eSl 1 D.str y11.1))),(20,(aI y11.2.1)),(64,(z19_0 y10)),(65,(aI 0))],[(32,z19_1),(320,(.cells (g49 a0))),(368,(z19_2 y10)),(1856,z19_1),(2368,(.cells (g41 y11.2.2)))],[],2432⟩) (c2 (@p55 ([(-1:Int)]:List Int) (y10.1.States.length:Int)) [(.sl 1 1 (litF [(dI (-1))])),(dI (y10.1.States.length:Int))] (dq ⟨(de_lit rfl rfl),dr,trivial⟩) fun x22=>(c3 (@p16 y10.1 (⟨(IntKind.wrap .i64 (a0.Lateral)),x22⟩:T41) y10.2.2.2.1) fun x23=>(.ret .normal ⟨[(4,(.ptr 32 0)),(7,(.ptr 320 0)),(9,(.ptr 368 0)),(13,(.ptr 1856 0)),(14,aN),(15,(aI 0)),(18,(.ptr 2368 0)),(19,(.d (eSl 1 D.str x23.2.1))),(20,(aI x23.2.2)),(64,(z19_0 y10)),(65,(aI 0))],[(32,z19_1),(320,(.cells (g49 a0))),(368,(z19_2 y10)),(1856,z19_1),(2368,(.cells (g41 x23.1)))],[2080],2432⟩ (.inl (x23.2.1,x23.2.2,x23.1)) ⟨rfl,(wk (idn [32,320,368,1856,2368]) [])⟩))) (fun y11=>(.sc (fun(_:Unit)=>⟨[(4,(.ptr 32 0)),(7,(.ptr 320 0)),(9,(.ptr 368 0)),(13,(.ptr 1856 0)),(14,aN),(15,(aI 0)),(18,(.ptr 2368 0)),(19,(.d (eSl 1 D.str y11.1))),(64,(z19_0 y10)),(65,(aI 0))],[(32,z19_1),(320,(.cells (g49 a0))),(368,(z19_2 y10)),(1856,z19_1),(2368,(.cells (g41 y11.2.2)))],[],2464⟩) (.sq 1 [] [(0,[4,7,9,13,14,15,18,19,20,64,65,90],[32,320,368,1856,2368])] (fun(_:Unit)=>⟨[(4,(.ptr 32 0)),(7,(.ptr 320 0)),(9,(.ptr 368 0)),(13,(.ptr 1856 0)),(14,aN),(15,(aI 0)),(18,(.ptr 2368 0)),(19,(.d (eSl 1 D.str y11.1))),(20,(aI y11.2.1)),(64,(z19_0 y10)),(65,(aI 0)),(90,(aB (y11.2.1 != 0)))],[(32,z19_1),(320,(.cells (g49 a0))),(368,(z19_2 y10)),(1856,z19_1),(2368,(.cells (g41 y11.2.2)))],[],2464⟩) (.nx ()) (fun _=>(.cd (y11.2.1 != 0) (.sg [] [(1,[4,5,6],[32])] (.ret .ret ⟨[(4,(.ptr 32 0)),(5,aN),(6,(aI y11.2.1))],[(32,z19_1)],[],2544⟩ (.inr (.inr (.inr (.inr (((⟨(0:Int),(0:Int),(0:Int)⟩:T49),[],y11.2.1)))))) ⟨rfl,rfl,rfl,rfl,rfl,_,Weak.refl _,⟨dr,de_nil,dr,trivial⟩⟩)) (.sg [] [(0,[4,7,9,13,14,15,18,19,64,65],[32,320,368,1856,2368])] (.nx ()))))) fun _=>(.sg [] [(0,[4,7,9,13,14,64,65],[32,320,368,1856])] (nd (y11.1.length * 16≤140737488355328) (.ret .normal _ (.inl (y11.1,(IntKind.wrap .u8 (y11.2.2.Leaf)))) ⟨rfl,Weak.refl _⟩))))))) fun y12=>(.sg [] [(0,[4,7,9,13,14,64,65],[32,320,368,1856])] (.nx (y12.1,y12.2))))))) fun y13=>(.r (fun(y16:(List (List UInt8))×Int)=>⟨[(4,(.ptr 32 0)),(7,(.ptr 320 0)),(9,(.ptr 368 0)),(13,(.ptr 1856 0)),(14,(z19_c y16)),(64,(z19_0 y10)),(65,(aI 2))],[(32,z19_1),(320,(.cells (g49 a0))),(368,(z19_2 y10)),(1856,(z19_7 y13 y16))],[3328],3392⟩) (.sq 1 [] [(0,[4,7,9,13,14,64,65,66],[32,320,368,1856])] (fun(_:Unit)=>⟨[(4,(.ptr 32 0)),(7,(.ptr 320 0)),(9,(.ptr 368 0)),(13,(.ptr 1856 0)),(14,(z19_b y13)),(64,(z19_0 y10)),(65,(aI 1)),(66,(aB true))],[(32,z19_1),(320,(.cells (g49 a0))),(368,(z19_2 y10)),(1856,(z19_5 y13))],[2592],2672⟩) (.nx ()) (fun _=>(.sc (fun(_:Unit)=>⟨[(4,(.ptr 32 0)),(7,(.ptr 320 0)),(9,(.ptr 368 0)),(13,(.ptr 1856 0)),(14,(z19_b y13)),(64,(z19_0 y10)),(65,(aI 1))],[(32,z19_1),(320,(.cells (g49 a0))),(368,(z19_2 y10)),(1856,(z19_5 y13))],[2592],2672⟩) (.ct (.sg [] [(0,[4,7,9,13,14,64,65],[32,320,368,1856])] (.nx ()))) fun _=>(.sc (fun(y15:(List (List UInt8))×Int)=>⟨[(4,(.ptr 32 0)),(7,(.ptr 320 0)),(9,(.ptr 368 0)),(13,(.ptr 1856 0)),(14,(.ap 1 y15.1.length (cF D.str y15.1) (.tok 3328 9))),(64,(z19_0 y10)),(65,(aI 1))],[(32,z19_1),(320,(.cells (g49 a0))),(368,(z19_2 y10)),(1856,(.cells [(.d (.int .u8 y13.2)),(.d (.int .u8 y15.2)),(.d (.int .u8 0))]))],[3328],3360⟩) (.bk (.sq 3 [(22,tm1 77 (eSl 1 dI)),(23,tm1 85 (fun(x:(T41×(List (List UInt8))×Int))=>(.tup [(e41 x.1),(eSl 1 D.str x.2.1),(dI x.2.2)])))] [(0,[4,7,9,13,14,15,18,19,20,64,65],[32,320,368,1856,3104])] (fun(y14:(List (List UInt8))×Int×T41)=>⟨[(4,(.ptr 32 0)),(7,(.ptr 320 0)),(9,(.ptr 368 0)),(13,(.ptr 1856 0)),(14,(z19_b y13)),(15,(aI 1)),(18,(.ptr 3104 0)),(19,(.d (eSl 1 D.str y14.1))),(20,(aI y14.2.1)),(64,(z19_0 y10)),(65,(aI 1))],[(32,z19_1),(320,(.cells (g49 a0))),(368,(z19_2 y10)),(1856,(z19_5 y13)),(3104,(.cells (g41 y14.2.2)))],[2592],3168⟩) (c2 (@p55 ([(-1:Int)]:List Int) (y10.2.1.States.length:Int)) [(.sl 1 1 (litF [(dI (-1))])),(dI (y10.2.1.States.length:Int))] (dq ⟨(de_lit rfl rfl),dr,trivial⟩) fun x22=>(c3 (@p16 y10.2.1 (⟨(IntKind.wrap .i64 (a0.Vertical)),x22⟩:T41) y10.2.2.2.2.1) fun x23=>(.ret .normal ⟨[(4,(.ptr 32 0)),(7,(.ptr 320 0)),(9,(.ptr 368 0)),(13,(.ptr 1856 0)),(14,(z19_b y13)),(15,(aI 1)),(18,(.ptr 3104 0)),(19,(.d (eSl 1 D.str x23.2.1))),(20,(aI x23.2.2)),(64,(z19_0 y10)),(65,(aI 1))],[(32,z19_1),(320,(.cells (g49 a0))),(368,(z19_2 y10)),(1856,(z19_5 y13)),(3104,(.cells (g41 x23.1)))],[2816,2592],3168⟩ (.inl (x23.2.1,x23.2.2,x23.1)) ⟨rfl,(wk (idn [32,320,368,1856,3104]) [(2592,2592)])⟩))) (fun y14=>(.sc (fun(_:Unit)=>⟨[(4,(.ptr 32 0)),(7,(.ptr 320 0)),(9,(.ptr 368 0)),(13,(.ptr 1856 0)),(14,(z19_b y13)),(15,(aI 1)),(18,(.ptr 3104 0)),(19,(.d (eSl 1 D.str y14.1))),(64,(z19_0 y10)),(65,(aI 1))],[(32,z19_1),(320,(.cells (g49 a0))),(368,(z19_2 y10)),(1856,(z19_5 y13)),(3104,(.cells (g41 y14.2.2)))],[2592],3200⟩) (.sq 1 [] [(0,[4,7,9,13,14,15,18,19,20,64,65,90],[32,320,368,1856,3104])] (fun(_:Unit)=>⟨[(4,(.ptr 32 0)),(7,(.ptr 320 0)),(9,(.ptr 368 0)),(13,(.ptr 1856 0)),(14,(z19_b y13)),(15,(aI 1)),(18,(.ptr 3104 0)),(19,(.d (eSl 1 D.str y14.1))),(20,(aI y14.2.1)),(64,(z19_0 y10)),(65,(aI 1)),(90,(aB (y14.2.1 != 0)))],[(32,z19_1),(320,(.cells (g49 a0))),(368,(z19_2 y10)),(1856,(z19_5 y13)),(3104,(.cells (g41 y14.2.2)))],[2592],3200⟩) (.nx ()) (fun _=>(.cd (y14.2.1 != 0) (.sg [] [(1,[4,5,6],[32])] (.ret .ret ⟨[(4,(.ptr 32 0)),(5,aN),(6,(aI y14.2.1))],[(32,z19_1)],[2592],3280⟩ (.inr (.inr (.inr (.inr (((⟨(0:Int),(0:Int),(0:Int)⟩:T49),[],y14.2.1)))))) ⟨rfl,rfl,rfl,rfl,rfl,_,Weak.refl _,⟨dr,de_nil,dr,trivial⟩⟩)) (.sg [] [(0,[4,7,9,13,14,15,18,19,64,65],[32,320,368,1856,3104])] (.nx ()))))) fun _=>(.sg [] [(0,[4,7,9,13,14,64,65],[32,320,368,1856])] (nd ((y13.1.length+y14.1.length) * 16≤140737488355328) (.ret .normal ⟨[(4,(.ptr 32 0)),(7,(.ptr 320 0)),(9,(.ptr 368 0)),(13,(.ptr 1856 0)),(14,(.ap 1 (y13.1.length+y14.1.length) (appF y13.1.length (cF D.str y13.1) (cF D.str y14.1)) (.tok 3328 9))),(64,(z19_0 y10)),(65,(aI 1))],[(32,z19_1),(320,(.cells (g49 a0))),(368,(z19_2 y10)),(1856,(.cells [(.d (.int .u8 y13.2)),(.d (.int .u8 (IntKind.wrap .u8 (y14.2.2.Leaf)))),(.d (.int .u8 0))]))],[3328],3360⟩ (.inl ((y13.1++y14.1),(IntKind.wrap .u8 (y14.2.2.Leaf)))) ⟨rfl,(wh (idn [32,320,368,1856]) [(3328,3328)] ⟨⟨rfl,rfl⟩,⟨rfl,rfl⟩,⟨rfl,rfl⟩,⟨rfl,rfl⟩,⟨rfl,rfl,rfl,(de_app dr dr)⟩,dr,dr⟩)⟩))))))) fun y15=>(.sg [] [(0,[4,7,9,13,14,64,65],[32,320,368,1856])] (.nx (y15.1,y15.2))))))) fun y16=>(.r (fun(y19:(List (List UInt8))×Int)=>⟨[(4,(.ptr 32 0)),(7,(.ptr 320 0)),(9,(.ptr 368 0)),(13,(.ptr 1856 0)),(14,(.ap 1 y19.1.length (cF D.str y19.1) (.tok 4064 9))),(64,(z19_0 y10)),(65,(aI 3))],[(32,z19_1),(320,(.cells (g49 a0))),(368,(z19_2 y10)),(1856,(.cells [(.d (.int .u8 y13.2)),(.d (.int .u8 y16.2)),(.d (.int .u8 y19.2))]))],[4064],4128⟩) (.sq 1 [] [(0,[4,7,9,13,14,64,65,66],[32,320,368,1856])] (fun(_:Unit)=>⟨[(4,(.ptr 32 0)),(7,(.ptr 320 0)),(9,(.ptr 368 0)),(13,(.ptr 1856 0)),(14,(z19_c y16)),(64,(z19_0 y10)),(65,(aI 2)),(66,(aB true))],[(32,z19_1),(320,(.cells (g49 a0))),(368,(z19_2 y10)),(1856,(z19_7 y13 y16))],[3328],3408⟩) (.nx ()) (fun _=>(.sc (fun(_:Unit)=>⟨[(4,(.ptr 32 0)),(7,(.ptr 320 0)),(9,(.ptr 368 0)),(13,(.ptr 1856 0)),(14,(z19_c y16)),(64,(z19_0 y10)),(65,(aI 2))],[(32,z19_1),(320,(.cells (g49 a0))),(368,(z19_2 y10)),(1856,(z19_7 y13 y16))],[3328],3408⟩) (.ct (.sg [] [(0,[4,7,9,13,14,64,65],[32,320,368,1856])] (.nx ()))) fun _=>(.sc (fun(y18:(List (List UInt8))×Int)=>⟨[(4,(.ptr 32 0)),(7,(.ptr 320 0)),(9,(.ptr 368 0)),(13,(.ptr 1856 0)),(14,(.ap 1 y18.1.length (cF D.str y18.1) (.tok 4064 9))),(64,(z19_0 y10)),(65,(aI 2))],[(32,z19_1),(320,(.cells (g49 a0))),(368,(z19_2 y10)),(1856,(.cells [(.d (.int .u8 y13.2)),(.d (.int .u8 y16.2)),(.d (.int .u8 y18.2))]))],[4064],4096⟩) (.bk (.sq 3 [(22,tm1 77 (eSl 1 dI)),(23,tm1 85 (fun(x:(T41×(List (List UInt8))×Int))=>(.tup [(e41 x.1),(eSl 1 D.str x.2.1),(dI x.2.2)])))] [(0,[4,7,9,13,14,15,18,19,20,64,65],[32,320,368,1856,3840])] (fun(y17:(List (List UInt8))×Int×T41)=>⟨[(4,(.ptr 32 0)),(7,(.ptr 320 0)),(9,(.ptr 368 0)),(13,(.ptr 1856 0)),(14,(z19_c y16)),(15,(aI 2)),(18,(.ptr 3840 0)),(19,(.d (eSl 1 D.str y17.1))),(20,(aI y17.2.1)),(64,(z19_0 y10)),(65,(aI 2))],[(32,z19_1),(320,(.cells (g49 a0))),(368,(z19_2 y10)),(1856,(z19_7 y13 y16)),(3840,(.cells (g41 y17.2.2)))],[3328],3904⟩) (c2 (@p55 ([(-1:Int)]:List Int) (y10.2.2.1.States.length:Int)) [(.sl 1 1 (litF [(dI (-1))])),(dI (y10.2.2.1.States.length:Int))] (dq ⟨(de_lit rfl rfl),dr,trivial⟩) fun x22=>(c3 (@p16 y10.2.2.1 (⟨(IntKind.wrap .i64 (a0.Phase)),x22⟩:T41) y10.2.2.2.2.2) fun x23=>(.ret .normal ⟨[(4,(.ptr 32 0)),(7,(.ptr 320 0)),(9,(.ptr 368 0)),(13,(.ptr 1856 0)),(14,(z19_c y16)),(15,(aI 2)),(18,(.ptr 3840 0)),(19,(.d (eSl 1 D.str x23.2.1))),(20,(aI x23.2.2)),(64,(z19_0 y10)),(65,(aI 2))],[(32,z19_1),(320,(.cells (g49 a0))),(368,(z19_2 y10)),(1856,(z19_7 y13 y16)),(3840,(.cells (g41 x23.1)))],[3552,3328],3904⟩ (.inl (x23.2.1,x23.2.2,x23.1)) ⟨rfl,(wk (idn [32,320,368,1856,3840]) [(3328,3328)])⟩))) (fun y17=>(.sc (fun(_:Unit)=>⟨[(4,(.ptr 32 0)),(7,(.ptr 320 0)),(9,(.ptr 368 0)),(13,(.ptr 1856 0)),(14,(z19_c y16)),(15,(aI 2)),(18,(.ptr 3840 0)),(19,(.d (eSl 1 D.str y17.1))),(64,(z19_0 y10)),(65,(aI 2))],[(32,z19_1),(320,(.cells (g49 a0))),(368,(z19_2 y10)),(1856,(z19_7 y13 y16)),(3840,(.cells (g41 y17.2.2)))],[3328],3936⟩) (.sq 1 [] [(0,[4,7,9,13,14,15,18,19,20,64,65,90],[32,320,368,1856,3840])] (fun(_:Unit)=>⟨[(4,(.ptr 32 0)),(7,(.ptr 320 0)),(9,(.ptr 368 0)),(13,(.ptr 1856 0)),(14,(z19_c y16)),(15,(aI 2)),(18,(.ptr 3840 0)),(19,(.d (eSl 1 D.str y17.1))),(20,(aI y17.2.1)),(64,(z19_0 y10)),(65,(aI 2)),(90,(aB (y17.2.1 != 0)))],[(32,z19_1),(320,(.cells (g49 a0))),(368,(z19_2 y10)),(1856,(z19_7 y13 y16)),(3840,(.cells (g41 y17.2.2)))],[3328],3936⟩) (.nx ()) (fun _=>(.cd (y17.2.1 != 0) (.sg [] [(1,[4,5,6],[32])] (.ret .ret ⟨[(4,(.ptr 32 0)),(5,aN),(6,(aI y17.2.1))],[(32,z19_1)],[3328],4016⟩ (.inr (.inr (.inr (.inr (((⟨(0:Int),(0:Int),(0:Int)⟩:T49),[],y17.2.1)))))) ⟨rfl,rfl,rfl,rfl,rfl,_,Weak.refl _,⟨dr,de_nil,dr,trivial⟩⟩)) (.sg [] [(0,[4,7,9,13,14,15,18,19,64,65],[32,320,368,1856,3840])] (.nx ()))))) fun _=>(.sg [] [(0,[4,7,9,13,14,64,65],[32,320,368,1856])] (nd ((y16.1.length+y17.1.length) * 16≤140737488355328) (.ret .normal ⟨[(4,(.ptr 32 0)),(7,(.ptr 320 0)),(9,(.ptr 368 0)),(13,(.ptr 1856 0)),(14,(.ap 1 (y16.1.length+y17.1.length) (appF y16.1.length (cF D.str y16.1) (cF D.str y17.1)) (.tok 4064 9))),(64,(z19_0 y10)),(65,(aI 2))],[(32,z19_1),(320,(.cells (g49 a0))),(368,(z19_2 y10)),(1856,(.cells [(.d (.int .u8 y13.2)),(.d (.int .u8 y16.2)),(.d (.int .u8 (IntKind.wrap .u8 (y17.2.2.Leaf))))]))],[4064],4096⟩ (.inl ((y16.1++y17.1),(IntKind.wrap .u8 (y17.2.2.Leaf)))) ⟨rfl,(wh (idn [32,320,368,1856]) [(4064,4064)] ⟨⟨rfl,rfl⟩,⟨rfl,rfl⟩,⟨rfl,rfl⟩,⟨rfl,rfl⟩,⟨rfl,rfl,rfl,(de_app dr dr)⟩,dr,dr⟩)⟩))))))) fun y18=>(.sg [] [(0,[4,7,9,13,14,64,65],[32,320,368,1856])] (.nx (y18.1,y18.2))))))) fun y19=>(.z (.sq 1 [] [(0,[4,7,9,13,14,64,65,66],[32,320,368,1856])] (fun(_:Unit)=>⟨[(4,(.ptr 32 0)),(7,(.ptr 320 0)),(9,(.ptr 368 0)),(13,(.ptr 1856 0)),(14,(.ap 1 y19.1.length (cF D.str y19.1) (.tok 4064 9))),(64,(z19_0 y10)),(65,(aI 3)),(66,(aB false))],[(32,z19_1),(320,(.cells (g49 a0))),(368,(z19_2 y10)),(1856,(.cells [(.d (.int .u8 y13.2)),(.d (.int .u8 y16.2)),(.d (.int .u8 y19.2))]))],[4064],4144⟩) (.nx ()) (fun _=>(.se (.ce (.sg [] [(4,[4,13,14],[32,1856])] (.ret (.exit 2) _ (.inr (.inr (.inl (y19.1,y13.2,y16.2,y19.2)))) ⟨rfl,rfl,rfl,Weak.refl _⟩)))))))))))))) fun y20=>(.sg [] [(1,[4,5,6],[32])] (.ret .ret ⟨[(4,(.ptr 32 0)),(5,(.ap 1 y20.1.length (cF D.str y20.1) (.tok 4064 9))),(6,(aI 0))],[(32,(.cells [(.d (.int .u8 y20.2.1)),(.d (.int .u8 y20.2.2.1)),(.d (.int .u8 y20.2.2.2))]))],[4064],4320⟩ ((⟨y20.2.1,y20.2.2.1,y20.2.2.2⟩:T49),y20.1,(0:Int)) ⟨rfl,_,Weak.refl _,⟨dr,dr,dr,trivial⟩⟩))))))))
noncomputable def m19 (a0:T49) (a1:Int):Option (T49×(List (List UInt8))×Int):=(d19 a0 a1).m
theorem p19 {a0:T49} {a1:Int} {r:T49×(List (List UInt8))×Int} (h:m19 a0 a1=some r):PureAt Tryz.prog 19 [(e49 a0),(.int .u32 a1)] (E19 r):=pure_jd (d19 a0 a1) Tryz.func19 h
noncomputable def d60 (a0:T49):JF Tryz.prog Tryz.f60 [(e49 a0)] (fun(r:(List UInt8))=>(.str r)) :=
 (.sg [(1,tm1 4 D.bool),(3,⟨(List UInt8)×(List UInt8)×(List UInt8),fun x=>[(8,(.str x.1)),(12,(.str x.2.1)),(17,(.str x.2.2))],fun x=>[],[]⟩)] [(1,[2],[])] (c3 (@p23 a0) fun x1=>(.ite (!x1) (.ret .ret ⟨[(2,(aS ([]:List UInt8)))],[],[],112⟩ ([]:List UInt8) ⟨rfl,_,Weak.refl _,dr⟩) (.exi ((List UInt8)×(List UInt8)×(List UInt8)) ((m63 (1:Int) a0.Lateral).bind fun r3_0=>(if r3_0.length+([32]:List UInt8).length≤9223372036854775807 then((m63 (2:Int) a0.Vertical).bind fun r3_1=>(if(r3_0++([32]:List UInt8)).length+r3_1.length≤9223372036854775807 then(if((r3_0++([32]:List UInt8))++r3_1).length+([32]:List UInt8).length≤9223372036854775807 then((m63 (3:Int) a0.Phase).bind fun r3_2=>(if(((r3_0++([32]:List UInt8))++r3_1)++([32]:List UInt8)).length+r3_2.length≤9223372036854775807 then some (r3_0,r3_1,r3_2)else none))else none)else none))else none)) (fun x3=>(.p (PureAt Tryz.prog 63 [(dI 1),(.int .u8 a0.Lateral)] (.str x3.1)) (.p (x3.1.length+([32]:List UInt8).length≤9223372036854775807) (.p (PureAt Tryz.prog 63 [(dI 2),(.int .u8 a0.Vertical)] (.str x3.2.1)) (.p ((x3.1++([32]:List UInt8)).length+x3.2.1.length≤9223372036854775807) (.p (((x3.1++([32]:List UInt8))++x3.2.1).length+([32]:List UInt8).length≤9223372036854775807) (.p (PureAt Tryz.prog 63 [(dI 3),(.int .u8 a0.Phase)] (.str x3.2.2)) (.p ((((x3.1++([32]:List UInt8))++x3.2.1)++([32]:List UInt8)).length+x3.2.2.length≤9223372036854775807) (.fin 0))))))))) (by intro x3 h;obtain⟨r3_0,h1,h⟩:=Option.bind_eq_some_iff.1 h;obtain⟨h2,h⟩:=if_some h;obtain⟨r3_1,h3,h⟩:=Option.bind_eq_some_iff.1 h;obtain⟨h4,h⟩:=if_some h;obtain⟨h5,h⟩:=if_some h;obtain⟨r3_2,h6,h⟩:=Option.bind_eq_some_iff.1 h;obtain⟨h7,h⟩:=if_some h;cases h;exact⟨p63 h1,h2,p63 h3,h4,h5,p63 h6,h7,trivial⟩) (fun x3 _=>(.ret .ret ⟨[(2,(aS ((((x3.1++([32]:List UInt8))++x3.2.1)++([32]:List UInt8))++x3.2.2)))],[],[],320⟩ ((((x3.1++([32]:List UInt8))++x3.2.1)++([32]:List UInt8))++x3.2.2) ⟨rfl,_,Weak.refl _,dr⟩))))))
noncomputable def m60 (a0:T49):Option ((List UInt8)):=(d60 a0).m
theorem p60 {a0:T49} {r:(List UInt8)} (h:m60 a0=some r):PureAt Tryz.prog 60 [(e49 a0)] (.str r):=pure_jd (d60 a0) Tryz.func60 h
noncomputable def d18:JF Tryz.prog Tryz.f18 [] (fun(r:Bool)=>(.bool r)) :=
 (.sg [(1,⟨T49×(T49×(List (List UInt8))×Int),fun x=>[(8,(e49 x.1)),(9,(.tup [(e49 x.2.1),(eSl 1 D.str x.2.2.1),(dI x.2.2.2)]))],fun x=>[],[]⟩),(2,tm1 15 (fun(x:(T49×(List (List UInt8))×Int))=>(.tup [(e49 x.1),(eSl 1 D.str x.2.1),(dI x.2.2)]))),(3,⟨(List UInt8)×(List UInt8),fun x=>[(20,(.str x.1)),(33,(.str x.2))],fun x=>[],[]⟩)] [(1,[0],[])] (.exi (T49×(T49×(List (List UInt8))×Int)) ((m59 ).bind fun r1_0=>((m19 r1_0 (16385:Int)).bind fun r1_1=>some (r1_0,r1_1))) (fun x1=>(.p (PureAt Tryz.prog 59 [] (e49 x1.1)) (.p (PureAt Tryz.prog 19 [(e49 x1.1),(.int .u32 16385)] (.tup [(e49 x1.2.1),(eSl 1 D.str x1.2.2.1),(dI x1.2.2.2)])) (.fin 0)))) (by intro x1 h;obtain⟨r1_0,h1,h⟩:=Option.bind_eq_some_iff.1 h;obtain⟨r1_1,h2,h⟩:=Option.bind_eq_some_iff.1 h;cases h;exact⟨p59 h1,p19 h2,trivial⟩) (fun x1 _=>(c3 (@p19 x1.2.1 (28:Int)) fun x2=>(.exi ((List UInt8)×(List UInt8)) ((m60 x1.2.1).bind fun r3_0=>((if(((r3_0==([82,79,76,76,32,72,79,76,68,32,84,65,75,69,79,70,70]:List UInt8))&&((x1.2.2.1.length:Int)==(0:Int)))&&(x1.2.2.2==0))=true then m60 x2.1 else some default).bind fun r3_1=>(if(((((r3_0==([82,79,76,76,32,72,79,76,68,32,84,65,75,69,79,70,70]:List UInt8))&&((x1.2.2.1.length:Int)==(0:Int)))&&(x1.2.2.2==0))&&(r3_1==([78,65,86,32,72,79,76,68,32,84,65,75,69,79,70,70]:List UInt8)))&&((x2.2.1.length:Int)==(1:Int)))=true→(0:Int)≤(0:Int)then(if(((((r3_0==([82,79,76,76,32,72,79,76,68,32,84,65,75,69,79,70,70]:List UInt8))&&((x1.2.2.1.length:Int)==(0:Int)))&&(x1.2.2.2==0))&&(r3_1==([78,65,86,32,72,79,76,68,32,84,65,75,69,79,70,70]:List UInt8)))&&((x2.2.1.length:Int)==(1:Int)))=true→0 < (x2.2.1.length:Int)then some (r3_0,r3_1)else none)else none))) (fun x3=>(.p (PureAt Tryz.prog 60 [(e49 x1.2.1)] (.str x3.1)) (.g (((x3.1==([82,79,76,76,32,72,79,76,68,32,84,65,75,69,79,70,70]:List UInt8))&&((x1.2.2.1.length:Int)==(0:Int)))&&(x1.2.2.2==0)) (PureAt Tryz.prog 60 [(e49 x2.1)] (.str x3.2)) (.g (((((x3.1==([82,79,76,76,32,72,79,76,68,32,84,65,75,69,79,70,70]:List UInt8))&&((x1.2.2.1.length:Int)==(0:Int)))&&(x1.2.2.2==0))&&(x3.2==([78,65,86,32,72,79,76,68,32,84,65,75,69,79,70,70]:List UInt8)))&&((x2.2.1.length:Int)==(1:Int))) ((0:Int)≤(0:Int)) (.g (((((x3.1==([82,79,76,76,32,72,79,76,68,32,84,65,75,69,79,70,70]:List UInt8))&&((x1.2.2.1.length:Int)==(0:Int)))&&(x1.2.2.2==0))&&(x3.2==([78,65,86,32,72,79,76,68,32,84,65,75,69,79,70,70]:List UInt8)))&&((x2.2.1.length:Int)==(1:Int))) (0 < (x2.2.1.length:Int)) (.fin 0)))))) (by intro x3 h;obtain⟨r3_0,h1,h⟩:=Option.bind_eq_some_iff.1 h;obtain⟨r3_1,h2,h⟩:=Option.bind_eq_some_iff.1 h;obtain⟨h3,h⟩:=if_some h;obtain⟨h4,h⟩:=if_some h;cases h;exact⟨p60 h1,fun g=>p60 (by rw[if_pos g]at h2;exact h2),h3,h4,trivial⟩) (fun x3 _=>(.ret .ret ⟨[(0,(aB (((((((x3.1==([82,79,76,76,32,72,79,76,68,32,84,65,75,69,79,70,70]:List UInt8))&&((x1.2.2.1.length:Int)==(0:Int)))&&(x1.2.2.2==0))&&(x3.2==([78,65,86,32,72,79,76,68,32,84,65,75,69,79,70,70]:List UInt8)))&&((x2.2.1.length:Int)==(1:Int)))&&((x2.2.1.getD (0:Int).toNat default)==([67,65,80,84,85,82,69,68]:List UInt8)))&&(x2.2.2==0))))],[],[],880⟩ (((((((x3.1==([82,79,76,76,32,72,79,76,68,32,84,65,75,69,79,70,70]:List UInt8))&&((x1.2.2.1.length:Int)==(0:Int)))&&(x1.2.2.2==0))&&(x3.2==([78,65,86,32,72,79,76,68,32,84,65,75,69,79,70,70]:List UInt8)))&&((x2.2.1.length:Int)==(1:Int)))&&((x2.2.1.getD (0:Int).toNat default)==([67,65,80,84,85,82,69,68]:List UInt8)))&&(x2.2.2==0)) ⟨rfl,_,Weak.refl _,dr⟩)))))))
noncomputable def m18:Option (Bool):=(d18 ).m
theorem p18 {r:Bool} (h:m18  = some r):PureAt Tryz.prog 18 [] (.bool r):=pure_jd (d18 ) Tryz.func18 h
noncomputable def d21 (a0 a1:Int):JF Tryz.prog Tryz.f21 [(dI a0),(.int .u32 a1)] (fun(r:Int×Int)=>(.tup [(.int .u16 r.1),(dI r.2)])) :=
 (.sg [(1,tm1 12 (fun(x:(T27×Int))=>(.tup [(e27 x.1),(dI x.2)]))),(2,tm1 19 (eSl 1 D.str)),(4,tm1 27 (fun(x:(Int×Bool))=>(.tup [(.int .u16 x.1),(.bool x.2)])))] [(1,[4,5],[])] (c3 (@p20 a0) fun x1=>(.exi ((List (List UInt8))) ((if(!(x1.2 != 0))=true then m24  else some default).bind fun r2_0=>(if(!(x1.2 != 0))=true→0≤(r2_0.length:Int)then some r2_0 else none)) (fun x2=>(.g (!(x1.2 != 0)) (PureAt Tryz.prog 24 [] (eSl 1 D.str x2)) (.g (!(x1.2 != 0)) (0≤(x2.length:Int)) (.fin 0)))) (by intro x2 h;obtain⟨r2_0,h1,h⟩:=Option.bind_eq_some_iff.1 h;obtain⟨h2,h⟩:=if_some h;cases h;exact⟨fun g=>p24 (by rw[if_pos g]at h1;exact h1),h2,trivial⟩) (fun x2 _=>(.ite ((x1.2 != 0) || ((Int.fdiv a1 (2 ^ (min (x2.length:Int).toNat (IntKind.bits .u32)))) != 0)) (.ret .ret ⟨[(4,(.d (.int .u16 0))),(5,(aI 1))],[],[],352⟩ ((0:Int),(1:Int)) ⟨rfl,_,Weak.refl _,⟨dr,dr,trivial⟩⟩) (c3 (@p61 x1.1 a1) fun x4=>(.ite (!x4.2) (.ret .ret ⟨[(4,(.d (.int .u16 0))),(5,(aI 11))],[],[],512⟩ ((0:Int),(11:Int)) ⟨rfl,_,Weak.refl _,⟨dr,dr,trivial⟩⟩) (.ret .ret ⟨[(4,(.d (.int .u16 x4.1))),(5,(aI 0))],[],[],528⟩ (x4.1,(0:Int)) ⟨rfl,_,Weak.refl _,⟨dr,dr,trivial⟩⟩))))))))
noncomputable def m21 (a0 a1:Int):Option (Int×Int):=(d21 a0 a1).m
theorem p21 {a0:Int} {a1:Int} {r:Int×Int} (h:m21 a0 a1=some r):PureAt Tryz.prog 21 [(dI a0),(.int .u32 a1)] (.tup [(.int .u16 r.1),(dI r.2)]):=pure_jd (d21 a0 a1) Tryz.func21 h
noncomputable abbrev z5_0 (a0:T49) (y1:(List (List UInt8))×T49):List (Nat×Ob):=[(16,(.cells (g49 a0))),(192,(.cells (g49 y1.2)))]
noncomputable abbrev z5_1 (y13:(List (List UInt8))):AV:=(.ap 1 y13.length (cF D.str y13) (.tok 2896 9))
noncomputable abbrev z5_2 (y7:(List (List UInt8))):AV:=(.ap 1 y7.length (cF D.str y7) (.tok 1568 9))
noncomputable abbrev z5_3 (a1:Int) (y1:(List (List UInt8))×T49) (y2:Int×Int×T27):List (Nat×AV):=[(1,(.d (.int .u32 a1))),(2,(.ptr 16 0)),(5,(.ptr 192 0)),(6,(.d (eSl 1 D.str y1.1))),(8,aN),(9,(aI 1)),(10,(.ptr 432 0)),(12,(.d (.int .u16 y2.1))),(14,(.ptr 816 0))]
noncomputable abbrev z5_4 (a0:T49):AV:=(aI (IntKind.wrap .i64 (a0.Vertical)))
noncomputable abbrev z5_5 (a0:T49):AV:=(aI (IntKind.wrap .i64 (a0.Lateral)))
noncomputable abbrev z5_6 (a0:T49):AV:=(aI (IntKind.wrap .i64 (a0.Phase)))
noncomputable abbrev z5_7 (a1:Int) (y1:(List (List UInt8))×T49) (y7:(List (List UInt8))) (y8:Int×Int×T27):List (Nat×AV):=[(1,(.d (.int .u32 a1))),(2,(.ptr 16 0)),(5,(.ptr 192 0)),(6,(.d (eSl 1 D.str y1.1))),(8,(z5_2 y7)),(9,(aI 2)),(10,(.ptr 1760 0)),(12,(.d (.int .u16 y8.1))),(14,(.ptr 2144 0))]
noncomputable abbrev z5_8 (a1:Int) (y1:(List (List UInt8))×T49) (y13:(List (List UInt8))) (y14:Int×Int×T27):List (Nat×AV):=[(1,(.d (.int .u32 a1))),(2,(.ptr 16 0)),(5,(.ptr 192 0)),(6,(.d (eSl 1 D.str y1.1))),(8,(z5_1 y13)),(9,(aI 3)),(10,(.ptr 3088 0)),(12,(.d (.int .u16 y14.1))),(14,(.ptr 3472 0))]
noncomputable def d5 (a0:T49) (a1:Int):JF Tryz.prog Tryz.f5 [(e49 a0),(.int .u32 a1)] (fun(r:Bool)=>(.bool r)) :=
 (.sq 5 [(1,tm1 18 D.bool),(3,tm1 23 (fun(x:(T49×(List (List UInt8))×Int))=>(.tup [(e49 x.1),(eSl 1 D.str x.2.1),(dI x.2.2)])))] [(1,[4],[]),(0,[1,2,5,6,8],[16,192])] (fun(y1:(List (List UInt8))×T49)=>⟨[(1,(.d (.int .u32 a1))),(2,(.ptr 16 0)),(5,(.ptr 192 0)),(6,(.d (eSl 1 D.str y1.1))),(8,aN)],(z5_0 a0 y1),[],304⟩) (c3 (@p18) fun x1=>(.ite (!x1) (.ret .ret ⟨[(4,(aB false))],[],[],96⟩ (.inr (false)) ⟨rfl,rfl,_,Weak.refl _,dr⟩) (c3 (@p19 a0 a1) fun x3=>(.ite (x3.2.2 != 0) (.ret .ret ⟨[(4,(aB (((x3.1.Lateral==0)&&((x3.1.Vertical==0)&&((x3.1.Phase==0)&&true)))&&((x3.2.1.length:Int)==(0:Int)))))],[],[],432⟩ (.inr ((((x3.1.Lateral==0)&&((x3.1.Vertical==0)&&((x3.1.Phase==0)&&true)))&&((x3.2.1.length:Int)==(0:Int))))) ⟨rfl,rfl,_,Weak.refl _,dr⟩) (.nx (x3.2.1,x3.1)))))) (fun y1=>(.sc (fun(y20:(List (List UInt8)))=>⟨[(5,(.ptr 192 0)),(6,(.d (eSl 1 D.str y1.1))),(8,(.ap 1 y20.length (cF D.str y20) (.tok 4224 9)))],[(192,(.cells (g49 y1.2)))],[4224],4336⟩) (.sq 1 [] [(0,[1,2,5,6,8,9],[16,192])] (fun(_:Unit)=>⟨[(1,(.d (.int .u32 a1))),(2,(.ptr 16 0)),(5,(.ptr 192 0)),(6,(.d (eSl 1 D.str y1.1))),(8,aN),(9,(aI 1))],(z5_0 a0 y1),[],320⟩) (.nx ()) (fun _=>(.bk (.lu 4 (.r (fun(y7:(List (List UInt8)))=>⟨[(1,(.d (.int .u32 a1))),(2,(.ptr 16 0)),(5,(.ptr 192 0)),(6,(.d (eSl 1 D.str y1.1))),(8,(z5_2 y7)),(9,(aI 2))],(z5_0 a0 y1),[1568],1648⟩) (.sc (fun(_:Unit)=>⟨[(1,(.d (.int .u32 a1))),(2,(.ptr 16 0)),(5,(.ptr 192 0)),(6,(.d (eSl 1 D.str y1.1))),(8,aN),(9,(aI 1))],(z5_0 a0 y1),[],352⟩) (.sq 1 [] [(0,[1,2,5,6,8,9,38],[16,192])] (fun(_:Unit)=>⟨[(1,(.d (.int .u32 a1))),(2,(.ptr 16 0)),(5,(.ptr 192 0)),(6,(.d (eSl 1 D.str y1.1))),(8,aN),(9,(aI 1)),(38,(aB true))],(z5_0 a0 y1),[],352⟩) (.nx ()) (fun _=>(.ct (.sg [] [(0,[1,2,5,6,8,9],[16,192])] (.nx ()))))) fun _=>(.sc (fun(y6:(List (List UInt8)))=>⟨[(1,(.d (.int .u32 a1))),(2,(.ptr 16 0)),(5,(.ptr 192 0)),(6,(.d (eSl 1 D.str y1.1))),(8,(.ap 1 y6.length (cF D.str y6) (.tok 1568 9))),(9,(aI 1))],(z5_0 a0 y1),[1568],1600⟩) (.bk (.sq 2 [(10,tm1 43 (fun(x:(T27×Int))=>(.tup [(e27 x.1),(dI x.2)]))),(11,tm1 49 (fun(x:(Int×Int))=>(.tup [(.int .u16 x.1),(dI x.2)])))] [(0,[1,2,5,6,8,9,10,12,13],[16,192,432])] (fun(y2:Int×Int×T27)=>⟨[(1,(.d (.int .u32 a1))),(2,(.ptr 16 0)),(5,(.ptr 192 0)),(6,(.d (eSl 1 D.str y1.1))),(8,aN),(9,(aI 1)),(10,(.ptr 432 0)),(12,(.d (.int .u16 y2.1))),(13,(aI y2.2.1))],[(16,(.cells (g49 a0))),(192,(.cells (g49 y1.2))),(432,(.cells (g27 y2.2.2)))],[],608⟩) (c3 (@p20 (1:Int)) fun x10=>(c3 (@p21 (1:Int) a1) fun x11=>(.nx (x11.1,x11.2,x10.1)))) (fun y2=>(.sc (fun(_:Unit)=>⟨[(1,(.d (.int .u32 a1))),(2,(.ptr 16 0)),(5,(.ptr 192 0)),(6,(.d (eSl 1 D.str y1.1))),(8,aN),(9,(aI 1)),(10,(.ptr 432 0)),(12,(.d (.int .u16 y2.1)))],[(16,(.cells (g49 a0))),(192,(.cells (g49 y1.2))),(432,(.cells (g27 y2.2.2)))],[],640⟩) (.sq 1 [] [(0,[1,2,5,6,8,9,10,12,53],[16,192,432])] (fun(_:Unit)=>⟨[(1,(.d (.int .u32 a1))),(2,(.ptr 16 0)),(5,(.ptr 192 0)),(6,(.d (eSl 1 D.str y1.1))),(8,aN),(9,(aI 1)),(10,(.ptr 432 0)),(12,(.d (.int .u16 y2.1))),(53,(aB (y2.2.1 != 0)))],[(16,(.cells (g49 a0))),(192,(.cells (g49 y1.2))),(432,(.cells (g27 y2.2.2)))],[],640⟩) (.nx ()) (fun _=>(.cd (y2.2.1 != 0) (.sg [] [(1,[4],[])] (.ret .ret ⟨[(4,(aB false))],[],[],656⟩ (.inr (.inr (.inr (.inr (false))))) ⟨rfl,rfl,rfl,rfl,rfl,_,Weak.refl _,dr⟩)) (.sg [] [(0,[1,2,5,6,8,9,10,12],[16,192,432])] (.nx ()))))) fun _=>(.sq 1 [] [(0,[1,2,5,6,8,9,10,12,14],[16,192,432,816])] (fun(_:Unit)=>⟨(z5_3 a1 y1 y2),[(16,(.cells (g49 a0))),(192,(.cells (g49 y1.2))),(432,(.cells (g27 y2.2.2))),(816,(.cells [(z5_5 a0),aN]))],[],848⟩) (nd ((0:Int)≤(1:Int)) (nd ((1:Int) < (4:Int)) (.nx ()))) (fun _=>(.sc (fun(y4:(List Int))=>⟨(z5_3 a1 y1 y2),[(16,(.cells (g49 a0))),(192,(.cells (g49 y1.2))),(432,(.cells (g27 y2.2.2))),(816,(.cells [(z5_5 a0),(.ap 1 y4.length (cF dI y4) (.tok 976 3))]))],[976],1072⟩) (.sq 1 [] [(0,[1,2,5,6,8,9,10,12,14,67,68],[16,192,432,816])] (fun(_:Unit)=>⟨[(1,(.d (.int .u32 a1))),(2,(.ptr 16 0)),(5,(.ptr 192 0)),(6,(.d (eSl 1 D.str y1.1))),(8,aN),(9,(aI 1)),(10,(.ptr 432 0)),(12,(.d (.int .u16 y2.1))),(14,(.ptr 816 0)),(67,(aI (y2.2.2.States.length:Int))),(68,(aI 0))],[(16,(.cells (g49 a0))),(192,(.cells (g49 y1.2))),(432,(.cells (g27 y2.2.2))),(816,(.cells [(z5_5 a0),aN]))],[],912⟩) (.nx ()) (fun _=>(.bk (.lp (fun(s3:Int×(List Int))=>⟨[(1,(.d (.int .u32 a1))),(2,(.ptr 16 0)),(5,(.ptr 192 0)),(6,(.d (eSl 1 D.str y1.1))),(8,aN),(9,(aI 1)),(10,(.ptr 432 0)),(12,(.d (.int .u16 y2.1))),(14,(.ptr 816 0)),(67,(aI (y2.2.2.States.length:Int))),(68,(aI s3.1))],[(16,(.cells (g49 a0))),(192,(.cells (g49 y1.2))),(432,(.cells (g27 y2.2.2))),(816,(.cells [(z5_5 a0),(.ap 1 s3.2.length (cF dI s3.2) (.tok 976 3))]))],[976],1056⟩) ((0:Int),[]) (wk (idn [16,192,432,816]) []) fun s3=>(.sg [] [(0,[1,2,5,6,8,9,10,12,14,67,68],[16,192,432,816]),(4,[1,2,5,6,8,9,10,12,14],[16,192,432,816])] (.ite (decide (s3.1 < (y2.2.2.States.length:Int))) (nd ((s3.2.length+1) * 8≤140737488355328) (.ret .normal ⟨[(1,(.d (.int .u32 a1))),(2,(.ptr 16 0)),(5,(.ptr 192 0)),(6,(.d (eSl 1 D.str y1.1))),(8,aN),(9,(aI 1)),(10,(.ptr 432 0)),(12,(.d (.int .u16 y2.1))),(14,(.ptr 816 0)),(67,(aI (y2.2.2.States.length:Int))),(68,(aI (IntKind.wrap .i64 (s3.1+1))))],[(16,(.cells (g49 a0))),(192,(.cells (g49 y1.2))),(432,(.cells (g27 y2.2.2))),(816,(.cells [(z5_5 a0),(.ap 1 (s3.2.length+1) (appF s3.2.length (cF dI s3.2) (litF [(dI (-1))])) (.tok 1120 3))]))],[1120,1104],1200⟩ (.inl ((IntKind.wrap .i64 (s3.1+1)),(s3.2++([(-1:Int)]:List Int)))) ⟨rfl,(ws (idn [16,192,432,816]) [(976,1120)] ⟨⟨_,_,rfl,rfl,⟨dr,dr,dr,trivial⟩⟩,⟨_,_,rfl,rfl,⟨dr,dr,dr,trivial⟩⟩,⟨_,_,rfl,rfl,⟨dr,dr,dr,dr,dr,dr,trivial⟩⟩,⟨_,_,rfl,rfl,⟨dr,⟨rfl,rfl,rfl,(de_app dr (de_lit rfl rfl))⟩,trivial⟩⟩⟩)⟩)) (.ret (.exit 2) _ (.inr (.inl s3.2)) ⟨rfl,rfl,Weak.refl _⟩))))))) fun y4=>(.sq 1 [(19,tm1 80 (fun(x:(T41×(List (List UInt8))×Int))=>(.tup [(e41 x.1),(eSl 1 D.str x.2.1),(dI x.2.2)])))] [(0,[1,2,5,6,8,9,15,16,17],[16,192,1200])] (fun(y5:(List (List UInt8))×Int×T41)=>⟨[(1,(.d (.int .u32 a1))),(2,(.ptr 16 0)),(5,(.ptr 192 0)),(6,(.d (eSl 1 D.str y1.1))),(8,aN),(9,(aI 1)),(15,(.ptr 1200 0)),(16,(.d (eSl 1 D.str y5.1))),(17,(aI y5.2.1))],[(16,(.cells (g49 a0))),(192,(.cells (g49 y1.2))),(1200,(.cells (g41 y5.2.2)))],[],1264⟩) (c3 (@p16 y2.2.2 (⟨(IntKind.wrap .i64 (a0.Lateral)),y4⟩:T41) y2.1) fun x19=>(.ret .normal ⟨[(1,(.d (.int .u32 a1))),(2,(.ptr 16 0)),(5,(.ptr 192 0)),(6,(.d (eSl 1 D.str y1.1))),(8,aN),(9,(aI 1)),(15,(.ptr 1200 0)),(16,(.d (eSl 1 D.str x19.2.1))),(17,(aI x19.2.2))],[(16,(.cells (g49 a0))),(192,(.cells (g49 y1.2))),(1200,(.cells (g41 x19.1)))],[976],1264⟩ (.inl (x19.2.1,x19.2.2,x19.1)) ⟨rfl,(wk (idn [16,192,1200]) [])⟩)) (fun y5=>(.sc (fun(_:Unit)=>⟨[(1,(.d (.int .u32 a1))),(2,(.ptr 16 0)),(5,(.ptr 192 0)),(6,(.d (eSl 1 D.str y1.1))),(8,aN),(9,(aI 1)),(16,(.d (eSl 1 D.str y5.1)))],(z5_0 a0 y1),[],1536⟩) (.sq 1 [] [(0,[1,2,5,6,8,9,16,100],[16,192])] (fun(_:Unit)=>⟨[(1,(.d (.int .u32 a1))),(2,(.ptr 16 0)),(5,(.ptr 192 0)),(6,(.d (eSl 1 D.str y1.1))),(8,aN),(9,(aI 1)),(16,(.d (eSl 1 D.str y5.1))),(100,(aB ((y5.2.1 != 0) || (y5.2.2.Leaf != (IntKind.wrap .i64 (y1.2.Lateral))))))],(z5_0 a0 y1),[],1536⟩) (.needG (!(y5.2.1 != 0)) ((0:Int)≤(1:Int)) inferInstance (.needG (!(y5.2.1 != 0)) ((1:Int) < (4:Int)) inferInstance (.nx ()))) (fun _=>(.cd ((y5.2.1 != 0) || (y5.2.2.Leaf != (IntKind.wrap .i64 (y1.2.Lateral)))) (.sg [] [(1,[4],[])] (.ret .ret ⟨[(4,(aB false))],[],[],1552⟩ (.inr (.inr (.inr (.inr (false))))) ⟨rfl,rfl,rfl,rfl,rfl,_,Weak.refl _,dr⟩)) (.sg [] [(0,[1,2,5,6,8,9,16],[16,192])] (.nx ()))))) fun _=>(.sg [] [(0,[1,2,5,6,8,9],[16,192])] (nd (y5.1.length * 16≤140737488355328) (.ret .normal _ (.inl y5.1) ⟨rfl,Weak.refl _⟩))))))))))))) fun y6=>(.sg [] [(0,[1,2,5,6,8,9],[16,192])] (.nx y6)))) fun y7=>(.r (fun(y13:(List (List UInt8)))=>⟨[(1,(.d (.int .u32 a1))),(2,(.ptr 16 0)),(5,(.ptr 192 0)),(6,(.d (eSl 1 D.str y1.1))),(8,(z5_1 y13)),(9,(aI 3))],(z5_0 a0 y1),[2896],2976⟩) (.sc (fun(_:Unit)=>⟨[(1,(.d (.int .u32 a1))),(2,(.ptr 16 0)),(5,(.ptr 192 0)),(6,(.d (eSl 1 D.str y1.1))),(8,(z5_2 y7)),(9,(aI 2))],(z5_0 a0 y1),[1568],1680⟩) (.sq 1 [] [(0,[1,2,5,6,8,9,38],[16,192])] (fun(_:Unit)=>⟨[(1,(.d (.int .u32 a1))),(2,(.ptr 16 0)),(5,(.ptr 192 0)),(6,(.d (eSl 1 D.str y1.1))),(8,(z5_2 y7)),(9,(aI 2)),(38,(aB true))],(z5_0 a0 y1),[1568],1680⟩) (.nx ()) (fun _=>(.ct (.sg [] [(0,[1,2,5,6,8,9],[16,192])] (.nx ()))))) fun _=>(.sc (fun(y12:(List (List UInt8)))=>⟨[(1,(.d (.int .u32 a1))),(2,(.ptr 16 0)),(5,(.ptr 192 0)),(6,(.d (eSl 1 D.str y1.1))),(8,(.ap 1 y12.length (cF D.str y12) (.tok 2896 9))),(9,(aI 2))],(z5_0 a0 y1),[2896],2928⟩) (.bk (.sq 2 [(10,tm1 43 (fun(x:(T27×Int))=>(.tup [(e27 x.1),(dI x.2)]))),(11,tm1 49 (fun(x:(Int×Int))=>(.tup [(.int .u16 x.1),(dI x.2)])))] [(0,[1,2,5,6,8,9,10,12,13],[16,192,1760])] (fun(y8:Int×Int×T27)=>⟨[(1,(.d (.int .u32 a1))),(2,(.ptr 16 0)),(5,(.ptr 192 0)),(6,(.d (eSl 1 D.str y1.1))),(8,(z5_2 y7)),(9,(aI 2)),(10,(.ptr 1760 0)),(12,(.d (.int .u16 y8.1))),(13,(aI y8.2.1))],[(16,(.cells (g49 a0))),(192,(.cells (g49 y1.2))),(1760,(.cells (g27 y8.2.2)))],[1568],1936⟩) (c3 (@p20 (2:Int)) fun x10=>(c3 (@p21 (2:Int) a1) fun x11=>(.nx (x11.1,x11.2,x10.1)))) (fun y8=>(.sc (fun(_:Unit)=>⟨[(1,(.d (.int .u32 a1))),(2,(.ptr 16 0)),(5,(.ptr 192 0)),(6,(.d (eSl 1 D.str y1.1))),(8,(z5_2 y7)),(9,(aI 2)),(10,(.ptr 1760 0)),(12,(.d (.int .u16 y8.1)))],[(16,(.cells (g49 a0))),(192,(.cells (g49 y1.2))),(1760,(.cells (g27 y8.2.2)))],[1568],1968⟩) (.sq 1 [] [(0,[1,2,5,6,8,9,10,12,53],[16,192,1760])] (fun(_:Unit)=>⟨[(1,(.d (.int .u32 a1))),(2,(.ptr 16 0)),(5,(.ptr 192 0)),(6,(.d (eSl 1 D.str y1.1))),(8,(z5_2 y7)),(9,(aI 2)),(10,(.ptr 1760 0)),(12,(.d (.int .u16 y8.1))),(53,(aB (y8.2.1 != 0)))],[(16,(.cells (g49 a0))),(192,(.cells (g49 y1.2))),(1760,(.cells (g27 y8.2.2)))],[1568],1968⟩) (.nx ()) (fun _=>(.cd (y8.2.1 != 0) (.sg [] [(1,[4],[])] (.ret .ret ⟨[(4,(aB false))],[],[1568],1984⟩ (.inr (.inr (.inr (.inr (false))))) ⟨rfl,rfl,rfl,rfl,rfl,_,Weak.refl _,dr⟩)) (.sg [] [(0,[1,2,5,6,8,9,10,12],[16,192,1760])] (.nx ()))))) fun _=>(.sq 1 [] [(0,[1,2,5,6,8,9,10,12,14],[16,192,1760,2144])] (fun(_:Unit)=>⟨(z5_7 a1 y1 y7 y8),[(16,(.cells (g49 a0))),(192,(.cells (g49 y1.2))),(1760,(.cells (g27 y8.2.2))),(2144,(.cells [(z5_4 a0),aN]))],[1568],2176⟩) (nd ((0:Int)≤(2:Int)) (nd ((2:Int) < (4:Int)) (.nx ()))) (fun _=>(.sc (fun(y10:(List Int))=>⟨(z5_7 a1 y1 y7 y8),[(16,(.cells (g49 a0))),(192,(.cells (g49 y1.2))),(1760,(.cells (g27 y8.2.2))),(2144,(.cells [(z5_4 a0),(.ap 1 y10.length (cF dI y10) (.tok 2304 3))]))],[1568,2304],2400⟩) (.sq 1 [] [(0,[1,2,5,6,8,9,10,12,14,67,68],[16,192,1760,2144])] (fun(_:Unit)=>⟨[(1,(.d (.int .u32 a1))),(2,(.ptr 16 0)),(5,(.ptr 192 0)),(6,(.d (eSl 1 D.str y1.1))),(8,(z5_2 y7)),(9,(aI 2)),(10,(.ptr 1760 0)),(12,(.d (.int .u16 y8.1))),(14,(.ptr 2144 0)),(67,(aI (y8.2.2.States.length:Int))),(68,(aI 0))],[(16,(.cells (g49 a0))),(192,(.cells (g49 y1.2))),(1760,(.cells (g27 y8.2.2))),(2144,(.cells [(z5_4 a0),aN]))],[1568],2240⟩) (.nx ()) (fun _=>(.bk (.lp (fun(s9:Int×(List Int))=>⟨[(1,(.d (.int .u32 a1))),(2,(.ptr 16 0)),(5,(.ptr 192 0)),(6,(.d (eSl 1 D.str y1.1))),(8,(z5_2 y7)),(9,(aI 2)),(10,(.ptr 1760 0)),(12,(.d (.int .u16 y8.1))),(14,(.ptr 2144 0)),(67,(aI (y8.2.2.States.length:Int))),(68,(aI s9.1))],[(16,(.cells (g49 a0))),(192,(.cells (g49 y1.2))),(1760,(.cells (g27 y8.2.2))),(2144,(.cells [(z5_4 a0),(.ap 1 s9.2.length (cF dI s9.2) (.tok 2304 3))]))],[1568,2304],2384⟩) ((0:Int),[]) (wk (idn [16,192,1760,2144]) [(1568,1568)]) fun s9=>(.sg [] [(0,[1,2,5,6,8,9,10,12,14,67,68],[16,192,1760,2144]),(4,[1,2,5,6,8,9,10,12,14],[16,192,1760,2144])] (.ite (decide (s9.1 < (y8.2.2.States.length:Int))) (nd ((s9.2.length+1) * 8≤140737488355328) (.ret .normal ⟨[(1,(.d (.int .u32 a1))),(2,(.ptr 16 0)),(5,(.ptr 192 0)),(6,(.d (eSl 1 D.str y1.1))),(8,(z5_2 y7)),(9,(aI 2)),(10,(.ptr 1760 0)),(12,(.d (.int .u16 y8.1))),(14,(.ptr 2144 0)),(67,(aI (y8.2.2.States.length:Int))),(68,(aI (IntKind.wrap .i64 (s9.1+1))))],[(16,(.cells (g49 a0))),(192,(.cells (g49 y1.2))),(1760,(.cells (g27 y8.2.2))),(2144,(.cells [(z5_4 a0),(.ap 1 (s9.2.length+1) (appF s9.2.length (cF dI s9.2) (litF [(dI (-1))])) (.tok 2448 3))]))],[2448,2432,1568],2528⟩ (.inl ((IntKind.wrap .i64 (s9.1+1)),(s9.2++([(-1:Int)]:List Int)))) ⟨rfl,(ws (idn [16,192,1760,2144]) [(1568,1568),(2304,2448)] ⟨⟨_,_,rfl,rfl,⟨dr,dr,dr,trivial⟩⟩,⟨_,_,rfl,rfl,⟨dr,dr,dr,trivial⟩⟩,⟨_,_,rfl,rfl,⟨dr,dr,dr,dr,dr,dr,trivial⟩⟩,⟨_,_,rfl,rfl,⟨dr,⟨rfl,rfl,rfl,(de_app dr (de_lit rfl rfl))⟩,trivial⟩⟩⟩)⟩)) (.ret (.exit 2) _ (.inr (.inl s9.2)) ⟨rfl,rfl,Weak.refl _⟩))))))) fun y10=>(.sq 1 [(19,tm1 80 (fun(x:(T41×(List (List UInt8))×Int))=>(.tup [(e41 x.1),(eSl 1 D.str x.2.1),(dI x.2.2)])))] [(0,[1,2,5,6,8,9,15,16,17],[16,192,2528])] (fun(y11:(List (List UInt8))×Int×T41)=>⟨[(1,(.d (.int .u32 a1))),(2,(.ptr 16 0)),(5,(.ptr 192 0)),(6,(.d (eSl 1 D.str y1.1))),(8,(z5_2 y7)),(9,(aI 2)),(15,(.ptr 2528 0)),(16,(.d (eSl 1 D.str y11.1))),(17,(aI y11.2.1))],[(16,(.cells (g49 a0))),(192,(.cells (g49 y1.2))),(2528,(.cells (g41 y11.2.2)))],[1568],2592⟩) (c3 (@p16 y8.2.2 (⟨(IntKind.wrap .i64 (a0.Vertical)),y10⟩:T41) y8.1) fun x19=>(.ret .normal ⟨[(1,(.d (.int .u32 a1))),(2,(.ptr 16 0)),(5,(.ptr 192 0)),(6,(.d (eSl 1 D.str y1.1))),(8,(z5_2 y7)),(9,(aI 2)),(15,(.ptr 2528 0)),(16,(.d (eSl 1 D.str x19.2.1))),(17,(aI x19.2.2))],[(16,(.cells (g49 a0))),(192,(.cells (g49 y1.2))),(2528,(.cells (g41 x19.1)))],[1568,2304],2592⟩ (.inl (x19.2.1,x19.2.2,x19.1)) ⟨rfl,(wk (idn [16,192,2528]) [(1568,1568)])⟩)) (fun y11=>(.sc (fun(_:Unit)=>⟨[(1,(.d (.int .u32 a1))),(2,(.ptr 16 0)),(5,(.ptr 192 0)),(6,(.d (eSl 1 D.str y1.1))),(8,(z5_2 y7)),(9,(aI 2)),(16,(.d (eSl 1 D.str y11.1)))],(z5_0 a0 y1),[1568],2864⟩) (.sq 1 [] [(0,[1,2,5,6,8,9,16,100],[16,192])] (fun(_:Unit)=>⟨[(1,(.d (.int .u32 a1))),(2,(.ptr 16 0)),(5,(.ptr 192 0)),(6,(.d (eSl 1 D.str y1.1))),(8,(z5_2 y7)),(9,(aI 2)),(16,(.d (eSl 1 D.str y11.1))),(100,(aB ((y11.2.1 != 0) || (y11.2.2.Leaf != (IntKind.wrap .i64 (y1.2.Vertical))))))],(z5_0 a0 y1),[1568],2864⟩) (.needG (!(y11.2.1 != 0)) ((0:Int)≤(2:Int)) inferInstance (.needG (!(y11.2.1 != 0)) ((2:Int) < (4:Int)) inferInstance (.nx ()))) (fun _=>(.cd ((y11.2.1 != 0) || (y11.2.2.Leaf != (IntKind.wrap .i64 (y1.2.Vertical)))) (.sg [] [(1,[4],[])] (.ret .ret ⟨[(4,(aB false))],[],[1568],2880⟩ (.inr (.inr (.inr (.inr (false))))) ⟨rfl,rfl,rfl,rfl,rfl,_,Weak.refl _,dr⟩)) (.sg [] [(0,[1,2,5,6,8,9,16],[16,192])] (.nx ()))))) fun _=>(.sg [] [(0,[1,2,5,6,8,9],[16,192])] (nd ((y7.length+y11.1.length) * 16≤140737488355328) (.ret .normal ⟨[(1,(.d (.int .u32 a1))),(2,(.ptr 16 0)),(5,(.ptr 192 0)),(6,(.d (eSl 1 D.str y1.1))),(8,(.ap 1 (y7.length+y11.1.length) (appF y7.length (cF D.str y7) (cF D.str y11.1)) (.tok 2896 9))),(9,(aI 2))],(z5_0 a0 y1),[2896],2928⟩ (.inl (y7++y11.1)) ⟨rfl,(wh (idn [16,192]) [(2896,2896)] ⟨dr,⟨rfl,rfl⟩,⟨rfl,rfl⟩,dr,⟨rfl,rfl,rfl,(de_app dr dr)⟩,dr⟩)⟩))))))))))))) fun y12=>(.sg [] [(0,[1,2,5,6,8,9],[16,192])] (.nx y12)))) fun y13=>(.r (fun(y19:(List (List UInt8)))=>⟨[(1,(.d (.int .u32 a1))),(2,(.ptr 16 0)),(5,(.ptr 192 0)),(6,(.d (eSl 1 D.str y1.1))),(8,(.ap 1 y19.length (cF D.str y19) (.tok 4224 9))),(9,(aI 4))],(z5_0 a0 y1),[4224],4304⟩) (.sc (fun(_:Unit)=>⟨[(1,(.d (.int .u32 a1))),(2,(.ptr 16 0)),(5,(.ptr 192 0)),(6,(.d (eSl 1 D.str y1.1))),(8,(z5_1 y13)),(9,(aI 3))],(z5_0 a0 y1),[2896],3008⟩) (.sq 1 [] [(0,[1,2,5,6,8,9,38],[16,192])] (fun(_:Unit)=>⟨[(1,(.d (.int .u32 a1))),(2,(.ptr 16 0)),(5,(.ptr 192 0)),(6,(.d (eSl 1 D.str y1.1))),(8,(z5_1 y13)),(9,(aI 3)),(38,(aB true))],(z5_0 a0 y1),[2896],3008⟩) (.nx ()) (fun _=>(.ct (.sg [] [(0,[1,2,5,6,8,9],[16,192])] (.nx ()))))) fun _=>(.sc (fun(y18:(List (List UInt8)))=>⟨[(1,(.d (.int .u32 a1))),(2,(.ptr 16 0)),(5,(.ptr 192 0)),(6,(.d (eSl 1 D.str y1.1))),(8,(.ap 1 y18.length (cF D.str y18) (.tok 4224 9))),(9,(aI 3))],(z5_0 a0 y1),[4224],4256⟩) (.bk (.sq 2 [(10,tm1 43 (fun(x:(T27×Int))=>(.tup [(e27 x.1),(dI x.2)]))),(11,tm1 49 (fun(x:(Int×Int))=>(.tup [(.int .u16 x.1),(dI x.2)])))] [(0,[1,2,5,6,8,9,10,12,13],[16,192,3088])] (fun(y14:Int×Int×T27)=>⟨[(1,(.d (.int .u32 a1))),(2,(.ptr 16 0)),(5,(.ptr 192 0)),(6,(.d (eSl 1 D.str y1.1))),(8,(z5_1 y13)),(9,(aI 3)),(10,(.ptr 3088 0)),(12,(.d (.int .u16 y14.1))),(13,(aI y14.2.1))],[(16,(.cells (g49 a0))),(192,(.cells (g49 y1.2))),(3088,(.cells (g27 y14.2.2)))],[2896],3264⟩) (c3 (@p20 (3:Int)) fun x10=>(c3 (@p21 (3:Int) a1) fun x11=>(.nx (x11.1,x11.2,x10.1)))) (fun y14=>(.sc (fun(_:Unit)=>⟨[(1,(.d (.int .u32 a1))),(2,(.ptr 16 0)),(5,(.ptr 192 0)),(6,(.d (eSl 1 D.str y1.1))),(8,(z5_1 y13)),(9,(aI 3)),(10,(.ptr 3088 0)),(12,(.d (.int .u16 y14.1)))],[(16,(.cells (g49 a0))),(192,(.cells (g49 y1.2))),(3088,(.cells (g27 y14.2.2)))],[2896],3296⟩) (.sq 1 [] [(0,[1,2,5,6,8,9,10,12,53],[16,192,3088])] (fun(_:Unit)=>⟨[(1,(.d (.int .u32 a1))),(2,(.ptr 16 0)),(5,(.ptr 192 0)),(6,(.d (eSl 1 D.str y1.1))),(8,(z5_1 y13)),(9,(aI 3)),(10,(.ptr 3088 0)),(12,(.d (.int .u16 y14.1))),(53,(aB (y14.2.1 != 0)))],[(16,(.cells (g49 a0))),(192,(.cells (g49 y1.2))),(3088,(.cells (g27 y14.2.2)))],[2896],3296⟩) (.nx ()) (fun _=>(.cd (y14.2.1 != 0) (.sg [] [(1,[4],[])] (.ret .ret ⟨[(4,(aB false))],[],[2896],3312⟩ (.inr (.inr (.inr (.inr (false))))) ⟨rfl,rfl,rfl,rfl,rfl,_,Weak.refl _,dr⟩)) (.sg [] [(0,[1,2,5,6,8,9,10,12],[16,192,3088])] (.nx ()))))) fun _=>(.sq 1 [] [(0,[1,2,5,6,8,9,10,12,14],[16,192,3088,3472])] (fun(_:Unit)=>⟨(z5_8 a1 y1 y13 y14),[(16,(.cells (g49 a0))),(192,(.cells (g49 y1.2))),(3088,(.cells (g27 y14.2.2))),(3472,(.cells [(z5_6 a0),aN]))],[2896],3504⟩) (nd ((0:Int)≤(3:Int)) (nd ((3:Int) < (4:Int)) (.nx ()))) (fun _=>(.sc (fun(y16:(List Int))=>⟨(z5_8 a1 y1 y13 y14),[(16,(.cells (g49 a0))),(192,(.cells (g49 y1.2))),(3088,(.cells (g27 y14.2.2))),(3472,(.cells [(z5_6 a0),(.ap 1 y16.length (cF dI y16) (.tok 3632 3))]))],[2896,3632],3728⟩) (.sq 1 [] [(0,[1,2,5,6,8,9,10,12,14,67,68],[16,192,3088,3472])] (fun(_:Unit)=>⟨[(1,(.d (.int .u32 a1))),(2,(.ptr 16 0)),(5,(.ptr 192 0)),(6,(.d (eSl 1 D.str y1.1))),(8,(z5_1 y13)),(9,(aI 3)),(10,(.ptr 3088 0)),(12,(.d (.int .u16 y14.1))),(14,(.ptr 3472 0)),(67,(aI (y14.2.2.States.length:Int))),(68,(aI 0))],[(16,(.cells (g49 a0))),(192,(.cells (g49 y1.2))),(3088,(.cells (g27 y14.2.2))),(3472,(.cells [(z5_6 a0),aN]))],[2896],3568⟩) (.nx ()) (fun _=>(.bk (.lp (fun(s15:Int×(List Int))=>⟨[(1,(.d (.int .u32 a1))),(2,(.ptr 16 0)),(5,(.ptr 192 0)),(6,(.d (eSl 1 D.str y1.1))),(8,(z5_1 y13)),(9,(aI 3)),(10,(.ptr 3088 0)),(12,(.d (.int .u16 y14.1))),(14,(.ptr 3472 0)),(67,(aI (y14.2.2.States.length:Int))),(68,(aI s15.1))],[(16,(.cells (g49 a0))),(192,(.cells (g49 y1.2))),(3088,(.cells (g27 y14.2.2))),(3472,(.cells [(z5_6 a0),(.ap 1 s15.2.length (cF dI s15.2) (.tok 3632 3))]))],[2896,3632],3712⟩) ((0:Int),[]) (wk (idn [16,192,3088,3472]) [(2896,2896)]) fun s15=>(.sg [] [(0,[1,2,5,6,8,9,10,12,14,67,68],[16,192,3088,3472]),(4,[1,2,5,6,8,9,10,12,14],[16,192,3088,3472])] (.ite (decide (s15.1 < (y14.2.2.States.length:Int))) (nd ((s15.2.length+1) * 8≤140737488355328) (.ret .normal ⟨[(1,(.d (.int .u32 a1))),(2,(.ptr 16 0)),(5,(.ptr 192 0)),(6,(.d (eSl 1 D.str y1.1))),(8,(z5_1 y13)),(9,(aI 3)),(10,(.ptr 3088 0)),(12,(.d (.int .u16 y14.1))),(14,(.ptr 3472 0)),(67,(aI (y14.2.2.States.length:Int))),(68,(aI (IntKind.wrap .i64 (s15.1+1))))],[(16,(.cells (g49 a0))),(192,(.cells (g49 y1.2))),(3088,(.cells (g27 y14.2.2))),(3472,(.cells [(z5_6 a0),(.ap 1 (s15.2.length+1) (appF s15.2.length (cF dI s15.2) (litF [(dI (-1))])) (.tok 3776 3))]))],[3776,3760,2896],3856⟩ (.inl ((IntKind.wrap .i64 (s15.1+1)),(s15.2++([(-1:Int)]:List Int)))) ⟨rfl,(ws (idn [16,192,3088,3472]) [(2896,2896),(3632,3776)] ⟨⟨_,_,rfl,rfl,⟨dr,dr,dr,trivial⟩⟩,⟨_,_,rfl,rfl,⟨dr,dr,dr,trivial⟩⟩,⟨_,_,rfl,rfl,⟨dr,dr,dr,dr,dr,dr,trivial⟩⟩,⟨_,_,rfl,rfl,⟨dr,⟨rfl,rfl,rfl,(de_app dr (de_lit rfl rfl))⟩,trivial⟩⟩⟩)⟩)) (.ret (.exit 2) _ (.inr (.inl s15.2)) ⟨rfl,rfl,Weak.refl _⟩))))))) fun y16=>(.sq 1 [(19,tm1 80 (fun(x:(T41×(List (List UInt8))×Int))=>(.tup [(e41 x.1),(eSl 1 D.str x.2.1),(dI x.2.2)])))] [(0,[1,2,5,6,8,9,15,16,17],[16,192,3856])] (fun(y17:(List (List UInt8))×Int×T41)=>⟨[(1,(.d (.int .u32 a1))),(2,(.ptr 16 0)),(5,(.ptr 192 0)),(6,(.d (eSl 1 D.str y1.1))),(8,(z5_1 y13)),(9,(aI 3)),(15,(.ptr 3856 0)),(16,(.d (eSl 1 D.str y17.1))),(17,(aI y17.2.1))],[(16,(.cells (g49 a0))),(192,(.cells (g49 y1.2))),(3856,(.cells (g41 y17.2.2)))],[2896],3920⟩) (c3 (@p16 y14.2.2 (⟨(IntKind.wrap .i64 (a0.Phase)),y16⟩:T41) y14.1) fun x19=>(.ret .normal ⟨[(1,(.d (.int .u32 a1))),(2,(.ptr 16 0)),(5,(.ptr 192 0)),(6,(.d (eSl 1 D.str y1.1))),(8,(z5_1 y13)),(9,(aI 3)),(15,(.ptr 3856 0)),(16,(.d (eSl 1 D.str x19.2.1))),(17,(aI x19.2.2))],[(16,(.cells (g49 a0))),(192,(.cells (g49 y1.2))),(3856,(.cells (g41 x19.1)))],[2896,3632],3920⟩ (.inl (x19.2.1,x19.2.2,x19.1)) ⟨rfl,(wk (idn [16,192,3856]) [(2896,2896)])⟩)) (fun y17=>(.sc (fun(_:Unit)=>⟨[(1,(.d (.int .u32 a1))),(2,(.ptr 16 0)),(5,(.ptr 192 0)),(6,(.d (eSl 1 D.str y1.1))),(8,(z5_1 y13)),(9,(aI 3)),(16,(.d (eSl 1 D.str y17.1)))],(z5_0 a0 y1),[2896],4192⟩) (.sq 1 [] [(0,[1,2,5,6,8,9,16,100],[16,192])] (fun(_:Unit)=>⟨[(1,(.d (.int .u32 a1))),(2,(.ptr 16 0)),(5,(.ptr 192 0)),(6,(.d (eSl 1 D.str y1.1))),(8,(z5_1 y13)),(9,(aI 3)),(16,(.d (eSl 1 D.str y17.1))),(100,(aB ((y17.2.1 != 0) || (y17.2.2.Leaf != (IntKind.wrap .i64 (y1.2.Phase))))))],(z5_0 a0 y1),[2896],4192⟩) (.needG (!(y17.2.1 != 0)) ((0:Int)≤(3:Int)) inferInstance (.needG (!(y17.2.1 != 0)) ((3:Int) < (4:Int)) inferInstance (.nx ()))) (fun _=>(.cd ((y17.2.1 != 0) || (y17.2.2.Leaf != (IntKind.wrap .i64 (y1.2.Phase)))) (.sg [] [(1,[4],[])] (.ret .ret ⟨[(4,(aB false))],[],[2896],4208⟩ (.inr (.inr (.inr (.inr (false))))) ⟨rfl,rfl,rfl,rfl,rfl,_,Weak.refl _,dr⟩)) (.sg [] [(0,[1,2,5,6,8,9,16],[16,192])] (.nx ()))))) fun _=>(.sg [] [(0,[1,2,5,6,8,9],[16,192])] (nd ((y13.length+y17.1.length) * 16≤140737488355328) (.ret .normal ⟨[(1,(.d (.int .u32 a1))),(2,(.ptr 16 0)),(5,(.ptr 192 0)),(6,(.d (eSl 1 D.str y1.1))),(8,(.ap 1 (y13.length+y17.1.length) (appF y13.length (cF D.str y13) (cF D.str y17.1)) (.tok 4224 9))),(9,(aI 3))],(z5_0 a0 y1),[4224],4256⟩ (.inl (y13++y17.1)) ⟨rfl,(wh (idn [16,192]) [(4224,4224)] ⟨dr,⟨rfl,rfl⟩,⟨rfl,rfl⟩,dr,⟨rfl,rfl,rfl,(de_app dr dr)⟩,dr⟩)⟩))))))))))))) fun y18=>(.sg [] [(0,[1,2,5,6,8,9],[16,192])] (.nx y18)))) fun y19=>(.z (.se (.sq 1 [] [(0,[1,2,5,6,8,9,38],[16,192])] (fun(_:Unit)=>⟨[(1,(.d (.int .u32 a1))),(2,(.ptr 16 0)),(5,(.ptr 192 0)),(6,(.d (eSl 1 D.str y1.1))),(8,(.ap 1 y19.length (cF D.str y19) (.tok 4224 9))),(9,(aI 4)),(38,(aB false))],(z5_0 a0 y1),[4224],4336⟩) (.nx ()) (fun _=>(.ce (.sg [] [(2,[5,6,8],[192])] (.ret (.exit 0) _ (.inr (.inr (.inl y19))) ⟨rfl,rfl,rfl,Weak.refl _⟩)))))))))))))) fun y20=>(.sg [(23,⟨(List UInt8)×(List UInt8)×Bool,fun x=>[(105,(.str x.1)),(107,(.str x.2.1)),(111,(.bool x.2.2))],fun x=>[],[]⟩)] [(1,[4],[])] (.exi ((List UInt8)×(List UInt8)×Bool) ((m22 y20 ([32]:List UInt8)).bind fun r23_0=>((m22 y1.1 ([32]:List UInt8)).bind fun r23_1=>((if(r23_0==r23_1)=true then m23 y1.2 else some default).bind fun r23_2=>some (r23_0,r23_1,r23_2)))) (fun x23=>(.p (PureAt Tryz.prog 22 [(eSl 1 D.str y20),(.str ([32]:List UInt8))] (.str x23.1)) (.p (PureAt Tryz.prog 22 [(eSl 1 D.str y1.1),(.str ([32]:List UInt8))] (.str x23.2.1)) (.g (x23.1==x23.2.1) (PureAt Tryz.prog 23 [(e49 y1.2)] (.bool x23.2.2)) (.fin 0))))) (by intro x23 h;obtain⟨r23_0,h1,h⟩:=Option.bind_eq_some_iff.1 h;obtain⟨r23_1,h2,h⟩:=Option.bind_eq_some_iff.1 h;obtain⟨r23_2,h3,h⟩:=Option.bind_eq_some_iff.1 h;cases h;exact⟨p22 h1,p22 h2,fun g=>p23 (by rw[if_pos g]at h3;exact h3),trivial⟩) (fun x23 _=>(.ret .ret ⟨[(4,(aB ((x23.1==x23.2.1)&&x23.2.2)))],[],[4224],4496⟩ ((x23.1==x23.2.1)&&x23.2.2) ⟨rfl,_,Weak.refl _,dr⟩)))))))
noncomputable def m5 (a0:T49) (a1:Int):Option (Bool):=(d5 a0 a1).m
theorem p5 {a0:T49} {a1:Int} {r:Bool} (h:m5 a0 a1=some r):PureAt Tryz.prog 5 [(e49 a0),(.int .u32 a1)] (.bool r):=pure_jd (d5 a0 a1) Tryz.func5 h
end Go.Av
namespace Go.Av
def firstR {Y:Type} (f:Nat→Option Y) (n:Nat):Option Y:=(List.range n).findSome? f
theorem firstR_succ {Y:Type} {f:Nat→Option Y} {n:Nat}:firstR f (n+1)=match firstR f n with | some y=>some y | none=>f n:=by
 unfold firstR
 rw[List.range_succ,List.findSome?_append]
 cases (List.range n).findSome? f with
 | some y=>rfl
 | none=>simp
theorem firstR_none {Y:Type} {f:Nat→Option Y} {n:Nat}:firstR f n=none↔∀ i,i < n→f i=none:=by
 unfold firstR
 rw[List.findSome?_eq_none_iff]
 exact⟨fun h i hi=>h i (List.mem_range.2 hi),fun h i hi=>h i (List.mem_range.1 hi)⟩
theorem firstR_some {Y:Type} {f:Nat→Option Y} {n:Nat} {y:Y} (h:firstR f n=some y):∃ i,i < n∧f i=some y:=by
 unfold firstR at h
 obtain⟨i,hi,h⟩:=List.exists_of_findSome?_eq_some h
 exact⟨i,List.mem_range.1 hi,h⟩
theorem firstR_at {Y:Type} {f:Nat→Option Y} {n i:Nat} {y:Y} (hi:i < n) (h0:∀ j,j < i→f j=none) (h:f i=some y):firstR f n=some y:=by
 induction n with
 | zero=>omega
 | succ n ih =>
  rw[firstR_succ]
  by_cases hn:i < n
  ·rw[ih hn]
  ·obtain rfl:i=n:=by omega
   rw[firstR_none.2 h0,h]
def anyR (F:Nat→Bool) (n:Nat):Bool:=(List.range n).any F
theorem anyR_iff {F:Nat→Bool} {n:Nat}:anyR F n=true↔∃ i,i < n∧F i=true:=by
 simp only[anyR,List.any_eq_true,List.mem_range]
theorem anyR_false {F:Nat→Bool} {n:Nat}:anyR F n=false↔∀ i,i < n→F i=false:=by
 rw[← Bool.not_eq_true,anyR_iff]
 exact⟨fun h i hi=>by cases hf:F i with | false=>rfl | true=>exact absurd ⟨i,hi,hf⟩ h,fun h ⟨i,hi,hf⟩=>by rw[h i hi]at hf;cases hf⟩
theorem anyR_congr {F G:Nat→Bool} {n:Nat} (h:∀ i,i < n→F i=G i):anyR F n=anyR G n:=by
 rw[Bool.eq_iff_iff,anyR_iff,anyR_iff]
 exact⟨fun⟨i,hi,hf⟩=>⟨i,hi,by rw[← h i hi];exact hf⟩,fun⟨i,hi,hf⟩=>⟨i,hi,by rw[h i hi];exact hf⟩⟩
theorem firstR_any {Y:Type} {F:Nat→Bool} {g:Nat→Y} {n:Nat}:(firstR (fun i=>if F i=true then some (g i)else none) n).isSome=anyR F n:=by
 rw[Bool.eq_iff_iff,anyR_iff,Option.isSome_iff_ne_none,ne_eq,firstR_none]
 constructor
 ·intro h
  apply Classical.byContradiction
  intro hn
  exact h fun i hi=>by
   rw[if_neg]
   exact fun hf=>hn ⟨i,hi,hf⟩
 ·rintro⟨i,hi,hf⟩ h
  have:=h i hi
  rw[if_pos hf]at this;cases this
theorem firstR_const {Y:Type} {F:Nat→Bool} {y:Y} {n:Nat}:firstR (fun i=>if F i=true then some y else none) n=if anyR F n=true then some y else none:=by
 rw[← firstR_any (g:=fun _=>y)]
 cases h:firstR (fun i=>if F i=true then some y else none) n with
 | none=>rfl
 | some z =>
  obtain⟨i,_,h⟩:=firstR_some h
  split at h
  ·injection h with h;subst h;rfl
  ·cases h
def findR (F:Nat→Bool) (n:Nat):Int:=(firstR (fun i=>if F i=true then some (i:Int)else none) n).getD (-1)
theorem findR_any {F:Nat→Bool} {n:Nat}:decide (0≤findR F n)=anyR F n:=by
 rw[← firstR_any (g:=fun i=>(i:Int))]
 unfold findR
 cases h:firstR (fun i=>if F i=true then some (i:Int)else none) n with
 | none=>rfl
 | some y =>
  obtain⟨i,_,h⟩:=firstR_some h
  split at h
  ·injection h with h;subst h;simp
  ·cases h
def orK {R:Type} (o k:Option R):Option R:=match o with
 | some y=>some y
 | none=>k
theorem orK_some {R:Type} {y:R} {k:Option R}:orK (some y) k=some y:=rfl
theorem orK_none {R:Type} {k:Option R}:orK none k=k:=rfl
theorem orK_getD {R:Type} {a:Option R} {d:R}:orK a (some d)=some (a.getD d):=by cases a<;>rfl
theorem orK_total {R:Type} {o k:Option R} (h:∃ y,k=some y):∃ y,orK o k=some y:=by
 cases o with
 | some y=>exact⟨y,rfl⟩
 | none=>exact h
theorem ite_total {R:Type} {p:Prop} [Decidable p] {y:R} {k:Option R} (h:∃ y,k=some y):∃ z,(if p then some y else k)=some z:=by
 split
 ·exact⟨y,rfl⟩
 ·exact h
def exB {S R:Type} (o:Option R) (s:S):Option (S⊕(Unit⊕R)):=match o with
 | some y=>some (.inr (.inr y))
 | none=>some (.inl s)
theorem exB_some {S R:Type} {y:R} {s:S}:exB (some y) s=some (.inr (.inr y)):=rfl
theorem exB_none {S R:Type} {s:S}:exB (none:Option R) s=some (.inl s):=rfl
theorem exB_ite {S R:Type} {p:Prop} [Decidable p] {a b:Option R} {s:S}:exB (if p then a else b) s=if p then exB a s else exB b s:=by split<;>rfl
theorem some_ite {α:Type} {p:Prop} [Decidable p] {a b:α}:some (if p then a else b)=if p then some a else some b:=by split<;>rfl
theorem loop_ex_from {R:Type} {b:Int→Option (Int⊕(Unit⊕R))} (n:Nat) (f:Nat→Option R) (hb:∀ i:Nat,i < n→b i=exB (f i) ((i:Int)+1)) (hd:b n=some (.inr (.inl ()))) :
  ∀ (k i0:Nat),i0+k=n→(∀ i,i < i0→f i=none)→loopO b i0=match firstR f n with | some y=>some (.inr y) | none=>some (.inl ())
 | 0,i0,hk,h0=>by
  obtain rfl:i0=n:=by omega
  rw[loopO_eq,hd,firstR_none.2 h0];rfl
 | k+1,i0,hk,h0=>by
  rw[loopO_eq,hb i0 (by omega)]
  cases hf:f i0 with
  | some y=>rw[firstR_at (by omega) h0 hf];rfl
  | none =>
   have:=loop_ex_from n f hb hd k (i0+1) (by omega) (fun i hi=>by
    by_cases h:i < i0
    ·exact h0 i h
    ·obtain rfl:i=i0:=by omega
     exact hf)
   rw[exB_none]
   simpa using this
theorem loop_ex {R:Type} {b:Int→Option (Int⊕(Unit⊕R))} {k:Unit→Option R} (n:Nat) (f:Nat→Option R) (hb:∀ i:Nat,i < n→b i=exB (f i) ((i:Int)+1)) (hd:b n=some (.inr (.inl ()))) :
  (loopO b 0).bind (onS k)=orK (firstR f n) (k ()):=by
 have:=loop_ex_from n f hb hd n 0 (by omega) (fun i hi=>by omega)
 rw[show ((0:Nat):Int)=0 from rfl]at this
 rw[this]
 cases firstR f n<;>rfl
theorem loop_or {R:Type} {b:Int→Option (Int⊕(Unit⊕R))} {k:Unit→Option R} (n:Nat) (f:Nat→Option R) (hb:∀ i:Nat,i < n→b i=exB (f i) ((i:Int)+1)) (hd:b n=some (.inr (.inl ()))) {z:Option R} (hk:k ()=z) :
  (loopO b 0).bind (onS k)=orK (firstR f n) z:=by rw[loop_ex n f hb hd,hk]
theorem ite_else {α:Type} {p:Prop} [Decidable p] {a b b':α} (h:b=b'):(if p then a else b)=if p then a else b':=by rw[h]
theorem on_l {Y R:Type} {m:Option (Y⊕R)} {y:Y} {f:Y→Option R} {z:Option R} (h:m=some (.inl y)) (hf:f y=z):m.bind (onS f)=z:=by rw[h];exact hf
theorem flatMap_app {A:Type} (g:Nat→List A) (n:Nat):(List.range (n+1)).flatMap g=(List.range n).flatMap g++g n:=by rw[List.range_succ,List.flatMap_append];simp
theorem loop_coll {A St X:Type} {b:St→Option (St⊕X)} (n:Nat) (mk:Nat→List A→St) (g:Nat→List A) (out:List A→X)
  (hs:∀ i,i < n→b (mk i ((List.range i).flatMap g))=some (.inl (mk (i+1) ((List.range i).flatMap g++g i)))) (he:b (mk n ((List.range n).flatMap g))=some (.inr (out ((List.range n).flatMap g)))) :
  loopO b (mk 0 [])=some (out ((List.range n).flatMap g)):=by
 have key:∀ k i,i+k=n→loopO b (mk i ((List.range i).flatMap g))=some (out ((List.range n).flatMap g)):=by
  intro k
  induction k with
  | zero =>
   intro i hk
   obtain rfl:i=n:=by omega
   rw[loopO_eq,he];rfl
  | succ k ih =>
   intro i hk
   rw[loopO_eq,hs i (by omega),← flatMap_app]
   exact ih (i+1) (by omega)
 exact key n 0 (by omega)
theorem flatMap_len {A:Type} {g:Nat→List A} {m:Nat} (h:∀ i,(g i).length≤m):∀ n,((List.range n).flatMap g).length≤n * m
 | 0=>by simp
 | n+1=>by
  have:=flatMap_len h n
  have:=h n
  rw[flatMap_app,List.length_append,Nat.succ_mul];omega
theorem wr1 {i n:Nat} (h:i < n) (hn:n≤4611686018427387904):IntKind.wrap .i64 ((i:Int)+1)=(i:Int)+1:=w64 (by omega) (by omega)
theorem lt_irr {n:Nat}:¬ ((n:Int) < (n:Int)):=Int.lt_irrefl _
theorem subL_getD {α:Type} [Inhabited α] {l:List α} {k j:Nat} (h:j < k):(subL l 0 k).getD j default=l.getD j default:=by
 simp[subL,List.getD_eq_getElem?_getD,List.getElem?_range h]
theorem inL {i:Nat} {n:Nat} (h:i < n):((0:Int)≤(i:Int))=True∧((i:Int) < (n:Int))=True∧(decide ((i:Int) < (n:Int))=true)=True:=by
 refine⟨eq_true (by omega),eq_true (by omega),eq_true (by simpa using h)⟩
end Go.Av
set_option maxRecDepth 100000
namespace Go.Av.Ch
def odd1 (c:Int):Bool:=(decide (c < 65) || decide (90 < c))&&(decide (c < 48) || decide (57 < c))
def nm0 (s:List UInt8):Bool:=decide (s.length=0) || decide (8 < s.length) || decide (byteAt s 0 < 65) || decide (90 < byteAt s 0)
def nm (s:List UInt8):Bool:=!nm0 s&&!anyR (fun i=>odd1 (byteAt s i)) s.length
theorem nm_loop {s:List UInt8} (hl:s.length≤8) {b:Int→Option (Int⊕(Unit⊕Bool))} (hb:∀ i:Nat,i < s.length→b i=exB (if odd1 (byteAt s i)=true then some false else none) ((i:Int)+1)) (hd:b s.length=some (.inr (.inl ()))) :
  (loopO b 0).bind (onS fun _=>some true)=some (!anyR (fun i=>odd1 (byteAt s i)) s.length):=by
 rw[loop_ex s.length _ hb hd,firstR_const]
 cases anyR (fun i=>odd1 (byteAt s i)) s.length<;>rfl
theorem nm_rname (s:List UInt8):m122 s 8=some (nm s):=by
 have e0:(((s.length:Int)==(0:Int)) || (decide ((8:Int) < (s.length:Int))))=(decide (s.length=0) || decide (8 < s.length)):=by
  rw[Bool.eq_iff_iff];simp only[Bool.or_eq_true,decide_eq_true_eq,beq_iff_eq];omega
 delta m122 d122
 simp only[↓JD.sg_m,↓JD.sq_m,↓JD.sc_m,↓JD.bk_m,↓JD.lp_m,↓JD.cd_m,↓JD.lu_m,↓JD.ct_m,↓JD.ce_m,↓JL.r_m,↓JL.z_m,↓JD.se_m,onE_r,↓Tr.run,↓Tr.run_nd,↓Tr.run_c3,↓Tr.run_c2,↓Tr.run_nx,↓onS,bind_ite,Option.bind_some,Option.bind_none,obR,e0,Int.toNat_zero,Int.le_refl,implies_true,if_true]
 cases h1:(decide (s.length=0) || decide (8 < s.length)) with
 | true=>simp only[Bool.true_or,Bool.not_true,Bool.false_eq_true,false_implies,if_true,nm,nm0,h1,Bool.false_and]
 | false =>
  have hl:s.length≤8∧0 < s.length:=by simp only[Bool.or_eq_false_iff,decide_eq_false_iff_not]at h1;omega
  have z2:(0:Int) < s.length:=by omega
  simp only[Bool.false_or,z2,implies_true,if_true,nm,nm0,h1]
  cases h2:(decide (byteAt s 0 < 65) || decide (90 < byteAt s 0)) with
  | true=>rfl
  | false =>
   simp only[Bool.false_eq_true,if_false,Bool.not_false,Bool.true_and]
   refine nm_loop hl.1 (fun i hi=>?_) ?_
   ·(simp only[exB_ite,exB_some,exB_none];simp only[inL hi,decide_true,Int.toNat_natCast,if_true,implies_true,wr1 hi (by omega)];try rfl)
   ·(simp only[lt_irr,decide_false,Bool.false_eq_true,if_false];try rfl)
theorem nm_name (s:List UInt8):m75 s=some (nm s):=by
 delta m75 d75
 simp only[↓JD.sg_m,↓JD.sq_m,↓JD.sc_m,↓JD.bk_m,↓JD.lp_m,↓JD.cd_m,↓JD.lu_m,↓JD.ct_m,↓JD.ce_m,↓JL.r_m,↓JL.z_m,↓JD.se_m,onE_r,↓Tr.run,↓Tr.run_nd,↓Tr.run_c3,↓Tr.run_c2,↓Tr.run_nx,↓onS,bind_ite,Option.bind_some,Option.bind_none,obR,nm_rname]
def hasK {α:Type} [BEq α] [Inhabited α] (l:List α) (k:Nat) (x:α):Bool:=anyR (fun i=>x==l.getD i default) k
theorem hasK_sub {α:Type} [BEq α] [Inhabited α] {l:List α} {k:Nat} {x:α}:hasK (subL l 0 k) k x=hasK l k x:=anyR_congr fun i hi=>by rw[subL_getD hi]
theorem idx_loop {n:Nat} {F:Nat→Bool} {b:Int→Option (Int⊕(Unit⊕Int))} (hb:∀ i:Nat,i < n→b i=exB (if F i=true then some (i:Int)else none) ((i:Int)+1)) (hd:b n=some (.inr (.inl ()))) :
  (loopO b 0).bind (onS fun _=>some (-1))=some (findR F n):=by
 rw[loop_ex n _ hb hd,orK_getD];rfl
theorem containsS_eq (l:List (List UInt8)) (x:List UInt8) (hl:l.length≤100000):m88 l x=some (hasK l l.length x):=by
 have e:m108 l x=some (findR (fun i=>x==l.getD i default) l.length):=by
  delta m108 d108
  simp only[↓JD.sg_m,↓JD.sq_m,↓JD.sc_m,↓JD.bk_m,↓JD.lp_m,↓JD.cd_m,↓JD.lu_m,↓JD.ct_m,↓JD.ce_m,↓JL.r_m,↓JL.z_m,↓JD.se_m,onE_r,↓Tr.run,↓Tr.run_nd,↓Tr.run_c3,↓Tr.run_c2,↓Tr.run_nx,↓onS,bind_ite,Option.bind_some,Option.bind_none,obR]
  refine idx_loop (fun i hi=>?_) ?_
  ·(simp only[exB_ite,exB_some,exB_none];simp only[inL hi,decide_true,Int.toNat_natCast,if_true,implies_true,wr1 hi (by omega)];try rfl)
  ·(simp only[lt_irr,decide_false,Bool.false_eq_true,if_false];try rfl)
 delta m88 d88
 simp only[↓JD.sg_m,↓JD.sq_m,↓JD.sc_m,↓JD.bk_m,↓JD.lp_m,↓JD.cd_m,↓JD.lu_m,↓JD.ct_m,↓JD.ce_m,↓JL.r_m,↓JL.z_m,↓JD.se_m,onE_r,↓Tr.run,↓Tr.run_nd,↓Tr.run_c3,↓Tr.run_c2,↓Tr.run_nx,↓onS,bind_ite,Option.bind_some,Option.bind_none,obR,e,findR_any,hasK]
theorem indexI_eq (l:List Int) (x:Int) (hl:l.length≤100000):m101 l x=some (findR (fun i=>x==l.getD i default) l.length):=by
 delta m101 d101
 simp only[↓JD.sg_m,↓JD.sq_m,↓JD.sc_m,↓JD.bk_m,↓JD.lp_m,↓JD.cd_m,↓JD.lu_m,↓JD.ct_m,↓JD.ce_m,↓JL.r_m,↓JL.z_m,↓JD.se_m,onE_r,↓Tr.run,↓Tr.run_nd,↓Tr.run_c3,↓Tr.run_c2,↓Tr.run_nx,↓onS,bind_ite,Option.bind_some,Option.bind_none,obR]
 refine idx_loop (fun i hi=>?_) ?_
 ·(simp only[exB_ite,exB_some,exB_none];simp only[inL hi,decide_true,Int.toNat_natCast,if_true,implies_true,wr1 hi (by omega)];try rfl)
 ·(simp only[lt_irr,decide_false,Bool.false_eq_true,if_false];try rfl)
theorem containsI_eq (l:List Int) (x:Int) (hl:l.length≤100000):m71 l x=some (hasK l l.length x):=by
 delta m71 d71
 simp only[↓JD.sg_m,↓JD.sq_m,↓JD.sc_m,↓JD.bk_m,↓JD.lp_m,↓JD.cd_m,↓JD.lu_m,↓JD.ct_m,↓JD.ce_m,↓JL.r_m,↓JL.z_m,↓JD.se_m,onE_r,↓Tr.run,↓Tr.run_nd,↓Tr.run_c3,↓Tr.run_c2,↓Tr.run_nx,↓onS,bind_ite,Option.bind_some,Option.bind_none,obR,indexI_eq l x hl,findR_any,hasK]
def listedS (l:List (List UInt8)) (i:Nat):Int:=if(!nm (l.getD i default))=true then 5 else if hasK l i (l.getD i default)=true then 7 else 0
theorem listed_eq (l:List (List UInt8)) (i:Nat) (hi:i < l.length) (hl:l.length≤100000):m76 l i=some (listedS l i):=by
 have e:=containsS_eq (subL l 0 i) (l.getD i default) (by rw[subL_len];omega)
 rw[subL_len,hasK_sub]at e
 delta m76 d76
 simp only[↓JD.sg_m,↓JD.sq_m,↓JD.sc_m,↓JD.bk_m,↓JD.lp_m,↓JD.cd_m,↓JD.lu_m,↓JD.ct_m,↓JD.ce_m,↓JL.r_m,↓JL.z_m,↓JD.se_m,onE_r,↓Tr.run,↓Tr.run_nd,↓Tr.run_c3,↓Tr.run_c2,↓Tr.run_nx,↓onS,bind_ite,Option.bind_some,Option.bind_none,obR,inL hi,Int.toNat_natCast,if_true,nm_name,e,listedS,some_ite,show (i:Int)≤l.length by omega]
def litF (c:T27) (l:List T151) (i:Nat):Option Int :=
 if(decide ((l.getD i default).Cond < 0) || decide ((c.Conds.length:Int)≤(l.getD i default).Cond))=true then some 2
 else if(decide ((0:Int) < (i:Int))&&decide ((l.getD i default).Cond≤(l.getD ((i:Int) - 1).toNat default).Cond))=true then some 9 else none
def litS (c:T27) (l:List T151):Int:=(firstR (litF c l) l.length).getD 0
theorem literals_eq (c:T27) (l:List T151) (hl:l.length≤100000):m77 c l=some (litS c l):=by
 delta m77 d77
 simp only[↓JD.sg_m,↓JD.sq_m,↓JD.sc_m,↓JD.bk_m,↓JD.lp_m,↓JD.cd_m,↓JD.lu_m,↓JD.ct_m,↓JD.ce_m,↓JL.r_m,↓JL.z_m,↓JD.se_m,onE_r,↓Tr.run,↓Tr.run_nd,↓Tr.run_c3,↓Tr.run_c2,↓Tr.run_nx,↓onS,bind_ite,Option.bind_some,Option.bind_none,obR]
 rw[loop_ex l.length (litF c l) ?_ ?_,orK_getD];rfl
 ·intro i hi
  have w1:IntKind.wrap .i64 ((i:Int) - 1)=(i:Int) - 1:=w64 (by omega) (by omega)
  have h3:=eq_true (show decide ((0:Int) < i)=true→(0:Int)≤(i:Int) - 1 from fun h=>by simp only[decide_eq_true_eq]at h;omega)
  have h4:=eq_true (show decide ((0:Int) < i)=true→(i:Int) - 1 < l.length from fun h=>by omega)
  unfold litF
  (simp only[exB_ite,exB_some,exB_none];simp only[w1,h3,h4,inL hi,decide_true,Int.toNat_natCast,if_true,implies_true,wr1 hi (by omega)];try rfl)
 ·(simp only[lt_irr,decide_false,Bool.false_eq_true,if_false];try rfl)
def actS (l:List (List UInt8)):Int:=if decide ((8:Int) < (l.length:Int))=true then 3 else if anyR (fun i=>!nm (l.getD i default)) l.length=true then 5 else 0
theorem actS_len {l:List (List UInt8)} (h:actS l=0):l.length≤8:=by
 unfold actS at h
 split at h
 ·cases h
 ·rename_i h1;simp only[decide_eq_true_eq]at h1;omega
theorem actions_eq (l:List (List UInt8)) (hl:l.length≤100000):m80 l=some (actS l):=by
 have e:m161o0 l=some (findR (fun i=>!nm (l.getD i default)) l.length):=by
  delta m161o0 d161o0
  simp only[↓JD.sg_m,↓JD.sq_m,↓JD.sc_m,↓JD.bk_m,↓JD.lp_m,↓JD.cd_m,↓JD.lu_m,↓JD.ct_m,↓JD.ce_m,↓JL.r_m,↓JL.z_m,↓JD.se_m,onE_r,↓Tr.run,↓Tr.run_nd,↓Tr.run_c3,↓Tr.run_c2,↓Tr.run_nx,↓onS,bind_ite,Option.bind_some,Option.bind_none,obR,m124o0,d124o0,nm_name]
  refine idx_loop (fun i hi=>?_) ?_
  ·(simp only[exB_ite,exB_some,exB_none];simp only[inL hi,decide_true,Int.toNat_natCast,if_true,implies_true,wr1 hi (by omega)];try rfl)
  ·(simp only[lt_irr,decide_false,Bool.false_eq_true,if_false];try rfl)
 delta m80 d80
 simp only[↓JD.sg_m,↓JD.sq_m,↓JD.sc_m,↓JD.bk_m,↓JD.lp_m,↓JD.cd_m,↓JD.lu_m,↓JD.ct_m,↓JD.ce_m,↓JL.r_m,↓JL.z_m,↓JD.se_m,onE_r,↓Tr.run,↓Tr.run_nd,↓Tr.run_c3,↓Tr.run_c2,↓Tr.run_nx,↓onS,bind_ite,Option.bind_some,Option.bind_none,obR,m123o0,d123o0,e,findR_any,actS,some_ite]
def comp (c:T27) (x:Int):Bool:=anyR (fun i=>(c.States.getD i default).Parent==x) c.States.length
theorem composite_eq (c:T27) (x:Int) (hl:c.States.length≤100000):m105 c x=some (comp c x):=by
 have e:m168o0 c.States x=some (findR (fun i=>(c.States.getD i default).Parent==x) c.States.length):=by
  delta m168o0 d168o0
  simp only[↓JD.sg_m,↓JD.sq_m,↓JD.sc_m,↓JD.bk_m,↓JD.lp_m,↓JD.cd_m,↓JD.lu_m,↓JD.ct_m,↓JD.ce_m,↓JL.r_m,↓JL.z_m,↓JD.se_m,onE_r,↓Tr.run,↓Tr.run_nd,↓Tr.run_c3,↓Tr.run_c2,↓Tr.run_nx,↓onS,bind_ite,Option.bind_some,Option.bind_none,obR,m139o0,d139o0]
  refine idx_loop (fun i hi=>?_) ?_
  ·(simp only[exB_ite,exB_some,exB_none];simp only[inL hi,decide_true,Int.toNat_natCast,if_true,implies_true,wr1 hi (by omega)];try rfl)
  ·(simp only[lt_irr,decide_false,Bool.false_eq_true,if_false];try rfl)
 delta m105 d105
 simp only[↓JD.sg_m,↓JD.sq_m,↓JD.sc_m,↓JD.bk_m,↓JD.lp_m,↓JD.cd_m,↓JD.lu_m,↓JD.ct_m,↓JD.ce_m,↓JL.r_m,↓JL.z_m,↓JD.se_m,onE_r,↓Tr.run,↓Tr.run_nd,↓Tr.run_c3,↓Tr.run_c2,↓Tr.run_nx,↓onS,bind_ite,Option.bind_some,Option.bind_none,obR,m138o0,d138o0,e,findR_any,comp]
def isS (c:T27) (x:Int):Bool:=decide ((0:Int)≤x)&&decide (x < (c.States.length:Int))
theorem is_eq (c:T27) (x:Int):m79 c x=some (isS c x):=rfl
theorem isS_iff {c:T27} {x:Int}:isS c x=true↔0≤x∧x < c.States.length:=by simp[isS]
def childS (c:T27) (x y:Int):Bool:=isS c x&&((c.States.getD x.toNat default).Parent==y)
end Go.Av.Ch
set_option maxRecDepth 100000
namespace Go.Av.Ch
structure Fit (c:T27):Prop where
 conds:c.Conds.length≤1000
 never:c.Never.length≤1000
 lits:∀ l∈c.Never,l.length≤1000
 states:c.States.length≤1000
 entry:∀ s∈c.States,s.Entry.length≤1000
 exit_:∀ s∈c.States,s.Exit.length≤1000
 trans:c.Transitions.length≤1000
 when_:∀ t∈c.Transitions,t.When.length≤1000
 acts:∀ t∈c.Transitions,t.Actions.length≤1000
def namesS (c:T27):List (List UInt8):=(List.range c.States.length).flatMap fun i=>[(c.States.getD i default).Name]
theorem namesS_map (c:T27):namesS c=(List.range c.States.length).map fun i=>(c.States.getD i default).Name:=(List.map_eq_flatMap ..).symm
theorem namesS_len (c:T27):(namesS c).length=c.States.length:=by rw[namesS_map];simp
def stateT (c:T27) (i:Nat):Int :=
 if(decide ((c.States.getD i default).Parent < (-1:Int)) || decide ((i:Int)≤(c.States.getD i default).Parent))=true then 9
 else if((comp c i&&!childS c (c.States.getD i default).Initial i) || (!comp c i&&((c.States.getD i default).Initial != (-1:Int))))=true then 2
 else if(!comp c i&&(c.States.getD i default).History)=true then 17
 else if(actS (c.States.getD i default).Entry != 0)=true then actS (c.States.getD i default).Entry
 else actS (c.States.getD i default).Exit
def stateS (c:T27) (i:Nat):Int:=if(listedS (namesS c) i != 0)=true then listedS (namesS c) i else stateT c i
theorem state_eq (c:T27) (H:Fit c) (i:Nat) (hi:i < c.States.length):m78 c (namesS c) i=some (stateS c i):=by
 have hs:=H.states
 have he:=H.entry _ (getD_mem hi)
 have hx:=H.exit_ _ (getD_mem hi)
 have e1:=listed_eq (namesS c) i (by rw[namesS_len];exact hi) (by rw[namesS_len];omega)
 delta m78 d78
 simp only[↓JD.sg_m,↓JD.sq_m,↓JD.sc_m,↓JD.bk_m,↓JD.lp_m,↓JD.cd_m,↓JD.lu_m,↓JD.ct_m,↓JD.ce_m,↓JL.r_m,↓JL.z_m,↓JD.se_m,onE_r,↓Tr.run,↓Tr.run_nd,↓Tr.run_c3,↓Tr.run_c2,↓Tr.run_nx,↓onS,bind_ite,Option.bind_some,Option.bind_none,obR,inL hi,e1,Int.toNat_natCast,if_true,composite_eq c _ (Nat.le_trans hs (by omega)),is_eq,actions_eq _ (Nat.le_trans he (by omega)),actions_eq _ (Nat.le_trans hx (by omega)),stateS,stateT,some_ite]
 refine ite_else (ite_else ?_)
 cases hc:comp c i with
 | false=>simp only[Bool.false_and,Bool.not_false,Bool.true_and,Bool.false_or,Bool.false_eq_true,if_false,false_implies,if_true]
 | true =>
  have g1:=eq_true (show (!!isS c (c.States.getD i default).Initial)=true→(0:Int)≤(c.States.getD i default).Initial from fun h=>by simp only[Bool.not_not]at h;exact(isS_iff.1 h).1)
  have g2:=eq_true (show (!!isS c (c.States.getD i default).Initial)=true→(c.States.getD i default).Initial < (c.States.length:Int) from fun h=>by simp only[Bool.not_not]at h;exact(isS_iff.1 h).2)
  simp only[if_true,Option.bind_some,g1,g2,childS,bne,Bool.not_and,Bool.true_and,Bool.not_true,Bool.false_and,Bool.or_false,Bool.false_eq_true,if_false]
def condF (c:T27) (i:Nat):Option Int:=if(listedS c.Conds i != 0)=true then some (listedS c.Conds i)else none
def nevF (c:T27) (i:Nat):Option Int:=if(((c.Never.getD i default).length:Int)==0)=true then some 1 else if(litS c (c.Never.getD i default) != 0)=true then some (litS c (c.Never.getD i default))else none
def stF (c:T27) (i:Nat):Option Int:=if(stateS c i != 0)=true then some (stateS c i)else none
def trF (c:T27) (i:Nat):Option Int :=
 if((!isS c (c.Transitions.getD i default).From) || (!isS c (c.Transitions.getD i default).To))=true then some 2
 else if(litS c (c.Transitions.getD i default).When != 0)=true then some (litS c (c.Transitions.getD i default).When)
 else if(actS (c.Transitions.getD i default).Actions != 0)=true then some (actS (c.Transitions.getD i default).Actions)else none
def checkM (c:T27):Option Int :=
 if(!nm c.Name)=true then some 5
 else if((c.States.length:Int)==0)=true then some 6
 else if((((decide ((12:Int) < (c.Conds.length:Int))) || (decide ((16:Int) < (c.Never.length:Int)))) || (decide ((40:Int) < (c.States.length:Int)))) || (decide ((120:Int) < (c.Transitions.length:Int))))=true then some 3
 else orK (firstR (condF c) c.Conds.length) (orK (firstR (nevF c) c.Never.length) (orK (firstR (stF c) c.States.length) (if(!isS c c.Start)=true then some 2 else orK (firstR (trF c) c.Transitions.length) (some 0))))
theorem checkM_some (c:T27):∃ e,checkM c=some e:=ite_total (ite_total (ite_total (orK_total (orK_total (orK_total (ite_total (orK_total ⟨0,rfl⟩)))))))
theorem Check_eq (c:T27) (H:Fit c):m35 c=checkM c:=by
 have hcl:=H.conds
 have hnl:=H.never
 have hsl:=H.states
 have htl:=H.trans
 delta m35 d35
 simp only[↓JD.sg_m,↓JD.sq_m,↓JD.sc_m,↓JD.bk_m,↓JD.lp_m,↓JD.cd_m,↓JD.lu_m,↓JD.ct_m,↓JD.ce_m,↓JL.r_m,↓JL.z_m,↓JD.se_m,onE_r,↓Tr.run,↓Tr.run_nd,↓Tr.run_c3,↓Tr.run_c2,↓Tr.run_nx,↓onS,bind_ite,Option.bind_some,Option.bind_none,obR,nm_name,is_eq,checkM]
 refine ite_else (ite_else (ite_else (loop_or _ (condF c) (fun i hi=>?_) (by (simp only[lt_irr,decide_false,Bool.false_eq_true,if_false];try rfl)) (loop_or _ (nevF c) (fun i hi=>?_) (by (simp only[lt_irr,decide_false,Bool.false_eq_true,if_false];try rfl)) (on_l (loop_coll c.States.length (fun i l=>(l,(i:Int))) (fun i=>[(c.States.getD i default).Name]) Sum.inl (fun i hi=>?_) (by (simp only[lt_irr,decide_false,Bool.false_eq_true,if_false];try rfl))) (loop_or _ (stF c) (fun i hi=>?_) (by (simp only[lt_irr,decide_false,Bool.false_eq_true,if_false];try rfl)) (ite_else (loop_or _ (trF c) (fun i hi=>?_) (by (simp only[lt_irr,decide_false,Bool.false_eq_true,if_false];try rfl)) rfl))))))))
 ·unfold condF
  (simp only[exB_ite,exB_some,exB_none];simp only[listed_eq c.Conds i hi (by omega),Option.bind_some,inL hi,decide_true,Int.toNat_natCast,if_true,implies_true,wr1 hi (by omega)];try rfl)
 ·have hl:=H.lits _ (getD_mem hi)
  unfold nevF
  (simp only[exB_ite,exB_some,exB_none];simp only[literals_eq c _ (Nat.le_trans hl (by omega)),Option.bind_some,inL hi,decide_true,Int.toNat_natCast,if_true,implies_true,wr1 hi (by omega)];try rfl)
 ·have hl:=flatMap_len (g:=fun i=>[(c.States.getD i default).Name]) (m:=1) (fun i=>by simp) i
  have h3:(((List.range i).flatMap fun i=>[(c.States.getD i default).Name]).length+1) * 16≤140737488355328:=by omega
  simp only[inL hi,h3,Int.toNat_natCast,if_true,wr1 hi (by omega)];rfl
 ·unfold stF
  have e:=state_eq c H i hi
  unfold namesS at e
  (simp only[exB_ite,exB_some,exB_none];simp only[e,Option.bind_some,inL hi,decide_true,Int.toNat_natCast,if_true,implies_true,wr1 hi (by omega)];try rfl)
 ·have hw:=H.when_ _ (getD_mem hi)
  have ha:=H.acts _ (getD_mem hi)
  unfold trF
  simp only[exB_ite,exB_some,exB_none]
  simp only[inL hi,is_eq,literals_eq c _ (Nat.le_trans hw (by omega)),actions_eq _ (Nat.le_trans ha (by omega)),Option.bind_some,decide_true,Int.toNat_natCast,if_true,wr1 hi (by omega)]
  cases isS c (c.Transitions.getD i default).From<;>simp only[Bool.not_true,Bool.not_false,Bool.false_eq_true,Bool.true_or,Bool.false_or,if_true,if_false,Option.bind_some]
end Go.Av.Ch
namespace Go.Av.Mo
def C1:T27:=⟨[76,65,84,69,82,65,76],[[71,82,79,85,78,68],[72,69,65,68,73,78,71],[78,65,86],[82,69,65,68,89],[90,79,78,69],[70,73,78,65,76],[71,79]],[],[⟨[79,78],(-1),1,false,[],[]⟩,⟨[82,79,76,76],0,(-1),false,[],[]⟩,⟨[72,69,65,68,73,78,71],0,(-1),false,[],[]⟩,⟨[65,82,77,69,68],0,(-1),false,[],[]⟩,⟨[78,65,86],0,(-1),false,[],[]⟩,⟨[65,80,80,82,79,65,67,72],0,(-1),false,[],[]⟩,⟨[71,79,65,82,79,85,78,68],0,(-1),false,[],[]⟩],1,[⟨0,1,[⟨0,false⟩],[]⟩,⟨0,6,[⟨0,true⟩,⟨6,false⟩],[]⟩,⟨0,2,[⟨0,true⟩,⟨1,false⟩,⟨6,true⟩],[]⟩,⟨1,1,[⟨0,true⟩,⟨1,true⟩,⟨2,true⟩,⟨6,true⟩],[]⟩,⟨1,1,[⟨0,true⟩,⟨1,true⟩,⟨2,false⟩,⟨3,true⟩,⟨6,true⟩],[]⟩,⟨1,3,[⟨0,true⟩,⟨1,true⟩,⟨2,false⟩,⟨3,false⟩,⟨4,true⟩,⟨6,true⟩],[]⟩,⟨1,4,[⟨0,true⟩,⟨1,true⟩,⟨2,false⟩,⟨3,false⟩,⟨4,false⟩,⟨5,true⟩,⟨6,true⟩],[[67,65,80,84,85,82,69,68]]⟩,⟨1,5,[⟨0,true⟩,⟨1,true⟩,⟨2,false⟩,⟨3,false⟩,⟨4,false⟩,⟨5,false⟩,⟨6,true⟩],[[67,65,80,84,85,82,69,68]]⟩,⟨2,2,[⟨0,true⟩,⟨1,true⟩,⟨2,true⟩,⟨6,true⟩],[]⟩,⟨2,2,[⟨0,true⟩,⟨1,true⟩,⟨2,false⟩,⟨3,true⟩,⟨6,true⟩],[]⟩,⟨2,3,[⟨0,true⟩,⟨1,true⟩,⟨2,false⟩,⟨3,false⟩,⟨4,true⟩,⟨6,true⟩],[]⟩,⟨2,4,[⟨0,true⟩,⟨1,true⟩,⟨2,false⟩,⟨3,false⟩,⟨4,false⟩,⟨5,true⟩,⟨6,true⟩],[[67,65,80,84,85,82,69,68]]⟩,⟨2,5,[⟨0,true⟩,⟨1,true⟩,⟨2,false⟩,⟨3,false⟩,⟨4,false⟩,⟨5,false⟩,⟨6,true⟩],[[67,65,80,84,85,82,69,68]]⟩,⟨3,2,[⟨0,true⟩,⟨1,true⟩,⟨3,true⟩,⟨6,true⟩],[[76,65,84,82,69,86]]⟩,⟨3,3,[⟨0,true⟩,⟨1,true⟩,⟨3,false⟩,⟨4,true⟩,⟨6,true⟩],[]⟩,⟨3,4,[⟨0,true⟩,⟨1,true⟩,⟨3,false⟩,⟨4,false⟩,⟨5,true⟩,⟨6,true⟩],[[67,65,80,84,85,82,69,68]]⟩,⟨3,5,[⟨0,true⟩,⟨1,true⟩,⟨3,false⟩,⟨4,false⟩,⟨5,false⟩,⟨6,true⟩],[[67,65,80,84,85,82,69,68]]⟩,⟨4,2,[⟨0,true⟩,⟨1,true⟩,⟨3,true⟩,⟨6,true⟩],[[76,65,84,82,69,86]]⟩,⟨4,4,[⟨0,true⟩,⟨1,true⟩,⟨3,false⟩,⟨5,true⟩,⟨6,true⟩],[]⟩,⟨4,5,[⟨0,true⟩,⟨1,true⟩,⟨3,false⟩,⟨5,false⟩,⟨6,true⟩],[]⟩,⟨5,2,[⟨0,true⟩,⟨1,true⟩,⟨3,true⟩,⟨6,true⟩],[[76,65,84,82,69,86]]⟩,⟨5,4,[⟨0,true⟩,⟨1,true⟩,⟨3,false⟩,⟨5,true⟩,⟨6,true⟩],[]⟩,⟨5,5,[⟨0,true⟩,⟨1,true⟩,⟨3,false⟩,⟨5,false⟩,⟨6,true⟩],[]⟩,⟨6,6,[⟨0,true⟩,⟨1,true⟩,⟨2,true⟩,⟨6,true⟩],[]⟩,⟨6,6,[⟨0,true⟩,⟨1,true⟩,⟨2,false⟩,⟨3,true⟩,⟨6,true⟩],[]⟩,⟨6,3,[⟨0,true⟩,⟨1,true⟩,⟨2,false⟩,⟨3,false⟩,⟨4,true⟩,⟨6,true⟩],[]⟩,⟨6,4,[⟨0,true⟩,⟨1,true⟩,⟨2,false⟩,⟨3,false⟩,⟨4,false⟩,⟨5,true⟩,⟨6,true⟩],[[67,65,80,84,85,82,69,68]]⟩,⟨6,5,[⟨0,true⟩,⟨1,true⟩,⟨2,false⟩,⟨3,false⟩,⟨4,false⟩,⟨5,false⟩,⟨6,true⟩],[[67,65,80,84,85,82,69,68]]⟩]⟩
def C2:T27:=⟨[86,69,82,84,73,67,65,76],[[71,82,79,85,78,68],[82,69,65,68,89],[70,73,78,65,76],[71,79],[72,79,76,68],[83,80,69,69,68],[67,72,65,78,71,69],[65,66,79,86,69],[84,65,75,69],[78,69,65,82],[65,84]],[[⟨1,true⟩,⟨8,false⟩],[⟨9,true⟩,⟨10,false⟩]],[⟨[79,78],(-1),1,false,[],[]⟩,⟨[72,79,76,68],0,(-1),false,[],[]⟩,⟨[67,76,73,77,66],0,(-1),false,[],[]⟩,⟨[68,69,83,67,69,78,68],0,(-1),false,[],[]⟩,⟨[83,80,69,69,68],0,(-1),false,[],[]⟩,⟨[67,65,80,84,85,82,69],0,(-1),false,[],[]⟩,⟨[80,65,84,72],0,(-1),false,[],[]⟩,⟨[71,76,73,68,69],0,(-1),false,[],[]⟩,⟨[71,79,65,82,79,85,78,68],0,(-1),false,[],[]⟩],1,[⟨0,1,[⟨0,false⟩],[]⟩,⟨0,8,[⟨0,true⟩,⟨3,false⟩],[]⟩,⟨0,1,[⟨0,true⟩,⟨3,true⟩,⟨4,false⟩],[]⟩,⟨0,4,[⟨0,true⟩,⟨3,true⟩,⟨4,true⟩,⟨5,false⟩],[]⟩,⟨0,2,[⟨0,true⟩,⟨3,true⟩,⟨4,true⟩,⟨5,true⟩,⟨6,false⟩,⟨7,false⟩],[]⟩,⟨0,3,[⟨0,true⟩,⟨3,true⟩,⟨4,true⟩,⟨5,true⟩,⟨6,false⟩,⟨7,true⟩],[]⟩,⟨0,6,[⟨0,true⟩,⟨2,true⟩,⟨3,true⟩,⟨4,true⟩,⟨5,true⟩,⟨6,true⟩,⟨8,false⟩],[[67,65,80,84,85,82,69,68]]⟩,⟨0,7,[⟨0,true⟩,⟨2,false⟩,⟨3,true⟩,⟨4,true⟩,⟨5,true⟩,⟨6,true⟩,⟨8,false⟩],[[67,65,80,84,85,82,69,68]]⟩,⟨1,1,[⟨0,true⟩,⟨3,true⟩,⟨4,true⟩,⟨5,true⟩,⟨6,true⟩,⟨8,true⟩],[]⟩,⟨2,5,[⟨0,true⟩,⟨3,true⟩,⟨4,true⟩,⟨5,true⟩,⟨6,true⟩,⟨8,true⟩,⟨9,false⟩],[]⟩,⟨2,2,[⟨0,true⟩,⟨3,true⟩,⟨4,true⟩,⟨5,true⟩,⟨6,true⟩,⟨8,true⟩,⟨9,true⟩],[]⟩,⟨3,5,[⟨0,true⟩,⟨3,true⟩,⟨4,true⟩,⟨5,true⟩,⟨6,true⟩,⟨8,true⟩,⟨9,false⟩],[]⟩,⟨3,3,[⟨0,true⟩,⟨3,true⟩,⟨4,true⟩,⟨5,true⟩,⟨6,true⟩,⟨8,true⟩,⟨9,true⟩],[]⟩,⟨4,5,[⟨0,true⟩,⟨3,true⟩,⟨4,true⟩,⟨5,true⟩,⟨6,true⟩,⟨8,true⟩,⟨9,false⟩],[]⟩,⟨4,4,[⟨0,true⟩,⟨3,true⟩,⟨4,true⟩,⟨5,true⟩,⟨6,true⟩,⟨8,true⟩,⟨9,true⟩],[]⟩,⟨5,1,[⟨0,true⟩,⟨3,true⟩,⟨4,true⟩,⟨5,true⟩,⟨6,true⟩,⟨8,true⟩,⟨10,false⟩],[]⟩,⟨5,5,[⟨0,true⟩,⟨3,true⟩,⟨4,true⟩,⟨5,true⟩,⟨6,true⟩,⟨8,true⟩,⟨9,false⟩,⟨10,true⟩],[]⟩,⟨5,2,[⟨0,true⟩,⟨3,true⟩,⟨4,true⟩,⟨5,true⟩,⟨6,true⟩,⟨7,false⟩,⟨8,true⟩,⟨9,true⟩,⟨10,true⟩],[[79,86,69,82,83,72,79,84]]⟩,⟨5,3,[⟨0,true⟩,⟨3,true⟩,⟨4,true⟩,⟨5,true⟩,⟨6,true⟩,⟨7,true⟩,⟨8,true⟩,⟨9,true⟩,⟨10,true⟩],[[79,86,69,82,83,72,79,84]]⟩,⟨6,1,[⟨0,true⟩,⟨1,true⟩,⟨3,true⟩,⟨4,true⟩,⟨5,true⟩,⟨6,true⟩,⟨8,true⟩],[[86,69,82,84,82,69,86]]⟩,⟨6,6,[⟨0,true⟩,⟨1,false⟩,⟨2,true⟩,⟨3,true⟩,⟨4,true⟩,⟨5,true⟩,⟨6,true⟩,⟨8,true⟩],[]⟩,⟨6,7,[⟨0,true⟩,⟨1,false⟩,⟨2,false⟩,⟨3,true⟩,⟨4,true⟩,⟨5,true⟩,⟨6,true⟩,⟨8,true⟩],[]⟩,⟨7,1,[⟨0,true⟩,⟨1,true⟩,⟨3,true⟩,⟨4,true⟩,⟨5,true⟩,⟨6,true⟩,⟨8,true⟩],[[86,69,82,84,82,69,86]]⟩,⟨7,6,[⟨0,true⟩,⟨1,false⟩,⟨2,true⟩,⟨3,true⟩,⟨4,true⟩,⟨5,true⟩,⟨6,true⟩,⟨8,true⟩],[]⟩,⟨7,7,[⟨0,true⟩,⟨1,false⟩,⟨2,false⟩,⟨3,true⟩,⟨4,true⟩,⟨5,true⟩,⟨6,true⟩,⟨8,true⟩],[]⟩,⟨8,5,[⟨0,true⟩,⟨3,true⟩,⟨4,true⟩,⟨5,true⟩,⟨6,true⟩,⟨8,true⟩,⟨9,false⟩],[]⟩,⟨8,8,[⟨0,true⟩,⟨3,true⟩,⟨4,true⟩,⟨5,true⟩,⟨6,true⟩,⟨8,true⟩,⟨9,true⟩],[]⟩]⟩
def C3:T27:=⟨[80,72,65,83,69],[[71,82,79,85,78,68],[70,73,78,65,76],[71,79],[84,72,82,85,83,84],[65,67,67,69,76],[76,69,86,69,76],[68,79,87,78],[83,84,79,80,80,69,68]],[[⟨0,false⟩,⟨4,false⟩],[⟨0,true⟩,⟨7,false⟩]],[⟨[65,73,82],(-1),3,false,[],[]⟩,⟨[80,82,69,70,76,84],(-1),(-1),false,[],[]⟩,⟨[84,65,75,69,79,70,70],(-1),(-1),false,[],[]⟩,⟨[67,76,73,77,66],0,(-1),false,[],[]⟩,⟨[67,82,85,73,83,69],0,(-1),false,[],[]⟩,⟨[68,69,83,67,69,78,84],0,(-1),false,[],[]⟩,⟨[65,80,80,82,79,65,67,72],0,(-1),false,[],[]⟩,⟨[71,79,65,82,79,85,78,68],0,(-1),false,[],[]⟩,⟨[76,65,78,68,69,68],(-1),(-1),false,[],[]⟩],1,[⟨0,8,[⟨0,false⟩],[[76,65,78,68,73,78,71]]⟩,⟨0,7,[⟨0,true⟩,⟨2,false⟩],[]⟩,⟨1,3,[⟨0,true⟩],[]⟩,⟨1,2,[⟨0,false⟩,⟨3,false⟩],[]⟩,⟨1,1,[⟨0,false⟩,⟨3,true⟩],[]⟩,⟨2,2,[⟨0,false⟩,⟨3,false⟩],[]⟩,⟨2,1,[⟨0,false⟩,⟨3,true⟩],[[82,69,74,69,67,84,69,68]]⟩,⟨2,2,[⟨0,true⟩,⟨4,true⟩],[]⟩,⟨2,0,[⟨0,true⟩,⟨4,false⟩],[]⟩,⟨3,6,[⟨0,true⟩,⟨1,false⟩,⟨2,true⟩],[]⟩,⟨3,4,[⟨0,true⟩,⟨1,true⟩,⟨2,true⟩,⟨5,false⟩],[]⟩,⟨3,5,[⟨0,true⟩,⟨1,true⟩,⟨2,true⟩,⟨5,true⟩,⟨6,false⟩],[]⟩,⟨3,3,[⟨0,true⟩,⟨1,true⟩,⟨2,true⟩,⟨5,true⟩,⟨6,true⟩],[]⟩,⟨4,6,[⟨0,true⟩,⟨1,false⟩,⟨2,true⟩],[]⟩,⟨4,5,[⟨0,true⟩,⟨1,true⟩,⟨2,true⟩,⟨6,false⟩],[]⟩,⟨4,4,[⟨0,true⟩,⟨1,true⟩,⟨2,true⟩,⟨5,false⟩,⟨6,true⟩],[]⟩,⟨4,3,[⟨0,true⟩,⟨1,true⟩,⟨2,true⟩,⟨5,true⟩,⟨6,true⟩],[]⟩,⟨5,6,[⟨0,true⟩,⟨1,false⟩,⟨2,true⟩],[]⟩,⟨5,5,[⟨0,true⟩,⟨1,true⟩,⟨2,true⟩,⟨6,false⟩],[]⟩,⟨5,4,[⟨0,true⟩,⟨1,true⟩,⟨2,true⟩,⟨5,false⟩,⟨6,true⟩],[]⟩,⟨5,3,[⟨0,true⟩,⟨1,true⟩,⟨2,true⟩,⟨5,true⟩,⟨6,true⟩],[]⟩,⟨6,6,[⟨0,true⟩,⟨1,false⟩,⟨2,true⟩],[]⟩,⟨6,5,[⟨0,true⟩,⟨1,true⟩,⟨2,true⟩,⟨6,false⟩],[]⟩,⟨6,3,[⟨0,true⟩,⟨1,true⟩,⟨2,true⟩,⟨6,true⟩],[]⟩,⟨7,7,[⟨0,true⟩,⟨2,true⟩,⟨4,true⟩],[]⟩,⟨7,3,[⟨0,true⟩,⟨1,true⟩,⟨2,true⟩,⟨4,false⟩],[]⟩,⟨7,6,[⟨0,true⟩,⟨1,false⟩,⟨2,true⟩,⟨4,false⟩],[]⟩,⟨8,3,[⟨0,true⟩],[[84,79,85,67,72,71,79]]⟩,⟨8,2,[⟨0,false⟩,⟨3,false⟩],[]⟩,⟨8,1,[⟨0,false⟩,⟨3,true⟩,⟨7,false⟩],[]⟩,⟨8,8,[⟨0,false⟩,⟨3,true⟩,⟨7,true⟩],[]⟩]⟩
end Go.Av.Mo
set_option maxRecDepth 100000
namespace Go.Av.Ch
def topB (c:T27) (s:Int):Bool:=decide ((c.States.getD s.toNat default).Parent < 0) || decide (s≤(c.States.getD s.toNat default).Parent)
def pathT (c:T27):Nat→Int→List Int
 | 0,_=>[]
 | n+1,s=>if topB c s=true then[]else(c.States.getD s.toNat default).Parent :: pathT c n (c.States.getD s.toNat default).Parent
def pathS (c:T27) (s:Int):List Int:=if isS c s=true then s :: pathT c s.toNat s else[]
theorem pathT_len (c:T27):∀ n s,(pathT c n s).length≤n
 | 0,_=>by simp[pathT]
 | n+1,s=>by
  unfold pathT
  split
  ·simp
  ·have:=pathT_len c n (c.States.getD s.toNat default).Parent
   simp only[List.length_cons];omega
theorem pathS_len (c:T27) (s:Int):(pathS c s).length≤c.States.length:=by
 unfold pathS
 split
 ·rename_i h
  have:=isS_iff.1 h
  have:=pathT_len c s.toNat s
  simp only[List.length_cons];omega
 ·simp
theorem topB_false {c:T27} {s:Int} (h:topB c s=false):0≤(c.States.getD s.toNat default).Parent∧(c.States.getD s.toNat default).Parent < s:=by
 simp only[topB,Bool.or_eq_false_iff,decide_eq_false_iff_not]at h;omega
theorem pathT_fuel (c:T27):∀ n m s,0≤s→s.toNat≤n→s.toNat≤m→pathT c n s=pathT c m s:=by
 intro n
 induction n with
 | zero =>
  intro m s h0 hn hm
  cases m with
  | zero=>rfl
  | succ m =>
   unfold pathT
   cases ht:topB c s with
   | true=>simp
   | false=>have:=topB_false ht;omega
 | succ n ih =>
  intro m s h0 hn hm
  cases ht:topB c s with
  | true =>
   cases m with
   | zero=>unfold pathT;simp[ht]
   | succ m=>unfold pathT;simp[ht]
  | false =>
   have:=topB_false ht
   cases m with
   | zero=>omega
   | succ m =>
    unfold pathT
    simp only[ht,Bool.false_eq_true,if_false]
    rw[ih m _ this.1 (by omega) (by omega)]
theorem pathS_step {c:T27} {s:Int} (h:isS c s=true):pathS c s=s :: if topB c s=true then[]else pathS c (c.States.getD s.toNat default).Parent:=by
 have hs:=isS_iff.1 h
 unfold pathS
 rw[if_pos h,pathT_fuel c s.toNat (s.toNat+1) s hs.1 (Nat.le_refl _) (by omega)]
 congr 1
 show (if topB c s=true then[]else(c.States.getD s.toNat default).Parent :: pathT c s.toNat (c.States.getD s.toNat default).Parent)=_
 cases ht:topB c s with
 | true=>rfl
 | false =>
  have hp:=topB_false ht
  simp only[Bool.false_eq_true,if_false]
  rw[if_pos (isS_iff.2 ⟨hp.1,by omega⟩),pathT_fuel c s.toNat (c.States.getD s.toNat default).Parent.toNat _ hp.1 (by omega) (Nat.le_refl _)]
theorem pathS_is {c:T27}:∀ (n:Nat) (s:Int),s.toNat≤n→∀ x∈pathS c s,isS c x=true∧x≤s:=by
 intro n
 induction n with
 | zero =>
  intro s hn x hx
  cases h:isS c s with
  | false=>unfold pathS at hx;rw[if_neg (by rw[h];decide)]at hx;cases hx
  | true =>
   have hs:=isS_iff.1 h
   rw[pathS_step h]at hx
   cases ht:topB c s with
   | true=>rw[ht]at hx;simp at hx;subst hx;exact⟨h,Int.le_refl _⟩
   | false=>have:=topB_false ht;omega
 | succ n ih =>
  intro s hn x hx
  cases h:isS c s with
  | false=>unfold pathS at hx;rw[if_neg (by rw[h];decide)]at hx;cases hx
  | true =>
   rw[pathS_step h]at hx
   rcases List.mem_cons.1 hx with rfl | hx
   ·exact⟨h,Int.le_refl _⟩
   ·cases ht:topB c s with
    | true=>rw[ht]at hx;simp at hx
    | false =>
     have:=topB_false ht
     rw[ht]at hx
     have:=ih _ (by omega) x hx
     exact⟨this.1,by omega⟩
theorem path_loop {c:T27} {b:Int×List Int→Option ((Int×List Int)⊕List Int)}
  (hb:∀ (s:Int) (acc:List Int),0≤s→s < c.States.length→b (s,acc)=if topB c s=true then some (.inr acc)else if(acc.length+1) * 8≤140737488355328 then some (.inl ((c.States.getD s.toNat default).Parent,acc++[(c.States.getD s.toNat default).Parent]))else none) :
  ∀ (n:Nat) (s:Int) (acc:List Int),0≤s→s < c.States.length→s.toNat≤n→acc.length+n≤100000→loopO b (s,acc)=some (acc++pathT c n s):=by
 intro n
 induction n with
 | zero =>
  intro s acc h0 h1 hn hl
  rw[loopO_eq,hb s acc h0 h1]
  cases ht:topB c s with
  | true=>simp[pathT]
  | false=>have:=topB_false ht;omega
 | succ n ih =>
  intro s acc h0 h1 hn hl
  rw[loopO_eq,hb s acc h0 h1]
  unfold pathT
  cases ht:topB c s with
  | true=>simp
  | false =>
   have hp:=topB_false ht
   have h8:(acc.length+1) * 8≤140737488355328:=by omega
   simp only[Bool.false_eq_true,if_false,if_pos h8,Option.bind_some]
   rw[ih _ _ hp.1 (by omega) (by omega) (by simp only[List.length_append,List.length_cons,List.length_nil];omega)]
   simp
theorem Path_eq (c:T27) (H:Fit c) (s:Int):m70 c s=some (pathS c s):=by
 have hs:=H.states
 delta m70 d70
 simp only[↓JD.sg_m,↓JD.sq_m,↓JD.sc_m,↓JD.bk_m,↓JD.lp_m,↓JD.cd_m,↓JD.lu_m,↓JD.ct_m,↓JD.ce_m,↓JL.r_m,↓JL.z_m,↓JD.se_m,onE_r,↓Tr.run,↓Tr.run_nd,↓Tr.run_c3,↓Tr.run_c2,↓Tr.run_nx,↓onS,bind_ite,Option.bind_some,Option.bind_none,obR,is_eq]
 unfold pathS
 cases h:isS c s with
 | false=>rfl
 | true =>
  have hi:=isS_iff.1 h
  simp only[Bool.not_true,Bool.false_eq_true,if_false,if_true]
  rw[path_loop (c:=c) (fun s acc h0 h1=>?_) s.toNat s [s] hi.1 hi.2 (Nat.le_refl _) (by simp;omega)]
  ·simp
  ·simp only[h0,h1,if_true];rfl
def leafG (c:T27) (i:Nat):List Int:=if comp c i=true then[]else[(i:Int)]
def leavesS (c:T27):List Int:=(List.range c.States.length).flatMap (leafG c)
theorem leavesS_iff {c:T27} {x:Int}:x∈leavesS c↔isS c x=true∧comp c x=false:=by
 unfold leavesS leafG
 rw[List.mem_flatMap,isS_iff]
 constructor
 ·rintro⟨i,hi,hx⟩
  rw[List.mem_range]at hi
  split at hx
  ·cases hx
  ·rename_i h;simp only[List.mem_singleton]at hx;subst hx;exact⟨by omega,by simpa using h⟩
 ·rintro⟨h1,h2⟩
  refine⟨x.toNat,List.mem_range.2 (by omega),?_⟩
  rw[Int.toNat_of_nonneg h1.1,if_neg (by rw[h2];decide)];simp
def bitV (v:Int) (k:Nat):Bool:=IntKind.u16.wrap ((BitVec.ofInt IntKind.u16.bits (v.fdiv (2 ^ min k IntKind.u16.bits)) &&& BitVec.ofInt IntKind.u16.bits 1).toNat:Int)==1
theorem bitV_eq {v:Int} {k:Nat} (h0:0≤v) (hk:k≤16):bitV v k=v.toNat.testBit k:=by
 obtain⟨n,rfl⟩:=Int.eq_ofNat_of_zero_le h0
 unfold bitV
 have e1:min k IntKind.u16.bits=k:=by show min k 16=k;omega
 have e2:(n:Int).fdiv (2 ^ k)=((n / 2 ^ k:Nat):Int):=by
  rw[Int.fdiv_eq_ediv_of_nonneg _ (Int.le_of_lt (Int.pow_pos (by omega)))]
  push_cast
  rfl
 rw[e1,e2]
 have e3:(BitVec.ofInt IntKind.u16.bits ((n / 2 ^ k:Nat):Int) &&& BitVec.ofInt IntKind.u16.bits 1).toNat=n / 2 ^ k % 2:=by
  show (BitVec.ofInt 16 ((n / 2 ^ k:Nat):Int) &&& 1#16).toNat=_
  rw[BitVec.ofInt_natCast,BitVec.toNat_and,BitVec.toNat_ofNat]
  show n / 2 ^ k % 65536 &&& 1=_
  rw[Nat.and_one_is_mod]
  omega
 rw[e3]
 have e4:IntKind.u16.wrap ((n / 2 ^ k % 2:Nat):Int)=((n / 2 ^ k % 2:Nat):Int):=by
  have:n / 2 ^ k % 2 < 2:=Nat.mod_lt _ (by omega)
  generalize n / 2 ^ k % 2=m at *
  match m,this with
  | 0,_=>rfl
  | 1,_=>rfl
 rw[e4,Int.toNat_natCast,Nat.testBit_eq_decide_div_mod_eq,Bool.eq_iff_iff,beq_iff_eq,decide_eq_true_eq]
 omega
def litN (v:Int) (x:T151):Bool:=decide (x.Cond < 0) || decide (15 < x.Cond) || bitV v x.Cond.toNat==x.Neg
def holdsS (l:List T151) (v:Int):Bool:=!anyR (fun i=>litN v (l.getD i default)) l.length
theorem holds_loop {l:List T151} {v:Int} (hl:l.length≤100000) {b:Int→Option (Int⊕(Unit⊕Bool))} (hb:∀ i:Nat,i < l.length→b i=exB (if litN v (l.getD i default)=true then some false else none) ((i:Int)+1)) (hd:b l.length=some (.inr (.inl ()))) :
  (loopO b 0).bind (onS fun _=>some true)=some (holdsS l v):=by
 rw[loop_ex l.length _ hb hd,firstR_const,holdsS]
 cases anyR (fun i=>litN v (l.getD i default)) l.length<;>rfl
theorem Holds_eq (l:List T151) (v:Int) (hl:l.length≤100000):m72 l v=some (holdsS l v):=by
 delta m72 d72
 simp only[↓JD.sg_m,↓JD.sq_m,↓JD.sc_m,↓JD.bk_m,↓JD.lp_m,↓JD.cd_m,↓JD.lu_m,↓JD.ct_m,↓JD.ce_m,↓JL.r_m,↓JL.z_m,↓JD.se_m,onE_r,↓Tr.run,↓Tr.run_nd,↓Tr.run_c3,↓Tr.run_c2,↓Tr.run_nx,↓onS,bind_ite,Option.bind_some,Option.bind_none,obR]
 refine holds_loop hl (fun i hi=>?_) (by (simp only[lt_irr,decide_false,Bool.false_eq_true,if_false];try rfl))
 have h1:=eq_true (show (!(decide ((l.getD i default).Cond < 0) || decide (15 < (l.getD i default).Cond)))=true→0≤(l.getD i default).Cond from fun h=>by simp only[Bool.not_eq_true',Bool.or_eq_false_iff,decide_eq_false_iff_not]at h;omega)
 (simp only[exB_ite,exB_some,exB_none];simp only[h1,inL hi,decide_true,Int.toNat_natCast,if_true,implies_true,wr1 hi (by omega)];try rfl)
def wideB (c:T27) (v:Int):Bool:=decide ((c.Conds.length:Int) < 16)&&(v.fdiv (2 ^ min (c.Conds.length:Int).toNat IntKind.u16.bits) != 0)
def allowedS (c:T27) (v:Int):Bool:=!wideB c v&&!anyR (fun i=>holdsS (c.Never.getD i default) v) c.Never.length
theorem Allowed_eq (c:T27) (H:Fit c) (v:Int):m34 c v=some (allowedS c v):=by
 have hn:=H.never
 have e:m121o0 c.Never v=some (findR (fun i=>holdsS (c.Never.getD i default) v) c.Never.length):=by
  delta m121o0 d121o0
  simp only[↓JD.sg_m,↓JD.sq_m,↓JD.sc_m,↓JD.bk_m,↓JD.lp_m,↓JD.cd_m,↓JD.lu_m,↓JD.ct_m,↓JD.ce_m,↓JL.r_m,↓JL.z_m,↓JD.se_m,onE_r,↓Tr.run,↓Tr.run_nd,↓Tr.run_c3,↓Tr.run_c2,↓Tr.run_nx,↓onS,bind_ite,Option.bind_some,Option.bind_none,obR,m74o0,d74o0]
  refine idx_loop (fun i hi=>?_) (by (simp only[lt_irr,decide_false,Bool.false_eq_true,if_false];try rfl))
  have hl:=H.lits _ (getD_mem hi)
  (simp only[exB_ite,exB_some,exB_none];simp only[Holds_eq _ _ (Nat.le_trans hl (by omega)),Option.bind_some,inL hi,decide_true,Int.toNat_natCast,if_true,implies_true,wr1 hi (by omega)];try rfl)
 have h1:=eq_true (show decide ((c.Conds.length:Int) < 16)=true→(0:Int)≤(c.Conds.length:Int) from fun _=>by omega)
 delta m34 d34
 simp only[↓JD.sg_m,↓JD.sq_m,↓JD.sc_m,↓JD.bk_m,↓JD.lp_m,↓JD.cd_m,↓JD.lu_m,↓JD.ct_m,↓JD.ce_m,↓JL.r_m,↓JL.z_m,↓JD.se_m,onE_r,↓Tr.run,↓Tr.run_nd,↓Tr.run_c3,↓Tr.run_c2,↓Tr.run_nx,↓onS,bind_ite,Option.bind_some,Option.bind_none,obR,m73o0,d73o0,e,findR_any,h1,if_true]
 unfold allowedS
 cases hw:wideB c v with
 | true=>unfold wideB at hw;simp only[hw,if_true];rfl
 | false=>unfold wideB at hw;simp only[hw,if_false,Bool.false_eq_true];rfl
def enabG (c:T27) (p:List Int) (v:Int) (i:Nat):List Int:=if(hasK p p.length (c.Transitions.getD i default).From&&holdsS (c.Transitions.getD i default).When v)=true then[(i:Int)]else[]
def enabledS (c:T27) (leaf v:Int):List Int:=(List.range c.Transitions.length).flatMap (enabG c (pathS c leaf) v)
theorem enabG_len (c:T27) (p:List Int) (v:Int) (i:Nat):(enabG c p v i).length≤1:=by unfold enabG;split<;>simp
theorem Enabled_eq (c:T27) (H:Fit c) (leaf v:Int):m33 c leaf v=some (enabledS c leaf v):=by
 have hs:=H.states
 have ht:=H.trans
 have hp:=pathS_len c leaf
 delta m33 d33
 simp only[↓JD.sg_m,↓JD.sq_m,↓JD.sc_m,↓JD.bk_m,↓JD.lp_m,↓JD.cd_m,↓JD.lu_m,↓JD.ct_m,↓JD.ce_m,↓JL.r_m,↓JL.z_m,↓JD.se_m,onE_r,↓Tr.run,↓Tr.run_nd,↓Tr.run_c3,↓Tr.run_c2,↓Tr.run_nx,↓onS,bind_ite,Option.bind_some,Option.bind_none,obR,Path_eq c H,onS_l]
 refine on_l (loop_coll c.Transitions.length (fun i l=>(l,(i:Int))) (enabG c (pathS c leaf) v) Sum.inl (fun i hi=>?_) (by (simp only[lt_irr,decide_false,Bool.false_eq_true,if_false];try rfl))) rfl
 have hl:=flatMap_len (enabG_len c (pathS c leaf) v) i
 have h3:(((List.range i).flatMap (enabG c (pathS c leaf) v)).length+1) * 8≤140737488355328:=by omega
 have hw:=H.when_ _ (getD_mem hi)
 simp only[inL hi,decide_true,h3,Int.toNat_natCast,if_true,wr1 hi (by omega),containsI_eq _ _ (show (pathS c leaf).length≤100000 by omega),Holds_eq _ _ (Nat.le_trans hw (by omega)),Option.bind_some,enabG]
 cases hasK (pathS c leaf) (pathS c leaf).length (c.Transitions.getD i default).From with
 | false=>simp
 | true=>cases holdsS (c.Transitions.getD i default).When v<;>simp
end Go.Av.Ch
set_option maxRecDepth 1000000
namespace Go.Av.Mo
open Go.Av.Ch
def fitB (c:T27):Bool:=decide (c.Conds.length≤1000)&&decide (c.Never.length≤1000)&&c.Never.all (fun l=>decide (l.length≤1000))&&decide (c.States.length≤1000)&&c.States.all (fun s=>decide (s.Entry.length≤1000)&&decide (s.Exit.length≤1000)) &&
 decide (c.Transitions.length≤1000)&&c.Transitions.all (fun t=>decide (t.When.length≤1000)&&decide (t.Actions.length≤1000))
theorem fit_of {c:T27} (h:fitB c=true):Fit c:=by
 simp only[fitB,Bool.and_eq_true,decide_eq_true_eq,List.all_eq_true]at h
 obtain⟨⟨⟨⟨⟨⟨h1,h2⟩,h3⟩,h4⟩,h5⟩,h6⟩,h7⟩:=h
 exact⟨h1,h2,h3,h4,fun s hs=>(h5 s hs).1,fun s hs=>(h5 s hs).2,h6,fun t ht=>(h7 t ht).1,fun t ht=>(h7 t ht).2⟩
theorem fit1:Fit C1:=fit_of (by kernel_rfl)
theorem fit2:Fit C2:=fit_of (by kernel_rfl)
theorem fit3:Fit C3:=fit_of (by kernel_rfl)
theorem chk1:checkM C1=some 0:=by kernel_rfl
theorem chk2:checkM C2=some 0:=by kernel_rfl
theorem chk3:checkM C3=some 0:=by kernel_rfl
theorem lea1:leavesS C1=[1,2,3,4,5,6]:=by kernel_rfl
theorem lea2:leavesS C2=[1,2,3,4,5,6,7,8]:=by kernel_rfl
theorem lea3:leavesS C3=[1,2,3,4,5,6,7,8]:=by kernel_rfl
end Go.Av.Mo
namespace Go.Av
theorem n16 {n:Nat} (h:n < 65536):IntKind.wrap .u16 (n:Int)=(n:Int):=IntWalk.u16_in _ (by omega)
theorem n32 {n:Nat} (h:n < 4294967296):IntKind.wrap .u32 (n:Int)=(n:Int):=IntWalk.u32_in _ (by omega)
theorem bv16 {n:Nat} (h:n < 65536):(BitVec.ofInt (IntKind.bits .u16) (n:Int))=BitVec.ofNat 16 n:=by show BitVec.ofInt 16 (n:Int)=_;rw[BitVec.ofInt_natCast]
theorem bv32 {n:Nat} (h:n < 4294967296):(BitVec.ofInt (IntKind.bits .u32) (n:Int))=BitVec.ofNat 32 n:=by show BitVec.ofInt 32 (n:Int)=_;rw[BitVec.ofInt_natCast]
theorem or16 {n m:Nat} (hn:n < 65536) (hm:m < 65536):IntKind.wrap .u16 (((BitVec.ofInt (IntKind.bits .u16) (n:Int)) ||| (BitVec.ofInt (IntKind.bits .u16) (m:Int))).toNat:Int)=((n ||| m:Nat):Int):=by
 have e:((BitVec.ofInt (IntKind.bits .u16) (n:Int)) ||| (BitVec.ofInt (IntKind.bits .u16) (m:Int))).toNat=n ||| m:=by
  rw[BitVec.toNat_or,bv16 hn,bv16 hm]
  show (BitVec.ofNat 16 n).toNat ||| (BitVec.ofNat 16 m).toNat=_
  rw[BitVec.toNat_ofNat,BitVec.toNat_ofNat,Nat.mod_eq_of_lt hn,Nat.mod_eq_of_lt hm]
 rw[e]
 exact n16 (Nat.or_lt_two_pow (n:=16) hn hm)
theorem and32 {n m:Nat} (hn:n < 4294967296) (hm:m < 4294967296):IntKind.wrap .u32 (((BitVec.ofInt (IntKind.bits .u32) (n:Int)) &&& (BitVec.ofInt (IntKind.bits .u32) (m:Int))).toNat:Int)=((n &&& m:Nat):Int):=by
 have e:((BitVec.ofInt (IntKind.bits .u32) (n:Int)) &&& (BitVec.ofInt (IntKind.bits .u32) (m:Int))).toNat=n &&& m:=by
  rw[BitVec.toNat_and,bv32 hn,bv32 hm]
  show (BitVec.ofNat 32 n).toNat &&& (BitVec.ofNat 32 m).toNat=_
  rw[BitVec.toNat_ofNat,BitVec.toNat_ofNat,Nat.mod_eq_of_lt hn,Nat.mod_eq_of_lt hm]
 rw[e]
 exact n32 (Nat.lt_of_le_of_lt Nat.and_le_left hn)
theorem fdiv_pow {n k B:Nat} (hk:k≤B):(n:Int).fdiv (2 ^ (min k B))=((n / 2 ^ k:Nat):Int):=by
 have e1:min k B=k:=by omega
 rw[e1,Int.fdiv_eq_ediv_of_nonneg _ (Int.le_of_lt (Int.pow_pos (by omega)))]
 push_cast
 rfl
def bitW (v:Int) (k:Nat):Bool:=IntKind.wrap .u32 (((BitVec.ofInt (IntKind.bits .u32) (Int.fdiv v (2 ^ (min k (IntKind.bits .u32))))) &&& (BitVec.ofInt (IntKind.bits .u32) 1)).toNat:Int)==1
theorem bitW_eq {n k:Nat} (hn:n < 4294967296) (hk:k≤32):bitW (n:Int) k=n.testBit k:=by
 unfold bitW
 rw[show IntKind.bits .u32=32 from rfl,fdiv_pow hk]
 have h2:n / 2 ^ k < 4294967296:=Nat.lt_of_le_of_lt (Nat.div_le_self _ _) hn
 have:=and32 h2 (show 1 < 4294967296 by omega)
 rw[show ((1:Nat):Int)=1 from rfl,show IntKind.bits .u32=32 from rfl]at this
 rw[this,Nat.and_one_is_mod,Nat.testBit_eq_decide_div_mod_eq,Bool.eq_iff_iff,beq_iff_eq,decide_eq_true_eq]
 omega
theorem shl16 {i:Nat} (hi:i < 16):IntKind.wrap .u16 ((1:Int) * 2 ^ (min i (IntKind.bits .u16)))=((2 ^ i:Nat):Int):=by
 have e1:min i (IntKind.bits .u16)=i:=by show min i 16=i;omega
 rw[e1,Int.one_mul]
 have h:2 ^ i < 65536:=Nat.pow_lt_pow_right (a:=2) (m:=i) (n:=16) (by omega) hi
 have e2:((2:Int) ^ i)=((2 ^ i:Nat):Int):=by push_cast;rfl
 rw[e2]
 exact n16 h
def valF (p:Nat→Nat) (b:Nat):Nat→Nat
 | 0=>0
 | n+1=>if b.testBit (p n)=true then valF p b n ||| 2 ^ n else valF p b n
theorem valF_bit (p:Nat→Nat) (b:Nat):∀ n j,(valF p b n).testBit j=(decide (j < n)&&b.testBit (p j))
 | 0,j=>by simp[valF]
 | n+1,j=>by
  unfold valF
  have ih:=valF_bit p b n j
  by_cases h:b.testBit (p n)=true
  ·rw[if_pos h,Nat.testBit_or,ih,Nat.testBit_two_pow]
   by_cases e:j=n
   ·subst e;simp[h]
   ·have e1:decide (n=j)=false:=by simp;omega
    have e2:decide (j < n+1)=decide (j < n):=by rw[decide_eq_decide];omega
    rw[e1,e2,Bool.or_false]
  ·rw[if_neg h,ih]
   by_cases e:j=n
   ·subst e;simp[h]
   ·have e2:decide (j < n+1)=decide (j < n):=by rw[decide_eq_decide];omega
    rw[e2]
theorem valF_lt (p:Nat→Nat) (b n:Nat):valF p b n < 2 ^ n:=by
 apply Nat.lt_pow_two_of_testBit
 intro i hi
 rw[valF_bit]
 have:¬ i < n:=by omega
 simp[this]
theorem u32_nat {v:Int} (h:(Lit.int .u32 v).wf=true):∃ n:Nat,v=n∧n < 4294967296:=by
 simp[Lit.wf,IntKind.min,IntKind.max,IntKind.signed,IntKind.bits]at h
 exact⟨v.toNat,by omega,by omega⟩
theorem u8_nat {v:Int} (h:(Lit.int .u8 v).wf=true):∃ n:Nat,v=n∧n < 256:=by
 simp[Lit.wf,IntKind.min,IntKind.max,IntKind.signed,IntKind.bits]at h
 exact⟨v.toNat,by omega,by omega⟩
theorem bs {α β:Type} {a:α} {f:α→Option β}:Option.bind (some a) f=f a:=Eq.mpr rfl rfl
theorem ol {Y R:Type} {f:Y→Option R} {y:Y}:onS f (.inl y)=f y:=Eq.mpr rfl rfl
theorem or_ {Y R:Type} {f:Y→Option R} {r:R}:onS f (.inr r)=some r:=Eq.mpr rfl rfl
theorem oe {R:Type} {r:R}:onE (.inr r)=some r:=Eq.mpr rfl rfl
theorem bind_id {α:Type} {m:Option α}:(Option.bind m fun r=>some r)=m:=by cases m<;>rfl
theorem loop_st {S X : Type} {b : S → Option (S ⊕ X)} (n : Nat) (st : Nat → S) (out : X) (hs : ∀ i, i < n → b (st i) = some (.inl (st (i + 1)))) (he : b (st n) = some (.inr out)) : loopO b (st 0) = some out := by
  have key : ∀ k i, i + k = n → loopO b (st i) = some out := by
    intro k
    induction k with
    | zero => intro i h; obtain rfl : i = n := by omega
              rw [loopO_eq, he]; rfl
    | succ k ih => intro i h; rw [loopO_eq, hs i (by omega)]; exact ih (i + 1) (by omega)
  exact key n 0 (by omega)
end Go.Av
set_option maxRecDepth 1000000
namespace Go.Av.Mo
open Go.Av.Ch
def namesL:List (List UInt8):=[[71,82,79,85,78,68],[72,69,65,68,73,78,71],[78,65,86],[82,69,65,68,89],[90,79,78,69],[70,73,78,65,76],[71,79],[72,79,76,68],[83,80,69,69,68],[67,72,65,78,71,69],[65,66,79,86,69],[84,65,75,69],[78,69,65,82],[65,84],[84,72,82,85,83,84],[65,67,67,69,76],[76,69,86,69,76],[68,79,87,78],[83,84,79,80,80,69,68]]
theorem Names_eq:m24=some namesL:=by kernel_rfl
theorem indexS_eq (l:List (List UInt8)) (x:List UInt8) (hl:l.length≤100000):m108 l x=some (findR (fun i=>x==l.getD i default) l.length):=by
 delta m108 d108
 simp only[↓JD.sg_m,↓JD.sq_m,↓JD.sc_m,↓JD.bk_m,↓JD.lp_m,↓JD.cd_m,↓JD.lu_m,↓JD.ct_m,↓JD.ce_m,↓JL.r_m,↓JL.z_m,↓JD.se_m,onE_r,↓Tr.run,↓Tr.run_nd,↓Tr.run_c3,↓Tr.run_c2,↓Tr.run_nx,↓onS,bind_ite,Option.bind_some,Option.bind_none,obR]
 refine idx_loop (fun i hi=>?_) ?_
 ·(simp only[exB_ite,exB_some,exB_none];simp only[inL hi,decide_true,Int.toNat_natCast,if_true,implies_true,wr1 hi (by omega)];try rfl)
 ·(simp only[lt_irr,decide_false,Bool.false_eq_true,if_false];try rfl)
def posS (c:T27) (i:Nat):Int:=findR (fun j=>c.Conds.getD i default==namesL.getD j default) 19
def posOk (c:T27):Bool:=(List.range c.Conds.length).all fun i=>decide (0≤posS c i)&&decide (posS c i < 19)
def valS (c:T27) (b:Nat):Nat:=valF (fun i=>(posS c i).toNat) b c.Conds.length
theorem pos1:posOk C1=true:=by kernel_rfl
theorem pos2:posOk C2=true:=by kernel_rfl
theorem pos3:posOk C3=true:=by kernel_rfl
theorem pos_of {c:T27} (h:posOk c=true) {i:Nat} (hi:i < c.Conds.length):0≤posS c i∧posS c i < 19:=by
 simp only[posOk,List.all_eq_true]at h
 simpa using h i (List.mem_range.2 hi)
theorem valS_lt {c:T27} {b:Nat}:valS c b < 2 ^ c.Conds.length:=valF_lt _ _ _
theorem valuation_eq {c:T27} (H:Fit c) (hp:posOk c=true) (hc:c.Conds.length≤16) {b:Nat} (hb:b < 4294967296):m61 c (b:Int)=some ((valS c b:Int),allowedS c (valS c b)):=by
 delta m61 d61
 simp only[↓JD.sg_m,↓JD.sq_m,↓JD.sc_m,↓JD.bk_m,↓JD.lp_m,↓JD.cd_m,↓JD.lu_m,↓JD.ct_m,↓JD.ce_m,↓JL.r_m,↓JL.z_m,↓JD.se_m,onE_r,↓Tr.run,↓Tr.run_nd,↓Tr.run_c3,↓Tr.run_c2,↓Tr.run_nx,↓onS,bind_ite,Option.bind_some,Option.bind_none,obR,Names_eq]
 refine on_l (loop_st c.Conds.length (fun i=>(((valF (fun i=>(posS c i).toNat) b i:Nat):Int),(i:Int))) (Sum.inl (valS c b:Int)) (fun i hi=>?_) (by (simp only[lt_irr,decide_false,Bool.false_eq_true,if_false];try rfl))) ?_
 ·obtain⟨p0,p1⟩:=pos_of hp hi
  have hl:valF (fun i=>(posS c i).toNat) b i < 65536:=Nat.lt_of_lt_of_le (valF_lt _ _ _) (show 2 ^ i≤2 ^ 16 from Nat.pow_le_pow_right (by omega) (by omega))
  have h2:2 ^ i < 65536:=Nat.pow_lt_pow_right (a:=2) (m:=i) (n:=16) (by omega) (by omega)
  have e:=indexS_eq namesL (c.Conds.getD i default) (by decide)
  rw[show namesL.length=19 from rfl]at e
  have hbit:=bitW_eq hb (k:=(posS c i).toNat) (by omega)
  unfold bitW at hbit
  simp only[inL hi,decide_true,Int.toNat_natCast,if_true,e,Option.bind_some,show findR (fun j=>c.Conds.getD i default==namesL.getD j default) 19=posS c i from rfl,p0,hbit,shl16 (show i < 16 by omega),or16 hl h2,wr1 hi (by omega),valF]
  split<;>rfl
 ·simp only[Allowed_eq c H,Option.bind_some]
end Go.Av.Mo
set_option maxRecDepth 100000
namespace Go.Av.Ch
abbrev stA (c:T27) (x:Int):T76:=c.States.getD x.toNat default
structure Good (c:T27):Prop where
 ne:0 < c.States.length
 cap:c.States.length≤40
 parent:∀ x,isS c x=true → -1≤(stA c x).Parent∧(stA c x).Parent < x
 init:∀ x,isS c x=true→comp c x=true→childS c (stA c x).Initial x=true
 leafI:∀ x,isS c x=true→comp c x=false→(stA c x).Initial = -1∧(stA c x).History=false
 start:isS c c.Start=true
 tr:∀ i,i < c.Transitions.length→isS c (c.Transitions.getD i default).From=true∧isS c (c.Transitions.getD i default).To=true
 entry:∀ x,isS c x=true→(stA c x).Entry.length≤8
 exit_:∀ x,isS c x=true→(stA c x).Exit.length≤8
 acts:∀ i,i < c.Transitions.length→(c.Transitions.getD i default).Actions.length≤8
theorem orK_ok {R:Type} {a b:Option R} {z:R} (h:orK a b=some z) (hn:a≠some z):a=none∧b=some z:=by
 cases a with
 | none=>exact⟨rfl,h⟩
 | some y=>exact absurd h hn
theorem ite_err {p:Prop} [Decidable p] {e z:Int} {k:Option Int} (h:(if p then some e else k)=some z) (he:e≠z):¬ p∧k=some z:=by
 split at h
 ·injection h with h;exact absurd h he
 ·rename_i hp;exact⟨hp,h⟩
theorem good_of {c:T27} (h:checkM c=some 0):Good c:=by
 unfold checkM at h
 obtain⟨-,h⟩:=ite_err h (by decide)
 obtain⟨h1,h⟩:=ite_err h (by decide)
 obtain⟨hcap,h⟩:=ite_err h (by decide)
 have n1:firstR (condF c) c.Conds.length≠some 0:=fun e=>by
  obtain⟨i,_,e⟩:=firstR_some e
  unfold condF at e
  split at e
  ·rename_i hh;injection e with e;rw[e]at hh;simp at hh
  ·cases e
 obtain⟨-,h⟩:=orK_ok h n1
 have n2:firstR (nevF c) c.Never.length≠some 0:=fun e=>by
  obtain⟨i,_,e⟩:=firstR_some e
  unfold nevF at e
  split at e
  ·cases e
  ·split at e
   ·rename_i hh;injection e with e;rw[e]at hh;simp at hh
   ·cases e
 obtain⟨-,h⟩:=orK_ok h n2
 have n3:firstR (stF c) c.States.length≠some 0:=fun e=>by
  obtain⟨i,_,e⟩:=firstR_some e
  unfold stF at e
  split at e
  ·rename_i hh;injection e with e;rw[e]at hh;simp at hh
  ·cases e
 obtain⟨hst,h⟩:=orK_ok h n3
 obtain⟨hs,h⟩:=ite_err h (by decide)
 have n4:firstR (trF c) c.Transitions.length≠some 0:=fun e=>by
  obtain⟨i,_,e⟩:=firstR_some e
  unfold trF at e
  split at e
  ·cases e
  ·split at e
   ·rename_i hh;injection e with e;rw[e]at hh;simp at hh
   ·split at e
    ·rename_i hh;injection e with e;rw[e]at hh;simp at hh
    ·cases e
 obtain⟨htr,-⟩:=orK_ok h n4
 have st:∀ i,i < c.States.length→stateT c i=0:=fun i hi=>by
  have:=firstR_none.1 hst i hi
  unfold stF at this
  split at this
  ·cases this
  ·rename_i hh
   have hh:stateS c i=0:=by simpa using hh
   unfold stateS at hh
   split at hh
   ·rename_i h2;rw[hh]at h2;simp at h2
   ·exact hh
 have key:∀ x,isS c x=true→x=(x.toNat:Int)∧x.toNat < c.States.length:=fun x hx=>by have:=isS_iff.1 hx;omega
 have rows:∀ x,isS c x=true→(-1≤(stA c x).Parent∧(stA c x).Parent < x)∧(comp c x=true→childS c (stA c x).Initial x=true)∧(comp c x=false→(stA c x).Initial = -1∧(stA c x).History=false)∧(stA c x).Entry.length≤8∧(stA c x).Exit.length≤8:=fun x hx=>by
  obtain⟨e,hlt⟩:=key x hx
  have h:=st _ hlt
  unfold stateT at h
  rw[← e]at h
  split at h
  ·cases h
  rename_i a1
  split at h
  ·cases h
  rename_i a2
  split at h
  ·cases h
  rename_i a3
  split at h
  ·rename_i a4;rw[h]at a4;simp at a4
  rename_i a4
  simp only[Bool.or_eq_true,decide_eq_true_eq,not_or,Int.not_lt,Int.not_le]at a1
  refine⟨⟨a1.1,a1.2⟩,fun hc=>?_,fun hc=>?_,actS_len (by simpa using a4),actS_len h⟩
  ·rw[hc]at a2
   simpa using a2
  ·rw[hc]at a2 a3
   exact⟨by simpa using a2,by simpa using a3⟩
 have trs:∀ i,i < c.Transitions.length→(isS c (c.Transitions.getD i default).From=true∧isS c (c.Transitions.getD i default).To=true)∧(c.Transitions.getD i default).Actions.length≤8:=fun i hi=>by
  have:=firstR_none.1 htr i hi
  unfold trF at this
  split at this
  ·cases this
  rename_i a1
  split at this
  ·cases this
  split at this
  ·cases this
  rename_i a3
  exact⟨by simpa using a1,actS_len (by simpa using a3)⟩
 refine⟨?_,by simp only[Bool.or_eq_true,decide_eq_true_eq,not_or,Int.not_lt]at hcap;omega,fun x hx=>(rows x hx).1,fun x hx=>(rows x hx).2.1,fun x hx=>(rows x hx).2.2.1,by simpa using hs,fun i hi=>(trs i hi).1,fun x hx=>(rows x hx).2.2.2.1,fun x hx=>(rows x hx).2.2.2.2,fun i hi=>(trs i hi).2⟩
 have:¬ ((c.States.length:Int)=0):=by simpa using h1
 omega
def memBad (c:T27) (i m:Int):Bool:=(m != (-1:Int))&&(!isS c m || !(stA c i).History || ((stA c m).Parent != i))
def validS (c:T27) (g:T41):Bool:=!(!isS c g.Leaf || comp c g.Leaf || ((g.Memory.length:Int) != (c.States.length:Int)))&&!anyR (fun i=>memBad c i (g.Memory.getD i default)) g.Memory.length
structure MemOk (c:T27) (m:List Int):Prop where
 len:m.length=c.States.length
 ok:∀ i:Nat,i < m.length→memBad c i (m.getD i default)=false
theorem validS_iff {c:T27} {g:T41}:validS c g=true↔isS c g.Leaf=true∧comp c g.Leaf=false∧MemOk c g.Memory:=by
 unfold validS
 simp only[Bool.and_eq_true,Bool.not_eq_true',Bool.or_eq_false_iff,Bool.not_eq_false',bne_eq_false_iff_eq,anyR_false]
 constructor
 ·rintro⟨⟨⟨h1,h2⟩,h3⟩,h4⟩;exact⟨h1,h2,⟨by omega,h4⟩⟩
 ·rintro⟨h1,h2,h3⟩;exact⟨⟨⟨h1,h2⟩,by have:=h3.len;omega⟩,h3.ok⟩
theorem MemOk.none {c:T27} {m:List Int} (h:MemOk c m) {x:Int} (hx:isS c x=true) (hh:(stA c x).History=false):m.getD x.toNat default = -1:=by
 have hi:=isS_iff.1 hx
 have:=h.ok x.toNat (by rw[h.len];omega)
 unfold memBad at this
 rw[Int.toNat_of_nonneg hi.1,hh]at this
 simpa using this
theorem MemOk.child {c:T27} {m:List Int} (h:MemOk c m) {x:Int} (hx:isS c x=true) (hm:m.getD x.toNat default ≠ -1):childS c (m.getD x.toNat default) x=true:=by
 have hi:=isS_iff.1 hx
 have:=h.ok x.toNat (by rw[h.len];omega)
 unfold memBad at this
 rw[Int.toNat_of_nonneg hi.1]at this
 simp only[Bool.and_eq_false_iff,bne_eq_false_iff_eq,Bool.or_eq_false_iff,Bool.not_eq_false']at this
 rcases this with h1 | ⟨⟨h1,h2⟩,h3⟩
 ·exact absurd h1 hm
 ·unfold childS;rw[h1,h3];simp
theorem MemOk.set {c:T27} {m:List Int} (h:MemOk c m) {x v:Int} (hv:v = -1∨((stA c x).History=true∧childS c v x=true)) (hx:isS c x=true):MemOk c (m.set x.toNat v):=by
 have hi:=isS_iff.1 hx
 refine⟨by rw[List.length_set];exact h.len,fun i hl=>?_⟩
 rw[List.length_set]at hl
 by_cases he:x.toNat=i
 ·subst he
  rw[List.getD_eq_getElem?_getD,List.getElem?_set_self hl,Option.getD_some,Int.toNat_of_nonneg hi.1]
  unfold memBad
  rcases hv with rfl | ⟨h1,h2⟩
  ·rfl
  ·unfold childS at h2
   simp only[Bool.and_eq_true,beq_iff_eq]at h2
   rw[h1,h2.1,h2.2];simp
 ·rw[List.getD_eq_getElem?_getD,List.getElem?_set_ne he,← List.getD_eq_getElem?_getD]
  exact h.ok i hl
theorem set_same {m:List Int} {i:Nat} {v:Int} (hi:i < m.length) (h:m.getD i default=v):m.set i v=m:=by
 apply List.ext_getElem?
 intro j
 rw[List.getElem?_set]
 split
 ·rename_i e;subst e
  rw[← h,List.getD_eq_getElem?_getD,List.getElem?_eq_getElem hi,Option.getD_some]
 ·rfl
theorem Valid_eq (c:T27) (H:Fit c) (g:T41):m57 c g=some (validS c g):=by
 have hs:=H.states
 delta m57 d57
 simp only[↓JD.sg_m,↓JD.sq_m,↓JD.sc_m,↓JD.bk_m,↓JD.lp_m,↓JD.cd_m,↓JD.lu_m,↓JD.ct_m,↓JD.ce_m,↓JL.r_m,↓JL.z_m,↓JD.se_m,onE_r,↓Tr.run,↓Tr.run_nd,↓Tr.run_c3,↓Tr.run_c2,↓Tr.run_nx,↓onS,bind_ite,Option.bind_some,Option.bind_none,obR,is_eq,composite_eq c _ (Nat.le_trans hs (by omega))]
 unfold validS
 have e0:(if(!!isS c g.Leaf)=true then some (isS c g.Leaf,comp c g.Leaf)else some (isS c g.Leaf,default))=some (isS c g.Leaf,if isS c g.Leaf=true then comp c g.Leaf else default):=by
  cases isS c g.Leaf<;>rfl
 cases h1:(!isS c g.Leaf || comp c g.Leaf || ((g.Memory.length:Int) != (c.States.length:Int))) with
 | true =>
  cases h2:isS c g.Leaf with
  | false=>simp
  | true =>
   rw[h2]at h1
   simp only[Bool.not_true,Bool.false_or]at h1
   simp only[Bool.not_true,Bool.not_false,Bool.false_or,if_true,h1,onS_r,Bool.false_and]
 | false =>
  simp only[Bool.or_eq_false_iff,Bool.not_eq_false',bne_eq_false_iff_eq]at h1
  obtain⟨⟨h2,h3⟩,h4⟩:=h1
  have h5:g.Memory.length=c.States.length:=by omega
  simp only[h2,h3,h5,bne_self_eq_false,Bool.not_true,Bool.not_false,Bool.or_false,Bool.false_eq_true,if_false,if_true,onS_l,Bool.true_and]
  rw[loop_ex c.States.length (fun i=>if memBad c i (g.Memory.getD i default)=true then some false else none) ?_ ?_,firstR_const]
  ·cases anyR (fun i=>memBad c i (g.Memory.getD i default)) c.States.length<;>rfl
  ·intro i hi
   simp only[exB_ite,exB_some,exB_none]
   simp only[inL hi,decide_true,Int.toNat_natCast,if_true,implies_true,wr1 hi (by omega)]
   unfold memBad stA
   simp only[Int.toNat_natCast]
   by_cases hm:g.Memory.getD i default = -1
   ·simp only[hm,bne_self_eq_false,Bool.false_and,Bool.false_eq_true,false_implies,if_false,if_true]
   ·have hm':(g.Memory.getD i default != (-1:Int))=true:=by simpa using hm
    have a3:=eq_true (show (true&&!(!isS c (g.Memory.getD i default) || !(c.States.getD i default).History))=true→(0:Int)≤g.Memory.getD i default from fun h=>by
     simp only[Bool.true_and,Bool.not_eq_true',Bool.or_eq_false_iff,Bool.not_eq_false']at h;exact(isS_iff.1 h.1).1)
    have a4:=eq_true (show (true&&!(!isS c (g.Memory.getD i default) || !(c.States.getD i default).History))=true→g.Memory.getD i default < (c.States.length:Int) from fun h=>by
     simp only[Bool.true_and,Bool.not_eq_true',Bool.or_eq_false_iff,Bool.not_eq_false']at h;exact(isS_iff.1 h.1).2)
    simp only[hm',a3,a4,if_true,Option.bind_some]
  ·(simp only[lt_irr,decide_false,Bool.false_eq_true,if_false];try rfl)
end Go.Av.Ch
set_option maxRecDepth 100000
namespace Go.Av.Ch
theorem isS_lt {c:T27} {x:Int} (h:isS c x=true):((0:Int)≤x)=True∧(x < (c.States.length:Int))=True∧x.toNat < c.States.length:=by
 have:=isS_iff.1 h
 exact⟨eq_true this.1,eq_true this.2,by omega⟩
theorem child_is {c:T27} (G:Good c) {x y:Int} (h:childS c y x=true):isS c y=true∧x < y:=by
 unfold childS at h
 simp only[Bool.and_eq_true,beq_iff_eq]at h
 have:=(G.parent y h.1).2
 exact⟨h.1,by unfold stA at this;omega⟩
def nextS (c:T27) (m:List Int) (x:Int):Int:=if((stA c x).History&&(m.getD x.toNat default != (-1:Int)))=true then m.getD x.toNat default else(stA c x).Initial
theorem nextS_child {c:T27} (G:Good c) {m:List Int} (M:MemOk c m) {x:Int} (hx:isS c x=true) (hc:comp c x=true):childS c (nextS c m x) x=true:=by
 unfold nextS
 split
 ·rename_i h
  simp only[Bool.and_eq_true,bne_iff_ne,ne_eq]at h
  exact M.child hx h.2
 ·exact G.init x hx hc
def enterF (c:T27):Nat→Int→List Int→List (List UInt8)→Int×List Int×List (List UInt8)
 | 0,x,m,a=>(x,m,a)
 | n+1,x,m,a=>if comp c x=true then enterF c n (nextS c m x) (m.set x.toNat (-1)) (a++(stA c x).Entry)else(x,m,a++(stA c x).Entry)
theorem enterF_ok {c:T27} (G:Good c):∀ (n:Nat) (x:Int) (m:List Int) (a:List (List UInt8)),isS c x=true→MemOk c m→c.States.length≤n+x.toNat →
  isS c (enterF c n x m a).1=true∧comp c (enterF c n x m a).1=false∧MemOk c (enterF c n x m a).2.1∧(enterF c n x m a).2.2.length≤a.length+8 * n
 | 0,x,m,a,hx,M,hn=>by have:=(isS_lt hx).2.2;omega
 | n+1,x,m,a,hx,M,hn=>by
  have he:=G.entry x hx
  unfold enterF
  cases hc:comp c x with
  | false=>simp only[Bool.false_eq_true,if_false,List.length_append];exact⟨hx,hc,M,by omega⟩
  | true =>
   simp only[if_true]
   obtain⟨h1,h2⟩:=child_is G (nextS_child G M hx hc)
   have h3:=isS_iff.1 hx
   obtain⟨k1,k2,k3,k4⟩:=enterF_ok G n _ _ (a++(stA c x).Entry) h1 (M.set (.inl rfl) hx) (by omega)
   exact⟨k1,k2,k3,by rw[List.length_append]at k4;omega⟩
theorem enter_loop {c:T27} (G:Good c) {b:Int×List Int×List (List UInt8)→Option ((Int×List Int×List (List UInt8))⊕(Int×List Int×List (List UInt8)))}
  (hb:∀ (x:Int) (m:List Int) (a:List (List UInt8)),isS c x=true→MemOk c m→a.length≤100000→b (x,m,a)=if comp c x=true then some (.inl (nextS c m x,m.set x.toNat (-1),a++(stA c x).Entry))else some (.inr (x,m,a++(stA c x).Entry))) :
  ∀ (n:Nat) (x:Int) (m:List Int) (a:List (List UInt8)),isS c x=true→MemOk c m→c.States.length≤n+x.toNat→a.length+8 * n≤100000→loopO b (x,m,a)=some (enterF c n x m a)
 | 0,x,m,a,hx,M,hn,hl=>by have:=(isS_lt hx).2.2;omega
 | n+1,x,m,a,hx,M,hn,hl=>by
  have he:=G.entry x hx
  rw[loopO_eq,hb x m a hx M (by omega)]
  unfold enterF
  cases hc:comp c x with
  | false=>rfl
  | true =>
   simp only[if_true,Option.bind_some]
   obtain⟨h1,h2⟩:=child_is G (nextS_child G M hx hc)
   have h3:=isS_iff.1 hx
   exact enter_loop G hb n _ _ _ h1 (M.set (.inl rfl) hx) (by omega) (by rw[List.length_append];omega)
def enterS (c:T27) (x:Int) (m:List Int) (a:List (List UInt8)):Int×List Int×List (List UInt8):=enterF c c.States.length x m a
def aroundS (c:T27) (l:List Int) (m:List Int) (a:List (List UInt8)):List Int×List (List UInt8):=l.foldr (fun x s=>(s.1.set x.toNat (-1),s.2++(stA c x).Entry)) (m,a)
theorem aroundS_ok {c:T27} (G:Good c) {m:List Int} {a:List (List UInt8)} (M:MemOk c m):∀ (l:List Int),(∀ x∈l,isS c x=true)→MemOk c (aroundS c l m a).1∧(aroundS c l m a).2.length≤a.length+8 * l.length
 | [],_=>⟨M,Nat.le_refl _⟩
 | x :: l,h=>by
  obtain⟨h1,h2⟩:=aroundS_ok G (a:=a) M l fun y hy=>h y (List.mem_cons_of_mem _ hy)
  have hx:=h x (by simp)
  have he:=G.entry x hx
  refine⟨h1.set (.inl rfl) hx,?_⟩
  show ((aroundS c l m a).2++(stA c x).Entry).length≤_
  rw[List.length_append,List.length_cons];omega
def leaveS (c:T27) (s:Int):List Int→Int→List Int→List (List UInt8)→List Int×List (List UInt8)
 | [],_,m,a=>(m,a)
 | x :: l,last,m,a=>if(x==s)=true then(m,a)else leaveS c s l x (if((stA c x).History&&(last != (-1:Int)))=true then m.set x.toNat last else m) (a++(stA c x).Exit)
theorem mem_leave {c:T27} {m:List Int} (M:MemOk c m) {x last:Int} (hx:isS c x=true) (hl:last = -1∨childS c last x=true):MemOk c (if((stA c x).History&&(last != (-1:Int)))=true then m.set x.toNat last else m):=by
 split
 ·rename_i h
  simp only[Bool.and_eq_true,bne_iff_ne,ne_eq]at h
  exact M.set (hl.imp (fun e=>absurd e h.2) fun e=>⟨h.1,e⟩) hx
 ·exact M
theorem parent_is {c:T27} (G:Good c) {x:Int} (hx:isS c x=true) (ht:topB c x=false):isS c (stA c x).Parent=true∧(stA c x).Parent.toNat < x.toNat∧childS c x (stA c x).Parent=true:=by
 have h1:=topB_false ht
 have h2:=isS_iff.1 hx
 refine⟨isS_iff.2 ⟨h1.1,by show (c.States.getD x.toNat default).Parent < _;omega⟩,by show (c.States.getD x.toNat default).Parent.toNat < _;omega,?_⟩
 unfold childS;rw[hx];simp[stA]
theorem leaveS_ok {c:T27} (G:Good c) {s:Int}:∀ (n:Nat) (x last:Int) (m:List Int) (a:List (List UInt8)),x.toNat≤n→isS c x=true→MemOk c m→(last = -1∨childS c last x=true) →
  MemOk c (leaveS c s (pathS c x) last m a).1∧(leaveS c s (pathS c x) last m a).2.length≤a.length+8 * (n+1):=by
 intro n
 induction n with
 | zero =>
  intro x last m a hn hx M hl
  have he:=G.exit_ x hx
  rw[pathS_step hx]
  unfold leaveS
  split
  ·exact⟨M,by show a.length≤_;omega⟩
  ·cases ht:topB c x with
   | false=>have:=(parent_is G hx ht).2.1;omega
   | true=>exact⟨mem_leave M hx hl,by simp only[if_true,leaveS,List.length_append];omega⟩
 | succ n ih =>
  intro x last m a hn hx M hl
  have he:=G.exit_ x hx
  rw[pathS_step hx]
  unfold leaveS
  split
  ·exact⟨M,by show a.length≤_;omega⟩
  ·cases ht:topB c x with
   | true=>exact⟨mem_leave M hx hl,by simp only[if_true,leaveS,List.length_append];omega⟩
   | false =>
    obtain⟨p1,p2,p3⟩:=parent_is G hx ht
    simp only[Bool.false_eq_true,if_false]
    obtain⟨k1,k2⟩:=ih (stA c x).Parent x _ (a++(stA c x).Exit) (by omega) p1 (mem_leave M hx hl) (.inr p3)
    exact⟨k1,Nat.le_trans k2 (by rw[List.length_append];omega)⟩
def scopeS (c:T27) (a b:Int):Int:=((pathS c a).tail.find? fun x=>hasK (pathS c b).tail (pathS c b).tail.length x).getD (-1)
def untilS (s:Int) (l:List Int):List Int:=l.takeWhile fun x=>!(s==x)
def fireS (c:T27) (g:T41) (t:T78):Int×List Int×List (List UInt8) :=
 let s:=scopeS c t.From t.To
 let l:=leaveS c s (pathS c g.Leaf) (-1) g.Memory []
 let r:=aroundS c (untilS s (pathS c t.To).tail) l.1 (l.2++t.Actions)
 enterS c t.To r.1 r.2
theorem tail_is {c:T27} {x:Int}:∀ y∈(pathS c x).tail,isS c y=true:=fun y hy=>(pathS_is x.toNat x (Nat.le_refl _) y (List.mem_of_mem_tail hy)).1
theorem mem_begin {c:T27}:MemOk c (List.replicate c.States.length (-1)):=⟨by simp,fun i hi=>by
 have:(List.replicate c.States.length (-1:Int)).getD i default = -1:=by simp at hi;simp[List.getD_eq_getElem?_getD,List.getElem?_replicate,hi]
 unfold memBad;rw[this];rfl⟩
theorem untilS_sub {s:Int} {l:List Int}:∀ x∈untilS s l,x∈l:=fun x hx=>(List.takeWhile_prefix _).sublist.mem hx
theorem untilS_len {s:Int} {l:List Int}:(untilS s l).length≤l.length:=(List.takeWhile_prefix _).length_le
theorem fireS_ok {c:T27} (G:Good c) (H:Fit c) {g:T41} (hg:validS c g=true) {i:Nat} (hi:i < c.Transitions.length):validS c ⟨(fireS c g (c.Transitions.getD i default)).1,(fireS c g (c.Transitions.getD i default)).2.1⟩=true∧(fireS c g (c.Transitions.getD i default)).2.2.length≤32000:=by
 have hs:=H.states
 obtain⟨v1,v2,v3⟩:=validS_iff.1 hg
 have ha:=G.acts i hi
 have ht:=(G.tr i hi).2
 generalize c.Transitions.getD i default=t at *
 have hp:=pathS_len c t.To
 have hl:=(isS_lt v1).2.2
 obtain⟨a1,a2⟩:=leaveS_ok G (s:=scopeS c t.From t.To) g.Leaf.toNat g.Leaf (-1) g.Memory [] (Nat.le_refl _) v1 v3 (.inl rfl)
 obtain⟨h1,h2⟩:=aroundS_ok G (a:=(leaveS c (scopeS c t.From t.To) (pathS c g.Leaf) (-1) g.Memory []).2++t.Actions) a1 (untilS (scopeS c t.From t.To) (pathS c t.To).tail) fun x hx=>tail_is x (untilS_sub x hx)
 have hu:=untilS_len (s:=scopeS c t.From t.To) (l:=(pathS c t.To).tail)
 obtain⟨k1,k2,k3,k4⟩:=enterF_ok G c.States.length t.To _ (aroundS c (untilS (scopeS c t.From t.To) (pathS c t.To).tail) (leaveS c (scopeS c t.From t.To) (pathS c g.Leaf) (-1) g.Memory []).1 ((leaveS c (scopeS c t.From t.To) (pathS c g.Leaf) (-1) g.Memory []).2++t.Actions)).2 ht h1 (by omega)
 refine⟨validS_iff.2 ⟨k1,k2,k3⟩,?_⟩
 have:(fireS c g t).2.2.length≤_:=k4
 simp only[List.length_nil,List.length_tail,List.length_append]at h2 hu a2
 omega
theorem firstR_cons {Y:Type} {f:Nat→Option Y} {n:Nat}:firstR f (n+1)=orK (f 0) (firstR (fun i=>f (i+1)) n):=by
 unfold firstR
 rw[List.range_succ_eq_map,List.findSome?_cons,List.findSome?_map]
 cases f 0<;>rfl
theorem firstR_find {F:Int→Bool}:∀ {l:List Int},firstR (fun i=>if F (l.getD i default)=true then some (l.getD i default)else none) l.length=l.find? F
 | []=>rfl
 | x :: l=>by
  rw[List.length_cons,firstR_cons]
  simp only[List.getD_cons_zero,List.getD_cons_succ]
  rw[firstR_find,List.find?_cons]
  by_cases hf:F x=true
  ·simp only[hf,if_true,orK_some]
  ·have hf:=Bool.eq_false_iff.2 hf
   simp only[hf,Bool.false_eq_true,if_false,orK_none]
theorem until_eq {s:Int}:∀ (l:List Int),(if decide (0≤findR (fun i=>s==l.getD i default) l.length)=true then subL l 0 (findR (fun i=>s==l.getD i default) l.length).toNat else l)=untilS s l∧findR (fun i=>s==l.getD i default) l.length≤l.length
 | []=>by simp[untilS,findR,firstR]
 | x :: l=>by
  obtain⟨h1,h2⟩:=until_eq l (s:=s)
  have e:findR (fun i=>s==(x :: l).getD i default) (x :: l).length=if(s==x)=true then 0 else if decide (0≤findR (fun i=>s==l.getD i default) l.length)=true then findR (fun i=>s==l.getD i default) l.length+1 else -1:=by
   unfold findR
   rw[List.length_cons,firstR_cons]
   simp only[List.getD_cons_zero,List.getD_cons_succ]
   by_cases hx:(s==x)=true
   ·simp only[hx,if_true,orK_some];rfl
   ·simp only[hx,if_false,Bool.false_eq_true,orK_none]
    have key:firstR (fun i=>if(s==l.getD i default)=true then some (((i+1:Nat):Int))else none) l.length=(firstR (fun i=>if(s==l.getD i default)=true then some (i:Int)else none) l.length).map (·+1):=by
     unfold firstR
     induction List.range l.length with
     | nil=>rfl
     | cons i r ih =>
      simp only[List.findSome?_cons]
      by_cases hf:(s==l.getD i default)=true
      ·simp only[hf,if_true];simp
      ·simp only[hf,if_false,Bool.false_eq_true];exact ih
    rw[key]
    cases hf:firstR (fun i=>if(s==l.getD i default)=true then some (i:Int)else none) l.length with
    | none=>rfl
    | some y =>
     obtain⟨i,_,h⟩:=firstR_some hf
     split at h
     ·injection h with h;subst h;simp
     ·cases h
  rw[e]
  by_cases hx:(s==x)=true
  ·simp only[hx,if_true]
   exact⟨by simp[untilS,hx,subL],by rw[List.length_cons];omega⟩
  ·have hx':=Bool.eq_false_iff.2 hx
   simp only[hx',if_false,Bool.false_eq_true]
   unfold untilS at h1 ⊢
   rw[List.takeWhile_cons,hx']
   simp only[Bool.not_false,if_true]
   rw[← h1]
   by_cases hf:decide (0≤findR (fun i=>s==l.getD i default) l.length)=true
   ·have h0:0≤findR (fun i=>s==l.getD i default) l.length:=by simpa using hf
    simp only[hf,if_true]
    have h3:decide (0≤findR (fun i=>s==l.getD i default) l.length+1)=true:=by rw[decide_eq_true_eq];omega
    refine⟨?_,by rw[List.length_cons];omega⟩
    rw[if_pos h3,subL_eq (by rw[List.length_cons];omega),subL_eq (by omega)]
    rw[show (findR (fun i=>s==l.getD i default) l.length+1).toNat=(findR (fun i=>s==l.getD i default) l.length).toNat+1 by omega]
    simp
   ·simp only[hf,if_false,Bool.false_eq_true]
    exact⟨by simp,by rw[List.length_cons];omega⟩
theorem tail_sub (l:List Int):subL l 1 (l.length - 1)=l.tail:=by
 cases l with
 | nil=>rfl
 | cons x l=>rw[subL_eq (by rw[List.length_cons];omega)];simp
theorem pathS_pos {c:T27} {x:Int} (hx:isS c x=true):(1:Int)≤((pathS c x).length:Int):=by rw[pathS_step hx,List.length_cons];omega
end Go.Av.Ch
set_option maxRecDepth 100000
namespace Go.Av.Ch
theorem pass_eq {c:T27} (G:Good c) {x:Int} (hx:isS c x=true) {m:List Int} (M:MemOk c m) (leaf:Int) {a:List (List UInt8)} (ha:a.length≤100000):m103o0 x c leaf m a=some (m.set x.toNat (-1)):=by
 have he:=G.entry x hx
 have hl:=(isS_lt hx).2.2
 have h1:(a.length+(c.States.getD x.toNat default).Entry.length) * 16≤140737488355328:=by unfold stA at he;omega
 have h2:x < (m.length:Int):=by have:=M.len;have:=isS_iff.1 hx;omega
 have h3:x.toNat < m.length:=by have:=M.len;omega
 delta m103o0 d103o0
 simp only[↓JD.sg_m,↓JD.sq_m,↓JD.sc_m,↓JD.bk_m,↓JD.lp_m,↓JD.cd_m,↓JD.lu_m,↓JD.ct_m,↓JD.ce_m,↓JL.r_m,↓JL.z_m,↓JD.se_m,onE_r,↓Tr.run,↓Tr.run_nd,↓Tr.run_c3,↓Tr.run_c2,↓Tr.run_nx,↓onS,bind_ite,Option.bind_some,Option.bind_none,obR,isS_lt hx,h1,h2,h3,if_true]
 by_cases hh:(c.States.getD x.toNat default).History=true
 ·simp only[hh,if_true]
 ·have hh:=Bool.eq_false_iff.2 hh
  simp only[hh,Bool.false_eq_true,if_false]
  rw[set_same h3 (M.none hx hh)]
theorem enter_eq {c:T27} (G:Good c) (H:Fit c) {x:Int} (hx:isS c x=true) {m:List Int} (M:MemOk c m) (leaf:Int) {a:List (List UInt8)} (ha:a.length≤80000):m104o0 x c leaf m a=some (enterS c x m a):=by
 have hs:=H.states
 have hm:=M.len
 delta m104o0 d104o0
 simp only[↓JD.sg_m,↓JD.sq_m,↓JD.sc_m,↓JD.bk_m,↓JD.lp_m,↓JD.cd_m,↓JD.lu_m,↓JD.ct_m,↓JD.ce_m,↓JL.r_m,↓JL.z_m,↓JD.se_m,onE_r,↓Tr.run,↓Tr.run_nd,↓Tr.run_c3,↓Tr.run_c2,↓Tr.run_nx,↓onS,bind_ite,Option.bind_some,Option.bind_none,obR]
 refine enter_loop G (fun x m' a hx M' ha=>?_) _ _ _ _ hx M (by omega) (by omega)
 have hl:=(isS_lt hx).2.2
 have h2:x < (m.length:Int):=by have:=isS_iff.1 hx;omega
 have h3:x.toNat < m.length:=by omega
 have h4:subL m' 0 m.length=m':=subL_all (by rw[M'.len,hm])
 simp only[isS_lt hx,h2,h3,h4,implies_true,if_true,pass_eq G hx M' leaf ha,Option.bind_some]
 cases hc:comp c x with
 | true =>
  obtain⟨q1,q2⟩:=child_is G (nextS_child G M' hx hc)
  have q3:=isS_iff.1 q1
  unfold nextS stA at *
  simp only[if_true]
  by_cases hh:((c.States.getD x.toNat default).History&&(m'.getD x.toNat default != (-1:Int)))=true
  ·rw[if_pos hh]at q3
   have:(m'.getD x.toNat default==(-1:Int))=false:=by simp only[beq_eq_false_iff_ne,ne_eq];omega
   simp only[hh,this,if_true,Bool.false_eq_true,if_false]
  ·rw[if_neg hh]at q3
   have hh:=Bool.eq_false_iff.2 hh
   have:((c.States.getD x.toNat default).Initial==(-1:Int))=false:=by simp only[beq_eq_false_iff_ne,ne_eq];omega
   simp only[hh,this,if_true,Bool.false_eq_true,if_false]
 | false =>
  obtain⟨q1,q2⟩:=G.leafI x hx hc
  unfold stA at *
  simp only[q1,q2,Bool.false_and,Bool.false_eq_true,if_false,beq_self_eq_true,if_true]
  rw[set_same (by rw[M'.len];omega) (M'.none hx q2)]
theorem scope_eq {c:T27} (H:Fit c) {a b:Int} (ha:isS c a=true) (hb:isS c b=true):m106 c a b=some (scopeS c a b):=by
 have hs:=H.states
 have hla:=pathS_len c a
 have hlb:=pathS_len c b
 have hl:(pathS c b).tail.length≤100000:=by rw[List.length_tail];omega
 delta m106 d106
 simp only[↓JD.sg_m,↓JD.sq_m,↓JD.sc_m,↓JD.bk_m,↓JD.lp_m,↓JD.cd_m,↓JD.lu_m,↓JD.ct_m,↓JD.ce_m,↓JL.r_m,↓JL.z_m,↓JD.se_m,onE_r,↓Tr.run,↓Tr.run_nd,↓Tr.run_c3,↓Tr.run_c2,↓Tr.run_nx,↓onS,bind_ite,Option.bind_some,Option.bind_none,obR,Path_eq c H,Option.bind_some,Int.reduceLE,pathS_pos ha,pathS_pos hb,if_true,onS_l,Int.toNat_one,tail_sub,containsI_eq _ _ hl]
 rw[show ((pathS c a).length - 1)=(pathS c a).tail.length by rw[List.length_tail]]
 rw[loop_ex (pathS c a).tail.length (fun i=>if hasK (pathS c b).tail (pathS c b).tail.length ((pathS c a).tail.getD i default)=true then some ((pathS c a).tail.getD i default)else none) ?_ ?_,firstR_find,orK_getD];rfl
 ·intro i hi
  rw[List.length_tail]at hi
  have hi':i < (pathS c a).tail.length:=by rw[List.length_tail];exact hi
  have hta:(pathS c a).tail.length≤1000:=by rw[List.length_tail];omega
  simp only[exB_ite,exB_some,exB_none]
  simp only[inL hi',decide_true,Int.toNat_natCast,if_true,wr1 hi' (by omega)]
 ·(simp only[lt_irr,decide_false,Bool.false_eq_true,if_false];try rfl)
theorem leave_key {c:T27} (G:Good c) (s:Int) {p:List Int} {S X:Type} {b:S→Option (S⊕X)} (mk:Int→Int→List Int→List (List UInt8)→S) (out:List Int×List (List UInt8)→X)
  (hb:∀ (pre l:List Int) (x last:Int) (m:List Int) (a:List (List UInt8)),p=pre++x :: l→isS c x=true→MemOk c m→((last = -1∧(stA c x).History=false)∨childS c last x=true)→a.length≤90000 →
   b (mk last (pre.length:Int) m a)=if(x==s)=true then some (.inr (out (m,a)))else some (.inl (mk x ((pre.length+1:Nat):Int) (if((stA c x).History&&(last != (-1:Int)))=true then m.set x.toNat last else m) (a++(stA c x).Exit))))
  (he:∀ last m a,b (mk last (p.length:Int) m a)=some (.inr (out (m,a)))) :
  ∀ (n:Nat) (pre:List Int) (x last:Int) (m:List Int) (a:List (List UInt8)),p=pre++pathS c x→x.toNat≤n→isS c x=true→MemOk c m→((last = -1∧(stA c x).History=false)∨childS c last x=true)→a.length+8 * (n+1)≤90000 →
   loopO b (mk last (pre.length:Int) m a)=some (out (leaveS c s (pathS c x) last m a)):=by
 intro n
 induction n with
 | zero =>
  intro pre x last m' a hpre hn hx M' hl ha
  have he8:=G.exit_ x hx
  rw[pathS_step hx]at hpre ⊢
  rw[loopO_eq,hb pre _ x last m' a hpre hx M' hl (by omega)]
  unfold leaveS
  by_cases hxs:(x==s)=true
  ·simp only[hxs,if_true,Option.bind_some]
  ·simp only[hxs,if_false,Bool.false_eq_true,Option.bind_some]
   cases ht:topB c x with
   | false=>have:=(parent_is G hx ht).2.1;omega
   | true =>
    rw[ht]at hpre
    simp only[if_true]at hpre ⊢
    rw[loopO_eq,show pre.length+1=p.length by rw[hpre];simp,he];rfl
 | succ n ih =>
  intro pre x last m' a hpre hn hx M' hl ha
  have he8:=G.exit_ x hx
  rw[pathS_step hx]at hpre ⊢
  rw[loopO_eq,hb pre _ x last m' a hpre hx M' hl (by omega)]
  unfold leaveS
  by_cases hxs:(x==s)=true
  ·simp only[hxs,if_true,Option.bind_some]
  ·simp only[hxs,if_false,Bool.false_eq_true,Option.bind_some]
   cases ht:topB c x with
   | true =>
    rw[ht]at hpre
    simp only[if_true]at hpre ⊢
    rw[loopO_eq,show pre.length+1=p.length by rw[hpre];simp,he];rfl
   | false =>
    obtain⟨p1,p2,p3⟩:=parent_is G hx ht
    rw[ht]at hpre
    simp only[Bool.false_eq_true,if_false]at hpre ⊢
    have:=ih (pre++[x]) (stA c x).Parent x _ (a++(stA c x).Exit) (by rw[hpre];simp[stA]) (by omega) p1 (mem_leave M' hx (hl.imp (·.1) id)) (.inr p3) (by rw[List.length_append];omega)
    rw[List.length_append]at this
    exact this
theorem leave_eq {c:T27} (G:Good c) (H:Fit c) (s:Int) {leaf:Int} (hx:isS c leaf=true) (hc:comp c leaf=false) {m:List Int} (M:MemOk c m):m107o0 s c leaf m []=some (leaveS c s (pathS c leaf) (-1) m []):=by
 have hs:=H.states
 have hm:=M.len
 have hp:=pathS_len c leaf
 have hlf:=(isS_lt hx).2.2
 have hh:=(G.leafI leaf hx hc).2
 delta m107o0 d107o0
 simp only[↓JD.sg_m,↓JD.sq_m,↓JD.sc_m,↓JD.bk_m,↓JD.lp_m,↓JD.cd_m,↓JD.lu_m,↓JD.ct_m,↓JD.ce_m,↓JL.r_m,↓JL.z_m,↓JD.se_m,onE_r,↓Tr.run,↓Tr.run_nd,↓Tr.run_c3,↓Tr.run_c2,↓Tr.run_nx,↓onS,bind_ite,Option.bind_some,Option.bind_none,obR,Path_eq c H,onS_l]
 generalize hP:pathS c leaf=p at *
 rw[show leaveS c s p (-1) m []=leaveS c s (pathS c leaf) (-1) m [] by rw[hP]]
 refine leave_key G s (p:=p) (fun last i m a=>(last,i,m,a)) id (fun pre l x last m' a hpre hx M' hl ha=>?_) (fun last m' a=>?_) leaf.toNat [] leaf (-1) m [] (by rw[hP];rfl) (Nat.le_refl _) hx M (.inl ⟨rfl,hh⟩) (by simp;omega)
 ·have hi:pre.length < p.length:=by rw[hpre];simp
  have hg:p.getD pre.length default=x:=by rw[hpre];simp[List.getD_eq_getElem?_getD]
  have he8:=G.exit_ x hx
  have h1:(a.length+(c.States.getD x.toNat default).Exit.length) * 16≤140737488355328:=by unfold stA at he8;omega
  have h2:x < (m.length:Int):=by have:=isS_iff.1 hx;omega
  have h3:x.toNat < m.length:=by have:=(isS_lt hx).2.2;omega
  have h4:subL m' 0 m.length=m':=subL_all (by rw[M'.len,hm])
  simp only[inL hi,decide_true,Int.toNat_natCast,if_true,hg,isS_lt hx,h1,h2,h3,h4,wr1 hi (by omega)]
  refine ite_else ?_
  unfold stA
  by_cases hh:((c.States.getD x.toNat default).History&&(last != (-1:Int)))=true
  ·simp only[hh,if_true];rfl
  ·simp only[hh,if_false,Bool.false_eq_true];rfl
 ·simp only[lt_irr,decide_false,Bool.false_eq_true,if_false];rfl
theorem around_fold {c:T27} (G:Good c) {l:List Int} (hl:∀ x∈l,isS c x=true) (h1:l.length≤2000) {m:List Int} (M:MemOk c m) {a:List (List UInt8)} (ha:a.length≤60000) {f:List Int×List (List UInt8)→Nat→Option (List Int×List (List UInt8))}
  (hf:∀ (x:Int) (i:Nat) (m':List Int) (a':List (List UInt8)),i < l.length→l.getD i 0=x→isS c x=true→MemOk c m'→a'.length≤100000→f (m',a') i=some (m'.set x.toNat (-1),a'++(stA c x).Entry)) :
  (dn l.length l.length).foldlM f (m,a)=some (aroundS c l m a):=by
 have key:∀ k,k≤l.length→(dn l.length k).foldlM f (m,a)=some (aroundS c (l.drop (l.length - k)) m a):=by
  intro k
  induction k with
  | zero=>intro _;simp[dn,aroundS]
  | succ k ih =>
   intro hk
   have e:dn l.length (k+1)=dn l.length k++[l.length - 1 - k]:=by unfold dn;rw[List.range_succ,List.map_append];rfl
   have hi:l.length - 1 - k < l.length:=by omega
   have hd:l.drop (l.length - (k+1))=l.getD (l.length - 1 - k) 0 :: l.drop (l.length - k):=by
    rw[show l.length - (k+1)=l.length - 1 - k by omega,List.drop_eq_getElem_cons hi,show l.length - 1 - k+1=l.length - k by omega]
    simp[List.getD_eq_getElem?_getD,List.getElem?_eq_getElem hi]
   have hx:isS c (l.getD (l.length - 1 - k) 0)=true:=hl _ (by rw[List.getD_eq_getElem?_getD,List.getElem?_eq_getElem hi];exact List.getElem_mem hi)
   obtain⟨k1,k2⟩:=aroundS_ok G (a:=a) M (l.drop (l.length - k)) fun x hx=>hl x (List.mem_of_mem_drop hx)
   rw[e,List.foldlM_append,ih (by omega),hd]
   show (f _ _).bind _=_
   rw[hf _ _ _ _ hi rfl hx k1 (by rw[List.length_drop]at k2;omega)]
   rfl
 have:=key l.length (Nat.le_refl _)
 rwa [Nat.sub_self,List.drop_zero]at this
theorem into_eq {c:T27} (G:Good c) (H:Fit c) {to:Int} (ht:isS c to=true) (s:Int) (leaf:Int) {m:List Int} (M:MemOk c m) {a:List (List UInt8)} (ha:a.length≤60000) :
  m56o0 to s c leaf m a=some (enterS c to (aroundS c (untilS s (pathS c to).tail) m a).1 (aroundS c (untilS s (pathS c to).tail) m a).2):=by
 have hs:=H.states
 have hm:=M.len
 have hp:=pathS_len c to
 have hl:(pathS c to).tail.length≤100000:=by rw[List.length_tail];omega
 obtain⟨u1,u2⟩:=until_eq (s:=s) (pathS c to).tail
 have hu:=untilS_len (s:=s) (l:=(pathS c to).tail)
 have e1:(d56o0_1 to s c leaf m a).m=some (pathS c to).tail:=by
  delta d56o0_1
  simp only[↓JD.sg_m,↓JD.sq_m,↓JD.sc_m,↓JD.bk_m,↓JD.lp_m,↓JD.cd_m,↓JD.lu_m,↓JD.ct_m,↓JD.ce_m,↓JL.r_m,↓JL.z_m,↓JD.se_m,onE_r,↓Tr.run,↓Tr.run_nd,↓Tr.run_c3,↓Tr.run_c2,↓Tr.run_nx,↓onS,bind_ite,Option.bind_some,Option.bind_none,obR,Path_eq c H,Option.bind_some,Int.reduceLE,pathS_pos ht,if_true,Int.toNat_one,tail_sub]
 have e2:(d56o0_2 to s c leaf m a (pathS c to).tail).m=some (untilS s (pathS c to).tail):=by
  delta d56o0_2
  simp only[↓JD.sg_m,↓JD.sq_m,↓JD.sc_m,↓JD.bk_m,↓JD.lp_m,↓JD.cd_m,↓JD.lu_m,↓JD.ct_m,↓JD.ce_m,↓JL.r_m,↓JL.z_m,↓JD.se_m,onE_r,↓Tr.run,↓Tr.run_nd,↓Tr.run_c3,↓Tr.run_c2,↓Tr.run_nx,↓onS,bind_ite,Option.bind_some,Option.bind_none,obR,indexI_eq _ _ hl]
  rw[← u1]
  by_cases h0:decide (0≤findR (fun i=>s==(pathS c to).tail.getD i default) (pathS c to).tail.length)=true
  ·have h1:0≤findR (fun i=>s==(pathS c to).tail.getD i default) (pathS c to).tail.length:=by simpa using h0
   simp only[h1,u2,decide_true,if_true]
  ·simp only[h0,if_false,Bool.false_eq_true]
 have e3:(d56o0_3 to s c leaf m a (pathS c to).tail (untilS s (pathS c to).tail)).m=some ():=by
  delta d56o0_3
  simp only[↓JD.sg_m,↓JD.sq_m,↓JD.sc_m,↓JD.bk_m,↓JD.lp_m,↓JD.cd_m,↓JD.lu_m,↓JD.ct_m,↓JD.ce_m,↓JL.r_m,↓JL.z_m,↓JD.se_m,onE_r,↓Tr.run,↓Tr.run_nd,↓Tr.run_c3,↓Tr.run_c2,↓Tr.run_nx,↓onS,bind_ite,Option.bind_some,Option.bind_none,obR,m102o0,d102o0]
 obtain⟨r1,r2⟩:=aroundS_ok G (a:=a) M (untilS s (pathS c to).tail) fun x hx=>tail_is x (untilS_sub x hx)
 rw[List.length_tail]at hu
 delta m56o0
 rw[show (d56o0_0 to s c leaf m a).m=some () from rfl,Option.bind_some,e1,Option.bind_some,e2,Option.bind_some,e3,Option.bind_some,if_pos (by omega)]
 rw[around_fold G (fun x hx=>tail_is x (untilS_sub x hx)) (by omega) M ha ?_,Option.bind_some]
 ·delta d56o0_p
  have h4:subL (aroundS c (untilS s (pathS c to).tail) m a).1 0 m.length=(aroundS c (untilS s (pathS c to).tail) m a).1:=subL_all (by rw[r1.len,hm])
  simp only[↓JD.sg_m,↓JD.sq_m,↓JD.sc_m,↓JD.bk_m,↓JD.lp_m,↓JD.cd_m,↓JD.lu_m,↓JD.ct_m,↓JD.ce_m,↓JL.r_m,↓JL.z_m,↓JD.se_m,onE_r,↓Tr.run,↓Tr.run_nd,↓Tr.run_c3,↓Tr.run_c2,↓Tr.run_nx,↓onS,bind_ite,Option.bind_some,Option.bind_none,obR,h4,enter_eq G H ht r1 leaf (a:=(aroundS c (untilS s (pathS c to).tail) m a).2) (by omega)]
 ·intro x i m' a' hi hg hx M' ha'
  have h4:subL m' 0 m.length=m':=subL_all (by rw[M'.len,hm])
  delta mr56o0
  simp only[hg,h4,pass_eq G hx M' leaf ha',Option.map_some]
theorem begun_eq {c:T27} (H:Fit c) {g:T41} (hl:g.Memory.length=c.States.length):m54o0 c g=some ():=by
 have hs:=H.states
 have h1:((0:Int)≤(g.Memory.length:Int)):=by omega
 have h2:(g.Memory.length:Int) * 8≤140737488355328:=by omega
 have h3:(g.Memory.length:Int)≤9223372036854775807:=by omega
 delta m54o0 d54o0
 simp only[↓JD.sg_m,↓JD.sq_m,↓JD.sc_m,↓JD.bk_m,↓JD.lp_m,↓JD.cd_m,↓JD.lu_m,↓JD.ct_m,↓JD.ce_m,↓JL.r_m,↓JL.z_m,↓JD.se_m,onE_r,↓Tr.run,↓Tr.run_nd,↓Tr.run_c3,↓Tr.run_c2,↓Tr.run_nx,↓onS,bind_ite,Option.bind_some,Option.bind_none,obR,h1,h2,h3,if_true]
theorem copyL_full {l:List Int} {n:Nat} (h:l.length=n):copyL (List.replicate n (0:Int)) l=l:=by
 subst h
 rw[copyL,List.length_replicate,List.take_length,List.drop_eq_nil_of_le (by simp),List.append_nil]
theorem fire_of {c:T27} (G:Good c) (H:Fit c) {g:T41} (hg:validS c g=true) {i:Nat} (hi:i < c.Transitions.length) (he:checkM c=some 0) (hon:hasK (pathS c g.Leaf) (pathS c g.Leaf).length (c.Transitions.getD i default).From=true) :
  m58 c g i=some (⟨(fireS c g (c.Transitions.getD i default)).1,(fireS c g (c.Transitions.getD i default)).2.1⟩,(fireS c g (c.Transitions.getD i default)).2.2,0):=by
 have hs:=H.states
 obtain⟨v1,v2,v3⟩:=validS_iff.1 hg
 have hml:=v3.len
 have hp:=pathS_len c g.Leaf
 have hlf:=(isS_lt v1).2.2
 have ha:=G.acts i hi
 obtain⟨hf,ht⟩:=G.tr i hi
 obtain⟨a1,a2⟩:=leaveS_ok G (s:=scopeS c (c.Transitions.getD i default).From (c.Transitions.getD i default).To) g.Leaf.toNat g.Leaf (-1) g.Memory [] (Nat.le_refl _) v1 v3 (.inl rfl)
 simp only[List.length_nil]at a2
 have h16:((leaveS c (scopeS c (c.Transitions.getD i default).From (c.Transitions.getD i default).To) (pathS c g.Leaf) (-1) g.Memory []).2.length+(c.Transitions.getD i default).Actions.length) * 16≤140737488355328:=by omega
 have hsub:∀ m:List Int,m.length=c.States.length→subL m 0 g.Memory.length=m:=fun m h=>subL_all (by rw[h,hml])
 have hrange:(decide ((i:Int) < 0) || decide ((c.Transitions.length:Int)≤(i:Int)))=false:=by simp;omega
 have hend:=(fireS_ok G H hg hi).1
 have hmend:=(validS_iff.1 hend).2.2.len
 delta m58 d58
 simp only[↓JD.sg_m,↓JD.sq_m,↓JD.sc_m,↓JD.bk_m,↓JD.lp_m,↓JD.cd_m,↓JD.lu_m,↓JD.ct_m,↓JD.ce_m,↓JL.r_m,↓JL.z_m,↓JD.se_m,onE_r,↓Tr.run,↓Tr.run_nd,↓Tr.run_c3,↓Tr.run_c2,↓Tr.run_nx,↓onS,bind_ite,Option.bind_some,Option.bind_none,obR,Check_eq c H,he,Valid_eq c H,hg,Path_eq c H,inL hi,Int.toNat_natCast,if_true,Option.bind_some,containsI_eq _ _ (show (pathS c g.Leaf).length≤100000 by omega),hon,hrange,begun_eq H hml,scope_eq H hf ht,copyL_full (rfl:g.Memory.length=_),leave_eq G H _ v1 v2 v3,h16,
  hsub _ a1.len,bne_self_eq_false,Bool.not_true,Bool.false_eq_true,if_false]
 rw[into_eq G H ht _ _ a1 (by rw[List.length_append];omega)]
 simp only[Option.bind_some]
 have:=hsub _ hmend
 unfold fireS at this
 rw[this]
 rfl
end Go.Av.Ch
set_option maxRecDepth 100000
namespace Go.Av.Ch
theorem enabled_at {c:T27} {leaf v:Int} (h:0 < (enabledS c leaf v).length):∃ i,i < c.Transitions.length∧(enabledS c leaf v).getD 0 default=(i:Int)∧hasK (pathS c leaf) (pathS c leaf).length (c.Transitions.getD i default).From=true:=by
 have hm:(enabledS c leaf v).getD 0 default∈enabledS c leaf v:=getD_mem h
 generalize (enabledS c leaf v).getD 0 default=x at *
 unfold enabledS at hm
 obtain⟨i,hi,hx⟩:=List.mem_flatMap.1 hm
 unfold enabG at hx
 split at hx
 ·rename_i h1
  simp only[Bool.and_eq_true]at h1
  exact⟨i,List.mem_range.1 hi,by simpa using hx,h1.1⟩
 ·cases hx
def fireR (c:T27) (g:T41) (t:Int):T41×List (List UInt8)×Int:=(⟨(fireS c g (c.Transitions.getD t.toNat default)).1,(fireS c g (c.Transitions.getD t.toNat default)).2.1⟩,(fireS c g (c.Transitions.getD t.toNat default)).2.2,0)
def stepM (c:T27) (g:T41) (v:Int):Option (T41×List (List UInt8)×Int):=(checkM c).bind fun e=>if(e != 0)=true then some (⟨0,[]⟩,[],e)else if(!validS c g)=true then some (⟨0,[]⟩,[],8)else if(!allowedS c v)=true then some (⟨0,[]⟩,[],1)else
 if(((enabledS c g.Leaf v).length:Int)==0)=true then some (⟨0,[]⟩,[],6)else if(((enabledS c g.Leaf v).length:Int)==1)=true then some (fireR c g ((enabledS c g.Leaf v).getD 0 default))else some (⟨0,[]⟩,[],11)
theorem Step_eq (c:T27) (H:Fit c) (g:T41) (v:Int):m16 c g v=stepM c g v:=by
 obtain⟨e,he⟩:=checkM_some c
 unfold stepM
 rw[he,Option.bind_some]
 delta m16 d16
 by_cases h0:(e != 0)=true
 ·simp only[↓JD.sg_m,↓JD.sq_m,↓JD.sc_m,↓JD.bk_m,↓JD.lp_m,↓JD.cd_m,↓JD.lu_m,↓JD.ct_m,↓JD.ce_m,↓JL.r_m,↓JL.z_m,↓JD.se_m,onE_r,↓Tr.run,↓Tr.run_nd,↓Tr.run_c3,↓Tr.run_c2,↓Tr.run_nx,↓onS,bind_ite,Option.bind_some,Option.bind_none,obR,Check_eq c H,he,h0,if_true]
 ·have h0':e=0:=by simpa using h0
  subst h0'
  simp only[↓JD.sg_m,↓JD.sq_m,↓JD.sc_m,↓JD.bk_m,↓JD.lp_m,↓JD.cd_m,↓JD.lu_m,↓JD.ct_m,↓JD.ce_m,↓JL.r_m,↓JL.z_m,↓JD.se_m,onE_r,↓Tr.run,↓Tr.run_nd,↓Tr.run_c3,↓Tr.run_c2,↓Tr.run_nx,↓onS,bind_ite,Option.bind_some,Option.bind_none,obR,Check_eq c H,he,h0,if_false,Bool.false_eq_true,Valid_eq c H,Allowed_eq c H,Enabled_eq c H]
  cases hv:validS c g with
  | false=>rfl
  | true =>
   simp only[Bool.not_true,Bool.false_eq_true,if_false]
   refine ite_else (ite_else ?_)
   by_cases h1:(((enabledS c g.Leaf v).length:Int)==1)=true
   ·have hl:(enabledS c g.Leaf v).length=1:=by have:=eq_of_beq h1;omega
    obtain⟨i,hi,hx,hon⟩:=enabled_at (c:=c) (leaf:=g.Leaf) (v:=v) (by omega)
    have hz:(0:Int) < ((enabledS c g.Leaf v).length:Int):=by omega
    simp only[h1,hz,Int.le_refl,if_true,Int.toNat_zero,hx,fire_of (good_of he) H hv hi he hon,fireR,Int.toNat_natCast,Option.bind_some]
   ·simp only[h1,if_false,Bool.false_eq_true]
theorem stepM_ok {c:T27} (H:Fit c) {g:T41} {v:Int} {r:T41×List (List UInt8)×Int} (h:stepM c g v=some r):r.2.1.length≤32000∧(r.2.2=0→checkM c=some 0∧validS c g=true∧validS c r.1=true):=by
 obtain⟨e,he⟩:=checkM_some c
 unfold stepM at h
 rw[he,Option.bind_some]at h
 split at h
 ·rename_i h0;injection h with h;subst h;exact⟨by simp,fun h=>absurd h (by simpa using h0)⟩
 rename_i h0
 have h0':e=0:=by simpa using h0
 subst h0'
 split at h
 ·injection h with h;subst h;exact⟨by simp,fun h=>absurd h (by decide)⟩
 rename_i hv
 have hv:validS c g=true:=by simpa using hv
 split at h
 ·injection h with h;subst h;exact⟨by simp,fun h=>absurd h (by decide)⟩
 split at h
 ·injection h with h;subst h;exact⟨by simp,fun h=>absurd h (by decide)⟩
 split at h
 ·rename_i h1
  have hl:(enabledS c g.Leaf v).length=1:=by have:=eq_of_beq h1;omega
  obtain⟨i,hi,hx,hon⟩:=enabled_at (c:=c) (leaf:=g.Leaf) (v:=v) (by omega)
  injection h with h;subst h
  rw[hx]
  unfold fireR
  rw[Int.toNat_natCast]
  obtain⟨k1,k2⟩:=fireS_ok (good_of he) H hv hi
  exact⟨k2,fun _=>⟨he,hv,k1⟩⟩
 ·injection h with h;subst h;exact⟨by simp,fun h=>absurd h (by decide)⟩
end Go.Av.Ch
set_option maxRecDepth 1000000
namespace Go.Av.Mo
open Go.Av.Ch
def knows (l:List T151) (k:List (Nat×Bool)):Bool:=l.all fun x=>k.all fun q=>!(x.Cond.toNat==q.1&&x.Neg==q.2)
theorem lit_of {l:List T151} {v:Int} (h:holdsS l v=true) {x:T151} (hx:x∈l):litN v x=false:=by
 unfold holdsS at h
 rw[Bool.not_eq_true',anyR_false]at h
 obtain⟨i,hi,rfl⟩:=List.getElem_of_mem hx
 have:=h i hi
 rwa [List.getD_eq_getElem?_getD,List.getElem?_eq_getElem hi,Option.getD_some]at this
theorem knows_of {l:List T151} {v:Int} {k:List (Nat×Bool)} (h:holdsS l v=true) (hk:∀ q∈k,bitV v q.1=q.2):knows l k=true:=by
 unfold knows
 simp only[List.all_eq_true]
 intro x hx q hq
 have h1:=lit_of h hx
 simp only[litN,Bool.or_eq_false_iff,decide_eq_false_iff_not]at h1
 have h2:=hk q hq
 rw[Bool.not_eq_true',Bool.and_eq_false_iff]
 by_cases e:x.Cond.toNat=q.1
 ·right
  rw[← e]at h2
  have h3:=h1.2
  rw[h2]at h3
  cases hn:x.Neg<;>cases hb:q.2<;>simp_all
 ·left;simpa using e
theorem step_by {c:T27} {g:T41} {v:Int} {r:T41×List (List UInt8)×Int} (h:stepM c g v=some r) (h0:r.2.2=0) :
  ∃ i,i < c.Transitions.length∧hasK (pathS c g.Leaf) (pathS c g.Leaf).length (c.Transitions.getD i default).From=true∧holdsS (c.Transitions.getD i default).When v=true∧r=fireR c g i:=by
 obtain⟨e,he⟩:=checkM_some c
 unfold stepM at h
 rw[he,Option.bind_some]at h
 split at h
 ·rename_i h1;injection h with h;subst h;exact absurd h0 (by simpa using h1)
 split at h
 ·injection h with h;subst h;exact absurd h0 (by decide)
 split at h
 ·injection h with h;subst h;exact absurd h0 (by decide)
 split at h
 ·injection h with h;subst h;exact absurd h0 (by decide)
 split at h
 ·rename_i h1
  have hl:(enabledS c g.Leaf v).length=1:=by have:=eq_of_beq h1;omega
  injection h with h;subst h
  have hm:(enabledS c g.Leaf v).getD 0 default∈enabledS c g.Leaf v:=getD_mem (by omega)
  generalize (enabledS c g.Leaf v).getD 0 default=x at *
  unfold enabledS at hm
  obtain⟨i,hi,hx⟩:=List.mem_flatMap.1 hm
  unfold enabG at hx
  split at hx
  ·rename_i h2
   simp only[Bool.and_eq_true]at h2
   simp only[List.mem_singleton]at hx
   subst hx
   exact⟨i,List.mem_range.1 hi,h2.1,h2.2,rfl⟩
  ·cases hx
 ·injection h with h;subst h;exact absurd h0 (by decide)
def rep (c:T27):List Int:=List.replicate c.States.length (-1)
def allBy (c:T27) (ls:List Int) (k:List (Nat×Bool)) (Q:Int→T41×List (List UInt8)×Int→Bool):Bool :=
 ls.all fun leaf=>(List.range c.Transitions.length).all fun i=>!(hasK (pathS c leaf) (pathS c leaf).length (c.Transitions.getD i default).From) || !(knows (c.Transitions.getD i default).When k) || Q leaf (fireR c ⟨leaf,rep c⟩ i)
theorem by_all {c:T27} {ls:List Int} {k:List (Nat×Bool)} {Q:Int→T41×List (List UInt8)×Int→Bool} (H:allBy c ls k Q=true) {leaf v:Int} (hl:leaf∈ls) {r:T41×List (List UInt8)×Int}
  (h:stepM c ⟨leaf,rep c⟩ v=some r) (h0:r.2.2=0) (hk:∀ q∈k,bitV v q.1=q.2):Q leaf r=true:=by
 obtain⟨i,hi,h1,h2,rfl⟩:=step_by h h0
 simp only[allBy,List.all_eq_true]at H
 have:=H leaf hl i (List.mem_range.2 hi)
 rw[h1,knows_of h2 hk]at this
 simpa using this
def maskL:List T151→Nat×Nat
 | []=>(0,0)
 | x :: l=>(2 ^ x.Cond.toNat+(maskL l).1,(if x.Neg=true then 0 else 2 ^ x.Cond.toNat)+(maskL l).2)
def ascB:Nat→List T151→Bool
 | _,[]=>true
 | n,x :: l=>decide (0≤x.Cond)&&decide (x.Cond≤15)&&decide (n≤x.Cond.toNat)&&ascB (x.Cond.toNat+1) l
theorem mask_mul:∀ {l:List T151} {n:Nat},ascB n l=true→∃ a b,(maskL l).1=2 ^ n * a∧(maskL l).2=2 ^ n * b
 | [],n,_=>⟨0,0,by simp[maskL],by simp[maskL]⟩
 | x :: l,n,h=>by
  simp only[ascB,Bool.and_eq_true,decide_eq_true_eq]at h
  obtain⟨⟨⟨h1,h2⟩,h3⟩,h4⟩:=h
  obtain⟨a,b,ha,hb⟩:=mask_mul h4
  obtain⟨d,hd⟩:=Nat.le.dest h3
  refine⟨2 ^ d * (1+2 * a),(if x.Neg=true then 0 else 2 ^ d)+2 ^ d * (2 * b),?_,?_⟩
  ·simp only[maskL,ha,← hd]
   rw[Nat.pow_add,Nat.pow_add,Nat.pow_add,Nat.mul_add,Nat.mul_add,Nat.pow_one]
   simp only[Nat.mul_one,Nat.one_mul,Nat.mul_assoc,Nat.mul_comm,Nat.mul_left_comm]
  ·simp only[maskL,hb,← hd]
   rw[Nat.pow_add,Nat.pow_add,Nat.pow_add,Nat.mul_add,Nat.pow_one]
   cases x.Neg<;>simp[Nat.mul_assoc,Nat.mul_comm,Nat.mul_left_comm]
theorem holds_cons {x:T151} {l:List T151} {v:Int}:holdsS (x :: l) v=(!litN v x&&holdsS l v):=by
 unfold holdsS
 rw[Bool.eq_iff_iff]
 simp only[Bool.and_eq_true,Bool.not_eq_true',anyR_false]
 constructor
 ·intro h
  exact⟨by simpa using h 0 (by simp),fun i hi=>by simpa using h (i+1) (by simpa using hi)⟩
 ·rintro⟨h1,h2⟩ i hi
  cases i with
  | zero=>simpa using h1
  | succ i=>simpa using h2 i (by simpa using hi)
theorem nbeq (a b:Nat):Nat.beq a b=(a==b):=by rw[Bool.eq_iff_iff,beq_iff_eq];exact⟨Nat.eq_of_beq_eq_true,fun h=>h ▸ Nat.beq_refl _⟩
theorem land_step {v k a b:Nat} {neg:Bool}:((v &&& (2 ^ k+2 ^ (k+1) * a))==((if neg=true then 0 else 2 ^ k)+2 ^ (k+1) * b))=((v.testBit k != neg)&&((v &&& (2 ^ (k+1) * a))==2 ^ (k+1) * b)):=by
 have t1:∀ (z:Nat) (j:Nat),(2 ^ k+2 ^ (k+1) * z).testBit j=((j==k) || (2 ^ (k+1) * z).testBit j):=fun z j=>by
  rw[Nat.add_comm,Nat.testBit_two_pow_mul_add _ (Nat.pow_lt_pow_right (by omega) (by omega)),Nat.testBit_two_pow_mul]
  by_cases h:j < k+1
  ·rw[if_pos h,decide_eq_false (by omega),Bool.false_and,Bool.or_false,Nat.testBit_two_pow,Bool.eq_iff_iff,decide_eq_true_eq,beq_iff_eq]
   omega
  ·have h2:(j==k)=false:=by rw[beq_eq_false_iff_ne];omega
   rw[if_neg h,decide_eq_true (by omega),Bool.true_and,h2,Bool.false_or]
 have t2:∀ (z:Nat),(2 ^ (k+1) * z).testBit k=false:=fun z=>by
  rw[Nat.testBit_two_pow_mul,decide_eq_false (by omega),Bool.false_and]
 rw[Bool.eq_iff_iff]
 simp only[beq_iff_eq,Bool.and_eq_true,bne_iff_ne,ne_eq]
 constructor
 ·intro h
  have hj:∀ j,(v &&& (2 ^ k+2 ^ (k+1) * a)).testBit j=((if neg=true then 0 else 2 ^ k)+2 ^ (k+1) * b).testBit j:=fun j=>by rw[h]
  refine⟨?_,?_⟩
  ·have:=hj k
   rw[Nat.testBit_and,t1,t2]at this
   cases neg with
   | true=>simp only[if_true,Nat.zero_add,t2]at this;simpa using this
   | false=>simp only[Bool.false_eq_true,if_false,t1,t2]at this;simpa using this
  ·apply Nat.eq_of_testBit_eq
   intro j
   have:=hj j
   rw[Nat.testBit_and,t1]at this
   rw[Nat.testBit_and]
   by_cases e:j=k
   ·subst e;rw[t2,t2,Bool.and_false]
   ·have e2:(j==k)=false:=by simpa using e
    rw[e2,Bool.false_or]at this
    rw[this]
    cases neg with
    | true=>simp
    | false=>simp only[Bool.false_eq_true,if_false,t1,e2,Bool.false_or]
 ·rintro⟨h1,h2⟩
  apply Nat.eq_of_testBit_eq
  intro j
  have hj:(v &&& (2 ^ (k+1) * a)).testBit j=(2 ^ (k+1) * b).testBit j:=by rw[h2]
  rw[Nat.testBit_and]at hj
  rw[Nat.testBit_and,t1]
  by_cases e:j=k
  ·subst e
   rw[beq_self_eq_true,Bool.true_or,Bool.and_true]
   cases neg with
   | true=>simp only[if_true,Nat.zero_add,t2];simpa using h1
   | false=>simp only[Bool.false_eq_true,if_false,t1,beq_self_eq_true,Bool.true_or];simpa using h1
  ·have e2:(j==k)=false:=by simpa using e
   rw[e2,Bool.false_or,hj]
   cases neg with
   | true=>simp
   | false=>simp only[Bool.false_eq_true,if_false,t1,e2,Bool.false_or]
theorem holds_mask:∀ {l:List T151} {n:Nat},ascB n l=true→∀ {v:Nat},holdsS l (v:Int)=((v &&& (maskL l).1)==(maskL l).2)
 | [],_,_,v=>by simp[maskL,holdsS,anyR]
 | x :: l,n,h,v=>by
  simp only[ascB,Bool.and_eq_true,decide_eq_true_eq]at h
  obtain⟨⟨⟨h1,h2⟩,h3⟩,h4⟩:=h
  obtain⟨a,b,ha,hb⟩:=mask_mul h4
  have ih:=holds_mask h4 (v:=v)
  rw[ha,hb]at ih
  simp only[maskL,ha,hb]
  rw[holds_cons,land_step,ih]
  congr 1
  unfold litN
  rw[bitV_eq (by omega) (by omega),Int.toNat_natCast]
  have d1:decide (x.Cond < 0)=false:=by simp;omega
  have d2:decide (15 < x.Cond)=false:=by simp;omega
  rw[d1,d2]
  cases v.testBit x.Cond.toNat<;>cases x.Neg<;>rfl
def cnt (v:Nat):List (Nat×Nat)→Nat
 | []=>0
 | q :: l=>cond (Nat.beq (Nat.land v q.1) q.2) (Nat.succ (cnt v l)) (cnt v l)
def anyM (v:Nat):List (Nat×Nat)→Bool
 | []=>false
 | q :: l=>cond (Nat.beq (Nat.land v q.1) q.2) true (anyM v l)
def tab (c:T27) (leaf:Int):List (Nat×Nat):=(List.range c.Transitions.length).flatMap fun i=>if hasK (pathS c leaf) (pathS c leaf).length (c.Transitions.getD i default).From=true then[maskL (c.Transitions.getD i default).When]else[]
def oneB (tabs:List (List (Nat×Nat))) (nev:List (Nat×Nat)):Nat→Bool
 | 0=>true
 | n+1=>cond (cond (anyM n nev) true (tabs.all fun t=>Nat.beq (cnt n t) 1)) (oneB tabs nev n) false
def ascC (c:T27):Bool:=c.Transitions.all (fun t=>ascB 0 t.When)&&c.Never.all (fun l=>ascB 0 l)
theorem cnt_tab {c:T27} (h:ascC c=true) {leaf:Int} {v:Nat}:(enabledS c leaf (v:Int)).length=cnt v (tab c leaf):=by
 simp only[ascC,Bool.and_eq_true,List.all_eq_true]at h
 unfold enabledS tab
 have key:∀ l:List Nat,(∀ i∈l,i < c.Transitions.length)→(l.flatMap (enabG c (pathS c leaf) (v:Int))).length=cnt v (l.flatMap fun i=>if hasK (pathS c leaf) (pathS c leaf).length (c.Transitions.getD i default).From=true then[maskL (c.Transitions.getD i default).When]else[]):=by
  intro l
  induction l with
  | nil=>intro _;rfl
  | cons i l ih =>
   intro hi
   have ih:=ih fun j hj=>hi j (List.mem_cons_of_mem _ hj)
   have hw:=h.1 _ (getD_mem (hi i (by simp)))
   rw[List.flatMap_cons,List.flatMap_cons,List.length_append,ih]
   unfold enabG
   cases hasK (pathS c leaf) (pathS c leaf).length (c.Transitions.getD i default).From with
   | false=>simp
   | true =>
    rw[holds_mask hw]
    simp only[Bool.true_and,if_true,List.cons_append,List.nil_append,cnt]
    have e:Nat.beq (Nat.land v (maskL (c.Transitions.getD i default).When).1) (maskL (c.Transitions.getD i default).When).2=((v &&& (maskL (c.Transitions.getD i default).When).1)==(maskL (c.Transitions.getD i default).When).2):=nbeq _ _
    rw[e]
    cases ((v &&& (maskL (c.Transitions.getD i default).When).1)==(maskL (c.Transitions.getD i default).When).2) with
    | false=>simp
    | true=>simp;omega
 exact key _ fun i hi=>List.mem_range.1 hi
theorem any_nev {c:T27} (h:ascC c=true) {v:Nat}:anyR (fun i=>holdsS (c.Never.getD i default) (v:Int)) c.Never.length=anyM v (c.Never.map maskL):=by
 simp only[ascC,Bool.and_eq_true,List.all_eq_true]at h
 have h:=h.2
 generalize c.Never=l at h
 induction l with
 | nil=>rfl
 | cons x l ih =>
  have e:anyR (fun i=>holdsS ((x :: l).getD i default) (v:Int)) (x :: l).length=(holdsS x (v:Int) || anyR (fun i=>holdsS (l.getD i default) (v:Int)) l.length):=by
   rw[Bool.eq_iff_iff,Bool.or_eq_true,anyR_iff,anyR_iff]
   constructor
   ·rintro⟨i,hi,hx⟩
    cases i with
    | zero=>exact .inl hx
    | succ i=>exact .inr ⟨i,by simpa using hi,by simpa using hx⟩
   ·rintro(hx | ⟨i,hi,hx⟩)
    ·exact⟨0,by simp,hx⟩
    ·exact⟨i+1,by simpa using hi,by simpa using hx⟩
  rw[e,ih fun y hy=>h y (List.mem_cons_of_mem _ hy),holds_mask (h x (by simp))]
  simp only[List.map_cons,anyM]
  have e:Nat.beq (Nat.land v (maskL x).1) (maskL x).2=((v &&& (maskL x).1)==(maskL x).2):=nbeq _ _
  rw[e]
  cases ((v &&& (maskL x).1)==(maskL x).2)<;>rfl
theorem one_of {c:T27} {ls:List Int} {n:Nat} (ha:ascC c=true) (H:oneB (ls.map (tab c)) (c.Never.map maskL) n=true) {v:Nat} (hv:v < n) {leaf:Int} (hl:leaf∈ls) (h:allowedS c (v:Int)=true):(enabledS c leaf (v:Int)).length=1:=by
 rw[cnt_tab ha]
 unfold allowedS at h
 simp only[Bool.and_eq_true,Bool.not_eq_true']at h
 have h:=h.2
 rw[any_nev ha]at h
 induction n with
 | zero=>omega
 | succ n ih =>
  unfold oneB at H
  cases hc:(cond (anyM n (c.Never.map maskL)) true ((ls.map (tab c)).all fun t=>Nat.beq (cnt n t) 1)) with
  | false=>rw[hc]at H;cases H
  | true =>
   rw[hc]at H
   by_cases e:v=n
   ·subst e
    rw[h]at hc
    simp only[cond_false,List.all_eq_true]at hc
    exact Nat.eq_of_beq_eq_true (hc _ (List.mem_map_of_mem hl))
   ·exact ih H (by omega)
theorem asc1:ascC C1=true:=by kernel_rfl
theorem asc2:ascC C2=true:=by kernel_rfl
theorem asc3:ascC C3=true:=by kernel_rfl
theorem tab1:(leavesS C1).map (tab C1)=[[(1,1),(65,64),(67,2),(71,0),(79,4),(95,12),(127,28),(127,60)],[(1,1),(65,64),(67,2),(71,0),(79,4),(95,12),(127,28),(127,60)],[(1,1),(65,64),(67,2),(75,0),(91,8),(123,24),(123,56)],[(1,1),(65,64),(67,2),(75,0),(107,8),(107,40)],[(1,1),(65,64),(67,2),(75,0),(107,8),(107,40)],[(1,1),(65,64),(67,2),(71,0),(79,4),(95,12),(127,28),(127,60)]]:=by kernel_rfl
theorem nev1:C1.Never.map maskL=([]:List (Nat×Nat)):=by kernel_rfl
theorem all1:oneB ((leavesS C1).map (tab C1)) (C1.Never.map maskL) 128=true:=by rw[tab1,nev1];kernel_rfl
theorem one1 {v:Nat} (hv:v < 128) {leaf:Int} (hl:leaf∈leavesS C1) (h:allowedS C1 (v:Int)=true):(enabledS C1 leaf (v:Int)).length=1:=one_of asc1 all1 hv hl h
theorem tab2:(leavesS C2).map (tab C2)=[[(1,1),(9,8),(25,16),(57,32),(249,192),(249,64),(381,256),(381,260),(377,0)],[(1,1),(9,8),(25,16),(57,32),(249,192),(249,64),(381,256),(381,260),(889,512),(889,0)],[(1,1),(9,8),(25,16),(57,32),(249,192),(249,64),(381,256),(381,260),(889,512),(889,0)],[(1,1),(9,8),(25,16),(57,32),(249,192),(249,64),(381,256),(381,260),(889,512),(889,0)],[(1,1),(9,8),(25,16),(57,32),(249,192),(249,64),(381,256),(381,260),(1401,1024),(1913,512),(2041,128),(2041,0)],[(1,1),(9,8),(25,16),(57,32),(249,192),(249,64),(381,256),(381,260),(379,0),(383,2),(383,6)],[(1,1),(9,8),(25,16),(57,32),(249,192),(249,64),(381,256),(381,260),(379,0),(383,2),(383,6)],[(1,1),(9,8),(25,16),(57,32),(249,192),(249,64),(381,256),(381,260),(889,512),(889,0)]]:=by kernel_rfl
theorem nev2:C2.Never.map maskL=[(258,256),(1536,1024)]:=by kernel_rfl
theorem all2:oneB ((leavesS C2).map (tab C2)) (C2.Never.map maskL) 2048=true:=by rw[tab2,nev2];kernel_rfl
theorem one2 {v:Nat} (hv:v < 2048) {leaf:Int} (hl:leaf∈leavesS C2) (h:allowedS C2 (v:Int)=true):(enabledS C2 leaf (v:Int)).length=1:=one_of asc2 all2 hv hl h
theorem tab3:(leavesS C3).map (tab C3)=[[(1,0),(9,9),(9,1)],[(9,9),(9,1),(17,0),(17,16)],[(1,1),(5,4),(7,2),(39,32),(103,64),(103,0)],[(1,1),(5,4),(7,2),(71,64),(103,32),(103,0)],[(1,1),(5,4),(7,2),(71,64),(103,32),(103,0)],[(1,1),(5,4),(7,2),(71,64),(71,0)],[(1,1),(5,4),(21,0),(23,16),(23,18)],[(1,0),(9,9),(137,129),(137,1)]]:=by kernel_rfl
theorem nev3:C3.Never.map maskL=[(17,17),(129,128)]:=by kernel_rfl
theorem all3:oneB ((leavesS C3).map (tab C3)) (C3.Never.map maskL) 256=true:=by rw[tab3,nev3];kernel_rfl
theorem one3 {v:Nat} (hv:v < 256) {leaf:Int} (hl:leaf∈leavesS C3) (h:allowedS C3 (v:Int)=true):(enabledS C3 leaf (v:Int)).length=1:=one_of asc3 all3 hv hl h
end Go.Av.Mo
set_option maxRecDepth 1000000
namespace Go.Av.Mo
theorem read1:(m20 1)=some (C1,0):=by kernel_rfl
end Go.Av.Mo
set_option maxRecDepth 1000000
namespace Go.Av.Mo
theorem read2:(m20 2)=some (C2,0):=by kernel_rfl
end Go.Av.Mo
set_option maxRecDepth 1000000
namespace Go.Av.Mo
theorem read3:(m20 3)=some (C3,0):=by kernel_rfl
end Go.Av.Mo
set_option maxRecDepth 1000000
namespace Go.Av.Mo
open Go.Av.Ch
theorem M19 (a0:T49) (a1:Int):m19 a0 a1=((Option.bind (Option.bind (Option.bind (m23 a0) fun r=>some r) fun x1=>(if(!x1)=true then(some (.inr (((⟨(0:Int),(0:Int),(0:Int)⟩:T49),[],(8:Int)))))else(Option.bind (((m24 ).bind fun r3_0=>(if 0≤(r3_0.length:Int)then some r3_0 else none))) fun(x3:((List (List UInt8))))=>(if((Int.fdiv a1 (2 ^ (min (x3.length:Int).toNat (IntKind.bits .u32)))) != 0)=true then(some (.inr (((⟨(0:Int),(0:Int),(0:Int)⟩:T49),[],(1:Int)))))else(some (.inl ())))))) (onS fun(_:Unit)=>(Option.bind (Option.bind (some (.inl ())) (onS fun(_:Unit)=>(Option.bind (Option.bind (some (.inl ())) (onS fun(_:Unit)=>(Option.bind (some (.inl ())) (onS fun(_:Unit)=>(Option.bind (Option.bind (Option.bind (Option.bind (m20 (1:Int)) fun r=>some r) fun x11=>(Option.bind (Option.bind (m61 x11.1 a1) fun r=>some r) fun x12=>(some (.inl (x12.1,x12.2,x11.1))))) (onS fun(y1:Int×Bool×T27)=>(Option.bind (Option.bind (some (.inl ())) (onS fun(_:Unit)=>(if(!y1.2.1)=true then(some (.inr (.inr (.inr (.inr (((⟨(0:Int),(0:Int),(0:Int)⟩:T49),[],(11:Int))))))))else(some (.inl ()))))) (onS fun(_:Unit)=>(some (.inl (y1.2.2,y1.1))))))) (onS fun(y2:T27×Int)=>(some (.inl (y2.1,y2.2))))))))) (onS fun(y3:T27×Int)=>(Option.bind (Option.bind (some (.inl ())) (onS fun(_:Unit)=>(Option.bind (some (.inl ())) (onS fun(_:Unit)=>(Option.bind (Option.bind (Option.bind (Option.bind (m20 (2:Int)) fun r=>some r) fun x11=>(Option.bind (Option.bind (m61 x11.1 a1) fun r=>some r) fun x12=>(some (.inl (x12.1,x12.2,x11.1))))) (onS fun(y4:Int×Bool×T27)=>(Option.bind (Option.bind (some (.inl ())) (onS fun(_:Unit)=>(if(!y4.2.1)=true then(some (.inr (.inr (.inr (.inr (((⟨(0:Int),(0:Int),(0:Int)⟩:T49),[],(11:Int))))))))else(some (.inl ()))))) (onS fun(_:Unit)=>(some (.inl (y4.2.2,y4.1))))))) (onS fun(y5:T27×Int)=>(some (.inl (y5.1,y5.2))))))))) (onS fun(y6:T27×Int)=>(Option.bind (Option.bind (some (.inl ())) (onS fun(_:Unit)=>(Option.bind (some (.inl ())) (onS fun(_:Unit)=>(Option.bind (Option.bind (Option.bind (Option.bind (m20 (3:Int)) fun r=>some r) fun x11=>(Option.bind (Option.bind (m61 x11.1 a1) fun r=>some r) fun x12=>(some (.inl (x12.1,x12.2,x11.1))))) (onS fun(y7:Int×Bool×T27)=>(Option.bind (Option.bind (some (.inl ())) (onS fun(_:Unit)=>(if(!y7.2.1)=true then(some (.inr (.inr (.inr (.inr (((⟨(0:Int),(0:Int),(0:Int)⟩:T49),[],(11:Int))))))))else(some (.inl ()))))) (onS fun(_:Unit)=>(some (.inl (y7.2.2,y7.1))))))) (onS fun(y8:T27×Int)=>(some (.inl (y8.1,y8.2))))))))) (onS fun(y9:T27×Int)=>(Option.bind (Option.bind (some (.inl ())) (onS fun(_:Unit)=>(Option.bind (some (.inr (.inr (.inl (y3.1,y6.1,y9.1,y3.2,y6.2,y9.2))))) onE))) onE))))))))) (onS fun(y10:T27×T27×T27×Int×Int×Int)=>(Option.bind (some (.inl ())) (onS fun(_:Unit)=>(Option.bind (Option.bind (some (.inl ())) (onS fun(_:Unit)=>(Option.bind (Option.bind (some (.inl ())) (onS fun(_:Unit)=>(Option.bind (some (.inl ())) (onS fun(_:Unit)=>(Option.bind (Option.bind (Option.bind (Option.bind (m55 ([(-1:Int)]:List Int) (y10.1.States.length:Int)) fun r=>some r) fun x22=>(Option.bind (Option.bind (m16 y10.1 (⟨(IntKind.wrap .i64 (a0.Lateral)),x22⟩:T41) y10.2.2.2.1) fun r=>some r) fun x23=>(some (.inl (x23.2.1,x23.2.2,x23.1))))) (onS fun(y11:(List (List UInt8))×Int×T41)=>(Option.bind (Option.bind (some (.inl ())) (onS fun(_:Unit)=>(if(y11.2.1 != 0)=true then(some (.inr (.inr (.inr (.inr (((⟨(0:Int),(0:Int),(0:Int)⟩:T49),[],y11.2.1)))))))else(some (.inl ()))))) (onS fun(_:Unit)=>(if(y11.1.length * 16≤140737488355328)then(some (.inl (y11.1,(IntKind.wrap .u8 (y11.2.2.Leaf)))))else none))))) (onS fun(y12:(List (List UInt8))×Int)=>(some (.inl (y12.1,y12.2))))))))) (onS fun(y13:(List (List UInt8))×Int)=>(Option.bind (Option.bind (some (.inl ())) (onS fun(_:Unit)=>(Option.bind (some (.inl ())) (onS fun(_:Unit)=>(Option.bind (Option.bind (Option.bind (Option.bind (m55 ([(-1:Int)]:List Int) (y10.2.1.States.length:Int)) fun r=>some r) fun x22=>(Option.bind (Option.bind (m16 y10.2.1 (⟨(IntKind.wrap .i64 (a0.Vertical)),x22⟩:T41) y10.2.2.2.2.1) fun r=>some r) fun x23=>(some (.inl (x23.2.1,x23.2.2,x23.1))))) (onS fun(y14:(List (List UInt8))×Int×T41)=>(Option.bind (Option.bind (some (.inl ())) (onS fun(_:Unit)=>(if(y14.2.1 != 0)=true then(some (.inr (.inr (.inr (.inr (((⟨(0:Int),(0:Int),(0:Int)⟩:T49),[],y14.2.1)))))))else(some (.inl ()))))) (onS fun(_:Unit)=>(if((y13.1.length+y14.1.length) * 16≤140737488355328)then(some (.inl ((y13.1++y14.1),(IntKind.wrap .u8 (y14.2.2.Leaf)))))else none))))) (onS fun(y15:(List (List UInt8))×Int)=>(some (.inl (y15.1,y15.2))))))))) (onS fun(y16:(List (List UInt8))×Int)=>(Option.bind (Option.bind (some (.inl ())) (onS fun(_:Unit)=>(Option.bind (some (.inl ())) (onS fun(_:Unit)=>(Option.bind (Option.bind (Option.bind (Option.bind (m55 ([(-1:Int)]:List Int) (y10.2.2.1.States.length:Int)) fun r=>some r) fun x22=>(Option.bind (Option.bind (m16 y10.2.2.1 (⟨(IntKind.wrap .i64 (a0.Phase)),x22⟩:T41) y10.2.2.2.2.2) fun r=>some r) fun x23=>(some (.inl (x23.2.1,x23.2.2,x23.1))))) (onS fun(y17:(List (List UInt8))×Int×T41)=>(Option.bind (Option.bind (some (.inl ())) (onS fun(_:Unit)=>(if(y17.2.1 != 0)=true then(some (.inr (.inr (.inr (.inr (((⟨(0:Int),(0:Int),(0:Int)⟩:T49),[],y17.2.1)))))))else(some (.inl ()))))) (onS fun(_:Unit)=>(if((y16.1.length+y17.1.length) * 16≤140737488355328)then(some (.inl ((y16.1++y17.1),(IntKind.wrap .u8 (y17.2.2.Leaf)))))else none))))) (onS fun(y18:(List (List UInt8))×Int)=>(some (.inl (y18.1,y18.2))))))))) (onS fun(y19:(List (List UInt8))×Int)=>(Option.bind (Option.bind (some (.inl ())) (onS fun(_:Unit)=>(Option.bind (some (.inr (.inr (.inl (y19.1,y13.2,y16.2,y19.2))))) onE))) onE))))))))) (onS fun(y20:(List (List UInt8))×Int×Int×Int)=>(some ((⟨y20.2.1,y20.2.2.1,y20.2.2.2⟩:T49),y20.1,(0:Int))))))))))):Option (T49×(List (List UInt8))×Int)):=by kernel_rfl
theorem M23 (a0:T49):m23 a0=((Option.bind (((m63 (1:Int) a0.Lateral).bind fun r1_0=>((if(r1_0 != ([]:List UInt8))=true then m63 (2:Int) a0.Vertical else some default).bind fun r1_1=>((if((r1_0 != ([]:List UInt8))&&(r1_1 != ([]:List UInt8)))=true then m63 (3:Int) a0.Phase else some default).bind fun r1_2=>some (r1_0,r1_1,r1_2))))) fun(x1:((List UInt8)×(List UInt8)×(List UInt8)))=>(some (((x1.1 != ([]:List UInt8))&&(x1.2.1 != ([]:List UInt8)))&&(x1.2.2 != ([]:List UInt8))))):Option (Bool)):=by kernel_rfl
theorem M63 (a0 a1:Int):m63 a0 a1=((Option.bind (Option.bind (m110 a0) fun r=>some r) fun x1=>(if(decide ((x1.length:Int)≤(IntKind.wrap .i64 (a1))))=true then(some ([]:List UInt8))else(if(0≤a1)then(if(a1 < (x1.length:Int))then(some (x1.getD a1.toNat default))else none)else none))):Option ((List UInt8))):=by kernel_rfl
def nam1:List (List UInt8):=[[],[82,79,76,76],[72,69,65,68,73,78,71],[65,82,77,69,68],[78,65,86],[65,80,80,82,79,65,67,72],[71,79,65,82,79,85,78,68]]
theorem modes1:m110 1=some nam1:=by kernel_rfl
theorem nall1:(List.range 256).all (fun n=>(nam1.getD n [] != [])==(decide (1≤n)&&decide (n≤6)))=true:=by kernel_rfl
theorem nam1_ne {n:Nat} (h:n < 256):(nam1.getD n [] != ([]:List UInt8))=(decide (1≤n)&&decide (n≤6)):=by
 have:=nall1
 simp only[List.all_eq_true]at this
 exact eq_of_beq (this n (List.mem_range.2 h))
theorem mName1 {n:Nat} (h:n < 256):m63 1 (n:Int)=some (nam1.getD n []):=by
 have hl:nam1.length=7:=by decide
 rw[M63,bind_id,modes1,Option.bind_some,w64 (by omega) (by omega),hl]
 by_cases h1:((7:Nat):Int)≤(n:Int)
 ·rw[if_pos (by simpa using h1),List.getD_eq_getElem?_getD,List.getElem?_eq_none (by omega)];rfl
 ·rw[if_neg (by simpa using h1),if_pos (by omega),if_pos (by omega),Int.toNat_natCast];rfl
def nam2:List (List UInt8):=[[],[72,79,76,68],[67,76,73,77,66],[68,69,83,67,69,78,68],[83,80,69,69,68],[67,65,80,84,85,82,69],[80,65,84,72],[71,76,73,68,69],[71,79,65,82,79,85,78,68]]
theorem modes2:m110 2=some nam2:=by kernel_rfl
theorem nall2:(List.range 256).all (fun n=>(nam2.getD n [] != [])==(decide (1≤n)&&decide (n≤8)))=true:=by kernel_rfl
theorem nam2_ne {n:Nat} (h:n < 256):(nam2.getD n [] != ([]:List UInt8))=(decide (1≤n)&&decide (n≤8)):=by
 have:=nall2
 simp only[List.all_eq_true]at this
 exact eq_of_beq (this n (List.mem_range.2 h))
theorem mName2 {n:Nat} (h:n < 256):m63 2 (n:Int)=some (nam2.getD n []):=by
 have hl:nam2.length=9:=by decide
 rw[M63,bind_id,modes2,Option.bind_some,w64 (by omega) (by omega),hl]
 by_cases h1:((9:Nat):Int)≤(n:Int)
 ·rw[if_pos (by simpa using h1),List.getD_eq_getElem?_getD,List.getElem?_eq_none (by omega)];rfl
 ·rw[if_neg (by simpa using h1),if_pos (by omega),if_pos (by omega),Int.toNat_natCast];rfl
def nam3:List (List UInt8):=[[],[80,82,69,70,76,84],[84,65,75,69,79,70,70],[67,76,73,77,66],[67,82,85,73,83,69],[68,69,83,67,69,78,84],[65,80,80,82,79,65,67,72],[71,79,65,82,79,85,78,68],[76,65,78,68,69,68]]
theorem modes3:m110 3=some nam3:=by kernel_rfl
theorem nall3:(List.range 256).all (fun n=>(nam3.getD n [] != [])==(decide (1≤n)&&decide (n≤8)))=true:=by kernel_rfl
theorem nam3_ne {n:Nat} (h:n < 256):(nam3.getD n [] != ([]:List UInt8))=(decide (1≤n)&&decide (n≤8)):=by
 have:=nall3
 simp only[List.all_eq_true]at this
 exact eq_of_beq (this n (List.mem_range.2 h))
theorem mName3 {n:Nat} (h:n < 256):m63 3 (n:Int)=some (nam3.getD n []):=by
 have hl:nam3.length=9:=by decide
 rw[M63,bind_id,modes3,Option.bind_some,w64 (by omega) (by omega),hl]
 by_cases h1:((9:Nat):Int)≤(n:Int)
 ·rw[if_pos (by simpa using h1),List.getD_eq_getElem?_getD,List.getElem?_eq_none (by omega)];rfl
 ·rw[if_neg (by simpa using h1),if_pos (by omega),if_pos (by omega),Int.toNat_natCast];rfl
def validN (l v p:Nat):Bool:=(decide (1≤l)&&decide (l≤6))&&(decide (1≤v)&&decide (v≤8))&&(decide (1≤p)&&decide (p≤8))
theorem Valid_eq {l v p:Nat} (hl:l < 256) (hv:v < 256) (hp:p < 256):m23 ⟨(l:Int),(v:Int),(p:Int)⟩=some (validN l v p):=by
 unfold validN
 rw[M23,← nam1_ne hl,← nam2_ne hv,← nam3_ne hp]
 have hd:((default:List UInt8) != ([]:List UInt8))=false:=rfl
 cases h1:(nam1.getD l [] != ([]:List UInt8)) with
 | false=>simp only[mName1 hl,Option.bind_some,h1,hd,Bool.false_eq_true,if_false,Bool.false_and]
 | true =>
  cases h2:(nam2.getD v [] != ([]:List UInt8)) with
  | false=>simp only[mName1 hl,mName2 hv,Option.bind_some,h1,h2,hd,Bool.false_eq_true,if_false,if_true,Bool.false_and,Bool.and_false]
  | true=>simp only[mName1 hl,mName2 hv,mName3 hp,Option.bind_some,h1,h2,if_true,Bool.and_true,Bool.true_and]
def goS (c:T27) (leaf:Int) (v:Nat):T41×List (List UInt8)×Int:=fireR c ⟨leaf,rep c⟩ ((enabledS c leaf (v:Int)).getD 0 default)
theorem leaf_valid {c:T27} {leaf:Int} (h:leaf∈leavesS c):validS c ⟨leaf,rep c⟩=true:=by
 obtain⟨h1,h2⟩:=leavesS_iff.1 h
 exact validS_iff.2 ⟨h1,h2,mem_begin⟩
theorem go_of {c:T27} (hc:checkM c=some 0) {leaf:Int} (hl:leaf∈leavesS c) {v:Nat} (ha:allowedS c (v:Int)=true) (h1:(enabledS c leaf (v:Int)).length=1):stepM c ⟨leaf,rep c⟩ (v:Int)=some (goS c leaf v):=by
 unfold stepM
 rw[hc,Option.bind_some,leaf_valid hl,ha]
 simp only[h1]
 rfl
theorem go_leaf {c:T27} (H:Fit c) {leaf:Int} {v:Int} {r:T41×List (List UInt8)×Int} (h:stepM c ⟨leaf,rep c⟩ v=some r) (h0:r.2.2=0):r.1.Leaf∈leavesS c∧r.2.1.length≤32000:=by
 obtain⟨h1,h2⟩:=stepM_ok H h
 obtain⟨g1,g2,_⟩:=validS_iff.1 (h2 h0).2.2
 exact⟨leavesS_iff.2 ⟨g1,g2⟩,h1⟩
def al1 (b:Nat):Bool:=allowedS C1 (valS C1 b)
def al2 (b:Nat):Bool:=allowedS C2 (valS C2 b)
def al3 (b:Nat):Bool:=allowedS C3 (valS C3 b)
theorem mem1 {l:Nat} (h1:1≤l) (h2:l≤6):(l:Int)∈leavesS C1:=by
 rw[lea1]
 have:l=1∨l=2∨l=3∨l=4∨l=5∨l=6:=by omega
 rcases this with rfl | rfl | rfl | rfl | rfl | rfl<;>simp
theorem leaf1 {x:Int} (h:x∈leavesS C1):1≤x∧x≤6:=by
 rw[lea1]at h
 simp only[List.mem_cons,List.not_mem_nil,or_false]at h
 omega
theorem val1 {b:Nat} (hb:b < 4294967296):m61 C1 (b:Int)=some ((valS C1 b:Int),al1 b):=valuation_eq fit1 pos1 (by decide) hb
theorem go1 {l:Nat} (h1:1≤l) (h2:l≤6) {b:Nat} (ha:al1 b=true):stepM C1 ⟨(l:Int),rep C1⟩ ((valS C1 b:Nat):Int)=some (goS C1 l (valS C1 b)) :=
 go_of chk1 (mem1 h1 h2) ha (one1 (valS_lt (c:=C1)) (mem1 h1 h2) ha)
theorem cstep1 {l:Nat} (h1:1≤l) (h2:l≤6) {b:Nat} (ha:al1 b=true):m16 C1 ⟨(l:Int),rep C1⟩ ((valS C1 b:Nat):Int)=some (goS C1 l (valS C1 b)):=by rw[Step_eq C1 fit1];exact go1 h1 h2 ha
theorem rep1:m55 ([-1]:List Int) (C1.States.length:Int)=some (rep C1):=by kernel_rfl
theorem gol1 {l:Nat} (h1:1≤l) (h2:l≤6) {b:Nat} (ha:al1 b=true):(1≤(goS C1 l (valS C1 b)).1.Leaf∧(goS C1 l (valS C1 b)).1.Leaf≤6)∧(goS C1 l (valS C1 b)).2.1.length≤32000:=by
 obtain⟨g1,g2⟩:=go_leaf fit1 (go1 h1 h2 ha) rfl
 exact⟨leaf1 g1,g2⟩
theorem mem2 {l:Nat} (h1:1≤l) (h2:l≤8):(l:Int)∈leavesS C2:=by
 rw[lea2]
 have:l=1∨l=2∨l=3∨l=4∨l=5∨l=6∨l=7∨l=8:=by omega
 rcases this with rfl | rfl | rfl | rfl | rfl | rfl | rfl | rfl<;>simp
theorem leaf2 {x:Int} (h:x∈leavesS C2):1≤x∧x≤8:=by
 rw[lea2]at h
 simp only[List.mem_cons,List.not_mem_nil,or_false]at h
 omega
theorem val2 {b:Nat} (hb:b < 4294967296):m61 C2 (b:Int)=some ((valS C2 b:Int),al2 b):=valuation_eq fit2 pos2 (by decide) hb
theorem go2 {l:Nat} (h1:1≤l) (h2:l≤8) {b:Nat} (ha:al2 b=true):stepM C2 ⟨(l:Int),rep C2⟩ ((valS C2 b:Nat):Int)=some (goS C2 l (valS C2 b)) :=
 go_of chk2 (mem2 h1 h2) ha (one2 (valS_lt (c:=C2)) (mem2 h1 h2) ha)
theorem cstep2 {l:Nat} (h1:1≤l) (h2:l≤8) {b:Nat} (ha:al2 b=true):m16 C2 ⟨(l:Int),rep C2⟩ ((valS C2 b:Nat):Int)=some (goS C2 l (valS C2 b)):=by rw[Step_eq C2 fit2];exact go2 h1 h2 ha
theorem rep2:m55 ([-1]:List Int) (C2.States.length:Int)=some (rep C2):=by kernel_rfl
theorem gol2 {l:Nat} (h1:1≤l) (h2:l≤8) {b:Nat} (ha:al2 b=true):(1≤(goS C2 l (valS C2 b)).1.Leaf∧(goS C2 l (valS C2 b)).1.Leaf≤8)∧(goS C2 l (valS C2 b)).2.1.length≤32000:=by
 obtain⟨g1,g2⟩:=go_leaf fit2 (go2 h1 h2 ha) rfl
 exact⟨leaf2 g1,g2⟩
theorem mem3 {l:Nat} (h1:1≤l) (h2:l≤8):(l:Int)∈leavesS C3:=by
 rw[lea3]
 have:l=1∨l=2∨l=3∨l=4∨l=5∨l=6∨l=7∨l=8:=by omega
 rcases this with rfl | rfl | rfl | rfl | rfl | rfl | rfl | rfl<;>simp
theorem leaf3 {x:Int} (h:x∈leavesS C3):1≤x∧x≤8:=by
 rw[lea3]at h
 simp only[List.mem_cons,List.not_mem_nil,or_false]at h
 omega
theorem val3 {b:Nat} (hb:b < 4294967296):m61 C3 (b:Int)=some ((valS C3 b:Int),al3 b):=valuation_eq fit3 pos3 (by decide) hb
theorem go3 {l:Nat} (h1:1≤l) (h2:l≤8) {b:Nat} (ha:al3 b=true):stepM C3 ⟨(l:Int),rep C3⟩ ((valS C3 b:Nat):Int)=some (goS C3 l (valS C3 b)) :=
 go_of chk3 (mem3 h1 h2) ha (one3 (valS_lt (c:=C3)) (mem3 h1 h2) ha)
theorem cstep3 {l:Nat} (h1:1≤l) (h2:l≤8) {b:Nat} (ha:al3 b=true):m16 C3 ⟨(l:Int),rep C3⟩ ((valS C3 b:Nat):Int)=some (goS C3 l (valS C3 b)):=by rw[Step_eq C3 fit3];exact go3 h1 h2 ha
theorem rep3:m55 ([-1]:List Int) (C3.States.length:Int)=some (rep C3):=by kernel_rfl
theorem gol3 {l:Nat} (h1:1≤l) (h2:l≤8) {b:Nat} (ha:al3 b=true):(1≤(goS C3 l (valS C3 b)).1.Leaf∧(goS C3 l (valS C3 b)).1.Leaf≤8)∧(goS C3 l (valS C3 b)).2.1.length≤32000:=by
 obtain⟨g1,g2⟩:=go_leaf fit3 (go3 h1 h2 ha) rfl
 exact⟨leaf3 g1,g2⟩
def stepP (l v p b:Nat):T49×List (List UInt8)×Int :=
 if(!validN l v p)=true then(⟨0,0,0⟩,[],8)
 else if 524288≤b then(⟨0,0,0⟩,[],1)
 else if(!(al1 b&&al2 b&&al3 b))=true then(⟨0,0,0⟩,[],11)
 else(⟨(goS C1 l (valS C1 b)).1.Leaf,(goS C2 v (valS C2 b)).1.Leaf,(goS C3 p (valS C3 b)).1.Leaf⟩,(goS C1 l (valS C1 b)).2.1++(goS C2 v (valS C2 b)).2.1++(goS C3 p (valS C3 b)).2.1,0)
theorem shr19s {b:Nat} (hb:b < 4294967296):(Int.fdiv (b:Int) (2 ^ (min (namesL.length:Int).toNat (IntKind.bits .u32))) != (0:Int))=decide (524288≤b):=by
 rw[show (namesL.length:Int).toNat=19 from rfl,show IntKind.bits .u32=32 from rfl,fdiv_pow (by omega),Bool.eq_iff_iff,decide_eq_true_eq,bne_iff_ne,ne_eq]
 omega
theorem Step_eqM {l v p b:Nat} (hl:l < 256) (hv:v < 256) (hp:p < 256) (hb:b < 4294967296):m19 ⟨(l:Int),(v:Int),(p:Int)⟩ (b:Int)=some (stepP l v p b):=by
 have hn0:(0:Int)≤(namesL.length:Int):=by decide
 have e0:=Valid_eq hl hv hp
 have en:=Names_eq
 have h19':=shr19s hb
 have r1:=read1
 have r2:=read2
 have r3:=read3
 have w1:=val1 hb
 have w2:=val2 hb
 have w3:=val3 hb
 have p1:=rep1
 have p2:=rep2
 have p3:=rep3
 have z1:IntKind.wrap .i64 (l:Int)=(l:Int):=w64 (by omega) (by omega)
 have z2:IntKind.wrap .i64 (v:Int)=(v:Int):=w64 (by omega) (by omega)
 have z3:IntKind.wrap .i64 (p:Int)=(p:Int):=w64 (by omega) (by omega)
 have good:validN l v p=true→al1 b=true→al2 b=true→al3 b=true →
   (m16 C1 ⟨(l:Int),rep C1⟩ ((valS C1 b:Nat):Int)=some (goS C1 l (valS C1 b))∧m16 C2 ⟨(v:Int),rep C2⟩ ((valS C2 b:Nat):Int)=some (goS C2 v (valS C2 b))∧m16 C3 ⟨(p:Int),rep C3⟩ ((valS C3 b:Nat):Int)=some (goS C3 p (valS C3 b))) ∧
   ((goS C1 l (valS C1 b)).2.2=0∧(goS C2 v (valS C2 b)).2.2=0∧(goS C3 p (valS C3 b)).2.2=0) ∧
   ((goS C1 l (valS C1 b)).2.1.length * 16≤140737488355328∧((goS C1 l (valS C1 b)).2.1.length+(goS C2 v (valS C2 b)).2.1.length) * 16≤140737488355328∧(((goS C1 l (valS C1 b)).2.1++(goS C2 v (valS C2 b)).2.1).length+(goS C3 p (valS C3 b)).2.1.length) * 16≤140737488355328) ∧
   (IntKind.wrap .u8 (goS C1 l (valS C1 b)).1.Leaf=(goS C1 l (valS C1 b)).1.Leaf∧IntKind.wrap .u8 (goS C2 v (valS C2 b)).1.Leaf=(goS C2 v (valS C2 b)).1.Leaf∧IntKind.wrap .u8 (goS C3 p (valS C3 b)).1.Leaf=(goS C3 p (valS C3 b)).1.Leaf):=by
  intro hval a1 a2 a3
  simp only[validN,Bool.and_eq_true,decide_eq_true_eq]at hval
  obtain⟨⟨⟨l1,l2⟩,v1,v2⟩,p1,p2⟩:=hval
  obtain⟨⟨c1,c2⟩,c3⟩:=gol1 l1 l2 a1
  obtain⟨⟨d1,d2⟩,d3⟩:=gol2 v1 v2 a2
  obtain⟨⟨e1,e2⟩,e3⟩:=gol3 p1 p2 a3
  exact⟨⟨cstep1 l1 l2 a1,cstep2 v1 v2 a2,cstep3 p1 p2 a3⟩,⟨rfl,rfl,rfl⟩,⟨by omega,by omega,by rw[List.length_append];omega⟩,IntWalk.u8_in _ (by omega),IntWalk.u8_in _ (by omega),IntWalk.u8_in _ (by omega)⟩
 unfold stepP
 simp only[M19,bind_id]
 generalize goS C1 l (valS C1 b)=g1 at good ⊢
 generalize goS C2 v (valS C2 b)=g2 at good ⊢
 generalize goS C3 p (valS C3 b)=g3 at good ⊢
 generalize ((valS C1 b:Nat):Int)=y1 at good w1
 generalize ((valS C2 b:Nat):Int)=y2 at good w2
 generalize ((valS C3 b:Nat):Int)=y3 at good w3
 generalize rep C1=q1 at good p1
 generalize rep C2=q2 at good p2
 generalize rep C3=q3 at good p3
 generalize C1=c1 at good r1 w1 p1
 generalize C2=c2 at good r2 w2 p2
 generalize C3=c3 at good r3 w3 p3
 generalize al1 b=b1 at good w1 ⊢
 generalize al2 b=b2 at good w2 ⊢
 generalize al3 b=b3 at good w3 ⊢
 generalize validN l v p=bv at good e0 ⊢
 generalize namesL=nl at hn0 en h19'
 generalize m20=F at r1 r2 r3 ⊢
 generalize m61=G at w1 w2 w3 ⊢
 generalize m16=S at good ⊢
 generalize m55=Q at p1 p2 p3 ⊢
 generalize m23=V at e0 ⊢
 generalize m24=M at en ⊢
 cases bv with
 | false=>simp only[e0,bs,or_,Bool.not_false,if_true]
 | true =>
  by_cases h19:524288≤b
  ·simp only[e0,en,hn0,h19',h19,decide_true,bs,or_,Bool.not_true,Bool.false_eq_true,if_false,if_true]
  ·cases b1 with
   | false=>simp only[e0,en,hn0,h19',h19,decide_false,r1,w1,bs,ol,or_,oe,Bool.not_true,Bool.not_false,Bool.false_and,Bool.false_eq_true,if_false,if_true]
   | true =>
    cases b2 with
    | false=>simp only[e0,en,hn0,h19',h19,decide_false,r1,w1,r2,w2,bs,ol,or_,oe,Bool.not_true,Bool.not_false,Bool.true_and,Bool.false_and,Bool.false_eq_true,if_false,if_true]
    | true =>
     cases b3 with
     | false=>simp only[e0,en,hn0,h19',h19,decide_false,r1,w1,r2,w2,r3,w3,bs,ol,or_,oe,Bool.not_true,Bool.not_false,Bool.true_and,Bool.false_and,Bool.false_eq_true,if_false,if_true]
     | true =>
      obtain⟨⟨s1,s2,s3⟩,⟨o1,o2,o3⟩,⟨f1,f2,f3⟩,k1,k2,k3⟩:=good rfl rfl rfl rfl
      simp only[e0,en,hn0,h19',h19,decide_false,r1,w1,r2,w2,r3,w3,p1,p2,p3,z1,z2,z3,s1,s2,s3,o1,o2,o3,f1,f2,f3,k1,k2,k3,
       bs,ol,or_,oe,bne_self_eq_false,Bool.not_true,Bool.not_false,Bool.true_and,Bool.false_and,Bool.false_eq_true,if_false,if_true]
end Go.Av.Mo
set_option maxRecDepth 1000000
namespace Go.Av.Mo
open Go.Av.Ch
theorem ok_state {s:T49} (h:ok49 s):∃ l v p:Nat,s=⟨(l:Int),(v:Int),(p:Int)⟩∧l < 256∧v < 256∧p < 256:=by
 obtain⟨h1,h2,h3⟩:=h
 obtain⟨l,e1,g1⟩:=u8_nat h1
 obtain⟨v,e2,g2⟩:=u8_nat h2
 obtain⟨p,e3,g3⟩:=u8_nat h3
 obtain⟨x,y,z⟩:=s
 simp only at e1 e2 e3
 subst e1 e2 e3
 exact⟨l,v,p,rfl,g1,g2,g3⟩
theorem M18:m18  = ((Option.bind (((m59 ).bind fun r1_0=>((m19 r1_0 (16385:Int)).bind fun r1_1=>some (r1_0,r1_1)))) fun(x1:(T49×(T49×(List (List UInt8))×Int)))=>(Option.bind (Option.bind (m19 x1.2.1 (28:Int)) fun r=>some r) fun x2=>(Option.bind (((m60 x1.2.1).bind fun r3_0=>((if(((r3_0==([82,79,76,76,32,72,79,76,68,32,84,65,75,69,79,70,70]:List UInt8))&&((x1.2.2.1.length:Int)==(0:Int)))&&(x1.2.2.2==0))=true then m60 x2.1 else some default).bind fun r3_1=>(if(((((r3_0==([82,79,76,76,32,72,79,76,68,32,84,65,75,69,79,70,70]:List UInt8))&&((x1.2.2.1.length:Int)==(0:Int)))&&(x1.2.2.2==0))&&(r3_1==([78,65,86,32,72,79,76,68,32,84,65,75,69,79,70,70]:List UInt8)))&&((x2.2.1.length:Int)==(1:Int)))=true→(0:Int)≤(0:Int)then(if(((((r3_0==([82,79,76,76,32,72,79,76,68,32,84,65,75,69,79,70,70]:List UInt8))&&((x1.2.2.1.length:Int)==(0:Int)))&&(x1.2.2.2==0))&&(r3_1==([78,65,86,32,72,79,76,68,32,84,65,75,69,79,70,70]:List UInt8)))&&((x2.2.1.length:Int)==(1:Int)))=true→0 < (x2.2.1.length:Int)then some (r3_0,r3_1)else none)else none)))) fun(x3:((List UInt8)×(List UInt8)))=>(some (((((((x3.1==([82,79,76,76,32,72,79,76,68,32,84,65,75,69,79,70,70]:List UInt8))&&((x1.2.2.1.length:Int)==(0:Int)))&&(x1.2.2.2==0))&&(x3.2==([78,65,86,32,72,79,76,68,32,84,65,75,69,79,70,70]:List UInt8)))&&((x2.2.1.length:Int)==(1:Int)))&&((x2.2.1.getD (0:Int).toNat default)==([67,65,80,84,85,82,69,68]:List UInt8)))&&(x2.2.2==0)))))):Option (Bool)):=by kernel_rfl
theorem wake1:stepP 1 1 1 16385=(⟨1,1,2⟩,[],0):=by kernel_rfl
theorem wake2:stepP 1 1 2 28=(⟨4,1,2⟩,[[67,65,80,84,85,82,69,68]],0):=by kernel_rfl
theorem wake3:m60 ⟨1,1,2⟩=some [82,79,76,76,32,72,79,76,68,32,84,65,75,69,79,70,70]:=by kernel_rfl
theorem wake4:m60 ⟨4,1,2⟩=some [78,65,86,32,72,79,76,68,32,84,65,75,69,79,70,70]:=by kernel_rfl
theorem start_eq:m59=some ⟨1,1,1⟩:=by kernel_rfl
theorem awake_true:m18=some true:=by
 have e1:=Step_eqM (l:=1) (v:=1) (p:=1) (b:=16385) (by omega) (by omega) (by omega) (by omega)
 have e2:=Step_eqM (l:=1) (v:=1) (p:=2) (b:=28) (by omega) (by omega) (by omega) (by omega)
 rw[wake1]at e1
 rw[wake2]at e2
 simp only[Int.cast_ofNat_Int]at e1 e2
 have e3:=wake3
 have e4:=wake4
 have e5:=start_eq
 simp only[M18,bind_id]
 generalize m19=F at e1 e2 ⊢
 generalize m60=G at e3 e4 ⊢
 generalize m59=S at e5 ⊢
 simp only[e5,bs,e1,e2,e3,e4]
 rfl
theorem step_good {l v p b:Nat} (h:(stepP l v p b).2.2=0):(1≤l∧l≤6)∧(1≤v∧v≤8)∧(1≤p∧p≤8)∧b < 524288∧al1 b=true∧al2 b=true∧al3 b=true ∧
  stepP l v p b=(⟨(goS C1 l (valS C1 b)).1.Leaf,(goS C2 v (valS C2 b)).1.Leaf,(goS C3 p (valS C3 b)).1.Leaf⟩,(goS C1 l (valS C1 b)).2.1++(goS C2 v (valS C2 b)).2.1++(goS C3 p (valS C3 b)).2.1,0):=by
 unfold stepP at h ⊢
 cases hval:validN l v p with
 | false=>rw[hval,if_pos (show (!false)=true from rfl)]at h;exact absurd h (by decide)
 | true =>
  rw[hval]at h
  simp only[Bool.not_true,Bool.false_eq_true,if_false]at h ⊢
  simp only[validN,Bool.and_eq_true,decide_eq_true_eq]at hval
  by_cases hb:524288≤b
  ·rw[if_pos hb]at h;exact absurd h (by decide)
  ·rw[if_neg hb]at h ⊢
   cases ha:(al1 b&&al2 b&&al3 b) with
   | false=>rw[ha,if_pos (show (!false)=true from rfl)]at h;exact absurd h (by decide)
   | true =>
    simp only[Bool.and_eq_true]at ha
    obtain⟨⟨a1,a2⟩,a3⟩:=ha
    exact⟨hval.1.1,hval.1.2,hval.2,by omega,a1,a2,a3,by simp⟩
end Go.Av.Mo
set_option maxRecDepth 1000000
namespace Go.Av.Mo
open Go.Av.Ch
theorem shr19 {b:Nat} (hb:b < 4294967296):(Int.fdiv (b:Int) (2 ^ (min (namesL.length:Int).toNat (IntKind.bits .u32))) != (0:Int))=decide (524288≤b):=by
 rw[show (namesL.length:Int).toNat=19 from rfl,show IntKind.bits .u32=32 from rfl,fdiv_pow (by omega),Bool.eq_iff_iff,decide_eq_true_eq,bne_iff_ne,ne_eq]
 omega
def valR (c:T27) (b:Nat):Int×Int:=if 524288≤b then(0,1)else if(!allowedS c (valS c b))=true then(0,11)else((valS c b:Int),0)
theorem M21 (a0 a1:Int):m21 a0 a1=((Option.bind (Option.bind (m20 a0) fun r=>some r) fun x1=>(Option.bind (((if(!(x1.2 != 0))=true then m24  else some default).bind fun r2_0=>(if(!(x1.2 != 0))=true→0≤(r2_0.length:Int)then some r2_0 else none))) fun(x2:((List (List UInt8))))=>(if((x1.2 != 0) || ((Int.fdiv a1 (2 ^ (min (x2.length:Int).toNat (IntKind.bits .u32)))) != 0))=true then(some ((0:Int),(1:Int)))else(Option.bind (Option.bind (m61 x1.1 a1) fun r=>some r) fun x4=>(if(!x4.2)=true then(some ((0:Int),(11:Int)))else(some (x4.1,(0:Int)))))))):Option (Int×Int)):=by kernel_rfl
theorem Valuation_of {a:Int} {c:T27} {b:Nat} (hr:m20 a=some (c,0)) (hv:m61 c (b:Int)=some ((valS c b:Int),allowedS c (valS c b))) (hb:b < 4294967296):m21 a (b:Int)=some (valR c b):=by
 have en:=Names_eq
 have hs:=shr19 hb
 have hn0:(0:Int)≤(namesL.length:Int):=by decide
 unfold valR
 simp only[M21,bind_id]
 generalize m20=F at hr ⊢
 generalize m61=G at hv ⊢
 generalize m24=M at en ⊢
 generalize namesL=nl at *
 generalize allowedS c (valS c b)=al at hv ⊢
 generalize ((valS c b:Nat):Int)=v at hv ⊢
 by_cases h19:524288≤b
 ·simp only[hr,bs,bne_self_eq_false,Bool.not_false,if_true,en,hn0,hs,h19,decide_true,Bool.or_true,implies_true]
 ·simp only[hr,bs,bne_self_eq_false,Bool.not_false,if_true,en,hn0,hs,h19,decide_false,Bool.or_false,implies_true,Bool.false_eq_true,if_false,hv]
  cases al<;>rfl
end Go.Av.Mo
