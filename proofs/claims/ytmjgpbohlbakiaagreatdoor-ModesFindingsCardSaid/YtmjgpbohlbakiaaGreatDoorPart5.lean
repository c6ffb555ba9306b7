/- A part of the proof. -/
import Derived.Test.YtmjgpbohlbakiaaGreatDoorPart4
set_option linter.unusedVariables false
set_option linter.unusedSimpArgs false
set_option maxRecDepth 100000
namespace Go.Av
open Go.RowKit Go.Base Go.Proofs Go.ChangeShapes Go.WideShapes
noncomputable def d61 (a0:T27) (a1:Int):JF Tryz.prog Tryz.f61 [(e27 a0),(.int .u32 a1)] (fun(r:Int×Bool)=>(.tup [(.int .u16 r.1),(.bool r.2)])) :=
 (.sq 3 [(1,tm1 10 (eSl 1 D.str))] [(0,[1,2,6,7],[16])] (fun(y1:(List (List UInt8)))=>⟨[(1,(.d (.int .u32 a1))),(2,(.ptr 16 0)),(6,(.d (eSl 1 D.str y1))),(7,(.d (.int .u16 0)))],[(16,(.cells (g27 a0)))],[],112⟩) (c3 (@p24) fun x1=>(.nx x1)) (fun y1=>(.sc (fun(y3:Int)=>⟨[(2,(.ptr 16 0)),(7,(.d (.int .u16 y3)))],[(16,(.cells (g27 a0)))],[],512⟩) (.sq 1 [] [(0,[1,2,6,7,12,13,14],[16])] (fun(_:Unit)=>⟨[(1,(.d (.int .u32 a1))),(2,(.ptr 16 0)),(6,(.d (eSl 1 D.str y1))),(7,(.d (.int .u16 0))),(12,(.d (eSl 1 D.str a0.Conds))),(13,(aI (a0.Conds.length:Int))),(14,(aI 0))],[(16,(.cells (g27 a0)))],[],176⟩) (.nx ()) (fun _=>(.bk (.lp (fun(s2:Int×Int)=>⟨[(1,(.d (.int .u32 a1))),(2,(.ptr 16 0)),(6,(.d (eSl 1 D.str y1))),(7,(.d (.int .u16 s2.1))),(12,(.d (eSl 1 D.str a0.Conds))),(13,(aI (a0.Conds.length:Int))),(14,(aI s2.2))],[(16,(.cells (g27 a0)))],[],496⟩) ((0:Int),(0:Int)) (wk [(16,16)] []) fun s2=>(.sg [(6,tm1 22 dI)] [(0,[1,2,6,7,12,13,14],[16]),(2,[2,7],[16])] (.ite (decide (s2.2 < (a0.Conds.length:Int))) (nd (0≤s2.2) (nd (s2.2 < (a0.Conds.length:Int)) (.exi (Int) ((m108 y1 (a0.Conds.getD s2.2.toNat default)).bind fun r6_0=>(if 0≤r6_0 then some r6_0 else none)) (fun x6=>(.p (PureAt Tryz.prog 108 [(eSl 1 D.str y1),(.str (a0.Conds.getD s2.2.toNat default))] (dI x6)) (.p (0≤x6) (.fin 0)))) (by intro x6 h;obtain⟨r6_0,h1,h⟩:=Option.bind_eq_some_iff.1 h;obtain⟨h2,h⟩:=if_some h;cases h;exact⟨p108 h1,h2,trivial⟩) (fun x6 _=>(.ite ((IntKind.wrap .u32 ((((BitVec.ofInt (IntKind.bits .u32) (Int.fdiv a1 (2 ^ (min x6.toNat (IntKind.bits .u32))))) &&& (BitVec.ofInt (IntKind.bits .u32) (1:Int))).toNat:Int)))==1) (nd (0≤s2.2) (.ret .normal ⟨[(1,(.d (.int .u32 a1))),(2,(.ptr 16 0)),(6,(.d (eSl 1 D.str y1))),(7,(.d (.int .u16 (IntKind.wrap .u16 ((((BitVec.ofInt (IntKind.bits .u16) s2.1) ||| (BitVec.ofInt (IntKind.bits .u16) (IntKind.wrap .u16 ((1:Int) * 2 ^ (min s2.2.toNat (IntKind.bits .u16)))))).toNat:Int)))))),(12,(.d (eSl 1 D.str a0.Conds))),(13,(aI (a0.Conds.length:Int))),(14,(aI (IntKind.wrap .i64 (s2.2+1))))],[(16,(.cells (g27 a0)))],[],816⟩ (.inl ((IntKind.wrap .u16 ((((BitVec.ofInt (IntKind.bits .u16) s2.1) ||| (BitVec.ofInt (IntKind.bits .u16) (IntKind.wrap .u16 ((1:Int) * 2 ^ (min s2.2.toNat (IntKind.bits .u16)))))).toNat:Int))),(IntKind.wrap .i64 (s2.2+1)))) ⟨rfl,(wk [(16,16)] [])⟩)) (.ret .normal ⟨[(1,(.d (.int .u32 a1))),(2,(.ptr 16 0)),(6,(.d (eSl 1 D.str y1))),(7,(.d (.int .u16 s2.1))),(12,(.d (eSl 1 D.str a0.Conds))),(13,(aI (a0.Conds.length:Int))),(14,(aI (IntKind.wrap .i64 (s2.2+1))))],[(16,(.cells (g27 a0)))],[],736⟩ (.inl (s2.1,(IntKind.wrap .i64 (s2.2+1)))) ⟨rfl,(wk [(16,16)] [])⟩)))))) (.ret (.exit 0) _ (.inr (.inl s2.1)) ⟨rfl,rfl,Weak.refl _⟩))))))) fun y3=>(.sg [(9,tm1 34 D.bool)] [(1,[4,5],[])] (c3 (@p34 a0 y3) fun x9=>(.ret .ret ⟨[(4,(.d (.int .u16 y3))),(5,(aB x9))],[],[],608⟩ (y3,x9) ⟨rfl,_,Weak.refl _,⟨dr,dr,trivial⟩⟩))))))
noncomputable def m61 (a0:T27) (a1:Int):Option (Int×Bool):=(d61 a0 a1).m
theorem p61 {a0:T27} {a1:Int} {r:Int×Bool} (h:m61 a0 a1=some r):PureAt Tryz.prog 61 [(e27 a0),(.int .u32 a1)] (.tup [(.int .u16 r.1),(.bool r.2)]):=pure_jd (d61 a0 a1) Tryz.func61 h
noncomputable def d57 (a0:T27) (a1:T41):JF Tryz.prog Tryz.f57 [(e27 a0),(e41 a1)] (fun(r:Bool)=>(.bool r)) :=
 (.sq 2 [(1,⟨Bool×Bool,fun x=>[(10,(.bool x.1)),(16,(.bool x.2))],fun x=>[],[]⟩)] [(1,[4],[]),(0,[2,3],[16,32])] (fun(_:Unit)=>⟨[(2,(.ptr 16 0)),(3,(.ptr 32 0))],[(16,(.cells (g27 a0))),(32,(.cells (g41 a1)))],[],384⟩) (.exi (Bool×Bool) ((m79 a0 a1.Leaf).bind fun r1_0=>((if(!(!r1_0))=true then m105 a0 a1.Leaf else some default).bind fun r1_1=>some (r1_0,r1_1))) (fun x1=>(.p (PureAt Tryz.prog 79 [(e27 a0),(dI a1.Leaf)] (.bool x1.1)) (.g (!(!x1.1)) (PureAt Tryz.prog 105 [(e27 a0),(dI a1.Leaf)] (.bool x1.2)) (.fin 0)))) (by intro x1 h;obtain⟨r1_0,h1,h⟩:=Option.bind_eq_some_iff.1 h;obtain⟨r1_1,h2,h⟩:=Option.bind_eq_some_iff.1 h;cases h;exact⟨p79 h1,fun g=>p105 (by rw[if_pos g]at h2;exact h2),trivial⟩) (fun x1 _=>(.ite (((!x1.1) || x1.2) || ((a1.Memory.length:Int) != (a0.States.length:Int))) (.ret .ret ⟨[(4,(aB false))],[],[],400⟩ (.inr (false)) ⟨rfl,rfl,_,Weak.refl _,dr⟩) (.nx ())))) (fun _=>(.sc (fun(_:Unit)=>⟨[],[],[],1024⟩) (.sq 1 [] [(0,[2,28,29,30],[16])] (fun(_:Unit)=>⟨[(2,(.ptr 16 0)),(28,(.d (eSl 1 dI a1.Memory))),(29,(aI (a1.Memory.length:Int))),(30,(aI 0))],[(16,(.cells (g27 a0)))],[],448⟩) (.nx ()) (fun _=>(.bk (.lp (fun(s1:Int)=>⟨[(2,(.ptr 16 0)),(28,(.d (eSl 1 dI a1.Memory))),(29,(aI (a1.Memory.length:Int))),(30,(aI s1))],[(16,(.cells (g27 a0)))],[],1008⟩) (0:Int) (wk [(16,16)] []) fun s1=>(.sg [(6,tm1 40 D.bool)] [(1,[4],[]),(0,[2,28,29,30],[16]),(2,[],[])] (.ite (decide (s1 < (a1.Memory.length:Int))) (nd (0≤s1) (nd (s1 < (a1.Memory.length:Int)) (.exi (Bool) ((if((a1.Memory.getD s1.toNat default) != (-1:Int))=true then m79 a0 (a1.Memory.getD s1.toNat default)else some default).bind fun r6_0=>(if(((a1.Memory.getD s1.toNat default) != (-1:Int))&&(!(!r6_0)))=true→0≤s1 then(if(((a1.Memory.getD s1.toNat default) != (-1:Int))&&(!(!r6_0)))=true→s1 < (a0.States.length:Int)then(if(((a1.Memory.getD s1.toNat default) != (-1:Int))&&(!((!r6_0) || (!(a0.States.getD s1.toNat default).History))))=true→0≤(a1.Memory.getD s1.toNat default)then(if(((a1.Memory.getD s1.toNat default) != (-1:Int))&&(!((!r6_0) || (!(a0.States.getD s1.toNat default).History))))=true→(a1.Memory.getD s1.toNat default) < (a0.States.length:Int)then some r6_0 else none)else none)else none)else none)) (fun x6=>(.g ((a1.Memory.getD s1.toNat default) != (-1:Int)) (PureAt Tryz.prog 79 [(e27 a0),(dI (a1.Memory.getD s1.toNat default))] (.bool x6)) (.g (((a1.Memory.getD s1.toNat default) != (-1:Int))&&(!(!x6))) (0≤s1) (.g (((a1.Memory.getD s1.toNat default) != (-1:Int))&&(!(!x6))) (s1 < (a0.States.length:Int)) (.g (((a1.Memory.getD s1.toNat default) != (-1:Int))&&(!((!x6) || (!(a0.States.getD s1.toNat default).History)))) (0≤(a1.Memory.getD s1.toNat default)) (.g (((a1.Memory.getD s1.toNat default) != (-1:Int))&&(!((!x6) || (!(a0.States.getD s1.toNat default).History)))) ((a1.Memory.getD s1.toNat default) < (a0.States.length:Int)) (.fin 0))))))) (by intro x6 h;obtain⟨r6_0,h1,h⟩:=Option.bind_eq_some_iff.1 h;obtain⟨h2,h⟩:=if_some h;obtain⟨h3,h⟩:=if_some h;obtain⟨h4,h⟩:=if_some h;obtain⟨h5,h⟩:=if_some h;cases h;exact⟨fun g=>p79 (by rw[if_pos g]at h1;exact h1),h2,h3,h4,h5,trivial⟩) (fun x6 _=>(.ite (((a1.Memory.getD s1.toNat default) != (-1:Int))&&(((!x6) || (!(a0.States.getD s1.toNat default).History)) || ((a0.States.getD (a1.Memory.getD s1.toNat default).toNat default).Parent != s1))) (.ret .ret ⟨[(4,(aB false))],[],[],1552⟩ (.inr (.inr (false))) ⟨rfl,rfl,rfl,_,Weak.refl _,dr⟩) (.ret .normal ⟨[(2,(.ptr 16 0)),(28,(.d (eSl 1 dI a1.Memory))),(29,(aI (a1.Memory.length:Int))),(30,(aI (IntKind.wrap .i64 (s1+1))))],[(16,(.cells (g27 a0)))],[],1568⟩ (.inl (IntKind.wrap .i64 (s1+1))) ⟨rfl,(wk [(16,16)] [])⟩)))))) (.ret (.exit 0) _ (.inr (.inl ())) ⟨rfl,rfl,Weak.refl _⟩))))))) fun _=>(.sg [] [(1,[4],[])] (.ret .ret ⟨[(4,(aB true))],[],[],1040⟩ true ⟨rfl,_,Weak.refl _,dr⟩)))))
noncomputable def m57 (a0:T27) (a1:T41):Option (Bool):=(d57 a0 a1).m
theorem p57 {a0:T27} {a1:T41} {r:Bool} (h:m57 a0 a1=some r):PureAt Tryz.prog 57 [(e27 a0),(e41 a1)] (.bool r):=pure_jd (d57 a0 a1) Tryz.func57 h
noncomputable def d70 (a0:T27) (a1:Int):JF Tryz.prog Tryz.f70 [(e27 a0),(dI a1)] (fun(r:(List Int))=>(eSl 1 dI r)) :=
 (.sq 3 [(1,tm1 9 D.bool)] [(1,[4],[]),(0,[1,2,5],[16])] (fun(_:Unit)=>⟨[(1,(aI a1)),(2,(.ptr 16 0)),(5,(.ap 1 ([a1]:List Int).length (cF dI ([a1]:List Int)) (.tok 128 3)))],[(16,(.cells (g27 a0)))],[128],160⟩) (c3 (@p79 a0 a1) fun x1=>(.ite (!x1) (.ret .ret ⟨[(4,aN)],[],[],128⟩ (.inr ([])) ⟨rfl,rfl,_,Weak.refl _,de_nil⟩) (.ret .normal ⟨[(1,(aI a1)),(2,(.ptr 16 0)),(5,(.ap 1 1 (litF [(dI a1)]) (.tok 128 3)))],[(16,(.cells (g27 a0)))],[128],160⟩ (.inl ()) ⟨rfl,(wh [(16,16)] [(128,128)] ⟨dr,⟨rfl,rfl⟩,⟨rfl,rfl,rfl,(de_lit rfl rfl)⟩⟩)⟩))) (fun _=>(.bk (.lp (fun(s1:Int×(List Int))=>⟨[(1,(aI s1.1)),(2,(.ptr 16 0)),(5,(.ap 1 s1.2.length (cF dI s1.2) (.tok 128 3)))],[(16,(.cells (g27 a0)))],[128],496⟩) (a1,([a1]:List Int)) (wk [(16,16)] [(128,128)]) fun s1=>(.sg [] [(1,[4],[]),(0,[1,2,5],[16])] (nd (0≤s1.1) (nd (s1.1 < (a0.States.length:Int)) (.ite ((decide ((a0.States.getD s1.1.toNat default).Parent < 0)) || (decide (s1.1≤(a0.States.getD s1.1.toNat default).Parent))) (.ret .ret ⟨[(4,(.ap 1 s1.2.length (cF dI s1.2) (.tok 128 3)))],[],[128],752⟩ (.inr (s1.2)) ⟨rfl,rfl,_,Weak.refl _,dr⟩) (nd ((s1.2.length+1) * 8≤140737488355328) (.ret .normal ⟨[(1,(aI (a0.States.getD s1.1.toNat default).Parent)),(2,(.ptr 16 0)),(5,(.ap 1 (s1.2.length+1) (appF s1.2.length (cF dI s1.2) (litF [(dI (a0.States.getD s1.1.toNat default).Parent)])) (.tok 768 3)))],[(16,(.cells (g27 a0)))],[768,752],832⟩ (.inl ((a0.States.getD s1.1.toNat default).Parent,(s1.2++([(a0.States.getD s1.1.toNat default).Parent]:List Int)))) ⟨rfl,(wh [(16,16)] [(128,768)] ⟨dr,⟨rfl,rfl⟩,⟨rfl,rfl,rfl,(de_app dr (de_lit rfl rfl))⟩⟩)⟩))))))))))
noncomputable def m70 (a0:T27) (a1:Int):Option ((List Int)):=(d70 a0 a1).m
theorem p70 {a0:T27} {a1:Int} {r:(List Int)} (h:m70 a0 a1=some r):PureAt Tryz.prog 70 [(e27 a0),(dI a1)] (eSl 1 dI r):=pure_jd (d70 a0 a1) Tryz.func70 h
noncomputable def d101 (a0:List Int) (a1:Int):JF Tryz.prog Tryz.f101 [(eSl 1 dI a0),(dI a1)] (fun(r:Int)=>(dI r)) :=
 (.sq 1 [] [(0,[0,1],[])] (fun(_:Unit)=>⟨[(0,(.d (eSl 1 dI a0))),(1,(aI a1))],[],[],32⟩) (.nx ()) (fun _=>(.sc (fun(_:Unit)=>⟨[],[],[],272⟩) (.sq 1 [] [(0,[0,1,7,8],[])] (fun(_:Unit)=>⟨[(0,(.d (eSl 1 dI a0))),(1,(aI a1)),(7,(aI (a0.length:Int))),(8,(aI 0))],[],[],80⟩) (.nx ()) (fun _=>(.bk (.lp (fun(s1:Int)=>⟨[(0,(.d (eSl 1 dI a0))),(1,(aI a1)),(7,(aI (a0.length:Int))),(8,(aI s1))],[],[],256⟩) (0:Int) (wk [] []) fun s1=>(.sg [] [(1,[4],[]),(0,[0,1,7,8],[]),(2,[],[])] (.ite (decide (s1 < (a0.length:Int))) (nd (0≤s1) (nd (s1 < (a0.length:Int)) (.ite (a1==(a0.getD s1.toNat default)) (.ret .ret ⟨[(4,(aI s1))],[],[],432⟩ (.inr (.inr (s1))) ⟨rfl,rfl,rfl,_,Weak.refl _,dr⟩) (.ret .normal ⟨[(0,(.d (eSl 1 dI a0))),(1,(aI a1)),(7,(aI (a0.length:Int))),(8,(aI (IntKind.wrap .i64 (s1+1))))],[],[],432⟩ (.inl (IntKind.wrap .i64 (s1+1))) ⟨rfl,(wk [] [])⟩)))) (.ret (.exit 0) _ (.inr (.inl ())) ⟨rfl,rfl,Weak.refl _⟩))))))) fun _=>(.sg [] [(1,[4],[])] (.ret .ret ⟨[(4,(aI (-1)))],[],[],288⟩ (-1:Int) ⟨rfl,_,Weak.refl _,dr⟩)))))
noncomputable def m101 (a0:List Int) (a1:Int):Option (Int):=(d101 a0 a1).m
theorem p101 {a0:List Int} {a1:Int} {r:Int} (h:m101 a0 a1=some r):PureAt Tryz.prog 101 [(eSl 1 dI a0),(dI a1)] (dI r):=pure_jd (d101 a0 a1) Tryz.func101 h
noncomputable def d71 (a0:List Int) (a1:Int):JF Tryz.prog Tryz.f71 [(eSl 1 dI a0),(dI a1)] (fun(r:Bool)=>(.bool r)) :=
 (.sg [(1,tm1 7 dI)] [(1,[4],[])] (c3 (@p101 a0 a1) fun x1=>(.ret .ret ⟨[(4,(aB (decide (0≤x1))))],[],[],112⟩ (decide (0≤x1)) ⟨rfl,_,Weak.refl _,dr⟩)))
noncomputable def m71 (a0:List Int) (a1:Int):Option (Bool):=(d71 a0 a1).m
theorem p71 {a0:List Int} {a1:Int} {r:Bool} (h:m71 a0 a1=some r):PureAt Tryz.prog 71 [(eSl 1 dI a0),(dI a1)] (.bool r):=pure_jd (d71 a0 a1) Tryz.func71 h
noncomputable def d33 (a0:T27) (a1 a2:Int):JF Tryz.prog Tryz.f33 [(e27 a0),(dI a1),(.int .u16 a2)] (fun(r:(List Int))=>(eSl 1 dI r)) :=
 (.sq 3 [(1,tm1 13 (eSl 1 dI))] [(0,[2,3,7,8],[16])] (fun(y1:(List Int))=>⟨[(2,(.d (.int .u16 a2))),(3,(.ptr 16 0)),(7,(.d (eSl 1 dI y1))),(8,aN)],[(16,(.cells (g27 a0)))],[],128⟩) (c3 (@p70 a0 a1) fun x1=>(.nx x1)) (fun y1=>(.sc (fun(y3:(List Int))=>⟨[(8,(.ap 1 y3.length (cF dI y3) (.tok 512 3)))],[],[512],592⟩) (.sq 1 [] [(0,[2,7,8,15,16,17],[])] (fun(_:Unit)=>⟨[(2,(.d (.int .u16 a2))),(7,(.d (eSl 1 dI y1))),(8,aN),(15,(.d (eSl 4 e78 a0.Transitions))),(16,(aI (a0.Transitions.length:Int))),(17,(aI 0))],[],[],192⟩) (.nx ()) (fun _=>(.bk (.lp (fun(s2:(List Int)×Int)=>⟨[(2,(.d (.int .u16 a2))),(7,(.d (eSl 1 dI y1))),(8,(.ap 1 s2.1.length (cF dI s2.1) (.tok 512 3))),(15,(.d (eSl 4 e78 a0.Transitions))),(16,(aI (a0.Transitions.length:Int))),(17,(aI s2.2))],[],[512],576⟩) ([],(0:Int)) (wk [] []) fun s2=>(.sg [(6,⟨Bool×Bool,fun x=>[(25,(.bool x.1)),(30,(.bool x.2))],fun x=>[],[]⟩)] [(0,[2,7,8,15,16,17],[]),(2,[8],[])] (.ite (decide (s2.2 < (a0.Transitions.length:Int))) (nd (0≤s2.2) (nd (s2.2 < (a0.Transitions.length:Int)) (.exi (Bool×Bool) ((m71 y1 (a0.Transitions.getD s2.2.toNat default).From).bind fun r6_0=>((if r6_0=true then m72 (a0.Transitions.getD s2.2.toNat default).When a2 else some default).bind fun r6_1=>some (r6_0,r6_1))) (fun x6=>(.p (PureAt Tryz.prog 71 [(eSl 1 dI y1),(dI (a0.Transitions.getD s2.2.toNat default).From)] (.bool x6.1)) (.g x6.1 (PureAt Tryz.prog 72 [(eSl 2 e151 (a0.Transitions.getD s2.2.toNat default).When),(.int .u16 a2)] (.bool x6.2)) (.fin 0)))) (by intro x6 h;obtain⟨r6_0,h1,h⟩:=Option.bind_eq_some_iff.1 h;obtain⟨r6_1,h2,h⟩:=Option.bind_eq_some_iff.1 h;cases h;exact⟨p71 h1,fun g=>p72 (by rw[if_pos g]at h2;exact h2),trivial⟩) (fun x6 _=>(.ite (x6.1&&x6.2) (nd ((s2.1.length+1) * 8≤140737488355328) (.ret .normal ⟨[(2,(.d (.int .u16 a2))),(7,(.d (eSl 1 dI y1))),(8,(.ap 1 (s2.1.length+1) (appF s2.1.length (cF dI s2.1) (litF [(dI s2.2)])) (.tok 896 3))),(15,(.d (eSl 4 e78 a0.Transitions))),(16,(aI (a0.Transitions.length:Int))),(17,(aI (IntKind.wrap .i64 (s2.2+1))))],[],[896,880],960⟩ (.inl ((s2.1++([s2.2]:List Int)),(IntKind.wrap .i64 (s2.2+1)))) ⟨rfl,(wh [] [(512,896)] ⟨dr,dr,⟨rfl,rfl,rfl,(de_app dr (de_lit rfl rfl))⟩,dr,dr,dr⟩)⟩)) (.ret .normal ⟨[(2,(.d (.int .u16 a2))),(7,(.d (eSl 1 dI y1))),(8,(.ap 1 s2.1.length (cF dI s2.1) (.tok 512 3))),(15,(.d (eSl 4 e78 a0.Transitions))),(16,(aI (a0.Transitions.length:Int))),(17,(aI (IntKind.wrap .i64 (s2.2+1))))],[],[512],880⟩ (.inl (s2.1,(IntKind.wrap .i64 (s2.2+1)))) ⟨rfl,(wk [] [(512,512)])⟩)))))) (.ret (.exit 0) _ (.inr (.inl s2.1)) ⟨rfl,rfl,Weak.refl _⟩))))))) fun y3=>(.sg [] [(1,[6],[])] (.ret .ret ⟨[(6,(.ap 1 y3.length (cF dI y3) (.tok 512 3)))],[],[512],624⟩ y3 ⟨rfl,_,Weak.refl _,dr⟩)))))
noncomputable def m33 (a0:T27) (a1 a2:Int):Option ((List Int)):=(d33 a0 a1 a2).m
theorem p33 {a0:T27} {a1:Int} {a2:Int} {r:(List Int)} (h:m33 a0 a1 a2=some r):PureAt Tryz.prog 33 [(e27 a0),(dI a1),(.int .u16 a2)] (eSl 1 dI r):=pure_jd (d33 a0 a1 a2) Tryz.func33 h
noncomputable def q54o0 (a0:T27) (a1:T41) (y:Unit):OF:=⟨(.ptr 304 0),[(112,(.arr 1 (a1.Memory.length:Int).toNat (fun i=>if i < a1.Memory.length then(cF dI a1.Memory) i else(fun _=>(dI 0)) i))),(304,(.cells (g27 a0++([(aI a1.Leaf),(.arr 112 1 (a1.Memory.length:Int).toNat),aN]:List AV))))],[]⟩
noncomputable def d54o0 (a0:T27) (a1:T41):JO Tryz.prog Tryz.f54 [(.d (e27 a0)),(.d (e41 a1))] [] [] (q54o0 a0 a1) :=
 (.sg [] [(1,[4],[304,112])] (nd (0≤(a1.Memory.length:Int)) (nd ((a1.Memory.length:Int)=(a1.Memory.length:Int)) (nd ((a1.Memory.length:Int) * 8≤140737488355328) (nd ((a1.Memory.length:Int)≤9223372036854775807) (nd ((a1.Memory.length:Int).toNat=(a1.Memory.length:Int).toNat) (.ret .ret ⟨[(4,(.ptr 304 0))],[(304,(.cells (g27 a0++([(aI a1.Leaf),(.arr 112 1 (a1.Memory.length:Int).toNat),aN]:List AV)))),(112,(.arr 1 (a1.Memory.length:Int).toNat (fun i=>if i < a1.Memory.length then(cF dI a1.Memory) i else(fun _=>(dI 0)) i)))],[],336⟩ () ⟨rfl,(rk (idn [304,112]) [] 336)⟩)))))))
noncomputable def m54o0 (a0:T27) (a1:T41):Option (Unit):=(d54o0 a0 a1).m
theorem po54o0 {a0:T27} {a1:T41} {r:Unit} (h:m54o0 a0 a1=some r):ObjF Tryz.prog 54 [(.d (e27 a0)),(.d (e41 a1))] [] [] (q54o0 a0 a1 r):=obj_jd (d54o0 a0 a1) Tryz.func54 h
noncomputable def d106 (a0:T27) (a1 a2:Int):JF Tryz.prog Tryz.f106 [(e27 a0),(dI a1),(dI a2)] (fun(r:Int)=>(dI r)) :=
 (.sq 2 [(1,tm1 12 (eSl 1 dI))] [(0,[1,3,7],[16])] (fun(y1:(List Int))=>⟨[(1,(aI a1)),(3,(.ptr 16 0)),(7,(.d (eSl 1 dI y1)))],[(16,(.cells (g27 a0)))],[],128⟩) (.exi ((List Int)) ((m70 a0 a2).bind fun r1_0=>(if(0:Int)≤(1:Int)then(if 1≤(r1_0.length:Int)then some r1_0 else none)else none)) (fun x1=>(.p (PureAt Tryz.prog 70 [(e27 a0),(dI a2)] (eSl 1 dI x1)) (.p ((0:Int)≤(1:Int)) (.p (1≤(x1.length:Int)) (.fin 0))))) (by intro x1 h;obtain⟨r1_0,h1,h⟩:=Option.bind_eq_some_iff.1 h;obtain⟨h2,h⟩:=if_some h;obtain⟨h3,h⟩:=if_some h;cases h;exact⟨p70 h1,h2,h3,trivial⟩) (fun x1 _=>(.ret .normal ⟨[(1,(aI a1)),(3,(.ptr 16 0)),(7,(.d (.sl 1 (x1.length - (1:Int).toNat) (fun i=>cF dI x1 ((1:Int).toNat+i)))))],[(16,(.cells (g27 a0)))],[],128⟩ (.inl (subL x1 (1:Int).toNat (x1.length - (1:Int).toNat))) ⟨rfl,(wh [(16,16)] [] ⟨dr,⟨rfl,rfl⟩,de_sub⟩)⟩))) (fun y1=>(.sc (fun(_:Unit)=>⟨[],[],[],384⟩) (.sq 1 [(2,tm1 16 (eSl 1 dI))] [(0,[7,17,18,19],[])] (fun(y2:(List Int)×Int)=>⟨[(7,(.d (eSl 1 dI y1))),(17,(.d (eSl 1 dI y2.1))),(18,(aI y2.2)),(19,(aI 0))],[],[],224⟩) (.exi ((List Int)) ((m70 a0 a1).bind fun r2_0=>(if(0:Int)≤(1:Int)then(if 1≤(r2_0.length:Int)then some r2_0 else none)else none)) (fun x2=>(.p (PureAt Tryz.prog 70 [(e27 a0),(dI a1)] (eSl 1 dI x2)) (.p ((0:Int)≤(1:Int)) (.p (1≤(x2.length:Int)) (.fin 0))))) (by intro x2 h;obtain⟨r2_0,h1,h⟩:=Option.bind_eq_some_iff.1 h;obtain⟨h2,h⟩:=if_some h;obtain⟨h3,h⟩:=if_some h;cases h;exact⟨p70 h1,h2,h3,trivial⟩) (fun x2 _=>(.ret .normal ⟨[(7,(.d (eSl 1 dI y1))),(17,(.d (.sl 1 (x2.length - (1:Int).toNat) (fun i=>cF dI x2 ((1:Int).toNat+i))))),(18,(aI (((x2.length - (1:Int).toNat):Nat):Int))),(19,(aI 0))],[],[],224⟩ (.inl ((subL x2 (1:Int).toNat (x2.length - (1:Int).toNat)),(((x2.length - (1:Int).toNat):Nat):Int))) ⟨rfl,(wh [] [] ⟨dr,de_sub,dr,dr⟩)⟩))) (fun y2=>(.bk (.lp (fun(s3:Int)=>⟨[(7,(.d (eSl 1 dI y1))),(17,(.d (eSl 1 dI y2.1))),(18,(aI y2.2)),(19,(aI s3))],[],[],368⟩) (0:Int) (wk [] []) fun s3=>(.sg [(5,tm1 25 D.bool)] [(1,[6],[]),(0,[7,17,18,19],[]),(2,[],[])] (.ite (decide (s3 < y2.2)) (nd (0≤s3) (nd (s3 < (y2.1.length:Int)) (c3 (@p71 y1 (y2.1.getD s3.toNat default)) fun x5=>(.ite x5 (.ret .ret ⟨[(6,(aI (y2.1.getD s3.toNat default)))],[],[],512⟩ (.inr (.inr ((y2.1.getD s3.toNat default)))) ⟨rfl,rfl,rfl,_,Weak.refl _,dr⟩) (.ret .normal ⟨[(7,(.d (eSl 1 dI y1))),(17,(.d (eSl 1 dI y2.1))),(18,(aI y2.2)),(19,(aI (IntKind.wrap .i64 (s3+1))))],[],[],512⟩ (.inl (IntKind.wrap .i64 (s3+1))) ⟨rfl,(wk [] [])⟩))))) (.ret (.exit 0) _ (.inr (.inl ())) ⟨rfl,rfl,Weak.refl _⟩))))))) fun _=>(.sg [] [(1,[6],[])] (.ret .ret ⟨[(6,(aI (-1)))],[],[],400⟩ (-1:Int) ⟨rfl,_,Weak.refl _,dr⟩)))))
noncomputable def m106 (a0:T27) (a1 a2:Int):Option (Int):=(d106 a0 a1 a2).m
theorem p106 {a0:T27} {a1:Int} {a2:Int} {r:Int} (h:m106 a0 a1 a2=some r):PureAt Tryz.prog 106 [(e27 a0),(dI a1),(dI a2)] (dI r):=pure_jd (d106 a0 a1 a2) Tryz.func106 h
noncomputable abbrev z107o0_0 (a1:T27) (a2:Int) (a3:List Int) (s2:Int×Int×(List Int)×(List (List UInt8))) (y1:(List Int)×Int):Ob:=(.cells (g27 a1++([(aI a2),(.arr 1 1 a3.length),(.ap 1 (s2.2.2.2.length+(a1.States.getD (y1.1.getD s2.2.1.toNat default).toNat default).Exit.length) (appF s2.2.2.2.length (cF D.str s2.2.2.2) (cF D.str (a1.States.getD (y1.1.getD s2.2.1.toNat default).toNat default).Exit)) (.tok 1360 9))]:List AV)))
noncomputable abbrev z107o0_1 (a1:T27) (a2:Int) (a3:List Int) (a4:List (List UInt8)):Ob:=(.cells [(aS a1.Name),(.d (eSl 1 D.str a1.Conds)),(.d (eSl 1 (eSl 2 e151) a1.Never)),(.d (eSl 6 e76 a1.States)),(aI a1.Start),(.d (eSl 4 e78 a1.Transitions)),(aI a2),(.arr 1 1 a3.length),(.ap 1 a4.length (cF D.str a4) (.tok 0 9))])
noncomputable abbrev z107o0_2 (a1:T27) (a2:Int) (a3:List Int) (s2:Int×Int×(List Int)×(List (List UInt8))):Ob:=(.cells (g27 a1++([(aI a2),(.arr 1 1 a3.length),(.ap 1 s2.2.2.2.length (cF D.str s2.2.2.2) (.tok 0 9))]:List AV)))
noncomputable def q107o0 (a0:Int) (a1:T27) (a2:Int) (a3:List Int) (a4:List (List UInt8)) (y:(List Int)×(List (List UInt8))):OF:=⟨(.tup []),[(1,(.arr 1 a3.length (cF dI y.1))),(0,(.cells (g27 a1++([(aI a2),(.arr 1 1 a3.length),(.ap 1 y.2.length (cF D.str y.2) (.tok 0 9))]:List AV))))],[0]⟩
noncomputable def d107o0 (a0:Int) (a1:T27) (a2:Int) (a3:List Int) (a4:List (List UInt8)):JO Tryz.prog Tryz.f107 [(.ptr 0 0),(aI a0)] [(1,(.arr 1 a3.length (cF dI a3))),(0,(z107o0_1 a1 a2 a3 a4))] [0] (q107o0 a0 a1 a2 a3 a4) :=
 (.sq 2 [(1,tm1 17 (eSl 1 dI))] [(0,[0,1,4,17,18,19],[1,0])] (fun(y1:(List Int)×Int)=>⟨[(0,(.ptr 0 0)),(1,(aI a0)),(4,(aI (-1))),(17,(.d (eSl 1 dI y1.1))),(18,(aI y1.2)),(19,(aI 0))],[(1,(.arr 1 a3.length (cF dI a3))),(0,(.cells (g27 a1++([(aI a2),(.arr 1 1 a3.length),(.ap 1 a4.length (cF D.str a4) (.tok 0 9))]:List AV))))],[0],224⟩) (c3 (@p70 a1 a2) fun x1=>(.nx (x1,(x1.length:Int)))) (fun y1=>(.bk (.lp (fun(s2:Int×Int×(List Int)×(List (List UInt8)))=>⟨[(0,(.ptr 0 0)),(1,(aI a0)),(4,(aI s2.1)),(17,(.d (eSl 1 dI y1.1))),(18,(aI y1.2)),(19,(aI s2.2.1))],[(1,(.arr 1 a3.length (cF dI s2.2.2.1))),(0,(z107o0_2 a1 a2 a3 s2))],[0],976⟩) ((-1:Int),(0:Int),a3,a4) (ws (idn [0,1]) [(0,0)] ⟨⟨_,_,rfl,rfl,⟨rfl,(de_keep dr)⟩⟩,⟨_,_,rfl,rfl,⟨dr,dr,dr,dr,dr,dr,dr,⟨rfl,rfl,rfl⟩,⟨rfl,rfl,rfl,dr⟩,trivial⟩⟩⟩) fun s2=>(.sg [] [(1,[0],[0,1]),(0,[0,1,4,17,18,19],[1,0]),(2,[0],[0,1])] (.ite (decide (s2.2.1 < y1.2)) (nd (0≤s2.2.1) (nd (s2.2.1 < (y1.1.length:Int)) (.ite ((y1.1.getD s2.2.1.toNat default)==a0) (.ret .ret ⟨[(0,(.ptr 0 0))],[(0,(z107o0_2 a1 a2 a3 s2)),(1,(.arr 1 a3.length (cF dI s2.2.2.1)))],[0],1088⟩ (.inr ((s2.2.2.1,s2.2.2.2))) ⟨rfl,rfl,(rk (idn [0,1]) [(0,0)] 1088)⟩) (nd (0≤(y1.1.getD s2.2.1.toNat default)) (nd ((y1.1.getD s2.2.1.toNat default) < (a1.States.length:Int)) (nd ((s2.2.2.2.length+(a1.States.getD (y1.1.getD s2.2.1.toNat default).toNat default).Exit.length) * 16≤140737488355328) (.ite ((a1.States.getD (y1.1.getD s2.2.1.toNat default).toNat default).History&&(s2.1 != (-1:Int))) (nd (0≤(y1.1.getD s2.2.1.toNat default)) (nd ((y1.1.getD s2.2.1.toNat default) < (a3.length:Int)) (nd ((y1.1.getD s2.2.1.toNat default).toNat < a3.length) (.ret .normal ⟨[(0,(.ptr 0 0)),(1,(aI a0)),(4,(aI (y1.1.getD s2.2.1.toNat default))),(17,(.d (eSl 1 dI y1.1))),(18,(aI y1.2)),(19,(aI (IntKind.wrap .i64 (s2.2.1+1))))],[(1,(.arr 1 a3.length (fun k=>if k=(y1.1.getD s2.2.1.toNat default).toNat then(dI s2.1)else(cF dI s2.2.2.1) k))),(0,(z107o0_0 a1 a2 a3 s2 y1))],[1360],1728⟩ (.inl ((y1.1.getD s2.2.1.toNat default),(IntKind.wrap .i64 (s2.2.1+1)),((subL s2.2.2.1 0 a3.length).set (y1.1.getD s2.2.1.toNat default).toNat s2.1),(s2.2.2.2++(a1.States.getD (y1.1.getD s2.2.1.toNat default).toNat default).Exit))) ⟨rfl,(ws (idn [0,1]) [(0,1360)] ⟨⟨_,_,rfl,rfl,⟨rfl,(de_keep (de_set de_sub0))⟩⟩,⟨_,_,rfl,rfl,⟨dr,dr,dr,dr,dr,dr,dr,⟨rfl,rfl,rfl⟩,⟨rfl,rfl,rfl,(de_app dr dr)⟩,trivial⟩⟩⟩)⟩)))) (.ret .normal ⟨[(0,(.ptr 0 0)),(1,(aI a0)),(4,(aI (y1.1.getD s2.2.1.toNat default))),(17,(.d (eSl 1 dI y1.1))),(18,(aI y1.2)),(19,(aI (IntKind.wrap .i64 (s2.2.1+1))))],[(1,(.arr 1 a3.length (cF dI s2.2.2.1))),(0,(z107o0_0 a1 a2 a3 s2 y1))],[1360],1584⟩ (.inl ((y1.1.getD s2.2.1.toNat default),(IntKind.wrap .i64 (s2.2.1+1)),s2.2.2.1,(s2.2.2.2++(a1.States.getD (y1.1.getD s2.2.1.toNat default).toNat default).Exit))) ⟨rfl,(ws (idn [0,1]) [(0,1360)] ⟨⟨_,_,rfl,rfl,⟨rfl,dr⟩⟩,⟨_,_,rfl,rfl,⟨dr,dr,dr,dr,dr,dr,dr,⟨rfl,rfl,rfl⟩,⟨rfl,rfl,rfl,(de_app dr dr)⟩,trivial⟩⟩⟩)⟩)))))))) (.ret (.exit 0) ⟨[(0,(.ptr 0 0))],[(0,(z107o0_2 a1 a2 a3 s2)),(1,(.arr 1 a3.length (cF dI s2.2.2.1)))],[0],992⟩ (.inr ((s2.2.2.1,s2.2.2.2))) ⟨rfl,rfl,(rk (idn [0,1]) [(0,0)] 1088)⟩)))))))
noncomputable def m107o0 (a0:Int) (a1:T27) (a2:Int) (a3:List Int) (a4:List (List UInt8)):Option ((List Int)×(List (List UInt8))):=(d107o0 a0 a1 a2 a3 a4).m
theorem po107o0 {a0:Int} {a1:T27} {a2:Int} {a3:List Int} {a4:List (List UInt8)} {r:(List Int)×(List (List UInt8))} (h:m107o0 a0 a1 a2 a3 a4=some r):ObjF Tryz.prog 107 [(.ptr 0 0),(aI a0)] [(1,(.arr 1 a3.length (cF dI a3))),(0,(z107o0_1 a1 a2 a3 a4))] [0] (q107o0 a0 a1 a2 a3 a4 r):=obj_jd (d107o0 a0 a1 a2 a3 a4) Tryz.func107 h
noncomputable def q102o0 (a0:List Int) (y:Unit):OF:=⟨(.fn 137 [(.ptr 16 0)]),[(16,(.cells [(.d (eSl 1 dI a0))]))],[]⟩
noncomputable def d102o0 (a0:List Int):JO Tryz.prog Tryz.f102 [(.d (eSl 1 dI a0))] [] [] (q102o0 a0) :=
 (.sg [] [(1,[2],[16])] (.ret .ret ⟨[(2,(.fn 137 [(.ptr 16 0)]))],[(16,(.cells [(.d (eSl 1 dI a0))]))],[],80⟩ () ⟨rfl,(rk [(16,16)] [] 80)⟩))
noncomputable def m102o0 (a0:List Int):Option (Unit):=(d102o0 a0).m
theorem po102o0 {a0:List Int} {r:Unit} (h:m102o0 a0=some r):ObjF Tryz.prog 102 [(.d (eSl 1 dI a0))] [] [] (q102o0 a0 r):=obj_jd (d102o0 a0) Tryz.func102 h
noncomputable def q103o0 (a0:Int) (a1:T27) (a2:Int) (a3:List Int) (a4:List (List UInt8)) (y:(List Int)):OF:=⟨(.tup []),[(1,(.arr 1 a3.length (cF dI y))),(0,(.cells (g27 a1++([(aI a2),(.arr 1 1 a3.length),(.ap 1 (a4++(a1.States.getD a0.toNat default).Entry).length (cF D.str (a4++(a1.States.getD a0.toNat default).Entry)) (.tok 288 9))]:List AV))))],[288]⟩
noncomputable def d103o0 (a0:Int) (a1:T27) (a2:Int) (a3:List Int) (a4:List (List UInt8)):JO Tryz.prog Tryz.f103 [(.ptr 0 0),(aI a0)] [(1,(.arr 1 a3.length (cF dI a3))),(0,(.cells (g27 a1++([(aI a2),(.arr 1 1 a3.length),(.ap 1 a4.length (cF D.str a4) (.tok 0 9))]:List AV))))] [0] (q103o0 a0 a1 a2 a3 a4) :=
 (.sg [] [(0,[0],[0,1])] (nd (0≤a0) (nd (a0 < (a1.States.length:Int)) (nd ((a4.length+(a1.States.getD a0.toNat default).Entry.length) * 16≤140737488355328) (.ite (a1.States.getD a0.toNat default).History (nd (0≤a0) (nd (a0 < (a3.length:Int)) (nd (a0.toNat < a3.length) (.ret .normal ⟨[(0,(.ptr 0 0))],[(0,(.cells (g27 a1++([(aI a2),(.arr 1 1 a3.length),(.ap 1 (a4.length+(a1.States.getD a0.toNat default).Entry.length) (appF a4.length (cF D.str a4) (cF D.str (a1.States.getD a0.toNat default).Entry)) (.tok 288 9))]:List AV)))),(1,(.arr 1 a3.length (fun k=>if k=a0.toNat then(dI (-1))else(cF dI a3) k)))],[288],512⟩ (a3.set a0.toNat (-1:Int)) ⟨rfl,(retO_of [(0,0),(1,1)] [(288,288)] 512 rfl (by kernel_rfl) (by kernel_rfl) trivial ⟨⟨_,_,rfl,rfl,⟨rfl,(de_keep (de_set dr))⟩⟩,⟨_,_,rfl,rfl,⟨dr,dr,dr,dr,dr,dr,dr,⟨rfl,rfl,rfl⟩,⟨rfl,rfl,rfl,(de_app dr dr)⟩,trivial⟩⟩⟩)⟩)))) (.ret .normal ⟨[(0,(.ptr 0 0))],[(0,(.cells (g27 a1++([(aI a2),(.arr 1 1 a3.length),(.ap 1 (a4.length+(a1.States.getD a0.toNat default).Entry.length) (appF a4.length (cF D.str a4) (cF D.str (a1.States.getD a0.toNat default).Entry)) (.tok 288 9))]:List AV)))),(1,(.arr 1 a3.length (cF dI a3)))],[288],384⟩ a3 ⟨rfl,(retO_of [(0,0),(1,1)] [(288,288)] 512 rfl (by kernel_rfl) (by kernel_rfl) trivial ⟨⟨_,_,rfl,rfl,⟨rfl,(de_keep dr)⟩⟩,⟨_,_,rfl,rfl,⟨dr,dr,dr,dr,dr,dr,dr,⟨rfl,rfl,rfl⟩,⟨rfl,rfl,rfl,(de_app dr dr)⟩,trivial⟩⟩⟩)⟩))))))
noncomputable def m103o0 (a0:Int) (a1:T27) (a2:Int) (a3:List Int) (a4:List (List UInt8)):Option ((List Int)):=(d103o0 a0 a1 a2 a3 a4).m
theorem po103o0 {a0:Int} {a1:T27} {a2:Int} {a3:List Int} {a4:List (List UInt8)} {r:(List Int)} (h:m103o0 a0 a1 a2 a3 a4=some r):ObjF Tryz.prog 103 [(.ptr 0 0),(aI a0)] [(1,(.arr 1 a3.length (cF dI a3))),(0,(.cells (g27 a1++([(aI a2),(.arr 1 1 a3.length),(.ap 1 a4.length (cF D.str a4) (.tok 0 9))]:List AV))))] [0] (q103o0 a0 a1 a2 a3 a4 r):=obj_jd (d103o0 a0 a1 a2 a3 a4) Tryz.func103 h
noncomputable abbrev z104o0_0 (a1:T27) (s1:Int×(List Int)×(List (List UInt8))):AV:=(.ap 1 (s1.2.2++(a1.States.getD s1.1.toNat default).Entry).length (cF D.str (s1.2.2++(a1.States.getD s1.1.toNat default).Entry)) (.tok 1280 9))
noncomputable abbrev z104o0_1 (a1:T27) (s1:Int×(List Int)×(List (List UInt8))):AV:=(.ap 1 (s1.2.2++(a1.States.getD s1.1.toNat default).Entry).length (cF D.str (s1.2.2++(a1.States.getD s1.1.toNat default).Entry)) (.tok 1136 9))
noncomputable abbrev z104o0_2 (a1:T27) (a2:Int) (a3:List Int) (s1:Int×(List Int)×(List (List UInt8))):Ob:=(.cells (g27 a1++([(aI a2),(.arr 1 1 a3.length),(.ap 1 s1.2.2.length (cF D.str s1.2.2) (.tok 0 9))]:List AV)))
noncomputable def q104o0 (a0:Int) (a1:T27) (a2:Int) (a3:List Int) (a4:List (List UInt8)) (y:Int×(List Int)×(List (List UInt8))):OF:=⟨(.tup []),[(1,(.arr 1 a3.length (cF dI y.2.1))),(0,(.cells (g27 a1++([(aI y.1),(.arr 1 1 a3.length),(.ap 1 y.2.2.length (cF D.str y.2.2) (.tok 1280 9))]:List AV))))],[1280]⟩
noncomputable def o104o0_0 (a1:T27) (a2:Int) (a3:List Int) (s1:Int×(List Int)×(List (List UInt8))) (x:(List Int)):OT:=⟨(.tup []),[0,1],[0],[(1,(.arr 1 a3.length (cF dI x))),(0,(.cells (g27 a1++([(aI a2),(.arr 1 1 a3.length),(z104o0_0 a1 s1)]:List AV))))],[1280]⟩
noncomputable def o104o0_1 (a1:T27) (a2:Int) (a3:List Int) (s1:Int×(List Int)×(List (List UInt8))) (x:(List Int)):OT:=⟨(.tup []),[0,1],[0],[(1,(.arr 1 a3.length (cF dI x))),(0,(.cells (g27 a1++([(aI a2),(.arr 1 1 a3.length),(z104o0_1 a1 s1)]:List AV))))],[1136]⟩
noncomputable def d104o0 (a0:Int) (a1:T27) (a2:Int) (a3:List Int) (a4:List (List UInt8)):JO Tryz.prog Tryz.f104 [(.ptr 0 0),(aI a0)] [(1,(.arr 1 a3.length (cF dI a3))),(0,(.cells (g27 a1++([(aI a2),(.arr 1 1 a3.length),(.ap 1 a4.length (cF D.str a4) (.tok 0 9))]:List AV))))] [0] (q104o0 a0 a1 a2 a3 a4) :=
 (.bk (.lp (fun(s1:Int×(List Int)×(List (List UInt8)))=>⟨[(0,(.ptr 0 0)),(1,(aI s1.1))],[(1,(.arr 1 a3.length (cF dI s1.2.1))),(0,(z104o0_2 a1 a2 a3 s1))],[0],688⟩) (a0,a3,a4) (ws (idn [0,1]) [(0,0)] ⟨⟨_,_,rfl,rfl,⟨rfl,(de_keep dr)⟩⟩,⟨_,_,rfl,rfl,⟨dr,dr,dr,dr,dr,dr,dr,⟨rfl,rfl,rfl⟩,⟨rfl,rfl,rfl,dr⟩,trivial⟩⟩⟩) fun s1=>(.sg [(4,⟨(List Int),fun x=>[],fun x=>[(1280,(o104o0_0 a1 a2 a3 s1 x)),(1136,(o104o0_1 a1 a2 a3 s1 x))],[]⟩)] [(1,[0],[0,1]),(0,[0,1],[1,0])] (nd (0≤s1.1) (nd (s1.1 < (a1.States.length:Int)) (.needG (a1.States.getD s1.1.toNat default).History (0≤s1.1) inferInstance (.needG (a1.States.getD s1.1.toNat default).History (s1.1 < (a3.length:Int)) inferInstance (.needG (a1.States.getD s1.1.toNat default).History (s1.1.toNat < a3.length) inferInstance (.ite ((a1.States.getD s1.1.toNat default).History&&((s1.2.1.getD s1.1.toNat default) != (-1:Int))) (nd (0≤s1.1) (nd (s1.1 < (a3.length:Int)) (nd (s1.1.toNat < a3.length) (c3 (p:=fun x4=>ObjL Tryz.prog 103 [(.ptr 0 0),(aI s1.1)] [(0,some (z104o0_2 a1 a2 a3 s1)),(1,some (.arr 1 a3.length (cF dI s1.2.1)))] 1280 (o104o0_0 a1 a2 a3 s1 x4)) (fun x4 (h1:m103o0 s1.1 a1 a2 (subL s1.2.1 0 a3.length) s1.2.2=some _)=>objL_of (po103o0 h1) [(0,0),(1,1)] [(0,0)] [(0,0),(1,1)] [(1280,288)] (by kernel_rfl) ⟨⟨rfl,rfl⟩,dr,trivial⟩ ⟨⟨_,_,rfl,rfl,⟨rfl,de_sub0⟩⟩,⟨_,_,rfl,rfl,⟨dr,dr,dr,dr,dr,dr,dr,⟨rfl,rfl,(len_of (sz:=1) (e:=dI) (f:=(cF dI s1.2.1)) (l:=(subL s1.2.1 0 a3.length)) de_sub0)⟩,⟨rfl,rfl,rfl,dr⟩,trivial⟩⟩⟩ (by kernel_rfl) trivial ⟨⟨_,_,rfl,rfl,⟨rfl,(de_len (Eq.symm (len_of (sz:=1) (e:=dI) (f:=(cF dI s1.2.1)) (l:=(subL s1.2.1 0 a3.length)) de_sub0)))⟩⟩,⟨_,_,rfl,rfl,⟨dr,dr,dr,dr,dr,dr,dr,⟨rfl,rfl,(Eq.symm (len_of (sz:=1) (e:=dI) (f:=(cF dI s1.2.1)) (l:=(subL s1.2.1 0 a3.length)) de_sub0))⟩,⟨rfl,rfl,rfl,dr⟩,trivial⟩⟩⟩) fun x4=>(.ite ((s1.2.1.getD s1.1.toNat default)==(-1:Int)) (.ret .ret ⟨[(0,(.ptr 0 0))],[(0,(.cells (g27 a1++([(aI s1.1),(.arr 1 1 a3.length),(z104o0_0 a1 s1)]:List AV)))),(1,(.arr 1 a3.length (cF dI x4)))],[1280],1424⟩ (.inr ((s1.1,x4,(s1.2.2++(a1.States.getD s1.1.toNat default).Entry)))) ⟨rfl,rfl,(rk (idn [0,1]) [(1280,1280)] 1424)⟩) (.ret .normal ⟨[(0,(.ptr 0 0)),(1,(aI (s1.2.1.getD s1.1.toNat default)))],[(1,(.arr 1 a3.length (cF dI x4))),(0,(.cells (g27 a1++([(aI a2),(.arr 1 1 a3.length),(z104o0_0 a1 s1)]:List AV))))],[1280],1360⟩ (.inl ((s1.2.1.getD s1.1.toNat default),x4,(s1.2.2++(a1.States.getD s1.1.toNat default).Entry))) ⟨rfl,(wk (idn [0,1]) [(0,1280)])⟩)))))) (c3 (p:=fun x4=>ObjL Tryz.prog 103 [(.ptr 0 0),(aI s1.1)] [(0,some (z104o0_2 a1 a2 a3 s1)),(1,some (.arr 1 a3.length (cF dI s1.2.1)))] 1136 (o104o0_1 a1 a2 a3 s1 x4)) (fun x4 (h1:m103o0 s1.1 a1 a2 (subL s1.2.1 0 a3.length) s1.2.2=some _)=>objL_of (po103o0 h1) [(0,0),(1,1)] [(0,0)] [(0,0),(1,1)] [(1136,288)] (by kernel_rfl) ⟨⟨rfl,rfl⟩,dr,trivial⟩ ⟨⟨_,_,rfl,rfl,⟨rfl,de_sub0⟩⟩,⟨_,_,rfl,rfl,⟨dr,dr,dr,dr,dr,dr,dr,⟨rfl,rfl,(len_of (sz:=1) (e:=dI) (f:=(cF dI s1.2.1)) (l:=(subL s1.2.1 0 a3.length)) de_sub0)⟩,⟨rfl,rfl,rfl,dr⟩,trivial⟩⟩⟩ (by kernel_rfl) trivial ⟨⟨_,_,rfl,rfl,⟨rfl,(de_len (Eq.symm (len_of (sz:=1) (e:=dI) (f:=(cF dI s1.2.1)) (l:=(subL s1.2.1 0 a3.length)) de_sub0)))⟩⟩,⟨_,_,rfl,rfl,⟨dr,dr,dr,dr,dr,dr,dr,⟨rfl,rfl,(Eq.symm (len_of (sz:=1) (e:=dI) (f:=(cF dI s1.2.1)) (l:=(subL s1.2.1 0 a3.length)) de_sub0))⟩,⟨rfl,rfl,rfl,dr⟩,trivial⟩⟩⟩) fun x4=>(.ite ((a1.States.getD s1.1.toNat default).Initial==(-1:Int)) (.ret .ret ⟨[(0,(.ptr 0 0))],[(0,(.cells (g27 a1++([(aI s1.1),(.arr 1 1 a3.length),(z104o0_1 a1 s1)]:List AV)))),(1,(.arr 1 a3.length (cF dI x4)))],[1136],1280⟩ (.inr ((s1.1,x4,(s1.2.2++(a1.States.getD s1.1.toNat default).Entry)))) ⟨rfl,rfl,(rk (idn [0,1]) [(1280,1136)] 1424)⟩) (.ret .normal ⟨[(0,(.ptr 0 0)),(1,(aI (a1.States.getD s1.1.toNat default).Initial))],[(1,(.arr 1 a3.length (cF dI x4))),(0,(.cells (g27 a1++([(aI a2),(.arr 1 1 a3.length),(z104o0_1 a1 s1)]:List AV))))],[1136],1216⟩ (.inl ((a1.States.getD s1.1.toNat default).Initial,x4,(s1.2.2++(a1.States.getD s1.1.toNat default).Entry))) ⟨rfl,(wk (idn [0,1]) [(0,1136)])⟩))))))))))))
noncomputable def m104o0 (a0:Int) (a1:T27) (a2:Int) (a3:List Int) (a4:List (List UInt8)):Option (Int×(List Int)×(List (List UInt8))):=(d104o0 a0 a1 a2 a3 a4).m
theorem po104o0 {a0:Int} {a1:T27} {a2:Int} {a3:List Int} {a4:List (List UInt8)} {r:Int×(List Int)×(List (List UInt8))} (h:m104o0 a0 a1 a2 a3 a4=some r):ObjF Tryz.prog 104 [(.ptr 0 0),(aI a0)] [(1,(.arr 1 a3.length (cF dI a3))),(0,(.cells (g27 a1++([(aI a2),(.arr 1 1 a3.length),(.ap 1 a4.length (cF D.str a4) (.tok 0 9))]:List AV))))] [0] (q104o0 a0 a1 a2 a3 a4 r):=obj_jd (d104o0 a0 a1 a2 a3 a4) Tryz.func104 h
noncomputable abbrev z56o0_0 (a2:T27) (a3:Int) (a4:List Int) (a5:List (List UInt8)):Ob:=(.cells (g27 a2++([(aI a3),(.arr 1 1 a4.length),(.ap 1 a5.length (cF D.str a5) (.tok 0 9))]:List AV)))
noncomputable def q56o0 (a0 a1:Int) (a2:T27) (a3:Int) (a4:List Int) (a5:List (List UInt8)) (y:Int×(List Int)×(List (List UInt8))):OF:=⟨(.tup []),[(1,(.arr 1 a4.length (cF dI y.2.1))),(0,(.cells (g27 a2++([(aI y.1),(.arr 1 1 a4.length),(.ap 1 y.2.2.length (cF D.str y.2.2) (.tok 384 9))]:List AV))))],[384]⟩
noncomputable def o56o0_0 (y3:(List Int)) (x:Unit):OT:=⟨(.fn 137 [(.ptr 336 0)]),[],[],[(336,(.cells [(.d (eSl 1 dI y3))]))],[]⟩
noncomputable def o56o0_1 (a2:T27) (a4:List Int) (x:(Int×(List Int)×(List (List UInt8)))):OT:=⟨(.tup []),[0,1],[0],[(1,(.arr 1 a4.length (cF dI x.2.1))),(0,(.cells (g27 a2++([(aI x.1),(.arr 1 1 a4.length),(.ap 1 x.2.2.length (cF D.str x.2.2) (.tok 384 9))]:List AV))))],[384]⟩
noncomputable def s56o0_0 (a0 a1:Int) (a2:T27) (a3:Int) (a4:List Int) (a5:List (List UInt8)) (y:Unit):St:=⟨[(0,(.ptr 0 0)),(1,(aI a0)),(2,(aI a1)),(3,(.ptr 16 0))],[(1,(.arr 1 a4.length (cF dI a4))),(0,(z56o0_0 a2 a3 a4 a5)),(16,(.cells [(.ptr 0 0)]))],[0],32⟩
noncomputable def s56o0_1 (a0 a1:Int) (a2:T27) (a3:Int) (a4:List Int) (a5:List (List UInt8)) (y:(List Int)):St:=⟨[(0,(.ptr 0 0)),(1,(aI a0)),(2,(aI a1)),(3,(.ptr 16 0)),(6,(.d (eSl 1 dI y)))],[(1,(.arr 1 a4.length (cF dI a4))),(0,(z56o0_0 a2 a3 a4 a5)),(16,(.cells [(.ptr 0 0)]))],[0],160⟩
noncomputable def s56o0_2 (a0 a1:Int) (a2:T27) (a3:Int) (a4:List Int) (a5:List (List UInt8)) (y2:(List Int)) (y:(List Int)):St:=⟨[(0,(.ptr 0 0)),(1,(aI a0)),(3,(.ptr 16 0)),(6,(.d (eSl 1 dI y)))],[(1,(.arr 1 a4.length (cF dI a4))),(0,(z56o0_0 a2 a3 a4 a5)),(16,(.cells [(.ptr 0 0)]))],[0],320⟩
noncomputable def s56o0_3 (a0 a1:Int) (a2:T27) (a3:Int) (a4:List Int) (a5:List (List UInt8)) (y2 y3:(List Int)) (y:Unit):St:=⟨[(0,(.ptr 0 0)),(1,(aI a0)),(3,(.ptr 16 0)),(26,(.fn 137 [(.ptr 336 0)]))],[(1,(.arr 1 a4.length (cF dI a4))),(0,(z56o0_0 a2 a3 a4 a5)),(16,(.cells [(.ptr 0 0)])),(336,(.cells [(.d (eSl 1 dI y3))]))],[0],352⟩
noncomputable def h56o0_6 (a0 a1:Int) (a2:T27) (a3:Int) (a4:List Int) (a5:List (List UInt8)) (y2 y3:(List Int)) (y:(List Int)×(List (List UInt8))):St:=⟨[(0,(.ptr 0 0)),(1,(aI a0)),(3,(.ptr 16 0))],[(1,(.arr 1 a4.length (cF dI y.1))),(0,(.cells (g27 a2++([(aI a3),(.arr 1 1 a4.length),(.ap 1 y.2.length (cF D.str y.2) (.tok 0 9))]:List AV)))),(16,(.cells [(.ptr 0 0)]))],[0],352⟩
noncomputable def d56o0_0 (a0 a1:Int) (a2:T27) (a3:Int) (a4:List Int) (a5:List (List UInt8)):JD Tryz.prog 35 (sub (body Tryz.f56) [0]) ⟨argA 0 [(.ptr 0 0),(aI a0),(aI a1)],[(1,(.arr 1 a4.length (cF dI a4))),(0,(z56o0_0 a2 a3 a4 a5))],[0],16⟩ (fun y=>go (s56o0_0 a0 a1 a2 a3 a4 a5 y)) :=
 (.sg [] [(0,[0,1,2,3],[1,0,16])] (.ret .normal _ () ⟨rfl,Weak.refl _⟩))
noncomputable def d56o0_1 (a0 a1:Int) (a2:T27) (a3:Int) (a4:List Int) (a5:List (List UInt8)):JD Tryz.prog 35 (sub (body Tryz.f56) [1,0]) (s56o0_0 a0 a1 a2 a3 a4 a5 ()) (fun y=>go (s56o0_1 a0 a1 a2 a3 a4 a5 y)) :=
 (.sg [(1,tm1 15 (eSl 1 dI))] [(0,[0,1,2,3,6],[1,0,16])] (.exi ((List Int)) ((m70 a2 a0).bind fun r1_0=>(if(0:Int)≤(1:Int)then(if 1≤(r1_0.length:Int)then some r1_0 else none)else none)) (fun x1=>(.p (PureAt Tryz.prog 70 [(e27 a2),(dI a0)] (eSl 1 dI x1)) (.p ((0:Int)≤(1:Int)) (.p (1≤(x1.length:Int)) (.fin 0))))) (by intro x1 h;obtain⟨r1_0,h1,h⟩:=Option.bind_eq_some_iff.1 h;obtain⟨h2,h⟩:=if_some h;obtain⟨h3,h⟩:=if_some h;cases h;exact⟨p70 h1,h2,h3,trivial⟩) (fun x1 _=>(.ret .normal ⟨[(0,(.ptr 0 0)),(1,(aI a0)),(2,(aI a1)),(3,(.ptr 16 0)),(6,(.d (.sl 1 (x1.length - (1:Int).toNat) (fun i=>cF dI x1 ((1:Int).toNat+i)))))],[(1,(.arr 1 a4.length (cF dI a4))),(0,(z56o0_0 a2 a3 a4 a5)),(16,(.cells [(.ptr 0 0)]))],[0],160⟩ (subL x1 (1:Int).toNat (x1.length - (1:Int).toNat)) ⟨rfl,(wh (idn [0,16,1]) [(0,0)] ⟨⟨rfl,rfl⟩,dr,dr,⟨rfl,rfl⟩,de_sub⟩)⟩))))
noncomputable def d56o0_2 (a0 a1:Int) (a2:T27) (a3:Int) (a4:List Int) (a5:List (List UInt8)) (y2:(List Int)):JD Tryz.prog 35 (sub (body Tryz.f56) [1,1,0]) (s56o0_1 a0 a1 a2 a3 a4 a5 y2) (fun y=>go (s56o0_2 a0 a1 a2 a3 a4 a5 y2 y)) :=
 (.sg [(2,tm1 19 dI)] [(0,[0,1,3,6],[1,0,16])] (c3 (@p101 y2 a1) fun x2=>(.ite (decide (0≤x2)) (nd (0≤x2) (nd (x2≤(y2.length:Int)) (.ret .normal ⟨[(0,(.ptr 0 0)),(1,(aI a0)),(3,(.ptr 16 0)),(6,(.d (.sl 1 x2.toNat (cF dI y2))))],[(1,(.arr 1 a4.length (cF dI a4))),(0,(z56o0_0 a2 a3 a4 a5)),(16,(.cells [(.ptr 0 0)]))],[0],320⟩ (subL y2 0 x2.toNat) ⟨rfl,(wh (idn [0,16,1]) [(0,0)] ⟨⟨rfl,rfl⟩,dr,⟨rfl,rfl⟩,de_sub0⟩)⟩))) (.ret .normal ⟨[(0,(.ptr 0 0)),(1,(aI a0)),(3,(.ptr 16 0)),(6,(.d (eSl 1 dI y2)))],[(1,(.arr 1 a4.length (cF dI a4))),(0,(z56o0_0 a2 a3 a4 a5)),(16,(.cells [(.ptr 0 0)]))],[0],256⟩ y2 ⟨rfl,(wk (idn [0,16,1]) [(0,0)])⟩))))
noncomputable def d56o0_3 (a0 a1:Int) (a2:T27) (a3:Int) (a4:List Int) (a5:List (List UInt8)) (y2 y3:(List Int)):JD Tryz.prog 35 (sub (body Tryz.f56) [1,1,1,0,0]) (s56o0_2 a0 a1 a2 a3 a4 a5 y2 y3) (fun y=>go (s56o0_3 a0 a1 a2 a3 a4 a5 y2 y3 y)) :=
 (.sg [(5,⟨Unit,fun x=>[],fun x=>[(336,(o56o0_0 y3 x))],[]⟩)] [(0,[0,1,3,26],[1,0,16,336])] (c3 (p:=fun x5=>ObjL Tryz.prog 102 [(.d (eSl 1 dI y3))] [] 336 (o56o0_0 y3 x5)) (fun x5 (h1:m102o0 y3=some _)=>ok [] [] [(336,16)] [] (po102o0 h1)) fun x5=>(.ret .normal _ () ⟨rfl,Weak.refl _⟩)))
noncomputable def d56o0_p (a0 a1:Int) (a2:T27) (a3:Int) (a4:List Int) (a5:List (List UInt8)) (y2 y3:(List Int)) (s5:(List Int)×(List (List UInt8))):JD Tryz.prog 35 (sub (body Tryz.f56) [1,1,1,1]) (h56o0_6 a0 a1 a2 a3 a4 a5 y2 y3 s5) (fun r ex st=>isN ex=true∧RetO Tryz.prog Tryz.f56.results.toList st (q56o0 a0 a1 a2 a3 a4 a5 r)) :=
 (.sg [(8,⟨(Int×(List Int)×(List (List UInt8))),fun x=>[],fun x=>[(384,(o56o0_1 a2 a4 x))],[]⟩)] [(0,[0],[0,1])] (c3 (p:=fun x8=>ObjL Tryz.prog 104 [(.ptr 0 0),(aI a0)] [(0,some (.cells (g27 a2++([(aI a3),(.arr 1 1 a4.length),(.ap 1 s5.2.length (cF D.str s5.2) (.tok 0 9))]:List AV)))),(1,some (.arr 1 a4.length (cF dI s5.1)))] 384 (o56o0_1 a2 a4 x8)) (fun x8 (h1:m104o0 a0 a2 a3 (subL s5.1 0 a4.length) s5.2=some _)=>objL_of (po104o0 h1) [(0,0),(1,1)] [(0,0)] [(0,0),(1,1)] [(384,1280)] (by kernel_rfl) ⟨⟨rfl,rfl⟩,dr,trivial⟩ ⟨⟨_,_,rfl,rfl,⟨rfl,de_sub0⟩⟩,⟨_,_,rfl,rfl,⟨dr,dr,dr,dr,dr,dr,dr,⟨rfl,rfl,(len_of (sz:=1) (e:=dI) (f:=(cF dI s5.1)) (l:=(subL s5.1 0 a4.length)) de_sub0)⟩,⟨rfl,rfl,rfl,dr⟩,trivial⟩⟩⟩ (by kernel_rfl) trivial ⟨⟨_,_,rfl,rfl,⟨rfl,(de_len (Eq.symm (len_of (sz:=1) (e:=dI) (f:=(cF dI s5.1)) (l:=(subL s5.1 0 a4.length)) de_sub0)))⟩⟩,⟨_,_,rfl,rfl,⟨dr,dr,dr,dr,dr,dr,dr,⟨rfl,rfl,(Eq.symm (len_of (sz:=1) (e:=dI) (f:=(cF dI s5.1)) (l:=(subL s5.1 0 a4.length)) de_sub0))⟩,⟨rfl,rfl,rfl,dr⟩,trivial⟩⟩⟩) fun x8=>(.ret .normal ⟨[(0,(.ptr 0 0))],[(0,(.cells (g27 a2++([(aI x8.1),(.arr 1 1 a4.length),(.ap 1 x8.2.2.length (cF D.str x8.2.2) (.tok 384 9))]:List AV)))),(1,(.arr 1 a4.length (cF dI x8.2.1)))],[384],400⟩ (x8.1,x8.2.1,x8.2.2) ⟨rfl,(rk (idn [0,1]) [(384,384)] 400)⟩)))
noncomputable def mr56o0 (a0 a1:Int) (a2:T27) (a3:Int) (a4:List Int) (a5:List (List UInt8)) (y2 y3:(List Int)) (s5:(List Int)×(List (List UInt8))) (i:Nat):Option ((List Int)×(List (List UInt8))):=(m103o0 (y3.getD i 0) a2 a3 (subL s5.1 0 a4.length) s5.2).map fun r=>(r,(s5.2++(a2.States.getD (y3.getD i 0).toNat default).Entry))
noncomputable def m56o0 (a0 a1:Int) (a2:T27) (a3:Int) (a4:List Int) (a5:List (List UInt8)):Option (Int×(List Int)×(List (List UInt8))):=((d56o0_0 a0 a1 a2 a3 a4 a5).m).bind fun y1=>((d56o0_1 a0 a1 a2 a3 a4 a5).m).bind fun y2=>((d56o0_2 a0 a1 a2 a3 a4 a5 y2).m).bind fun y3=>((d56o0_3 a0 a1 a2 a3 a4 a5 y2 y3).m).bind fun y4=>if y3.length < 4611686018427387904 then((dn y3.length y3.length).foldlM (mr56o0 a0 a1 a2 a3 a4 a5 y2 y3) (a4,a5)).bind fun s5=>(d56o0_p a0 a1 a2 a3 a4 a5 y2 y3 s5).m else none
theorem po56o0 {a0:Int} {a1:Int} {a2:T27} {a3:Int} {a4:List Int} {a5:List (List UInt8)} {r:Int×(List Int)×(List (List UInt8))} (h:m56o0 a0 a1 a2 a3 a4 a5=some r):ObjF Tryz.prog 56 [(.ptr 0 0),(aI a0),(aI a1)] [(1,(.arr 1 a4.length (cF dI a4))),(0,(z56o0_0 a2 a3 a4 a5))] [0] (q56o0 a0 a1 a2 a3 a4 a5 r):=by
 refine obj_range (c:=body Tryz.f56) (p0:=(sub (body Tryz.f56) [0])) (p1:=(sub (body Tryz.f56) [1,0])) (p2:=(sub (body Tryz.f56) [1,1,0])) (p3:=(sub (body Tryz.f56) [1,1,1,0,0])) (asg:=rfAsg (sub (body Tryz.f56) [1,1,1,0,1,0])) (bod:=rfBod (sub (body Tryz.f56) [1,1,1,0,1,0])) (post:=(sub (body Tryz.f56) [1,1,1,1])) (bi:=0) (g:=26) (ps:=#[27,28]) (fB:=137) (bx:=336) (nx:=352) (ids:=[0,16])
  Tryz.func56 (by kernel_rfl) (by decide) (Nat.le_of_ble_eq_true rfl) (by kernel_rfl) rfl (by kernel_rfl)
  (m0:=(d56o0_0 a0 a1 a2 a3 a4 a5).m) (st1:=fun y1=>s56o0_0 a0 a1 a2 a3 a4 a5 y1) (fun V=>(d56o0_0 a0 a1 a2 a3 a4 a5).j V) (m1:=fun y1=>(d56o0_1 a0 a1 a2 a3 a4 a5).m) (st2:=fun y1 y2=>s56o0_1 a0 a1 a2 a3 a4 a5 y2) (fun V y1=>(d56o0_1 a0 a1 a2 a3 a4 a5).j V) (m2:=fun y1 y2=>(d56o0_2 a0 a1 a2 a3 a4 a5 y2).m) (st3:=fun y1 y2 y3=>s56o0_2 a0 a1 a2 a3 a4 a5 y2 y3) (fun V y1 y2=>(d56o0_2 a0 a1 a2 a3 a4 a5 y2).j V) (m3:=fun y1 y2 y3=>(d56o0_3 a0 a1 a2 a3 a4 a5 y2 y3).m) (sp:=fun y1 y2 y3 y4=>s56o0_3 a0 a1 a2 a3 a4 a5 y2 y3 y4) (fun V y1 y2 y3=>(d56o0_3 a0 a1 a2 a3 a4 a5 y2 y3).j V)
  (fun y1 y2 y3 y4 s5=>h56o0_6 a0 a1 a2 a3 a4 a5 y2 y3 s5) (fun y1 y2 y3 y4=>y3) (fun y1 y2 y3 y4=>(a4,a5)) (fun y1 y2 y3 y4=>mr56o0 a0 a1 a2 a3 a4 a5 y2 y3) (mpost:=fun y1 y2 y3 y4 s5=>(d56o0_p a0 a1 a2 a3 a4 a5 y2 y3 s5).m) (en:=q56o0 a0 a1 a2 a3 a4 a5) (φ:=fun _ _ _ _ _ r=>r) (fr:=fun y1 y2 y3 y4=>[(0,(.ptr 0 0)),(1,(aI a0)),(3,(.ptr 16 0))])
  back_stops ⟨_,Tryz.func137,by kernel_rfl,by decide⟩ (fun _ _ _ _ _=>rfl) (fun _ _ _ _ _=>rfl) (fun _ _ _ _=>by kernel_rfl) (fun _ _ _ _ _=>noMap_of (by kernel_rfl)) ?hround
  (fun _ _ _ _=>rfl) (fun _ _ _ _=>rfl) (fun _ _ _ _=>hst_of (by exact⟨rfl,rfl,rfl⟩) (by kernel_rfl)) (fun _ _ _ _=>rfl) (fun _ _ _ _=>rfl) (fun _ _ _ _=>fr0_of (by exact⟨rfl,rfl,rfl⟩)) (fun V y1 y2 y3 y4 s5=>(d56o0_p a0 a1 a2 a3 a4 a5 y2 y3 s5).j V) (fun _=>noMap_of (by kernel_rfl)) (by
   have e:∀ {α:Type} (o:Option α),o.map (fun r=>r)=o:=fun o=>by cases o<;>rfl
   simp only[e];exact h)
 case hround =>
  intro y1 y2 y3 y4 s5 i s' h hi
  obtain⟨r,h1,rfl⟩:=Option.map_eq_some_iff.1 h
  exact round_call (asg:=rfAsg (sub (body Tryz.f56) [1,1,1,0,1,0])) (bod:=rfBod (sub (body Tryz.f56) [1,1,1,0,1,0])) (oa:=(opN (rfAsg (sub (body Tryz.f56) [1,1,1,0,1,0])) 0)) (o1:=(opN (rfBod (sub (body Tryz.f56) [1,1,1,0,1,0])) 0)) (o2:=(opN (rfBod (sub (body Tryz.f56) [1,1,1,0,1,0])) 1)) (o3:=(opN (rfBod (sub (body Tryz.f56) [1,1,1,0,1,0])) 2)) (ia:=6) (ib:=1) (ir:=7) (tp:=27) (tq:=28) (td:=9) (t3:=3) (d1:=29) (d2:=30) (T:=119) (fp:=103) (st:=(h56o0_6 a0 a1 a2 a3 a4 a5 y2 y3 s5)) (st':=(h56o0_6 a0 a1 a2 a3 a4 a5 y2 y3 (r,(s5.2++(a2.States.getD (y3.getD i 0).toNat default).Entry)))) (bi:=16) (rid:=0) (t:=⟨(.tup []),[0,1],[0],[(1,(.arr 1 a4.length (cF dI r))),(0,(.cells (g27 a2++([(aI a3),(.arr 1 1 a4.length),(.ap 1 (s5.2++(a2.States.getD (y3.getD i 0).toNat default).Entry).length (cF D.str (s5.2++(a2.States.getD (y3.getD i 0).toNat default).Entry)) (.tok 384 9))]:List AV))))],[384]⟩) (cid:=384) (by kernel_rfl) (by kernel_rfl) (by kernel_rfl) (by kernel_rfl) (by kernel_rfl) (by kernel_rfl) (by kernel_rfl) (by kernel_rfl) (by kernel_rfl) (by kernel_rfl) (by kernel_rfl) (ats:=#[119,3]) (by kernel_rfl) (by kernel_rfl) (hT:=Tryz.underlying119) (by kernel_rfl) (by kernel_rfl) (by kernel_rfl) (objL_of (xs:=[.ptr 0 0,.d (.int .i64 (y3.getD i 0))]) (hl:=[(0,some (.cells (g27 a2++([(aI a3),(.arr 1 1 a4.length),(.ap 1 s5.2.length (cF D.str s5.2) (.tok 0 9))]:List AV)))),(1,some (.arr 1 a4.length (cF dI s5.1)))]) (id:=384) (t:=⟨(.tup []),[0,1],[0],[(1,(.arr 1 a4.length (cF dI r))),(0,(.cells (g27 a2++([(aI a3),(.arr 1 1 a4.length),(.ap 1 (s5.2++(a2.States.getD (y3.getD i 0).toNat default).Entry).length (cF D.str (s5.2++(a2.States.getD (y3.getD i 0).toNat default).Entry)) (.tok 384 9))]:List AV))))],[384]⟩) (po103o0 h1) [(0,0),(1,1)] [(0,0)] [(0,0),(1,1)] [(384,288)] (by kernel_rfl) ⟨⟨rfl,rfl⟩,dr,trivial⟩ ⟨⟨_,_,rfl,rfl,⟨rfl,de_sub0⟩⟩,⟨_,_,rfl,rfl,⟨dr,dr,dr,dr,dr,dr,dr,⟨rfl,rfl,(len_of (sz:=1) (e:=dI) (f:=(cF dI s5.1)) (l:=(subL s5.1 0 a4.length)) de_sub0)⟩,⟨rfl,rfl,rfl,dr⟩,trivial⟩⟩⟩ (by kernel_rfl) trivial ⟨⟨_,_,rfl,rfl,⟨rfl,(de_len (Eq.symm (len_of (sz:=1) (e:=dI) (f:=(cF dI s5.1)) (l:=(subL s5.1 0 a4.length)) de_sub0)))⟩⟩,⟨_,_,rfl,rfl,⟨dr,dr,dr,dr,dr,dr,dr,⟨rfl,rfl,(Eq.symm (len_of (sz:=1) (e:=dI) (f:=(cF dI s5.1)) (l:=(subL s5.1 0 a4.length)) de_sub0))⟩,⟨rfl,rfl,rfl,dr⟩,trivial⟩⟩⟩) (by kernel_rfl) (by exact⟨rfl,rfl,trivial⟩) (by kernel_rfl) [(0,0),(16,16),(1,1)] [(0,384)] (by kernel_rfl) (by kernel_rfl) (by kernel_rfl) (by kernel_rfl) (by kernel_rfl) (by exact⟨⟨_,_,rfl,rfl,⟨rfl,dr⟩⟩,⟨_,_,rfl,rfl,⟨dr,dr,dr,dr,dr,dr,dr,⟨rfl,rfl,rfl⟩,⟨rfl,rfl,rfl,dr⟩,trivial⟩⟩,⟨_,_,rfl,rfl,⟨⟨rfl,rfl⟩,trivial⟩⟩⟩)
noncomputable def E58 (r:T41×(List (List UInt8))×Int):D:=(.tup [(e41 r.1),(eSl 1 D.str r.2.1),(dI r.2.2)])
noncomputable def o58_0 (a0:T27) (a1:T41) (x:Unit):OT:=⟨(.ptr 657 0),[],[],[(656,(.arr 1 (a1.Memory.length:Int).toNat (fun i=>if i < a1.Memory.length then(cF dI a1.Memory) i else(fun _=>(dI 0)) i))),(657,(.cells (g27 a0++([(aI a1.Leaf),(.arr 656 1 (a1.Memory.length:Int).toNat),aN]:List AV))))],[]⟩
noncomputable def o58_1 (a0:T27) (a1:T41) (x:((List Int)×(List (List UInt8)))):OT:=⟨(.tup []),[657,656],[],[(656,(.arr 1 (a1.Memory.length:Int).toNat (cF dI x.1))),(657,(.cells (g27 a0++([(aI a1.Leaf),(.arr 656 1 (a1.Memory.length:Int).toNat),(.ap 1 x.2.length (cF D.str x.2) (.tok 832 9))]:List AV))))],[832]⟩
noncomputable def o58_2 (a0:T27) (a1:T41) (x:(Int×(List Int)×(List (List UInt8)))):OT:=⟨(.tup []),[657,656],[960],[(656,(.arr 1 (a1.Memory.length:Int).toNat (cF dI x.2.1))),(657,(.cells (g27 a0++([(aI x.1),(.arr 656 1 (a1.Memory.length:Int).toNat),(.ap 1 x.2.2.length (cF D.str x.2.2) (.tok 1088 9))]:List AV))))],[1088]⟩
noncomputable def d58 (a0:T27) (a1:T41) (a2:Int):JF Tryz.prog Tryz.f58 [(e27 a0),(e41 a1),(dI a2)] E58 :=
 (.sg [(1,tm1 14 dI),(4,tm1 21 D.bool),(9,⟨(List Int)×Bool,fun x=>[(42,(eSl 1 dI x.1)),(45,(.bool x.2))],fun x=>[],[]⟩),(11,⟨Unit,fun x=>[],fun x=>[(656,(o58_0 a0 a1 x))],[]⟩),(12,tm1 56 dI),(13,⟨((List Int)×(List (List UInt8))),fun x=>[],fun x=>[(832,(o58_1 a0 a1 x))],[]⟩),(15,⟨(Int×(List Int)×(List (List UInt8))),fun x=>[],fun x=>[(1088,(o58_2 a0 a1 x))],[]⟩)] [(1,[6,7,8],[48,656])] (c3 (@p35 a0) fun x1=>(.ite (x1 != 0) (.ret .ret ⟨[(6,(.ptr 48 0)),(7,aN),(8,(aI x1))],[(48,(.cells [(aI 0),aN]))],[],256⟩ ((⟨(0:Int),[]⟩:T41),[],x1) ⟨rfl,_,Weak.refl _,⟨⟨dr,de_nil,trivial⟩,de_nil,dr,trivial⟩⟩) (c3 (@p57 a0 a1) fun x4=>(.ite (!x4) (.ret .ret ⟨[(6,(.ptr 48 0)),(7,aN),(8,(aI 8))],[(48,(.cells [(aI 0),aN]))],[],304⟩ ((⟨(0:Int),[]⟩:T41),[],(8:Int)) ⟨rfl,_,Weak.refl _,⟨⟨dr,de_nil,trivial⟩,de_nil,dr,trivial⟩⟩) (.ite ((decide (a2 < 0)) || (decide ((a0.Transitions.length:Int)≤a2))) (.ret .ret ⟨[(6,(.ptr 48 0)),(7,aN),(8,(aI 2))],[(48,(.cells [(aI 0),aN]))],[],448⟩ ((⟨(0:Int),[]⟩:T41),[],(2:Int)) ⟨rfl,_,Weak.refl _,⟨⟨dr,de_nil,trivial⟩,de_nil,dr,trivial⟩⟩) (nd (0≤a2) (nd (a2 < (a0.Transitions.length:Int)) (.exi ((List Int)×Bool) ((m70 a0 a1.Leaf).bind fun r9_0=>((m71 r9_0 (a0.Transitions.getD a2.toNat default).From).bind fun r9_1=>some (r9_0,r9_1))) (fun x9=>(.p (PureAt Tryz.prog 70 [(e27 a0),(dI a1.Leaf)] (eSl 1 dI x9.1)) (.p (PureAt Tryz.prog 71 [(eSl 1 dI x9.1),(dI (a0.Transitions.getD a2.toNat default).From)] (.bool x9.2)) (.fin 0)))) (by intro x9 h;obtain⟨r9_0,h1,h⟩:=Option.bind_eq_some_iff.1 h;obtain⟨r9_1,h2,h⟩:=Option.bind_eq_some_iff.1 h;cases h;exact⟨p70 h1,p71 h2,trivial⟩) (fun x9 _=>(.ite (!x9.2) (.ret .ret ⟨[(6,(.ptr 48 0)),(7,aN),(8,(aI 9))],[(48,(.cells [(aI 0),aN]))],[],688⟩ ((⟨(0:Int),[]⟩:T41),[],(9:Int)) ⟨rfl,_,Weak.refl _,⟨⟨dr,de_nil,trivial⟩,de_nil,dr,trivial⟩⟩) (c3 (p:=fun x11=>ObjL Tryz.prog 54 [(.d (e27 a0)),(.d (e41 a1))] [] 656 (o58_0 a0 a1 x11)) (fun x11 (h1:m54o0 a0 a1=some _)=>ok [] [] [(656,112),(657,304)] [] (po54o0 h1)) fun x11=>(c3 (@p106 a0 (a0.Transitions.getD a2.toNat default).From (a0.Transitions.getD a2.toNat default).To) fun x12=>(c3 (p:=fun x13=>ObjL Tryz.prog 107 [(.ptr 657 0),(aI x12)] [(657,some (.cells (g27 a0++([(aI a1.Leaf),(.arr 656 1 (a1.Memory.length:Int).toNat),aN]:List AV)))),(656,some (.arr 1 (a1.Memory.length:Int).toNat (fun i=>if i < a1.Memory.length then(cF dI a1.Memory) i else(fun _=>(dI 0)) i)))] 832 (o58_1 a0 a1 x13)) (fun x13 (h1:m107o0 x12 a0 a1.Leaf (copyL (List.replicate (a1.Memory.length:Int).toNat (0:Int)) a1.Memory) []=some _)=>objL_of (po107o0 h1) [(0,657),(1,656)] [] [(657,0),(656,1)] [(832,0)] (by kernel_rfl) ⟨⟨rfl,rfl⟩,dr,trivial⟩ ⟨⟨_,_,rfl,rfl,⟨rfl,(de_copy (z:=1) (sz':=1) de_rep dr)⟩⟩,⟨_,_,rfl,rfl,⟨dr,dr,dr,dr,dr,dr,dr,⟨rfl,rfl,(len_of (sz:=1) (e:=dI) (f:=(fun i=>if i < a1.Memory.length then(cF dI a1.Memory) i else(fun _=>(dI 0)) i)) (l:=(copyL (List.replicate (a1.Memory.length:Int).toNat (0:Int)) a1.Memory)) (de_copy (z:=1) (sz':=1) de_rep dr))⟩,rfl,trivial⟩⟩⟩ (by kernel_rfl) trivial ⟨⟨_,_,rfl,rfl,⟨rfl,(de_len (Eq.symm (len_of (sz:=1) (e:=dI) (f:=(fun i=>if i < a1.Memory.length then(cF dI a1.Memory) i else(fun _=>(dI 0)) i)) (l:=(copyL (List.replicate (a1.Memory.length:Int).toNat (0:Int)) a1.Memory)) (de_copy (z:=1) (sz':=1) de_rep dr))))⟩⟩,⟨_,_,rfl,rfl,⟨dr,dr,dr,dr,dr,dr,dr,⟨rfl,rfl,(Eq.symm (len_of (sz:=1) (e:=dI) (f:=(fun i=>if i < a1.Memory.length then(cF dI a1.Memory) i else(fun _=>(dI 0)) i)) (l:=(copyL (List.replicate (a1.Memory.length:Int).toNat (0:Int)) a1.Memory)) (de_copy (z:=1) (sz':=1) de_rep dr)))⟩,⟨rfl,rfl,rfl,dr⟩,trivial⟩⟩⟩) fun x13=>(nd ((x13.2.length+(a0.Transitions.getD a2.toNat default).Actions.length) * 16≤140737488355328) (c3 (p:=fun x15=>ObjL Tryz.prog 56 [(.ptr 657 0),(aI (a0.Transitions.getD a2.toNat default).To),(aI x12)] [(657,some (.cells (g27 a0++([(aI a1.Leaf),(.arr 656 1 (a1.Memory.length:Int).toNat),(.ap 1 (x13.2.length+(a0.Transitions.getD a2.toNat default).Actions.length) (appF x13.2.length (cF D.str x13.2) (cF D.str (a0.Transitions.getD a2.toNat default).Actions)) (.tok 960 9))]:List AV)))),(656,some (.arr 1 (a1.Memory.length:Int).toNat (cF dI x13.1)))] 1088 (o58_2 a0 a1 x15)) (fun x15 (h1:m56o0 (a0.Transitions.getD a2.toNat default).To x12 a0 a1.Leaf (subL x13.1 0 (a1.Memory.length:Int).toNat) (x13.2++(a0.Transitions.getD a2.toNat default).Actions)=some _)=>objL_of (po56o0 h1) [(0,657),(1,656)] [(0,960)] [(657,0),(656,1)] [(1088,384)] (by kernel_rfl) ⟨⟨rfl,rfl⟩,dr,dr,trivial⟩ ⟨⟨_,_,rfl,rfl,⟨rfl,de_sub0⟩⟩,⟨_,_,rfl,rfl,⟨dr,dr,dr,dr,dr,dr,dr,⟨rfl,rfl,(len_of (sz:=1) (e:=dI) (f:=(cF dI x13.1)) (l:=(subL x13.1 0 (a1.Memory.length:Int).toNat)) de_sub0)⟩,⟨rfl,rfl,rfl,(de_app dr dr)⟩,trivial⟩⟩⟩ (by kernel_rfl) trivial ⟨⟨_,_,rfl,rfl,⟨rfl,(de_len (Eq.symm (len_of (sz:=1) (e:=dI) (f:=(cF dI x13.1)) (l:=(subL x13.1 0 (a1.Memory.length:Int).toNat)) de_sub0)))⟩⟩,⟨_,_,rfl,rfl,⟨dr,dr,dr,dr,dr,dr,dr,⟨rfl,rfl,(Eq.symm (len_of (sz:=1) (e:=dI) (f:=(cF dI x13.1)) (l:=(subL x13.1 0 (a1.Memory.length:Int).toNat)) de_sub0))⟩,⟨rfl,rfl,rfl,dr⟩,trivial⟩⟩⟩) fun x15=>(.ret .ret ⟨[(6,(.ptr 48 0)),(7,(.ap 1 x15.2.2.length (cF D.str x15.2.2) (.tok 1088 9))),(8,(aI 0))],[(48,(.cells [(aI x15.1),(.arr 656 1 (a1.Memory.length:Int).toNat)])),(656,(.arr 1 (a1.Memory.length:Int).toNat (cF dI x15.2.1)))],[1088],1280⟩ ((⟨x15.1,(subL x15.2.1 0 (a1.Memory.length:Int).toNat)⟩:T41),x15.2.2,(0:Int)) ⟨rfl,_,(weak_frz (st':=⟨[(6,(.ptr 48 0)),(7,(.ap 1 x15.2.2.length (cF D.str x15.2.2) (.tok 1088 9))),(8,(aI 0))],[(48,(.cells [(aI x15.1),(.d (eSl 1 dI (subL x15.2.1 0 (a1.Memory.length:Int).toNat)))]))],[1088],1280⟩) [(656,1,(a1.Memory.length:Int).toNat,(cF dI x15.2.1))] (by rfl) (by rfl) (by kernel_rfl) (by kernel_rfl) (by exact(rowIs_arr rfl)) (by exact .inr ⟨_,_,rfl,rfl,(.same (.arr (.head _) (Nat.le_refl _) de_sub0 .nil))⟩) (by exact⟨(.same .nil),(.same .nil),(.same .nil)⟩)),⟨dr,dr,dr,trivial⟩⟩)))))))))))))))))
noncomputable def m58 (a0:T27) (a1:T41) (a2:Int):Option (T41×(List (List UInt8))×Int):=(d58 a0 a1 a2).m
theorem p58 {a0:T27} {a1:T41} {a2:Int} {r:T41×(List (List UInt8))×Int} (h:m58 a0 a1 a2=some r):PureAt Tryz.prog 58 [(e27 a0),(e41 a1),(dI a2)] (E58 r):=pure_jd (d58 a0 a1 a2) Tryz.func58 h
noncomputable def E16 (r:T41×(List (List UInt8))×Int):D:=(.tup [(e41 r.1),(eSl 1 D.str r.2.1),(dI r.2.2)])
noncomputable def d16 (a0:T27) (a1:T41) (a2:Int):JF Tryz.prog Tryz.f16 [(e27 a0),(e41 a1),(.int .u16 a2)] E16 :=
 (.sg [(1,tm1 12 dI),(4,tm1 19 D.bool),(6,tm1 24 D.bool),(8,tm1 31 (eSl 1 dI)),(13,tm1 44 (fun(x:(T41×(List (List UInt8))×Int))=>(.tup [(e41 x.1),(eSl 1 D.str x.2.1),(dI x.2.2)])))] [(1,[6,7,8],[48])] (c3 (@p35 a0) fun x1=>(.ite (x1 != 0) (.ret .ret ⟨[(6,(.ptr 48 0)),(7,aN),(8,(aI x1))],[(48,(.cells [(aI 0),aN]))],[],256⟩ ((⟨(0:Int),[]⟩:T41),[],x1) ⟨rfl,_,Weak.refl _,⟨⟨dr,de_nil,trivial⟩,de_nil,dr,trivial⟩⟩) (c3 (@p57 a0 a1) fun x4=>(.ite (!x4) (.ret .ret ⟨[(6,(.ptr 48 0)),(7,aN),(8,(aI 8))],[(48,(.cells [(aI 0),aN]))],[],304⟩ ((⟨(0:Int),[]⟩:T41),[],(8:Int)) ⟨rfl,_,Weak.refl _,⟨⟨dr,de_nil,trivial⟩,de_nil,dr,trivial⟩⟩) (c3 (@p34 a0 a2) fun x6=>(.ite (!x6) (.ret .ret ⟨[(6,(.ptr 48 0)),(7,aN),(8,(aI 1))],[(48,(.cells [(aI 0),aN]))],[],368⟩ ((⟨(0:Int),[]⟩:T41),[],(1:Int)) ⟨rfl,_,Weak.refl _,⟨⟨dr,de_nil,trivial⟩,de_nil,dr,trivial⟩⟩) (c3 (@p33 a0 a1.Leaf a2) fun x8=>(.ite ((x8.length:Int)==(0:Int)) (.ret .ret ⟨[(6,(.ptr 48 0)),(7,aN),(8,(aI 6))],[(48,(.cells [(aI 0),aN]))],[],528⟩ ((⟨(0:Int),[]⟩:T41),[],(6:Int)) ⟨rfl,_,Weak.refl _,⟨⟨dr,de_nil,trivial⟩,de_nil,dr,trivial⟩⟩) (.ite ((x8.length:Int)==(1:Int)) (.exi ((T41×(List (List UInt8))×Int)) (if(0:Int)≤(0:Int)then(if 0 < (x8.length:Int)then((m58 a0 a1 (x8.getD (0:Int).toNat default)).bind fun r13_0=>some r13_0)else none)else none) (fun x13=>(.p ((0:Int)≤(0:Int)) (.p (0 < (x8.length:Int)) (.p (PureAt Tryz.prog 58 [(e27 a0),(e41 a1),(dI (x8.getD (0:Int).toNat default))] (.tup [(e41 x13.1),(eSl 1 D.str x13.2.1),(dI x13.2.2)])) (.fin 0))))) (by intro x13 h;obtain⟨h1,h⟩:=if_some h;obtain⟨h2,h⟩:=if_some h;obtain⟨r13_0,h3,h⟩:=Option.bind_eq_some_iff.1 h;cases h;exact⟨h1,h2,p58 h3,trivial⟩) (fun x13 _=>(.ret .ret ⟨[(6,(.ptr 48 0)),(7,(.d (eSl 1 D.str x13.2.1))),(8,(aI x13.2.2))],[(48,(.cells (g41 x13.1)))],[],688⟩ (x13.1,x13.2.1,x13.2.2) ⟨rfl,_,Weak.refl _,⟨dr,dr,dr,trivial⟩⟩))) (.ret .ret ⟨[(6,(.ptr 48 0)),(7,aN),(8,(aI 11))],[(48,(.cells [(aI 0),aN]))],[],560⟩ ((⟨(0:Int),[]⟩:T41),[],(11:Int)) ⟨rfl,_,Weak.refl _,⟨⟨dr,de_nil,trivial⟩,de_nil,dr,trivial⟩⟩)))))))))))
noncomputable def m16 (a0:T27) (a1:T41) (a2:Int):Option (T41×(List (List UInt8))×Int):=(d16 a0 a1 a2).m
theorem p16 {a0:T27} {a1:T41} {a2:Int} {r:T41×(List (List UInt8))×Int} (h:m16 a0 a1 a2=some r):PureAt Tryz.prog 16 [(e27 a0),(e41 a1),(.int .u16 a2)] (E16 r):=pure_jd (d16 a0 a1 a2) Tryz.func16 h
noncomputable abbrev z19_0 (y10:T27×T27×T27×Int×Int×Int):AV:=(.d (.agg [(.str y10.1.Name),(eSl 1 D.str y10.1.Conds),(eSl 1 (eSl 2 e151) y10.1.Never),(eSl 6 e76 y10.1.States),(dI y10.1.Start),(eSl 4 e78 y10.1.Transitions),(.str y10.2.1.Name),(eSl 1 D.str y10.2.1.Conds),(eSl 1 (eSl 2 e151) y10.2.1.Never),(eSl 6 e76 y10.2.1.States),(dI y10.2.1.Start),(eSl 4 e78 y10.2.1.Transitions),(.str y10.2.2.1.Name),(eSl 1 D.str y10.2.2.1.Conds),(eSl 1 (eSl 2 e151) y10.2.2.1.Never),(eSl 6 e76 y10.2.2.1.States),(dI y10.2.2.1.Start),(eSl 4 e78 y10.2.2.1.Transitions)]))
noncomputable abbrev z19_1:Ob:=(.cells [(.d (.int .u8 0)),(.d (.int .u8 0)),(.d (.int .u8 0))])
noncomputable abbrev z19_2 (y10:T27×T27×T27×Int×Int×Int):Ob:=(.cells [(.d (.int .u16 y10.2.2.2.1)),(.d (.int .u16 y10.2.2.2.2.1)),(.d (.int .u16 y10.2.2.2.2.2))])
noncomputable abbrev z19_3:Ob:=(.cells [(aS ([]:List UInt8)),aN,aN,aN,(aI 0),aN,(aS ([]:List UInt8)),aN,aN,aN,(aI 0),aN,(aS ([]:List UInt8)),aN,aN,aN,(aI 0),aN])
noncomputable abbrev z19_4:Ob:=(.cells [(.d (.int .u16 0)),(.d (.int .u16 0)),(.d (.int .u16 0))])
noncomputable abbrev z19_5 (y13:(List (List UInt8))×Int):Ob:=(.cells [(.d (.int .u8 y13.2)),(.d (.int .u8 0)),(.d (.int .u8 0))])
noncomputable abbrev z19_6 (y3:T27×Int):Ob:=(.cells [(.d (.int .u16 y3.2)),(.d (.int .u16 0)),(.d (.int .u16 0))])
noncomputable abbrev z19_7 (y13:(List (List UInt8))×Int) (y16:(List (List UInt8))×Int):Ob:=(.cells [(.d (.int .u8 y13.2)),(.d (.int .u8 y16.2)),(.d (.int .u8 0))])
noncomputable abbrev z19_8 (y3:T27×Int) (y6:T27×Int):Ob:=(.cells [(.d (.int .u16 y3.2)),(.d (.int .u16 y6.2)),(.d (.int .u16 0))])
noncomputable abbrev z19_9 (y3:T27×Int):Ob:=(.cells (g27 y3.1++([(aS ([]:List UInt8)),aN,aN,aN,(aI 0),aN,(aS ([]:List UInt8)),aN,aN,aN,(aI 0),aN]:List AV)))
noncomputable abbrev z19_a (y1:Int×Bool×T27):Ob:=(.cells (g27 y1.2.2++([(aS ([]:List UInt8)),aN,aN,aN,(aI 0),aN,(aS ([]:List UInt8)),aN,aN,aN,(aI 0),aN]:List AV)))
noncomputable abbrev z19_b (y13:(List (List UInt8))×Int):AV:=(.ap 1 y13.1.length (cF D.str y13.1) (.tok 2592 9))
noncomputable abbrev z19_c (y16:(List (List UInt8))×Int):AV:=(.ap 1 y16.1.length (cF D.str y16.1) (.tok 3328 9))
noncomputable abbrev z19_d (a1:Int):List (Nat×AV):=[(1,(.d (.int .u32 a1))),(4,(.ptr 32 0)),(7,(.ptr 320 0)),(8,(.ptr 352 0)),(9,(.ptr 368 0)),(38,(aI 0))]
noncomputable abbrev z19_e (a1:Int):List (Nat×AV):=[(1,(.d (.int .u32 a1))),(4,(.ptr 32 0)),(7,(.ptr 320 0)),(8,(.ptr 352 0)),(9,(.ptr 368 0)),(38,(aI 1))]
noncomputable abbrev z19_f (a1:Int):List (Nat×AV):=[(1,(.d (.int .u32 a1))),(4,(.ptr 32 0)),(7,(.ptr 320 0)),(8,(.ptr 352 0)),(9,(.ptr 368 0)),(38,(aI 2))]
noncomputable abbrev z19_g (y3:T27×Int) (y6:T27×Int):Ob:=(.cells (g27 y3.1++g27 y6.1++([(aS ([]:List UInt8)),aN,aN,aN,(aI 0),aN]:List AV)))
noncomputable abbrev z19_h (y3:T27×Int) (y4:Int×Bool×T27):Ob:=(.cells (g27 y3.1++g27 y4.2.2++([(aS ([]:List UInt8)),aN,aN,aN,(aI 0),aN]:List AV)))
noncomputable def E19 (r:T49×(List (List UInt8))×Int):D:=(.tup [(e49 r.1),(eSl 1 D.str r.2.1),(dI r.2.2)])
noncomputable def d19 (a0:T49) (a1:Int):JF Tryz.prog Tryz.f19 [(e49 a0),(.int .u32 a1)] E19 :=
 (.sq 6 [(1,tm1 22 D.bool),(3,tm1 26 (eSl 1 D.str))] [(1,[4,5,6],[32]),(0,[1,4,7,8,9],[32,320,352,368])] (fun(_:Unit)=>⟨[(1,(.d (.int .u32 a1))),(4,(.ptr 32 0)),(7,(.ptr 320 0)),(8,(.ptr 352 0)),(9,(.ptr 368 0))],[(32,z19_1),(320,(.cells (g49 a0))),(352,z19_3),(368,z19_4)],[],384⟩) (c3 (@p23 a0) fun x1=>(.ite (!x1) (.ret .ret ⟨[(4,(.ptr 32 0)),(5,aN),(6,(aI 8))],[(32,z19_1)],[],192⟩ (.inr (((⟨(0:Int),(0:Int),(0:Int)⟩:T49),[],(8:Int)))) ⟨rfl,rfl,_,Weak.refl _,⟨dr,de_nil,dr,trivial⟩⟩) (.exi ((List (List UInt8))) ((m24 ).bind fun r3_0=>(if 0≤(r3_0.length:Int)then some r3_0 else none)) (fun x3=>(.p (PureAt Tryz.prog 24 [] (eSl 1 D.str x3)) (.p (0≤(x3.length:Int)) (.fin 0)))) (by intro x3 h;obtain⟨r3_0,h1,h⟩:=Option.bind_eq_some_iff.1 h;obtain⟨h2,h⟩:=if_some h;cases h;exact⟨p24 h1,h2,trivial⟩) (fun x3 _=>(.ite ((Int.fdiv a1 (2 ^ (min (x3.length:Int).toNat (IntKind.bits .u32)))) != 0) (.ret .ret ⟨[(4,(.ptr 32 0)),(5,aN),(6,(aI 1))],[(32,z19_1)],[],272⟩ (.inr (((⟨(0:Int),(0:Int),(0:Int)⟩:T49),[],(1:Int)))) ⟨rfl,rfl,_,Weak.refl _,⟨dr,de_nil,dr,trivial⟩⟩) (.nx ())))))) (fun _=>(.sc (fun(y10:T27×T27×T27×Int×Int×Int)=>⟨[(4,(.ptr 32 0)),(7,(.ptr 320 0)),(8,(.ptr 352 0)),(9,(.ptr 368 0))],[(32,z19_1),(320,(.cells (g49 a0))),(352,(.cells (g27 y10.1++g27 y10.2.1++g27 y10.2.2.1))),(368,(z19_2 y10))],[],1856⟩) (.sq 1 [] [(0,[1,4,7,8,9,38],[32,320,352,368])] (fun(_:Unit)=>⟨(z19_d a1),[(32,z19_1),(320,(.cells (g49 a0))),(352,z19_3),(368,z19_4)],[],400⟩) (.nx ()) (fun _=>(.bk (.lu 4 (.r (fun(y3:T27×Int)=>⟨(z19_e a1),[(32,z19_1),(320,(.cells (g49 a0))),(352,(z19_9 y3)),(368,(z19_6 y3))],[],880⟩) (.sq 1 [] [(0,[1,4,7,8,9,38,39],[32,320,352,368])] (fun(_:Unit)=>⟨[(1,(.d (.int .u32 a1))),(4,(.ptr 32 0)),(7,(.ptr 320 0)),(8,(.ptr 352 0)),(9,(.ptr 368 0)),(38,(aI 0)),(39,(aB true))],[(32,z19_1),(320,(.cells (g49 a0))),(352,z19_3),(368,z19_4)],[],416⟩) (.nx ()) (fun _=>(.sc (fun(_:Unit)=>⟨(z19_d a1),[(32,z19_1),(320,(.cells (g49 a0))),(352,z19_3),(368,z19_4)],[],416⟩) (.ct (.sg [] [(0,[1,4,7,8,9,38],[32,320,352,368])] (.nx ()))) fun _=>(.sc (fun(y2:T27×Int)=>⟨(z19_d a1),[(32,z19_1),(320,(.cells (g49 a0))),(352,(.cells (g27 y2.1++([(aS ([]:List UInt8)),aN,aN,aN,(aI 0),aN,(aS ([]:List UInt8)),aN,aN,aN,(aI 0),aN]:List AV)))),(368,(.cells [(.d (.int .u16 y2.2)),(.d (.int .u16 0)),(.d (.int .u16 0))]))],[],848⟩) (.bk (.sq 3 [(11,tm1 45 (fun(x:(T27×Int))=>(.tup [(e27 x.1),(dI x.2)]))),(12,tm1 54 (fun(x:(Int×Bool))=>(.tup [(.int .u16 x.1),(.bool x.2)])))] [(0,[1,4,7,8,9,10,11,12,38],[32,320,352,368])] (fun(y1:Int×Bool×T27)=>⟨[(1,(.d (.int .u32 a1))),(4,(.ptr 32 0)),(7,(.ptr 320 0)),(8,(.ptr 352 0)),(9,(.ptr 368 0)),(10,(aI 0)),(11,(.d (.int .u16 y1.1))),(12,(aB y1.2.1)),(38,(aI 0))],[(32,z19_1),(320,(.cells (g49 a0))),(352,(z19_a y1)),(368,z19_4)],[],752⟩) (c3 (@p20 (1:Int)) fun x11=>(c3 (@p61 x11.1 a1) fun x12=>(.nx (x12.1,x12.2,x11.1)))) (fun y1=>(.sc (fun(_:Unit)=>⟨[(1,(.d (.int .u32 a1))),(4,(.ptr 32 0)),(7,(.ptr 320 0)),(8,(.ptr 352 0)),(9,(.ptr 368 0)),(10,(aI 0)),(11,(.d (.int .u16 y1.1))),(38,(aI 0))],[(32,z19_1),(320,(.cells (g49 a0))),(352,(z19_a y1)),(368,z19_4)],[],784⟩) (.sq 1 [] [(0,[1,4,7,8,9,10,11,38,58],[32,320,352,368])] (fun(_:Unit)=>⟨[(1,(.d (.int .u32 a1))),(4,(.ptr 32 0)),(7,(.ptr 320 0)),(8,(.ptr 352 0)),(9,(.ptr 368 0)),(10,(aI 0)),(11,(.d (.int .u16 y1.1))),(38,(aI 0)),(58,(aB (!y1.2.1)))],[(32,z19_1),(320,(.cells (g49 a0))),(352,(z19_a y1)),(368,z19_4)],[],784⟩) (.nx ()) (fun _=>(.cd (!y1.2.1) (.sg [] [(1,[4,5,6],[32])] (.ret .ret ⟨[(4,(.ptr 32 0)),(5,aN),(6,(aI 11))],[(32,z19_1)],[],848⟩ (.inr (.inr (.inr (.inr (((⟨(0:Int),(0:Int),(0:Int)⟩:T49),[],(11:Int))))))) ⟨rfl,rfl,rfl,rfl,rfl,_,Weak.refl _,⟨dr,de_nil,dr,trivial⟩⟩)) (.sg [] [(0,[1,4,7,8,9,10,11,38],[32,320,352,368])] (.nx ()))))) fun _=>(.sg [] [(0,[1,4,7,8,9,38],[32,320,352,368])] (.ret .normal _ (.inl (y1.2.2,y1.1)) ⟨rfl,Weak.refl _⟩)))))) fun y2=>(.sg [] [(0,[1,4,7,8,9,38],[32,320,352,368])] (.nx (y2.1,y2.2))))))) fun y3=>(.r (fun(y6:T27×Int)=>⟨(z19_f a1),[(32,z19_1),(320,(.cells (g49 a0))),(352,(z19_g y3 y6)),(368,(z19_8 y3 y6))],[],1360⟩) (.sq 1 [] [(0,[1,4,7,8,9,38,39],[32,320,352,368])] (fun(_:Unit)=>⟨[(1,(.d (.int .u32 a1))),(4,(.ptr 32 0)),(7,(.ptr 320 0)),(8,(.ptr 352 0)),(9,(.ptr 368 0)),(38,(aI 1)),(39,(aB true))],[(32,z19_1),(320,(.cells (g49 a0))),(352,(z19_9 y3)),(368,(z19_6 y3))],[],896⟩) (.nx ()) (fun _=>(.sc (fun(_:Unit)=>⟨(z19_e a1),[(32,z19_1),(320,(.cells (g49 a0))),(352,(z19_9 y3)),(368,(z19_6 y3))],[],896⟩) (.ct (.sg [] [(0,[1,4,7,8,9,38],[32,320,352,368])] (.nx ()))) fun _=>(.sc (fun(y5:T27×Int)=>⟨(z19_e a1),[(32,z19_1),(320,(.cells (g49 a0))),(352,(.cells (g27 y3.1++g27 y5.1++([(aS ([]:List UInt8)),aN,aN,aN,(aI 0),aN]:List AV)))),(368,(.cells [(.d (.int .u16 y3.2)),(.d (.int .u16 y5.2)),(.d (.int .u16 0))]))],[],1328⟩) (.bk (.sq 3 [(11,tm1 45 (fun(x:(T27×Int))=>(.tup [(e27 x.1),(dI x.2)]))),(12,tm1 54 (fun(x:(Int×Bool))=>(.tup [(.int .u16 x.1),(.bool x.2)])))] [(0,[1,4,7,8,9,10,11,12,38],[32,320,352,368])] (fun(y4:Int×Bool×T27)=>⟨[(1,(.d (.int .u32 a1))),(4,(.ptr 32 0)),(7,(.ptr 320 0)),(8,(.ptr 352 0)),(9,(.ptr 368 0)),(10,(aI 1)),(11,(.d (.int .u16 y4.1))),(12,(aB y4.2.1)),(38,(aI 1))],[(32,z19_1),(320,(.cells (g49 a0))),(352,(z19_h y3 y4)),(368,(z19_6 y3))],[],1232⟩) (c3 (@p20 (2:Int)) fun x11=>(c3 (@p61 x11.1 a1) fun x12=>(.nx (x12.1,x12.2,x11.1)))) (fun y4=>(.sc (fun(_:Unit)=>⟨[(1,(.d (.int .u32 a1))),(4,(.ptr 32 0)),(7,(.ptr 320 0)),(8,(.ptr 352 0)),(9,(.ptr 368 0)),(10,(aI 1)),(11,(.d (.int .u16 y4.1))),(38,(aI 1))],[(32,z19_1),(320,(.cells (g49 a0))),(352,(z19_h y3 y4)),(368,(z19_6 y3))],[],1264⟩) (.sq 1 [] [(0,[1,4,7,8,9,10,11,38,58],[32,320,352,368])] (fun(_:Unit)=>⟨[(1,(.d (.int .u32 a1))),(4,(.ptr 32 0)),(7,(.ptr 320 0)),(8,(.ptr 352 0)),(9,(.ptr 368 0)),(10,(aI 1)),(11,(.d (.int .u16 y4.1))),(38,(aI 1)),(58,(aB (!y4.2.1)))],[(32,z19_1),(320,(.cells (g49 a0))),(352,(z19_h y3 y4)),(368,(z19_6 y3))],[],1264⟩) (.nx ()) (fun _=>(.cd (!y4.2.1) (.sg [] [(1,[4,5,6],[32])] (.ret .ret ⟨[(4,(.ptr 32 0)),(5,aN),(6,(aI 11))],[(32,z19_1)],[],1328⟩ (.inr (.inr (.inr (.inr (((⟨(0:Int),(0:Int),(0:Int)⟩:T49),[],(11:Int))))))) ⟨rfl,rfl,rfl,rfl,rfl,_,Weak.refl _,⟨dr,de_nil,dr,trivial⟩⟩)) (.sg [] [(0,[1,4,7,8,9,10,11,38],[32,320,352,368])] (.nx ()))))) fun _=>(.sg [] [(0,[1,4,7,8,9,38],[32,320,352,368])] (.ret .normal _ (.inl (y4.2.2,y4.1)) ⟨rfl,Weak.refl _⟩)))))) fun y5=>(.sg [] [(0,[1,4,7,8,9,38],[32,320,352,368])] (.nx (y5.1,y5.2))))))) fun y6=>(.r (fun(y9:T27×Int)=>⟨[(1,(.d (.int .u32 a1))),(4,(.ptr 32 0)),(7,(.ptr 320 0)),(8,(.ptr 352 0)),(9,(.ptr 368 0)),(38,(aI 3))],[(32,z19_1),(320,(.cells (g49 a0))),(352,(.cells (g27 y3.1++g27 y6.1++g27 y9.1))),(368,(.cells [(.d (.int .u16 y3.2)),(.d (.int .u16 y6.2)),(.d (.int .u16 y9.2))]))],[],1840⟩) (.sq 1 [] [(0,[1,4,7,8,9,38,39],[32,320,352,368])] (fun(_:Unit)=>⟨[(1,(.d (.int .u32 a1))),(4,(.ptr 32 0)),(7,(.ptr 320 0)),(8,(.ptr 352 0)),(9,(.ptr 368 0)),(38,(aI 2)),(39,(aB true))],[(32,z19_1),(320,(.cells (g49 a0))),(352,(z19_g y3 y6)),(368,(z19_8 y3 y6))],[],1376⟩) (.nx ()) (fun _=>(.sc (fun(_:Unit)=>⟨(z19_f a1),[(32,z19_1),(320,(.cells (g49 a0))),(352,(z19_g y3 y6)),(368,(z19_8 y3 y6))],[],1376⟩) (.ct (.sg [] [(0,[1,4,7,8,9,38],[32,320,352,368])] (.nx ()))) fun _=>(.sc (fun(y8:T27×Int)=>⟨(z19_f a1),[(32,z19_1),(320,(.cells (g49 a0))),(352,(.cells (g27 y3.1++g27 y6.1++g27 y8.1))),(368,(.cells [(.d (.int .u16 y3.2)),(.d (.int .u16 y6.2)),(.d (.int .u16 y8.2))]))],[],1808⟩) (.bk (.sq 3 [(11,tm1 45 (fun(x:(T27×Int))=>(.tup [(e27 x.1),(dI x.2)]))),(12,tm1 54 (fun(x:(Int×Bool))=>(.tup [(.int .u16 x.1),(.bool x.2)])))] [(0,[1,4,7,8,9,10,11,12,38],[32,320,352,368])] (fun(y7:Int×Bool×T27)=>⟨[(1,(.d (.int .u32 a1))),(4,(.ptr 32 0)),(7,(.ptr 320 0)),(8,(.ptr 352 0)),(9,(.ptr 368 0)),(10,(aI 2)),(11,(.d (.int .u16 y7.1))),(12,(aB y7.2.1)),(38,(aI 2))],[(32,z19_1),(320,(.cells (g49 a0))),(352,(.cells (g27 y3.1++g27 y6.1++g27 y7.2.2))),(368,(z19_8 y3 y6))],[],1712⟩) (c3 (@p20 (3:Int)) fun x11=>(c3 (@p61 x11.1 a1) fun x12=>(.nx (x12.1,x12.2,x11.1)))) (fun y7=>(.sc (fun(_:Unit)=>⟨[(1,(.d (.int .u32 a1))),(4,(.ptr 32 0)),(7,(.ptr 320 0)),(8,(.ptr 352 0)),(9,(.ptr 368 0)),(10,(aI 2)),(11,(.d (.int .u16 y7.1))),(38,(aI 2))],[(32,z19_1),(320,(.cells (g49 a0))),(352,(.cells (g27 y3.1++g27 y6.1++g27 y7.2.2))),(368,(z19_8 y3 y6))],[],1744⟩) (.sq 1 [] [(0,[1,4,7,8,9,10,11,38,58],[32,320,352,368])] (fun(_:Unit)=>⟨[(1,(.d (.int .u32 a1))),(4,(.ptr 32 0)),(7,(.ptr 320 0)),(8,(.ptr 352 0)),(9,(.ptr 368 0)),(10,(aI 2)),(11,(.d (.int .u16 y7.1))),(38,(aI 2)),(58,(aB (!y7.2.1)))],[(32,z19_1),(320,(.cells (g49 a0))),(352,(.cells (g27 y3.1++g27 y6.1++g27 y7.2.2))),(368,(z19_8 y3 y6))],[],1744⟩) (.nx ()) (fun _=>(.cd (!y7.2.1) (.sg [] [(1,[4,5,6],[32])] (.ret .ret ⟨[(4,(.ptr 32 0)),(5,aN),(6,(aI 11))],[(32,z19_1)],[],1808⟩ (.inr (.inr (.inr (.inr (((⟨(0:Int),(0:Int),(0:Int)⟩:T49),[],(11:Int))))))) ⟨rfl,rfl,rfl,rfl,rfl,_,Weak.refl _,⟨dr,de_nil,dr,trivial⟩⟩)) (.sg [] [(0,[1,4,7,8,9,10,11,38],[32,320,352,368])] (.nx ()))))) fun _=>(.sg [] [(0,[1,4,7,8,9,38],[32,320,352,368])] (.ret .normal _ (.inl (y7.2.2,y7.1)) ⟨rfl,Weak.refl _⟩)))))) fun y8=>(.sg [] [(0,[1,4,7,8,9,38],[32,320,352,368])] (.nx (y8.1,y8.2))))))) fun y9=>(.z (.sq 1 [] [(0,[1,4,7,8,9,38,39],[32,320,352,368])] (fun(_:Unit)=>⟨[(1,(.d (.int .u32 a1))),(4,(.ptr 32 0)),(7,(.ptr 320 0)),(8,(.ptr 352 0)),(9,(.ptr 368 0)),(38,(aI 3)),(39,(aB false))],[(32,z19_1),(320,(.cells (g49 a0))),(352,(.cells (g27 y3.1++g27 y6.1++g27 y9.1))),(368,(.cells [(.d (.int .u16 y3.2)),(.d (.int .u16 y6.2)),(.d (.int .u16 y9.2))]))],[],1856⟩) (.nx ()) (fun _=>(.se (.ce (.sg [] [(2,[4,7,8,9],[32,320,352,368])] (.ret (.exit 0) _ (.inr (.inr (.inl (y3.1,y6.1,y9.1,y3.2,y6.2,y9.2)))) ⟨rfl,rfl,rfl,Weak.refl _⟩)))))))))))))) fun y10=>(.sq 2 [] [(0,[4,7,8,9,13,14],[32,320,352,368,1856])] (fun(_:Unit)=>⟨[(4,(.ptr 32 0)),(7,(.ptr 320 0)),(8,(.ptr 352 0)),(9,(.ptr 368 0)),(13,(.ptr 1856 0)),(14,aN)],[(32,z19_1),(320,(.cells (g49 a0))),(352,(.cells (g27 y10.1++g27 y10.2.1++g27 y10.2.2.1))),(368,(z19_2 y10)),(1856,z19_1)],[],1888⟩) (.nx ()) (fun _=>(.sc (fun(y20:(List (List UInt8))×Int×Int×Int)=>⟨[(4,(.ptr 32 0)),(13,(.ptr 1856 0)),(14,(.ap 1 y20.1.length (cF D.str y20.1) (.tok 4064 9)))],[(32,z19_1),(1856,(.cells [(.d (.int .u8 y20.2.1)),(.d (.int .u8 y20.2.2.1)),(.d (.int .u8 y20.2.2.2))]))],[4064],4144⟩) (.sq 1 [] [(0,[4,7,9,13,14,64,65],[32,320,368,1856])] (fun(_:Unit)=>⟨[(4,(.ptr 32 0)),(7,(.ptr 320 0)),(9,(.ptr 368 0)),(13,(.ptr 1856 0)),(14,aN),(64,(z19_0 y10)),(65,(aI 0))],[(32,z19_1),(320,(.cells (g49 a0))),(368,(z19_2 y10)),(1856,z19_1)],[],1920⟩) (.nx ()) (fun _=>(.bk (.lu 4 (.r (fun(y13:(List (List UInt8))×Int)=>⟨[(4,(.ptr 32 0)),(7,(.ptr 320 0)),(9,(.ptr 368 0)),(13,(.ptr 1856 0)),(14,(z19_b y13)),(64,(z19_0 y10)),(65,(aI 1))],[(32,z19_1),(320,(.cells (g49 a0))),(368,(z19_2 y10)),(1856,(z19_5 y13))],[2592],2656⟩) (.sq 1 [] [(0,[4,7,9,13,14,64,65,66],[32,320,368,1856])] (fun(_:Unit)=>⟨[(4,(.ptr 32 0)),(7,(.ptr 320 0)),(9,(.ptr 368 0)),(13,(.ptr 1856 0)),(14,aN),(64,(z19_0 y10)),(65,(aI 0)),(66,(aB true))],[(32,z19_1),(320,(.cells (g49 a0))),(368,(z19_2 y10)),(1856,z19_1)],[],1936⟩) (.nx ()) (fun _=>(.sc (fun(_:Unit)=>⟨[(4,(.ptr 32 0)),(7,(.ptr 320 0)),(9,(.ptr 368 0)),(13,(.ptr 1856 0)),(14,aN),(64,(z19_0 y10)),(65,(aI 0))],[(32,z19_1),(320,(.cells (g49 a0))),(368,(z19_2 y10)),(1856,z19_1)],[],1936⟩) (.ct (.sg [] [(0,[4,7,9,13,14,64,65],[32,320,368,1856])] (.nx ()))) fun _=>(.sc (fun(y12:(List (List UInt8))×Int)=>⟨[(4,(.ptr 32 0)),(7,(.ptr 320 0)),(9,(.ptr 368 0)),(13,(.ptr 1856 0)),(14,(.ap 1 y12.1.length (cF D.str y12.1) (.tok 2592 9))),(64,(z19_0 y10)),(65,(aI 0))],[(32,z19_1),(320,(.cells (g49 a0))),(368,(z19_2 y10)),(1856,(.cells [(.d (.int .u8 y12.2)),(.d (.int .u8 0)),(.d (.int .u8 0))]))],[2592],2624⟩) (.bk (.sq 3 [(22,tm1 77 (eSl 1 dI)),(23,tm1 85 (fun(x:(T41×(List (List UInt8))×Int))=>(.tup [(e41 x.1),(eSl 1 D.str x.2.1),(dI x.2.2)])))] [(0,[4,7,9,13,14,15,18,19,20,64,65],[32,320,368,1856,2368])] (fun(y11:(List (List UInt8))×Int×T41)=>⟨[(4,(.ptr 32 0)),(7,(.ptr 320 0)),(9,(.ptr 368 0)),(13,(.ptr 1856 0)),(14,aN),(15,(aI 0)),(18,(.ptr 2368 0)),(19,(.d (eSl 1 D.str y11.1))),(20,(aI y11.2.1)),(64,(z19_0 y10)),(65,(aI 0))],[(32,z19_1),(320,(.cells (g49 a0))),(368,(z19_2 y10)),(1856,z19_1),(2368,(.cells (g41 y11.2.2)))],[],2432⟩) (c2 (@p55 ([(-1:Int)]:List Int) (y10.1.States.length:Int)) [(.sl 1 1 (litF [(dI (-1))])),(dI (y10.1.States.length:Int))] (dq ⟨(de_lit rfl rfl),dr,trivial⟩) fun x22=>(c3 (@p16 y10.1 (⟨(IntKind.wrap .i64 (a0.Lateral)),x22⟩:T41) y10.2.2.2.1) fun x23=>(.ret .normal ⟨[(4,(.ptr 32 0)),(7,(.ptr 320 0)),(9,(.ptr 368 0)),(13,(.ptr 1856 0)),(14,aN),(15,(aI 0)),(18,(.ptr 2368 0)),(19,(.d (eSl 1 D.str x23.2.1))),(20,(aI x23.2.2)),(64,(z19_0 y10)),(65,(aI 0))],[(32,z19_1),(320,(.cells (g49 a0))),(368,(z19_2 y10)),(1856,z19_1),(2368,(.cells (g41 x23.1)))],[2080],2432⟩ (.inl (x23.2.1,x23.2.2,x23.1)) ⟨rfl,(wk (idn [32,320,368,1856,2368]) [])⟩))) (fun y11=>(.sc (fun(_:Unit)=>⟨[(4,(.ptr 32 0)),(7,(.ptr 320 0)),(9,(.ptr 368 0)),(13,(.ptr 1856 0)),(14,aN),(15,(aI 0)),(18,(.ptr 2368 0)),(19,(.d (eSl 1 D.str y11.1))),(64,(z19_0 y10)),(65,(aI 0))],[(32,z19_1),(320,(.cells (g49 a0))),(368,(z19_2 y10)),(1856,z19_1),(2368,(.cells (g41 y11.2.2)))],[],2464⟩) (.sq 1 [] [(0,[4,7,9,13,14,15,18,19,20,64,65,90],[32,320,368,1856,2368])] (fun(_:Unit)=>⟨[(4,(.ptr 32 0)),(7,(.ptr 320 0)),(9,(.ptr 368 0)),(13,(.ptr 1856 0)),(14,aN),(15,(aI 0)),(18,(.ptr 2368 0)),(19,(.d (eSl 1 D.str y11.1))),(20,(aI y11.2.1)),(64,(z19_0 y10)),(65,(aI 0)),(90,(aB (y11.2.1 != 0)))],[(32,z19_1),(320,(.cells (g49 a0))),(368,(z19_2 y10)),(1856,z19_1),(2368,(.cells (g41 y11.2.2)))],[],2464⟩) (.nx ()) (fun _=>(.cd (y11.2.1 != 0) (.sg [] [(1,[4,5,6],[32])] (.ret .ret ⟨[(4,(.ptr 32 0)),(5,aN),(6,(aI y11.2.1))],[(32,z19_1)],[],2544⟩ (.inr (.inr (.inr (.inr (((⟨(0:Int),(0:Int),(0:Int)⟩:T49),[],y11.2.1)))))) ⟨rfl,rfl,rfl,rfl,rfl,_,Weak.refl _,⟨dr,de_nil,dr,trivial⟩⟩)) (.sg [] [(0,[4,7,9,13,14,15,18,19,64,65],[32,320,368,1856,2368])] (.nx ()))))) fun _=>(.sg [] [(0,[4,7,9,13,14,64,65],[32,320,368,1856])] (nd (y11.1.length * 16≤140737488355328) (.ret .normal _ (.inl (y11.1,(IntKind.wrap .u8 (y11.2.2.Leaf)))) ⟨rfl,Weak.refl _⟩))))))) fun y12=>(.sg [] [(0,[4,7,9,13,14,64,65],[32,320,368,1856])] (.nx (y12.1,y12.2))))))) fun y13=>(.r (fun(y16:(List (List UInt8))×Int)=>⟨[(4,(.ptr 32 0)),(7,(.ptr 320 0)),(9,(.ptr 368 0)),(13,(.ptr 1856 0)),(14,(z19_c y16)),(64,(z19_0 y10)),(65,(aI 2))],[(32,z19_1),(320,(.cells (g49 a0))),(368,(z19_2 y10)),(1856,(z19_7 y13 y16))],[3328],3392⟩) (.sq 1 [] [(0,[4,7,9,13,14,64,65,66],[32,320,368,1856])] (fun(_:Unit)=>⟨[(4,(.ptr 32 0)),(7,(.ptr 320 0)),(9,(.ptr 368 0)),(13,(.ptr 1856 0)),(14,(z19_b y13)),(64,(z19_0 y10)),(65,(aI 1)),(66,(aB true))],[(32,z19_1),(320,(.cells (g49 a0))),(368,(z19_2 y10)),(1856,(z19_5 y13))],[2592],2672⟩) (.nx ()) (fun _=>(.sc (fun(_:Unit)=>⟨[(4,(.ptr 32 0)),(7,(.ptr 320 0)),(9,(.ptr 368 0)),(13,(.ptr 1856 0)),(14,(z19_b y13)),(64,(z19_0 y10)),(65,(aI 1))],[(32,z19_1),(320,(.cells (g49 a0))),(368,(z19_2 y10)),(1856,(z19_5 y13))],[2592],2672⟩) (.ct (.sg [] [(0,[4,7,9,13,14,64,65],[32,320,368,1856])] (.nx ()))) fun _=>(.sc (fun(y15:(List (List UInt8))×Int)=>⟨[(4,(.ptr 32 0)),(7,(.ptr 320 0)),(9,(.ptr 368 0)),(13,(.ptr 1856 0)),(14,(.ap 1 y15.1.length (cF D.str y15.1) (.tok 3328 9))),(64,(z19_0 y10)),(65,(aI 1))],[(32,z19_1),(320,(.cells (g49 a0))),(368,(z19_2 y10)),(1856,(.cells [(.d (.int .u8 y13.2)),(.d (.int .u8 y15.2)),(.d (.int .u8 0))]))],[3328],3360⟩) (.bk (.sq 3 [(22,tm1 77 (eSl 1 dI)),(23,tm1 85 (fun(x:(T41×(List (List UInt8))×Int))=>(.tup [(e41 x.1),(eSl 1 D.str x.2.1),(dI x.2.2)])))] [(0,[4,7,9,13,14,15,18,19,20,64,65],[32,320,368,1856,3104])] (fun(y14:(List (List UInt8))×Int×T41)=>⟨[(4,(.ptr 32 0)),(7,(.ptr 320 0)),(9,(.ptr 368 0)),(13,(.ptr 1856 0)),(14,(z19_b y13)),(15,(aI 1)),(18,(.ptr 3104 0)),(19,(.d (eSl 1 D.str y14.1))),(20,(aI y14.2.1)),(64,(z19_0 y10)),(65,(aI 1))],[(32,z19_1),(320,(.cells (g49 a0))),(368,(z19_2 y10)),(1856,(z19_5 y13)),(3104,(.cells (g41 y14.2.2)))],[2592],3168⟩) (c2 (@p55 ([(-1:Int)]:List Int) (y10.2.1.States.length:Int)) [(.sl 1 1 (litF [(dI (-1))])),(dI (y10.2.1.States.length:Int))] (dq ⟨(de_lit rfl rfl),dr,trivial⟩) fun x22=>(c3 (@p16 y10.2.1 (⟨(IntKind.wrap .i64 (a0.Vertical)),x22⟩:T41) y10.2.2.2.2.1) fun x23=>(.ret .normal ⟨[(4,(.ptr 32 0)),(7,(.ptr 320 0)),(9,(.ptr 368 0)),(13,(.ptr 1856 0)),(14,(z19_b y13)),(15,(aI 1)),(18,(.ptr 3104 0)),(19,(.d (eSl 1 D.str x23.2.1))),(20,(aI x23.2.2)),(64,(z19_0 y10)),(65,(aI 1))],[(32,z19_1),(320,(.cells (g49 a0))),(368,(z19_2 y10)),(1856,(z19_5 y13)),(3104,(.cells (g41 x23.1)))],[2816,2592],3168⟩ (.inl (x23.2.1,x23.2.2,x23.1)) ⟨rfl,(wk (idn [32,320,368,1856,3104]) [(2592,2592)])⟩))) (fun y14=>(.sc (fun(_:Unit)=>⟨[(4,(.ptr 32 0)),(7,(.ptr 320 0)),(9,(.ptr 368 0)),(13,(.ptr 1856 0)),(14,(z19_b y13)),(15,(aI 1)),(18,(.ptr 3104 0)),(19,(.d (eSl 1 D.str y14.1))),(64,(z19_0 y10)),(65,(aI 1))],[(32,z19_1),(320,(.cells (g49 a0))),(368,(z19_2 y10)),(1856,(z19_5 y13)),(3104,(.cells (g41 y14.2.2)))],[2592],3200⟩) (.sq 1 [] [(0,[4,7,9,13,14,15,18,19,20,64,65,90],[32,320,368,1856,3104])] (fun(_:Unit)=>⟨[(4,(.ptr 32 0)),(7,(.ptr 320 0)),(9,(.ptr 368 0)),(13,(.ptr 1856 0)),(14,(z19_b y13)),(15,(aI 1)),(18,(.ptr 3104 0)),(19,(.d (eSl 1 D.str y14.1))),(20,(aI y14.2.1)),(64,(z19_0 y10)),(65,(aI 1)),(90,(aB (y14.2.1 != 0)))],[(32,z19_1),(320,(.cells (g49 a0))),(368,(z19_2 y10)),(1856,(z19_5 y13)),(3104,(.cells (g41 y14.2.2)))],[2592],3200⟩) (.nx ()) (fun _=>(.cd (y14.2.1 != 0) (.sg [] [(1,[4,5,6],[32])] (.ret .ret ⟨[(4,(.ptr 32 0)),(5,aN),(6,(aI y14.2.1))],[(32,z19_1)],[2592],3280⟩ (.inr (.inr (.inr (.inr (((⟨(0:Int),(0:Int),(0:Int)⟩:T49),[],y14.2.1)))))) ⟨rfl,rfl,rfl,rfl,rfl,_,Weak.refl _,⟨dr,de_nil,dr,trivial⟩⟩)) (.sg [] [(0,[4,7,9,13,14,15,18,19,64,65],[32,320,368,1856,3104])] (.nx ()))))) fun _=>(.sg [] [(0,[4,7,9,13,14,64,65],[32,320,368,1856])] (nd ((y13.1.length+y14.1.length) * 16≤140737488355328) (.ret .normal ⟨[(4,(.ptr 32 0)),(7,(.ptr 320 0)),(9,(.ptr 368 0)),(13,(.ptr 1856 0)),(14,(.ap 1 (y13.1.length+y14.1.length) (appF y13.1.length (cF D.str y13.1) (cF D.str y14.1)) (.tok 3328 9))),(64,(z19_0 y10)),(65,(aI 1))],[(32,z19_1),(320,(.cells (g49 a0))),(368,(z19_2 y10)),(1856,(.cells [(.d (.int .u8 y13.2)),(.d (.int .u8 (IntKind.wrap .u8 (y14.2.2.Leaf)))),(.d (.int .u8 0))]))],[3328],3360⟩ (.inl ((y13.1++y14.1),(IntKind.wrap .u8 (y14.2.2.Leaf)))) ⟨rfl,(wh (idn [32,320,368,1856]) [(3328,3328)] ⟨⟨rfl,rfl⟩,⟨rfl,rfl⟩,⟨rfl,rfl⟩,⟨rfl,rfl⟩,⟨rfl,rfl,rfl,(de_app dr dr)⟩,dr,dr⟩)⟩))))))) fun y15=>(.sg [] [(0,[4,7,9,13,14,64,65],[32,320,368,1856])] (.nx (y15.1,y15.2))))))) fun y16=>(.r (fun(y19:(List (List UInt8))×Int)=>⟨[(4,(.ptr 32 0)),(7,(.ptr 320 0)),(9,(.ptr 368 0)),(13,(.ptr 1856 0)),(14,(.ap 1 y19.1.length (cF D.str y19.1) (.tok 4064 9))),(64,(z19_0 y10)),(65,(aI 3))],[(32,z19_1),(320,(.cells (g49 a0))),(368,(z19_2 y10)),(1856,(.cells [(.d (.int .u8 y13.2)),(.d (.int .u8 y16.2)),(.d (.int .u8 y19.2))]))],[4064],4128⟩) (.sq 1 [] [(0,[4,7,9,13,14,64,65,66],[32,320,368,1856])] (fun(_:Unit)=>⟨[(4,(.ptr 32 0)),(7,(.ptr 320 0)),(9,(.ptr 368 0)),(13,(.ptr 1856 0)),(14,(z19_c y16)),(64,(z19_0 y10)),(65,(aI 2)),(66,(aB true))],[(32,z19_1),(320,(.cells (g49 a0))),(368,(z19_2 y10)),(1856,(z19_7 y13 y16))],[3328],3408⟩) (.nx ()) (fun _=>(.sc (fun(_:Unit)=>⟨[(4,(.ptr 32 0)),(7,(.ptr 320 0)),(9,(.ptr 368 0)),(13,(.ptr 1856 0)),(14,(z19_c y16)),(64,(z19_0 y10)),(65,(aI 2))],[(32,z19_1),(320,(.cells (g49 a0))),(368,(z19_2 y10)),(1856,(z19_7 y13 y16))],[3328],3408⟩) (.ct (.sg [] [(0,[4,7,9,13,14,64,65],[32,320,368,1856])] (.nx ()))) fun _=>(.sc (fun(y18:(List (List UInt8))×Int)=>⟨[(4,(.ptr 32 0)),(7,(.ptr 320 0)),(9,(.ptr 368 0)),(13,(.ptr 1856 0)),(14,(.ap 1 y18.1.length (cF D.str y18.1) (.tok 4064 9))),(64,(z19_0 y10)),(65,(aI 2))],[(32,z19_1),(320,(.cells (g49 a0))),(368,(z19_2 y10)),(1856,(.cells [(.d (.int .u8 y13.2)),(.d (.int .u8 y16.2)),(.d (.int .u8 y18.2))]))],[4064],4096⟩) (.bk (.sq 3 [(22,tm1 77 (eSl 1 dI)),(23,tm1 85 (fun(x:(T41×(List (List UInt8))×Int))=>(.tup [(e41 x.1),(eSl 1 D.str x.2.1),(dI x.2.2)])))] [(0,[4,7,9,13,14,15,18,19,20,64,65],[32,320,368,1856,3840])] (fun(y17:(List (List UInt8))×Int×T41)=>⟨[(4,(.ptr 32 0)),(7,(.ptr 320 0)),(9,(.ptr 368 0)),(13,(.ptr 1856 0)),(14,(z19_c y16)),(15,(aI 2)),(18,(.ptr 3840 0)),(19,(.d (eSl 1 D.str y17.1))),(20,(aI y17.2.1)),(64,(z19_0 y10)),(65,(aI 2))],[(32,z19_1),(320,(.cells (g49 a0))),(368,(z19_2 y10)),(1856,(z19_7 y13 y16)),(3840,(.cells (g41 y17.2.2)))],[3328],3904⟩) (c2 (@p55 ([(-1:Int)]:List Int) (y10.2.2.1.States.length:Int)) [(.sl 1 1 (litF [(dI (-1))])),(dI (y10.2.2.1.States.length:Int))] (dq ⟨(de_lit rfl rfl),dr,trivial⟩) fun x22=>(c3 (@p16 y10.2.2.1 (⟨(IntKind.wrap .i64 (a0.Phase)),x22⟩:T41) y10.2.2.2.2.2) fun x23=>(.ret .normal ⟨[(4,(.ptr 32 0)),(7,(.ptr 320 0)),(9,(.ptr 368 0)),(13,(.ptr 1856 0)),(14,(z19_c y16)),(15,(aI 2)),(18,(.ptr 3840 0)),(19,(.d (eSl 1 D.str x23.2.1))),(20,(aI x23.2.2)),(64,(z19_0 y10)),(65,(aI 2))],[(32,z19_1),(320,(.cells (g49 a0))),(368,(z19_2 y10)),(1856,(z19_7 y13 y16)),(3840,(.cells (g41 x23.1)))],[3552,3328],3904⟩ (.inl (x23.2.1,x23.2.2,x23.1)) ⟨rfl,(wk (idn [32,320,368,1856,3840]) [(3328,3328)])⟩))) (fun y17=>(.sc (fun(_:Unit)=>⟨[(4,(.ptr 32 0)),(7,(.ptr 320 0)),(9,(.ptr 368 0)),(13,(.ptr 1856 0)),(14,(z19_c y16)),(15,(aI 2)),(18,(.ptr 3840 0)),(19,(.d (eSl 1 D.str y17.1))),(64,(z19_0 y10)),(65,(aI 2))],[(32,z19_1),(320,(.cells (g49 a0))),(368,(z19_2 y10)),(1856,(z19_7 y13 y16)),(3840,(.cells (g41 y17.2.2)))],[3328],3936⟩) (.sq 1 [] [(0,[4,7,9,13,14,15,18,19,20,64,65,90],[32,320,368,1856,3840])] (fun(_:Unit)=>⟨[(4,(.ptr 32 0)),(7,(.ptr 320 0)),(9,(.ptr 368 0)),(13,(.ptr 1856 0)),(14,(z19_c y16)),(15,(aI 2)),(18,(.ptr 3840 0)),(19,(.d (eSl 1 D.str y17.1))),(20,(aI y17.2.1)),(64,(z19_0 y10)),(65,(aI 2)),(90,(aB (y17.2.1 != 0)))],[(32,z19_1),(320,(.cells (g49 a0))),(368,(z19_2 y10)),(1856,(z19_7 y13 y16)),(3840,(.cells (g41 y17.2.2)))],[3328],3936⟩) (.nx ()) (fun _=>(.cd (y17.2.1 != 0) (.sg [] [(1,[4,5,6],[32])] (.ret .ret ⟨[(4,(.ptr 32 0)),(5,aN),(6,(aI y17.2.1))],[(32,z19_1)],[3328],4016⟩ (.inr (.inr (.inr (.inr (((⟨(0:Int),(0:Int),(0:Int)⟩:T49),[],y17.2.1)))))) ⟨rfl,rfl,rfl,rfl,rfl,_,Weak.refl _,⟨dr,de_nil,dr,trivial⟩⟩)) (.sg [] [(0,[4,7,9,13,14,15,18,19,64,65],[32,320,368,1856,3840])] (.nx ()))))) fun _=>(.sg [] [(0,[4,7,9,13,14,64,65],[32,320,368,1856])] (nd ((y16.1.length+y17.1.length) * 16≤140737488355328) (.ret .normal ⟨[(4,(.ptr 32 0)),(7,(.ptr 320 0)),(9,(.ptr 368 0)),(13,(.ptr 1856 0)),(14,(.ap 1 (y16.1.length+y17.1.length) (appF y16.1.length (cF D.str y16.1) (cF D.str y17.1)) (.tok 4064 9))),(64,(z19_0 y10)),(65,(aI 2))],[(32,z19_1),(320,(.cells (g49 a0))),(368,(z19_2 y10)),(1856,(.cells [(.d (.int .u8 y13.2)),(.d (.int .u8 y16.2)),(.d (.int .u8 (IntKind.wrap .u8 (y17.2.2.Leaf))))]))],[4064],4096⟩ (.inl ((y16.1++y17.1),(IntKind.wrap .u8 (y17.2.2.Leaf)))) ⟨rfl,(wh (idn [32,320,368,1856]) [(4064,4064)] ⟨⟨rfl,rfl⟩,⟨rfl,rfl⟩,⟨rfl,rfl⟩,⟨rfl,rfl⟩,⟨rfl,rfl,rfl,(de_app dr dr)⟩,dr,dr⟩)⟩))))))) fun y18=>(.sg [] [(0,[4,7,9,13,14,64,65],[32,320,368,1856])] (.nx (y18.1,y18.2))))))) fun y19=>(.z (.sq 1 [] [(0,[4,7,9,13,14,64,65,66],[32,320,368,1856])] (fun(_:Unit)=>⟨[(4,(.ptr 32 0)),(7,(.ptr 320 0)),(9,(.ptr 368 0)),(13,(.ptr 1856 0)),(14,(.ap 1 y19.1.length (cF D.str y19.1) (.tok 4064 9))),(64,(z19_0 y10)),(65,(aI 3)),(66,(aB false))],[(32,z19_1),(320,(.cells (g49 a0))),(368,(z19_2 y10)),(1856,(.cells [(.d (.int .u8 y13.2)),(.d (.int .u8 y16.2)),(.d (.int .u8 y19.2))]))],[4064],4144⟩) (.nx ()) (fun _=>(.se (.ce (.sg [] [(4,[4,13,14],[32,1856])] (.ret (.exit 2) _ (.inr (.inr (.inl (y19.1,y13.2,y16.2,y19.2)))) ⟨rfl,rfl,rfl,Weak.refl _⟩)))))))))))))) fun y20=>(.sg [] [(1,[4,5,6],[32])] (.ret .ret ⟨[(4,(.ptr 32 0)),(5,(.ap 1 y20.1.length (cF D.str y20.1) (.tok 4064 9))),(6,(aI 0))],[(32,(.cells [(.d (.int .u8 y20.2.1)),(.d (.int .u8 y20.2.2.1)),(.d (.int .u8 y20.2.2.2))]))],[4064],4320⟩ ((⟨y20.2.1,y20.2.2.1,y20.2.2.2⟩:T49),y20.1,(0:Int)) ⟨rfl,_,Weak.refl _,⟨dr,dr,dr,trivial⟩⟩))))))))
noncomputable def m19 (a0:T49) (a1:Int):Option (T49×(List (List UInt8))×Int):=(d19 a0 a1).m
theorem p19 {a0:T49} {a1:Int} {r:T49×(List (List UInt8))×Int} (h:m19 a0 a1=some r):PureAt Tryz.prog 19 [(e49 a0),(.int .u32 a1)] (E19 r):=pure_jd (d19 a0 a1) Tryz.func19 h
noncomputable def d60 (a0:T49):JF Tryz.prog Tryz.f60 [(e49 a0)] (fun(r:(List UInt8))=>(.str r)) :=
 (.sg [(1,tm1 4 D.bool),(3,⟨(List UInt8)×(List UInt8)×(List UInt8),fun x=>[(8,(.str x.1)),(12,(.str x.2.1)),(17,(.str x.2.2))],fun x=>[],[]⟩)] [(1,[2],[])] (c3 (@p23 a0) fun x1=>(.ite (!x1) (.ret .ret ⟨[(2,(aS ([]:List UInt8)))],[],[],112⟩ ([]:List UInt8) ⟨rfl,_,Weak.refl _,dr⟩) (.exi ((List UInt8)×(List UInt8)×(List UInt8)) ((m63 (1:Int) a0.Lateral).bind fun r3_0=>(if r3_0.length+([32]:List UInt8).length≤9223372036854775807 then((m63 (2:Int) a0.Vertical).bind fun r3_1=>(if(r3_0++([32]:List UInt8)).length+r3_1.length≤9223372036854775807 then(if((r3_0++([32]:List UInt8))++r3_1).length+([32]:List UInt8).length≤9223372036854775807 then((m63 (3:Int) a0.Phase).bind fun r3_2=>(if(((r3_0++([32]:List UInt8))++r3_1)++([32]:List UInt8)).length+r3_2.length≤9223372036854775807 then some (r3_0,r3_1,r3_2)else none))else none)else none))else none)) (fun x3=>(.p (PureAt Tryz.prog 63 [(dI 1),(.int .u8 a0.Lateral)] (.str x3.1)) (.p (x3.1.length+([32]:List UInt8).length≤9223372036854775807) (.p (PureAt Tryz.prog 63 [(dI 2),(.int .u8 a0.Vertical)] (.str x3.2.1)) (.p ((x3.1++([32]:List UInt8)).length+x3.2.1.length≤9223372036854775807) (.p (((x3.1++([32]:List UInt8))++x3.2.1).length+([32]:List UInt8).length≤9223372036854775807) (.p (PureAt Tryz.prog 63 [(dI 3),(.int .u8 a0.Phase)] (.str x3.2.2)) (.p ((((x3.1++([32]:List UInt8))++x3.2.1)++([32]:List UInt8)).length+x3.2.2.length≤9223372036854775807) (.fin 0))))))))) (by intro x3 h;obtain⟨r3_0,h1,h⟩:=Option.bind_eq_some_iff.1 h;obtain⟨h2,h⟩:=if_some h;obtain⟨r3_1,h3,h⟩:=Option.bind_eq_some_iff.1 h;obtain⟨h4,h⟩:=if_some h;obtain⟨h5,h⟩:=if_some h;obtain⟨r3_2,h6,h⟩:=Option.bind_eq_some_iff.1 h;obtain⟨h7,h⟩:=if_some h;cases h;exact⟨p63 h1,h2,p63 h3,h4,h5,p63 h6,h7,trivial⟩) (fun x3 _=>(.ret .ret ⟨[(2,(aS ((((x3.1++([32]:List UInt8))++x3.2.1)++([32]:List UInt8))++x3.2.2)))],[],[],320⟩ ((((x3.1++([32]:List UInt8))++x3.2.1)++([32]:List UInt8))++x3.2.2) ⟨rfl,_,Weak.refl _,dr⟩))))))
noncomputable def m60 (a0:T49):Option ((List UInt8)):=(d60 a0).m
theorem p60 {a0:T49} {r:(List UInt8)} (h:m60 a0=some r):PureAt Tryz.prog 60 [(e49 a0)] (.str r):=pure_jd (d60 a0) Tryz.func60 h
noncomputable def d18:JF Tryz.prog Tryz.f18 [] (fun(r:Bool)=>(.bool r)) :=
 (.sg [(1,⟨T49×(T49×(List (List UInt8))×Int),fun x=>[(8,(e49 x.1)),(9,(.tup [(e49 x.2.1),(eSl 1 D.str x.2.2.1),(dI x.2.2.2)]))],fun x=>[],[]⟩),(2,tm1 15 (fun(x:(T49×(List (List UInt8))×Int))=>(.tup [(e49 x.1),(eSl 1 D.str x.2.1),(dI x.2.2)]))),(3,⟨(List UInt8)×(List UInt8),fun x=>[(20,(.str x.1)),(33,(.str x.2))],fun x=>[],[]⟩)] [(1,[0],[])] (.exi (T49×(T49×(List (List UInt8))×Int)) ((m59 ).bind fun r1_0=>((m19 r1_0 (16385:Int)).bind fun r1_1=>some (r1_0,r1_1))) (fun x1=>(.p (PureAt Tryz.prog 59 [] (e49 x1.1)) (.p (PureAt Tryz.prog 19 [(e49 x1.1),(.int .u32 16385)] (.tup [(e49 x1.2.1),(eSl 1 D.str x1.2.2.1),(dI x1.2.2.2)])) (.fin 0)))) (by intro x1 h;obtain⟨r1_0,h1,h⟩:=Option.bind_eq_some_iff.1 h;obtain⟨r1_1,h2,h⟩:=Option.bind_eq_some_iff.1 h;cases h;exact⟨p59 h1,p19 h2,trivial⟩) (fun x1 _=>(c3 (@p19 x1.2.1 (28:Int)) fun x2=>(.exi ((List UInt8)×(List UInt8)) ((m60 x1.2.1).bind fun r3_0=>((if(((r3_0==([82,79,76,76,32,72,79,76,68,32,84,65,75,69,79,70,70]:List UInt8))&&((x1.2.2.1.length:Int)==(0:Int)))&&(x1.2.2.2==0))=true then m60 x2.1 else some default).bind fun r3_1=>(if(((((r3_0==([82,79,76,76,32,72,79,76,68,32,84,65,75,69,79,70,70]:List UInt8))&&((x1.2.2.1.length:Int)==(0:Int)))&&(x1.2.2.2==0))&&(r3_1==([78,65,86,32,72,79,76,68,32,84,65,75,69,79,70,70]:List UInt8)))&&((x2.2.1.length:Int)==(1:Int)))=true→(0:Int)≤(0:Int)then(if(((((r3_0==([82,79,76,76,32,72,79,76,68,32,84,65,75,69,79,70,70]:List UInt8))&&((x1.2.2.1.length:Int)==(0:Int)))&&(x1.2.2.2==0))&&(r3_1==([78,65,86,32,72,79,76,68,32,84,65,75,69,79,70,70]:List UInt8)))&&((x2.2.1.length:Int)==(1:Int)))=true→0 < (x2.2.1.length:Int)then some (r3_0,r3_1)else none)else none))) (fun x3=>(.p (PureAt Tryz.prog 60 [(e49 x1.2.1)] (.str x3.1)) (.g (((x3.1==([82,79,76,76,32,72,79,76,68,32,84,65,75,69,79,70,70]:List UInt8))&&((x1.2.2.1.length:Int)==(0:Int)))&&(x1.2.2.2==0)) (PureAt Tryz.prog 60 [(e49 x2.1)] (.str x3.2)) (.g (((((x3.1==([82,79,76,76,32,72,79,76,68,32,84,65,75,69,79,70,70]:List UInt8))&&((x1.2.2.1.length:Int)==(0:Int)))&&(x1.2.2.2==0))&&(x3.2==([78,65,86,32,72,79,76,68,32,84,65,75,69,79,70,70]:List UInt8)))&&((x2.2.1.length:Int)==(1:Int))) ((0:Int)≤(0:Int)) (.g (((((x3.1==([82,79,76,76,32,72,79,76,68,32,84,65,75,69,79,70,70]:List UInt8))&&((x1.2.2.1.length:Int)==(0:Int)))&&(x1.2.2.2==0))&&(x3.2==([78,65,86,32,72,79,76,68,32,84,65,75,69,79,70,70]:List UInt8)))&&((x2.2.1.length:Int)==(1:Int))) (0 < (x2.2.1.length:Int)) (.fin 0)))))) (by intro x3 h;obtain⟨r3_0,h1,h⟩:=Option.bind_eq_some_iff.1 h;obtain⟨r3_1,h2,h⟩:=Option.bind_eq_some_iff.1 h;obtain⟨h3,h⟩:=if_some h;obtain⟨h4,h⟩:=if_some h;cases h;exact⟨p60 h1,fun g=>p60 (by rw[if_pos g]at h2;exact h2),h3,h4,trivial⟩) (fun x3 _=>(.ret .ret ⟨[(0,(aB (((((((x3.1==([82,79,76,76,32,72,79,76,68,32,84,65,75,69,79,70,70]:List UInt8))&&((x1.2.2.1.length:Int)==(0:Int)))&&(x1.2.2.2==0))&&(x3.2==([78,65,86,32,72,79,76,68,32,84,65,75,69,79,70,70]:List UInt8)))&&((x2.2.1.length:Int)==(1:Int)))&&((x2.2.1.getD (0:Int).toNat default)==([67,65,80,84,85,82,69,68]:List UInt8)))&&(x2.2.2==0))))],[],[],880⟩ (((((((x3.1==([82,79,76,76,32,72,79,76,68,32,84,65,75,69,79,70,70]:List UInt8))&&((x1.2.2.1.length:Int)==(0:Int)))&&(x1.2.2.2==0))&&(x3.2==([78,65,86,32,72,79,76,68,32,84,65,75,69,79,70,70]:List UInt8)))&&((x2.2.1.length:Int)==(1:Int)))&&((x2.2.1.getD (0:Int).toNat default)==([67,65,80,84,85,82,69,68]:List UInt8)))&&(x2.2.2==0)) ⟨rfl,_,Weak.refl _,dr⟩)))))))
noncomputable def m18:Option (Bool):=(d18 ).m
theorem p18 {r:Bool} (h:m18  = some r):PureAt Tryz.prog 18 [] (.bool r):=pure_jd (d18 ) Tryz.func18 h
noncomputable def q14o0 (a0:T27) (y:Int×(List (List UInt8))×Int×(List Int)):OF:=⟨(.tup [(.d (.agg [(dI y.2.2.1),(eSl 1 dI y.2.2.2)])),(.ap 1 y.2.1.length (cF D.str y.2.1) (.tok 352 9)),(aI y.1)]),[],[352]⟩
noncomputable def o14o0_0 (a0:T27) (x:(List Int)×Unit):OT:=⟨(.ptr 273 0),[],[],[(272,(.arr 1 ((⟨(0:Int),x.1⟩:T41).Memory.length:Int).toNat (fun i=>if i < (⟨(0:Int),x.1⟩:T41).Memory.length then(cF dI (⟨(0:Int),x.1⟩:T41).Memory) i else(fun _=>(dI 0)) i))),(273,(.cells (g27 a0++([(aI (⟨(0:Int),x.1⟩:T41).Leaf),(.arr 272 1 ((⟨(0:Int),x.1⟩:T41).Memory.length:Int).toNat),aN]:List AV))))],[]⟩
noncomputable def o14o0_1 (a0:T27) (x:(Int×(List Int)×(List (List UInt8)))×(List Int)):OT:=⟨(.tup []),[273,272],[],[(272,(.arr 1 ((⟨(0:Int),x.2⟩:T41).Memory.length:Int).toNat (cF dI x.1.2.1))),(273,(.cells (g27 a0++([(aI x.1.1),(.arr 272 1 ((⟨(0:Int),x.2⟩:T41).Memory.length:Int).toNat),(.ap 1 x.1.2.2.length (cF D.str x.1.2.2) (.tok 352 9))]:List AV))))],[352]⟩
noncomputable def d14o0 (a0:T27):JO Tryz.prog Tryz.f14 [(.d (e27 a0))] [] [] (q14o0 a0) :=
 (.sg [(1,tm1 8 dI),(4,⟨(List Int)×Unit,fun x=>[(18,(eSl 1 dI x.1))],fun x=>[(272,(o14o0_0 a0 x))],[]⟩),(5,⟨(Int×(List Int)×(List (List UInt8)))×(List Int),fun x=>[],fun x=>[(352,(o14o0_1 a0 x))],[]⟩)] [(1,[2,3,4],[32,272])] (c3 (@p35 a0) fun x1=>(.ite (x1 != 0) (.ret .ret ⟨[(2,(.ptr 32 0)),(3,aN),(4,(aI x1))],[(32,(.cells [(aI 0),aN]))],[],240⟩ (x1,[],(0:Int),[]) ⟨rfl,(rk [] [] 544)⟩) (.exi ((List Int)×Unit) ((m55 ([(-1:Int)]:List Int) (a0.States.length:Int)).bind fun r4_0=>((m54o0 a0 (⟨(0:Int),r4_0⟩:T41)).bind fun r4_1=>some (r4_0,r4_1))) (fun x4=>(.p (PureAt Tryz.prog 55 [(.sl 1 1 (litF [(dI (-1))])),(dI (a0.States.length:Int))] (eSl 1 dI x4.1)) (.p (ObjL Tryz.prog 54 [(.d (e27 a0)),(.d (.agg [(dI 0),(eSl 1 dI x4.1)]))] [] 272 (o14o0_0 a0 x4)) (.fin 0)))) (by intro x4 h;obtain⟨r4_0,h1,h⟩:=Option.bind_eq_some_iff.1 h;obtain⟨r4_1,h2,h⟩:=Option.bind_eq_some_iff.1 h;cases h;exact⟨pure_de (p55 h1) ⟨(de_lit rfl rfl),dr,trivial⟩,ok [] [] [(272,112),(273,304)] [] (po54o0 h2),trivial⟩) (fun x4 _=>(.exi ((Int×(List Int)×(List (List UInt8)))×(List Int)) ((m56o0 a0.Start (-1:Int) a0 (⟨(0:Int),x4.1⟩:T41).Leaf (copyL (List.replicate ((⟨(0:Int),x4.1⟩:T41).Memory.length:Int).toNat (0:Int)) (⟨(0:Int),x4.1⟩:T41).Memory) []).bind fun r5_0=>some (r5_0,x4.1)) (fun x5=>(.p (ObjL Tryz.prog 56 [(.ptr 273 0),(aI a0.Start),(aI (-1))] [(273,some (.cells (g27 a0++([(aI (⟨(0:Int),x4.1⟩:T41).Leaf),(.arr 272 1 ((⟨(0:Int),x4.1⟩:T41).Memory.length:Int).toNat),aN]:List AV)))),(272,some (.arr 1 ((⟨(0:Int),x4.1⟩:T41).Memory.length:Int).toNat (fun i=>if i < (⟨(0:Int),x4.1⟩:T41).Memory.length then(cF dI (⟨(0:Int),x4.1⟩:T41).Memory) i else(fun _=>(dI 0)) i)))] 352 (o14o0_1 a0 x5)) (.fin 0))) (by intro x5 h;obtain⟨r5_0,h1,h⟩:=Option.bind_eq_some_iff.1 h;cases h;exact⟨objL_of (po56o0 h1) [(0,273),(1,272)] [] [(273,0),(272,1)] [(352,384)] (by kernel_rfl) ⟨⟨rfl,rfl⟩,dr,dr,trivial⟩ ⟨⟨_,_,rfl,rfl,⟨rfl,(de_copy (z:=1) (sz':=1) de_rep dr)⟩⟩,⟨_,_,rfl,rfl,⟨dr,dr,dr,dr,dr,dr,dr,⟨rfl,rfl,(len_of (sz:=1) (e:=dI) (f:=(fun i=>if i < (⟨(0:Int),x4.1⟩:T41).Memory.length then(cF dI (⟨(0:Int),x4.1⟩:T41).Memory) i else(fun _=>(dI 0)) i)) (l:=(copyL (List.replicate ((⟨(0:Int),x4.1⟩:T41).Memory.length:Int).toNat (0:Int)) (⟨(0:Int),x4.1⟩:T41).Memory)) (de_copy (z:=1) (sz':=1) de_rep dr))⟩,rfl,trivial⟩⟩⟩ (by kernel_rfl) trivial ⟨⟨_,_,rfl,rfl,⟨rfl,(de_len (Eq.symm (len_of (sz:=1) (e:=dI) (f:=(fun i=>if i < (⟨(0:Int),x4.1⟩:T41).Memory.length then(cF dI (⟨(0:Int),x4.1⟩:T41).Memory) i else(fun _=>(dI 0)) i)) (l:=(copyL (List.replicate ((⟨(0:Int),x4.1⟩:T41).Memory.length:Int).toNat (0:Int)) (⟨(0:Int),x4.1⟩:T41).Memory)) (de_copy (z:=1) (sz':=1) de_rep dr))))⟩⟩,⟨_,_,rfl,rfl,⟨dr,dr,dr,dr,dr,dr,dr,⟨rfl,rfl,(Eq.symm (len_of (sz:=1) (e:=dI) (f:=(fun i=>if i < (⟨(0:Int),x4.1⟩:T41).Memory.length then(cF dI (⟨(0:Int),x4.1⟩:T41).Memory) i else(fun _=>(dI 0)) i)) (l:=(copyL (List.replicate ((⟨(0:Int),x4.1⟩:T41).Memory.length:Int).toNat (0:Int)) (⟨(0:Int),x4.1⟩:T41).Memory)) (de_copy (z:=1) (sz':=1) de_rep dr)))⟩,⟨rfl,rfl,rfl,dr⟩,trivial⟩⟩⟩,trivial⟩) (fun x5 _=>(.ret .ret ⟨[(2,(.ptr 32 0)),(3,(.ap 1 x5.1.2.2.length (cF D.str x5.1.2.2) (.tok 352 9))),(4,(aI 0))],[(32,(.cells [(aI x5.1.1),(.arr 272 1 ((⟨(0:Int),x5.2⟩:T41).Memory.length:Int).toNat)])),(272,(.arr 1 ((⟨(0:Int),x5.2⟩:T41).Memory.length:Int).toNat (cF dI x5.1.2.1)))],[352,176],544⟩ ((0:Int),x5.1.2.2,x5.1.1,(subL x5.1.2.1 0 ((⟨(0:Int),x5.2⟩:T41).Memory.length:Int).toNat)) ⟨rfl,(retO_frz [(272,1,((⟨(0:Int),x5.2⟩:T41).Memory.length:Int).toNat,(cF dI x5.1.2.1))] [] (l1:=[(.d (.agg [(dI x5.1.1),(eSl 1 dI (subL x5.1.2.1 0 ((⟨(0:Int),x5.2⟩:T41).Memory.length:Int).toNat))])),(.ap 1 x5.1.2.2.length (cF D.str x5.1.2.2) (.tok 352 9)),(aI 0)]) (by rfl) (by kernel_rfl) (by kernel_rfl) (by exact(rowIs_arr rfl)) (by exact trivial) (by exact(.aggD (.same (.arr (.head _) (Nat.le_refl _) de_sub0 .nil)) (.same (.same .nil)))) (retH_of [] [(352,352)] 544 (by kernel_rfl) (by kernel_rfl) (by exact⟨dr,⟨rfl,rfl,rfl,dr⟩,dr,trivial⟩) (by exact trivial)))⟩))))))))
noncomputable def m14o0 (a0:T27):Option (Int×(List (List UInt8))×Int×(List Int)):=(d14o0 a0).m
theorem po14o0 {a0:T27} {r:Int×(List (List UInt8))×Int×(List Int)} (h:m14o0 a0=some r):ObjF Tryz.prog 14 [(.d (e27 a0))] [] [] (q14o0 a0 r):=obj_jd (d14o0 a0) Tryz.func14 h
noncomputable def d117 (a0:T27):JF Tryz.prog Tryz.f117 [(e27 a0)] (fun(r:(List Int))=>(eSl 1 (D.int .u16) r)) :=
 (.sq 2 [] [(0,[1,3],[16])] (fun(_:Unit)=>⟨[(1,(.ptr 16 0)),(3,aN)],[(16,(.cells (g27 a0)))],[],64⟩) (.nx ()) (fun _=>(.sc (fun(y2:(List Int))=>⟨[(3,(.ap 1 y2.length (cF (D.int .u16) y2) (.tok 320 38)))],[],[320],400⟩) (.sq 1 [] [(0,[1,3,8,9],[16])] (fun(_:Unit)=>⟨[(1,(.ptr 16 0)),(3,aN),(8,(aI (IntKind.wrap .i64 ((1:Int) * 2 ^ (min (a0.Conds.length:Int).toNat (IntKind.bits .i64)))))),(9,(aI 0))],[(16,(.cells (g27 a0)))],[],144⟩) (nd (0≤(a0.Conds.length:Int)) (.nx ())) (fun _=>(.bk (.lp (fun(s1:(List Int)×Int)=>⟨[(1,(.ptr 16 0)),(3,(.ap 1 s1.1.length (cF (D.int .u16) s1.1) (.tok 320 38))),(8,(aI (IntKind.wrap .i64 ((1:Int) * 2 ^ (min (a0.Conds.length:Int).toNat (IntKind.bits .i64)))))),(9,(aI s1.2))],[(16,(.cells (g27 a0)))],[320],384⟩) ([],(0:Int)) (wk [(16,16)] []) fun s1=>(.sg [(5,tm1 15 D.bool)] [(0,[1,3,8,9],[16]),(2,[3],[])] (.ite (decide (s1.2 < (IntKind.wrap .i64 ((1:Int) * 2 ^ (min (a0.Conds.length:Int).toNat (IntKind.bits .i64)))))) (c3 (@p34 a0 (IntKind.wrap .u16 (s1.2))) fun x5=>(.ite x5 (nd ((s1.1.length+1) * 2≤140737488355328) (.ret .normal ⟨[(1,(.ptr 16 0)),(3,(.ap 1 (s1.1.length+1) (appF s1.1.length (cF (D.int .u16) s1.1) (litF [(.int .u16 (IntKind.wrap .u16 (s1.2)))])) (.tok 560 38))),(8,(aI (IntKind.wrap .i64 ((1:Int) * 2 ^ (min (a0.Conds.length:Int).toNat (IntKind.bits .i64)))))),(9,(aI (IntKind.wrap .i64 (s1.2+1))))],[(16,(.cells (g27 a0)))],[560,544],624⟩ (.inl ((s1.1++([(IntKind.wrap .u16 (s1.2))]:List Int)),(IntKind.wrap .i64 (s1.2+1)))) ⟨rfl,(wh [(16,16)] [(320,560)] ⟨⟨rfl,rfl⟩,⟨rfl,rfl,rfl,(de_app dr (de_lit rfl rfl))⟩,dr,dr⟩)⟩)) (.ret .normal ⟨[(1,(.ptr 16 0)),(3,(.ap 1 s1.1.length (cF (D.int .u16) s1.1) (.tok 320 38))),(8,(aI (IntKind.wrap .i64 ((1:Int) * 2 ^ (min (a0.Conds.length:Int).toNat (IntKind.bits .i64)))))),(9,(aI (IntKind.wrap .i64 (s1.2+1))))],[(16,(.cells (g27 a0)))],[320],528⟩ (.inl (s1.1,(IntKind.wrap .i64 (s1.2+1)))) ⟨rfl,(wk [(16,16)] [(320,320)])⟩))) (.ret (.exit 0) _ (.inr (.inl s1.1)) ⟨rfl,rfl,Weak.refl _⟩))))))) fun y2=>(.sg [] [(1,[2],[])] (.ret .ret ⟨[(2,(.ap 1 y2.length (cF (D.int .u16) y2) (.tok 320 38)))],[],[320],432⟩ y2 ⟨rfl,_,Weak.refl _,dr⟩)))))
noncomputable def m117 (a0:T27):Option ((List Int)):=(d117 a0).m
theorem p117 {a0:T27} {r:(List Int)} (h:m117 a0=some r):PureAt Tryz.prog 117 [(e27 a0)] (eSl 1 (D.int .u16) r):=pure_jd (d117 a0) Tryz.func117 h
noncomputable def d171 (a0 a1:List Int):JF Tryz.prog Tryz.f171 [(eSl 1 dI a0),(eSl 1 dI a1)] (fun(r:Bool)=>(.bool r)) :=
 (.sq 2 [] [(1,[4],[]),(0,[0,1],[])] (fun(_:Unit)=>⟨[(0,(.d (eSl 1 dI a0))),(1,(.d (eSl 1 dI a1)))],[],[],112⟩) (.ite ((a0.length:Int) != (a1.length:Int)) (.ret .ret ⟨[(4,(aB false))],[],[],128⟩ (.inr (false)) ⟨rfl,rfl,_,Weak.refl _,dr⟩) (.nx ())) (fun _=>(.sc (fun(_:Unit)=>⟨[],[],[],400⟩) (.sq 1 [] [(0,[0,1,12,13],[])] (fun(_:Unit)=>⟨[(0,(.d (eSl 1 dI a0))),(1,(.d (eSl 1 dI a1))),(12,(aI (a0.length:Int))),(13,(aI 0))],[],[],160⟩) (.nx ()) (fun _=>(.bk (.lp (fun(s1:Int)=>⟨[(0,(.d (eSl 1 dI a0))),(1,(.d (eSl 1 dI a1))),(12,(aI (a0.length:Int))),(13,(aI s1))],[],[],384⟩) (0:Int) (wk [] []) fun s1=>(.sg [] [(1,[4],[]),(0,[0,1,12,13],[]),(2,[],[])] (.ite (decide (s1 < (a0.length:Int))) (nd (0≤s1) (nd (s1 < (a0.length:Int)) (nd (0≤s1) (nd (s1 < (a1.length:Int)) (.ite ((a0.getD s1.toNat default) != (a1.getD s1.toNat default)) (.ret .ret ⟨[(4,(aB false))],[],[],592⟩ (.inr (.inr (false))) ⟨rfl,rfl,rfl,_,Weak.refl _,dr⟩) (.ret .normal ⟨[(0,(.d (eSl 1 dI a0))),(1,(.d (eSl 1 dI a1))),(12,(aI (a0.length:Int))),(13,(aI (IntKind.wrap .i64 (s1+1))))],[],[],608⟩ (.inl (IntKind.wrap .i64 (s1+1))) ⟨rfl,(wk [] [])⟩)))))) (.ret (.exit 0) _ (.inr (.inl ())) ⟨rfl,rfl,Weak.refl _⟩))))))) fun _=>(.sg [] [(1,[4],[])] (.ret .ret ⟨[(4,(aB true))],[],[],416⟩ true ⟨rfl,_,Weak.refl _,dr⟩)))))
noncomputable def m171 (a0 a1:List Int):Option (Bool):=(d171 a0 a1).m
theorem p171 {a0:List Int} {a1:List Int} {r:Bool} (h:m171 a0 a1=some r):PureAt Tryz.prog 171 [(eSl 1 dI a0),(eSl 1 dI a1)] (.bool r):=pure_jd (d171 a0 a1) Tryz.func171 h
noncomputable def d158 (a0 a1:T41):JF Tryz.prog Tryz.f158 [(e41 a0),(e41 a1)] (fun(r:Bool)=>(.bool r)) :=
 (.sg [(1,tm1 15 D.bool)] [(1,[4],[])] (.exi (Bool) ((if(a0.Leaf==a1.Leaf)=true then m171 a0.Memory a1.Memory else some default).bind fun r1_0=>some r1_0) (fun x1=>(.g (a0.Leaf==a1.Leaf) (PureAt Tryz.prog 171 [(eSl 1 dI a0.Memory),(eSl 1 dI a1.Memory)] (.bool x1)) (.fin 0))) (by intro x1 h;obtain⟨r1_0,h1,h⟩:=Option.bind_eq_some_iff.1 h;cases h;exact⟨fun g=>p171 (by rw[if_pos g]at h1;exact h1),trivial⟩) (fun x1 _=>(.ret .ret ⟨[(4,(aB ((a0.Leaf==a1.Leaf)&&x1)))],[],[],272⟩ ((a0.Leaf==a1.Leaf)&&x1) ⟨rfl,_,Weak.refl _,dr⟩))))
noncomputable def m158 (a0 a1:T41):Option (Bool):=(d158 a0 a1).m
theorem p158 {a0:T41} {a1:T41} {r:Bool} (h:m158 a0 a1=some r):PureAt Tryz.prog 158 [(e41 a0),(e41 a1)] (.bool r):=pure_jd (d158 a0 a1) Tryz.func158 h
noncomputable def q157o0 (a0 a1:T41) (y:Bool):OF:=⟨(aB y),[(0,(.cells (g41 a1)))],[]⟩
noncomputable def d157o0 (a0 a1:T41):JO Tryz.prog Tryz.f157 [(.d (e41 a0)),(.ptr 0 0)] [(0,(.cells (g41 a1)))] [] (q157o0 a0 a1) :=
 (.sg [(1,tm1 6 D.bool)] [(1,[1,3],[0])] (c3 (@p158 a0 a1) fun x1=>(.ret .ret ⟨[(1,(.ptr 0 0)),(3,(aB x1))],[(0,(.cells (g41 a1)))],[],112⟩ x1 ⟨rfl,(rk [(0,0)] [] 112)⟩)))
noncomputable def m157o0 (a0 a1:T41):Option (Bool):=(d157o0 a0 a1).m
theorem po157o0 {a0:T41} {a1:T41} {r:Bool} (h:m157o0 a0 a1=some r):ObjF Tryz.prog 157 [(.d (e41 a0)),(.ptr 0 0)] [(0,(.cells (g41 a1)))] [] (q157o0 a0 a1 r):=obj_jd (d157o0 a0 a1) Tryz.func157 h
noncomputable def q156o0 (a0:List T41) (a1:T41) (y:Int):OF:=⟨(aI y),[(0,(.cells (g41 a1)))],[]⟩
noncomputable def o156o0_0 (a1:T41) (x:Bool):OT:=⟨(aB x),[0],[],[(0,(.cells (g41 a1)))],[]⟩
noncomputable def d156o0 (a0:List T41) (a1:T41):JO Tryz.prog Tryz.f156 [(.d (eSl 2 e41 a0)),(.fn 157 [(.ptr 0 0)])] [(0,(.cells (g41 a1)))] [] (q156o0 a0 a1) :=
 (.sq 1 [] [(0,[0,1],[0])] (fun(_:Unit)=>⟨[(0,(.d (eSl 2 e41 a0))),(1,(.fn 157 [(.ptr 0 0)]))],[(0,(.cells (g41 a1)))],[],32⟩) (.nx ()) (fun _=>(.sc (fun(_:Unit)=>⟨[(1,(.fn 157 [(.ptr 0 0)]))],[(0,(.cells (g41 a1)))],[],272⟩) (.sq 1 [] [(0,[0,1,7,8],[0])] (fun(_:Unit)=>⟨[(0,(.d (eSl 2 e41 a0))),(1,(.fn 157 [(.ptr 0 0)])),(7,(aI (a0.length:Int))),(8,(aI 0))],[(0,(.cells (g41 a1)))],[],80⟩) (.nx ()) (fun _=>(.bk (.lp (fun(s1:Int)=>⟨[(0,(.d (eSl 2 e41 a0))),(1,(.fn 157 [(.ptr 0 0)])),(7,(aI (a0.length:Int))),(8,(aI s1))],[(0,(.cells (g41 a1)))],[],256⟩) (0:Int) (wk [(0,0)] []) fun s1=>(.sg [(4,⟨Bool,fun x=>[],fun x=>[(384,(o156o0_0 a1 x))],[]⟩)] [(1,[1,4],[0]),(0,[0,1,7,8],[0]),(2,[1],[0])] (.ite (decide (s1 < (a0.length:Int))) (.exi (Bool) (if 0≤s1 then(if s1 < (a0.length:Int)then((m157o0 (a0.getD s1.toNat default) a1).bind fun r4_0=>some r4_0)else none)else none) (fun x4=>(.p (0≤s1) (.p (s1 < (a0.length:Int)) (.p (ObjL Tryz.prog 157 [(.d (.agg [(dI (a0.getD s1.toNat default).Leaf),(eSl 1 dI (a0.getD s1.toNat default).Memory)])),(.ptr 0 0)] [(0,some (.cells (g41 a1)))] 384 (o156o0_0 a1 x4)) (.fin 0))))) (by intro x4 h;obtain⟨h1,h⟩:=if_some h;obtain⟨h2,h⟩:=if_some h;obtain⟨r4_0,h3,h⟩:=Option.bind_eq_some_iff.1 h;cases h;exact⟨h1,h2,ok [(0,0)] [] [(0,0)] [] (po157o0 h3),trivial⟩) (fun x4 _=>(.ite x4 (.ret .ret ⟨[(1,(.fn 157 [(.ptr 0 0)])),(4,(aI s1))],[(0,(.cells (g41 a1)))],[],432⟩ (.inr (.inr (s1))) ⟨rfl,rfl,rfl,(rk [(0,0)] [] 432)⟩) (.ret .normal ⟨[(0,(.d (eSl 2 e41 a0))),(1,(.fn 157 [(.ptr 0 0)])),(7,(aI (a0.length:Int))),(8,(aI (IntKind.wrap .i64 (s1+1))))],[(0,(.cells (g41 a1)))],[],432⟩ (.inl (IntKind.wrap .i64 (s1+1))) ⟨rfl,(wk [(0,0)] [])⟩)))) (.ret (.exit 0) _ (.inr (.inl ())) ⟨rfl,rfl,Weak.refl _⟩))))))) fun _=>(.sg [] [(1,[1,4],[0])] (.ret .ret ⟨[(1,(.fn 157 [(.ptr 0 0)])),(4,(aI (-1)))],[(0,(.cells (g41 a1)))],[],288⟩ (-1:Int) ⟨rfl,(rk [(0,0)] [] 432)⟩)))))
noncomputable def m156o0 (a0:List T41) (a1:T41):Option (Int):=(d156o0 a0 a1).m
theorem po156o0 {a0:List T41} {a1:T41} {r:Int} (h:m156o0 a0 a1=some r):ObjF Tryz.prog 156 [(.d (eSl 2 e41 a0)),(.fn 157 [(.ptr 0 0)])] [(0,(.cells (g41 a1)))] [] (q156o0 a0 a1 r):=obj_jd (d156o0 a0 a1) Tryz.func156 h
noncomputable def o118_0 (a1:T41) (x:Int):OT:=⟨(aI x),[16],[],[(16,(.cells (g41 a1)))],[]⟩
noncomputable def d118 (a0:List T41) (a1:T41):JF Tryz.prog Tryz.f118 [(eSl 2 e41 a0),(e41 a1)] (fun(r:Int)=>(dI r)) :=
 (.sg [(1,⟨Int,fun x=>[],fun x=>[(80,(o118_0 a1 x))],[]⟩)] [(1,[4],[])] (c3 (p:=fun x1=>ObjL Tryz.prog 156 [(.d (eSl 2 e41 a0)),(.fn 157 [(.ptr 16 0)])] [(16,some (.cells (g41 a1)))] 80 (o118_0 a1 x1)) (fun x1 (h1:m156o0 a0 a1=some _)=>ok [(0,16)] [] [(16,0)] [] (po156o0 h1)) fun x1=>(.ret .ret ⟨[(4,(aI x1))],[],[],112⟩ x1 ⟨rfl,_,Weak.refl _,dr⟩)))
noncomputable def m118 (a0:List T41) (a1:T41):Option (Int):=(d118 a0 a1).m
theorem p118 {a0:List T41} {a1:T41} {r:Int} (h:m118 a0 a1=some r):PureAt Tryz.prog 118 [(eSl 2 e41 a0),(e41 a1)] (dI r):=pure_jd (d118 a0 a1) Tryz.func118 h
noncomputable abbrev z68o1_0 (a0:T27) (s2:Int×(List T41)×(List Int)×(List Int)) (y1:(List T41)×(List Int)):Ob:=(.cells (g27 a0++([(.ap 2 s2.2.1.length (cF e41 s2.2.1) (.tok 288 41)),(.ap 1 s2.2.2.1.length (cF dI s2.2.2.1) (.tok 304 3)),(.ap 1 s2.2.2.2.length (cF (D.int .u16) s2.2.2.2) (.tok 320 38)),(.d (eSl 1 (D.int .u16) y1.2))]:List AV)))
noncomputable abbrev z68o1_1 (a0:T27) (s3:Int×(List T41)×(List Int)×(List Int)×Nat×(List UInt8→Option Int)) (y1:(List T41)×(List Int)):Ob:=(.cells (g27 a0++([(.ap 2 s3.2.1.length (cF e41 s3.2.1) (.tok 288 41)),(.ap 1 s3.2.2.1.length (cF dI s3.2.2.1) (.tok 304 3)),(.ap 1 s3.2.2.2.1.length (cF (D.int .u16) s3.2.2.2.1) (.tok 320 38)),(.d (eSl 1 (D.int .u16) y1.2))]:List AV)))
noncomputable abbrev z68o1_2 (a0:T27) (y1:(List T41)×(List Int)):List (Nat×Ob):=[(16,(.cells (g27 a0))),(384,(.cells (g27 a0++([(.ap 2 y1.1.length (cF e41 y1.1) (.tok 288 41)),(.ap 1 ([(-1:Int)]:List Int).length (cF dI ([(-1:Int)]:List Int)) (.tok 304 3)),(.ap 1 ([(0:Int)]:List Int).length (cF (D.int .u16) ([(0:Int)]:List Int)) (.tok 320 38)),(.d (eSl 1 (D.int .u16) y1.2))]:List AV))))]
noncomputable abbrev z68o1_3 (s2:Int×(List T41)×(List Int)×(List Int)) (s3:Int×(List T41)×(List Int)×(List Int)×Nat×(List UInt8→Option Int)) (y1:(List T41)×(List Int)):List (Nat×AV):=[(1,(.ptr 16 0)),(7,(.ptr 384 0)),(8,(aI s2.1)),(9,(.mp 2496)),(47,(.d (eSl 1 (D.int .u16) y1.2))),(48,(aI (y1.2.length:Int))),(49,(aI (IntKind.wrap .i64 (s3.1+1))))]
noncomputable abbrev z68o1_4 (a0:T27) (y1:(List T41)×(List Int)) (y4:(List T41)×(List Int)×(List Int)):List (Nat×Ob):=[(16,(.cells (g27 a0))),(384,(.cells (g27 a0++([(.ap 2 y4.1.length (cF e41 y4.1) (.tok 288 41)),(.ap 1 y4.2.1.length (cF dI y4.2.1) (.tok 304 3)),(.ap 1 y4.2.2.length (cF (D.int .u16) y4.2.2) (.tok 320 38)),(.d (eSl 1 (D.int .u16) y1.2))]:List AV))))]
noncomputable abbrev z68o1_5 (a0:T27) (y1:(List T41)×(List Int)) (y5:(List T41)×(List Int)×(List Int)):List (Nat×Ob):=[(384,(.cells (g27 a0++([(.ap 2 y5.1.length (cF e41 y5.1) (.tok 288 41)),(.ap 1 y5.2.1.length (cF dI y5.2.1) (.tok 304 3)),(.ap 1 y5.2.2.length (cF (D.int .u16) y5.2.2) (.tok 320 38)),(.d (eSl 1 (D.int .u16) y1.2))]:List AV))))]
noncomputable def q68o1 (a0:T27) (y:Int):OF:=⟨(.tup [.nilp,(aI y)]),[],[]⟩
noncomputable def o68o1_0 (x:(Int×(List (List UInt8))×Int×(List Int))):OT:=⟨(.tup [(.d (.agg [(dI x.2.2.1),(eSl 1 dI x.2.2.2)])),(.ap 1 x.2.1.length (cF D.str x.2.1) (.tok 80 9)),(aI x.1)]),[],[],[],[80]⟩
noncomputable def d68o1 (a0:T27):JO Tryz.prog Tryz.f68 [(.d (e27 a0))] [] [] (q68o1 a0) :=
 (.sq 4 [(1,⟨(Int×(List (List UInt8))×Int×(List Int)),fun x=>[],fun x=>[(80,(o68o1_0 x))],[]⟩),(4,tm1 31 (eSl 1 (D.int .u16)))] [(1,[2,3],[]),(0,[1,7],[16,384])] (fun(y1:(List T41)×(List Int))=>⟨[(1,(.ptr 16 0)),(7,(.ptr 384 0))],(z68o1_2 a0 y1),[288,304,320],416⟩) (c3 (p:=fun x1=>ObjL Tryz.prog 14 [(.d (e27 a0))] [] 80 (o68o1_0 x1)) (fun x1 (h1:m14o0 a0=some _)=>ok [] [] [] [(80,352)] (po14o0 h1)) fun x1=>(.ite (x1.1 != 0) (.ret .ret ⟨[(2,.nilp),(3,(aI x1.1))],[],[80],304⟩ (.inr (x1.1)) ⟨rfl,rfl,(rk [] [] 5392)⟩) (c3 (@p117 a0) fun x4=>(.ret .normal ⟨[(1,(.ptr 16 0)),(7,(.ptr 384 0))],[(16,(.cells (g27 a0))),(384,(.cells (g27 a0++([(.ap 2 1 (litF [(.agg [(dI x1.2.2.1),(eSl 1 dI x1.2.2.2)])]) (.tok 288 41)),(.ap 1 1 (litF [(dI (-1))]) (.tok 304 3)),(.ap 1 1 (litF [(.int .u16 0)]) (.tok 320 38)),(.d (eSl 1 (D.int .u16) x4))]:List AV))))],[320,304,288,80],416⟩ (.inl (([(⟨x1.2.2.1,x1.2.2.2⟩:T41)]:List T41),x4)) ⟨rfl,(ws (idn [16,384]) (idn [288,304,320]) ⟨⟨_,_,rfl,rfl,⟨dr,dr,dr,dr,dr,dr,trivial⟩⟩,⟨_,_,rfl,rfl,⟨dr,dr,dr,dr,dr,dr,⟨rfl,rfl,rfl,(de_lit rfl rfl)⟩,⟨rfl,rfl,rfl,(de_lit rfl rfl)⟩,⟨rfl,rfl,rfl,(de_lit rfl rfl)⟩,dr,trivial⟩⟩⟩)⟩)))) (fun y1=>(.sc (fun(y5:(List T41)×(List Int)×(List Int))=>⟨[(7,(.ptr 384 0))],(z68o1_5 a0 y1 y5),[288,304,320],2496⟩) (.sq 1 [] [(0,[1,7,8],[16,384])] (fun(_:Unit)=>⟨[(1,(.ptr 16 0)),(7,(.ptr 384 0)),(8,(aI 0))],(z68o1_2 a0 y1),[288,304,320],432⟩) (.nx ()) (fun _=>(.bk (.lp (fun(s2:Int×(List T41)×(List Int)×(List Int))=>⟨[(1,(.ptr 16 0)),(7,(.ptr 384 0)),(8,(aI s2.1))],[(16,(.cells (g27 a0))),(384,(z68o1_0 a0 s2 y1))],[288,304,320],2384⟩) ((0:Int),y1.1,([(-1:Int)]:List Int),([(0:Int)]:List Int)) (wk (idn [16,384]) (idn [288,304,320])) fun s2=>(.sq 1 [] [(0,[1,7,8],[16,384]),(2,[7],[384])] (fun(_:Unit)=>⟨[(1,(.ptr 16 0)),(7,(.ptr 384 0)),(8,(aI s2.1))],[(16,(.cells (g27 a0))),(384,(z68o1_0 a0 s2 y1))],[288,304,320],2496⟩) (.ite (decide (s2.1 < (s2.2.1.length:Int))) (.nx ()) (.ret (.exit 0) _ (.inr (.inr (.inl (s2.2.1,s2.2.2.1,s2.2.2.2)))) ⟨rfl,rfl,rfl,Weak.refl _⟩)) (fun _=>(.sc (fun(y4:(List T41)×(List Int)×(List Int))=>⟨[(1,(.ptr 16 0)),(7,(.ptr 384 0)),(8,(aI s2.1))],(z68o1_4 a0 y1 y4),[288,304,320],4288⟩) (.bk (.sq 2 [] [(0,[1,7,8,9,47,48,49],[16,384,2496])] (fun(_:Unit)=>⟨[(1,(.ptr 16 0)),(7,(.ptr 384 0)),(8,(aI s2.1)),(9,(.mp 2496)),(47,(.d (eSl 1 (D.int .u16) y1.2))),(48,(aI (y1.2.length:Int))),(49,(aI 0))],[(16,(.cells (g27 a0))),(384,(z68o1_0 a0 s2 y1)),(2496,(.map Tryz.prog 3 4 0 (fun _=>none)))],[288,304,320],2624⟩) (.nx ()) (fun _=>(.bk (.lp (fun(s3:Int×(List T41)×(List Int)×(List Int)×Nat×(List UInt8→Option Int))=>⟨[(1,(.ptr 16 0)),(7,(.ptr 384 0)),(8,(aI s2.1)),(9,(.mp 2496)),(47,(.d (eSl 1 (D.int .u16) y1.2))),(48,(aI (y1.2.length:Int))),(49,(aI s3.1))],[(16,(.cells (g27 a0))),(384,(z68o1_1 a0 s3 y1)),(2496,(.map Tryz.prog 3 4 s3.2.2.2.2.1 s3.2.2.2.2.2))],[288,304,320],4272⟩) ((0:Int),s2.2.1,s2.2.2.1,s2.2.2.2,0,(fun _=>none)) (wk (idn [16,384,2496]) (idn [288,304,320])) fun s3=>(.sg [(12,tm1 63 (eSl 1 dI)),(15,tm1 90 (fun(x:(T41×(List (List UInt8))×Int))=>(.tup [(e41 x.1),(eSl 1 D.str x.2.1),(dI x.2.2)]))),(16,tm1 102 dI)] [(0,[1,7,8,9,47,48,49],[16,384,2496]),(1,[2,3],[]),(4,[1,7,8],[16,384])] (.ite (decide (s3.1 < (y1.2.length:Int))) (nd (0≤s3.1) (nd (s3.1 < (y1.2.length:Int)) (.exi ((List Int)) (if 0≤s2.1 then(if s2.1 < (s3.2.1.length:Int)then((m33 a0 (s3.2.1.getD s2.1.toNat default).Leaf (y1.2.getD s3.1.toNat default)).bind fun r12_0=>some r12_0)else none)else none) (fun x12=>(.p (0≤s2.1) (.p (s2.1 < (s3.2.1.length:Int)) (.p (PureAt Tryz.prog 33 [(e27 a0),(dI (s3.2.1.getD s2.1.toNat default).Leaf),(.int .u16 (y1.2.getD s3.1.toNat default))] (eSl 1 dI x12)) (.fin 0))))) (by intro x12 h;obtain⟨h1,h⟩:=if_some h;obtain⟨h2,h⟩:=if_some h;obtain⟨r12_0,h3,h⟩:=Option.bind_eq_some_iff.1 h;cases h;exact⟨h1,h2,p33 h3,trivial⟩) (fun x12 _=>(.needG (!((x12.length:Int) != (1:Int))) ((0:Int)≤(0:Int)) inferInstance (.needG (!((x12.length:Int) != (1:Int))) (0 < (x12.length:Int)) inferInstance (.needG (!((x12.length:Int) != (1:Int))) (Tryz.prog=Tryz.prog) (.isTrue rfl) (.needG (!((x12.length:Int) != (1:Int))) ((Lit.int .i64 (x12.getD (0:Int).toNat default)).wf=true) inferInstance (.ite (((x12.length:Int) != (1:Int)) || ((s3.2.2.2.2.2 (encK (x12.getD (0:Int).toNat default))).getD 0 != 0)) (.ret .normal ⟨(z68o1_3 s2 s3 y1),[(16,(.cells (g27 a0))),(384,(z68o1_1 a0 s3 y1)),(2496,(.map Tryz.prog 3 4 s3.2.2.2.2.1 s3.2.2.2.2.2))],[288,304,320],4720⟩ (.inl ((IntKind.wrap .i64 (s3.1+1)),s3.2.1,s3.2.2.1,s3.2.2.2.1,s3.2.2.2.2.1,s3.2.2.2.2.2)) ⟨rfl,(wk (idn [16,384,2496]) (idn [288,304,320]))⟩) (nd ((0:Int)≤(0:Int)) (nd (0 < (x12.length:Int)) (.need (Tryz.prog=Tryz.prog) (.isTrue rfl) (nd ((Lit.int .i64 (x12.getD (0:Int).toNat default)).wf=true) (nd (s3.2.2.2.2.1 < maxLen) (.exi ((T41×(List (List UInt8))×Int)) (if 0≤s2.1 then(if s2.1 < (s3.2.1.length:Int)then(if(0:Int)≤(0:Int)then(if 0 < (x12.length:Int)then((m58 a0 (s3.2.1.getD s2.1.toNat default) (x12.getD (0:Int).toNat default)).bind fun r15_0=>some r15_0)else none)else none)else none)else none) (fun x15=>(.p (0≤s2.1) (.p (s2.1 < (s3.2.1.length:Int)) (.p ((0:Int)≤(0:Int)) (.p (0 < (x12.length:Int)) (.p (PureAt Tryz.prog 58 [(e27 a0),(.agg [(dI (s3.2.1.getD s2.1.toNat default).Leaf),(eSl 1 dI (s3.2.1.getD s2.1.toNat default).Memory)]),(dI (x12.getD (0:Int).toNat default))] (.tup [(e41 x15.1),(eSl 1 D.str x15.2.1),(dI x15.2.2)])) (.fin 0))))))) (by intro x15 h;obtain⟨h1,h⟩:=if_some h;obtain⟨h2,h⟩:=if_some h;obtain⟨h3,h⟩:=if_some h;obtain⟨h4,h⟩:=if_some h;obtain⟨r15_0,h5,h⟩:=Option.bind_eq_some_iff.1 h;cases h;exact⟨h1,h2,h3,h4,p58 h5,trivial⟩) (fun x15 _=>(.exi (Int) ((if(!(x15.2.2 != 0))=true then m118 s3.2.1 x15.1 else some default).bind fun r16_0=>some r16_0) (fun x16=>(.g (!(x15.2.2 != 0)) (PureAt Tryz.prog 118 [(eSl 2 e41 s3.2.1),(e41 x15.1)] (dI x16)) (.fin 0))) (by intro x16 h;obtain⟨r16_0,h1,h⟩:=Option.bind_eq_some_iff.1 h;cases h;exact⟨fun g=>p118 (by rw[if_pos g]at h1;exact h1),trivial⟩) (fun x16 _=>(.ite ((x15.2.2 != 0) || (decide (0≤x16))) (.ret .normal ⟨(z68o1_3 s2 s3 y1),[(16,(.cells (g27 a0))),(384,(z68o1_1 a0 s3 y1)),(2496,(.map Tryz.prog 3 4 (s3.2.2.2.2.1+1) (fun q=>if q=(encK (x12.getD (0:Int).toNat default))then some (if true=true then(1:Int)else 0)else s3.2.2.2.2.2 q)))],[288,304,320],5296⟩ (.inl ((IntKind.wrap .i64 (s3.1+1)),s3.2.1,s3.2.2.1,s3.2.2.2.1,(s3.2.2.2.2.1+1),(fun q=>if q=(encK (x12.getD (0:Int).toNat default))then some (if true=true then(1:Int)else 0)else s3.2.2.2.2.2 q))) ⟨rfl,(wk (idn [16,384,2496]) (idn [288,304,320]))⟩) (.ite ((s3.2.1.length:Int)==(400:Int)) (.ret .ret ⟨[(2,.nilp),(3,(aI 3))],[],[288,304,320],5392⟩ (.inr (.inr (.inr (.inr ((3:Int)))))) ⟨rfl,rfl,rfl,rfl,rfl,(rk [] [] 5392)⟩) (nd ((s3.2.1.length+1) * 32≤140737488355328) (nd ((s3.2.2.1.length+1) * 8≤140737488355328) (nd ((s3.2.2.2.1.length+1) * 2≤140737488355328) (.ret .normal ⟨(z68o1_3 s2 s3 y1),[(16,(.cells (g27 a0))),(384,(.cells (g27 a0++([(.ap 2 (s3.2.1.length+1) (appF s3.2.1.length (cF e41 s3.2.1) (litF [(e41 x15.1)])) (.tok 5504 41)),(.ap 1 (s3.2.2.1.length+1) (appF s3.2.2.1.length (cF dI s3.2.2.1) (litF [(dI s2.1)])) (.tok 5616 3)),(.ap 1 (s3.2.2.2.1.length+1) (appF s3.2.2.2.1.length (cF (D.int .u16) s3.2.2.2.1) (litF [(.int .u16 (y1.2.getD s3.1.toNat default))])) (.tok 5728 38)),(.d (eSl 1 (D.int .u16) y1.2))]:List AV)))),(2496,(.map Tryz.prog 3 4 (s3.2.2.2.2.1+1) (fun q=>if q=(encK (x12.getD (0:Int).toNat default))then some (if true=true then(1:Int)else 0)else s3.2.2.2.2.2 q)))],[5728,5712,5616,5600,5504,5488],5920⟩ (.inl ((IntKind.wrap .i64 (s3.1+1)),(s3.2.1++([x15.1]:List T41)),(s3.2.2.1++([s2.1]:List Int)),(s3.2.2.2.1++([(y1.2.getD s3.1.toNat default)]:List Int)),(s3.2.2.2.2.1+1),(fun q=>if q=(encK (x12.getD (0:Int).toNat default))then some (if true=true then(1:Int)else 0)else s3.2.2.2.2.2 q))) ⟨rfl,(ws (idn [16,384,2496]) [(288,5504),(304,5616),(320,5728)] ⟨⟨_,_,rfl,rfl,⟨dr,dr,dr,dr,dr,dr,trivial⟩⟩,⟨_,_,rfl,rfl,⟨dr,dr,dr,dr,dr,dr,⟨rfl,rfl,rfl,(de_app dr (de_lit rfl rfl))⟩,⟨rfl,rfl,rfl,(de_app dr (de_lit rfl rfl))⟩,⟨rfl,rfl,rfl,(de_app dr (de_lit rfl rfl))⟩,dr,trivial⟩⟩,⟨_,_,rfl,rfl,⟨rfl,rfl,rfl,rfl,rfl⟩⟩⟩)⟩)))))))))))))))))))))))) (.ret (.exit 2) _ (.inr (.inl (s3.2.1,s3.2.2.1,s3.2.2.2.1))) ⟨rfl,rfl,Weak.refl _⟩)))))))) fun y4=>(.sg [] [(0,[1,7,8],[16,384])] (.ret .normal ⟨[(1,(.ptr 16 0)),(7,(.ptr 384 0)),(8,(aI (IntKind.wrap .i64 (s2.1+1))))],(z68o1_4 a0 y1 y4),[288,304,320],4336⟩ (.inl ((IntKind.wrap .i64 (s2.1+1)),y4.1,y4.2.1,y4.2.2)) ⟨rfl,(wk (idn [16,384]) (idn [288,304,320]))⟩))))))))) fun y5=>(.sg [] [(1,[2,3],[384])] (.lost .ret ⟨[(2,(.ptr 384 0)),(3,(aI 0))],(z68o1_5 a0 y1 y5),[288,304,320],2544⟩)))))
noncomputable def m68o1 (a0:T27):Option (Int):=(d68o1 a0).m
theorem po68o1 {a0:T27} {r:Int} (h:m68o1 a0=some r):ObjF Tryz.prog 68 [(.d (e27 a0))] [] [] (q68o1 a0 r):=obj_jd (d68o1 a0) Tryz.func68 h
noncomputable abbrev z68o2_0 (a0:T27) (s2:Int×(List T41)×(List Int)×(List Int)) (y1:(List T41)×(List Int)):Ob:=(.cells (g27 a0++([(.ap 2 s2.2.1.length (cF e41 s2.2.1) (.tok 288 41)),(.ap 1 s2.2.2.1.length (cF dI s2.2.2.1) (.tok 304 3)),(.ap 1 s2.2.2.2.length (cF (D.int .u16) s2.2.2.2) (.tok 320 38)),(.d (eSl 1 (D.int .u16) y1.2))]:List AV)))
noncomputable abbrev z68o2_1 (a0:T27) (s3:Int×(List T41)×(List Int)×(List Int)×Nat×(List UInt8→Option Int)) (y1:(List T41)×(List Int)):Ob:=(.cells (g27 a0++([(.ap 2 s3.2.1.length (cF e41 s3.2.1) (.tok 288 41)),(.ap 1 s3.2.2.1.length (cF dI s3.2.2.1) (.tok 304 3)),(.ap 1 s3.2.2.2.1.length (cF (D.int .u16) s3.2.2.2.1) (.tok 320 38)),(.d (eSl 1 (D.int .u16) y1.2))]:List AV)))
noncomputable abbrev z68o2_2 (a0:T27) (y1:(List T41)×(List Int)):List (Nat×Ob):=[(16,(.cells (g27 a0))),(384,(.cells (g27 a0++([(.ap 2 y1.1.length (cF e41 y1.1) (.tok 288 41)),(.ap 1 ([(-1:Int)]:List Int).length (cF dI ([(-1:Int)]:List Int)) (.tok 304 3)),(.ap 1 ([(0:Int)]:List Int).length (cF (D.int .u16) ([(0:Int)]:List Int)) (.tok 320 38)),(.d (eSl 1 (D.int .u16) y1.2))]:List AV))))]
noncomputable abbrev z68o2_3 (s2:Int×(List T41)×(List Int)×(List Int)) (s3:Int×(List T41)×(List Int)×(List Int)×Nat×(List UInt8→Option Int)) (y1:(List T41)×(List Int)):List (Nat×AV):=[(1,(.ptr 16 0)),(7,(.ptr 384 0)),(8,(aI s2.1)),(9,(.mp 2496)),(47,(.d (eSl 1 (D.int .u16) y1.2))),(48,(aI (y1.2.length:Int))),(49,(aI (IntKind.wrap .i64 (s3.1+1))))]
noncomputable abbrev z68o2_4 (a0:T27) (y1:(List T41)×(List Int)) (y4:(List T41)×(List Int)×(List Int)):List (Nat×Ob):=[(16,(.cells (g27 a0))),(384,(.cells (g27 a0++([(.ap 2 y4.1.length (cF e41 y4.1) (.tok 288 41)),(.ap 1 y4.2.1.length (cF dI y4.2.1) (.tok 304 3)),(.ap 1 y4.2.2.length (cF (D.int .u16) y4.2.2) (.tok 320 38)),(.d (eSl 1 (D.int .u16) y1.2))]:List AV))))]
noncomputable abbrev z68o2_5 (a0:T27) (y1:(List T41)×(List Int)) (y5:(List T41)×(List Int)×(List Int)):List (Nat×Ob):=[(384,(.cells (g27 a0++([(.ap 2 y5.1.length (cF e41 y5.1) (.tok 288 41)),(.ap 1 y5.2.1.length (cF dI y5.2.1) (.tok 304 3)),(.ap 1 y5.2.2.length (cF (D.int .u16) y5.2.2) (.tok 320 38)),(.d (eSl 1 (D.int .u16) y1.2))]:List AV))))]
noncomputable def q68o2 (a0:T27) (y:(List T41)×(List Int)×(List Int)×(List Int)):OF:=⟨(.tup [(.ptr 384 0),(aI 0)]),[(384,(.cells (g27 a0++([(.ap 2 y.1.length (cF e41 y.1) (.tok 288 41)),(.ap 1 y.2.1.length (cF dI y.2.1) (.tok 304 3)),(.ap 1 y.2.2.1.length (cF (D.int .u16) y.2.2.1) (.tok 320 38)),(.d (eSl 1 (D.int .u16) y.2.2.2))]:List AV))))],[288,304,320]⟩
noncomputable def o68o2_0 (x:(Int×(List (List UInt8))×Int×(List Int))):OT:=⟨(.tup [(.d (.agg [(dI x.2.2.1),(eSl 1 dI x.2.2.2)])),(.ap 1 x.2.1.length (cF D.str x.2.1) (.tok 80 9)),(aI x.1)]),[],[],[],[80]⟩
noncomputable def d68o2 (a0:T27):JO Tryz.prog Tryz.f68 [(.d (e27 a0))] [] [] (q68o2 a0) :=
 (.sq 4 [(1,⟨(Int×(List (List UInt8))×Int×(List Int)),fun x=>[],fun x=>[(80,(o68o2_0 x))],[]⟩),(4,tm1 31 (eSl 1 (D.int .u16)))] [(1,[2,3],[]),(0,[1,7],[16,384])] (fun(y1:(List T41)×(List Int))=>⟨[(1,(.ptr 16 0)),(7,(.ptr 384 0))],(z68o2_2 a0 y1),[288,304,320],416⟩) (c3 (p:=fun x1=>ObjL Tryz.prog 14 [(.d (e27 a0))] [] 80 (o68o2_0 x1)) (fun x1 (h1:m14o0 a0=some _)=>ok [] [] [] [(80,352)] (po14o0 h1)) fun x1=>(.ite (x1.1 != 0) (.lost .ret ⟨[(2,.nilp),(3,(aI x1.1))],[],[80],304⟩) (c3 (@p117 a0) fun x4=>(.ret .normal ⟨[(1,(.ptr 16 0)),(7,(.ptr 384 0))],[(16,(.cells (g27 a0))),(384,(.cells (g27 a0++([(.ap 2 1 (litF [(.agg [(dI x1.2.2.1),(eSl 1 dI x1.2.2.2)])]) (.tok 288 41)),(.ap 1 1 (litF [(dI (-1))]) (.tok 304 3)),(.ap 1 1 (litF [(.int .u16 0)]) (.tok 320 38)),(.d (eSl 1 (D.int .u16) x4))]:List AV))))],[320,304,288,80],416⟩ (.inl (([(⟨x1.2.2.1,x1.2.2.2⟩:T41)]:List T41),x4)) ⟨rfl,(ws (idn [16,384]) (idn [288,304,320]) ⟨⟨_,_,rfl,rfl,⟨dr,dr,dr,dr,dr,dr,trivial⟩⟩,⟨_,_,rfl,rfl,⟨dr,dr,dr,dr,dr,dr,⟨rfl,rfl,rfl,(de_lit rfl rfl)⟩,⟨rfl,rfl,rfl,(de_lit rfl rfl)⟩,⟨rfl,rfl,rfl,(de_lit rfl rfl)⟩,dr,trivial⟩⟩⟩)⟩)))) (fun y1=>(.sc (fun(y5:(List T41)×(List Int)×(List Int))=>⟨[(7,(.ptr 384 0))],(z68o2_5 a0 y1 y5),[288,304,320],2496⟩) (.sq 1 [] [(0,[1,7,8],[16,384])] (fun(_:Unit)=>⟨[(1,(.ptr 16 0)),(7,(.ptr 384 0)),(8,(aI 0))],(z68o2_2 a0 y1),[288,304,320],432⟩) (.nx ()) (fun _=>(.bk (.lp (fun(s2:Int×(List T41)×(List Int)×(List Int))=>⟨[(1,(.ptr 16 0)),(7,(.ptr 384 0)),(8,(aI s2.1))],[(16,(.cells (g27 a0))),(384,(z68o2_0 a0 s2 y1))],[288,304,320],2384⟩) ((0:Int),y1.1,([(-1:Int)]:List Int),([(0:Int)]:List Int)) (wk (idn [16,384]) (idn [288,304,320])) fun s2=>(.sq 1 [] [(0,[1,7,8],[16,384]),(2,[7],[384])] (fun(_:Unit)=>⟨[(1,(.ptr 16 0)),(7,(.ptr 384 0)),(8,(aI s2.1))],[(16,(.cells (g27 a0))),(384,(z68o2_0 a0 s2 y1))],[288,304,320],2496⟩) (.ite (decide (s2.1 < (s2.2.1.length:Int))) (.nx ()) (.ret (.exit 0) _ (.inr (.inr (.inl (s2.2.1,s2.2.2.1,s2.2.2.2)))) ⟨rfl,rfl,rfl,Weak.refl _⟩)) (fun _=>(.sc (fun(y4:(List T41)×(List Int)×(List Int))=>⟨[(1,(.ptr 16 0)),(7,(.ptr 384 0)),(8,(aI s2.1))],(z68o2_4 a0 y1 y4),[288,304,320],4288⟩) (.bk (.sq 2 [] [(0,[1,7,8,9,47,48,49],[16,384,2496])] (fun(_:Unit)=>⟨[(1,(.ptr 16 0)),(7,(.ptr 384 0)),(8,(aI s2.1)),(9,(.mp 2496)),(47,(.d (eSl 1 (D.int .u16) y1.2))),(48,(aI (y1.2.length:Int))),(49,(aI 0))],[(16,(.cells (g27 a0))),(384,(z68o2_0 a0 s2 y1)),(2496,(.map Tryz.prog 3 4 0 (fun _=>none)))],[288,304,320],2624⟩) (.nx ()) (fun _=>(.bk (.lp (fun(s3:Int×(List T41)×(List Int)×(List Int)×Nat×(List UInt8→Option Int))=>⟨[(1,(.ptr 16 0)),(7,(.ptr 384 0)),(8,(aI s2.1)),(9,(.mp 2496)),(47,(.d (eSl 1 (D.int .u16) y1.2))),(48,(aI (y1.2.length:Int))),(49,(aI s3.1))],[(16,(.cells (g27 a0))),(384,(z68o2_1 a0 s3 y1)),(2496,(.map Tryz.prog 3 4 s3.2.2.2.2.1 s3.2.2.2.2.2))],[288,304,320],4272⟩) ((0:Int),s2.2.1,s2.2.2.1,s2.2.2.2,0,(fun _=>none)) (wk (idn [16,384,2496]) (idn [288,304,320])) fun s3=>(.sg [(12,tm1 63 (eSl 1 dI)),(15,tm1 90 (fun(x:(T41×(List (List UInt8))×Int))=>(.tup [(e41 x.1),(eSl 1 D.str x.2.1),(dI x.2.2)]))),(16,tm1 102 dI)] [(0,[1,7,8,9,47,48,49],[16,384,2496]),(1,[2,3],[]),(4,[1,7,8],[16,384])] (.ite (decide (s3.1 < (y1.2.length:Int))) (nd (0≤s3.1) (nd (s3.1 < (y1.2.length:Int)) (.exi ((List Int)) (if 0≤s2.1 then(if s2.1 < (s3.2.1.length:Int)then((m33 a0 (s3.2.1.getD s2.1.toNat default).Leaf (y1.2.getD s3.1.toNat default)).bind fun r12_0=>some r12_0)else none)else none) (fun x12=>(.p (0≤s2.1) (.p (s2.1 < (s3.2.1.length:Int)) (.p (PureAt Tryz.prog 33 [(e27 a0),(dI (s3.2.1.getD s2.1.toNat default).Leaf),(.int .u16 (y1.2.getD s3.1.toNat default))] (eSl 1 dI x12)) (.fin 0))))) (by intro x12 h;obtain⟨h1,h⟩:=if_some h;obtain⟨h2,h⟩:=if_some h;obtain⟨r12_0,h3,h⟩:=Option.bind_eq_some_iff.1 h;cases h;exact⟨h1,h2,p33 h3,trivial⟩) (fun x12 _=>(.needG (!((x12.length:Int) != (1:Int))) ((0:Int)≤(0:Int)) inferInstance (.needG (!((x12.length:Int) != (1:Int))) (0 < (x12.length:Int)) inferInstance (.needG (!((x12.length:Int) != (1:Int))) (Tryz.prog=Tryz.prog) (.isTrue rfl) (.needG (!((x12.length:Int) != (1:Int))) ((Lit.int .i64 (x12.getD (0:Int).toNat default)).wf=true) inferInstance (.ite (((x12.length:Int) != (1:Int)) || ((s3.2.2.2.2.2 (encK (x12.getD (0:Int).toNat default))).getD 0 != 0)) (.ret .normal ⟨(z68o2_3 s2 s3 y1),[(16,(.cells (g27 a0))),(384,(z68o2_1 a0 s3 y1)),(2496,(.map Tryz.prog 3 4 s3.2.2.2.2.1 s3.2.2.2.2.2))],[288,304,320],4720⟩ (.inl ((IntKind.wrap .i64 (s3.1+1)),s3.2.1,s3.2.2.1,s3.2.2.2.1,s3.2.2.2.2.1,s3.2.2.2.2.2)) ⟨rfl,(wk (idn [16,384,2496]) (idn [288,304,320]))⟩) (nd ((0:Int)≤(0:Int)) (nd (0 < (x12.length:Int)) (.need (Tryz.prog=Tryz.prog) (.isTrue rfl) (nd ((Lit.int .i64 (x12.getD (0:Int).toNat default)).wf=true) (nd (s3.2.2.2.2.1 < maxLen) (.exi ((T41×(List (List UInt8))×Int)) (if 0≤s2.1 then(if s2.1 < (s3.2.1.length:Int)then(if(0:Int)≤(0:Int)then(if 0 < (x12.length:Int)then((m58 a0 (s3.2.1.getD s2.1.toNat default) (x12.getD (0:Int).toNat default)).bind fun r15_0=>some r15_0)else none)else none)else none)else none) (fun x15=>(.p (0≤s2.1) (.p (s2.1 < (s3.2.1.length:Int)) (.p ((0:Int)≤(0:Int)) (.p (0 < (x12.length:Int)) (.p (PureAt Tryz.prog 58 [(e27 a0),(.agg [(dI (s3.2.1.getD s2.1.toNat default).Leaf),(eSl 1 dI (s3.2.1.getD s2.1.toNat default).Memory)]),(dI (x12.getD (0:Int).toNat default))] (.tup [(e41 x15.1),(eSl 1 D.str x15.2.1),(dI x15.2.2)])) (.fin 0))))))) (by intro x15 h;obtain⟨h1,h⟩:=if_some h;obtain⟨h2,h⟩:=if_some h;obtain⟨h3,h⟩:=if_some h;obtain⟨h4,h⟩:=if_some h;obtain⟨r15_0,h5,h⟩:=Option.bind_eq_some_iff.1 h;cases h;exact⟨h1,h2,h3,h4,p58 h5,trivial⟩) (fun x15 _=>(.exi (Int) ((if(!(x15.2.2 != 0))=true then m118 s3.2.1 x15.1 else some default).bind fun r16_0=>some r16_0) (fun x16=>(.g (!(x15.2.2 != 0)) (PureAt Tryz.prog 118 [(eSl 2 e41 s3.2.1),(e41 x15.1)] (dI x16)) (.fin 0))) (by intro x16 h;obtain⟨r16_0,h1,h⟩:=Option.bind_eq_some_iff.1 h;cases h;exact⟨fun g=>p118 (by rw[if_pos g]at h1;exact h1),trivial⟩) (fun x16 _=>(.ite ((x15.2.2 != 0) || (decide (0≤x16))) (.ret .normal ⟨(z68o2_3 s2 s3 y1),[(16,(.cells (g27 a0))),(384,(z68o2_1 a0 s3 y1)),(2496,(.map Tryz.prog 3 4 (s3.2.2.2.2.1+1) (fun q=>if q=(encK (x12.getD (0:Int).toNat default))then some (if true=true then(1:Int)else 0)else s3.2.2.2.2.2 q)))],[288,304,320],5296⟩ (.inl ((IntKind.wrap .i64 (s3.1+1)),s3.2.1,s3.2.2.1,s3.2.2.2.1,(s3.2.2.2.2.1+1),(fun q=>if q=(encK (x12.getD (0:Int).toNat default))then some (if true=true then(1:Int)else 0)else s3.2.2.2.2.2 q))) ⟨rfl,(wk (idn [16,384,2496]) (idn [288,304,320]))⟩) (.ite ((s3.2.1.length:Int)==(400:Int)) (.lost .ret ⟨[(2,.nilp),(3,(aI 3))],[],[288,304,320],5392⟩) (nd ((s3.2.1.length+1) * 32≤140737488355328) (nd ((s3.2.2.1.length+1) * 8≤140737488355328) (nd ((s3.2.2.2.1.length+1) * 2≤140737488355328) (.ret .normal ⟨(z68o2_3 s2 s3 y1),[(16,(.cells (g27 a0))),(384,(.cells (g27 a0++([(.ap 2 (s3.2.1.length+1) (appF s3.2.1.length (cF e41 s3.2.1) (litF [(e41 x15.1)])) (.tok 5504 41)),(.ap 1 (s3.2.2.1.length+1) (appF s3.2.2.1.length (cF dI s3.2.2.1) (litF [(dI s2.1)])) (.tok 5616 3)),(.ap 1 (s3.2.2.2.1.length+1) (appF s3.2.2.2.1.length (cF (D.int .u16) s3.2.2.2.1) (litF [(.int .u16 (y1.2.getD s3.1.toNat default))])) (.tok 5728 38)),(.d (eSl 1 (D.int .u16) y1.2))]:List AV)))),(2496,(.map Tryz.prog 3 4 (s3.2.2.2.2.1+1) (fun q=>if q=(encK (x12.getD (0:Int).toNat default))then some (if true=true then(1:Int)else 0)else s3.2.2.2.2.2 q)))],[5728,5712,5616,5600,5504,5488],5920⟩ (.inl ((IntKind.wrap .i64 (s3.1+1)),(s3.2.1++([x15.1]:List T41)),(s3.2.2.1++([s2.1]:List Int)),(s3.2.2.2.1++([(y1.2.getD s3.1.toNat default)]:List Int)),(s3.2.2.2.2.1+1),(fun q=>if q=(encK (x12.getD (0:Int).toNat default))then some (if true=true then(1:Int)else 0)else s3.2.2.2.2.2 q))) ⟨rfl,(ws (idn [16,384,2496]) [(288,5504),(304,5616),(320,5728)] ⟨⟨_,_,rfl,rfl,⟨dr,dr,dr,dr,dr,dr,trivial⟩⟩,⟨_,_,rfl,rfl,⟨dr,dr,dr,dr,dr,dr,⟨rfl,rfl,rfl,(de_app dr (de_lit rfl rfl))⟩,⟨rfl,rfl,rfl,(de_app dr (de_lit rfl rfl))⟩,⟨rfl,rfl,rfl,(de_app dr (de_lit rfl rfl))⟩,dr,trivial⟩⟩,⟨_,_,rfl,rfl,⟨rfl,rfl,rfl,rfl,rfl⟩⟩⟩)⟩)))))))))))))))))))))))) (.ret (.exit 2) _ (.inr (.inl (s3.2.1,s3.2.2.1,s3.2.2.2.1))) ⟨rfl,rfl,Weak.refl _⟩)))))))) fun y4=>(.sg [] [(0,[1,7,8],[16,384])] (.ret .normal ⟨[(1,(.ptr 16 0)),(7,(.ptr 384 0)),(8,(aI (IntKind.wrap .i64 (s2.1+1))))],(z68o2_4 a0 y1 y4),[288,304,320],4336⟩ (.inl ((IntKind.wrap .i64 (s2.1+1)),y4.1,y4.2.1,y4.2.2)) ⟨rfl,(wk (idn [16,384]) (idn [288,304,320]))⟩))))))))) fun y5=>(.sg [] [(1,[2,3],[384])] (.ret .ret ⟨[(2,(.ptr 384 0)),(3,(aI 0))],(z68o2_5 a0 y1 y5),[288,304,320],2544⟩ (y5.1,y5.2.1,y5.2.2,y1.2) ⟨rfl,(rk [(384,384)] (idn [288,304,320]) 2544)⟩)))))
noncomputable def m68o2 (a0:T27):Option ((List T41)×(List Int)×(List Int)×(List Int)):=(d68o2 a0).m
theorem po68o2 {a0:T27} {r:(List T41)×(List Int)×(List Int)×(List Int)} (h:m68o2 a0=some r):ObjF Tryz.prog 68 [(.d (e27 a0))] [] [] (q68o2 a0 r):=obj_jd (d68o2 a0) Tryz.func68 h
noncomputable abbrev z119o1_1 (a1:List T41):AV:=(.ap 2 a1.length (cF e41 a1) (.tok 0 41))
noncomputable abbrev z119o1_0 (a0:T27) (a1:List T41) (a2:List Int) (a3:List Int) (a4:List Int):Ob:=(.cells (g27 a0++([(z119o1_1 a1),(.ap 1 a2.length (cF dI a2) (.tok 1 3)),(.ap 1 a3.length (cF (D.int .u16) a3) (.tok 2 38)),(.d (eSl 1 (D.int .u16) a4))]:List AV)))
noncomputable def q119o1 (a0:T27) (a1:List T41) (a2 a3 a4:List Int) (y:(List Int)):OF:=⟨(.vec 417 1 y.length),[(417,(.vec 3 1 y.length (cF dI y))),(0,(z119o1_0 a0 a1 a2 a3 a4))],[0,1,2]⟩
noncomputable def o119o1_0 (y2:(List Int)) (x:Unit):OT:=⟨(.tup []),[144],[],[(144,(.vec 3 1 y2.length (cF dI (sortI y2))))],[]⟩
noncomputable def o119o1_1 (y2:(List Int)) (x:Unit):OT:=⟨(.vec 417 1 (cmpI (sortI y2)).length),[144],[],[(417,(.vec 3 1 (cmpI (sortI y2)).length (cF dI (cmpI (sortI y2))))),(144,.gone)],[]⟩
noncomputable def d119o1 (a0:T27) (a1:List T41) (a2 a3 a4:List Int):JO Tryz.prog Tryz.f119 [(.ptr 0 0)] [(0,(z119o1_0 a0 a1 a2 a3 a4))] [0,1,2] (q119o1 a0 a1 a2 a3 a4) :=
 (.sq 2 [] [(0,[0,3],[0])] (fun(_:Unit)=>⟨[(0,(.ptr 0 0)),(3,aN)],[(0,(z119o1_0 a0 a1 a2 a3 a4))],[0,1,2],48⟩) (.nx ()) (fun _=>(.sc (fun(y2:(List Int))=>⟨[(0,(.ptr 0 0)),(3,(.vec 144 1 y2.length))],[(144,(.vec 3 1 y2.length (cF dI y2))),(0,(z119o1_0 a0 a1 a2 a3 a4))],[0,1,2],369⟩) (.sq 1 [] [(0,[0,3,9,10,11],[0])] (fun(_:Unit)=>⟨[(0,(.ptr 0 0)),(3,aN),(9,(z119o1_1 a1)),(10,(aI (a1.length:Int))),(11,(aI 0))],[(0,(z119o1_0 a0 a1 a2 a3 a4))],[0,1,2],144⟩) (.nx ()) (fun _=>(.bk (.lp (fun(s1:(List Int)×Int)=>⟨[(0,(.ptr 0 0)),(3,(.vec 144 1 s1.1.length)),(9,(z119o1_1 a1)),(10,(aI (a1.length:Int))),(11,(aI s1.2))],[(144,(.vec 3 1 s1.1.length (cF dI s1.1))),(0,(z119o1_0 a0 a1 a2 a3 a4))],[0,1,2],353⟩) (([]:List Int),(0:Int)) (Weak.trans (weak_vec (st:=_) (st':=⟨[(0,(.ptr 0 0)),(3,(.vec 144 1 0)),(9,(z119o1_1 a1)),(10,(aI (a1.length:Int))),(11,(aI 0))],[(144,(.vec 3 1 0 (fun _=>.bad))),(0,(z119o1_0 a0 a1 a2 a3 a4))],[0,1,2],145⟩) [(144,3,1,fun _=>.bad)] [(0,(z119o1_0 a0 a1 a2 a3 a4))] rfl rfl (Nat.le_of_ble_eq_true rfl) (by kernel_rfl) (by kernel_rfl) (by kernel_rfl) (by exact .inl rfl) (by exact⟨(.same .nil),(.vec (.head _) .nil),(.same .nil),(.same .nil),(.same .nil)⟩)) (by exact(wh (idn [0,144]) (idn [0,1,2]) ⟨⟨rfl,rfl⟩,⟨rfl,rfl,(len_of (sz:=1) (e:=dI) (f:=(fun _=>.bad)) (l:=([]:List Int)) de_nil)⟩,⟨rfl,rfl,rfl,dr⟩,dr,dr⟩))) fun s1=>(.sg [(5,⟨Unit,fun x=>[],fun x=>[],[290,498]⟩)] [(0,[0,3,9,10,11],[0,497]),(2,[0,3],[144,0])] (.ite (decide (s1.2 < (a1.length:Int))) (nd (0≤s1.2) (nd (s1.2 < (a1.length:Int)) (.exi (Unit) (if(s1.1.length+1) * 8≤140737488355328 then some ()else none) (fun x5=>(.p ((s1.1.length+1) * 8≤140737488355328) (.fin 0))) (by intro x5 h;obtain⟨h1,h⟩:=if_some h;cases h;exact⟨h1,trivial⟩) (fun x5 _=>(.ret .normal ⟨[(0,(.ptr 0 0)),(3,(.vec 497 1 (s1.1.length+1))),(9,(z119o1_1 a1)),(10,(aI (a1.length:Int))),(11,(aI (IntKind.wrap .i64 (s1.2+1))))],[(0,(z119o1_0 a0 a1 a2 a3 a4)),(497,(.vec 3 1 (s1.1.length+1) (appF s1.1.length (cF dI s1.1) (litF [(dI (a1.getD s1.2.toNat default).Leaf)]))))],[481,0,1,2],561⟩ (.inl ((s1.1++([(a1.getD s1.2.toNat default).Leaf]:List Int)),(IntKind.wrap .i64 (s1.2+1)))) ⟨rfl,(weak_of [(0,0),(144,497)] [(0,0),(1,1),(2,2)] (by kernel_rfl) ⟨⟨rfl,rfl⟩,⟨rfl,rfl,(len_of (sz:=1) (e:=dI) (f:=(appF s1.1.length (cF dI s1.1) (litF [(dI (a1.getD s1.2.toNat default).Leaf)]))) (l:=(s1.1++([(a1.getD s1.2.toNat default).Leaf]:List Int))) (de_app dr (de_lit rfl rfl)))⟩,⟨rfl,rfl,rfl,dr⟩,dr,dr⟩ ⟨⟨_,_,rfl,rfl,⟨rfl,rfl,(de_app dr (de_lit rfl rfl))⟩⟩,⟨_,_,rfl,rfl,⟨dr,dr,dr,dr,dr,dr,⟨rfl,rfl,rfl,dr⟩,⟨rfl,rfl,rfl,dr⟩,⟨rfl,rfl,rfl,dr⟩,dr,trivial⟩⟩⟩)⟩))))) (.ret (.exit 0) _ (.inr (.inl s1.1)) ⟨rfl,rfl,Weak.refl _⟩))))))) fun y2=>(.sg [(7,⟨Unit,fun x=>[],fun x=>[(385,(o119o1_0 y2 x))],[]⟩),(8,⟨Unit,fun x=>[],fun x=>[(417,(o119o1_1 y2 x))],[]⟩)] [(1,[0,2],[0,417])] (c3 (p:=fun x7=>ObjL Tryz.prog 159 [(.vec 144 1 y2.length)] [(144,some (.vec 3 1 y2.length (cF dI y2)))] 385 (o119o1_0 y2 x7)) (fun x7 (h1:msrt y2=some _)=>ok [(0,144)] [] [(144,0)] [] (posrt h1)) fun x7=>(c3 (p:=fun x8=>ObjL Tryz.prog 160 [(.vec 144 1 y2.length)] [(144,some (.vec 3 1 y2.length (cF dI (sortI y2))))] 417 (o119o1_1 y2 x8)) (fun x8 (h1:mcmp (sortI y2)=some _)=>objL_of (pocmp h1) [(0,144)] [] [(144,0),(417,16)] [] (by kernel_rfl) ⟨⟨rfl,rfl,(len_of (sz:=1) (e:=dI) (f:=(cF dI (sortI y2))) (l:=(sortI y2)) de_sortI)⟩,trivial⟩ ⟨_,_,rfl,rfl,⟨rfl,rfl,de_sortI⟩⟩ (by kernel_rfl) ⟨rfl,rfl,rfl⟩ ⟨⟨_,_,rfl,rfl,⟨rfl,rfl,dr⟩⟩,⟨_,_,rfl,rfl,trivial⟩⟩) fun x8=>(.ret .ret ⟨[(0,(.ptr 0 0)),(2,(.vec 417 1 (cmpI (sortI y2)).length))],[(0,(z119o1_0 a0 a1 a2 a3 a4)),(417,(.vec 3 1 (cmpI (sortI y2)).length (cF dI (cmpI (sortI y2)))))],[0,1,2],449⟩ (cmpI (sortI y2)) ⟨rfl,(rk (idn [417,0]) (idn [0,1,2]) 449)⟩)))))))
noncomputable def m119o1 (a0:T27) (a1:List T41) (a2 a3 a4:List Int):Option ((List Int)):=(d119o1 a0 a1 a2 a3 a4).m
theorem po119o1 {a0:T27} {a1:List T41} {a2:List Int} {a3:List Int} {a4:List Int} {r:(List Int)} (h:m119o1 a0 a1 a2 a3 a4=some r):ObjF Tryz.prog 119 [(.ptr 0 0)] [(0,(z119o1_0 a0 a1 a2 a3 a4))] [0,1,2] (q119o1 a0 a1 a2 a3 a4 r):=obj_jd (d119o1 a0 a1 a2 a3 a4) Tryz.func119 h
noncomputable def d120 (a0:T27):JF Tryz.prog Tryz.f120 [(e27 a0)] (fun(r:(List Int))=>(eSl 1 dI r)) :=
 (.sq 2 [] [(0,[1,3],[16])] (fun(_:Unit)=>⟨[(1,(.ptr 16 0)),(3,aN)],[(16,(.cells (g27 a0)))],[],64⟩) (.nx ()) (fun _=>(.sc (fun(y2:(List Int))=>⟨[(3,(.ap 1 y2.length (cF dI y2) (.tok 288 3)))],[],[288],368⟩) (.sq 1 [] [(0,[1,3,7,8],[16])] (fun(_:Unit)=>⟨[(1,(.ptr 16 0)),(3,aN),(7,(aI (a0.States.length:Int))),(8,(aI 0))],[(16,(.cells (g27 a0)))],[],128⟩) (.nx ()) (fun _=>(.bk (.lp (fun(s1:(List Int)×Int)=>⟨[(1,(.ptr 16 0)),(3,(.ap 1 s1.1.length (cF dI s1.1) (.tok 288 3))),(7,(aI (a0.States.length:Int))),(8,(aI s1.2))],[(16,(.cells (g27 a0)))],[288],352⟩) ([],(0:Int)) (wk [(16,16)] []) fun s1=>(.sg [(5,tm1 13 D.bool)] [(0,[1,3,7,8],[16]),(2,[3],[])] (.ite (decide (s1.2 < (a0.States.length:Int))) (c3 (@p105 a0 s1.2) fun x5=>(.ite (!x5) (nd ((s1.1.length+1) * 8≤140737488355328) (.ret .normal ⟨[(1,(.ptr 16 0)),(3,(.ap 1 (s1.1.length+1) (appF s1.1.length (cF dI s1.1) (litF [(dI s1.2)])) (.tok 512 3))),(7,(aI (a0.States.length:Int))),(8,(aI (IntKind.wrap .i64 (s1.2+1))))],[(16,(.cells (g27 a0)))],[512,496],576⟩ (.inl ((s1.1++([s1.2]:List Int)),(IntKind.wrap .i64 (s1.2+1)))) ⟨rfl,(wh [(16,16)] [(288,512)] ⟨⟨rfl,rfl⟩,⟨rfl,rfl,rfl,(de_app dr (de_lit rfl rfl))⟩,dr,dr⟩)⟩)) (.ret .normal ⟨[(1,(.ptr 16 0)),(3,(.ap 1 s1.1.length (cF dI s1.1) (.tok 288 3))),(7,(aI (a0.States.length:Int))),(8,(aI (IntKind.wrap .i64 (s1.2+1))))],[(16,(.cells (g27 a0)))],[288],496⟩ (.inl (s1.1,(IntKind.wrap .i64 (s1.2+1)))) ⟨rfl,(wk [(16,16)] [(288,288)])⟩))) (.ret (.exit 0) _ (.inr (.inl s1.1)) ⟨rfl,rfl,Weak.refl _⟩))))))) fun y2=>(.sg [] [(1,[2],[])] (.ret .ret ⟨[(2,(.ap 1 y2.length (cF dI y2) (.tok 288 3)))],[],[288],400⟩ y2 ⟨rfl,_,Weak.refl _,dr⟩)))))
noncomputable def m120 (a0:T27):Option ((List Int)):=(d120 a0).m
theorem p120 {a0:T27} {r:(List Int)} (h:m120 a0=some r):PureAt Tryz.prog 120 [(e27 a0)] (eSl 1 dI r):=pure_jd (d120 a0) Tryz.func120 h
noncomputable abbrev z69o1_5 (a4:List Int):AV:=(.d (eSl 1 (D.int .u16) a4))
noncomputable abbrev z69o1_0 (a0:T27) (a1:List T41) (a2:List Int) (a3:List Int) (a4:List Int):Ob:=(.cells (g27 a0++([(.ap 2 a1.length (cF e41 a1) (.tok 48 41)),(.ap 1 a2.length (cF dI a2) (.tok 49 3)),(.ap 1 a3.length (cF (D.int .u16) a3) (.tok 50 38)),(z69o1_5 a4)]:List AV)))
noncomputable abbrev z69o1_6 (s2:(List T194)×(List T194)×(List Bool)×Int) (y1:(List Int)):AV:=(aI (y1.getD s2.2.2.2.toNat default))
noncomputable abbrev z69o1_1 (a0:T27) (a4:List Int) (s2:(List T194)×(List T194)×(List Bool)×Int) (s3:(List T194)×(List T194)×(List Bool)×Bool×Bool×Int) (y1:(List Int)):List (Nat×AV):=[(0,(.ptr 0 0)),(3,(.vec 48 1 y1.length)),(4,(.ap 5 s3.1.length (cF e194 s3.1) (.tok 1120 194))),(5,(.ap 5 s3.2.1.length (cF e194 s3.2.1) (.tok 1456 194))),(7,(.arr 224 1 (a0.Transitions.length:Int).toNat)),(9,(z69o1_6 s2 y1)),(10,(aB s3.2.2.2.1)),(11,(aB s3.2.2.2.2.1)),(30,(.vec 48 1 y1.length)),(31,(aI (y1.length:Int))),(32,(aI s2.2.2.2)),(39,(z69o1_5 a4)),(40,(aI (a4.length:Int))),(41,(aI s3.2.2.2.2.2))]
noncomputable abbrev z69o1_2 (a0:T27) (a4:List Int) (s2:(List T194)×(List T194)×(List Bool)×Int) (s3:(List T194)×(List T194)×(List Bool)×Bool×Bool×Int) (y1:(List Int)) (y4:(List Int)):List (Nat×AV):=[(0,(.ptr 0 0)),(3,(.vec 48 1 y1.length)),(4,(.ap 5 s3.1.length (cF e194 s3.1) (.tok 1120 194))),(5,(.ap 5 s3.2.1.length (cF e194 s3.2.1) (.tok 1456 194))),(7,(.arr 224 1 (a0.Transitions.length:Int).toNat)),(9,(z69o1_6 s2 y1)),(10,(aB s3.2.2.2.1)),(11,(aB s3.2.2.2.2.1)),(13,(.d (.int .u16 (a4.getD s3.2.2.2.2.2.toNat default)))),(14,(.d (eSl 1 dI y4))),(30,(.vec 48 1 y1.length)),(31,(aI (y1.length:Int))),(32,(aI s2.2.2.2)),(39,(z69o1_5 a4)),(40,(aI (a4.length:Int))),(41,(aI s3.2.2.2.2.2))]
noncomputable abbrev z69o1_3 (a0:T27) (a1:List T41) (a2:List Int) (a3:List Int) (a4:List Int):Ob:=(.cells (g27 a0++([(.ap 2 a1.length (cF e41 a1) (.tok 0 41)),(.ap 1 a2.length (cF dI a2) (.tok 1 3)),(.ap 1 a3.length (cF (D.int .u16) a3) (.tok 2 38)),(z69o1_5 a4)]:List AV)))
noncomputable abbrev z69o1_4 (a0:T27) (s2:(List T194)×(List T194)×(List Bool)×Int) (y1:(List Int)):List (Nat×AV):=[(0,(.ptr 0 0)),(3,(.vec 48 1 y1.length)),(4,(.ap 5 s2.1.length (cF e194 s2.1) (.tok 1120 194))),(5,(.ap 5 s2.2.1.length (cF e194 s2.2.1) (.tok 1456 194))),(7,(.arr 224 1 (a0.Transitions.length:Int).toNat)),(30,(.vec 48 1 y1.length)),(31,(aI (y1.length:Int))),(32,(aI s2.2.2.2))]
noncomputable abbrev z69o1_7 (a0:T27):AV:=(aI ((a0.Transitions.length:Int).toNat:Int))
noncomputable def q69o1 (a0:T27) (a1:List T41) (a2 a3 a4:List Int) (y:(List T194)):OF:=⟨(.ap 5 y.length (cF e194 y) (.tok 1616 194)),[(0,(z69o1_0 a0 a1 a2 a3 a4))],[1616,48,49,50]⟩
noncomputable def o69o1_0 (a0:T27) (a1:List T41) (a2 a3 a4:List Int) (x:(List Int)):OT:=⟨(.vec 48 1 x.length),[0],[0,1,2],[(48,(.vec 3 1 x.length (cF dI x))),(0,(z69o1_0 a0 a1 a2 a3 a4))],[48,49,50]⟩
noncomputable def d69o1 (a0:T27) (a1:List T41) (a2 a3 a4:List Int):JO Tryz.prog Tryz.f69 [(.ptr 0 0)] [(0,(z69o1_3 a0 a1 a2 a3 a4))] [0,1,2] (q69o1 a0 a1 a2 a3 a4) :=
 (.sq 4 [(1,⟨(List Int),fun x=>[],fun x=>[(48,(o69o1_0 a0 a1 a2 a3 a4 x))],[]⟩)] [(0,[0,3,4,5,7],[48,224,0])] (fun(y1:(List Int))=>⟨[(0,(.ptr 0 0)),(3,(.vec 48 1 y1.length)),(4,aN),(5,aN),(7,(.arr 224 1 (a0.Transitions.length:Int).toNat))],[(48,(.vec 3 1 y1.length (cF dI y1))),(224,(.arr 1 (a0.Transitions.length:Int).toNat (fun _=>(.bool false)))),(0,(z69o1_0 a0 a1 a2 a3 a4))],[48,49,50],256⟩) (c3 (p:=fun x1=>ObjL Tryz.prog 119 [(.ptr 0 0)] [(0,some (z69o1_3 a0 a1 a2 a3 a4))] 48 (o69o1_0 a0 a1 a2 a3 a4 x1)) (fun x1 (h1:m119o1 a0 a1 a2 a3 a4=some _)=>ok [(0,0)] (idn [0,1,2]) [(0,0),(48,417)] [(48,0),(49,1),(50,2)] (po119o1 h1)) fun x1=>(nd (0≤(a0.Transitions.length:Int)) (nd ((a0.Transitions.length:Int)=(a0.Transitions.length:Int)) (nd ((a0.Transitions.length:Int) * 1≤140737488355328) (nd ((a0.Transitions.length:Int)≤9223372036854775807) (.nx x1)))))) (fun y1=>(.sc (fun(y9:(List T194)×(List T194)×(List Bool))=>⟨[(0,(.ptr 0 0)),(3,(.vec 48 1 y1.length)),(4,(.ap 5 y9.1.length (cF e194 y9.1) (.tok 1120 194))),(5,(.ap 5 y9.2.1.length (cF e194 y9.2.1) (.tok 1456 194))),(7,(.arr 224 1 (a0.Transitions.length:Int).toNat))],[(48,(.vec 3 1 y1.length (cF dI y1))),(224,(.arr 1 (a0.Transitions.length:Int).toNat (cF D.bool y9.2.2))),(0,(z69o1_0 a0 a1 a2 a3 a4))],[1120,1456,48,49,50],1584⟩) (.sq 1 [] [(0,[0,3,4,5,7,30,31,32],[48,224,0])] (fun(_:Unit)=>⟨[(0,(.ptr 0 0)),(3,(.vec 48 1 y1.length)),(4,aN),(5,aN),(7,(.arr 224 1 (a0.Transitions.length:Int).toNat)),(30,(.vec 48 1 y1.length)),(31,(aI (y1.length:Int))),(32,(aI 0))],[(48,(.vec 3 1 y1.length (cF dI y1))),(224,(.arr 1 (a0.Transitions.length:Int).toNat (fun _=>(.bool false)))),(0,(z69o1_0 a0 a1 a2 a3 a4))],[48,49,50],304⟩) (.nx ()) (fun _=>(.bk (.lp (fun(s2:(List T194)×(List T194)×(List Bool)×Int)=>⟨(z69o1_4 a0 s2 y1),[(48,(.vec 3 1 y1.length (cF dI y1))),(224,(.arr 1 (a0.Transitions.length:Int).toNat (cF D.bool s2.2.2.1))),(0,(z69o1_0 a0 a1 a2 a3 a4))],[1120,1456,48,49,50],1568⟩) ([],[],(List.replicate (a0.Transitions.length:Int).toNat false),(0:Int)) (ws (idn [0,48,224]) (idn [48,49,50]) ⟨⟨_,_,rfl,rfl,⟨rfl,rfl,dr⟩⟩,⟨_,_,rfl,rfl,⟨rfl,(de_keep de_rep)⟩⟩,⟨_,_,rfl,rfl,⟨dr,dr,dr,dr,dr,dr,⟨rfl,rfl,rfl,dr⟩,⟨rfl,rfl,rfl,dr⟩,⟨rfl,rfl,rfl,dr⟩,dr,trivial⟩⟩⟩) fun s2=>(.sq 2 [] [(0,[0,3,4,5,7,30,31,32],[48,224,0]),(2,[0,3,4,5,7],[48,224,0])] (fun(_:Unit)=>⟨(z69o1_4 a0 s2 y1),[(48,(.vec 3 1 y1.length (cF dI y1))),(224,(.arr 1 (a0.Transitions.length:Int).toNat (cF D.bool s2.2.2.1))),(0,(z69o1_0 a0 a1 a2 a3 a4))],[1120,1456,48,49,50],1584⟩) (.ite (decide (s2.2.2.2 < (y1.length:Int))) (.nx ()) (.ret (.exit 0) _ (.inr (.inr (.inl (s2.1,s2.2.1,s2.2.2.1)))) ⟨rfl,rfl,rfl,Weak.refl _⟩)) (fun _=>(.sc (fun(y8:(List T194)×(List T194)×(List Bool))=>⟨[(0,(.ptr 0 0)),(3,(.vec 48 1 y1.length)),(4,(.ap 5 y8.1.length (cF e194 y8.1) (.tok 1120 194))),(5,(.ap 5 y8.2.1.length (cF e194 y8.2.1) (.tok 1456 194))),(7,(.arr 224 1 (a0.Transitions.length:Int).toNat)),(30,(.vec 48 1 y1.length)),(31,(aI (y1.length:Int))),(32,(aI s2.2.2.2))],[(48,(.vec 3 1 y1.length (cF dI y1))),(224,(.arr 1 (a0.Transitions.length:Int).toNat (cF D.bool y8.2.2))),(0,(z69o1_0 a0 a1 a2 a3 a4))],[1120,1456,48,49,50],2800⟩) (.bk (.sq 3 [] [(0,[0,3,4,5,7,9,10,11,30,31,32,39,40,41],[48,224,0])] (fun(_:Unit)=>⟨[(0,(.ptr 0 0)),(3,(.vec 48 1 y1.length)),(4,(.ap 5 s2.1.length (cF e194 s2.1) (.tok 1120 194))),(5,(.ap 5 s2.2.1.length (cF e194 s2.2.1) (.tok 1456 194))),(7,(.arr 224 1 (a0.Transitions.length:Int).toNat)),(9,(z69o1_6 s2 y1)),(10,(aB false)),(11,(aB false)),(30,(.vec 48 1 y1.length)),(31,(aI (y1.length:Int))),(32,(aI s2.2.2.2)),(39,(z69o1_5 a4)),(40,(aI (a4.length:Int))),(41,(aI 0))],[(48,(.vec 3 1 y1.length (cF dI y1))),(224,(.arr 1 (a0.Transitions.length:Int).toNat (cF D.bool s2.2.2.1))),(0,(z69o1_0 a0 a1 a2 a3 a4))],[1120,1456,48,49,50],1760⟩) (nd (0≤s2.2.2.2) (nd (s2.2.2.2 < (y1.length:Int)) (nd (s2.2.2.2.toNat < y1.length) (.nx ())))) (fun _=>(.bk (.lp (fun(s3:(List T194)×(List T194)×(List Bool)×Bool×Bool×Int)=>⟨(z69o1_1 a0 a4 s2 s3 y1),[(48,(.vec 3 1 y1.length (cF dI y1))),(224,(.arr 1 (a0.Transitions.length:Int).toNat (cF D.bool s3.2.2.1))),(0,(z69o1_0 a0 a1 a2 a3 a4))],[1120,1456,48,49,50],2784⟩) (s2.1,s2.2.1,s2.2.2.1,false,false,(0:Int)) (wk (idn [0,48,224]) (idn [1120,1456,48,49,50])) fun s3=>(.sq 2 [] [(0,[0,3,4,5,7,9,10,11,30,31,32,39,40,41],[48,224,0]),(4,[0,3,4,5,7,30,31,32],[48,224,0])] (fun(_:Unit)=>⟨(z69o1_1 a0 a4 s2 s3 y1),[(48,(.vec 3 1 y1.length (cF dI y1))),(224,(.arr 1 (a0.Transitions.length:Int).toNat (cF D.bool s3.2.2.1))),(0,(z69o1_0 a0 a1 a2 a3 a4))],[1120,1456,48,49,50],2800⟩) (.ite (decide (s3.2.2.2.2.2 < (a4.length:Int))) (.nx ()) (.ret (.exit 2) _ (.inr (.inr (.inl (s3.1,s3.2.1,s3.2.2.1)))) ⟨rfl,rfl,rfl,Weak.refl _⟩)) (fun _=>(.sc (fun(y7:(List T194)×(List T194)×(List Bool)×Bool×Bool)=>⟨[(0,(.ptr 0 0)),(3,(.vec 48 1 y1.length)),(4,(.ap 5 y7.1.length (cF e194 y7.1) (.tok 3408 194))),(5,(.ap 5 y7.2.1.length (cF e194 y7.2.1) (.tok 3744 194))),(7,(.arr 224 1 (a0.Transitions.length:Int).toNat)),(9,(z69o1_6 s2 y1)),(10,(aB y7.2.2.2.1)),(11,(aB y7.2.2.2.2)),(30,(.vec 48 1 y1.length)),(31,(aI (y1.length:Int))),(32,(aI s2.2.2.2)),(39,(z69o1_5 a4)),(40,(aI (a4.length:Int))),(41,(aI s3.2.2.2.2.2))],[(48,(.vec 3 1 y1.length (cF dI y1))),(224,(.arr 1 (a0.Transitions.length:Int).toNat (cF D.bool y7.2.2.1))),(0,(z69o1_0 a0 a1 a2 a3 a4))],[3408,3744,48,49,50],3776⟩) (.bk (.sq 2 [(11,tm1 51 (eSl 1 dI))] [(0,[0,3,4,5,7,9,10,11,13,14,30,31,32,39,40,41],[48,224,0])] (fun(y4:(List Int))=>⟨(z69o1_2 a0 a4 s2 s3 y1 y4),[(48,(.vec 3 1 y1.length (cF dI y1))),(224,(.arr 1 (a0.Transitions.length:Int).toNat (cF D.bool s3.2.2.1))),(0,(z69o1_0 a0 a1 a2 a3 a4))],[1120,1456,48,49,50],2976⟩) (nd (0≤s3.2.2.2.2.2) (nd (s3.2.2.2.2.2 < (a4.length:Int)) (c3 (@p33 a0 (y1.getD s2.2.2.2.toNat default) (a4.getD s3.2.2.2.2.2.toNat default)) fun x11=>(.nx x11)))) (fun y4=>(.sc (fun(y6:(List Bool))=>⟨(z69o1_2 a0 a4 s2 s3 y1 y4),[(48,(.vec 3 1 y1.length (cF dI y1))),(224,(.arr 1 (a0.Transitions.length:Int).toNat (cF D.bool y6))),(0,(z69o1_0 a0 a1 a2 a3 a4))],[1120,1456,48,49,50],3200⟩) (.sq 1 [] [(0,[0,3,4,5,7,9,10,11,13,14,30,31,32,39,40,41,52,53,54],[48,224,0])] (fun(_:Unit)=>⟨[(0,(.ptr 0 0)),(3,(.vec 48 1 y1.length)),(4,(.ap 5 s3.1.length (cF e194 s3.1) (.tok 1120 194))),(5,(.ap 5 s3.2.1.length (cF e194 s3.2.1) (.tok 1456 194))),(7,(.arr 224 1 (a0.Transitions.length:Int).toNat)),(9,(z69o1_6 s2 y1)),(10,(aB s3.2.2.2.1)),(11,(aB s3.2.2.2.2.1)),(13,(.d (.int .u16 (a4.getD s3.2.2.2.2.2.toNat default)))),(14,(.d (eSl 1 dI y4))),(30,(.vec 48 1 y1.length)),(31,(aI (y1.length:Int))),(32,(aI s2.2.2.2)),(39,(z69o1_5 a4)),(40,(aI (a4.length:Int))),(41,(aI s3.2.2.2.2.2)),(52,(.d (eSl 1 dI y4))),(53,(aI (y4.length:Int))),(54,(aI 0))],[(48,(.vec 3 1 y1.length (cF dI y1))),(224,(.arr 1 (a0.Transitions.length:Int).toNat (cF D.bool s3.2.2.1))),(0,(z69o1_0 a0 a1 a2 a3 a4))],[1120,1456,48,49,50],3024⟩) (.nx ()) (fun _=>(.bk (.lp (fun(s5:(List Bool)×Int)=>⟨[(0,(.ptr 0 0)),(3,(.vec 48 1 y1.length)),(4,(.ap 5 s3.1.length (cF e194 s3.1) (.tok 1120 194))),(5,(.ap 5 s3.2.1.length (cF e194 s3.2.1) (.tok 1456 194))),(7,(.arr 224 1 (a0.Transitions.length:Int).toNat)),(9,(z69o1_6 s2 y1)),(10,(aB s3.2.2.2.1)),(11,(aB s3.2.2.2.2.1)),(13,(.d (.int .u16 (a4.getD s3.2.2.2.2.2.toNat default)))),(14,(.d (eSl 1 dI y4))),(30,(.vec 48 1 y1.length)),(31,(aI (y1.length:Int))),(32,(aI s2.2.2.2)),(39,(z69o1_5 a4)),(40,(aI (a4.length:Int))),(41,(aI s3.2.2.2.2.2)),(52,(.d (eSl 1 dI y4))),(53,(aI (y4.length:Int))),(54,(aI s5.2))],[(48,(.vec 3 1 y1.length (cF dI y1))),(224,(.arr 1 (a0.Transitions.length:Int).toNat (cF D.bool s5.1))),(0,(z69o1_0 a0 a1 a2 a3 a4))],[1120,1456,48,49,50],3184⟩) (s3.2.2.1,(0:Int)) (wk (idn [0,48,224]) (idn [1120,1456,48,49,50])) fun s5=>(.sg [] [(0,[0,3,4,5,7,9,10,11,13,14,30,31,32,39,40,41,52,53,54],[48,224,0]),(6,[0,3,4,5,7,9,10,11,13,14,30,31,32,39,40,41],[48,224,0])] (.ite (decide (s5.2 < (y4.length:Int))) (nd (0≤s5.2) (nd (s5.2 < (y4.length:Int)) (nd (0≤(y4.getD s5.2.toNat default)) (nd ((y4.getD s5.2.toNat default) < ((a0.Transitions.length:Int).toNat:Int)) (nd ((y4.getD s5.2.toNat default).toNat < (a0.Transitions.length:Int).toNat) (.ret .normal ⟨[(0,(.ptr 0 0)),(3,(.vec 48 1 y1.length)),(4,(.ap 5 s3.1.length (cF e194 s3.1) (.tok 1120 194))),(5,(.ap 5 s3.2.1.length (cF e194 s3.2.1) (.tok 1456 194))),(7,(.arr 224 1 (a0.Transitions.length:Int).toNat)),(9,(z69o1_6 s2 y1)),(10,(aB s3.2.2.2.1)),(11,(aB s3.2.2.2.2.1)),(13,(.d (.int .u16 (a4.getD s3.2.2.2.2.2.toNat default)))),(14,(.d (eSl 1 dI y4))),(30,(.vec 48 1 y1.length)),(31,(aI (y1.length:Int))),(32,(aI s2.2.2.2)),(39,(z69o1_5 a4)),(40,(aI (a4.length:Int))),(41,(aI s3.2.2.2.2.2)),(52,(.d (eSl 1 dI y4))),(53,(aI (y4.length:Int))),(54,(aI (IntKind.wrap .i64 (s5.2+1))))],[(48,(.vec 3 1 y1.length (cF dI y1))),(224,(.arr 1 (a0.Transitions.length:Int).toNat (fun k=>if k=(y4.getD s5.2.toNat default).toNat then(.bool true)else(cF D.bool s5.1) k))),(0,(z69o1_0 a0 a1 a2 a3 a4))],[1120,1456,48,49,50],3344⟩ (.inl (((subL s5.1 0 (a0.Transitions.length:Int).toNat).set (y4.getD s5.2.toNat default).toNat true),(IntKind.wrap .i64 (s5.2+1)))) ⟨rfl,(ws (idn [0,48,224]) (idn [1120,1456,48,49,50]) ⟨⟨_,_,rfl,rfl,⟨rfl,rfl,dr⟩⟩,⟨_,_,rfl,rfl,⟨rfl,(de_keep (de_set de_sub0))⟩⟩,⟨_,_,rfl,rfl,⟨dr,dr,dr,dr,dr,dr,⟨rfl,rfl,rfl,dr⟩,⟨rfl,rfl,rfl,dr⟩,⟨rfl,rfl,rfl,dr⟩,dr,trivial⟩⟩⟩)⟩)))))) (.ret (.exit 4) _ (.inr (.inl s5.1)) ⟨rfl,rfl,Weak.refl _⟩))))))) fun y6=>(.sg [] [(0,[0,3,4,5,7,9,10,11,30,31,32,39,40,41],[48,224,0])] (.ite (((y4.length:Int)==(0:Int))&&(!s3.2.2.2.1)) (nd ((s3.1.length+1) * 40≤140737488355328) (.ite ((decide (1 < (y4.length:Int)))&&(!s3.2.2.2.2.1)) (nd ((0:Int)≤(0:Int)) (nd (0 < (y4.length:Int)) (nd ((0:Int)≤(1:Int)) (nd (1 < (y4.length:Int)) (nd ((s3.2.1.length+1) * 40≤140737488355328) (.ret .normal ⟨[(0,(.ptr 0 0)),(3,(.vec 48 1 y1.length)),(4,(.ap 5 (s3.1.length+1) (appF s3.1.length (cF e194 s3.1) (litF [(.agg [(.int .u8 1),(dI (y1.getD s2.2.2.2.toNat default)),(.int .u16 (a4.getD s3.2.2.2.2.2.toNat default)),(dI (-1)),(dI (-1))])])) (.tok 3408 194))),(5,(.ap 5 (s3.2.1.length+1) (appF s3.2.1.length (cF e194 s3.2.1) (litF [(.agg [(.int .u8 2),(dI (y1.getD s2.2.2.2.toNat default)),(.int .u16 (a4.getD s3.2.2.2.2.2.toNat default)),(dI (y4.getD (0:Int).toNat default)),(dI (y4.getD (1:Int).toNat default))])])) (.tok 3744 194))),(7,(.arr 224 1 (a0.Transitions.length:Int).toNat)),(9,(z69o1_6 s2 y1)),(10,(aB true)),(11,(aB true)),(30,(.vec 48 1 y1.length)),(31,(aI (y1.length:Int))),(32,(aI s2.2.2.2)),(39,(z69o1_5 a4)),(40,(aI (a4.length:Int))),(41,(aI s3.2.2.2.2.2))],[(48,(.vec 3 1 y1.length (cF dI y1))),(224,(.arr 1 (a0.Transitions.length:Int).toNat (cF D.bool y6))),(0,(z69o1_0 a0 a1 a2 a3 a4))],[3744,3728,3408,3392,48,49,50],3776⟩ (.inl ((s3.1++([(⟨(1:Int),(y1.getD s2.2.2.2.toNat default),(a4.getD s3.2.2.2.2.2.toNat default),(-1:Int),(-1:Int)⟩:T194)]:List T194)),(s3.2.1++([(⟨(2:Int),(y1.getD s2.2.2.2.toNat default),(a4.getD s3.2.2.2.2.2.toNat default),(y4.getD (0:Int).toNat default),(y4.getD (1:Int).toNat default)⟩:T194)]:List T194)),y6,true,true)) ⟨rfl,(wh (idn [0,48,224]) (idn [3408,3744,48,49,50]) ⟨⟨rfl,rfl⟩,⟨rfl,rfl,rfl⟩,⟨rfl,rfl,rfl,(de_app dr (de_lit rfl rfl))⟩,⟨rfl,rfl,rfl,(de_app dr (de_lit rfl rfl))⟩,⟨rfl,rfl,rfl⟩,dr,dr,dr,⟨rfl,rfl,rfl⟩,dr,dr,dr,dr,dr⟩)⟩)))))) (.ret .normal ⟨[(0,(.ptr 0 0)),(3,(.vec 48 1 y1.length)),(4,(.ap 5 (s3.1.length+1) (appF s3.1.length (cF e194 s3.1) (litF [(.agg [(.int .u8 1),(dI (y1.getD s2.2.2.2.toNat default)),(.int .u16 (a4.getD s3.2.2.2.2.2.toNat default)),(dI (-1)),(dI (-1))])])) (.tok 3408 194))),(5,(.ap 5 s3.2.1.length (cF e194 s3.2.1) (.tok 1456 194))),(7,(.arr 224 1 (a0.Transitions.length:Int).toNat)),(9,(z69o1_6 s2 y1)),(10,(aB true)),(11,(aB s3.2.2.2.2.1)),(30,(.vec 48 1 y1.length)),(31,(aI (y1.length:Int))),(32,(aI s2.2.2.2)),(39,(z69o1_5 a4)),(40,(aI (a4.length:Int))),(41,(aI s3.2.2.2.2.2))],[(48,(.vec 3 1 y1.length (cF dI y1))),(224,(.arr 1 (a0.Transitions.length:Int).toNat (cF D.bool y6))),(0,(z69o1_0 a0 a1 a2 a3 a4))],[3408,3392,1456,48,49,50],3552⟩ (.inl ((s3.1++([(⟨(1:Int),(y1.getD s2.2.2.2.toNat default),(a4.getD s3.2.2.2.2.2.toNat default),(-1:Int),(-1:Int)⟩:T194)]:List T194)),s3.2.1,y6,true,s3.2.2.2.2.1)) ⟨rfl,(wh (idn [0,48,224]) [(3408,3408),(3744,1456),(48,48),(49,49),(50,50)] ⟨⟨rfl,rfl⟩,⟨rfl,rfl,rfl⟩,⟨rfl,rfl,rfl,(de_app dr (de_lit rfl rfl))⟩,⟨rfl,rfl,rfl,dr⟩,⟨rfl,rfl,rfl⟩,dr,dr,dr,⟨rfl,rfl,rfl⟩,dr,dr,dr,dr,dr⟩)⟩))) (.ite ((decide (1 < (y4.length:Int)))&&(!s3.2.2.2.2.1)) (nd ((0:Int)≤(0:Int)) (nd (0 < (y4.length:Int)) (nd ((0:Int)≤(1:Int)) (nd (1 < (y4.length:Int)) (nd ((s3.2.1.length+1) * 40≤140737488355328) (.ret .normal ⟨[(0,(.ptr 0 0)),(3,(.vec 48 1 y1.length)),(4,(.ap 5 s3.1.length (cF e194 s3.1) (.tok 1120 194))),(5,(.ap 5 (s3.2.1.length+1) (appF s3.2.1.length (cF e194 s3.2.1) (litF [(.agg [(.int .u8 2),(dI (y1.getD s2.2.2.2.toNat default)),(.int .u16 (a4.getD s3.2.2.2.2.2.toNat default)),(dI (y4.getD (0:Int).toNat default)),(dI (y4.getD (1:Int).toNat default))])])) (.tok 3616 194))),(7,(.arr 224 1 (a0.Transitions.length:Int).toNat)),(9,(z69o1_6 s2 y1)),(10,(aB s3.2.2.2.1)),(11,(aB true)),(30,(.vec 48 1 y1.length)),(31,(aI (y1.length:Int))),(32,(aI s2.2.2.2)),(39,(z69o1_5 a4)),(40,(aI (a4.length:Int))),(41,(aI s3.2.2.2.2.2))],[(48,(.vec 3 1 y1.length (cF dI y1))),(224,(.arr 1 (a0.Transitions.length:Int).toNat (cF D.bool y6))),(0,(z69o1_0 a0 a1 a2 a3 a4))],[3616,3600,1120,48,49,50],3648⟩ (.inl (s3.1,(s3.2.1++([(⟨(2:Int),(y1.getD s2.2.2.2.toNat default),(a4.getD s3.2.2.2.2.2.toNat default),(y4.getD (0:Int).toNat default),(y4.getD (1:Int).toNat default)⟩:T194)]:List T194)),y6,s3.2.2.2.1,true)) ⟨rfl,(wh (idn [0,48,224]) [(3408,1120),(3744,3616),(48,48),(49,49),(50,50)] ⟨⟨rfl,rfl⟩,⟨rfl,rfl,rfl⟩,⟨rfl,rfl,rfl,dr⟩,⟨rfl,rfl,rfl,(de_app dr (de_lit rfl rfl))⟩,⟨rfl,rfl,rfl⟩,dr,dr,dr,⟨rfl,rfl,rfl⟩,dr,dr,dr,dr,dr⟩)⟩)))))) (.ret .normal ⟨(z69o1_1 a0 a4 s2 s3 y1),[(48,(.vec 3 1 y1.length (cF dI y1))),(224,(.arr 1 (a0.Transitions.length:Int).toNat (cF D.bool y6))),(0,(z69o1_0 a0 a1 a2 a3 a4))],[1120,1456,48,49,50],3424⟩ (.inl (s3.1,s3.2.1,y6,s3.2.2.2.1,s3.2.2.2.2.1)) ⟨rfl,(wk (idn [0,48,224]) [(3408,1120),(3744,1456),(48,48),(49,49),(50,50)])⟩)))))))) fun y7=>(.sg [] [(0,[0,3,4,5,7,9,10,11,30,31,32,39,40,41],[48,224,0])] (.ret .normal ⟨[(0,(.ptr 0 0)),(3,(.vec 48 1 y1.length)),(4,(.ap 5 y7.1.length (cF e194 y7.1) (.tok 3408 194))),(5,(.ap 5 y7.2.1.length (cF e194 y7.2.1) (.tok 3744 194))),(7,(.arr 224 1 (a0.Transitions.length:Int).toNat)),(9,(z69o1_6 s2 y1)),(10,(aB y7.2.2.2.1)),(11,(aB y7.2.2.2.2)),(30,(.vec 48 1 y1.length)),(31,(aI (y1.length:Int))),(32,(aI s2.2.2.2)),(39,(z69o1_5 a4)),(40,(aI (a4.length:Int))),(41,(aI (IntKind.wrap .i64 (s3.2.2.2.2.2+1))))],[(48,(.vec 3 1 y1.length (cF dI y1))),(224,(.arr 1 (a0.Transitions.length:Int).toNat (cF D.bool y7.2.2.1))),(0,(z69o1_0 a0 a1 a2 a3 a4))],[3408,3744,48,49,50],3808⟩ (.inl (y7.1,y7.2.1,y7.2.2.1,y7.2.2.2.1,y7.2.2.2.2,(IntKind.wrap .i64 (s3.2.2.2.2.2+1)))) ⟨rfl,(wk (idn [0,48,224]) [(1120,3408),(1456,3744),(48,48),(49,49),(50,50)])⟩)))))))))) fun y8=>(.sg [] [(0,[0,3,4,5,7,30,31,32],[48,224,0])] (.ret .normal ⟨[(0,(.ptr 0 0)),(3,(.vec 48 1 y1.length)),(4,(.ap 5 y8.1.length (cF e194 y8.1) (.tok 1120 194))),(5,(.ap 5 y8.2.1.length (cF e194 y8.2.1) (.tok 1456 194))),(7,(.arr 224 1 (a0.Transitions.length:Int).toNat)),(30,(.vec 48 1 y1.length)),(31,(aI (y1.length:Int))),(32,(aI (IntKind.wrap .i64 (s2.2.2.2+1))))],[(48,(.vec 3 1 y1.length (cF dI y1))),(224,(.arr 1 (a0.Transitions.length:Int).toNat (cF D.bool y8.2.2))),(0,(z69o1_0 a0 a1 a2 a3 a4))],[1120,1456,48,49,50],2832⟩ (.inl (y8.1,y8.2.1,y8.2.2,(IntKind.wrap .i64 (s2.2.2.2+1)))) ⟨rfl,(wk (idn [0,48,224]) (idn [1120,1456,48,49,50]))⟩))))))))) fun y9=>(.sq 1 [] [(0,[0,3,6,7],[48,224,0])] (fun(_:Unit)=>⟨[(0,(.ptr 0 0)),(3,(.vec 48 1 y1.length)),(6,(.ap 5 (y9.1++y9.2.1).length (cF e194 (y9.1++y9.2.1)) (.tok 1616 194))),(7,(.arr 224 1 (a0.Transitions.length:Int).toNat))],[(48,(.vec 3 1 y1.length (cF dI y1))),(224,(.arr 1 (a0.Transitions.length:Int).toNat (cF D.bool y9.2.2))),(0,(z69o1_0 a0 a1 a2 a3 a4))],[1616,48,49,50],1648⟩) (nd ((y9.1.length+y9.2.1.length) * 40≤140737488355328) (.ret .normal ⟨[(0,(.ptr 0 0)),(3,(.vec 48 1 y1.length)),(6,(.ap 5 (y9.1.length+y9.2.1.length) (appF y9.1.length (cF e194 y9.1) (cF e194 y9.2.1)) (.tok 1616 194))),(7,(.arr 224 1 (a0.Transitions.length:Int).toNat))],[(48,(.vec 3 1 y1.length (cF dI y1))),(224,(.arr 1 (a0.Transitions.length:Int).toNat (cF D.bool y9.2.2))),(0,(z69o1_0 a0 a1 a2 a3 a4))],[1616,1456,48,49,50],1648⟩ (.inl ()) ⟨rfl,(wh (idn [0,48,224]) (idn [1616,48,49,50]) ⟨⟨rfl,rfl⟩,⟨rfl,rfl,rfl⟩,⟨rfl,rfl,rfl,(de_app dr dr)⟩,⟨rfl,rfl,rfl⟩⟩)⟩)) (fun _=>(.sc (fun(y12:(List T194))=>⟨[(0,(.ptr 0 0)),(6,(.ap 5 y12.length (cF e194 y12) (.tok 1616 194))),(7,(.arr 224 1 (a0.Transitions.length:Int).toNat))],[(224,(.arr 1 (a0.Transitions.length:Int).toNat (cF D.bool y9.2.2))),(0,(z69o1_0 a0 a1 a2 a3 a4))],[1616,48,49,50],2032⟩) (.sq 1 [(26,tm1 103 (eSl 1 dI))] [(0,[0,3,6,7,103,104,105],[48,224,0])] (fun(y10:(List Int)×Int)=>⟨[(0,(.ptr 0 0)),(3,(.vec 48 1 y1.length)),(6,(.ap 5 (y9.1++y9.2.1).length (cF e194 (y9.1++y9.2.1)) (.tok 1616 194))),(7,(.arr 224 1 (a0.Transitions.length:Int).toNat)),(103,(.d (eSl 1 dI y10.1))),(104,(aI y10.2)),(105,(aI 0))],[(48,(.vec 3 1 y1.length (cF dI y1))),(224,(.arr 1 (a0.Transitions.length:Int).toNat (cF D.bool y9.2.2))),(0,(z69o1_0 a0 a1 a2 a3 a4))],[1616,48,49,50],1760⟩) (c3 (@p120 a0) fun x26=>(.nx (x26,(x26.length:Int)))) (fun y10=>(.bk (.lp (fun(s11:(List T194)×Int)=>⟨[(0,(.ptr 0 0)),(3,(.vec 48 1 y1.length)),(6,(.ap 5 s11.1.length (cF e194 s11.1) (.tok 1616 194))),(7,(.arr 224 1 (a0.Transitions.length:Int).toNat)),(103,(.d (eSl 1 dI y10.1))),(104,(aI y10.2)),(105,(aI s11.2))],[(48,(.vec 3 1 y1.length (cF dI y1))),(224,(.arr 1 (a0.Transitions.length:Int).toNat (cF D.bool y9.2.2))),(0,(z69o1_0 a0 a1 a2 a3 a4))],[1616,48,49,50],2016⟩) ((y9.1++y9.2.1),(0:Int)) (wk (idn [0,48,224]) (idn [1616,48,49,50])) fun s11=>(.sg [(29,tm1 111 D.bool)] [(0,[0,3,6,7,103,104,105],[48,224,0]),(8,[0,6,7],[224,0])] (.ite (decide (s11.2 < y10.2)) (nd (0≤s11.2) (nd (s11.2 < (y10.1.length:Int)) (c3 (@p71 y1 (y10.1.getD s11.2.toNat default)) fun x29=>(.ite (!x29) (nd ((s11.1.length+1) * 40≤140737488355328) (.ret .normal ⟨[(0,(.ptr 0 0)),(3,(.vec 48 1 y1.length)),(6,(.ap 5 (s11.1.length+1) (appF s11.1.length (cF e194 s11.1) (litF [(.agg [(.int .u8 3),(dI (y10.1.getD s11.2.toNat default)),(.int .u16 0),(dI (-1)),(dI (-1))])])) (.tok 2208 194))),(7,(.arr 224 1 (a0.Transitions.length:Int).toNat)),(103,(.d (eSl 1 dI y10.1))),(104,(aI y10.2)),(105,(aI (IntKind.wrap .i64 (s11.2+1))))],[(48,(.vec 3 1 y1.length (cF dI y1))),(224,(.arr 1 (a0.Transitions.length:Int).toNat (cF D.bool y9.2.2))),(0,(z69o1_0 a0 a1 a2 a3 a4))],[2208,2192,48,49,50],2272⟩ (.inl ((s11.1++([(⟨(3:Int),(y10.1.getD s11.2.toNat default),(0:Int),(-1:Int),(-1:Int)⟩:T194)]:List T194)),(IntKind.wrap .i64 (s11.2+1)))) ⟨rfl,(wh (idn [0,48,224]) [(1616,2208),(48,48),(49,49),(50,50)] ⟨⟨rfl,rfl⟩,⟨rfl,rfl,rfl⟩,⟨rfl,rfl,rfl,(de_app dr (de_lit rfl rfl))⟩,⟨rfl,rfl,rfl⟩,dr,dr,dr⟩)⟩)) (.ret .normal ⟨[(0,(.ptr 0 0)),(3,(.vec 48 1 y1.length)),(6,(.ap 5 s11.1.length (cF e194 s11.1) (.tok 1616 194))),(7,(.arr 224 1 (a0.Transitions.length:Int).toNat)),(103,(.d (eSl 1 dI y10.1))),(104,(aI y10.2)),(105,(aI (IntKind.wrap .i64 (s11.2+1))))],[(48,(.vec 3 1 y1.length (cF dI y1))),(224,(.arr 1 (a0.Transitions.length:Int).toNat (cF D.bool y9.2.2))),(0,(z69o1_0 a0 a1 a2 a3 a4))],[1616,48,49,50],2176⟩ (.inl (s11.1,(IntKind.wrap .i64 (s11.2+1)))) ⟨rfl,(wk (idn [0,48,224]) (idn [1616,48,49,50]))⟩))))) (.ret (.exit 6) _ (.inr (.inl s11.1)) ⟨rfl,rfl,Weak.refl _⟩))))))) fun y12=>(.sc (fun(y14:(List T194))=>⟨[(0,(.ptr 0 0)),(6,(.ap 5 y14.length (cF e194 y14) (.tok 1616 194)))],[(0,(z69o1_0 a0 a1 a2 a3 a4))],[1616,48,49,50],2352⟩) (.sq 1 [] [(0,[0,6,119,120,121],[224,0])] (fun(_:Unit)=>⟨[(0,(.ptr 0 0)),(6,(.ap 5 y12.length (cF e194 y12) (.tok 1616 194))),(119,(.arr 224 1 (a0.Transitions.length:Int).toNat)),(120,(z69o1_7 a0)),(121,(aI 0))],[(224,(.arr 1 (a0.Transitions.length:Int).toNat (cF D.bool y9.2.2))),(0,(z69o1_0 a0 a1 a2 a3 a4))],[1616,48,49,50],2080⟩) (.nx ()) (fun _=>(.bk (.lp (fun(s13:(List T194)×Int)=>⟨[(0,(.ptr 0 0)),(6,(.ap 5 s13.1.length (cF e194 s13.1) (.tok 1616 194))),(119,(.arr 224 1 (a0.Transitions.length:Int).toNat)),(120,(z69o1_7 a0)),(121,(aI s13.2))],[(224,(.arr 1 (a0.Transitions.length:Int).toNat (cF D.bool y9.2.2))),(0,(z69o1_0 a0 a1 a2 a3 a4))],[1616,48,49,50],2336⟩) (y12,(0:Int)) (wk (idn [0,224]) (idn [1616,48,49,50])) fun s13=>(.sg [] [(0,[0,6,119,120,121],[224,0]),(10,[0,6],[0])] (.ite (decide (s13.2 < ((a0.Transitions.length:Int).toNat:Int))) (nd (0≤s13.2) (nd (s13.2 < ((a0.Transitions.length:Int).toNat:Int)) (nd (s13.2.toNat < (a0.Transitions.length:Int).toNat) (.ite (!(y9.2.2.getD s13.2.toNat default)) (nd ((s13.1.length+1) * 40≤140737488355328) (.ret .normal ⟨[(0,(.ptr 0 0)),(6,(.ap 5 (s13.1.length+1) (appF s13.1.length (cF e194 s13.1) (litF [(.agg [(.int .u8 4),(dI (-1)),(.int .u16 0),(dI s13.2),(dI (-1))])])) (.tok 2528 194))),(119,(.arr 224 1 (a0.Transitions.length:Int).toNat)),(120,(z69o1_7 a0)),(121,(aI (IntKind.wrap .i64 (s13.2+1))))],[(224,(.arr 1 (a0.Transitions.length:Int).toNat (cF D.bool y9.2.2))),(0,(z69o1_0 a0 a1 a2 a3 a4))],[2528,2512,48,49,50],2592⟩ (.inl ((s13.1++([(⟨(4:Int),(-1:Int),(0:Int),s13.2,(-1:Int)⟩:T194)]:List T194)),(IntKind.wrap .i64 (s13.2+1)))) ⟨rfl,(wh (idn [0,224]) [(1616,2528),(48,48),(49,49),(50,50)] ⟨⟨rfl,rfl⟩,⟨rfl,rfl,rfl,(de_app dr (de_lit rfl rfl))⟩,⟨rfl,rfl,rfl⟩,dr,dr⟩)⟩)) (.ret .normal ⟨[(0,(.ptr 0 0)),(6,(.ap 5 s13.1.length (cF e194 s13.1) (.tok 1616 194))),(119,(.arr 224 1 (a0.Transitions.length:Int).toNat)),(120,(z69o1_7 a0)),(121,(aI (IntKind.wrap .i64 (s13.2+1))))],[(224,(.arr 1 (a0.Transitions.length:Int).toNat (cF D.bool y9.2.2))),(0,(z69o1_0 a0 a1 a2 a3 a4))],[1616,48,49,50],2496⟩ (.inl (s13.1,(IntKind.wrap .i64 (s13.2+1)))) ⟨rfl,(wk (idn [0,224]) (idn [1616,48,49,50]))⟩))))) (.ret (.exit 8) _ (.inr (.inl s13.1)) ⟨rfl,rfl,Weak.refl _⟩))))))) fun y14=>(.sg [] [(1,[0,2],[0])] (.ret .ret ⟨[(0,(.ptr 0 0)),(2,(.ap 5 y14.length (cF e194 y14) (.tok 1616 194)))],[(0,(z69o1_0 a0 a1 a2 a3 a4))],[1616,48,49,50],2384⟩ y14 ⟨rfl,(rk [(0,0)] (idn [1616,48,49,50]) 2384)⟩)))))))))
noncomputable def m69o1 (a0:T27) (a1:List T41) (a2 a3 a4:List Int):Option ((List T194)):=(d69o1 a0 a1 a2 a3 a4).m
theorem po69o1 {a0:T27} {a1:List T41} {a2:List Int} {a3:List Int} {a4:List Int} {r:(List T194)} (h:m69o1 a0 a1 a2 a3 a4=some r):ObjF Tryz.prog 69 [(.ptr 0 0)] [(0,(z69o1_3 a0 a1 a2 a3 a4))] [0,1,2] (q69o1 a0 a1 a2 a3 a4 r):=obj_jd (d69o1 a0 a1 a2 a3 a4) Tryz.func69 h
noncomputable def o30_0 (a0:T27) (x:((List T41)×(List Int)×(List Int)×(List Int))):OT:=⟨(.tup [(.ptr 80 0),(aI 0)]),[],[],[(80,(.cells (g27 a0++([(.ap 2 x.1.length (cF e41 x.1) (.tok 80 41)),(.ap 1 x.2.1.length (cF dI x.2.1) (.tok 81 3)),(.ap 1 x.2.2.1.length (cF (D.int .u16) x.2.2.1) (.tok 82 38)),(.d (eSl 1 (D.int .u16) x.2.2.2))]:List AV))))],[80,81,82]⟩
noncomputable def o30_1 (a0:T27) (x:(List T194)×((List T41)×(List Int)×(List Int)×(List Int))):OT:=⟨(.ap 5 x.1.length (cF e194 x.1) (.tok 224 194)),[80],[80,81,82],[(80,(.cells (g27 a0++([(.ap 2 x.2.1.length (cF e41 x.2.1) (.tok 225 41)),(.ap 1 x.2.2.1.length (cF dI x.2.2.1) (.tok 226 3)),(.ap 1 x.2.2.2.1.length (cF (D.int .u16) x.2.2.2.1) (.tok 227 38)),(.d (eSl 1 (D.int .u16) x.2.2.2.2))]:List AV))))],[224,225,226,227]⟩
noncomputable def d30 (a0:T27):JF Tryz.prog Tryz.f30 [(e27 a0)] (fun(r:(List T194)×Int)=>(.tup [(eSl 5 e194 r.1),(dI r.2)])) :=
 (.or (.sg [(1,⟨Int,fun x=>[],fun x=>[(80,⟨(.tup [.nilp,(aI x)]),[],[],[],[]⟩)],[]⟩),(4,⟨Unit,fun x=>[],fun x=>[],[]⟩)] [(1,[2,3],[])] (c3 (p:=fun x1=>ObjL Tryz.prog 68 [(.d (e27 a0))] [] 80 ⟨(.tup [.nilp,(aI x1)]),[],[],[],[]⟩) (fun x1 (h1:m68o1 a0=some _)=>ok [] [] [] [] (po68o1 h1)) fun x1=>(.ite (x1 != 0) (.ret .ret ⟨[(2,aN),(3,(aI x1))],[],[],256⟩ ([],x1) ⟨rfl,_,Weak.refl _,⟨de_nil,dr,trivial⟩⟩) (.exi (Unit) none (fun x4=>.no) (by intro x4 h;cases h) (fun x4 i=>match i with  | _=>.bad))))) (.sg [(1,⟨((List T41)×(List Int)×(List Int)×(List Int)),fun x=>[],fun x=>[(80,(o30_0 a0 x))],[]⟩),(4,⟨(List T194)×((List T41)×(List Int)×(List Int)×(List Int)),fun x=>[],fun x=>[(224,(o30_1 a0 x))],[]⟩)] [(1,[2,3],[])] (c3 (p:=fun x1=>ObjL Tryz.prog 68 [(.d (e27 a0))] [] 80 (o30_0 a0 x1)) (fun x1 (h1:m68o2 a0=some _)=>ok [] [] [(80,384)] [(80,288),(81,304),(82,320)] (po68o2 h1)) fun x1=>(.ite ((0:Int) != (0:Int)) (.ret .ret ⟨[(2,aN),(3,(aI 0))],[],[80,81,82],256⟩ ([],(0:Int)) ⟨rfl,_,Weak.refl _,⟨de_nil,dr,trivial⟩⟩) (.exi ((List T194)×((List T41)×(List Int)×(List Int)×(List Int))) ((m69o1 a0 x1.1 x1.2.1 x1.2.2.1 x1.2.2.2).bind fun r4_0=>some (r4_0,x1)) (fun x4=>(.p (ObjL Tryz.prog 69 [(.ptr 80 0)] [(80,some (.cells (g27 a0++([(.ap 2 x1.1.length (cF e41 x1.1) (.tok 80 41)),(.ap 1 x1.2.1.length (cF dI x1.2.1) (.tok 81 3)),(.ap 1 x1.2.2.1.length (cF (D.int .u16) x1.2.2.1) (.tok 82 38)),(.d (eSl 1 (D.int .u16) x1.2.2.2))]:List AV))))] 224 (o30_1 a0 x4)) (.fin 0))) (by intro x4 h;obtain⟨r4_0,h1,h⟩:=Option.bind_eq_some_iff.1 h;cases h;exact⟨ok [(0,80)] [(0,80),(1,81),(2,82)] [(80,0)] [(224,1616),(225,48),(226,49),(227,50)] (po69o1 h1),trivial⟩) (fun x4 _=>(.ret .ret ⟨[(2,(.ap 5 x4.1.length (cF e194 x4.1) (.tok 224 194))),(3,(aI 0))],[],[224,225,226,227],272⟩ (x4.1,(0:Int)) ⟨rfl,_,Weak.refl _,⟨dr,dr,trivial⟩⟩)))))))
noncomputable def m30 (a0:T27):Option ((List T194)×Int):=(d30 a0).m
theorem p30 {a0:T27} {r:(List T194)×Int} (h:m30 a0=some r):PureAt Tryz.prog 30 [(e27 a0)] (.tup [(eSl 5 e194 r.1),(dI r.2)]):=pure_jd (d30 a0) Tryz.func30 h
noncomputable def d7 (a0:Int):JF Tryz.prog Tryz.f7 [(.int .u8 a0)] (fun(r:Bool)=>(.bool r)) :=
 (.sg [(1,tm1 7 D.bool),(3,tm1 14 (fun(x:(T27×Int))=>(.tup [(e27 x.1),(dI x.2)]))),(4,tm1 19 (fun(x:((List T194)×Int))=>(.tup [(eSl 5 e194 x.1),(dI x.2)])))] [(1,[2],[])] (c3 (@p18) fun x1=>(.ite (!x1) (.ret .ret ⟨[(2,(aB false))],[],[],80⟩ false ⟨rfl,_,Weak.refl _,dr⟩) (.exi ((T27×Int)) (if(3:Int)≠0 then((m20 (IntKind.wrap .i64 ((Int.tmod (IntKind.wrap .i64 (a0)) (3:Int))+1))).bind fun r3_0=>some r3_0)else none) (fun x3=>(.p ((3:Int)≠0) (.p (PureAt Tryz.prog 20 [(dI (IntKind.wrap .i64 ((Int.tmod (IntKind.wrap .i64 (a0)) (3:Int))+1)))] (.tup [(e27 x3.1),(dI x3.2)])) (.fin 0)))) (by intro x3 h;obtain⟨h1,h⟩:=if_some h;obtain⟨r3_0,h2,h⟩:=Option.bind_eq_some_iff.1 h;cases h;exact⟨h1,p20 h2,trivial⟩) (fun x3 _=>(c3 (@p30 x3.1) fun x4=>(.ret .ret ⟨[(2,(aB (((x3.2==0)&&(x4.2==0))&&((x4.1.length:Int)==(0:Int)))))],[],[],544⟩ (((x3.2==0)&&(x4.2==0))&&((x4.1.length:Int)==(0:Int))) ⟨rfl,_,Weak.refl _,dr⟩)))))))
noncomputable def m7 (a0:Int):Option (Bool):=(d7 a0).m
theorem p7 {a0:Int} {r:Bool} (h:m7 a0=some r):PureAt Tryz.prog 7 [(.int .u8 a0)] (.bool r):=pure_jd (d7 a0) Tryz.func7 h
end Go.Av
namespace Go.Av
def firstR {Y:Type} (f:Nat→Option Y) (n:Nat):Option Y:=(List.range n).findSome? f
theorem firstR_succ {Y:Type} {f:Nat→Option Y} {n:Nat}:firstR f (n+1)=match firstR f n with | some y=>some y | none=>f n:=by
 unfold firstR
 rw[List.range_succ,List.findSome?_append]
 cases (List.range n).findSome? f with
 | some y=>rfl
 | none=>simp
theorem firstR_none {Y:Type} {f:Nat→Option Y} {n:Nat}:firstR f n=none↔∀ i,i < n→f i=none:=by
 unfold firstR
 rw[List.findSome?_eq_none_iff]
 exact⟨fun h i hi=>h i (List.mem_range.2 hi),fun h i hi=>h i (List.mem_range.1 hi)⟩
theorem firstR_some {Y:Type} {f:Nat→Option Y} {n:Nat} {y:Y} (h:firstR f n=some y):∃ i,i < n∧f i=some y:=by
 unfold firstR at h
 obtain⟨i,hi,h⟩:=List.exists_of_findSome?_eq_some h
 exact⟨i,List.mem_range.1 hi,h⟩
theorem firstR_at {Y:Type} {f:Nat→Option Y} {n i:Nat} {y:Y} (hi:i < n) (h0:∀ j,j < i→f j=none) (h:f i=some y):firstR f n=some y:=by
 induction n with
 | zero=>omega
 | succ n ih =>
  rw[firstR_succ]
  by_cases hn:i < n
  ·rw[ih hn]
  ·obtain rfl:i=n:=by omega
   rw[firstR_none.2 h0,h]
def anyR (F:Nat→Bool) (n:Nat):Bool:=(List.range n).any F
theorem anyR_iff {F:Nat→Bool} {n:Nat}:anyR F n=true↔∃ i,i < n∧F i=true:=by
 simp only[anyR,List.any_eq_true,List.mem_range]
theorem anyR_false {F:Nat→Bool} {n:Nat}:anyR F n=false↔∀ i,i < n→F i=false:=by
 rw[← Bool.not_eq_true,anyR_iff]
 exact⟨fun h i hi=>by cases hf:F i with | false=>rfl | true=>exact absurd ⟨i,hi,hf⟩ h,fun h ⟨i,hi,hf⟩=>by rw[h i hi]at hf;cases hf⟩
theorem anyR_congr {F G:Nat→Bool} {n:Nat} (h:∀ i,i < n→F i=G i):anyR F n=anyR G n:=by
 rw[Bool.eq_iff_iff,anyR_iff,anyR_iff]
 exact⟨fun⟨i,hi,hf⟩=>⟨i,hi,by rw[← h i hi];exact hf⟩,fun⟨i,hi,hf⟩=>⟨i,hi,by rw[h i hi];exact hf⟩⟩
theorem firstR_any {Y:Type} {F:Nat→Bool} {g:Nat→Y} {n:Nat}:(firstR (fun i=>if F i=true then some (g i)else none) n).isSome=anyR F n:=by
 rw[Bool.eq_iff_iff,anyR_iff,Option.isSome_iff_ne_none,ne_eq,firstR_none]
 constructor
 ·intro h
  apply Classical.byContradiction
  intro hn
  exact h fun i hi=>by
   rw[if_neg]
   exact fun hf=>hn ⟨i,hi,hf⟩
 ·rintro⟨i,hi,hf⟩ h
  have:=h i hi
  rw[if_pos hf]at this;cases this
theorem firstR_const {Y:Type} {F:Nat→Bool} {y:Y} {n:Nat}:firstR (fun i=>if F i=true then some y else none) n=if anyR F n=true then some y else none:=by
 rw[← firstR_any (g:=fun _=>y)]
 cases h:firstR (fun i=>if F i=true then some y else none) n with
 | none=>rfl
 | some z =>
  obtain⟨i,_,h⟩:=firstR_some h
  split at h
  ·injection h with h;subst h;rfl
  ·cases h
def findR (F:Nat→Bool) (n:Nat):Int:=(firstR (fun i=>if F i=true then some (i:Int)else none) n).getD (-1)
theorem findR_any {F:Nat→Bool} {n:Nat}:decide (0≤findR F n)=anyR F n:=by
 rw[← firstR_any (g:=fun i=>(i:Int))]
 unfold findR
 cases h:firstR (fun i=>if F i=true then some (i:Int)else none) n with
 | none=>rfl
 | some y =>
  obtain⟨i,_,h⟩:=firstR_some h
  split at h
  ·injection h with h;subst h;simp
  ·cases h
def orK {R:Type} (o k:Option R):Option R:=match o with
 | some y=>some y
 | none=>k
theorem orK_some {R:Type} {y:R} {k:Option R}:orK (some y) k=some y:=rfl
theorem orK_none {R:Type} {k:Option R}:orK none k=k:=rfl
theorem orK_getD {R:Type} {a:Option R} {d:R}:orK a (some d)=some (a.getD d):=by cases a<;>rfl
theorem orK_total {R:Type} {o k:Option R} (h:∃ y,k=some y):∃ y,orK o k=some y:=by
 cases o with
 | some y=>exact⟨y,rfl⟩
 | none=>exact h
theorem ite_total {R:Type} {p:Prop} [Decidable p] {y:R} {k:Option R} (h:∃ y,k=some y):∃ z,(if p then some y else k)=some z:=by
 split
 ·exact⟨y,rfl⟩
 ·exact h
def exB {S R:Type} (o:Option R) (s:S):Option (S⊕(Unit⊕R)):=match o with
 | some y=>some (.inr (.inr y))
 | none=>some (.inl s)
theorem exB_some {S R:Type} {y:R} {s:S}:exB (some y) s=some (.inr (.inr y)):=rfl
theorem exB_none {S R:Type} {s:S}:exB (none:Option R) s=some (.inl s):=rfl
theorem exB_ite {S R:Type} {p:Prop} [Decidable p] {a b:Option R} {s:S}:exB (if p then a else b) s=if p then exB a s else exB b s:=by split<;>rfl
theorem some_ite {α:Type} {p:Prop} [Decidable p] {a b:α}:some (if p then a else b)=if p then some a else some b:=by split<;>rfl
theorem loop_ex_from {R:Type} {b:Int→Option (Int⊕(Unit⊕R))} (n:Nat) (f:Nat→Option R) (hb:∀ i:Nat,i < n→b i=exB (f i) ((i:Int)+1)) (hd:b n=some (.inr (.inl ()))) :
  ∀ (k i0:Nat),i0+k=n→(∀ i,i < i0→f i=none)→loopO b i0=match firstR f n with | some y=>some (.inr y) | none=>some (.inl ())
 | 0,i0,hk,h0=>by
  obtain rfl:i0=n:=by omega
  rw[loopO_eq,hd,firstR_none.2 h0];rfl
 | k+1,i0,hk,h0=>by
  rw[loopO_eq,hb i0 (by omega)]
  cases hf:f i0 with
  | some y=>rw[firstR_at (by omega) h0 hf];rfl
  | none =>
   have:=loop_ex_from n f hb hd k (i0+1) (by omega) (fun i hi=>by
    by_cases h:i < i0
    ·exact h0 i h
    ·obtain rfl:i=i0:=by omega
     exact hf)
   rw[exB_none]
   simpa using this
theorem loop_ex {R:Type} {b:Int→Option (Int⊕(Unit⊕R))} {k:Unit→Option R} (n:Nat) (f:Nat→Option R) (hb:∀ i:Nat,i < n→b i=exB (f i) ((i:Int)+1)) (hd:b n=some (.inr (.inl ()))) :
  (loopO b 0).bind (onS k)=orK (firstR f n) (k ()):=by
 have:=loop_ex_from n f hb hd n 0 (by omega) (fun i hi=>by omega)
 rw[show ((0:Nat):Int)=0 from rfl]at this
 rw[this]
 cases firstR f n<;>rfl
theorem loop_or {R:Type} {b:Int→Option (Int⊕(Unit⊕R))} {k:Unit→Option R} (n:Nat) (f:Nat→Option R) (hb:∀ i:Nat,i < n→b i=exB (f i) ((i:Int)+1)) (hd:b n=some (.inr (.inl ()))) {z:Option R} (hk:k ()=z) :
  (loopO b 0).bind (onS k)=orK (firstR f n) z:=by rw[loop_ex n f hb hd,hk]
theorem ite_else {α:Type} {p:Prop} [Decidable p] {a b b':α} (h:b=b'):(if p then a else b)=if p then a else b':=by rw[h]
theorem bind_eq {α β:Type} {m m':Option α} {f:α→Option β} {z:Option β} (h:m=m') (h2:m'.bind f=z):m.bind f=z:=by rw[h];exact h2
theorem on_l {Y R:Type} {m:Option (Y⊕R)} {y:Y} {f:Y→Option R} {z:Option R} (h:m=some (.inl y)) (hf:f y=z):m.bind (onS f)=z:=by rw[h];exact hf
theorem flatMap_app {A:Type} (g:Nat→List A) (n:Nat):(List.range (n+1)).flatMap g=(List.range n).flatMap g++g n:=by rw[List.range_succ,List.flatMap_append];simp
theorem loop_coll {A St X:Type} {b:St→Option (St⊕X)} (n:Nat) (mk:Nat→List A→St) (g:Nat→List A) (out:List A→X)
  (hs:∀ i,i < n→b (mk i ((List.range i).flatMap g))=some (.inl (mk (i+1) ((List.range i).flatMap g++g i)))) (he:b (mk n ((List.range n).flatMap g))=some (.inr (out ((List.range n).flatMap g)))) :
  loopO b (mk 0 [])=some (out ((List.range n).flatMap g)):=by
 have key:∀ k i,i+k=n→loopO b (mk i ((List.range i).flatMap g))=some (out ((List.range n).flatMap g)):=by
  intro k
  induction k with
  | zero =>
   intro i hk
   obtain rfl:i=n:=by omega
   rw[loopO_eq,he];rfl
  | succ k ih =>
   intro i hk
   rw[loopO_eq,hs i (by omega),← flatMap_app]
   exact ih (i+1) (by omega)
 exact key n 0 (by omega)
theorem flatMap_len {A:Type} {g:Nat→List A} {m:Nat} (h:∀ i,(g i).length≤m):∀ n,((List.range n).flatMap g).length≤n * m
 | 0=>by simp
 | n+1=>by
  have:=flatMap_len h n
  have:=h n
  rw[flatMap_app,List.length_append,Nat.succ_mul];omega
theorem wr1 {i n:Nat} (h:i < n) (hn:n≤4611686018427387904):IntKind.wrap .i64 ((i:Int)+1)=(i:Int)+1:=w64 (by omega) (by omega)
theorem lt_irr {n:Nat}:¬ ((n:Int) < (n:Int)):=Int.lt_irrefl _
theorem subL_getD {α:Type} [Inhabited α] {l:List α} {k j:Nat} (h:j < k):(subL l 0 k).getD j default=l.getD j default:=by
 simp[subL,List.getD_eq_getElem?_getD,List.getElem?_range h]
theorem inL {i:Nat} {n:Nat} (h:i < n):((0:Int)≤(i:Int))=True∧((i:Int) < (n:Int))=True∧(decide ((i:Int) < (n:Int))=true)=True:=by
 refine⟨eq_true (by omega),eq_true (by omega),eq_true (by simpa using h)⟩
end Go.Av
set_option maxRecDepth 100000
namespace Go.Av.Ch
def odd1 (c:Int):Bool:=(decide (c < 65) || decide (90 < c))&&(decide (c < 48) || decide (57 < c))
def nm0 (s:List UInt8):Bool:=decide (s.length=0) || decide (8 < s.length) || decide (byteAt s 0 < 65) || decide (90 < byteAt s 0)
def nm (s:List UInt8):Bool:=!nm0 s&&!anyR (fun i=>odd1 (byteAt s i)) s.length
theorem nm_loop {s:List UInt8} (hl:s.length≤8) {b:Int→Option (Int⊕(Unit⊕Bool))} (hb:∀ i:Nat,i < s.length→b i=exB (if odd1 (byteAt s i)=true then some false else none) ((i:Int)+1)) (hd:b s.length=some (.inr (.inl ()))) :
  (loopO b 0).bind (onS fun _=>some true)=some (!anyR (fun i=>odd1 (byteAt s i)) s.length):=by
 rw[loop_ex s.length _ hb hd,firstR_const]
 cases anyR (fun i=>odd1 (byteAt s i)) s.length<;>rfl
theorem nm_rname (s:List UInt8):m122 s 8=some (nm s):=by
 have e0:(((s.length:Int)==(0:Int)) || (decide ((8:Int) < (s.length:Int))))=(decide (s.length=0) || decide (8 < s.length)):=by
  rw[Bool.eq_iff_iff];simp only[Bool.or_eq_true,decide_eq_true_eq,beq_iff_eq];omega
 delta m122 d122
 simp only[↓JD.sg_m,↓JD.sq_m,↓JD.sc_m,↓JD.bk_m,↓JD.lp_m,↓JD.cd_m,↓JD.lu_m,↓JD.ct_m,↓JD.ce_m,↓JL.r_m,↓JL.z_m,↓JD.se_m,onE_r,↓Tr.run,↓Tr.run_nd,↓Tr.run_c3,↓Tr.run_c2,↓Tr.run_nx,↓onS,bind_ite,Option.bind_some,Option.bind_none,obR,e0,Int.toNat_zero,Int.le_refl,implies_true,if_true]
 cases h1:(decide (s.length=0) || decide (8 < s.length)) with
 | true=>simp only[Bool.true_or,Bool.not_true,Bool.false_eq_true,false_implies,if_true,nm,nm0,h1,Bool.false_and]
 | false =>
  have hl:s.length≤8∧0 < s.length:=by simp only[Bool.or_eq_false_iff,decide_eq_false_iff_not]at h1;omega
  have z2:(0:Int) < s.length:=by omega
  simp only[Bool.false_or,z2,implies_true,if_true,nm,nm0,h1]
  cases h2:(decide (byteAt s 0 < 65) || decide (90 < byteAt s 0)) with
  | true=>rfl
  | false =>
   simp only[Bool.false_eq_true,if_false,Bool.not_false,Bool.true_and]
   refine nm_loop hl.1 (fun i hi=>?_) ?_
   ·(simp only[exB_ite,exB_some,exB_none];simp only[inL hi,decide_true,Int.toNat_natCast,if_true,implies_true,wr1 hi (by omega)];try rfl)
   ·(simp only[lt_irr,decide_false,Bool.false_eq_true,if_false];try rfl)
theorem nm_name (s:List UInt8):m75 s=some (nm s):=by
 delta m75 d75
 simp only[↓JD.sg_m,↓JD.sq_m,↓JD.sc_m,↓JD.bk_m,↓JD.lp_m,↓JD.cd_m,↓JD.lu_m,↓JD.ct_m,↓JD.ce_m,↓JL.r_m,↓JL.z_m,↓JD.se_m,onE_r,↓Tr.run,↓Tr.run_nd,↓Tr.run_c3,↓Tr.run_c2,↓Tr.run_nx,↓onS,bind_ite,Option.bind_some,Option.bind_none,obR,nm_rname]
def hasK {α:Type} [BEq α] [Inhabited α] (l:List α) (k:Nat) (x:α):Bool:=anyR (fun i=>x==l.getD i default) k
theorem hasK_sub {α:Type} [BEq α] [Inhabited α] {l:List α} {k:Nat} {x:α}:hasK (subL l 0 k) k x=hasK l k x:=anyR_congr fun i hi=>by rw[subL_getD hi]
theorem hasK_iff {α:Type} [BEq α] [LawfulBEq α] [Inhabited α] {l:List α} {x:α}:hasK l l.length x=true↔x∈l:=by
 unfold hasK
 rw[anyR_iff]
 constructor
 ·rintro⟨i,hi,h⟩
  rw[eq_of_beq h];exact getD_mem hi
 ·intro h
  obtain⟨i,hi,h⟩:=List.getElem_of_mem h
  exact⟨i,hi,by simp[List.getD_eq_getElem?_getD,List.getElem?_eq_getElem hi,h]⟩
theorem idx_loop {n:Nat} {F:Nat→Bool} {b:Int→Option (Int⊕(Unit⊕Int))} (hb:∀ i:Nat,i < n→b i=exB (if F i=true then some (i:Int)else none) ((i:Int)+1)) (hd:b n=some (.inr (.inl ()))) :
  (loopO b 0).bind (onS fun _=>some (-1))=some (findR F n):=by
 rw[loop_ex n _ hb hd,orK_getD];rfl
theorem containsS_eq (l:List (List UInt8)) (x:List UInt8) (hl:l.length≤100000):m88 l x=some (hasK l l.length x):=by
 have e:m108 l x=some (findR (fun i=>x==l.getD i default) l.length):=by
  delta m108 d108
  simp only[↓JD.sg_m,↓JD.sq_m,↓JD.sc_m,↓JD.bk_m,↓JD.lp_m,↓JD.cd_m,↓JD.lu_m,↓JD.ct_m,↓JD.ce_m,↓JL.r_m,↓JL.z_m,↓JD.se_m,onE_r,↓Tr.run,↓Tr.run_nd,↓Tr.run_c3,↓Tr.run_c2,↓Tr.run_nx,↓onS,bind_ite,Option.bind_some,Option.bind_none,obR]
  refine idx_loop (fun i hi=>?_) ?_
  ·(simp only[exB_ite,exB_some,exB_none];simp only[inL hi,decide_true,Int.toNat_natCast,if_true,implies_true,wr1 hi (by omega)];try rfl)
  ·(simp only[lt_irr,decide_false,Bool.false_eq_true,if_false];try rfl)
 delta m88 d88
 simp only[↓JD.sg_m,↓JD.sq_m,↓JD.sc_m,↓JD.bk_m,↓JD.lp_m,↓JD.cd_m,↓JD.lu_m,↓JD.ct_m,↓JD.ce_m,↓JL.r_m,↓JL.z_m,↓JD.se_m,onE_r,↓Tr.run,↓Tr.run_nd,↓Tr.run_c3,↓Tr.run_c2,↓Tr.run_nx,↓onS,bind_ite,Option.bind_some,Option.bind_none,obR,e,findR_any,hasK]
theorem indexI_eq (l:List Int) (x:Int) (hl:l.length≤100000):m101 l x=some (findR (fun i=>x==l.getD i default) l.length):=by
 delta m101 d101
 simp only[↓JD.sg_m,↓JD.sq_m,↓JD.sc_m,↓JD.bk_m,↓JD.lp_m,↓JD.cd_m,↓JD.lu_m,↓JD.ct_m,↓JD.ce_m,↓JL.r_m,↓JL.z_m,↓JD.se_m,onE_r,↓Tr.run,↓Tr.run_nd,↓Tr.run_c3,↓Tr.run_c2,↓Tr.run_nx,↓onS,bind_ite,Option.bind_some,Option.bind_none,obR]
 refine idx_loop (fun i hi=>?_) ?_
 ·(simp only[exB_ite,exB_some,exB_none];simp only[inL hi,decide_true,Int.toNat_natCast,if_true,implies_true,wr1 hi (by omega)];try rfl)
 ·(simp only[lt_irr,decide_false,Bool.false_eq_true,if_false];try rfl)
theorem containsI_eq (l:List Int) (x:Int) (hl:l.length≤100000):m71 l x=some (hasK l l.length x):=by
 delta m71 d71
 simp only[↓JD.sg_m,↓JD.sq_m,↓JD.sc_m,↓JD.bk_m,↓JD.lp_m,↓JD.cd_m,↓JD.lu_m,↓JD.ct_m,↓JD.ce_m,↓JL.r_m,↓JL.z_m,↓JD.se_m,onE_r,↓Tr.run,↓Tr.run_nd,↓Tr.run_c3,↓Tr.run_c2,↓Tr.run_nx,↓onS,bind_ite,Option.bind_some,Option.bind_none,obR,indexI_eq l x hl,findR_any,hasK]
def listedS (l:List (List UInt8)) (i:Nat):Int:=if(!nm (l.getD i default))=true then 5 else if hasK l i (l.getD i default)=true then 7 else 0
theorem listed_eq (l:List (List UInt8)) (i:Nat) (hi:i < l.length) (hl:l.length≤100000):m76 l i=some (listedS l i):=by
 have e:=containsS_eq (subL l 0 i) (l.getD i default) (by rw[subL_len];omega)
 rw[subL_len,hasK_sub]at e
 delta m76 d76
 simp only[↓JD.sg_m,↓JD.sq_m,↓JD.sc_m,↓JD.bk_m,↓JD.lp_m,↓JD.cd_m,↓JD.lu_m,↓JD.ct_m,↓JD.ce_m,↓JL.r_m,↓JL.z_m,↓JD.se_m,onE_r,↓Tr.run,↓Tr.run_nd,↓Tr.run_c3,↓Tr.run_c2,↓Tr.run_nx,↓onS,bind_ite,Option.bind_some,Option.bind_none,obR,inL hi,Int.toNat_natCast,if_true,nm_name,e,listedS,some_ite,show (i:Int)≤l.length by omega]
def litF (c:T27) (l:List T151) (i:Nat):Option Int :=
 if(decide ((l.getD i default).Cond < 0) || decide ((c.Conds.length:Int)≤(l.getD i default).Cond))=true then some 2
 else if(decide ((0:Int) < (i:Int))&&decide ((l.getD i default).Cond≤(l.getD ((i:Int) - 1).toNat default).Cond))=true then some 9 else none
def litS (c:T27) (l:List T151):Int:=(firstR (litF c l) l.length).getD 0
theorem literals_eq (c:T27) (l:List T151) (hl:l.length≤100000):m77 c l=some (litS c l):=by
 delta m77 d77
 simp only[↓JD.sg_m,↓JD.sq_m,↓JD.sc_m,↓JD.bk_m,↓JD.lp_m,↓JD.cd_m,↓JD.lu_m,↓JD.ct_m,↓JD.ce_m,↓JL.r_m,↓JL.z_m,↓JD.se_m,onE_r,↓Tr.run,↓Tr.run_nd,↓Tr.run_c3,↓Tr.run_c2,↓Tr.run_nx,↓onS,bind_ite,Option.bind_some,Option.bind_none,obR]
 rw[loop_ex l.length (litF c l) ?_ ?_,orK_getD];rfl
 ·intro i hi
  have w1:IntKind.wrap .i64 ((i:Int) - 1)=(i:Int) - 1:=w64 (by omega) (by omega)
  have h3:=eq_true (show decide ((0:Int) < i)=true→(0:Int)≤(i:Int) - 1 from fun h=>by simp only[decide_eq_true_eq]at h;omega)
  have h4:=eq_true (show decide ((0:Int) < i)=true→(i:Int) - 1 < l.length from fun h=>by omega)
  unfold litF
  (simp only[exB_ite,exB_some,exB_none];simp only[w1,h3,h4,inL hi,decide_true,Int.toNat_natCast,if_true,implies_true,wr1 hi (by omega)];try rfl)
 ·(simp only[lt_irr,decide_false,Bool.false_eq_true,if_false];try rfl)
def actS (l:List (List UInt8)):Int:=if decide ((8:Int) < (l.length:Int))=true then 3 else if anyR (fun i=>!nm (l.getD i default)) l.length=true then 5 else 0
theorem actS_len {l:List (List UInt8)} (h:actS l=0):l.length≤8:=by
 unfold actS at h
 split at h
 ·cases h
 ·rename_i h1;simp only[decide_eq_true_eq]at h1;omega
theorem actions_eq (l:List (List UInt8)) (hl:l.length≤100000):m80 l=some (actS l):=by
 have e:m161o0 l=some (findR (fun i=>!nm (l.getD i default)) l.length):=by
  delta m161o0 d161o0
  simp only[↓JD.sg_m,↓JD.sq_m,↓JD.sc_m,↓JD.bk_m,↓JD.lp_m,↓JD.cd_m,↓JD.lu_m,↓JD.ct_m,↓JD.ce_m,↓JL.r_m,↓JL.z_m,↓JD.se_m,onE_r,↓Tr.run,↓Tr.run_nd,↓Tr.run_c3,↓Tr.run_c2,↓Tr.run_nx,↓onS,bind_ite,Option.bind_some,Option.bind_none,obR,m124o0,d124o0,nm_name]
  refine idx_loop (fun i hi=>?_) ?_
  ·(simp only[exB_ite,exB_some,exB_none];simp only[inL hi,decide_true,Int.toNat_natCast,if_true,implies_true,wr1 hi (by omega)];try rfl)
  ·(simp only[lt_irr,decide_false,Bool.false_eq_true,if_false];try rfl)
 delta m80 d80
 simp only[↓JD.sg_m,↓JD.sq_m,↓JD.sc_m,↓JD.bk_m,↓JD.lp_m,↓JD.cd_m,↓JD.lu_m,↓JD.ct_m,↓JD.ce_m,↓JL.r_m,↓JL.z_m,↓JD.se_m,onE_r,↓Tr.run,↓Tr.run_nd,↓Tr.run_c3,↓Tr.run_c2,↓Tr.run_nx,↓onS,bind_ite,Option.bind_some,Option.bind_none,obR,m123o0,d123o0,e,findR_any,actS,some_ite]
def comp (c:T27) (x:Int):Bool:=anyR (fun i=>(c.States.getD i default).Parent==x) c.States.length
theorem composite_eq (c:T27) (x:Int) (hl:c.States.length≤100000):m105 c x=some (comp c x):=by
 have e:m168o0 c.States x=some (findR (fun i=>(c.States.getD i default).Parent==x) c.States.length):=by
  delta m168o0 d168o0
  simp only[↓JD.sg_m,↓JD.sq_m,↓JD.sc_m,↓JD.bk_m,↓JD.lp_m,↓JD.cd_m,↓JD.lu_m,↓JD.ct_m,↓JD.ce_m,↓JL.r_m,↓JL.z_m,↓JD.se_m,onE_r,↓Tr.run,↓Tr.run_nd,↓Tr.run_c3,↓Tr.run_c2,↓Tr.run_nx,↓onS,bind_ite,Option.bind_some,Option.bind_none,obR,m139o0,d139o0]
  refine idx_loop (fun i hi=>?_) ?_
  ·(simp only[exB_ite,exB_some,exB_none];simp only[inL hi,decide_true,Int.toNat_natCast,if_true,implies_true,wr1 hi (by omega)];try rfl)
  ·(simp only[lt_irr,decide_false,Bool.false_eq_true,if_false];try rfl)
 delta m105 d105
 simp only[↓JD.sg_m,↓JD.sq_m,↓JD.sc_m,↓JD.bk_m,↓JD.lp_m,↓JD.cd_m,↓JD.lu_m,↓JD.ct_m,↓JD.ce_m,↓JL.r_m,↓JL.z_m,↓JD.se_m,onE_r,↓Tr.run,↓Tr.run_nd,↓Tr.run_c3,↓Tr.run_c2,↓Tr.run_nx,↓onS,bind_ite,Option.bind_some,Option.bind_none,obR,m138o0,d138o0,e,findR_any,comp]
def isS (c:T27) (x:Int):Bool:=decide ((0:Int)≤x)&&decide (x < (c.States.length:Int))
theorem is_eq (c:T27) (x:Int):m79 c x=some (isS c x):=rfl
theorem isS_iff {c:T27} {x:Int}:isS c x=true↔0≤x∧x < c.States.length:=by simp[isS]
def childS (c:T27) (x y:Int):Bool:=isS c x&&((c.States.getD x.toNat default).Parent==y)
end Go.Av.Ch
set_option maxRecDepth 100000
namespace Go.Av.Ch
structure Fit (c:T27):Prop where
 conds:c.Conds.length≤1000
 never:c.Never.length≤1000
 lits:∀ l∈c.Never,l.length≤1000
 states:c.States.length≤1000
 entry:∀ s∈c.States,s.Entry.length≤1000
 exit_:∀ s∈c.States,s.Exit.length≤1000
 trans:c.Transitions.length≤1000
 when_:∀ t∈c.Transitions,t.When.length≤1000
 acts:∀ t∈c.Transitions,t.Actions.length≤1000
def namesS (c:T27):List (List UInt8):=(List.range c.States.length).flatMap fun i=>[(c.States.getD i default).Name]
theorem namesS_map (c:T27):namesS c=(List.range c.States.length).map fun i=>(c.States.getD i default).Name:=(List.map_eq_flatMap ..).symm
theorem namesS_len (c:T27):(namesS c).length=c.States.length:=by rw[namesS_map];simp
def stateT (c:T27) (i:Nat):Int :=
 if(decide ((c.States.getD i default).Parent < (-1:Int)) || decide ((i:Int)≤(c.States.getD i default).Parent))=true then 9
 else if((comp c i&&!childS c (c.States.getD i default).Initial i) || (!comp c i&&((c.States.getD i default).Initial != (-1:Int))))=true then 2
 else if(!comp c i&&(c.States.getD i default).History)=true then 17
 else if(actS (c.States.getD i default).Entry != 0)=true then actS (c.States.getD i default).Entry
 else actS (c.States.getD i default).Exit
def stateS (c:T27) (i:Nat):Int:=if(listedS (namesS c) i != 0)=true then listedS (namesS c) i else stateT c i
theorem state_eq (c:T27) (H:Fit c) (i:Nat) (hi:i < c.States.length):m78 c (namesS c) i=some (stateS c i):=by
 have hs:=H.states
 have he:=H.entry _ (getD_mem hi)
 have hx:=H.exit_ _ (getD_mem hi)
 have e1:=listed_eq (namesS c) i (by rw[namesS_len];exact hi) (by rw[namesS_len];omega)
 delta m78 d78
 simp only[↓JD.sg_m,↓JD.sq_m,↓JD.sc_m,↓JD.bk_m,↓JD.lp_m,↓JD.cd_m,↓JD.lu_m,↓JD.ct_m,↓JD.ce_m,↓JL.r_m,↓JL.z_m,↓JD.se_m,onE_r,↓Tr.run,↓Tr.run_nd,↓Tr.run_c3,↓Tr.run_c2,↓Tr.run_nx,↓onS,bind_ite,Option.bind_some,Option.bind_none,obR,inL hi,e1,Int.toNat_natCast,if_true,composite_eq c _ (Nat.le_trans hs (by omega)),is_eq,actions_eq _ (Nat.le_trans he (by omega)),actions_eq _ (Nat.le_trans hx (by omega)),stateS,stateT,some_ite]
 refine ite_else (ite_else ?_)
 cases hc:comp c i with
 | false=>simp only[Bool.false_and,Bool.not_false,Bool.true_and,Bool.false_or,Bool.false_eq_true,if_false,false_implies,if_true]
 | true =>
  have g1:=eq_true (show (!!isS c (c.States.getD i default).Initial)=true→(0:Int)≤(c.States.getD i default).Initial from fun h=>by simp only[Bool.not_not]at h;exact(isS_iff.1 h).1)
  have g2:=eq_true (show (!!isS c (c.States.getD i default).Initial)=true→(c.States.getD i default).Initial < (c.States.length:Int) from fun h=>by simp only[Bool.not_not]at h;exact(isS_iff.1 h).2)
  simp only[if_true,Option.bind_some,g1,g2,childS,bne,Bool.not_and,Bool.true_and,Bool.not_true,Bool.false_and,Bool.or_false,Bool.false_eq_true,if_false]
def condF (c:T27) (i:Nat):Option Int:=if(listedS c.Conds i != 0)=true then some (listedS c.Conds i)else none
def nevF (c:T27) (i:Nat):Option Int:=if(((c.Never.getD i default).length:Int)==0)=true then some 1 else if(litS c (c.Never.getD i default) != 0)=true then some (litS c (c.Never.getD i default))else none
def stF (c:T27) (i:Nat):Option Int:=if(stateS c i != 0)=true then some (stateS c i)else none
def trF (c:T27) (i:Nat):Option Int :=
 if((!isS c (c.Transitions.getD i default).From) || (!isS c (c.Transitions.getD i default).To))=true then some 2
 else if(litS c (c.Transitions.getD i default).When != 0)=true then some (litS c (c.Transitions.getD i default).When)
 else if(actS (c.Transitions.getD i default).Actions != 0)=true then some (actS (c.Transitions.getD i default).Actions)else none
def checkM (c:T27):Option Int :=
 if(!nm c.Name)=true then some 5
 else if((c.States.length:Int)==0)=true then some 6
 else if((((decide ((12:Int) < (c.Conds.length:Int))) || (decide ((16:Int) < (c.Never.length:Int)))) || (decide ((40:Int) < (c.States.length:Int)))) || (decide ((120:Int) < (c.Transitions.length:Int))))=true then some 3
 else orK (firstR (condF c) c.Conds.length) (orK (firstR (nevF c) c.Never.length) (orK (firstR (stF c) c.States.length) (if(!isS c c.Start)=true then some 2 else orK (firstR (trF c) c.Transitions.length) (some 0))))
theorem checkM_some (c:T27):∃ e,checkM c=some e:=ite_total (ite_total (ite_total (orK_total (orK_total (orK_total (ite_total (orK_total ⟨0,rfl⟩)))))))
theorem Check_eq (c:T27) (H:Fit c):m35 c=checkM c:=by
 have hcl:=H.conds
 have hnl:=H.never
 have hsl:=H.states
 have htl:=H.trans
 delta m35 d35
 simp only[↓JD.sg_m,↓JD.sq_m,↓JD.sc_m,↓JD.bk_m,↓JD.lp_m,↓JD.cd_m,↓JD.lu_m,↓JD.ct_m,↓JD.ce_m,↓JL.r_m,↓JL.z_m,↓JD.se_m,onE_r,↓Tr.run,↓Tr.run_nd,↓Tr.run_c3,↓Tr.run_c2,↓Tr.run_nx,↓onS,bind_ite,Option.bind_some,Option.bind_none,obR,nm_name,is_eq,checkM]
 refine ite_else (ite_else (ite_else (loop_or _ (condF c) (fun i hi=>?_) (by (simp only[lt_irr,decide_false,Bool.false_eq_true,if_false];try rfl)) (loop_or _ (nevF c) (fun i hi=>?_) (by (simp only[lt_irr,decide_false,Bool.false_eq_true,if_false];try rfl)) (on_l (loop_coll c.States.length (fun i l=>(l,(i:Int))) (fun i=>[(c.States.getD i default).Name]) Sum.inl (fun i hi=>?_) (by (simp only[lt_irr,decide_false,Bool.false_eq_true,if_false];try rfl))) (loop_or _ (stF c) (fun i hi=>?_) (by (simp only[lt_irr,decide_false,Bool.false_eq_true,if_false];try rfl)) (ite_else (loop_or _ (trF c) (fun i hi=>?_) (by (simp only[lt_irr,decide_false,Bool.false_eq_true,if_false];try rfl)) rfl))))))))
 ·unfold condF
  (simp only[exB_ite,exB_some,exB_none];simp only[listed_eq c.Conds i hi (by omega),Option.bind_some,inL hi,decide_true,Int.toNat_natCast,if_true,implies_true,wr1 hi (by omega)];try rfl)
 ·have hl:=H.lits _ (getD_mem hi)
  unfold nevF
  (simp only[exB_ite,exB_some,exB_none];simp only[literals_eq c _ (Nat.le_trans hl (by omega)),Option.bind_some,inL hi,decide_true,Int.toNat_natCast,if_true,implies_true,wr1 hi (by omega)];try rfl)
 ·have hl:=flatMap_len (g:=fun i=>[(c.States.getD i default).Name]) (m:=1) (fun i=>by simp) i
  have h3:(((List.range i).flatMap fun i=>[(c.States.getD i default).Name]).length+1) * 16≤140737488355328:=by omega
  simp only[inL hi,h3,Int.toNat_natCast,if_true,wr1 hi (by omega)];rfl
 ·unfold stF
  have e:=state_eq c H i hi
  unfold namesS at e
  (simp only[exB_ite,exB_some,exB_none];simp only[e,Option.bind_some,inL hi,decide_true,Int.toNat_natCast,if_true,implies_true,wr1 hi (by omega)];try rfl)
 ·have hw:=H.when_ _ (getD_mem hi)
  have ha:=H.acts _ (getD_mem hi)
  unfold trF
  simp only[exB_ite,exB_some,exB_none]
  simp only[inL hi,is_eq,literals_eq c _ (Nat.le_trans hw (by omega)),actions_eq _ (Nat.le_trans ha (by omega)),Option.bind_some,decide_true,Int.toNat_natCast,if_true,wr1 hi (by omega)]
  cases isS c (c.Transitions.getD i default).From<;>simp only[Bool.not_true,Bool.not_false,Bool.false_eq_true,Bool.true_or,Bool.false_or,if_true,if_false,Option.bind_some]
end Go.Av.Ch
set_option maxRecDepth 100000
namespace Go.Av.Ch
def topB (c:T27) (s:Int):Bool:=decide ((c.States.getD s.toNat default).Parent < 0) || decide (s≤(c.States.getD s.toNat default).Parent)
def pathT (c:T27):Nat→Int→List Int
 | 0,_=>[]
 | n+1,s=>if topB c s=true then[]else(c.States.getD s.toNat default).Parent :: pathT c n (c.States.getD s.toNat default).Parent
def pathS (c:T27) (s:Int):List Int:=if isS c s=true then s :: pathT c s.toNat s else[]
theorem pathT_len (c:T27):∀ n s,(pathT c n s).length≤n
 | 0,_=>by simp[pathT]
 | n+1,s=>by
  unfold pathT
  split
  ·simp
  ·have:=pathT_len c n (c.States.getD s.toNat default).Parent
   simp only[List.length_cons];omega
theorem pathS_len (c:T27) (s:Int):(pathS c s).length≤c.States.length:=by
 unfold pathS
 split
 ·rename_i h
  have:=isS_iff.1 h
  have:=pathT_len c s.toNat s
  simp only[List.length_cons];omega
 ·simp
theorem topB_false {c:T27} {s:Int} (h:topB c s=false):0≤(c.States.getD s.toNat default).Parent∧(c.States.getD s.toNat default).Parent < s:=by
 simp only[topB,Bool.or_eq_false_iff,decide_eq_false_iff_not]at h;omega
theorem pathT_fuel (c:T27):∀ n m s,0≤s→s.toNat≤n→s.toNat≤m→pathT c n s=pathT c m s:=by
 intro n
 induction n with
 | zero =>
  intro m s h0 hn hm
  cases m with
  | zero=>rfl
  | succ m =>
   unfold pathT
   cases ht:topB c s with
   | true=>simp
   | false=>have:=topB_false ht;omega
 | succ n ih =>
  intro m s h0 hn hm
  cases ht:topB c s with
  | true =>
   cases m with
   | zero=>unfold pathT;simp[ht]
   | succ m=>unfold pathT;simp[ht]
  | false =>
   have:=topB_false ht
   cases m with
   | zero=>omega
   | succ m =>
    unfold pathT
    simp only[ht,Bool.false_eq_true,if_false]
    rw[ih m _ this.1 (by omega) (by omega)]
theorem pathS_step {c:T27} {s:Int} (h:isS c s=true):pathS c s=s :: if topB c s=true then[]else pathS c (c.States.getD s.toNat default).Parent:=by
 have hs:=isS_iff.1 h
 unfold pathS
 rw[if_pos h,pathT_fuel c s.toNat (s.toNat+1) s hs.1 (Nat.le_refl _) (by omega)]
 congr 1
 show (if topB c s=true then[]else(c.States.getD s.toNat default).Parent :: pathT c s.toNat (c.States.getD s.toNat default).Parent)=_
 cases ht:topB c s with
 | true=>rfl
 | false =>
  have hp:=topB_false ht
  simp only[Bool.false_eq_true,if_false]
  rw[if_pos (isS_iff.2 ⟨hp.1,by omega⟩),pathT_fuel c s.toNat (c.States.getD s.toNat default).Parent.toNat _ hp.1 (by omega) (Nat.le_refl _)]
theorem pathS_is {c:T27}:∀ (n:Nat) (s:Int),s.toNat≤n→∀ x∈pathS c s,isS c x=true∧x≤s:=by
 intro n
 induction n with
 | zero =>
  intro s hn x hx
  cases h:isS c s with
  | false=>unfold pathS at hx;rw[if_neg (by rw[h];decide)]at hx;cases hx
  | true =>
   have hs:=isS_iff.1 h
   rw[pathS_step h]at hx
   cases ht:topB c s with
   | true=>rw[ht]at hx;simp at hx;subst hx;exact⟨h,Int.le_refl _⟩
   | false=>have:=topB_false ht;omega
 | succ n ih =>
  intro s hn x hx
  cases h:isS c s with
  | false=>unfold pathS at hx;rw[if_neg (by rw[h];decide)]at hx;cases hx
  | true =>
   rw[pathS_step h]at hx
   rcases List.mem_cons.1 hx with rfl | hx
   ·exact⟨h,Int.le_refl _⟩
   ·cases ht:topB c s with
    | true=>rw[ht]at hx;simp at hx
    | false =>
     have:=topB_false ht
     rw[ht]at hx
     have:=ih _ (by omega) x hx
     exact⟨this.1,by omega⟩
theorem path_loop {c:T27} {b:Int×List Int→Option ((Int×List Int)⊕List Int)}
  (hb:∀ (s:Int) (acc:List Int),0≤s→s < c.States.length→b (s,acc)=if topB c s=true then some (.inr acc)else if(acc.length+1) * 8≤140737488355328 then some (.inl ((c.States.getD s.toNat default).Parent,acc++[(c.States.getD s.toNat default).Parent]))else none) :
  ∀ (n:Nat) (s:Int) (acc:List Int),0≤s→s < c.States.length→s.toNat≤n→acc.length+n≤100000→loopO b (s,acc)=some (acc++pathT c n s):=by
 intro n
 induction n with
 | zero =>
  intro s acc h0 h1 hn hl
  rw[loopO_eq,hb s acc h0 h1]
  cases ht:topB c s with
  | true=>simp[pathT]
  | false=>have:=topB_false ht;omega
 | succ n ih =>
  intro s acc h0 h1 hn hl
  rw[loopO_eq,hb s acc h0 h1]
  unfold pathT
  cases ht:topB c s with
  | true=>simp
  | false =>
   have hp:=topB_false ht
   have h8:(acc.length+1) * 8≤140737488355328:=by omega
   simp only[Bool.false_eq_true,if_false,if_pos h8,Option.bind_some]
   rw[ih _ _ hp.1 (by omega) (by omega) (by simp only[List.length_append,List.length_cons,List.length_nil];omega)]
   simp
theorem Path_eq (c:T27) (H:Fit c) (s:Int):m70 c s=some (pathS c s):=by
 have hs:=H.states
 delta m70 d70
 simp only[↓JD.sg_m,↓JD.sq_m,↓JD.sc_m,↓JD.bk_m,↓JD.lp_m,↓JD.cd_m,↓JD.lu_m,↓JD.ct_m,↓JD.ce_m,↓JL.r_m,↓JL.z_m,↓JD.se_m,onE_r,↓Tr.run,↓Tr.run_nd,↓Tr.run_c3,↓Tr.run_c2,↓Tr.run_nx,↓onS,bind_ite,Option.bind_some,Option.bind_none,obR,is_eq]
 unfold pathS
 cases h:isS c s with
 | false=>rfl
 | true =>
  have hi:=isS_iff.1 h
  simp only[Bool.not_true,Bool.false_eq_true,if_false,if_true]
  rw[path_loop (c:=c) (fun s acc h0 h1=>?_) s.toNat s [s] hi.1 hi.2 (Nat.le_refl _) (by simp;omega)]
  ·simp
  ·simp only[h0,h1,if_true];rfl
def leafG (c:T27) (i:Nat):List Int:=if comp c i=true then[]else[(i:Int)]
def leavesS (c:T27):List Int:=(List.range c.States.length).flatMap (leafG c)
theorem leafG_len (c:T27) (i:Nat):(leafG c i).length≤1:=by unfold leafG;split<;>simp
theorem leavesS_iff {c:T27} {x:Int}:x∈leavesS c↔isS c x=true∧comp c x=false:=by
 unfold leavesS leafG
 rw[List.mem_flatMap,isS_iff]
 constructor
 ·rintro⟨i,hi,hx⟩
  rw[List.mem_range]at hi
  split at hx
  ·cases hx
  ·rename_i h;simp only[List.mem_singleton]at hx;subst hx;exact⟨by omega,by simpa using h⟩
 ·rintro⟨h1,h2⟩
  refine⟨x.toNat,List.mem_range.2 (by omega),?_⟩
  rw[Int.toNat_of_nonneg h1.1,if_neg (by rw[h2];decide)];simp
theorem Leaves_eq (c:T27) (H:Fit c):m120 c=some (leavesS c):=by
 have hs:=H.states
 delta m120 d120
 simp only[↓JD.sg_m,↓JD.sq_m,↓JD.sc_m,↓JD.bk_m,↓JD.lp_m,↓JD.cd_m,↓JD.lu_m,↓JD.ct_m,↓JD.ce_m,↓JL.r_m,↓JL.z_m,↓JD.se_m,onE_r,↓Tr.run,↓Tr.run_nd,↓Tr.run_c3,↓Tr.run_c2,↓Tr.run_nx,↓onS,bind_ite,Option.bind_some,Option.bind_none,obR,composite_eq c _ (Nat.le_trans hs (by omega))]
 refine on_l (loop_coll c.States.length (fun i l=>(l,(i:Int))) (leafG c) Sum.inl (fun i hi=>?_) (by (simp only[lt_irr,decide_false,Bool.false_eq_true,if_false];try rfl))) rfl
 have hl:=flatMap_len (leafG_len c) i
 have h3:(((List.range i).flatMap (leafG c)).length+1) * 8≤140737488355328:=by omega
 simp only[inL hi,decide_true,h3,if_true,wr1 hi (by omega),leafG]
 cases comp c i<;>simp
def bitV (v:Int) (k:Nat):Bool:=IntKind.u16.wrap ((BitVec.ofInt IntKind.u16.bits (v.fdiv (2 ^ min k IntKind.u16.bits)) &&& BitVec.ofInt IntKind.u16.bits 1).toNat:Int)==1
theorem bitV_eq {v:Int} {k:Nat} (h0:0≤v) (hk:k≤16):bitV v k=v.toNat.testBit k:=by
 obtain⟨n,rfl⟩:=Int.eq_ofNat_of_zero_le h0
 unfold bitV
 have e1:min k IntKind.u16.bits=k:=by show min k 16=k;omega
 have e2:(n:Int).fdiv (2 ^ k)=((n / 2 ^ k:Nat):Int):=by
  rw[Int.fdiv_eq_ediv_of_nonneg _ (Int.le_of_lt (Int.pow_pos (by omega)))]
  push_cast
  rfl
 rw[e1,e2]
 have e3:(BitVec.ofInt IntKind.u16.bits ((n / 2 ^ k:Nat):Int) &&& BitVec.ofInt IntKind.u16.bits 1).toNat=n / 2 ^ k % 2:=by
  show (BitVec.ofInt 16 ((n / 2 ^ k:Nat):Int) &&& 1#16).toNat=_
  rw[BitVec.ofInt_natCast,BitVec.toNat_and,BitVec.toNat_ofNat]
  show n / 2 ^ k % 65536 &&& 1=_
  rw[Nat.and_one_is_mod]
  omega
 rw[e3]
 have e4:IntKind.u16.wrap ((n / 2 ^ k % 2:Nat):Int)=((n / 2 ^ k % 2:Nat):Int):=by
  have:n / 2 ^ k % 2 < 2:=Nat.mod_lt _ (by omega)
  generalize n / 2 ^ k % 2=m at *
  match m,this with
  | 0,_=>rfl
  | 1,_=>rfl
 rw[e4,Int.toNat_natCast,Nat.testBit_eq_decide_div_mod_eq,Bool.eq_iff_iff,beq_iff_eq,decide_eq_true_eq]
 omega
def litN (v:Int) (x:T151):Bool:=decide (x.Cond < 0) || decide (15 < x.Cond) || bitV v x.Cond.toNat==x.Neg
def holdsS (l:List T151) (v:Int):Bool:=!anyR (fun i=>litN v (l.getD i default)) l.length
theorem holds_loop {l:List T151} {v:Int} (hl:l.length≤100000) {b:Int→Option (Int⊕(Unit⊕Bool))} (hb:∀ i:Nat,i < l.length→b i=exB (if litN v (l.getD i default)=true then some false else none) ((i:Int)+1)) (hd:b l.length=some (.inr (.inl ()))) :
  (loopO b 0).bind (onS fun _=>some true)=some (holdsS l v):=by
 rw[loop_ex l.length _ hb hd,firstR_const,holdsS]
 cases anyR (fun i=>litN v (l.getD i default)) l.length<;>rfl
theorem Holds_eq (l:List T151) (v:Int) (hl:l.length≤100000):m72 l v=some (holdsS l v):=by
 delta m72 d72
 simp only[↓JD.sg_m,↓JD.sq_m,↓JD.sc_m,↓JD.bk_m,↓JD.lp_m,↓JD.cd_m,↓JD.lu_m,↓JD.ct_m,↓JD.ce_m,↓JL.r_m,↓JL.z_m,↓JD.se_m,onE_r,↓Tr.run,↓Tr.run_nd,↓Tr.run_c3,↓Tr.run_c2,↓Tr.run_nx,↓onS,bind_ite,Option.bind_some,Option.bind_none,obR]
 refine holds_loop hl (fun i hi=>?_) (by (simp only[lt_irr,decide_false,Bool.false_eq_true,if_false];try rfl))
 have h1:=eq_true (show (!(decide ((l.getD i default).Cond < 0) || decide (15 < (l.getD i default).Cond)))=true→0≤(l.getD i default).Cond from fun h=>by simp only[Bool.not_eq_true',Bool.or_eq_false_iff,decide_eq_false_iff_not]at h;omega)
 (simp only[exB_ite,exB_some,exB_none];simp only[h1,inL hi,decide_true,Int.toNat_natCast,if_true,implies_true,wr1 hi (by omega)];try rfl)
def wideB (c:T27) (v:Int):Bool:=decide ((c.Conds.length:Int) < 16)&&(v.fdiv (2 ^ min (c.Conds.length:Int).toNat IntKind.u16.bits) != 0)
def allowedS (c:T27) (v:Int):Bool:=!wideB c v&&!anyR (fun i=>holdsS (c.Never.getD i default) v) c.Never.length
theorem Allowed_eq (c:T27) (H:Fit c) (v:Int):m34 c v=some (allowedS c v):=by
 have hn:=H.never
 have e:m121o0 c.Never v=some (findR (fun i=>holdsS (c.Never.getD i default) v) c.Never.length):=by
  delta m121o0 d121o0
  simp only[↓JD.sg_m,↓JD.sq_m,↓JD.sc_m,↓JD.bk_m,↓JD.lp_m,↓JD.cd_m,↓JD.lu_m,↓JD.ct_m,↓JD.ce_m,↓JL.r_m,↓JL.z_m,↓JD.se_m,onE_r,↓Tr.run,↓Tr.run_nd,↓Tr.run_c3,↓Tr.run_c2,↓Tr.run_nx,↓onS,bind_ite,Option.bind_some,Option.bind_none,obR,m74o0,d74o0]
  refine idx_loop (fun i hi=>?_) (by (simp only[lt_irr,decide_false,Bool.false_eq_true,if_false];try rfl))
  have hl:=H.lits _ (getD_mem hi)
  (simp only[exB_ite,exB_some,exB_none];simp only[Holds_eq _ _ (Nat.le_trans hl (by omega)),Option.bind_some,inL hi,decide_true,Int.toNat_natCast,if_true,implies_true,wr1 hi (by omega)];try rfl)
 have h1:=eq_true (show decide ((c.Conds.length:Int) < 16)=true→(0:Int)≤(c.Conds.length:Int) from fun _=>by omega)
 delta m34 d34
 simp only[↓JD.sg_m,↓JD.sq_m,↓JD.sc_m,↓JD.bk_m,↓JD.lp_m,↓JD.cd_m,↓JD.lu_m,↓JD.ct_m,↓JD.ce_m,↓JL.r_m,↓JL.z_m,↓JD.se_m,onE_r,↓Tr.run,↓Tr.run_nd,↓Tr.run_c3,↓Tr.run_c2,↓Tr.run_nx,↓onS,bind_ite,Option.bind_some,Option.bind_none,obR,m73o0,d73o0,e,findR_any,h1,if_true]
 unfold allowedS
 cases hw:wideB c v with
 | true=>unfold wideB at hw;simp only[hw,if_true];rfl
 | false=>unfold wideB at hw;simp only[hw,if_false,Bool.false_eq_true];rfl
def enabG (c:T27) (p:List Int) (v:Int) (i:Nat):List Int:=if(hasK p p.length (c.Transitions.getD i default).From&&holdsS (c.Transitions.getD i default).When v)=true then[(i:Int)]else[]
def enabledS (c:T27) (leaf v:Int):List Int:=(List.range c.Transitions.length).flatMap (enabG c (pathS c leaf) v)
theorem enabG_len (c:T27) (p:List Int) (v:Int) (i:Nat):(enabG c p v i).length≤1:=by unfold enabG;split<;>simp
theorem enabledS_len (c:T27) (leaf v:Int):(enabledS c leaf v).length≤c.Transitions.length:=by
 have:=flatMap_len (enabG_len c (pathS c leaf) v) c.Transitions.length;unfold enabledS;omega
theorem Enabled_eq (c:T27) (H:Fit c) (leaf v:Int):m33 c leaf v=some (enabledS c leaf v):=by
 have hs:=H.states
 have ht:=H.trans
 have hp:=pathS_len c leaf
 delta m33 d33
 simp only[↓JD.sg_m,↓JD.sq_m,↓JD.sc_m,↓JD.bk_m,↓JD.lp_m,↓JD.cd_m,↓JD.lu_m,↓JD.ct_m,↓JD.ce_m,↓JL.r_m,↓JL.z_m,↓JD.se_m,onE_r,↓Tr.run,↓Tr.run_nd,↓Tr.run_c3,↓Tr.run_c2,↓Tr.run_nx,↓onS,bind_ite,Option.bind_some,Option.bind_none,obR,Path_eq c H,onS_l]
 refine on_l (loop_coll c.Transitions.length (fun i l=>(l,(i:Int))) (enabG c (pathS c leaf) v) Sum.inl (fun i hi=>?_) (by (simp only[lt_irr,decide_false,Bool.false_eq_true,if_false];try rfl))) rfl
 have hl:=flatMap_len (enabG_len c (pathS c leaf) v) i
 have h3:(((List.range i).flatMap (enabG c (pathS c leaf) v)).length+1) * 8≤140737488355328:=by omega
 have hw:=H.when_ _ (getD_mem hi)
 simp only[inL hi,decide_true,h3,Int.toNat_natCast,if_true,wr1 hi (by omega),containsI_eq _ _ (show (pathS c leaf).length≤100000 by omega),Holds_eq _ _ (Nat.le_trans hw (by omega)),Option.bind_some,enabG]
 cases hasK (pathS c leaf) (pathS c leaf).length (c.Transitions.getD i default).From with
 | false=>simp
 | true=>cases holdsS (c.Transitions.getD i default).When v<;>simp
end Go.Av.Ch
set_option maxRecDepth 100000
namespace Go.Av.Ch
abbrev stA (c:T27) (x:Int):T76:=c.States.getD x.toNat default
structure Good (c:T27):Prop where
 ne:0 < c.States.length
 cap:c.States.length≤40
 parent:∀ x,isS c x=true → -1≤(stA c x).Parent∧(stA c x).Parent < x
 init:∀ x,isS c x=true→comp c x=true→childS c (stA c x).Initial x=true
 leafI:∀ x,isS c x=true→comp c x=false→(stA c x).Initial = -1∧(stA c x).History=false
 start:isS c c.Start=true
 tr:∀ i,i < c.Transitions.length→isS c (c.Transitions.getD i default).From=true∧isS c (c.Transitions.getD i default).To=true
 entry:∀ x,isS c x=true→(stA c x).Entry.length≤8
 exit_:∀ x,isS c x=true→(stA c x).Exit.length≤8
 acts:∀ i,i < c.Transitions.length→(c.Transitions.getD i default).Actions.length≤8
theorem orK_ok {R:Type} {a b:Option R} {z:R} (h:orK a b=some z) (hn:a≠some z):a=none∧b=some z:=by
 cases a with
 | none=>exact⟨rfl,h⟩
 | some y=>exact absurd h hn
theorem ite_err {p:Prop} [Decidable p] {e z:Int} {k:Option Int} (h:(if p then some e else k)=some z) (he:e≠z):¬ p∧k=some z:=by
 split at h
 ·injection h with h;exact absurd h he
 ·rename_i hp;exact⟨hp,h⟩
theorem good_of {c:T27} (h:checkM c=some 0):Good c:=by
 unfold checkM at h
 obtain⟨-,h⟩:=ite_err h (by decide)
 obtain⟨h1,h⟩:=ite_err h (by decide)
 obtain⟨hcap,h⟩:=ite_err h (by decide)
 have n1:firstR (condF c) c.Conds.length≠some 0:=fun e=>by
  obtain⟨i,_,e⟩:=firstR_some e
  unfold condF at e
  split at e
  ·rename_i hh;injection e with e;rw[e]at hh;simp at hh
  ·cases e
 obtain⟨-,h⟩:=orK_ok h n1
 have n2:firstR (nevF c) c.Never.length≠some 0:=fun e=>by
  obtain⟨i,_,e⟩:=firstR_some e
  unfold nevF at e
  split at e
  ·cases e
  ·split at e
   ·rename_i hh;injection e with e;rw[e]at hh;simp at hh
   ·cases e
 obtain⟨-,h⟩:=orK_ok h n2
 have n3:firstR (stF c) c.States.length≠some 0:=fun e=>by
  obtain⟨i,_,e⟩:=firstR_some e
  unfold stF at e
  split at e
  ·rename_i hh;injection e with e;rw[e]at hh;simp at hh
  ·cases e
 obtain⟨hst,h⟩:=orK_ok h n3
 obtain⟨hs,h⟩:=ite_err h (by decide)
 have n4:firstR (trF c) c.Transitions.length≠some 0:=fun e=>by
  obtain⟨i,_,e⟩:=firstR_some e
  unfold trF at e
  split at e
  ·cases e
  ·split at e
   ·rename_i hh;injection e with e;rw[e]at hh;simp at hh
   ·split at e
    ·rename_i hh;injection e with e;rw[e]at hh;simp at hh
    ·cases e
 obtain⟨htr,-⟩:=orK_ok h n4
 have st:∀ i,i < c.States.length→stateT c i=0:=fun i hi=>by
  have:=firstR_none.1 hst i hi
  unfold stF at this
  split at this
  ·cases this
  ·rename_i hh
   have hh:stateS c i=0:=by simpa using hh
   unfold stateS at hh
   split at hh
   ·rename_i h2;rw[hh]at h2;simp at h2
   ·exact hh
 have key:∀ x,isS c x=true→x=(x.toNat:Int)∧x.toNat < c.States.length:=fun x hx=>by have:=isS_iff.1 hx;omega
 have rows:∀ x,isS c x=true→(-1≤(stA c x).Parent∧(stA c x).Parent < x)∧(comp c x=true→childS c (stA c x).Initial x=true)∧(comp c x=false→(stA c x).Initial = -1∧(stA c x).History=false)∧(stA c x).Entry.length≤8∧(stA c x).Exit.length≤8:=fun x hx=>by
  obtain⟨e,hlt⟩:=key x hx
  have h:=st _ hlt
  unfold stateT at h
  rw[← e]at h
  split at h
  ·cases h
  rename_i a1
  split at h
  ·cases h
  rename_i a2
  split at h
  ·cases h
  rename_i a3
  split at h
  ·rename_i a4;rw[h]at a4;simp at a4
  rename_i a4
  simp only[Bool.or_eq_true,decide_eq_true_eq,not_or,Int.not_lt,Int.not_le]at a1
  refine⟨⟨a1.1,a1.2⟩,fun hc=>?_,fun hc=>?_,actS_len (by simpa using a4),actS_len h⟩
  ·rw[hc]at a2
   simpa using a2
  ·rw[hc]at a2 a3
   exact⟨by simpa using a2,by simpa using a3⟩
 have trs:∀ i,i < c.Transitions.length→(isS c (c.Transitions.getD i default).From=true∧isS c (c.Transitions.getD i default).To=true)∧(c.Transitions.getD i default).Actions.length≤8:=fun i hi=>by
  have:=firstR_none.1 htr i hi
  unfold trF at this
  split at this
  ·cases this
  rename_i a1
  split at this
  ·cases this
  split at this
  ·cases this
  rename_i a3
  exact⟨by simpa using a1,actS_len (by simpa using a3)⟩
 refine⟨?_,by simp only[Bool.or_eq_true,decide_eq_true_eq,not_or,Int.not_lt]at hcap;omega,fun x hx=>(rows x hx).1,fun x hx=>(rows x hx).2.1,fun x hx=>(rows x hx).2.2.1,by simpa using hs,fun i hi=>(trs i hi).1,fun x hx=>(rows x hx).2.2.2.1,fun x hx=>(rows x hx).2.2.2.2,fun i hi=>(trs i hi).2⟩
 have:¬ ((c.States.length:Int)=0):=by simpa using h1
 omega
def memBad (c:T27) (i m:Int):Bool:=(m != (-1:Int))&&(!isS c m || !(stA c i).History || ((stA c m).Parent != i))
def validS (c:T27) (g:T41):Bool:=!(!isS c g.Leaf || comp c g.Leaf || ((g.Memory.length:Int) != (c.States.length:Int)))&&!anyR (fun i=>memBad c i (g.Memory.getD i default)) g.Memory.length
structure MemOk (c:T27) (m:List Int):Prop where
 len:m.length=c.States.length
 ok:∀ i:Nat,i < m.length→memBad c i (m.getD i default)=false
theorem validS_iff {c:T27} {g:T41}:validS c g=true↔isS c g.Leaf=true∧comp c g.Leaf=false∧MemOk c g.Memory:=by
 unfold validS
 simp only[Bool.and_eq_true,Bool.not_eq_true',Bool.or_eq_false_iff,Bool.not_eq_false',bne_eq_false_iff_eq,anyR_false]
 constructor
 ·rintro⟨⟨⟨h1,h2⟩,h3⟩,h4⟩;exact⟨h1,h2,⟨by omega,h4⟩⟩
 ·rintro⟨h1,h2,h3⟩;exact⟨⟨⟨h1,h2⟩,by have:=h3.len;omega⟩,h3.ok⟩
theorem MemOk.none {c:T27} {m:List Int} (h:MemOk c m) {x:Int} (hx:isS c x=true) (hh:(stA c x).History=false):m.getD x.toNat default = -1:=by
 have hi:=isS_iff.1 hx
 have:=h.ok x.toNat (by rw[h.len];omega)
 unfold memBad at this
 rw[Int.toNat_of_nonneg hi.1,hh]at this
 simpa using this
theorem MemOk.child {c:T27} {m:List Int} (h:MemOk c m) {x:Int} (hx:isS c x=true) (hm:m.getD x.toNat default ≠ -1):childS c (m.getD x.toNat default) x=true:=by
 have hi:=isS_iff.1 hx
 have:=h.ok x.toNat (by rw[h.len];omega)
 unfold memBad at this
 rw[Int.toNat_of_nonneg hi.1]at this
 simp only[Bool.and_eq_false_iff,bne_eq_false_iff_eq,Bool.or_eq_false_iff,Bool.not_eq_false']at this
 rcases this with h1 | ⟨⟨h1,h2⟩,h3⟩
 ·exact absurd h1 hm
 ·unfold childS;rw[h1,h3];simp
theorem MemOk.set {c:T27} {m:List Int} (h:MemOk c m) {x v:Int} (hv:v = -1∨((stA c x).History=true∧childS c v x=true)) (hx:isS c x=true):MemOk c (m.set x.toNat v):=by
 have hi:=isS_iff.1 hx
 refine⟨by rw[List.length_set];exact h.len,fun i hl=>?_⟩
 rw[List.length_set]at hl
 by_cases he:x.toNat=i
 ·subst he
  rw[List.getD_eq_getElem?_getD,List.getElem?_set_self hl,Option.getD_some,Int.toNat_of_nonneg hi.1]
  unfold memBad
  rcases hv with rfl | ⟨h1,h2⟩
  ·rfl
  ·unfold childS at h2
   simp only[Bool.and_eq_true,beq_iff_eq]at h2
   rw[h1,h2.1,h2.2];simp
 ·rw[List.getD_eq_getElem?_getD,List.getElem?_set_ne he,← List.getD_eq_getElem?_getD]
  exact h.ok i hl
theorem set_same {m:List Int} {i:Nat} {v:Int} (hi:i < m.length) (h:m.getD i default=v):m.set i v=m:=by
 apply List.ext_getElem?
 intro j
 rw[List.getElem?_set]
 split
 ·rename_i e;subst e
  rw[← h,List.getD_eq_getElem?_getD,List.getElem?_eq_getElem hi,Option.getD_some]
 ·rfl
theorem Valid_eq (c:T27) (H:Fit c) (g:T41):m57 c g=some (validS c g):=by
 have hs:=H.states
 delta m57 d57
 simp only[↓JD.sg_m,↓JD.sq_m,↓JD.sc_m,↓JD.bk_m,↓JD.lp_m,↓JD.cd_m,↓JD.lu_m,↓JD.ct_m,↓JD.ce_m,↓JL.r_m,↓JL.z_m,↓JD.se_m,onE_r,↓Tr.run,↓Tr.run_nd,↓Tr.run_c3,↓Tr.run_c2,↓Tr.run_nx,↓onS,bind_ite,Option.bind_some,Option.bind_none,obR,is_eq,composite_eq c _ (Nat.le_trans hs (by omega))]
 unfold validS
 have e0:(if(!!isS c g.Leaf)=true then some (isS c g.Leaf,comp c g.Leaf)else some (isS c g.Leaf,default))=some (isS c g.Leaf,if isS c g.Leaf=true then comp c g.Leaf else default):=by
  cases isS c g.Leaf<;>rfl
 cases h1:(!isS c g.Leaf || comp c g.Leaf || ((g.Memory.length:Int) != (c.States.length:Int))) with
 | true =>
  cases h2:isS c g.Leaf with
  | false=>simp
  | true =>
   rw[h2]at h1
   simp only[Bool.not_true,Bool.false_or]at h1
   simp only[Bool.not_true,Bool.not_false,Bool.false_or,if_true,h1,onS_r,Bool.false_and]
 | false =>
  simp only[Bool.or_eq_false_iff,Bool.not_eq_false',bne_eq_false_iff_eq]at h1
  obtain⟨⟨h2,h3⟩,h4⟩:=h1
  have h5:g.Memory.length=c.States.length:=by omega
  simp only[h2,h3,h5,bne_self_eq_false,Bool.not_true,Bool.not_false,Bool.or_false,Bool.false_eq_true,if_false,if_true,onS_l,Bool.true_and]
  rw[loop_ex c.States.length (fun i=>if memBad c i (g.Memory.getD i default)=true then some false else none) ?_ ?_,firstR_const]
  ·cases anyR (fun i=>memBad c i (g.Memory.getD i default)) c.States.length<;>rfl
  ·intro i hi
   simp only[exB_ite,exB_some,exB_none]
   simp only[inL hi,decide_true,Int.toNat_natCast,if_true,implies_true,wr1 hi (by omega)]
   unfold memBad stA
   simp only[Int.toNat_natCast]
   by_cases hm:g.Memory.getD i default = -1
   ·simp only[hm,bne_self_eq_false,Bool.false_and,Bool.false_eq_true,false_implies,if_false,if_true]
   ·have hm':(g.Memory.getD i default != (-1:Int))=true:=by simpa using hm
    have a3:=eq_true (show (true&&!(!isS c (g.Memory.getD i default) || !(c.States.getD i default).History))=true→(0:Int)≤g.Memory.getD i default from fun h=>by
     simp only[Bool.true_and,Bool.not_eq_true',Bool.or_eq_false_iff,Bool.not_eq_false']at h;exact(isS_iff.1 h.1).1)
    have a4:=eq_true (show (true&&!(!isS c (g.Memory.getD i default) || !(c.States.getD i default).History))=true→g.Memory.getD i default < (c.States.length:Int) from fun h=>by
     simp only[Bool.true_and,Bool.not_eq_true',Bool.or_eq_false_iff,Bool.not_eq_false']at h;exact(isS_iff.1 h.1).2)
    simp only[hm',a3,a4,if_true,Option.bind_some]
  ·(simp only[lt_irr,decide_false,Bool.false_eq_true,if_false];try rfl)
end Go.Av.Ch
set_option maxRecDepth 100000
namespace Go.Av.Ch
theorem isS_lt {c:T27} {x:Int} (h:isS c x=true):((0:Int)≤x)=True∧(x < (c.States.length:Int))=True∧x.toNat < c.States.length:=by
 have:=isS_iff.1 h
 exact⟨eq_true this.1,eq_true this.2,by omega⟩
theorem child_is {c:T27} (G:Good c) {x y:Int} (h:childS c y x=true):isS c y=true∧x < y:=by
 unfold childS at h
 simp only[Bool.and_eq_true,beq_iff_eq]at h
 have:=(G.parent y h.1).2
 exact⟨h.1,by unfold stA at this;omega⟩
def nextS (c:T27) (m:List Int) (x:Int):Int:=if((stA c x).History&&(m.getD x.toNat default != (-1:Int)))=true then m.getD x.toNat default else(stA c x).Initial
theorem nextS_child {c:T27} (G:Good c) {m:List Int} (M:MemOk c m) {x:Int} (hx:isS c x=true) (hc:comp c x=true):childS c (nextS c m x) x=true:=by
 unfold nextS
 split
 ·rename_i h
  simp only[Bool.and_eq_true,bne_iff_ne,ne_eq]at h
  exact M.child hx h.2
 ·exact G.init x hx hc
def enterF (c:T27):Nat→Int→List Int→List (List UInt8)→Int×List Int×List (List UInt8)
 | 0,x,m,a=>(x,m,a)
 | n+1,x,m,a=>if comp c x=true then enterF c n (nextS c m x) (m.set x.toNat (-1)) (a++(stA c x).Entry)else(x,m,a++(stA c x).Entry)
theorem enterF_ok {c:T27} (G:Good c):∀ (n:Nat) (x:Int) (m:List Int) (a:List (List UInt8)),isS c x=true→MemOk c m→c.States.length≤n+x.toNat →
  isS c (enterF c n x m a).1=true∧comp c (enterF c n x m a).1=false∧MemOk c (enterF c n x m a).2.1∧(enterF c n x m a).2.2.length≤a.length+8 * n
 | 0,x,m,a,hx,M,hn=>by have:=(isS_lt hx).2.2;omega
 | n+1,x,m,a,hx,M,hn=>by
  have he:=G.entry x hx
  unfold enterF
  cases hc:comp c x with
  | false=>simp only[Bool.false_eq_true,if_false,List.length_append];exact⟨hx,hc,M,by omega⟩
  | true =>
   simp only[if_true]
   obtain⟨h1,h2⟩:=child_is G (nextS_child G M hx hc)
   have h3:=isS_iff.1 hx
   obtain⟨k1,k2,k3,k4⟩:=enterF_ok G n _ _ (a++(stA c x).Entry) h1 (M.set (.inl rfl) hx) (by omega)
   exact⟨k1,k2,k3,by rw[List.length_append]at k4;omega⟩
theorem enter_loop {c:T27} (G:Good c) {b:Int×List Int×List (List UInt8)→Option ((Int×List Int×List (List UInt8))⊕(Int×List Int×List (List UInt8)))}
  (hb:∀ (x:Int) (m:List Int) (a:List (List UInt8)),isS c x=true→MemOk c m→a.length≤100000→b (x,m,a)=if comp c x=true then some (.inl (nextS c m x,m.set x.toNat (-1),a++(stA c x).Entry))else some (.inr (x,m,a++(stA c x).Entry))) :
  ∀ (n:Nat) (x:Int) (m:List Int) (a:List (List UInt8)),isS c x=true→MemOk c m→c.States.length≤n+x.toNat→a.length+8 * n≤100000→loopO b (x,m,a)=some (enterF c n x m a)
 | 0,x,m,a,hx,M,hn,hl=>by have:=(isS_lt hx).2.2;omega
 | n+1,x,m,a,hx,M,hn,hl=>by
  have he:=G.entry x hx
  rw[loopO_eq,hb x m a hx M (by omega)]
  unfold enterF
  cases hc:comp c x with
  | false=>rfl
  | true =>
   simp only[if_true,Option.bind_some]
   obtain⟨h1,h2⟩:=child_is G (nextS_child G M hx hc)
   have h3:=isS_iff.1 hx
   exact enter_loop G hb n _ _ _ h1 (M.set (.inl rfl) hx) (by omega) (by rw[List.length_append];omega)
def enterS (c:T27) (x:Int) (m:List Int) (a:List (List UInt8)):Int×List Int×List (List UInt8):=enterF c c.States.length x m a
def aroundS (c:T27) (l:List Int) (m:List Int) (a:List (List UInt8)):List Int×List (List UInt8):=l.foldr (fun x s=>(s.1.set x.toNat (-1),s.2++(stA c x).Entry)) (m,a)
theorem aroundS_ok {c:T27} (G:Good c) {m:List Int} {a:List (List UInt8)} (M:MemOk c m):∀ (l:List Int),(∀ x∈l,isS c x=true)→MemOk c (aroundS c l m a).1∧(aroundS c l m a).2.length≤a.length+8 * l.length
 | [],_=>⟨M,Nat.le_refl _⟩
 | x :: l,h=>by
  obtain⟨h1,h2⟩:=aroundS_ok G (a:=a) M l fun y hy=>h y (List.mem_cons_of_mem _ hy)
  have hx:=h x (by simp)
  have he:=G.entry x hx
  refine⟨h1.set (.inl rfl) hx,?_⟩
  show ((aroundS c l m a).2++(stA c x).Entry).length≤_
  rw[List.length_append,List.length_cons];omega
def leaveS (c:T27) (s:Int):List Int→Int→List Int→List (List UInt8)→List Int×List (List UInt8)
 | [],_,m,a=>(m,a)
 | x :: l,last,m,a=>if(x==s)=true then(m,a)else leaveS c s l x (if((stA c x).History&&(last != (-1:Int)))=true then m.set x.toNat last else m) (a++(stA c x).Exit)
theorem mem_leave {c:T27} {m:List Int} (M:MemOk c m) {x last:Int} (hx:isS c x=true) (hl:last = -1∨childS c last x=true):MemOk c (if((stA c x).History&&(last != (-1:Int)))=true then m.set x.toNat last else m):=by
 split
 ·rename_i h
  simp only[Bool.and_eq_true,bne_iff_ne,ne_eq]at h
  exact M.set (hl.imp (fun e=>absurd e h.2) fun e=>⟨h.1,e⟩) hx
 ·exact M
theorem parent_is {c:T27} (G:Good c) {x:Int} (hx:isS c x=true) (ht:topB c x=false):isS c (stA c x).Parent=true∧(stA c x).Parent.toNat < x.toNat∧childS c x (stA c x).Parent=true:=by
 have h1:=topB_false ht
 have h2:=isS_iff.1 hx
 refine⟨isS_iff.2 ⟨h1.1,by show (c.States.getD x.toNat default).Parent < _;omega⟩,by show (c.States.getD x.toNat default).Parent.toNat < _;omega,?_⟩
 unfold childS;rw[hx];simp[stA]
theorem leaveS_ok {c:T27} (G:Good c) {s:Int}:∀ (n:Nat) (x last:Int) (m:List Int) (a:List (List UInt8)),x.toNat≤n→isS c x=true→MemOk c m→(last = -1∨childS c last x=true) →
  MemOk c (leaveS c s (pathS c x) last m a).1∧(leaveS c s (pathS c x) last m a).2.length≤a.length+8 * (n+1):=by
 intro n
 induction n with
 | zero =>
  intro x last m a hn hx M hl
  have he:=G.exit_ x hx
  rw[pathS_step hx]
  unfold leaveS
  split
  ·exact⟨M,by show a.length≤_;omega⟩
  ·cases ht:topB c x with
   | false=>have:=(parent_is G hx ht).2.1;omega
   | true=>exact⟨mem_leave M hx hl,by simp only[if_true,leaveS,List.length_append];omega⟩
 | succ n ih =>
  intro x last m a hn hx M hl
  have he:=G.exit_ x hx
  rw[pathS_step hx]
  unfold leaveS
  split
  ·exact⟨M,by show a.length≤_;omega⟩
  ·cases ht:topB c x with
   | true=>exact⟨mem_leave M hx hl,by simp only[if_true,leaveS,List.length_append];omega⟩
   | false =>
    obtain⟨p1,p2,p3⟩:=parent_is G hx ht
    simp only[Bool.false_eq_true,if_false]
    obtain⟨k1,k2⟩:=ih (stA c x).Parent x _ (a++(stA c x).Exit) (by omega) p1 (mem_leave M hx hl) (.inr p3)
    exact⟨k1,Nat.le_trans k2 (by rw[List.length_append];omega)⟩
def scopeS (c:T27) (a b:Int):Int:=((pathS c a).tail.find? fun x=>hasK (pathS c b).tail (pathS c b).tail.length x).getD (-1)
def untilS (s:Int) (l:List Int):List Int:=l.takeWhile fun x=>!(s==x)
def startS (c:T27):Int×List Int×List (List UInt8):=enterS c c.Start (aroundS c (pathS c c.Start).tail (List.replicate c.States.length (-1)) []).1 (aroundS c (pathS c c.Start).tail (List.replicate c.States.length (-1)) []).2
def fireS (c:T27) (g:T41) (t:T78):Int×List Int×List (List UInt8) :=
 let s:=scopeS c t.From t.To
 let l:=leaveS c s (pathS c g.Leaf) (-1) g.Memory []
 let r:=aroundS c (untilS s (pathS c t.To).tail) l.1 (l.2++t.Actions)
 enterS c t.To r.1 r.2
theorem tail_is {c:T27} {x:Int}:∀ y∈(pathS c x).tail,isS c y=true:=fun y hy=>(pathS_is x.toNat x (Nat.le_refl _) y (List.mem_of_mem_tail hy)).1
theorem mem_begin {c:T27}:MemOk c (List.replicate c.States.length (-1)):=⟨by simp,fun i hi=>by
 have:(List.replicate c.States.length (-1:Int)).getD i default = -1:=by simp at hi;simp[List.getD_eq_getElem?_getD,List.getElem?_replicate,hi]
 unfold memBad;rw[this];rfl⟩
theorem startS_ok {c:T27} (G:Good c) (H:Fit c):validS c ⟨(startS c).1,(startS c).2.1⟩=true∧(startS c).2.2.length≤16000:=by
 have hs:=H.states
 have hp:=pathS_len c c.Start
 obtain⟨h1,h2⟩:=aroundS_ok G (a:=[]) mem_begin (pathS c c.Start).tail tail_is
 obtain⟨k1,k2,k3,k4⟩:=enterF_ok G c.States.length c.Start _ (aroundS c (pathS c c.Start).tail (List.replicate c.States.length (-1)) []).2 G.start h1 (by omega)
 refine⟨validS_iff.2 ⟨k1,k2,k3⟩,?_⟩
 have:(startS c).2.2.length≤_:=k4
 simp only[List.length_nil,List.length_tail]at h2
 omega
theorem untilS_sub {s:Int} {l:List Int}:∀ x∈untilS s l,x∈l:=fun x hx=>(List.takeWhile_prefix _).sublist.mem hx
theorem untilS_len {s:Int} {l:List Int}:(untilS s l).length≤l.length:=(List.takeWhile_prefix _).length_le
theorem fireS_ok {c:T27} (G:Good c) (H:Fit c) {g:T41} (hg:validS c g=true) {i:Nat} (hi:i < c.Transitions.length):validS c ⟨(fireS c g (c.Transitions.getD i default)).1,(fireS c g (c.Transitions.getD i default)).2.1⟩=true∧(fireS c g (c.Transitions.getD i default)).2.2.length≤32000:=by
 have hs:=H.states
 obtain⟨v1,v2,v3⟩:=validS_iff.1 hg
 have ha:=G.acts i hi
 have ht:=(G.tr i hi).2
 generalize c.Transitions.getD i default=t at *
 have hp:=pathS_len c t.To
 have hl:=(isS_lt v1).2.2
 obtain⟨a1,a2⟩:=leaveS_ok G (s:=scopeS c t.From t.To) g.Leaf.toNat g.Leaf (-1) g.Memory [] (Nat.le_refl _) v1 v3 (.inl rfl)
 obtain⟨h1,h2⟩:=aroundS_ok G (a:=(leaveS c (scopeS c t.From t.To) (pathS c g.Leaf) (-1) g.Memory []).2++t.Actions) a1 (untilS (scopeS c t.From t.To) (pathS c t.To).tail) fun x hx=>tail_is x (untilS_sub x hx)
 have hu:=untilS_len (s:=scopeS c t.From t.To) (l:=(pathS c t.To).tail)
 obtain⟨k1,k2,k3,k4⟩:=enterF_ok G c.States.length t.To _ (aroundS c (untilS (scopeS c t.From t.To) (pathS c t.To).tail) (leaveS c (scopeS c t.From t.To) (pathS c g.Leaf) (-1) g.Memory []).1 ((leaveS c (scopeS c t.From t.To) (pathS c g.Leaf) (-1) g.Memory []).2++t.Actions)).2 ht h1 (by omega)
 refine⟨validS_iff.2 ⟨k1,k2,k3⟩,?_⟩
 have:(fireS c g t).2.2.length≤_:=k4
 simp only[List.length_nil,List.length_tail,List.length_append]at h2 hu a2
 omega
theorem firstR_cons {Y:Type} {f:Nat→Option Y} {n:Nat}:firstR f (n+1)=orK (f 0) (firstR (fun i=>f (i+1)) n):=by
 unfold firstR
 rw[List.range_succ_eq_map,List.findSome?_cons,List.findSome?_map]
 cases f 0<;>rfl
theorem firstR_find {F:Int→Bool}:∀ {l:List Int},firstR (fun i=>if F (l.getD i default)=true then some (l.getD i default)else none) l.length=l.find? F
 | []=>rfl
 | x :: l=>by
  rw[List.length_cons,firstR_cons]
  simp only[List.getD_cons_zero,List.getD_cons_succ]
  rw[firstR_find,List.find?_cons]
  by_cases hf:F x=true
  ·simp only[hf,if_true,orK_some]
  ·have hf:=Bool.eq_false_iff.2 hf
   simp only[hf,Bool.false_eq_true,if_false,orK_none]
theorem until_eq {s:Int}:∀ (l:List Int),(if decide (0≤findR (fun i=>s==l.getD i default) l.length)=true then subL l 0 (findR (fun i=>s==l.getD i default) l.length).toNat else l)=untilS s l∧findR (fun i=>s==l.getD i default) l.length≤l.length
 | []=>by simp[untilS,findR,firstR]
 | x :: l=>by
  obtain⟨h1,h2⟩:=until_eq l (s:=s)
  have e:findR (fun i=>s==(x :: l).getD i default) (x :: l).length=if(s==x)=true then 0 else if decide (0≤findR (fun i=>s==l.getD i default) l.length)=true then findR (fun i=>s==l.getD i default) l.length+1 else -1:=by
   unfold findR
   rw[List.length_cons,firstR_cons]
   simp only[List.getD_cons_zero,List.getD_cons_succ]
   by_cases hx:(s==x)=true
   ·simp only[hx,if_true,orK_some];rfl
   ·simp only[hx,if_false,Bool.false_eq_true,orK_none]
    have key:firstR (fun i=>if(s==l.getD i default)=true then some (((i+1:Nat):Int))else none) l.length=(firstR (fun i=>if(s==l.getD i default)=true then some (i:Int)else none) l.length).map (·+1):=by
     unfold firstR
     induction List.range l.length with
     | nil=>rfl
     | cons i r ih =>
      simp only[List.findSome?_cons]
      by_cases hf:(s==l.getD i default)=true
      ·simp only[hf,if_true];simp
      ·simp only[hf,if_false,Bool.false_eq_true];exact ih
    rw[key]
    cases hf:firstR (fun i=>if(s==l.getD i default)=true then some (i:Int)else none) l.length with
    | none=>rfl
    | some y =>
     obtain⟨i,_,h⟩:=firstR_some hf
     split at h
     ·injection h with h;subst h;simp
     ·cases h
  rw[e]
  by_cases hx:(s==x)=true
  ·simp only[hx,if_true]
   exact⟨by simp[untilS,hx,subL],by rw[List.length_cons];omega⟩
  ·have hx':=Bool.eq_false_iff.2 hx
   simp only[hx',if_false,Bool.false_eq_true]
   unfold untilS at h1 ⊢
   rw[List.takeWhile_cons,hx']
   simp only[Bool.not_false,if_true]
   rw[← h1]
   by_cases hf:decide (0≤findR (fun i=>s==l.getD i default) l.length)=true
   ·have h0:0≤findR (fun i=>s==l.getD i default) l.length:=by simpa using hf
    simp only[hf,if_true]
    have h3:decide (0≤findR (fun i=>s==l.getD i default) l.length+1)=true:=by rw[decide_eq_true_eq];omega
    refine⟨?_,by rw[List.length_cons];omega⟩
    rw[if_pos h3,subL_eq (by rw[List.length_cons];omega),subL_eq (by omega)]
    rw[show (findR (fun i=>s==l.getD i default) l.length+1).toNat=(findR (fun i=>s==l.getD i default) l.length).toNat+1 by omega]
    simp
   ·simp only[hf,if_false,Bool.false_eq_true]
    exact⟨by simp,by rw[List.length_cons];omega⟩
theorem tail_sub (l:List Int):subL l 1 (l.length - 1)=l.tail:=by
 cases l with
 | nil=>rfl
 | cons x l=>rw[subL_eq (by rw[List.length_cons];omega)];simp
theorem pathS_pos {c:T27} {x:Int} (hx:isS c x=true):(1:Int)≤((pathS c x).length:Int):=by rw[pathS_step hx,List.length_cons];omega
end Go.Av.Ch
set_option maxRecDepth 100000
namespace Go.Av.Ch
theorem pass_eq {c:T27} (G:Good c) {x:Int} (hx:isS c x=true) {m:List Int} (M:MemOk c m) (leaf:Int) {a:List (List UInt8)} (ha:a.length≤100000):m103o0 x c leaf m a=some (m.set x.toNat (-1)):=by
 have he:=G.entry x hx
 have hl:=(isS_lt hx).2.2
 have h1:(a.length+(c.States.getD x.toNat default).Entry.length) * 16≤140737488355328:=by unfold stA at he;omega
 have h2:x < (m.length:Int):=by have:=M.len;have:=isS_iff.1 hx;omega
 have h3:x.toNat < m.length:=by have:=M.len;omega
 delta m103o0 d103o0
 simp only[↓JD.sg_m,↓JD.sq_m,↓JD.sc_m,↓JD.bk_m,↓JD.lp_m,↓JD.cd_m,↓JD.lu_m,↓JD.ct_m,↓JD.ce_m,↓JL.r_m,↓JL.z_m,↓JD.se_m,onE_r,↓Tr.run,↓Tr.run_nd,↓Tr.run_c3,↓Tr.run_c2,↓Tr.run_nx,↓onS,bind_ite,Option.bind_some,Option.bind_none,obR,isS_lt hx,h1,h2,h3,if_true]
 by_cases hh:(c.States.getD x.toNat default).History=true
 ·simp only[hh,if_true]
 ·have hh:=Bool.eq_false_iff.2 hh
  simp only[hh,Bool.false_eq_true,if_false]
  rw[set_same h3 (M.none hx hh)]
theorem enter_eq {c:T27} (G:Good c) (H:Fit c) {x:Int} (hx:isS c x=true) {m:List Int} (M:MemOk c m) (leaf:Int) {a:List (List UInt8)} (ha:a.length≤80000):m104o0 x c leaf m a=some (enterS c x m a):=by
 have hs:=H.states
 have hm:=M.len
 delta m104o0 d104o0
 simp only[↓JD.sg_m,↓JD.sq_m,↓JD.sc_m,↓JD.bk_m,↓JD.lp_m,↓JD.cd_m,↓JD.lu_m,↓JD.ct_m,↓JD.ce_m,↓JL.r_m,↓JL.z_m,↓JD.se_m,onE_r,↓Tr.run,↓Tr.run_nd,↓Tr.run_c3,↓Tr.run_c2,↓Tr.run_nx,↓onS,bind_ite,Option.bind_some,Option.bind_none,obR]
 refine enter_loop G (fun x m' a hx M' ha=>?_) _ _ _ _ hx M (by omega) (by omega)
 have hl:=(isS_lt hx).2.2
 have h2:x < (m.length:Int):=by have:=isS_iff.1 hx;omega
 have h3:x.toNat < m.length:=by omega
 have h4:subL m' 0 m.length=m':=subL_all (by rw[M'.len,hm])
 simp only[isS_lt hx,h2,h3,h4,implies_true,if_true,pass_eq G hx M' leaf ha,Option.bind_some]
 cases hc:comp c x with
 | true =>
  obtain⟨q1,q2⟩:=child_is G (nextS_child G M' hx hc)
  have q3:=isS_iff.1 q1
  unfold nextS stA at *
  simp only[if_true]
  by_cases hh:((c.States.getD x.toNat default).History&&(m'.getD x.toNat default != (-1:Int)))=true
  ·rw[if_pos hh]at q3
   have:(m'.getD x.toNat default==(-1:Int))=false:=by simp only[beq_eq_false_iff_ne,ne_eq];omega
   simp only[hh,this,if_true,Bool.false_eq_true,if_false]
  ·rw[if_neg hh]at q3
   have hh:=Bool.eq_false_iff.2 hh
   have:((c.States.getD x.toNat default).Initial==(-1:Int))=false:=by simp only[beq_eq_false_iff_ne,ne_eq];omega
   simp only[hh,this,if_true,Bool.false_eq_true,if_false]
 | false =>
  obtain⟨q1,q2⟩:=G.leafI x hx hc
  unfold stA at *
  simp only[q1,q2,Bool.false_and,Bool.false_eq_true,if_false,beq_self_eq_true,if_true]
  rw[set_same (by rw[M'.len];omega) (M'.none hx q2)]
theorem scope_eq {c:T27} (H:Fit c) {a b:Int} (ha:isS c a=true) (hb:isS c b=true):m106 c a b=some (scopeS c a b):=by
 have hs:=H.states
 have hla:=pathS_len c a
 have hlb:=pathS_len c b
 have hl:(pathS c b).tail.length≤100000:=by rw[List.length_tail];omega
 delta m106 d106
 simp only[↓JD.sg_m,↓JD.sq_m,↓JD.sc_m,↓JD.bk_m,↓JD.lp_m,↓JD.cd_m,↓JD.lu_m,↓JD.ct_m,↓JD.ce_m,↓JL.r_m,↓JL.z_m,↓JD.se_m,onE_r,↓Tr.run,↓Tr.run_nd,↓Tr.run_c3,↓Tr.run_c2,↓Tr.run_nx,↓onS,bind_ite,Option.bind_some,Option.bind_none,obR,Path_eq c H,Option.bind_some,Int.reduceLE,pathS_pos ha,pathS_pos hb,if_true,onS_l,Int.toNat_one,tail_sub,containsI_eq _ _ hl]
 rw[show ((pathS c a).length - 1)=(pathS c a).tail.length by rw[List.length_tail]]
 rw[loop_ex (pathS c a).tail.length (fun i=>if hasK (pathS c b).tail (pathS c b).tail.length ((pathS c a).tail.getD i default)=true then some ((pathS c a).tail.getD i default)else none) ?_ ?_,firstR_find,orK_getD];rfl
 ·intro i hi
  rw[List.length_tail]at hi
  have hi':i < (pathS c a).tail.length:=by rw[List.length_tail];exact hi
  have hta:(pathS c a).tail.length≤1000:=by rw[List.length_tail];omega
  simp only[exB_ite,exB_some,exB_none]
  simp only[inL hi',decide_true,Int.toNat_natCast,if_true,wr1 hi' (by omega)]
 ·(simp only[lt_irr,decide_false,Bool.false_eq_true,if_false];try rfl)
theorem leave_key {c:T27} (G:Good c) (s:Int) {p:List Int} {S X:Type} {b:S→Option (S⊕X)} (mk:Int→Int→List Int→List (List UInt8)→S) (out:List Int×List (List UInt8)→X)
  (hb:∀ (pre l:List Int) (x last:Int) (m:List Int) (a:List (List UInt8)),p=pre++x :: l→isS c x=true→MemOk c m→((last = -1∧(stA c x).History=false)∨childS c last x=true)→a.length≤90000 →
   b (mk last (pre.length:Int) m a)=if(x==s)=true then some (.inr (out (m,a)))else some (.inl (mk x ((pre.length+1:Nat):Int) (if((stA c x).History&&(last != (-1:Int)))=true then m.set x.toNat last else m) (a++(stA c x).Exit))))
  (he:∀ last m a,b (mk last (p.length:Int) m a)=some (.inr (out (m,a)))) :
  ∀ (n:Nat) (pre:List Int) (x last:Int) (m:List Int) (a:List (List UInt8)),p=pre++pathS c x→x.toNat≤n→isS c x=true→MemOk c m→((last = -1∧(stA c x).History=false)∨childS c last x=true)→a.length+8 * (n+1)≤90000 →
   loopO b (mk last (pre.length:Int) m a)=some (out (leaveS c s (pathS c x) last m a)):=by
 intro n
 induction n with
 | zero =>
  intro pre x last m' a hpre hn hx M' hl ha
  have he8:=G.exit_ x hx
  rw[pathS_step hx]at hpre ⊢
  rw[loopO_eq,hb pre _ x last m' a hpre hx M' hl (by omega)]
  unfold leaveS
  by_cases hxs:(x==s)=true
  ·simp only[hxs,if_true,Option.bind_some]
  ·simp only[hxs,if_false,Bool.false_eq_true,Option.bind_some]
   cases ht:topB c x with
   | false=>have:=(parent_is G hx ht).2.1;omega
   | true =>
    rw[ht]at hpre
    simp only[if_true]at hpre ⊢
    rw[loopO_eq,show pre.length+1=p.length by rw[hpre];simp,he];rfl
 | succ n ih =>
  intro pre x last m' a hpre hn hx M' hl ha
  have he8:=G.exit_ x hx
  rw[pathS_step hx]at hpre ⊢
  rw[loopO_eq,hb pre _ x last m' a hpre hx M' hl (by omega)]
  unfold leaveS
  by_cases hxs:(x==s)=true
  ·simp only[hxs,if_true,Option.bind_some]
  ·simp only[hxs,if_false,Bool.false_eq_true,Option.bind_some]
   cases ht:topB c x with
   | true =>
    rw[ht]at hpre
    simp only[if_true]at hpre ⊢
    rw[loopO_eq,show pre.length+1=p.length by rw[hpre];simp,he];rfl
   | false =>
    obtain⟨p1,p2,p3⟩:=parent_is G hx ht
    rw[ht]at hpre
    simp only[Bool.false_eq_true,if_false]at hpre ⊢
    have:=ih (pre++[x]) (stA c x).Parent x _ (a++(stA c x).Exit) (by rw[hpre];simp[stA]) (by omega) p1 (mem_leave M' hx (hl.imp (·.1) id)) (.inr p3) (by rw[List.length_append];omega)
    rw[List.length_append]at this
    exact this
theorem leave_eq {c:T27} (G:Good c) (H:Fit c) (s:Int) {leaf:Int} (hx:isS c leaf=true) (hc:comp c leaf=false) {m:List Int} (M:MemOk c m):m107o0 s c leaf m []=some (leaveS c s (pathS c leaf) (-1) m []):=by
 have hs:=H.states
 have hm:=M.len
 have hp:=pathS_len c leaf
 have hlf:=(isS_lt hx).2.2
 have hh:=(G.leafI leaf hx hc).2
 delta m107o0 d107o0
 simp only[↓JD.sg_m,↓JD.sq_m,↓JD.sc_m,↓JD.bk_m,↓JD.lp_m,↓JD.cd_m,↓JD.lu_m,↓JD.ct_m,↓JD.ce_m,↓JL.r_m,↓JL.z_m,↓JD.se_m,onE_r,↓Tr.run,↓Tr.run_nd,↓Tr.run_c3,↓Tr.run_c2,↓Tr.run_nx,↓onS,bind_ite,Option.bind_some,Option.bind_none,obR,Path_eq c H,onS_l]
 generalize hP:pathS c leaf=p at *
 rw[show leaveS c s p (-1) m []=leaveS c s (pathS c leaf) (-1) m [] by rw[hP]]
 refine leave_key G s (p:=p) (fun last i m a=>(last,i,m,a)) id (fun pre l x last m' a hpre hx M' hl ha=>?_) (fun last m' a=>?_) leaf.toNat [] leaf (-1) m [] (by rw[hP];rfl) (Nat.le_refl _) hx M (.inl ⟨rfl,hh⟩) (by simp;omega)
 ·have hi:pre.length < p.length:=by rw[hpre];simp
  have hg:p.getD pre.length default=x:=by rw[hpre];simp[List.getD_eq_getElem?_getD]
  have he8:=G.exit_ x hx
  have h1:(a.length+(c.States.getD x.toNat default).Exit.length) * 16≤140737488355328:=by unfold stA at he8;omega
  have h2:x < (m.length:Int):=by have:=isS_iff.1 hx;omega
  have h3:x.toNat < m.length:=by have:=(isS_lt hx).2.2;omega
  have h4:subL m' 0 m.length=m':=subL_all (by rw[M'.len,hm])
  simp only[inL hi,decide_true,Int.toNat_natCast,if_true,hg,isS_lt hx,h1,h2,h3,h4,wr1 hi (by omega)]
  refine ite_else ?_
  unfold stA
  by_cases hh:((c.States.getD x.toNat default).History&&(last != (-1:Int)))=true
  ·simp only[hh,if_true];rfl
  ·simp only[hh,if_false,Bool.false_eq_true];rfl
 ·simp only[lt_irr,decide_false,Bool.false_eq_true,if_false];rfl
theorem around_fold {c:T27} (G:Good c) {l:List Int} (hl:∀ x∈l,isS c x=true) (h1:l.length≤2000) {m:List Int} (M:MemOk c m) {a:List (List UInt8)} (ha:a.length≤60000) {f:List Int×List (List UInt8)→Nat→Option (List Int×List (List UInt8))}
  (hf:∀ (x:Int) (i:Nat) (m':List Int) (a':List (List UInt8)),i < l.length→l.getD i 0=x→isS c x=true→MemOk c m'→a'.length≤100000→f (m',a') i=some (m'.set x.toNat (-1),a'++(stA c x).Entry)) :
  (dn l.length l.length).foldlM f (m,a)=some (aroundS c l m a):=by
 have key:∀ k,k≤l.length→(dn l.length k).foldlM f (m,a)=some (aroundS c (l.drop (l.length - k)) m a):=by
  intro k
  induction k with
  | zero=>intro _;simp[dn,aroundS]
  | succ k ih =>
   intro hk
   have e:dn l.length (k+1)=dn l.length k++[l.length - 1 - k]:=by unfold dn;rw[List.range_succ,List.map_append];rfl
   have hi:l.length - 1 - k < l.length:=by omega
   have hd:l.drop (l.length - (k+1))=l.getD (l.length - 1 - k) 0 :: l.drop (l.length - k):=by
    rw[show l.length - (k+1)=l.length - 1 - k by omega,List.drop_eq_getElem_cons hi,show l.length - 1 - k+1=l.length - k by omega]
    simp[List.getD_eq_getElem?_getD,List.getElem?_eq_getElem hi]
   have hx:isS c (l.getD (l.length - 1 - k) 0)=true:=hl _ (by rw[List.getD_eq_getElem?_getD,List.getElem?_eq_getElem hi];exact List.getElem_mem hi)
   obtain⟨k1,k2⟩:=aroundS_ok G (a:=a) M (l.drop (l.length - k)) fun x hx=>hl x (List.mem_of_mem_drop hx)
   rw[e,List.foldlM_append,ih (by omega),hd]
   show (f _ _).bind _=_
   rw[hf _ _ _ _ hi rfl hx k1 (by rw[List.length_drop]at k2;omega)]
   rfl
 have:=key l.length (Nat.le_refl _)
 rwa [Nat.sub_self,List.drop_zero]at this
theorem into_eq {c:T27} (G:Good c) (H:Fit c) {to:Int} (ht:isS c to=true) (s:Int) (leaf:Int) {m:List Int} (M:MemOk c m) {a:List (List UInt8)} (ha:a.length≤60000) :
  m56o0 to s c leaf m a=some (enterS c to (aroundS c (untilS s (pathS c to).tail) m a).1 (aroundS c (untilS s (pathS c to).tail) m a).2):=by
 have hs:=H.states
 have hm:=M.len
 have hp:=pathS_len c to
 have hl:(pathS c to).tail.length≤100000:=by rw[List.length_tail];omega
 obtain⟨u1,u2⟩:=until_eq (s:=s) (pathS c to).tail
 have hu:=untilS_len (s:=s) (l:=(pathS c to).tail)
 have e1:(d56o0_1 to s c leaf m a).m=some (pathS c to).tail:=by
  delta d56o0_1
  simp only[↓JD.sg_m,↓JD.sq_m,↓JD.sc_m,↓JD.bk_m,↓JD.lp_m,↓JD.cd_m,↓JD.lu_m,↓JD.ct_m,↓JD.ce_m,↓JL.r_m,↓JL.z_m,↓JD.se_m,onE_r,↓Tr.run,↓Tr.run_nd,↓Tr.run_c3,↓Tr.run_c2,↓Tr.run_nx,↓onS,bind_ite,Option.bind_some,Option.bind_none,obR,Path_eq c H,Option.bind_some,Int.reduceLE,pathS_pos ht,if_true,Int.toNat_one,tail_sub]
 have e2:(d56o0_2 to s c leaf m a (pathS c to).tail).m=some (untilS s (pathS c to).tail):=by
  delta d56o0_2
  simp only[↓JD.sg_m,↓JD.sq_m,↓JD.sc_m,↓JD.bk_m,↓JD.lp_m,↓JD.cd_m,↓JD.lu_m,↓JD.ct_m,↓JD.ce_m,↓JL.r_m,↓JL.z_m,↓JD.se_m,onE_r,↓Tr.run,↓Tr.run_nd,↓Tr.run_c3,↓Tr.run_c2,↓Tr.run_nx,↓onS,bind_ite,Option.bind_some,Option.bind_none,obR,indexI_eq _ _ hl]
  rw[← u1]
  by_cases h0:decide (0≤findR (fun i=>s==(pathS c to).tail.getD i default) (pathS c to).tail.length)=true
  ·have h1:0≤findR (fun i=>s==(pathS c to).tail.getD i default) (pathS c to).tail.length:=by simpa using h0
   simp only[h1,u2,decide_true,if_true]
  ·simp only[h0,if_false,Bool.false_eq_true]
 have e3:(d56o0_3 to s c leaf m a (pathS c to).tail (untilS s (pathS c to).tail)).m=some ():=by
  delta d56o0_3
  simp only[↓JD.sg_m,↓JD.sq_m,↓JD.sc_m,↓JD.bk_m,↓JD.lp_m,↓JD.cd_m,↓JD.lu_m,↓JD.ct_m,↓JD.ce_m,↓JL.r_m,↓JL.z_m,↓JD.se_m,onE_r,↓Tr.run,↓Tr.run_nd,↓Tr.run_c3,↓Tr.run_c2,↓Tr.run_nx,↓onS,bind_ite,Option.bind_some,Option.bind_none,obR,m102o0,d102o0]
 obtain⟨r1,r2⟩:=aroundS_ok G (a:=a) M (untilS s (pathS c to).tail) fun x hx=>tail_is x (untilS_sub x hx)
 rw[List.length_tail]at hu
 delta m56o0
 rw[show (d56o0_0 to s c leaf m a).m=some () from rfl,Option.bind_some,e1,Option.bind_some,e2,Option.bind_some,e3,Option.bind_some,if_pos (by omega)]
 rw[around_fold G (fun x hx=>tail_is x (untilS_sub x hx)) (by omega) M ha ?_,Option.bind_some]
 ·delta d56o0_p
  have h4:subL (aroundS c (untilS s (pathS c to).tail) m a).1 0 m.length=(aroundS c (untilS s (pathS c to).tail) m a).1:=subL_all (by rw[r1.len,hm])
  simp only[↓JD.sg_m,↓JD.sq_m,↓JD.sc_m,↓JD.bk_m,↓JD.lp_m,↓JD.cd_m,↓JD.lu_m,↓JD.ct_m,↓JD.ce_m,↓JL.r_m,↓JL.z_m,↓JD.se_m,onE_r,↓Tr.run,↓Tr.run_nd,↓Tr.run_c3,↓Tr.run_c2,↓Tr.run_nx,↓onS,bind_ite,Option.bind_some,Option.bind_none,obR,h4,enter_eq G H ht r1 leaf (a:=(aroundS c (untilS s (pathS c to).tail) m a).2) (by omega)]
 ·intro x i m' a' hi hg hx M' ha'
  have h4:subL m' 0 m.length=m':=subL_all (by rw[M'.len,hm])
  delta mr56o0
  simp only[hg,h4,pass_eq G hx M' leaf ha',Option.map_some]
theorem begun_eq {c:T27} (H:Fit c) {g:T41} (hl:g.Memory.length=c.States.length):m54o0 c g=some ():=by
 have hs:=H.states
 have h1:((0:Int)≤(g.Memory.length:Int)):=by omega
 have h2:(g.Memory.length:Int) * 8≤140737488355328:=by omega
 have h3:(g.Memory.length:Int)≤9223372036854775807:=by omega
 delta m54o0 d54o0
 simp only[↓JD.sg_m,↓JD.sq_m,↓JD.sc_m,↓JD.bk_m,↓JD.lp_m,↓JD.cd_m,↓JD.lu_m,↓JD.ct_m,↓JD.ce_m,↓JL.r_m,↓JL.z_m,↓JD.se_m,onE_r,↓Tr.run,↓Tr.run_nd,↓Tr.run_c3,↓Tr.run_c2,↓Tr.run_nx,↓onS,bind_ite,Option.bind_some,Option.bind_none,obR,h1,h2,h3,if_true]
theorem copyL_full {l:List Int} {n:Nat} (h:l.length=n):copyL (List.replicate n (0:Int)) l=l:=by
 subst h
 rw[copyL,List.length_replicate,List.take_length,List.drop_eq_nil_of_le (by simp),List.append_nil]
theorem fire_of {c:T27} (G:Good c) (H:Fit c) {g:T41} (hg:validS c g=true) {i:Nat} (hi:i < c.Transitions.length) (he:checkM c=some 0) (hon:hasK (pathS c g.Leaf) (pathS c g.Leaf).length (c.Transitions.getD i default).From=true) :
  m58 c g i=some (⟨(fireS c g (c.Transitions.getD i default)).1,(fireS c g (c.Transitions.getD i default)).2.1⟩,(fireS c g (c.Transitions.getD i default)).2.2,0):=by
 have hs:=H.states
 obtain⟨v1,v2,v3⟩:=validS_iff.1 hg
 have hml:=v3.len
 have hp:=pathS_len c g.Leaf
 have hlf:=(isS_lt v1).2.2
 have ha:=G.acts i hi
 obtain⟨hf,ht⟩:=G.tr i hi
 obtain⟨a1,a2⟩:=leaveS_ok G (s:=scopeS c (c.Transitions.getD i default).From (c.Transitions.getD i default).To) g.Leaf.toNat g.Leaf (-1) g.Memory [] (Nat.le_refl _) v1 v3 (.inl rfl)
 simp only[List.length_nil]at a2
 have h16:((leaveS c (scopeS c (c.Transitions.getD i default).From (c.Transitions.getD i default).To) (pathS c g.Leaf) (-1) g.Memory []).2.length+(c.Transitions.getD i default).Actions.length) * 16≤140737488355328:=by omega
 have hsub:∀ m:List Int,m.length=c.States.length→subL m 0 g.Memory.length=m:=fun m h=>subL_all (by rw[h,hml])
 have hrange:(decide ((i:Int) < 0) || decide ((c.Transitions.length:Int)≤(i:Int)))=false:=by simp;omega
 have hend:=(fireS_ok G H hg hi).1
 have hmend:=(validS_iff.1 hend).2.2.len
 delta m58 d58
 simp only[↓JD.sg_m,↓JD.sq_m,↓JD.sc_m,↓JD.bk_m,↓JD.lp_m,↓JD.cd_m,↓JD.lu_m,↓JD.ct_m,↓JD.ce_m,↓JL.r_m,↓JL.z_m,↓JD.se_m,onE_r,↓Tr.run,↓Tr.run_nd,↓Tr.run_c3,↓Tr.run_c2,↓Tr.run_nx,↓onS,bind_ite,Option.bind_some,Option.bind_none,obR,Check_eq c H,he,Valid_eq c H,hg,Path_eq c H,inL hi,Int.toNat_natCast,if_true,Option.bind_some,containsI_eq _ _ (show (pathS c g.Leaf).length≤100000 by omega),hon,hrange,begun_eq H hml,scope_eq H hf ht,copyL_full (rfl:g.Memory.length=_),leave_eq G H _ v1 v2 v3,h16,
  hsub _ a1.len,bne_self_eq_false,Bool.not_true,Bool.false_eq_true,if_false]
 rw[into_eq G H ht _ _ a1 (by rw[List.length_append];omega)]
 simp only[Option.bind_some]
 have:=hsub _ hmend
 unfold fireS at this
 rw[this]
 rfl
theorem fire_err {c:T27} (H:Fit c) {g:T41} {t:Int}:m58 c g t=(checkM c).bind fun e=>if(e != 0)=true then some (⟨0,[]⟩,[],e)else if(!validS c g)=true then some (⟨0,[]⟩,[],8)else if(decide (t < 0) || decide ((c.Transitions.length:Int)≤t))=true then some (⟨0,[]⟩,[],2)else
  if(!hasK (pathS c g.Leaf) (pathS c g.Leaf).length (c.Transitions.getD t.toNat default).From)=true then some (⟨0,[]⟩,[],9)else some (⟨(fireS c g (c.Transitions.getD t.toNat default)).1,(fireS c g (c.Transitions.getD t.toNat default)).2.1⟩,(fireS c g (c.Transitions.getD t.toNat default)).2.2,0):=by
 have hs:=H.states
 have hp:=pathS_len c g.Leaf
 obtain⟨e,he⟩:=checkM_some c
 rw[he,Option.bind_some]
 by_cases h0:(e != 0)=true
 ·delta m58 d58
  simp only[↓JD.sg_m,↓JD.sq_m,↓JD.sc_m,↓JD.bk_m,↓JD.lp_m,↓JD.cd_m,↓JD.lu_m,↓JD.ct_m,↓JD.ce_m,↓JL.r_m,↓JL.z_m,↓JD.se_m,onE_r,↓Tr.run,↓Tr.run_nd,↓Tr.run_c3,↓Tr.run_c2,↓Tr.run_nx,↓onS,bind_ite,Option.bind_some,Option.bind_none,obR,Check_eq c H,he,Option.bind_some,h0,if_true]
 have h0':e=0:=by simpa using h0
 subst h0'
 simp only[h0,if_false,Bool.false_eq_true]
 cases hv:validS c g with
 | false =>
  delta m58 d58
  simp only[↓JD.sg_m,↓JD.sq_m,↓JD.sc_m,↓JD.bk_m,↓JD.lp_m,↓JD.cd_m,↓JD.lu_m,↓JD.ct_m,↓JD.ce_m,↓JL.r_m,↓JL.z_m,↓JD.se_m,onE_r,↓Tr.run,↓Tr.run_nd,↓Tr.run_c3,↓Tr.run_c2,↓Tr.run_nx,↓onS,bind_ite,Option.bind_some,Option.bind_none,obR,Check_eq c H,he,Option.bind_some,h0,if_false,Bool.false_eq_true,Valid_eq c H,hv,Bool.not_false,if_true]
 | true =>
  by_cases hr:(decide (t < 0) || decide ((c.Transitions.length:Int)≤t))=true
  ·delta m58 d58
   simp only[↓JD.sg_m,↓JD.sq_m,↓JD.sc_m,↓JD.bk_m,↓JD.lp_m,↓JD.cd_m,↓JD.lu_m,↓JD.ct_m,↓JD.ce_m,↓JL.r_m,↓JL.z_m,↓JD.se_m,onE_r,↓Tr.run,↓Tr.run_nd,↓Tr.run_c3,↓Tr.run_c2,↓Tr.run_nx,↓onS,bind_ite,Option.bind_some,Option.bind_none,obR,Check_eq c H,he,Option.bind_some,h0,if_false,Bool.false_eq_true,Valid_eq c H,hv,Bool.not_true,hr,if_true]
  ·have hr':=Bool.eq_false_iff.2 hr
   simp only[Bool.or_eq_false_iff,decide_eq_false_iff_not]at hr'
   obtain⟨i,rfl⟩:=Int.eq_ofNat_of_zero_le (show 0≤t by omega)
   have hi:i < c.Transitions.length:=by omega
   cases hon:hasK (pathS c g.Leaf) (pathS c g.Leaf).length (c.Transitions.getD i default).From with
   | true=>rw[fire_of (good_of he) H hv hi he hon];simp only[hr,Int.toNat_natCast,hon,Bool.not_true,Bool.false_eq_true,if_false]
   | false =>
    delta m58 d58
    simp only[↓JD.sg_m,↓JD.sq_m,↓JD.sc_m,↓JD.bk_m,↓JD.lp_m,↓JD.cd_m,↓JD.lu_m,↓JD.ct_m,↓JD.ce_m,↓JL.r_m,↓JL.z_m,↓JD.se_m,onE_r,↓Tr.run,↓Tr.run_nd,↓Tr.run_c3,↓Tr.run_c2,↓Tr.run_nx,↓onS,bind_ite,Option.bind_some,Option.bind_none,obR,Check_eq c H,he,Option.bind_some,h0,if_false,Bool.false_eq_true,Valid_eq c H,hv,Bool.not_true,hr,if_true,inL hi,Int.toNat_natCast,Path_eq c H,containsI_eq _ _ (show (pathS c g.Leaf).length≤100000 by omega),hon,Bool.not_false]
end Go.Av.Ch
set_option maxRecDepth 100000
namespace Go.Av.Ch
theorem untilS_all {s:Int} {l:List Int} (h:∀ x∈l,x≠s):untilS s l=l:=by
 unfold untilS
 induction l with
 | nil=>rfl
 | cons x l ih =>
  have hx:(s==x)=false:=by simp only[beq_eq_false_iff_ne,ne_eq];exact fun e=>h x (by simp) e.symm
  rw[List.takeWhile_cons,hx,ih fun y hy=>h y (List.mem_cons_of_mem _ hy)];rfl
def startM (c:T27):Option (Int×List (List UInt8)×Int×List Int):=(checkM c).bind fun e=>if(e != 0)=true then some (e,[],0,[])else some (0,(startS c).2.2,(startS c).1,(startS c).2.1)
theorem Start_eq (c:T27) (H:Fit c):m14o0 c=startM c:=by
 obtain⟨e,he⟩:=checkM_some c
 unfold startM
 rw[he,Option.bind_some]
 delta m14o0 d14o0
 by_cases h0:(e != 0)=true
 ·simp only[↓JD.sg_m,↓JD.sq_m,↓JD.sc_m,↓JD.bk_m,↓JD.lp_m,↓JD.cd_m,↓JD.lu_m,↓JD.ct_m,↓JD.ce_m,↓JL.r_m,↓JL.z_m,↓JD.se_m,onE_r,↓Tr.run,↓Tr.run_nd,↓Tr.run_c3,↓Tr.run_c2,↓Tr.run_nx,↓onS,bind_ite,Option.bind_some,Option.bind_none,obR,Check_eq c H,he,h0,if_true]
 ·have h0':e=0:=by simpa using h0
  subst h0'
  have G:=good_of he
  have hcap:=G.cap
  have hrep:m55 [-1] (c.States.length:Int)=some (List.replicate c.States.length (-1)):=by
   unfold m55
   simp only[Int.toNat_natCast]
   rw[if_pos (by omega)]
  have hb:=begun_eq H (g:=⟨0,List.replicate c.States.length (-1)⟩) (by simp)
  have hl:(List.replicate c.States.length (-1:Int)).length=c.States.length:=by simp
  have hu:untilS (-1) (pathS c c.Start).tail=(pathS c c.Start).tail:=untilS_all fun x hx=>by
   have:=isS_iff.1 (tail_is x hx);omega
  have hi:=into_eq G H G.start (-1) 0 mem_begin (a:=[]) (by simp)
  rw[hu]at hi
  have hend:=(startS_ok G H).1
  have hmend:=(validS_iff.1 hend).2.2.len
  simp only[↓JD.sg_m,↓JD.sq_m,↓JD.sc_m,↓JD.bk_m,↓JD.lp_m,↓JD.cd_m,↓JD.lu_m,↓JD.ct_m,↓JD.ce_m,↓JL.r_m,↓JL.z_m,↓JD.se_m,onE_r,↓Tr.run,↓Tr.run_nd,↓Tr.run_c3,↓Tr.run_c2,↓Tr.run_nx,↓onS,bind_ite,Option.bind_some,Option.bind_none,obR,Check_eq c H,he,h0,if_false,Bool.false_eq_true,hrep,hb,hl,Int.toNat_natCast,copyL_full hl,hi]
  rw[subL_all (by unfold startS at hmend;exact hmend)]
  rfl
theorem enabled_at {c:T27} {leaf v:Int} (h:0 < (enabledS c leaf v).length):∃ i,i < c.Transitions.length∧(enabledS c leaf v).getD 0 default=(i:Int)∧hasK (pathS c leaf) (pathS c leaf).length (c.Transitions.getD i default).From=true:=by
 have hm:(enabledS c leaf v).getD 0 default∈enabledS c leaf v:=getD_mem h
 generalize (enabledS c leaf v).getD 0 default=x at *
 unfold enabledS at hm
 obtain⟨i,hi,hx⟩:=List.mem_flatMap.1 hm
 unfold enabG at hx
 split at hx
 ·rename_i h1
  simp only[Bool.and_eq_true]at h1
  exact⟨i,List.mem_range.1 hi,by simpa using hx,h1.1⟩
 ·cases hx
def fireR (c:T27) (g:T41) (t:Int):T41×List (List UInt8)×Int:=(⟨(fireS c g (c.Transitions.getD t.toNat default)).1,(fireS c g (c.Transitions.getD t.toNat default)).2.1⟩,(fireS c g (c.Transitions.getD t.toNat default)).2.2,0)
def stepM (c:T27) (g:T41) (v:Int):Option (T41×List (List UInt8)×Int):=(checkM c).bind fun e=>if(e != 0)=true then some (⟨0,[]⟩,[],e)else if(!validS c g)=true then some (⟨0,[]⟩,[],8)else if(!allowedS c v)=true then some (⟨0,[]⟩,[],1)else
 if(((enabledS c g.Leaf v).length:Int)==0)=true then some (⟨0,[]⟩,[],6)else if(((enabledS c g.Leaf v).length:Int)==1)=true then some (fireR c g ((enabledS c g.Leaf v).getD 0 default))else some (⟨0,[]⟩,[],11)
theorem stepM_ok {c:T27} (H:Fit c) {g:T41} {v:Int} {r:T41×List (List UInt8)×Int} (h:stepM c g v=some r):r.2.1.length≤32000∧(r.2.2=0→checkM c=some 0∧validS c g=true∧validS c r.1=true):=by
 obtain⟨e,he⟩:=checkM_some c
 unfold stepM at h
 rw[he,Option.bind_some]at h
 split at h
 ·rename_i h0;injection h with h;subst h;exact⟨by simp,fun h=>absurd h (by simpa using h0)⟩
 rename_i h0
 have h0':e=0:=by simpa using h0
 subst h0'
 split at h
 ·injection h with h;subst h;exact⟨by simp,fun h=>absurd h (by decide)⟩
 rename_i hv
 have hv:validS c g=true:=by simpa using hv
 split at h
 ·injection h with h;subst h;exact⟨by simp,fun h=>absurd h (by decide)⟩
 split at h
 ·injection h with h;subst h;exact⟨by simp,fun h=>absurd h (by decide)⟩
 split at h
 ·rename_i h1
  have hl:(enabledS c g.Leaf v).length=1:=by have:=eq_of_beq h1;omega
  obtain⟨i,hi,hx,hon⟩:=enabled_at (c:=c) (leaf:=g.Leaf) (v:=v) (by omega)
  injection h with h;subst h
  rw[hx]
  unfold fireR
  rw[Int.toNat_natCast]
  obtain⟨k1,k2⟩:=fireS_ok (good_of he) H hv hi
  exact⟨k2,fun _=>⟨he,hv,k1⟩⟩
 ·injection h with h;subst h;exact⟨by simp,fun h=>absurd h (by decide)⟩
end Go.Av.Ch
set_option maxRecDepth 100000
namespace Go.Av.Ch
structure Small (c:T27):Prop where
 conds:c.Conds.length≤6
 never:c.Never.length≤4
 lits:∀ l∈c.Never,l.length≤6
 states:c.States.length≤12
 entry:∀ s∈c.States,s.Entry.length≤9
 exit_:∀ s∈c.States,s.Exit.length≤9
 trans:c.Transitions.length≤24
 when_:∀ t∈c.Transitions,t.When.length≤6
 acts:∀ t∈c.Transitions,t.Actions.length≤9
theorem Small.fit {c:T27} (h:Small c):Fit c :=
 ⟨Nat.le_trans h.conds (by omega),Nat.le_trans h.never (by omega),fun l hl=>Nat.le_trans (h.lits l hl) (by omega),Nat.le_trans h.states (by omega),fun s hs=>Nat.le_trans (h.entry s hs) (by omega),fun s hs=>Nat.le_trans (h.exit_ s hs) (by omega),Nat.le_trans h.trans (by omega),fun t ht=>Nat.le_trans (h.when_ t ht) (by omega),fun t ht=>Nat.le_trans (h.acts t ht) (by omega)⟩
end Go.Av.Ch
set_option maxRecDepth 100000
namespace Go.Av.Ch
theorem bne_self {α:Type} [BEq α] [LawfulBEq α] (x:α):(x != x)=false:=by simp
end Go.Av.Ch
namespace Go.Av
theorem n16 {n:Nat} (h:n < 65536):IntKind.wrap .u16 (n:Int)=(n:Int):=IntWalk.u16_in _ (by omega)
theorem u8_nat {v:Int} (h:(Lit.int .u8 v).wf=true):∃ n:Nat,v=n∧n < 256:=by
 simp[Lit.wf,IntKind.min,IntKind.max,IntKind.signed,IntKind.bits]at h
 exact⟨v.toNat,by omega,by omega⟩
theorem bs {α β:Type} {a:α} {f:α→Option β}:Option.bind (some a) f=f a:=Eq.mpr rfl rfl
theorem bn {α β:Type} {f:α→Option β}:Option.bind none f=none:=Eq.mpr rfl rfl
theorem ol {Y R:Type} {f:Y→Option R} {y:Y}:onS f (.inl y)=f y:=Eq.mpr rfl rfl
theorem or_ {Y R:Type} {f:Y→Option R} {r:R}:onS f (.inr r)=some r:=Eq.mpr rfl rfl
theorem oe {R:Type} {r:R}:onE (.inr r)=some r:=Eq.mpr rfl rfl
theorem bind_id {α:Type} {m:Option α}:(Option.bind m fun r=>some r)=m:=by cases m<;>rfl
theorem loop_st {S X : Type} {b : S → Option (S ⊕ X)} (n : Nat) (st : Nat → S) (out : X) (hs : ∀ i, i < n → b (st i) = some (.inl (st (i + 1)))) (he : b (st n) = some (.inr out)) : loopO b (st 0) = some out := by
  have key : ∀ k i, i + k = n → loopO b (st i) = some out := by
    intro k
    induction k with
    | zero => intro i h; obtain rfl : i = n := by omega
              rw [loopO_eq, he]; rfl
    | succ k ih => intro i h; rw [loopO_eq, hs i (by omega)]; exact ih (i + 1) (by omega)
  exact key n 0 (by omega)
end Go.Av
set_option maxRecDepth 100000
namespace Go.Av
open Ch Go.Proofs
instance:Decidable (Tryz.prog=Tryz.prog):=.isTrue rfl
theorem list_eq_iff {α:Type} [Inhabited α] {a b:List α} (h:a.length=b.length):a=b↔∀ i,i < a.length→a.getD i default=b.getD i default:=by
 constructor
 ·intro e i _;rw[e]
 ·intro k
  apply List.ext_getElem h
  intro i h1 h2
  have:=k i h1
  simpa [List.getD_eq_getElem?_getD,List.getElem?_eq_getElem h1,List.getElem?_eq_getElem h2] using this
theorem firstR_ne {α:Type} [BEq α] [LawfulBEq α] [Inhabited α] {a b:List α} (h:a.length=b.length):(firstR (fun i=>if(a.getD i default != b.getD i default)=true then some false else none) a.length).getD true=(a==b):=by
 rw[firstR_const]
 by_cases e:a=b
 ·have:anyR (fun i=>a.getD i default != b.getD i default) a.length=false:=by
   rw[anyR_false];intro i _;rw[e];simp
  rw[this,e];simp
 ·have:anyR (fun i=>a.getD i default != b.getD i default) a.length=true:=by
   rw[anyR_iff]
   apply Classical.byContradiction
   intro hn
   apply e
   rw[list_eq_iff h]
   intro i hi
   apply Classical.byContradiction
   intro hne
   exact hn ⟨i,hi,by simpa using hne⟩
  rw[this,if_pos rfl]
  simp[e]
theorem len_ne {α:Type} [BEq α] [LawfulBEq α] {a b:List α} (h:((a.length:Int) != (b.length:Int))=true):(a==b)=false:=by
 rw[beq_eq_false_iff_ne]
 rintro rfl
 simp at h
theorem len_eq {α:Type} {a b:List α} (h:((a.length:Int) != (b.length:Int))=false):a.length=b.length:=by
 simp at h;omega
theorem eqInts_eq (a b:List Int) (ha:a.length≤1000000):m171 a b=some (a==b):=by
 delta m171 d171
 simp only[↓JD.sg_m,↓JD.sq_m,↓JD.sc_m,↓JD.bk_m,↓JD.lp_m,↓JD.cd_m,↓JD.lu_m,↓JD.ct_m,↓JD.ce_m,↓JL.r_m,↓JL.z_m,↓JD.se_m,onE_r,↓Tr.run,↓Tr.run_nd,↓Tr.run_c3,↓Tr.run_c2,↓Tr.run_nx,↓onS,bind_ite,Option.bind_some,Option.bind_none,obR]
 by_cases h:((a.length:Int) != (b.length:Int))=true
 ·simp only[h,if_true,onS_r,len_ne h]
 ·have h:=Bool.eq_false_iff.2 h
  have hl:=len_eq h
  simp only[h,Bool.false_eq_true,if_false,onS_l]
  rw[loop_ex a.length (fun i=>if(a.getD i default != b.getD i default)=true then some false else none) ?_ ?_,orK_getD,firstR_ne hl]
  ·intro i hi
   have hi2:i < b.length:=by omega
   simp only[exB_ite,exB_some,exB_none,inL hi,inL hi2,decide_true,Int.toNat_natCast,if_true,wr1 hi (by omega)]
  ·(simp only[lt_irr,decide_false,Bool.false_eq_true,if_false];try rfl)
def eqC (a b:T41):Bool:=a.Leaf==b.Leaf&&a.Memory==b.Memory
theorem eqC_iff {a b:T41}:eqC a b=true↔a=b:=by
 obtain⟨x,y⟩:=a
 obtain⟨z,w⟩:=b
 simp only[eqC,Bool.and_eq_true,beq_iff_eq]
 constructor
 ·rintro⟨rfl,rfl⟩;rfl
 ·intro h;injection h with h1 h2;exact⟨h1,h2⟩
theorem eqC_refl (a:T41):eqC a a=true:=eqC_iff.2 rfl
theorem same_eq (a b:T41) (ha:a.Memory.length≤1000000):m158 a b=some (eqC a b):=by
 delta m158 d158
 simp only[↓JD.sg_m,↓JD.sq_m,↓JD.sc_m,↓JD.bk_m,↓JD.lp_m,↓JD.cd_m,↓JD.lu_m,↓JD.ct_m,↓JD.ce_m,↓JL.r_m,↓JL.z_m,↓JD.se_m,onE_r,↓Tr.run,↓Tr.run_nd,↓Tr.run_c3,↓Tr.run_c2,↓Tr.run_nx,↓onS,bind_ite,Option.bind_some,Option.bind_none,obR,eqInts_eq _ _ ha,eqC]
 cases (a.Leaf==b.Leaf)<;>rfl
def Short (l:List T41):Prop:=∀ g∈l,g.Memory.length≤1000000
theorem Short.at {l:List T41} (h:Short l) {i:Nat} (hi:i < l.length):(l.getD i default).Memory.length≤1000000:=h _ (getD_mem hi)
def findC (l:List T41) (g:T41):Int:=findR (fun i=>eqC (l.getD i default) g) l.length
theorem find_eq (l:List T41) (g:T41) (hs:Short l) (hl:l.length≤1000000):m118 l g=some (findC l g):=by
 have e1:m156o0 l g=some (findC l g):=by
  have e2:∀ x:T41,x.Memory.length≤1000000→m157o0 x g=some (eqC x g):=fun x hx=>by
   delta m157o0 d157o0
   simp only[↓JD.sg_m,↓JD.sq_m,↓JD.sc_m,↓JD.bk_m,↓JD.lp_m,↓JD.cd_m,↓JD.lu_m,↓JD.ct_m,↓JD.ce_m,↓JL.r_m,↓JL.z_m,↓JD.se_m,onE_r,↓Tr.run,↓Tr.run_nd,↓Tr.run_c3,↓Tr.run_c2,↓Tr.run_nx,↓onS,bind_ite,Option.bind_some,Option.bind_none,obR,same_eq x g hx]
  delta m156o0 d156o0
  simp only[↓JD.sg_m,↓JD.sq_m,↓JD.sc_m,↓JD.bk_m,↓JD.lp_m,↓JD.cd_m,↓JD.lu_m,↓JD.ct_m,↓JD.ce_m,↓JL.r_m,↓JL.z_m,↓JD.se_m,onE_r,↓Tr.run,↓Tr.run_nd,↓Tr.run_c3,↓Tr.run_c2,↓Tr.run_nx,↓onS,bind_ite,Option.bind_some,Option.bind_none,obR]
  refine idx_loop (fun i hi=>?_) ?_
  ·simp only[exB_ite,exB_some,exB_none,inL hi,decide_true,Int.toNat_natCast,if_true,wr1 hi (by omega),e2 _ (hs.at hi),Option.bind_some]
  ·(simp only[lt_irr,decide_false,Bool.false_eq_true,if_false];try rfl)
 delta m118 d118
 simp only[↓JD.sg_m,↓JD.sq_m,↓JD.sc_m,↓JD.bk_m,↓JD.lp_m,↓JD.cd_m,↓JD.lu_m,↓JD.ct_m,↓JD.ce_m,↓JL.r_m,↓JL.z_m,↓JD.se_m,onE_r,↓Tr.run,↓Tr.run_nd,↓Tr.run_c3,↓Tr.run_c2,↓Tr.run_nx,↓onS,bind_ite,Option.bind_some,Option.bind_none,obR,e1]
theorem findC_any {l:List T41} {g:T41}:decide (0≤findC l g)=l.any (fun x=>eqC x g):=by
 unfold findC
 rw[findR_any,Bool.eq_iff_iff,anyR_iff,List.any_eq_true]
 constructor
 ·rintro⟨i,hi,h⟩;exact⟨_,getD_mem hi,h⟩
 ·rintro⟨x,hx,h⟩
  obtain⟨i,hi,rfl⟩:=List.getElem_of_mem hx
  exact⟨i,hi,by simpa [List.getD_eq_getElem?_getD,List.getElem?_eq_getElem hi] using h⟩
def hasC (l:List T41) (g:T41):Bool:=l.any fun x=>eqC x g
theorem hasC_iff {l:List T41} {g:T41}:hasC l g=true↔g∈l:=by
 unfold hasC
 rw[List.any_eq_true]
 constructor
 ·rintro⟨x,hx,h⟩;rw[← eqC_iff.1 h];exact hx
 ·intro h;exact⟨g,h,eqC_refl g⟩
theorem find_in {l:List T41} {g:T41}:decide (0≤findC l g)=hasC l g:=findC_any
def numV (c:T27):Nat:=2 ^ c.Conds.length
theorem numV_pos (c:T27):0 < numV c:=Nat.two_pow_pos _
theorem numV_le {c:T27} (h:c.Conds.length≤12):numV c≤4096:=Nat.pow_le_pow_right (by omega) h
theorem shl64 {n:Nat} (h:n≤12):IntKind.wrap .i64 ((1:Int) * 2 ^ (min ((n:Nat):Int).toNat (IntKind.bits .i64)))=((2 ^ n:Nat):Int):=by
 have e1:min ((n:Nat):Int).toNat (IntKind.bits .i64)=n:=by
  show min ((n:Nat):Int).toNat 64=n
  omega
 rw[e1,Int.one_mul]
 have h2:2 ^ n≤4096:=Nat.pow_le_pow_right (by omega) h
 have e2:((2:Int) ^ n)=((2 ^ n:Nat):Int):=by push_cast;rfl
 rw[e2]
 generalize 2 ^ n=m at h2 ⊢
 exact w64 (by omega) (by omega)
def alG (c:T27) (v:Nat):List Int:=if allowedS c (v:Int)=true then[(v:Int)]else[]
theorem alG_len (c:T27) (v:Nat):(alG c v).length≤1:=by unfold alG;split<;>simp
def valsA (c:T27):List Int:=(List.range (numV c)).flatMap (alG c)
theorem valsA_len {c:T27}:(valsA c).length≤numV c:=by
 have:=flatMap_len (alG_len c) (numV c)
 unfold valsA;omega
theorem valsA_mem {c:T27} {v:Int}:v∈valsA c↔∃ n:Nat,n < numV c∧v=n∧allowedS c v=true:=by
 unfold valsA
 rw[List.mem_flatMap]
 constructor
 ·rintro⟨n,h1,h2⟩
  unfold alG at h2
  split at h2
  ·rename_i h
   simp only[List.mem_singleton]at h2
   subst h2
   exact⟨n,List.mem_range.1 h1,rfl,h⟩
  ·cases h2
 ·rintro⟨n,h1,rfl,h2⟩
  exact⟨n,List.mem_range.2 h1,by unfold alG;rw[if_pos h2];simp⟩
theorem allowedL_eq {c:T27} (H:Fit c) (h:c.Conds.length≤12):m117 c=some (valsA c):=by
 have h2:=numV_le h
 delta m117 d117
 simp only[↓JD.sg_m,↓JD.sq_m,↓JD.sc_m,↓JD.bk_m,↓JD.lp_m,↓JD.cd_m,↓JD.lu_m,↓JD.ct_m,↓JD.ce_m,↓JL.r_m,↓JL.z_m,↓JD.se_m,onE_r,↓Tr.run,↓Tr.run_nd,↓Tr.run_c3,↓Tr.run_c2,↓Tr.run_nx,↓onS,bind_ite,Option.bind_some,Option.bind_none,obR,shl64 h,show (0:Int)≤(c.Conds.length:Int) from by omega,if_true]
 rw[show ((2 ^ c.Conds.length:Nat):Int)=(numV c:Int) from rfl]
 refine on_l (loop_coll (numV c) (fun i l=>(l,(i:Int))) (alG c) Sum.inl (fun i hi=>?_) (by (simp only[lt_irr,decide_false,Bool.false_eq_true,if_false];try rfl))) rfl
 have hl:=flatMap_len (alG_len c) i
 have h3:(((List.range i).flatMap (alG c)).length+1) * 2≤140737488355328:=by omega
 have h4:IntKind.wrap .u16 (i:Int)=(i:Int):=n16 (by omega)
 simp only[inL hi,decide_true,h3,h4,if_true,wr1 hi (by omega),Allowed_eq _ H,Option.bind_some,alG]
 cases allowedS c (i:Int)<;>simp
end Go.Av
set_option maxRecDepth 100000
namespace Go.Av
open Ch Go.Proofs
def stepO (c:T27) (g:T41) (v:Int):Option T41:=(stepM c g v).bind fun r=>if(r.2.2==0)=true then some r.1 else none
abbrev SS:=List T41×List Int×List Int
def addS (i:Nat) (v:Int) (h:T41) (s:SS):Option SS:=if hasC s.1 h=true then some s else if s.1.length=400 then none else some (s.1++[h],s.2.1++[(i:Int)],s.2.2++[v])
def visit (c:T27) (i:Nat) (s:SS) (v:Int):Option SS:=match stepO c (s.1.getD i default) v with
 | none=>some s
 | some h=>addS i v h s
def rnd (c:T27) (i:Nat):List Int→SS→Option SS
 | [],s=>some s
 | v :: l,s=>(visit c i s v).bind (rnd c i l)
def allV (c:T27):List Int:=(List.range (numV c)).map fun v:Nat=>(v:Int)
def srch (c:T27):Nat→Nat→SS→Option SS
 | 0,_,_=>none
 | n+1,i,s=>if i < s.1.length then(rnd c i (allV c) s).bind (srch c n (i+1))else some s
def begS (g:T41):SS:=([g],[-1],[0])
structure Inv (c:T27) (s:SS):Prop where
 le:s.1.length≤400
 l1:s.2.1.length=s.1.length
 l2:s.2.2.length=s.1.length
 pos:0 < s.1.length
 ok:∀ g∈s.1,validS c g=true
theorem valid_short {c:T27} (H:Fit c) {g:T41} (h:validS c g=true):g.Memory.length≤1000000:=by
 have h1:=(validS_iff.1 h).2.2.len
 have h2:=H.states
 omega
theorem Inv.short {c:T27} (H:Fit c) {s:SS} (h:Inv c s):Short s.1:=fun g hg=>valid_short H (h.ok g hg)
theorem stepO_ok {c:T27} (H:Fit c) {g h:T41} {v:Int} (hs:stepO c g v=some h):checkM c=some 0∧validS c g=true∧validS c h=true:=by
 unfold stepO at hs
 rw[Option.bind_eq_some_iff]at hs
 obtain⟨r,h1,h2⟩:=hs
 split at h2
 ·rename_i h3
  injection h2 with h2
  subst h2
  exact(stepM_ok H h1).2 (by simpa using h3)
 ·cases h2
theorem addS_inv {c:T27} {i:Nat} {v:Int} {h:T41} {s s':SS} (I:Inv c s) (hv:validS c h=true) (hs:addS i v h s=some s'):Inv c s'∧s.1.length≤s'.1.length:=by
 unfold addS at hs
 split at hs
 ·injection hs with hs;subst hs;exact⟨I,Nat.le_refl _⟩
 ·split at hs
  ·cases hs
  ·rename_i h400
   injection hs with hs
   subst hs
   have:=I.le
   refine⟨⟨?_,?_,?_,?_,?_⟩,?_⟩
   ·simp only[List.length_append,List.length_cons,List.length_nil];omega
   ·simp only[List.length_append,List.length_cons,List.length_nil,I.l1]
   ·simp only[List.length_append,List.length_cons,List.length_nil,I.l2]
   ·simp
   ·intro g hg
    rcases List.mem_append.1 hg with h1 | h1
    ·exact I.ok g h1
    ·simp only[List.mem_singleton]at h1;subst h1;exact hv
   ·simp
theorem visit_inv {c:T27} (H:Fit c) {i:Nat} {v:Int} {s s':SS} (I:Inv c s) (hs:visit c i s v=some s'):Inv c s'∧s.1.length≤s'.1.length:=by
 unfold visit at hs
 split at hs
 ·injection hs with hs;subst hs;exact⟨I,Nat.le_refl _⟩
 ·rename_i h he
  exact addS_inv I (stepO_ok H he).2.2 hs
theorem rnd_inv {c:T27} (H:Fit c) {i:Nat}:∀ {l:List Int} {s s':SS},Inv c s→rnd c i l s=some s'→Inv c s'∧s.1.length≤s'.1.length
 | [],s,s',I,hs=>by
  injection hs with hs;subst hs;exact⟨I,Nat.le_refl _⟩
 | v :: l,s,s',I,hs=>by
  unfold rnd at hs
  rw[Option.bind_eq_some_iff]at hs
  obtain⟨t,h1,h2⟩:=hs
  obtain⟨I1,k1⟩:=visit_inv H I h1
  obtain⟨I2,k2⟩:=rnd_inv H I1 h2
  exact⟨I2,by omega⟩
theorem rnd_filter {c:T27} {i:Nat} (p:Int→Bool):∀ {l:List Int} {s:SS},(∀ v∈l,p v=false→∀ s,visit c i s v=some s)→rnd c i (l.flatMap fun v=>if p v=true then[v]else[]) s=rnd c i l s
 | [],s,h=>rfl
 | v :: l,s,h=>by
  simp only[List.flatMap_cons]
  have ih:∀ s,rnd c i (l.flatMap fun v=>if p v=true then[v]else[]) s=rnd c i l s:=fun s=>rnd_filter p (fun w hw=>h w (by simp[hw]))
  cases hp:p v with
  | true =>
   simp only[if_true,List.cons_append,List.nil_append,rnd]
   congr 1;funext t;exact ih t
  | false =>
   simp only[Bool.false_eq_true,if_false,List.nil_append,rnd,h v (by simp) hp,Option.bind_some]
   exact ih s
theorem stepO_not {c:T27} {g:T41} {v:Int} (h:allowedS c v=false):stepO c g v=none:=by
 unfold stepO stepM
 cases hc:checkM c with
 | none=>rfl
 | some e =>
  simp only[Option.bind_some,h,Bool.not_false,if_true]
  split
  ·rename_i h0
   simp only[Option.bind_some]
   have:(e==0)=false:=by simpa using h0
   simp only[this,Bool.false_eq_true,if_false]
  ·split<;>rfl
theorem rnd_vals {c:T27} {i:Nat} {s:SS}:rnd c i (valsA c) s=rnd c i (allV c) s:=by
 have e:valsA c=(allV c).flatMap fun v=>if allowedS c v=true then[v]else[]:=by
  unfold valsA allV
  rw[List.flatMap_map]
  rfl
 rw[e]
 exact rnd_filter (allowedS c) fun v _ h s=>by unfold visit;rw[stepO_not h]
end Go.Av
