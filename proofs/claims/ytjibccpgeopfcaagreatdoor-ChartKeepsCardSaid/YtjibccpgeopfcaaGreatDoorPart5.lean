/- A part of the proof. -/
import Derived.Test.YtjibccpgeopfcaaGreatDoorPart4
set_option linter.unusedVariables false
set_option linter.unusedSimpArgs false
set_option maxRecDepth 100000
namespace Go.Av
open Go.RowKit Go.Base Go.Proofs Go.ChangeShapes Go.WideShapes
noncomputable def d42 (a0:T27) (a1:T41):JF Tryz.prog Tryz.f42 [(e27 a0),(e41 a1)] (fun(r:Bool)=>(.bool r)) :=
 (.sq 2 [(1,⟨Bool×Bool,fun x=>[(10,(.bool x.1)),(16,(.bool x.2))],fun x=>[],[]⟩)] [(1,[4],[]),(0,[2,3],[16,32])] (fun(_:Unit)=>⟨[(2,(.ptr 16 0)),(3,(.ptr 32 0))],[(16,(.cells (g27 a0))),(32,(.cells (g41 a1)))],[],384⟩) (.exi (Bool×Bool) ((m53 a0 a1.Leaf).bind fun r1_0=>((if(!(!r1_0))=true then m79 a0 a1.Leaf else some default).bind fun r1_1=>some (r1_0,r1_1))) (fun x1=>(.p (PureAt Tryz.prog 53 [(e27 a0),(dI a1.Leaf)] (.bool x1.1)) (.g (!(!x1.1)) (PureAt Tryz.prog 79 [(e27 a0),(dI a1.Leaf)] (.bool x1.2)) (.fin 0)))) (by intro x1 h;obtain⟨r1_0,h1,h⟩:=Option.bind_eq_some_iff.1 h;obtain⟨r1_1,h2,h⟩:=Option.bind_eq_some_iff.1 h;cases h;exact⟨p53 h1,fun g=>p79 (by rw[if_pos g]at h2;exact h2),trivial⟩) (fun x1 _=>(.ite (((!x1.1) || x1.2) || ((a1.Memory.length:Int) != (a0.States.length:Int))) (.ret .ret ⟨[(4,(aB false))],[],[],400⟩ (.inr (false)) ⟨rfl,rfl,_,Weak.refl _,dr⟩) (.nx ())))) (fun _=>(.sc (fun(_:Unit)=>⟨[],[],[],1024⟩) (.sq 1 [] [(0,[2,28,29,30],[16])] (fun(_:Unit)=>⟨[(2,(.ptr 16 0)),(28,(.d (eSl 1 dI a1.Memory))),(29,(aI (a1.Memory.length:Int))),(30,(aI 0))],[(16,(.cells (g27 a0)))],[],448⟩) (.nx ()) (fun _=>(.bk (.lp (fun(s1:Int)=>⟨[(2,(.ptr 16 0)),(28,(.d (eSl 1 dI a1.Memory))),(29,(aI (a1.Memory.length:Int))),(30,(aI s1))],[(16,(.cells (g27 a0)))],[],1008⟩) (0:Int) (wk [(16,16)] []) fun s1=>(.sg [(6,tm1 40 D.bool)] [(1,[4],[]),(0,[2,28,29,30],[16]),(2,[],[])] (.ite (decide (s1 < (a1.Memory.length:Int))) (nd (0≤s1) (nd (s1 < (a1.Memory.length:Int)) (.exi (Bool) ((if((a1.Memory.getD s1.toNat default) != (-1:Int))=true then m53 a0 (a1.Memory.getD s1.toNat default)else some default).bind fun r6_0=>(if(((a1.Memory.getD s1.toNat default) != (-1:Int))&&(!(!r6_0)))=true→0≤s1 then(if(((a1.Memory.getD s1.toNat default) != (-1:Int))&&(!(!r6_0)))=true→s1 < (a0.States.length:Int)then(if(((a1.Memory.getD s1.toNat default) != (-1:Int))&&(!((!r6_0) || (!(a0.States.getD s1.toNat default).History))))=true→0≤(a1.Memory.getD s1.toNat default)then(if(((a1.Memory.getD s1.toNat default) != (-1:Int))&&(!((!r6_0) || (!(a0.States.getD s1.toNat default).History))))=true→(a1.Memory.getD s1.toNat default) < (a0.States.length:Int)then some r6_0 else none)else none)else none)else none)) (fun x6=>(.g ((a1.Memory.getD s1.toNat default) != (-1:Int)) (PureAt Tryz.prog 53 [(e27 a0),(dI (a1.Memory.getD s1.toNat default))] (.bool x6)) (.g (((a1.Memory.getD s1.toNat default) != (-1:Int))&&(!(!x6))) (0≤s1) (.g (((a1.Memory.getD s1.toNat default) != (-1:Int))&&(!(!x6))) (s1 < (a0.States.length:Int)) (.g (((a1.Memory.getD s1.toNat default) != (-1:Int))&&(!((!x6) || (!(a0.States.getD s1.toNat default).History)))) (0≤(a1.Memory.getD s1.toNat default)) (.g (((a1.Memory.getD s1.toNat default) != (-1:Int))&&(!((!x6) || (!(a0.States.getD s1.toNat default).History)))) ((a1.Memory.getD s1.toNat default) < (a0.States.length:Int)) (.fin 0))))))) (by intro x6 h;obtain⟨r6_0,h1,h⟩:=Option.bind_eq_some_iff.1 h;obtain⟨h2,h⟩:=if_some h;obtain⟨h3,h⟩:=if_some h;obtain⟨h4,h⟩:=if_some h;obtain⟨h5,h⟩:=if_some h;cases h;exact⟨fun g=>p53 (by rw[if_pos g]at h1;exact h1),h2,h3,h4,h5,trivial⟩) (fun x6 _=>(.ite (((a1.Memory.getD s1.toNat default) != (-1:Int))&&(((!x6) || (!(a0.States.getD s1.toNat default).History)) || ((a0.States.getD (a1.Memory.getD s1.toNat default).toNat default).Parent != s1))) (.ret .ret ⟨[(4,(aB false))],[],[],1552⟩ (.inr (.inr (false))) ⟨rfl,rfl,rfl,_,Weak.refl _,dr⟩) (.ret .normal ⟨[(2,(.ptr 16 0)),(28,(.d (eSl 1 dI a1.Memory))),(29,(aI (a1.Memory.length:Int))),(30,(aI (IntKind.wrap .i64 (s1+1))))],[(16,(.cells (g27 a0)))],[],1568⟩ (.inl (IntKind.wrap .i64 (s1+1))) ⟨rfl,(wk [(16,16)] [])⟩)))))) (.ret (.exit 0) _ (.inr (.inl ())) ⟨rfl,rfl,Weak.refl _⟩))))))) fun _=>(.sg [] [(1,[4],[])] (.ret .ret ⟨[(4,(aB true))],[],[],1040⟩ true ⟨rfl,_,Weak.refl _,dr⟩)))))
noncomputable def m42 (a0:T27) (a1:T41):Option (Bool):=(d42 a0 a1).m
theorem p42 {a0:T27} {a1:T41} {r:Bool} (h:m42 a0 a1=some r):PureAt Tryz.prog 42 [(e27 a0),(e41 a1)] (.bool r):=pure_jd (d42 a0 a1) Tryz.func42 h
noncomputable def d46 (a0:List T118) (a1:Int):JF Tryz.prog Tryz.f46 [(eSl 2 e118 a0),(.int .u16 a1)] (fun(r:Bool)=>(.bool r)) :=
 (.sq 1 [] [(0,[0,1],[])] (fun(_:Unit)=>⟨[(0,(.d (eSl 2 e118 a0))),(1,(.d (.int .u16 a1)))],[],[],32⟩) (.nx ()) (fun _=>(.sc (fun(_:Unit)=>⟨[],[],[],512⟩) (.sq 1 [] [(0,[1,7,8,9],[])] (fun(_:Unit)=>⟨[(1,(.d (.int .u16 a1))),(7,(.d (eSl 2 e118 a0))),(8,(aI (a0.length:Int))),(9,(aI 0))],[],[],80⟩) (.nx ()) (fun _=>(.bk (.lp (fun(s1:Int)=>⟨[(1,(.d (.int .u16 a1))),(7,(.d (eSl 2 e118 a0))),(8,(aI (a0.length:Int))),(9,(aI s1))],[],[],496⟩) (0:Int) (wk [] []) fun s1=>(.sg [] [(1,[4],[]),(0,[1,7,8,9],[]),(2,[],[])] (.ite (decide (s1 < (a0.length:Int))) (nd (0≤s1) (nd (s1 < (a0.length:Int)) (.needG (!((decide ((a0.getD s1.toNat default).Cond < 0)) || (decide (15 < (a0.getD s1.toNat default).Cond)))) (0≤(a0.getD s1.toNat default).Cond) inferInstance (.ite (((decide ((a0.getD s1.toNat default).Cond < 0)) || (decide (15 < (a0.getD s1.toNat default).Cond))) || (((IntKind.wrap .u16 ((((BitVec.ofInt (IntKind.bits .u16) (Int.fdiv a1 (2 ^ (min (a0.getD s1.toNat default).Cond.toNat (IntKind.bits .u16))))) &&& (BitVec.ofInt (IntKind.bits .u16) (1:Int))).toNat:Int)))==1)==(a0.getD s1.toNat default).Neg)) (.ret .ret ⟨[(4,(aB false))],[],[],896⟩ (.inr (.inr (false))) ⟨rfl,rfl,rfl,_,Weak.refl _,dr⟩) (.ret .normal ⟨[(1,(.d (.int .u16 a1))),(7,(.d (eSl 2 e118 a0))),(8,(aI (a0.length:Int))),(9,(aI (IntKind.wrap .i64 (s1+1))))],[],[],912⟩ (.inl (IntKind.wrap .i64 (s1+1))) ⟨rfl,(wk [] [])⟩))))) (.ret (.exit 0) _ (.inr (.inl ())) ⟨rfl,rfl,Weak.refl _⟩))))))) fun _=>(.sg [] [(1,[4],[])] (.ret .ret ⟨[(4,(aB true))],[],[],528⟩ true ⟨rfl,_,Weak.refl _,dr⟩)))))
noncomputable def m46 (a0:List T118) (a1:Int):Option (Bool):=(d46 a0 a1).m
theorem p46 {a0:List T118} {a1:Int} {r:Bool} (h:m46 a0 a1=some r):PureAt Tryz.prog 46 [(eSl 2 e118 a0),(.int .u16 a1)] (.bool r):=pure_jd (d46 a0 a1) Tryz.func46 h
noncomputable def q48o0 (a0:List T118) (a1:Int) (y:Bool):OF:=⟨(aB y),[(0,(.cells [(.d (.int .u16 a1))]))],[]⟩
noncomputable def d48o0 (a0:List T118) (a1:Int):JO Tryz.prog Tryz.f48 [(.d (eSl 2 e118 a0)),(.ptr 0 0)] [(0,(.cells [(.d (.int .u16 a1))]))] [] (q48o0 a0 a1) :=
 (.sg [(1,tm1 6 D.bool)] [(1,[1,3],[0])] (c3 (@p46 a0 a1) fun x1=>(.ret .ret ⟨[(1,(.ptr 0 0)),(3,(aB x1))],[(0,(.cells [(.d (.int .u16 a1))]))],[],96⟩ x1 ⟨rfl,(rk [(0,0)] [] 96)⟩)))
noncomputable def m48o0 (a0:List T118) (a1:Int):Option (Bool):=(d48o0 a0 a1).m
theorem po48o0 {a0:List T118} {a1:Int} {r:Bool} (h:m48o0 a0 a1=some r):ObjF Tryz.prog 48 [(.d (eSl 2 e118 a0)),(.ptr 0 0)] [(0,(.cells [(.d (.int .u16 a1))]))] [] (q48o0 a0 a1 r):=obj_jd (d48o0 a0 a1) Tryz.func48 h
noncomputable abbrev z82o0_0 (a1:Int):List (Nat×Ob):=[(0,(.cells [(.d (.int .u16 a1))]))]
noncomputable def q82o0 (a0:List (List T118)) (a1:Int) (y:Int):OF:=⟨(aI y),(z82o0_0 a1),[]⟩
noncomputable def d82o0 (a0:List (List T118)) (a1:Int):JO Tryz.prog Tryz.f82 [(.d (eSl 1 (eSl 2 e118) a0)),(.fn 48 [(.ptr 0 0)])] (z82o0_0 a1) [] (q82o0 a0 a1) :=
 (.sq 1 [] [(0,[0,1],[0])] (fun(_:Unit)=>⟨[(0,(.d (eSl 1 (eSl 2 e118) a0))),(1,(.fn 48 [(.ptr 0 0)]))],(z82o0_0 a1),[],32⟩) (.nx ()) (fun _=>(.sc (fun(_:Unit)=>⟨[(1,(.fn 48 [(.ptr 0 0)]))],(z82o0_0 a1),[],272⟩) (.sq 1 [] [(0,[0,1,7,8],[0])] (fun(_:Unit)=>⟨[(0,(.d (eSl 1 (eSl 2 e118) a0))),(1,(.fn 48 [(.ptr 0 0)])),(7,(aI (a0.length:Int))),(8,(aI 0))],(z82o0_0 a1),[],80⟩) (.nx ()) (fun _=>(.bk (.lp (fun(s1:Int)=>⟨[(0,(.d (eSl 1 (eSl 2 e118) a0))),(1,(.fn 48 [(.ptr 0 0)])),(7,(aI (a0.length:Int))),(8,(aI s1))],(z82o0_0 a1),[],256⟩) (0:Int) (wk [(0,0)] []) fun s1=>(.sg [(4,⟨Bool,fun x=>[],fun x=>[(384,⟨(aB x),[0],[],(z82o0_0 a1),[]⟩)],[]⟩)] [(1,[1,4],[0]),(0,[0,1,7,8],[0]),(2,[1],[0])] (.ite (decide (s1 < (a0.length:Int))) (.exi (Bool) (if 0≤s1 then(if s1 < (a0.length:Int)then((m48o0 (a0.getD s1.toNat default) a1).bind fun r4_0=>some r4_0)else none)else none) (fun x4=>(.p (0≤s1) (.p (s1 < (a0.length:Int)) (.p (ObjL Tryz.prog 48 [(.d (eSl 2 e118 (a0.getD s1.toNat default))),(.ptr 0 0)] [(0,some (.cells [(.d (.int .u16 a1))]))] 384 ⟨(aB x4),[0],[],(z82o0_0 a1),[]⟩) (.fin 0))))) (by intro x4 h;obtain⟨h1,h⟩:=if_some h;obtain⟨h2,h⟩:=if_some h;obtain⟨r4_0,h3,h⟩:=Option.bind_eq_some_iff.1 h;cases h;exact⟨h1,h2,ok [(0,0)] [] [(0,0)] [] (po48o0 h3),trivial⟩) (fun x4 _=>(.ite x4 (.ret .ret ⟨[(1,(.fn 48 [(.ptr 0 0)])),(4,(aI s1))],(z82o0_0 a1),[],432⟩ (.inr (.inr (s1))) ⟨rfl,rfl,rfl,(rk [(0,0)] [] 432)⟩) (.ret .normal ⟨[(0,(.d (eSl 1 (eSl 2 e118) a0))),(1,(.fn 48 [(.ptr 0 0)])),(7,(aI (a0.length:Int))),(8,(aI (IntKind.wrap .i64 (s1+1))))],(z82o0_0 a1),[],432⟩ (.inl (IntKind.wrap .i64 (s1+1))) ⟨rfl,(wk [(0,0)] [])⟩)))) (.ret (.exit 0) _ (.inr (.inl ())) ⟨rfl,rfl,Weak.refl _⟩))))))) fun _=>(.sg [] [(1,[1,4],[0])] (.ret .ret ⟨[(1,(.fn 48 [(.ptr 0 0)])),(4,(aI (-1)))],(z82o0_0 a1),[],288⟩ (-1:Int) ⟨rfl,(rk [(0,0)] [] 432)⟩)))))
noncomputable def m82o0 (a0:List (List T118)) (a1:Int):Option (Int):=(d82o0 a0 a1).m
theorem po82o0 {a0:List (List T118)} {a1:Int} {r:Int} (h:m82o0 a0 a1=some r):ObjF Tryz.prog 82 [(.d (eSl 1 (eSl 2 e118) a0)),(.fn 48 [(.ptr 0 0)])] (z82o0_0 a1) [] (q82o0 a0 a1 r):=obj_jd (d82o0 a0 a1) Tryz.func82 h
noncomputable def q47o0 (a0:List (List T118)) (a1:Int) (y:Bool):OF:=⟨(aB y),[(0,(.cells [(.d (.int .u16 a1))]))],[]⟩
noncomputable def d47o0 (a0:List (List T118)) (a1:Int):JO Tryz.prog Tryz.f47 [(.d (eSl 1 (eSl 2 e118) a0)),(.fn 48 [(.ptr 0 0)])] [(0,(.cells [(.d (.int .u16 a1))]))] [] (q47o0 a0 a1) :=
 (.sg [(1,⟨Int,fun x=>[],fun x=>[(64,⟨(aI x),[0],[],[(0,(.cells [(.d (.int .u16 a1))]))],[]⟩)],[]⟩)] [(1,[1,4],[0])] (c3 (p:=fun x1=>ObjL Tryz.prog 82 [(.d (eSl 1 (eSl 2 e118) a0)),(.fn 48 [(.ptr 0 0)])] [(0,some (.cells [(.d (.int .u16 a1))]))] 64 ⟨(aI x1),[0],[],[(0,(.cells [(.d (.int .u16 a1))]))],[]⟩) (fun x1 (h1:m82o0 a0 a1=some _)=>ok [(0,0)] [] [(0,0)] [] (po82o0 h1)) fun x1=>(.ret .ret ⟨[(1,(.fn 48 [(.ptr 0 0)])),(4,(aB (decide (0≤x1))))],[(0,(.cells [(.d (.int .u16 a1))]))],[],112⟩ (decide (0≤x1)) ⟨rfl,(rk [(0,0)] [] 112)⟩)))
noncomputable def m47o0 (a0:List (List T118)) (a1:Int):Option (Bool):=(d47o0 a0 a1).m
theorem po47o0 {a0:List (List T118)} {a1:Int} {r:Bool} (h:m47o0 a0 a1=some r):ObjF Tryz.prog 47 [(.d (eSl 1 (eSl 2 e118) a0)),(.fn 48 [(.ptr 0 0)])] [(0,(.cells [(.d (.int .u16 a1))]))] [] (q47o0 a0 a1 r):=obj_jd (d47o0 a0 a1) Tryz.func47 h
noncomputable def d19 (a0:T27) (a1:Int):JF Tryz.prog Tryz.f19 [(e27 a0),(.int .u16 a1)] (fun(r:Bool)=>(.bool r)) :=
 (.sg [(4,⟨Bool,fun x=>[],fun x=>[(304,⟨(aB x),[32],[],[(32,(.cells [(.d (.int .u16 a1))]))],[]⟩)],[]⟩)] [(1,[4],[])] (.needG (decide ((a0.Conds.length:Int) < (16:Int))) (0≤(a0.Conds.length:Int)) inferInstance (.ite ((decide ((a0.Conds.length:Int) < (16:Int)))&&((Int.fdiv a1 (2 ^ (min (a0.Conds.length:Int).toNat (IntKind.bits .u16)))) != 0)) (.ret .ret ⟨[(4,(aB false))],[],[],272⟩ false ⟨rfl,_,Weak.refl _,dr⟩) (c3 (p:=fun x4=>ObjL Tryz.prog 47 [(.d (eSl 1 (eSl 2 e118) a0.Never)),(.fn 48 [(.ptr 32 0)])] [(32,some (.cells [(.d (.int .u16 a1))]))] 304 ⟨(aB x4),[32],[],[(32,(.cells [(.d (.int .u16 a1))]))],[]⟩) (fun x4 (h1:m47o0 a0.Never a1=some _)=>ok [(0,32)] [] [(32,0)] [] (po47o0 h1)) fun x4=>(.ret .ret ⟨[(4,(aB (!x4)))],[],[],352⟩ (!x4) ⟨rfl,_,Weak.refl _,dr⟩)))))
noncomputable def m19 (a0:T27) (a1:Int):Option (Bool):=(d19 a0 a1).m
theorem p19 {a0:T27} {a1:Int} {r:Bool} (h:m19 a0 a1=some r):PureAt Tryz.prog 19 [(e27 a0),(.int .u16 a1)] (.bool r):=pure_jd (d19 a0 a1) Tryz.func19 h
noncomputable def d45 (a0:List Int) (a1:Int):JF Tryz.prog Tryz.f45 [(eSl 1 dI a0),(dI a1)] (fun(r:Bool)=>(.bool r)) :=
 (.sg [(1,tm1 7 dI)] [(1,[4],[])] (c3 (@p75 a0 a1) fun x1=>(.ret .ret ⟨[(4,(aB (decide (0≤x1))))],[],[],112⟩ (decide (0≤x1)) ⟨rfl,_,Weak.refl _,dr⟩)))
noncomputable def m45 (a0:List Int) (a1:Int):Option (Bool):=(d45 a0 a1).m
theorem p45 {a0:List Int} {a1:Int} {r:Bool} (h:m45 a0 a1=some r):PureAt Tryz.prog 45 [(eSl 1 dI a0),(dI a1)] (.bool r):=pure_jd (d45 a0 a1) Tryz.func45 h
noncomputable def d18 (a0:T27) (a1 a2:Int):JF Tryz.prog Tryz.f18 [(e27 a0),(dI a1),(.int .u16 a2)] (fun(r:(List Int))=>(eSl 1 dI r)) :=
 (.sq 3 [(1,tm1 13 (eSl 1 dI))] [(0,[2,3,7,8],[16])] (fun(y1:(List Int))=>⟨[(2,(.d (.int .u16 a2))),(3,(.ptr 16 0)),(7,(.d (eSl 1 dI y1))),(8,aN)],[(16,(.cells (g27 a0)))],[],128⟩) (c3 (@p44 a0 a1) fun x1=>(.nx x1)) (fun y1=>(.sc (fun(y3:(List Int))=>⟨[(8,(.ap 1 y3.length (cF dI y3) (.tok 512 3)))],[],[512],592⟩) (.sq 1 [] [(0,[2,7,8,15,16,17],[])] (fun(_:Unit)=>⟨[(2,(.d (.int .u16 a2))),(7,(.d (eSl 1 dI y1))),(8,aN),(15,(.d (eSl 4 e58 a0.Transitions))),(16,(aI (a0.Transitions.length:Int))),(17,(aI 0))],[],[],192⟩) (.nx ()) (fun _=>(.bk (.lp (fun(s2:(List Int)×Int)=>⟨[(2,(.d (.int .u16 a2))),(7,(.d (eSl 1 dI y1))),(8,(.ap 1 s2.1.length (cF dI s2.1) (.tok 512 3))),(15,(.d (eSl 4 e58 a0.Transitions))),(16,(aI (a0.Transitions.length:Int))),(17,(aI s2.2))],[],[512],576⟩) ([],(0:Int)) (wk [] []) fun s2=>(.sg [(6,⟨Bool×Bool,fun x=>[(25,(.bool x.1)),(30,(.bool x.2))],fun x=>[],[]⟩)] [(0,[2,7,8,15,16,17],[]),(2,[8],[])] (.ite (decide (s2.2 < (a0.Transitions.length:Int))) (nd (0≤s2.2) (nd (s2.2 < (a0.Transitions.length:Int)) (.exi (Bool×Bool) ((m45 y1 (a0.Transitions.getD s2.2.toNat default).From).bind fun r6_0=>((if r6_0=true then m46 (a0.Transitions.getD s2.2.toNat default).When a2 else some default).bind fun r6_1=>some (r6_0,r6_1))) (fun x6=>(.p (PureAt Tryz.prog 45 [(eSl 1 dI y1),(dI (a0.Transitions.getD s2.2.toNat default).From)] (.bool x6.1)) (.g x6.1 (PureAt Tryz.prog 46 [(eSl 2 e118 (a0.Transitions.getD s2.2.toNat default).When),(.int .u16 a2)] (.bool x6.2)) (.fin 0)))) (by intro x6 h;obtain⟨r6_0,h1,h⟩:=Option.bind_eq_some_iff.1 h;obtain⟨r6_1,h2,h⟩:=Option.bind_eq_some_iff.1 h;cases h;exact⟨p45 h1,fun g=>p46 (by rw[if_pos g]at h2;exact h2),trivial⟩) (fun x6 _=>(.ite (x6.1&&x6.2) (nd ((s2.1.length+1) * 8≤140737488355328) (.ret .normal ⟨[(2,(.d (.int .u16 a2))),(7,(.d (eSl 1 dI y1))),(8,(.ap 1 (s2.1.length+1) (appF s2.1.length (cF dI s2.1) (litF [(dI s2.2)])) (.tok 896 3))),(15,(.d (eSl 4 e58 a0.Transitions))),(16,(aI (a0.Transitions.length:Int))),(17,(aI (IntKind.wrap .i64 (s2.2+1))))],[],[896,880],960⟩ (.inl ((s2.1++([s2.2]:List Int)),(IntKind.wrap .i64 (s2.2+1)))) ⟨rfl,(wh [] [(512,896)] ⟨dr,dr,⟨rfl,rfl,rfl,(de_app dr (de_lit rfl rfl))⟩,dr,dr,dr⟩)⟩)) (.ret .normal ⟨[(2,(.d (.int .u16 a2))),(7,(.d (eSl 1 dI y1))),(8,(.ap 1 s2.1.length (cF dI s2.1) (.tok 512 3))),(15,(.d (eSl 4 e58 a0.Transitions))),(16,(aI (a0.Transitions.length:Int))),(17,(aI (IntKind.wrap .i64 (s2.2+1))))],[],[512],880⟩ (.inl (s2.1,(IntKind.wrap .i64 (s2.2+1)))) ⟨rfl,(wk [] [(512,512)])⟩)))))) (.ret (.exit 0) _ (.inr (.inl s2.1)) ⟨rfl,rfl,Weak.refl _⟩))))))) fun y3=>(.sg [] [(1,[6],[])] (.ret .ret ⟨[(6,(.ap 1 y3.length (cF dI y3) (.tok 512 3)))],[],[512],624⟩ y3 ⟨rfl,_,Weak.refl _,dr⟩)))))
noncomputable def m18 (a0:T27) (a1 a2:Int):Option ((List Int)):=(d18 a0 a1 a2).m
theorem p18 {a0:T27} {a1:Int} {a2:Int} {r:(List Int)} (h:m18 a0 a1 a2=some r):PureAt Tryz.prog 18 [(e27 a0),(dI a1),(.int .u16 a2)] (eSl 1 dI r):=pure_jd (d18 a0 a1 a2) Tryz.func18 h
noncomputable def d80 (a0:T27) (a1 a2:Int):JF Tryz.prog Tryz.f80 [(e27 a0),(dI a1),(dI a2)] (fun(r:Int)=>(dI r)) :=
 (.sq 2 [(1,tm1 12 (eSl 1 dI))] [(0,[1,3,7],[16])] (fun(y1:(List Int))=>⟨[(1,(aI a1)),(3,(.ptr 16 0)),(7,(.d (eSl 1 dI y1)))],[(16,(.cells (g27 a0)))],[],128⟩) (.exi ((List Int)) ((m44 a0 a2).bind fun r1_0=>(if(0:Int)≤(1:Int)then(if 1≤(r1_0.length:Int)then some r1_0 else none)else none)) (fun x1=>(.p (PureAt Tryz.prog 44 [(e27 a0),(dI a2)] (eSl 1 dI x1)) (.p ((0:Int)≤(1:Int)) (.p (1≤(x1.length:Int)) (.fin 0))))) (by intro x1 h;obtain⟨r1_0,h1,h⟩:=Option.bind_eq_some_iff.1 h;obtain⟨h2,h⟩:=if_some h;obtain⟨h3,h⟩:=if_some h;cases h;exact⟨p44 h1,h2,h3,trivial⟩) (fun x1 _=>(.ret .normal ⟨[(1,(aI a1)),(3,(.ptr 16 0)),(7,(.d (.sl 1 (x1.length - (1:Int).toNat) (fun i=>cF dI x1 ((1:Int).toNat+i)))))],[(16,(.cells (g27 a0)))],[],128⟩ (.inl (subL x1 (1:Int).toNat (x1.length - (1:Int).toNat))) ⟨rfl,(wh [(16,16)] [] ⟨dr,⟨rfl,rfl⟩,de_sub⟩)⟩))) (fun y1=>(.sc (fun(_:Unit)=>⟨[],[],[],384⟩) (.sq 1 [(2,tm1 16 (eSl 1 dI))] [(0,[7,17,18,19],[])] (fun(y2:(List Int)×Int)=>⟨[(7,(.d (eSl 1 dI y1))),(17,(.d (eSl 1 dI y2.1))),(18,(aI y2.2)),(19,(aI 0))],[],[],224⟩) (.exi ((List Int)) ((m44 a0 a1).bind fun r2_0=>(if(0:Int)≤(1:Int)then(if 1≤(r2_0.length:Int)then some r2_0 else none)else none)) (fun x2=>(.p (PureAt Tryz.prog 44 [(e27 a0),(dI a1)] (eSl 1 dI x2)) (.p ((0:Int)≤(1:Int)) (.p (1≤(x2.length:Int)) (.fin 0))))) (by intro x2 h;obtain⟨r2_0,h1,h⟩:=Option.bind_eq_some_iff.1 h;obtain⟨h2,h⟩:=if_some h;obtain⟨h3,h⟩:=if_some h;cases h;exact⟨p44 h1,h2,h3,trivial⟩) (fun x2 _=>(.ret .normal ⟨[(7,(.d (eSl 1 dI y1))),(17,(.d (.sl 1 (x2.length - (1:Int).toNat) (fun i=>cF dI x2 ((1:Int).toNat+i))))),(18,(aI (((x2.length - (1:Int).toNat):Nat):Int))),(19,(aI 0))],[],[],224⟩ (.inl ((subL x2 (1:Int).toNat (x2.length - (1:Int).toNat)),(((x2.length - (1:Int).toNat):Nat):Int))) ⟨rfl,(wh [] [] ⟨dr,de_sub,dr,dr⟩)⟩))) (fun y2=>(.bk (.lp (fun(s3:Int)=>⟨[(7,(.d (eSl 1 dI y1))),(17,(.d (eSl 1 dI y2.1))),(18,(aI y2.2)),(19,(aI s3))],[],[],368⟩) (0:Int) (wk [] []) fun s3=>(.sg [(5,tm1 25 D.bool)] [(1,[6],[]),(0,[7,17,18,19],[]),(2,[],[])] (.ite (decide (s3 < y2.2)) (nd (0≤s3) (nd (s3 < (y2.1.length:Int)) (c3 (@p45 y1 (y2.1.getD s3.toNat default)) fun x5=>(.ite x5 (.ret .ret ⟨[(6,(aI (y2.1.getD s3.toNat default)))],[],[],512⟩ (.inr (.inr ((y2.1.getD s3.toNat default)))) ⟨rfl,rfl,rfl,_,Weak.refl _,dr⟩) (.ret .normal ⟨[(7,(.d (eSl 1 dI y1))),(17,(.d (eSl 1 dI y2.1))),(18,(aI y2.2)),(19,(aI (IntKind.wrap .i64 (s3+1))))],[],[],512⟩ (.inl (IntKind.wrap .i64 (s3+1))) ⟨rfl,(wk [] [])⟩))))) (.ret (.exit 0) _ (.inr (.inl ())) ⟨rfl,rfl,Weak.refl _⟩))))))) fun _=>(.sg [] [(1,[6],[])] (.ret .ret ⟨[(6,(aI (-1)))],[],[],400⟩ (-1:Int) ⟨rfl,_,Weak.refl _,dr⟩)))))
noncomputable def m80 (a0:T27) (a1 a2:Int):Option (Int):=(d80 a0 a1 a2).m
theorem p80 {a0:T27} {a1:Int} {a2:Int} {r:Int} (h:m80 a0 a1 a2=some r):PureAt Tryz.prog 80 [(e27 a0),(dI a1),(dI a2)] (dI r):=pure_jd (d80 a0 a1 a2) Tryz.func80 h
noncomputable abbrev z81o0_0 (a1:T27) (a2:Int) (a3:List Int) (a4:List (List UInt8)):Ob:=(.cells [(aS a1.Name),(.d (eSl 1 D.str a1.Conds)),(.d (eSl 1 (eSl 2 e118) a1.Never)),(.d (eSl 6 e56 a1.States)),(aI a1.Start),(.d (eSl 4 e58 a1.Transitions)),(aI a2),(.arr 1 1 a3.length),(.vec 2 1 a4.length)])
noncomputable abbrev z81o0_1 (a1:T27) (a2:Int) (a3:List Int) (s2:Int×Int×(List Int)×(List (List UInt8))):List (Nat×Ob):=[(0,(.cells (g27 a1++([(aI a2),(.arr 1 1 a3.length),(.vec 16 1 s2.2.2.2.length)]:List AV)))),(1,(.arr 1 a3.length (cF dI s2.2.2.1))),(16,(.vec 9 1 s2.2.2.2.length (cF D.str s2.2.2.2)))]
noncomputable def q81o0 (a0:Int) (a1:T27) (a2:Int) (a3:List Int) (a4:List (List UInt8)) (y:(List Int)×(List (List UInt8))):OF:=⟨(.tup []),[(2,.gone),(1,(.arr 1 a3.length (cF dI y.1))),(16,(.vec 9 1 y.2.length (cF D.str y.2))),(0,(.cells (g27 a1++([(aI a2),(.arr 1 1 a3.length),(.vec 16 1 y.2.length)]:List AV))))],[]⟩
noncomputable def d81o0 (a0:Int) (a1:T27) (a2:Int) (a3:List Int) (a4:List (List UInt8)):JO Tryz.prog Tryz.f81 [(.ptr 0 0),(aI a0)] [(1,(.arr 1 a3.length (cF dI a3))),(2,(.vec 9 1 a4.length (cF D.str a4))),(0,(z81o0_0 a1 a2 a3 a4))] [] (q81o0 a0 a1 a2 a3 a4) :=
 (.sq 2 [(1,tm1 17 (eSl 1 dI))] [(0,[0,1,4,17,18,19],[1,2,0])] (fun(y1:(List Int)×Int)=>⟨[(0,(.ptr 0 0)),(1,(aI a0)),(4,(aI (-1))),(17,(.d (eSl 1 dI y1.1))),(18,(aI y1.2)),(19,(aI 0))],[(1,(.arr 1 a3.length (cF dI a3))),(2,(.vec 9 1 a4.length (cF D.str a4))),(0,(.cells (g27 a1++([(aI a2),(.arr 1 1 a3.length),(.vec 2 1 a4.length)]:List AV))))],[],224⟩) (c3 (@p44 a1 a2) fun x1=>(.nx (x1,(x1.length:Int)))) (fun y1=>(.bk (.lp (fun(s2:Int×Int×(List Int)×(List (List UInt8)))=>⟨[(0,(.ptr 0 0)),(1,(aI a0)),(4,(aI s2.1)),(17,(.d (eSl 1 dI y1.1))),(18,(aI y1.2)),(19,(aI s2.2.1))],[(1,(.arr 1 a3.length (cF dI s2.2.2.1))),(16,(.vec 9 1 s2.2.2.2.length (cF D.str s2.2.2.2))),(0,(.cells (g27 a1++([(aI a2),(.arr 1 1 a3.length),(.vec 16 1 s2.2.2.2.length)]:List AV))))],[],976⟩) ((-1:Int),(0:Int),a3,a4) (ws [(0,0),(1,1),(16,2)] [] ⟨⟨_,_,rfl,rfl,⟨rfl,(de_keep dr)⟩⟩,⟨_,_,rfl,rfl,⟨rfl,rfl,dr⟩⟩,⟨_,_,rfl,rfl,⟨dr,dr,dr,dr,dr,dr,dr,⟨rfl,rfl,rfl⟩,⟨rfl,rfl,rfl⟩,trivial⟩⟩⟩) fun s2=>(.sg [(6,⟨Unit,fun x=>[],fun x=>[],[609,1361]⟩)] [(1,[0],[0,1,16]),(0,[0,1,4,17,18,19],[0,1,1360]),(2,[0],[0,1,16])] (.ite (decide (s2.2.1 < y1.2)) (nd (0≤s2.2.1) (nd (s2.2.1 < (y1.1.length:Int)) (.ite ((y1.1.getD s2.2.1.toNat default)==a0) (.ret .ret ⟨[(0,(.ptr 0 0))],(z81o0_1 a1 a2 a3 s2),[],1088⟩ (.inr ((s2.2.2.1,s2.2.2.2))) ⟨rfl,rfl,(retO_gone [2] (rk (idn [0,1,16]) [] 1088))⟩) (nd (0≤(y1.1.getD s2.2.1.toNat default)) (nd ((y1.1.getD s2.2.1.toNat default) < (a1.States.length:Int)) (.exi (Unit) (if(s2.2.2.2.length+(a1.States.getD (y1.1.getD s2.2.1.toNat default).toNat default).Exit.length) * 16≤140737488355328 then some ()else none) (fun x6=>(.p ((s2.2.2.2.length+(a1.States.getD (y1.1.getD s2.2.1.toNat default).toNat default).Exit.length) * 16≤140737488355328) (.fin 0))) (by intro x6 h;obtain⟨h1,h⟩:=if_some h;cases h;exact⟨h1,trivial⟩) (fun x6 _=>(.ite ((a1.States.getD (y1.1.getD s2.2.1.toNat default).toNat default).History&&(s2.1 != (-1:Int))) (nd (0≤(y1.1.getD s2.2.1.toNat default)) (nd ((y1.1.getD s2.2.1.toNat default) < (a3.length:Int)) (nd ((y1.1.getD s2.2.1.toNat default).toNat < a3.length) (.ret .normal ⟨[(0,(.ptr 0 0)),(1,(aI a0)),(4,(aI (y1.1.getD s2.2.1.toNat default))),(17,(.d (eSl 1 dI y1.1))),(18,(aI y1.2)),(19,(aI (IntKind.wrap .i64 (s2.2.1+1))))],[(0,(.cells (g27 a1++([(aI a2),(.arr 1 1 a3.length),(.vec 1360 1 (s2.2.2.2.length+(a1.States.getD (y1.1.getD s2.2.1.toNat default).toNat default).Exit.length))]:List AV)))),(1,(.arr 1 a3.length (fun k=>if k=(y1.1.getD s2.2.1.toNat default).toNat then(dI s2.1)else(cF dI s2.2.2.1) k))),(1360,(.vec 9 1 (s2.2.2.2.length+(a1.States.getD (y1.1.getD s2.2.1.toNat default).toNat default).Exit.length) (appF s2.2.2.2.length (cF D.str s2.2.2.2) (cF D.str (a1.States.getD (y1.1.getD s2.2.1.toNat default).toNat default).Exit))))],[],1728⟩ (.inl ((y1.1.getD s2.2.1.toNat default),(IntKind.wrap .i64 (s2.2.1+1)),((subL s2.2.2.1 0 a3.length).set (y1.1.getD s2.2.1.toNat default).toNat s2.1),(s2.2.2.2++(a1.States.getD (y1.1.getD s2.2.1.toNat default).toNat default).Exit))) ⟨rfl,(ws [(0,0),(1,1),(16,1360)] [] ⟨⟨_,_,rfl,rfl,⟨rfl,(de_keep (de_set de_sub0))⟩⟩,⟨_,_,rfl,rfl,⟨rfl,rfl,(de_app dr dr)⟩⟩,⟨_,_,rfl,rfl,⟨dr,dr,dr,dr,dr,dr,dr,⟨rfl,rfl,rfl⟩,⟨rfl,rfl,(len_of (sz:=1) (e:=D.str) (f:=(appF s2.2.2.2.length (cF D.str s2.2.2.2) (cF D.str (a1.States.getD (y1.1.getD s2.2.1.toNat default).toNat default).Exit))) (l:=(s2.2.2.2++(a1.States.getD (y1.1.getD s2.2.1.toNat default).toNat default).Exit)) (de_app dr dr))⟩,trivial⟩⟩⟩)⟩)))) (.ret .normal ⟨[(0,(.ptr 0 0)),(1,(aI a0)),(4,(aI (y1.1.getD s2.2.1.toNat default))),(17,(.d (eSl 1 dI y1.1))),(18,(aI y1.2)),(19,(aI (IntKind.wrap .i64 (s2.2.1+1))))],[(0,(.cells (g27 a1++([(aI a2),(.arr 1 1 a3.length),(.vec 1360 1 (s2.2.2.2.length+(a1.States.getD (y1.1.getD s2.2.1.toNat default).toNat default).Exit.length))]:List AV)))),(1,(.arr 1 a3.length (cF dI s2.2.2.1))),(1360,(.vec 9 1 (s2.2.2.2.length+(a1.States.getD (y1.1.getD s2.2.1.toNat default).toNat default).Exit.length) (appF s2.2.2.2.length (cF D.str s2.2.2.2) (cF D.str (a1.States.getD (y1.1.getD s2.2.1.toNat default).toNat default).Exit))))],[],1584⟩ (.inl ((y1.1.getD s2.2.1.toNat default),(IntKind.wrap .i64 (s2.2.1+1)),s2.2.2.1,(s2.2.2.2++(a1.States.getD (y1.1.getD s2.2.1.toNat default).toNat default).Exit))) ⟨rfl,(ws [(0,0),(1,1),(16,1360)] [] ⟨⟨_,_,rfl,rfl,⟨rfl,dr⟩⟩,⟨_,_,rfl,rfl,⟨rfl,rfl,(de_app dr dr)⟩⟩,⟨_,_,rfl,rfl,⟨dr,dr,dr,dr,dr,dr,dr,⟨rfl,rfl,rfl⟩,⟨rfl,rfl,(len_of (sz:=1) (e:=D.str) (f:=(appF s2.2.2.2.length (cF D.str s2.2.2.2) (cF D.str (a1.States.getD (y1.1.getD s2.2.1.toNat default).toNat default).Exit))) (l:=(s2.2.2.2++(a1.States.getD (y1.1.getD s2.2.1.toNat default).toNat default).Exit)) (de_app dr dr))⟩,trivial⟩⟩⟩)⟩))))))))) (.ret (.exit 0) ⟨[(0,(.ptr 0 0))],(z81o0_1 a1 a2 a3 s2),[],992⟩ (.inr ((s2.2.2.1,s2.2.2.2))) ⟨rfl,rfl,(retO_gone [2] (rk (idn [0,1,16]) [] 1088))⟩)))))))
noncomputable def m81o0 (a0:Int) (a1:T27) (a2:Int) (a3:List Int) (a4:List (List UInt8)):Option ((List Int)×(List (List UInt8))):=(d81o0 a0 a1 a2 a3 a4).m
theorem po81o0 {a0:Int} {a1:T27} {a2:Int} {a3:List Int} {a4:List (List UInt8)} {r:(List Int)×(List (List UInt8))} (h:m81o0 a0 a1 a2 a3 a4=some r):ObjF Tryz.prog 81 [(.ptr 0 0),(aI a0)] [(1,(.arr 1 a3.length (cF dI a3))),(2,(.vec 9 1 a4.length (cF D.str a4))),(0,(z81o0_0 a1 a2 a3 a4))] [] (q81o0 a0 a1 a2 a3 a4 r):=obj_jd (d81o0 a0 a1 a2 a3 a4) Tryz.func81 h
noncomputable abbrev z43_0 (a0:T27) (a1:T41):Ob:=(.cells (g27 a0++([(aI a1.Leaf),(.arr 656 1 (a1.Memory.length:Int).toNat),(.vec 657 1 ([]:List (List UInt8)).length)]:List AV)))
noncomputable def E43 (r:T41×(List (List UInt8))×Int):D:=(.tup [(e41 r.1),(eSl 1 D.str r.2.1),(dI r.2.2)])
noncomputable def o43_0 (a0:T27) (a1:T41) (x:Unit):OT:=⟨(.ptr 658 0),[],[],[(656,(.arr 1 (a1.Memory.length:Int).toNat (fun i=>if i < a1.Memory.length then(cF dI a1.Memory) i else(fun _=>(dI 0)) i))),(657,(.vec 9 1 ([]:List (List UInt8)).length (cF D.str ([]:List (List UInt8))))),(658,(z43_0 a0 a1))],[]⟩
noncomputable def o43_1 (a0:T27) (a1:T41) (x:((List Int)×(List (List UInt8)))):OT:=⟨(.tup []),[658,656,657],[],[(657,.gone),(656,(.arr 1 (a1.Memory.length:Int).toNat (cF dI x.1))),(832,(.vec 9 1 x.2.length (cF D.str x.2))),(658,(.cells (g27 a0++([(aI a1.Leaf),(.arr 656 1 (a1.Memory.length:Int).toNat),(.vec 832 1 x.2.length)]:List AV))))],[]⟩
noncomputable def o43_2 (a0:T27) (a1:T41) (x:(Int×(List Int)×(List (List UInt8)))):OT:=⟨(.tup []),[658,656,960],[],[(960,.gone),(656,(.arr 1 (a1.Memory.length:Int).toNat (cF dI x.2.1))),(1088,(.vec 9 1 x.2.2.length (cF D.str x.2.2))),(658,(.cells (g27 a0++([(aI x.1),(.arr 656 1 (a1.Memory.length:Int).toNat),(.vec 1088 1 x.2.2.length)]:List AV))))],[]⟩
noncomputable def d43 (a0:T27) (a1:T41) (a2:Int):JF Tryz.prog Tryz.f43 [(e27 a0),(e41 a1),(dI a2)] E43 :=
 (.sg [(1,tm1 14 dI),(4,tm1 21 D.bool),(9,⟨(List Int)×Bool,fun x=>[(42,(eSl 1 dI x.1)),(45,(.bool x.2))],fun x=>[],[]⟩),(11,⟨Unit,fun x=>[],fun x=>[(656,(o43_0 a0 a1 x))],[]⟩),(12,tm1 56 dI),(13,⟨((List Int)×(List (List UInt8))),fun x=>[],fun x=>[(832,(o43_1 a0 a1 x))],[]⟩),(14,⟨Unit,fun x=>[],fun x=>[],[961]⟩),(15,⟨(Int×(List Int)×(List (List UInt8))),fun x=>[],fun x=>[(1088,(o43_2 a0 a1 x))],[]⟩)] [(1,[6,7,8],[48,656,1088])] (c3 (@p20 a0) fun x1=>(.ite (x1 != 0) (.ret .ret ⟨[(6,(.ptr 48 0)),(7,aN),(8,(aI x1))],[(48,(.cells [(aI 0),aN]))],[],256⟩ ((⟨(0:Int),[]⟩:T41),[],x1) ⟨rfl,_,Weak.refl _,⟨⟨dr,de_nil,trivial⟩,de_nil,dr,trivial⟩⟩) (c3 (@p42 a0 a1) fun x4=>(.ite (!x4) (.ret .ret ⟨[(6,(.ptr 48 0)),(7,aN),(8,(aI 8))],[(48,(.cells [(aI 0),aN]))],[],304⟩ ((⟨(0:Int),[]⟩:T41),[],(8:Int)) ⟨rfl,_,Weak.refl _,⟨⟨dr,de_nil,trivial⟩,de_nil,dr,trivial⟩⟩) (.ite ((decide (a2 < 0)) || (decide ((a0.Transitions.length:Int)≤a2))) (.ret .ret ⟨[(6,(.ptr 48 0)),(7,aN),(8,(aI 2))],[(48,(.cells [(aI 0),aN]))],[],448⟩ ((⟨(0:Int),[]⟩:T41),[],(2:Int)) ⟨rfl,_,Weak.refl _,⟨⟨dr,de_nil,trivial⟩,de_nil,dr,trivial⟩⟩) (nd (0≤a2) (nd (a2 < (a0.Transitions.length:Int)) (.exi ((List Int)×Bool) ((m44 a0 a1.Leaf).bind fun r9_0=>((m45 r9_0 (a0.Transitions.getD a2.toNat default).From).bind fun r9_1=>some (r9_0,r9_1))) (fun x9=>(.p (PureAt Tryz.prog 44 [(e27 a0),(dI a1.Leaf)] (eSl 1 dI x9.1)) (.p (PureAt Tryz.prog 45 [(eSl 1 dI x9.1),(dI (a0.Transitions.getD a2.toNat default).From)] (.bool x9.2)) (.fin 0)))) (by intro x9 h;obtain⟨r9_0,h1,h⟩:=Option.bind_eq_some_iff.1 h;obtain⟨r9_1,h2,h⟩:=Option.bind_eq_some_iff.1 h;cases h;exact⟨p44 h1,p45 h2,trivial⟩) (fun x9 _=>(.ite (!x9.2) (.ret .ret ⟨[(6,(.ptr 48 0)),(7,aN),(8,(aI 9))],[(48,(.cells [(aI 0),aN]))],[],688⟩ ((⟨(0:Int),[]⟩:T41),[],(9:Int)) ⟨rfl,_,Weak.refl _,⟨⟨dr,de_nil,trivial⟩,de_nil,dr,trivial⟩⟩) (c3 (p:=fun x11=>ObjL Tryz.prog 39 [(.d (e27 a0)),(.d (e41 a1))] [] 656 (o43_0 a0 a1 x11)) (fun x11 (h1:m39o0 a0 a1=some _)=>ok [] [] [(656,112),(657,336),(658,304)] [] (po39o0 h1)) fun x11=>(c3 (@p80 a0 (a0.Transitions.getD a2.toNat default).From (a0.Transitions.getD a2.toNat default).To) fun x12=>(c3 (p:=fun x13=>ObjL Tryz.prog 81 [(.ptr 658 0),(aI x12)] [(658,some (z43_0 a0 a1)),(656,some (.arr 1 (a1.Memory.length:Int).toNat (fun i=>if i < a1.Memory.length then(cF dI a1.Memory) i else(fun _=>(dI 0)) i))),(657,some (.vec 9 1 ([]:List (List UInt8)).length (cF D.str ([]:List (List UInt8)))))] 832 (o43_1 a0 a1 x13)) (fun x13 (h1:m81o0 x12 a0 a1.Leaf (copyL (List.replicate (a1.Memory.length:Int).toNat (0:Int)) a1.Memory) ([]:List (List UInt8))=some _)=>objL_of (po81o0 h1) [(0,658),(1,656),(2,657)] [] [(658,0),(656,1),(657,2),(832,16)] [] (by kernel_rfl) ⟨⟨rfl,rfl⟩,dr,trivial⟩ ⟨⟨_,_,rfl,rfl,⟨rfl,(de_copy (z:=1) (sz':=1) de_rep dr)⟩⟩,⟨_,_,rfl,rfl,⟨rfl,rfl,dr⟩⟩,⟨_,_,rfl,rfl,⟨dr,dr,dr,dr,dr,dr,dr,⟨rfl,rfl,(len_of (sz:=1) (e:=dI) (f:=(fun i=>if i < a1.Memory.length then(cF dI a1.Memory) i else(fun _=>(dI 0)) i)) (l:=(copyL (List.replicate (a1.Memory.length:Int).toNat (0:Int)) a1.Memory)) (de_copy (z:=1) (sz':=1) de_rep dr))⟩,⟨rfl,rfl,rfl⟩,trivial⟩⟩⟩ (by kernel_rfl) trivial ⟨⟨_,_,rfl,rfl,trivial⟩,⟨_,_,rfl,rfl,⟨rfl,(de_len (Eq.symm (len_of (sz:=1) (e:=dI) (f:=(fun i=>if i < a1.Memory.length then(cF dI a1.Memory) i else(fun _=>(dI 0)) i)) (l:=(copyL (List.replicate (a1.Memory.length:Int).toNat (0:Int)) a1.Memory)) (de_copy (z:=1) (sz':=1) de_rep dr))))⟩⟩,⟨_,_,rfl,rfl,⟨rfl,rfl,dr⟩⟩,⟨_,_,rfl,rfl,⟨dr,dr,dr,dr,dr,dr,dr,⟨rfl,rfl,(Eq.symm (len_of (sz:=1) (e:=dI) (f:=(fun i=>if i < a1.Memory.length then(cF dI a1.Memory) i else(fun _=>(dI 0)) i)) (l:=(copyL (List.replicate (a1.Memory.length:Int).toNat (0:Int)) a1.Memory)) (de_copy (z:=1) (sz':=1) de_rep dr)))⟩,⟨rfl,rfl,rfl⟩,trivial⟩⟩⟩) fun x13=>(.exi (Unit) (if(x13.2.length+(a0.Transitions.getD a2.toNat default).Actions.length) * 16≤140737488355328 then some ()else none) (fun x14=>(.p ((x13.2.length+(a0.Transitions.getD a2.toNat default).Actions.length) * 16≤140737488355328) (.fin 0))) (by intro x14 h;obtain⟨h1,h⟩:=if_some h;cases h;exact⟨h1,trivial⟩) (fun x14 _=>(c3 (p:=fun x15=>ObjL Tryz.prog 41 [(.ptr 658 0),(aI (a0.Transitions.getD a2.toNat default).To),(aI x12)] [(658,some (.cells (g27 a0++([(aI a1.Leaf),(.arr 656 1 (a1.Memory.length:Int).toNat),(.vec 960 1 (x13.2.length+(a0.Transitions.getD a2.toNat default).Actions.length))]:List AV)))),(656,some (.arr 1 (a1.Memory.length:Int).toNat (cF dI x13.1))),(960,some (.vec 9 1 (x13.2.length+(a0.Transitions.getD a2.toNat default).Actions.length) (appF x13.2.length (cF D.str x13.2) (cF D.str (a0.Transitions.getD a2.toNat default).Actions))))] 1088 (o43_2 a0 a1 x15)) (fun x15 (h1:m41o0 (a0.Transitions.getD a2.toNat default).To x12 a0 a1.Leaf (subL x13.1 0 (a1.Memory.length:Int).toNat) (x13.2++(a0.Transitions.getD a2.toNat default).Actions)=some _)=>objL_of (po41o0 h1) [(0,658),(1,656),(2,960)] [] [(658,0),(656,1),(960,2),(1088,384)] [] (by kernel_rfl) ⟨⟨rfl,rfl⟩,dr,dr,trivial⟩ ⟨⟨_,_,rfl,rfl,⟨rfl,de_sub0⟩⟩,⟨_,_,rfl,rfl,⟨rfl,rfl,(de_app dr dr)⟩⟩,⟨_,_,rfl,rfl,⟨dr,dr,dr,dr,dr,dr,dr,⟨rfl,rfl,(len_of (sz:=1) (e:=dI) (f:=(cF dI x13.1)) (l:=(subL x13.1 0 (a1.Memory.length:Int).toNat)) de_sub0)⟩,⟨rfl,rfl,(len_of (sz:=1) (e:=D.str) (f:=(appF x13.2.length (cF D.str x13.2) (cF D.str (a0.Transitions.getD a2.toNat default).Actions))) (l:=(x13.2++(a0.Transitions.getD a2.toNat default).Actions)) (de_app dr dr))⟩,trivial⟩⟩⟩ (by kernel_rfl) trivial ⟨⟨_,_,rfl,rfl,trivial⟩,⟨_,_,rfl,rfl,⟨rfl,(de_len (Eq.symm (len_of (sz:=1) (e:=dI) (f:=(cF dI x13.1)) (l:=(subL x13.1 0 (a1.Memory.length:Int).toNat)) de_sub0)))⟩⟩,⟨_,_,rfl,rfl,⟨rfl,rfl,dr⟩⟩,⟨_,_,rfl,rfl,⟨dr,dr,dr,dr,dr,dr,dr,⟨rfl,rfl,(Eq.symm (len_of (sz:=1) (e:=dI) (f:=(cF dI x13.1)) (l:=(subL x13.1 0 (a1.Memory.length:Int).toNat)) de_sub0))⟩,⟨rfl,rfl,rfl⟩,trivial⟩⟩⟩) fun x15=>(.ret .ret ⟨[(6,(.ptr 48 0)),(7,(.vec 1088 1 x15.2.2.length)),(8,(aI 0))],[(48,(.cells [(aI x15.1),(.arr 656 1 (a1.Memory.length:Int).toNat)])),(656,(.arr 1 (a1.Memory.length:Int).toNat (cF dI x15.2.1))),(1088,(.vec 9 1 x15.2.2.length (cF D.str x15.2.2)))],[],1280⟩ ((⟨x15.1,(subL x15.2.1 0 (a1.Memory.length:Int).toNat)⟩:T41),x15.2.2,(0:Int)) ⟨rfl,_,(weak_frz (st':=⟨[(6,(.ptr 48 0)),(7,(.d (eSl 1 D.str x15.2.2))),(8,(aI 0))],[(48,(.cells [(aI x15.1),(.d (eSl 1 dI (subL x15.2.1 0 (a1.Memory.length:Int).toNat)))]))],[],1280⟩) [(656,1,(a1.Memory.length:Int).toNat,(cF dI x15.2.1)),(1088,1,x15.2.2.length,(cF D.str x15.2.2))] (by rfl) (by rfl) (by kernel_rfl) (by kernel_rfl) (by exact⟨(rowIs_arr rfl),(rowIs_vec (e:=9) rfl)⟩) (by exact .inr ⟨_,_,rfl,rfl,(.same (.arr (.head _) (Nat.le_refl _) de_sub0 .nil))⟩) (by exact⟨(.same .nil),(.vec (.tail _ (.head _)) dr .nil),(.same .nil)⟩)),⟨dr,dr,dr,trivial⟩⟩))))))))))))))))))
noncomputable def m43 (a0:T27) (a1:T41) (a2:Int):Option (T41×(List (List UInt8))×Int):=(d43 a0 a1 a2).m
theorem p43 {a0:T27} {a1:T41} {a2:Int} {r:T41×(List (List UInt8))×Int} (h:m43 a0 a1 a2=some r):PureAt Tryz.prog 43 [(e27 a0),(e41 a1),(dI a2)] (E43 r):=pure_jd (d43 a0 a1 a2) Tryz.func43 h
noncomputable def E13 (r:T41×(List (List UInt8))×Int):D:=(.tup [(e41 r.1),(eSl 1 D.str r.2.1),(dI r.2.2)])
noncomputable def d13 (a0:T27) (a1:T41) (a2:Int):JF Tryz.prog Tryz.f13 [(e27 a0),(e41 a1),(.int .u16 a2)] E13 :=
 (.sg [(1,tm1 12 dI),(4,tm1 19 D.bool),(6,tm1 24 D.bool),(8,tm1 31 (eSl 1 dI)),(13,tm1 44 (fun(x:(T41×(List (List UInt8))×Int))=>(.tup [(e41 x.1),(eSl 1 D.str x.2.1),(dI x.2.2)])))] [(1,[6,7,8],[48])] (c3 (@p20 a0) fun x1=>(.ite (x1 != 0) (.ret .ret ⟨[(6,(.ptr 48 0)),(7,aN),(8,(aI x1))],[(48,(.cells [(aI 0),aN]))],[],256⟩ ((⟨(0:Int),[]⟩:T41),[],x1) ⟨rfl,_,Weak.refl _,⟨⟨dr,de_nil,trivial⟩,de_nil,dr,trivial⟩⟩) (c3 (@p42 a0 a1) fun x4=>(.ite (!x4) (.ret .ret ⟨[(6,(.ptr 48 0)),(7,aN),(8,(aI 8))],[(48,(.cells [(aI 0),aN]))],[],304⟩ ((⟨(0:Int),[]⟩:T41),[],(8:Int)) ⟨rfl,_,Weak.refl _,⟨⟨dr,de_nil,trivial⟩,de_nil,dr,trivial⟩⟩) (c3 (@p19 a0 a2) fun x6=>(.ite (!x6) (.ret .ret ⟨[(6,(.ptr 48 0)),(7,aN),(8,(aI 1))],[(48,(.cells [(aI 0),aN]))],[],368⟩ ((⟨(0:Int),[]⟩:T41),[],(1:Int)) ⟨rfl,_,Weak.refl _,⟨⟨dr,de_nil,trivial⟩,de_nil,dr,trivial⟩⟩) (c3 (@p18 a0 a1.Leaf a2) fun x8=>(.ite ((x8.length:Int)==(0:Int)) (.ret .ret ⟨[(6,(.ptr 48 0)),(7,aN),(8,(aI 6))],[(48,(.cells [(aI 0),aN]))],[],528⟩ ((⟨(0:Int),[]⟩:T41),[],(6:Int)) ⟨rfl,_,Weak.refl _,⟨⟨dr,de_nil,trivial⟩,de_nil,dr,trivial⟩⟩) (.ite ((x8.length:Int)==(1:Int)) (.exi ((T41×(List (List UInt8))×Int)) (if(0:Int)≤(0:Int)then(if 0 < (x8.length:Int)then((m43 a0 a1 (x8.getD (0:Int).toNat default)).bind fun r13_0=>some r13_0)else none)else none) (fun x13=>(.p ((0:Int)≤(0:Int)) (.p (0 < (x8.length:Int)) (.p (PureAt Tryz.prog 43 [(e27 a0),(e41 a1),(dI (x8.getD (0:Int).toNat default))] (.tup [(e41 x13.1),(eSl 1 D.str x13.2.1),(dI x13.2.2)])) (.fin 0))))) (by intro x13 h;obtain⟨h1,h⟩:=if_some h;obtain⟨h2,h⟩:=if_some h;obtain⟨r13_0,h3,h⟩:=Option.bind_eq_some_iff.1 h;cases h;exact⟨h1,h2,p43 h3,trivial⟩) (fun x13 _=>(.ret .ret ⟨[(6,(.ptr 48 0)),(7,(.d (eSl 1 D.str x13.2.1))),(8,(aI x13.2.2))],[(48,(.cells (g41 x13.1)))],[],688⟩ (x13.1,x13.2.1,x13.2.2) ⟨rfl,_,Weak.refl _,⟨dr,dr,dr,trivial⟩⟩))) (.ret .ret ⟨[(6,(.ptr 48 0)),(7,aN),(8,(aI 11))],[(48,(.cells [(aI 0),aN]))],[],560⟩ ((⟨(0:Int),[]⟩:T41),[],(11:Int)) ⟨rfl,_,Weak.refl _,⟨⟨dr,de_nil,trivial⟩,de_nil,dr,trivial⟩⟩)))))))))))
noncomputable def m13 (a0:T27) (a1:T41) (a2:Int):Option (T41×(List (List UInt8))×Int):=(d13 a0 a1 a2).m
theorem p13 {a0:T27} {a1:T41} {a2:Int} {r:T41×(List (List UInt8))×Int} (h:m13 a0 a1 a2=some r):PureAt Tryz.prog 13 [(e27 a0),(e41 a1),(.int .u16 a2)] (E13 r):=pure_jd (d13 a0 a1 a2) Tryz.func13 h
noncomputable def E15 (r:(List Int)×(List (List UInt8))×Int):D:=(.tup [(eSl 1 dI r.1),(eSl 1 D.str r.2.1),(dI r.2.2)])
noncomputable def o15_0 (x:(Int×(List (List UInt8))×Int×(List Int))):OT:=⟨(.tup [(.d (.agg [(dI x.2.2.1),(eSl 1 dI x.2.2.2)])),(.vec 96 1 x.2.1.length),(aI x.1)]),[],[],[(96,(.vec 9 1 x.2.1.length (cF D.str x.2.1)))],[]⟩
noncomputable def d15 (a0:T27) (a1:List Int):JF Tryz.prog Tryz.f15 [(e27 a0),(eSl 1 (D.int .u16) a1)] E15 :=
 (.sq 4 [(1,⟨(Int×(List (List UInt8))×Int×(List Int)),fun x=>[],fun x=>[(96,(o15_0 x))],[]⟩)] [(1,[4,5,6],[]),(0,[1,2,7,8,10],[96,16,176])] (fun(y1:(List (List UInt8))×(List Int)×Int×(List Int))=>⟨[(1,(.d (eSl 1 (D.int .u16) a1))),(2,(.ptr 16 0)),(7,(.ptr 176 0)),(8,(.vec 96 1 y1.1.length)),(10,(.ap 1 y1.2.1.length (cF dI y1.2.1) (.tok 304 3)))],[(96,(.vec 9 1 y1.1.length (cF D.str y1.1))),(16,(.cells (g27 a0))),(176,(.cells [(aI y1.2.2.1),(.d (eSl 1 dI y1.2.2.2))]))],[304],336⟩) (c3 (p:=fun x1=>ObjL Tryz.prog 11 [(.d (e27 a0))] [] 96 (o15_0 x1)) (fun x1 (h1:m11o0 a0=some _)=>ok [] [] [(96,240)] [] (po11o0 h1)) fun x1=>(.ite (x1.1 != 0) (.ret .ret ⟨[(4,aN),(5,aN),(6,(aI x1.1))],[],[],336⟩ (.inr (([],[],x1.1))) ⟨rfl,rfl,_,Weak.refl _,⟨de_nil,de_nil,dr,trivial⟩⟩) (.ret .normal ⟨[(1,(.d (eSl 1 (D.int .u16) a1))),(2,(.ptr 16 0)),(7,(.ptr 176 0)),(8,(.vec 96 1 x1.2.1.length)),(10,(.ap 1 1 (litF [(dI x1.2.2.1)]) (.tok 304 3)))],[(96,(.vec 9 1 x1.2.1.length (cF D.str x1.2.1))),(16,(.cells (g27 a0))),(176,(.cells [(aI x1.2.2.1),(.d (eSl 1 dI x1.2.2.2))]))],[304],336⟩ (.inl (x1.2.1,([x1.2.2.1]:List Int),x1.2.2.1,x1.2.2.2)) ⟨rfl,(wh (idn [16,176,96]) [(304,304)] ⟨dr,⟨rfl,rfl⟩,⟨rfl,rfl⟩,⟨rfl,rfl,rfl⟩,⟨rfl,rfl,rfl,(de_lit rfl rfl)⟩⟩)⟩))) (fun y1=>(.sc (fun(y3:(List (List UInt8))×(List Int))=>⟨[(8,(.vec 96 1 y3.1.length)),(10,(.ap 1 y3.2.length (cF dI y3.2) (.tok 304 3)))],[(96,(.vec 9 1 y3.1.length (cF D.str y3.1)))],[304],880⟩) (.sq 1 [] [(0,[2,7,8,10,26,27,28],[96,16,176])] (fun(_:Unit)=>⟨[(2,(.ptr 16 0)),(7,(.ptr 176 0)),(8,(.vec 96 1 y1.1.length)),(10,(.ap 1 y1.2.1.length (cF dI y1.2.1) (.tok 304 3))),(26,(.d (eSl 1 (D.int .u16) a1))),(27,(aI (a1.length:Int))),(28,(aI 0))],[(96,(.vec 9 1 y1.1.length (cF D.str y1.1))),(16,(.cells (g27 a0))),(176,(.cells [(aI y1.2.2.1),(.d (eSl 1 dI y1.2.2.2))]))],[304],384⟩) (.nx ()) (fun _=>(.bk (.lp (fun(s2:(List (List UInt8))×(List Int)×Int×Int×(List Int))=>⟨[(2,(.ptr 16 0)),(7,(.ptr 176 0)),(8,(.vec 96 1 s2.1.length)),(10,(.ap 1 s2.2.1.length (cF dI s2.2.1) (.tok 304 3))),(26,(.d (eSl 1 (D.int .u16) a1))),(27,(aI (a1.length:Int))),(28,(aI s2.2.2.1))],[(96,(.vec 9 1 s2.1.length (cF D.str s2.1))),(16,(.cells (g27 a0))),(176,(.cells [(aI s2.2.2.2.1),(.d (eSl 1 dI s2.2.2.2.2))]))],[304],864⟩) (y1.1,y1.2.1,(0:Int),y1.2.2.1,y1.2.2.2) (wk (idn [16,176,96]) [(304,304)]) fun s2=>(.sg [(9,tm1 36 (fun(x:(T41×(List (List UInt8))×Int))=>(.tup [(e41 x.1),(eSl 1 D.str x.2.1),(dI x.2.2)]))),(13,⟨Unit,fun x=>[],fun x=>[],[801,1281]⟩)] [(1,[4,5,6],[]),(0,[2,7,8,10,26,27,28],[16,176,1280]),(2,[8,10],[96])] (.ite (decide (s2.2.2.1 < (a1.length:Int))) (nd (0≤s2.2.2.1) (nd (s2.2.2.1 < (a1.length:Int)) (c3 (@p13 a0 (⟨s2.2.2.2.1,s2.2.2.2.2⟩:T41) (a1.getD s2.2.2.1.toNat default)) fun x9=>(.ite (x9.2.2 != 0) (.ret .ret ⟨[(4,aN),(5,aN),(6,(aI x9.2.2))],[],[304],1216⟩ (.inr (.inr (([],[],x9.2.2)))) ⟨rfl,rfl,rfl,_,Weak.refl _,⟨de_nil,de_nil,dr,trivial⟩⟩) (nd ((s2.2.1.length+1) * 8≤140737488355328) (.exi (Unit) (if(s2.1.length+x9.2.1.length) * 16≤140737488355328 then some ()else none) (fun x13=>(.p ((s2.1.length+x9.2.1.length) * 16≤140737488355328) (.fin 0))) (by intro x13 h;obtain⟨h1,h⟩:=if_some h;cases h;exact⟨h1,trivial⟩) (fun x13 _=>(.ret .normal ⟨[(2,(.ptr 16 0)),(7,(.ptr 176 0)),(8,(.vec 1280 1 (s2.1.length+x9.2.1.length))),(10,(.ap 1 (s2.2.1.length+1) (appF s2.2.1.length (cF dI s2.2.1) (litF [(dI x9.1.Leaf)])) (.tok 1216 3))),(26,(.d (eSl 1 (D.int .u16) a1))),(27,(aI (a1.length:Int))),(28,(aI (IntKind.wrap .i64 (s2.2.2.1+1))))],[(16,(.cells (g27 a0))),(176,(.cells (g41 x9.1))),(1280,(.vec 9 1 (s2.1.length+x9.2.1.length) (appF s2.1.length (cF D.str s2.1) (cF D.str x9.2.1))))],[1216,1200],1344⟩ (.inl ((s2.1++x9.2.1),(s2.2.1++([x9.1.Leaf]:List Int)),(IntKind.wrap .i64 (s2.2.2.1+1)),x9.1.Leaf,x9.1.Memory)) ⟨rfl,(weak_of [(16,16),(176,176),(96,1280)] [(304,1216)] (by kernel_rfl) ⟨⟨rfl,rfl⟩,⟨rfl,rfl⟩,⟨rfl,rfl,(len_of (sz:=1) (e:=D.str) (f:=(appF s2.1.length (cF D.str s2.1) (cF D.str x9.2.1))) (l:=(s2.1++x9.2.1)) (de_app dr dr))⟩,⟨rfl,rfl,rfl,(de_app dr (de_lit rfl rfl))⟩,dr,dr,dr⟩ ⟨⟨_,_,rfl,rfl,⟨rfl,rfl,(de_app dr dr)⟩⟩,⟨_,_,rfl,rfl,⟨dr,dr,dr,dr,dr,dr,trivial⟩⟩,⟨_,_,rfl,rfl,⟨dr,dr,trivial⟩⟩⟩)⟩)))))))) (.ret (.exit 0) _ (.inr (.inl (s2.1,s2.2.1))) ⟨rfl,rfl,Weak.refl _⟩))))))) fun y3=>(.sg [] [(1,[4,5,6],[96])] (.ret .ret ⟨[(4,(.ap 1 y3.2.length (cF dI y3.2) (.tok 304 3))),(5,(.vec 96 1 y3.1.length)),(6,(aI 0))],[(96,(.vec 9 1 y3.1.length (cF D.str y3.1)))],[304],960⟩ (y3.2,y3.1,(0:Int)) ⟨rfl,_,(weak_frz (st':=⟨[(4,(.ap 1 y3.2.length (cF dI y3.2) (.tok 304 3))),(5,(.d (eSl 1 D.str y3.1))),(6,(aI 0))],[],[304],960⟩) [(96,1,y3.1.length,(cF D.str y3.1))] (by rfl) (by rfl) (by kernel_rfl) (by kernel_rfl) (by exact(rowIs_vec (e:=9) rfl)) (by exact trivial) (by exact⟨(.same .nil),(.vec (.head _) dr .nil),(.same .nil)⟩)),⟨dr,dr,dr,trivial⟩⟩)))))
noncomputable def m15 (a0:T27) (a1:List Int):Option ((List Int)×(List (List UInt8))×Int):=(d15 a0 a1).m
theorem p15 {a0:T27} {a1:List Int} {r:(List Int)×(List (List UInt8))×Int} (h:m15 a0 a1=some r):PureAt Tryz.prog 15 [(e27 a0),(eSl 1 (D.int .u16) a1)] (E15 r):=pure_jd (d15 a0 a1) Tryz.func15 h
noncomputable def d25 (a0:T27) (a1:Int):JF Tryz.prog Tryz.f25 [(e27 a0),(dI a1)] (fun(r:(List UInt8))=>(.str r)) :=
 (.sg [] [(1,[4],[])] (.ite (decide (a1 < 0)) (.ret .ret ⟨[(4,(aS ([45]:List UInt8)))],[],[],96⟩ ([45]:List UInt8) ⟨rfl,_,Weak.refl _,dr⟩) (nd (0≤a1) (nd (a1 < (a0.States.length:Int)) (.ret .ret ⟨[(4,(aS (a0.States.getD a1.toNat default).Name))],[],[],192⟩ (a0.States.getD a1.toNat default).Name ⟨rfl,_,Weak.refl _,dr⟩)))))
noncomputable def m25 (a0:T27) (a1:Int):Option ((List UInt8)):=(d25 a0 a1).m
theorem p25 {a0:T27} {a1:Int} {r:(List UInt8)} (h:m25 a0 a1=some r):PureAt Tryz.prog 25 [(e27 a0),(dI a1)] (.str r):=pure_jd (d25 a0 a1) Tryz.func25 h
noncomputable def q22o0 (a0:List UInt8) (y:Unit):OF:=⟨(.tup [(aI (a0.length:Int)),.any]),[(176,(.vec 5 1 (bytesI a0).length (cF (D.int .u8) (bytesI a0)))),(0,(.cells [(.ptr 0 0),(.vec 176 1 (bytesI a0).length)]))],[]⟩
noncomputable def d22o0 (a0:List UInt8):JO Tryz.prog Tryz.f22 [(.ptr 0 0),(aS a0)] [(0,(.bld0 63))] [] (q22o0 a0) :=
 (.sg [(1,⟨Unit,fun x=>[],fun x=>[(64,⟨(.tup []),[0],[],[(0,(.cells [(.ptr 0 0),aN]))],[]⟩)],[]⟩),(2,⟨Unit,fun x=>[],fun x=>[],[177]⟩)] [(1,[0,4,5],[0,176])] (c3 (p:=fun x1=>ObjL Tryz.prog 55 [(.ptr 0 0)] [(0,some (.bld0 63))] 64 ⟨(.tup []),[0],[],[(0,(.cells [(.ptr 0 0),aN]))],[]⟩) (fun x1 (h1:mcc0=some _)=>ok [(0,0)] [] [(0,0)] [] (pocc0 h1)) fun x1=>(.exi (Unit) (if a0.length≤140737488355328 then some ()else none) (fun x2=>(.p (a0.length≤140737488355328) (.fin 0))) (by intro x2 h;obtain⟨h1,h⟩:=if_some h;cases h;exact⟨h1,trivial⟩) (fun x2 _=>(.ret .ret ⟨[(0,(.ptr 0 0)),(4,(aI (a0.length:Int))),(5,.any)],[(0,(.cells [(.ptr 0 0),(.vec 176 1 a0.length)])),(176,(.vec 5 1 a0.length (bytesF a0)))],[],304⟩ () ⟨rfl,(retO_of [(0,0),(176,176)] [] 304 rfl (by kernel_rfl) (by kernel_rfl) ⟨dr,trivial,trivial⟩ ⟨⟨_,_,rfl,rfl,⟨rfl,rfl,de_bytes⟩⟩,⟨_,_,rfl,rfl,⟨⟨rfl,rfl⟩,⟨rfl,rfl,(len_of (sz:=1) (e:=(D.int .u8)) (f:=(bytesF a0)) (l:=(bytesI a0)) de_bytes)⟩,trivial⟩⟩⟩)⟩)))))
noncomputable def m22o0 (a0:List UInt8):Option (Unit):=(d22o0 a0).m
theorem po22o0 {a0:List UInt8} {r:Unit} (h:m22o0 a0=some r):ObjF Tryz.prog 22 [(.ptr 0 0),(aS a0)] [(0,(.bld0 63))] [] (q22o0 a0 r):=obj_jd (d22o0 a0) Tryz.func22 h
noncomputable def q22o1 (a0:List UInt8) (a1:List Int) (y:Unit):OF:=⟨(.tup [(aI (a0.length:Int)),.any]),[(1,.gone),(176,(.vec 5 1 (a1++bytesI a0).length (cF (D.int .u8) (a1++bytesI a0)))),(0,(.cells [(.ptr 0 0),(.vec 176 1 (a1++bytesI a0).length)]))],[]⟩
noncomputable def o22o1_0 (a1:List Int) (x:Unit):OT:=⟨(.tup []),[0,1],[],[(1,(.vec 5 1 a1.length (cF (D.int .u8) a1))),(0,(.cells [(.ptr 0 0),(.vec 1 1 a1.length)]))],[]⟩
noncomputable def d22o1 (a0:List UInt8) (a1:List Int):JO Tryz.prog Tryz.f22 [(.ptr 0 0),(aS a0)] [(1,(.vec 5 1 a1.length (cF (D.int .u8) a1))),(0,(.cells [(.ptr 0 0),(.vec 1 1 a1.length)]))] [] (q22o1 a0 a1) :=
 (.sg [(1,⟨Unit,fun x=>[],fun x=>[(64,(o22o1_0 a1 x))],[]⟩),(2,⟨Unit,fun x=>[],fun x=>[],[177]⟩)] [(1,[0,4,5],[0,176])] (c3 (p:=fun x1=>ObjL Tryz.prog 55 [(.ptr 0 0)] [(0,some (.cells [(.ptr 0 0),(.vec 1 1 a1.length)])),(1,some (.vec 5 1 a1.length (cF (D.int .u8) a1)))] 64 (o22o1_0 a1 x1)) (fun x1 (h1:mcc1 a1=some _)=>ok (idn [0,1]) [] (idn [0,1]) [] (pocc1 h1)) fun x1=>(.exi (Unit) (if a1.length+a0.length≤140737488355328 then some ()else none) (fun x2=>(.p (a1.length+a0.length≤140737488355328) (.fin 0))) (by intro x2 h;obtain⟨h1,h⟩:=if_some h;cases h;exact⟨h1,trivial⟩) (fun x2 _=>(.ret .ret ⟨[(0,(.ptr 0 0)),(4,(aI (a0.length:Int))),(5,.any)],[(0,(.cells [(.ptr 0 0),(.vec 176 1 (a1.length+a0.length))])),(176,(.vec 5 1 (a1.length+a0.length) (appF a1.length (cF (D.int .u8) a1) (bytesF a0))))],[],304⟩ () ⟨rfl,(retO_gone [1] (retO_of [(0,0),(176,176)] [] 304 rfl (by kernel_rfl) (by kernel_rfl) ⟨dr,trivial,trivial⟩ ⟨⟨_,_,rfl,rfl,⟨rfl,rfl,(de_app dr de_bytes)⟩⟩,⟨_,_,rfl,rfl,⟨⟨rfl,rfl⟩,⟨rfl,rfl,(len_of (sz:=1) (e:=(D.int .u8)) (f:=(appF a1.length (cF (D.int .u8) a1) (bytesF a0))) (l:=(a1++bytesI a0)) (de_app dr de_bytes))⟩,trivial⟩⟩⟩))⟩)))))
noncomputable def m22o1 (a0:List UInt8) (a1:List Int):Option (Unit):=(d22o1 a0 a1).m
theorem po22o1 {a0:List UInt8} {a1:List Int} {r:Unit} (h:m22o1 a0 a1=some r):ObjF Tryz.prog 22 [(.ptr 0 0),(aS a0)] [(1,(.vec 5 1 a1.length (cF (D.int .u8) a1))),(0,(.cells [(.ptr 0 0),(.vec 1 1 a1.length)]))] [] (q22o1 a0 a1 r):=obj_jd (d22o1 a0 a1) Tryz.func22 h
noncomputable def q23o0 (a0:Int) (a1:List Int) (y:Unit):OF:=⟨.any,[(1,.gone),(176,(.vec 5 1 (a1++([a0]:List Int)).length (cF (D.int .u8) (a1++([a0]:List Int))))),(0,(.cells [(.ptr 0 0),(.vec 176 1 (a1++([a0]:List Int)).length)]))],[]⟩
noncomputable def o23o0_0 (a1:List Int) (x:Unit):OT:=⟨(.tup []),[0,1],[],[(1,(.vec 5 1 a1.length (cF (D.int .u8) a1))),(0,(.cells [(.ptr 0 0),(.vec 1 1 a1.length)]))],[]⟩
noncomputable def d23o0 (a0:Int) (a1:List Int):JO Tryz.prog Tryz.f23 [(.ptr 0 0),(.d (.int .u8 a0))] [(1,(.vec 5 1 a1.length (cF (D.int .u8) a1))),(0,(.cells [(.ptr 0 0),(.vec 1 1 a1.length)]))] [] (q23o0 a0 a1) :=
 (.sg [(1,⟨Unit,fun x=>[],fun x=>[(48,(o23o0_0 a1 x))],[]⟩),(2,⟨Unit,fun x=>[],fun x=>[],[177]⟩)] [(1,[0,4],[0,176])] (c3 (p:=fun x1=>ObjL Tryz.prog 55 [(.ptr 0 0)] [(0,some (.cells [(.ptr 0 0),(.vec 1 1 a1.length)])),(1,some (.vec 5 1 a1.length (cF (D.int .u8) a1)))] 48 (o23o0_0 a1 x1)) (fun x1 (h1:mcc1 a1=some _)=>ok (idn [0,1]) [] (idn [0,1]) [] (pocc1 h1)) fun x1=>(.exi (Unit) (if(a1.length+1) * 1≤140737488355328 then some ()else none) (fun x2=>(.p ((a1.length+1) * 1≤140737488355328) (.fin 0))) (by intro x2 h;obtain⟨h1,h⟩:=if_some h;cases h;exact⟨h1,trivial⟩) (fun x2 _=>(.ret .ret ⟨[(0,(.ptr 0 0)),(4,.any)],[(0,(.cells [(.ptr 0 0),(.vec 176 1 (a1.length+1))])),(176,(.vec 5 1 (a1.length+1) (appF a1.length (cF (D.int .u8) a1) (litF [(.int .u8 a0)]))))],[160],256⟩ () ⟨rfl,(retO_gone [1] (retO_of [(0,0),(176,176)] [] 256 rfl (by kernel_rfl) (by kernel_rfl) trivial ⟨⟨_,_,rfl,rfl,⟨rfl,rfl,(de_app dr (de_lit rfl rfl))⟩⟩,⟨_,_,rfl,rfl,⟨⟨rfl,rfl⟩,⟨rfl,rfl,(len_of (sz:=1) (e:=(D.int .u8)) (f:=(appF a1.length (cF (D.int .u8) a1) (litF [(.int .u8 a0)]))) (l:=(a1++([a0]:List Int))) (de_app dr (de_lit rfl rfl)))⟩,trivial⟩⟩⟩))⟩)))))
noncomputable def m23o0 (a0:Int) (a1:List Int):Option (Unit):=(d23o0 a0 a1).m
theorem po23o0 {a0:Int} {a1:List Int} {r:Unit} (h:m23o0 a0 a1=some r):ObjF Tryz.prog 23 [(.ptr 0 0),(.d (.int .u8 a0))] [(1,(.vec 5 1 a1.length (cF (D.int .u8) a1))),(0,(.cells [(.ptr 0 0),(.vec 1 1 a1.length)]))] [] (q23o0 a0 a1 r):=obj_jd (d23o0 a0 a1) Tryz.func23 h
noncomputable abbrev z21o0_0 (a1:List (List UInt8)):AV:=(.ap 1 a1.length (cF D.str a1) (.tok 0 9))
noncomputable def q21o0 (a0:List UInt8) (a1:List (List UInt8)) (y:(List Int)):OF:=⟨(.tup []),[(256,(.vec 5 1 y.length (cF (D.int .u8) y))),(0,(.cells [(.ptr 0 0),(.vec 256 1 y.length)]))],[0]⟩
noncomputable def o21o0_0 (a0:List UInt8) (x:Unit):OT:=⟨(.tup [(aI (a0.length:Int)),.any]),[0],[],[(32,(.vec 5 1 (bytesI a0).length (cF (D.int .u8) (bytesI a0)))),(0,(.cells [(.ptr 0 0),(.vec 32 1 (bytesI a0).length)]))],[]⟩
noncomputable def o21o0_1 (a1:List (List UInt8)) (s1:Int×(List Int)) (x:Unit):OT:=⟨(.tup [(aI ((([32]:List UInt8)++(a1.getD s1.1.toNat default)).length:Int)),.any]),[0,32],[],[(32,.gone),(336,(.vec 5 1 (s1.2++bytesI (([32]:List UInt8)++(a1.getD s1.1.toNat default))).length (cF (D.int .u8) (s1.2++bytesI (([32]:List UInt8)++(a1.getD s1.1.toNat default)))))),(0,(.cells [(.ptr 0 0),(.vec 336 1 (s1.2++bytesI (([32]:List UInt8)++(a1.getD s1.1.toNat default))).length)]))],[]⟩
noncomputable def o21o0_2 (y2:(List Int)) (x:Unit):OT:=⟨.any,[0,32],[],[(32,.gone),(256,(.vec 5 1 (y2++([(10:Int)]:List Int)).length (cF (D.int .u8) (y2++([(10:Int)]:List Int))))),(0,(.cells [(.ptr 0 0),(.vec 256 1 (y2++([(10:Int)]:List Int)).length)]))],[]⟩
noncomputable def d21o0 (a0:List UInt8) (a1:List (List UInt8)):JO Tryz.prog Tryz.f21 [(aS a0),(z21o0_0 a1),(.ptr 0 0)] [(0,(.bld0 63))] [0] (q21o0 a0 a1) :=
 (.sq 1 [(0,⟨Unit,fun x=>[],fun x=>[(32,(o21o0_0 a0 x))],[]⟩)] [(0,[1,2],[32,0])] (fun(_:Unit)=>⟨[(1,(z21o0_0 a1)),(2,(.ptr 0 0))],[(32,(.vec 5 1 (bytesI a0).length (cF (D.int .u8) (bytesI a0)))),(0,(.cells [(.ptr 0 0),(.vec 32 1 (bytesI a0).length)]))],[0],48⟩) (c3 (p:=fun x0=>ObjL Tryz.prog 22 [(.ptr 0 0),(aS a0)] [(0,some (.bld0 63))] 32 (o21o0_0 a0 x0)) (fun x0 (h1:m22o0 a0=some _)=>ok [(0,0)] [] [(0,0),(32,176)] [] (po22o0 h1)) fun x0=>(.nx ())) (fun _=>(.sc (fun(y2:(List Int))=>⟨[(1,(z21o0_0 a1)),(2,(.ptr 0 0))],[(32,(.vec 5 1 y2.length (cF (D.int .u8) y2))),(0,(.cells [(.ptr 0 0),(.vec 32 1 y2.length)]))],[0],256⟩) (.sq 1 [] [(0,[1,2,9,10,11],[32,0])] (fun(_:Unit)=>⟨[(1,(z21o0_0 a1)),(2,(.ptr 0 0)),(9,(z21o0_0 a1)),(10,(aI (a1.length:Int))),(11,(aI 0))],[(32,(.vec 5 1 (bytesI a0).length (cF (D.int .u8) (bytesI a0)))),(0,(.cells [(.ptr 0 0),(.vec 32 1 (bytesI a0).length)]))],[0],96⟩) (.nx ()) (fun _=>(.bk (.lp (fun(s1:Int×(List Int))=>⟨[(1,(z21o0_0 a1)),(2,(.ptr 0 0)),(9,(z21o0_0 a1)),(10,(aI (a1.length:Int))),(11,(aI s1.1))],[(32,(.vec 5 1 s1.2.length (cF (D.int .u8) s1.2))),(0,(.cells [(.ptr 0 0),(.vec 32 1 s1.2.length)]))],[0],240⟩) ((0:Int),(bytesI a0)) (wk (idn [0,32]) [(0,0)]) fun s1=>(.sg [(4,⟨Unit,fun x=>[],fun x=>[(336,(o21o0_1 a1 s1 x))],[]⟩)] [(0,[1,2,9,10,11],[0,336]),(2,[1,2],[32,0])] (.ite (decide (s1.1 < (a1.length:Int))) (nd (0≤s1.1) (nd (s1.1 < (a1.length:Int)) (.exi (Unit) (if([32]:List UInt8).length+(a1.getD s1.1.toNat default).length≤9223372036854775807 then((m22o1 (([32]:List UInt8)++(a1.getD s1.1.toNat default)) s1.2).bind fun r4_0=>some r4_0)else none) (fun x4=>(.p (([32]:List UInt8).length+(a1.getD s1.1.toNat default).length≤9223372036854775807) (.p (ObjL Tryz.prog 22 [(.ptr 0 0),(aS (([32]:List UInt8)++(a1.getD s1.1.toNat default)))] [(0,some (.cells [(.ptr 0 0),(.vec 32 1 s1.2.length)])),(32,some (.vec 5 1 s1.2.length (cF (D.int .u8) s1.2)))] 336 (o21o0_1 a1 s1 x4)) (.fin 0)))) (by intro x4 h;obtain⟨h1,h⟩:=if_some h;obtain⟨r4_0,h2,h⟩:=Option.bind_eq_some_iff.1 h;cases h;exact⟨h1,ok [(0,0),(1,32)] [] [(0,0),(32,1),(336,176)] [] (po22o1 h2),trivial⟩) (fun x4 _=>(.ret .normal ⟨[(1,(z21o0_0 a1)),(2,(.ptr 0 0)),(9,(z21o0_0 a1)),(10,(aI (a1.length:Int))),(11,(aI (IntKind.wrap .i64 (s1.1+1))))],[(0,(.cells [(.ptr 0 0),(.vec 336 1 (s1.2++bytesI (([32]:List UInt8)++(a1.getD s1.1.toNat default))).length)])),(336,(.vec 5 1 (s1.2++bytesI (([32]:List UInt8)++(a1.getD s1.1.toNat default))).length (cF (D.int .u8) (s1.2++bytesI (([32]:List UInt8)++(a1.getD s1.1.toNat default))))))],[0],384⟩ (.inl ((IntKind.wrap .i64 (s1.1+1)),(s1.2++bytesI (([32]:List UInt8)++(a1.getD s1.1.toNat default))))) ⟨rfl,(wk [(0,0),(32,336)] [(0,0)])⟩))))) (.ret (.exit 0) _ (.inr (.inl s1.2)) ⟨rfl,rfl,Weak.refl _⟩))))))) fun y2=>(.sg [(6,⟨Unit,fun x=>[],fun x=>[(256,(o21o0_2 y2 x))],[]⟩)] [(0,[1,2],[0,256])] (c3 (p:=fun x6=>ObjL Tryz.prog 23 [(.ptr 0 0),(.d (.int .u8 10))] [(0,some (.cells [(.ptr 0 0),(.vec 32 1 y2.length)])),(32,some (.vec 5 1 y2.length (cF (D.int .u8) y2)))] 256 (o21o0_2 y2 x6)) (fun x6 (h1:m23o0 (10:Int) y2=some _)=>ok [(0,0),(1,32)] [] [(0,0),(32,1),(256,176)] [] (po23o0 h1)) fun x6=>(.ret .normal ⟨[(1,(z21o0_0 a1)),(2,(.ptr 0 0))],[(0,(.cells [(.ptr 0 0),(.vec 256 1 (y2++([(10:Int)]:List Int)).length)])),(256,(.vec 5 1 (y2++([(10:Int)]:List Int)).length (cF (D.int .u8) (y2++([(10:Int)]:List Int)))))],[0],272⟩ (y2++([(10:Int)]:List Int)) ⟨rfl,(rk (idn [0,256]) [(0,0)] 272)⟩))))))
noncomputable def m21o0 (a0:List UInt8) (a1:List (List UInt8)):Option ((List Int)):=(d21o0 a0 a1).m
theorem po21o0 {a0:List UInt8} {a1:List (List UInt8)} {r:(List Int)} (h:m21o0 a0 a1=some r):ObjF Tryz.prog 21 [(aS a0),(z21o0_0 a1),(.ptr 0 0)] [(0,(.bld0 63))] [0] (q21o0 a0 a1 r):=obj_jd (d21o0 a0 a1) Tryz.func21 h
noncomputable abbrev z21o1_0 (a1:List (List UInt8)):AV:=(.ap 1 a1.length (cF D.str a1) (.tok 0 9))
noncomputable def q21o1 (a0:List UInt8) (a1:List (List UInt8)) (a2:List Int) (y:(List Int)):OF:=⟨(.tup []),[(1,.gone),(256,(.vec 5 1 y.length (cF (D.int .u8) y))),(0,(.cells [(.ptr 0 0),(.vec 256 1 y.length)]))],[0]⟩
noncomputable def o21o1_0 (a0:List UInt8) (a2:List Int) (x:Unit):OT:=⟨(.tup [(aI (a0.length:Int)),.any]),[0,1],[],[(1,.gone),(32,(.vec 5 1 (a2++bytesI a0).length (cF (D.int .u8) (a2++bytesI a0)))),(0,(.cells [(.ptr 0 0),(.vec 32 1 (a2++bytesI a0).length)]))],[]⟩
noncomputable def o21o1_1 (a1:List (List UInt8)) (s1:Int×(List Int)) (x:Unit):OT:=⟨(.tup [(aI ((([32]:List UInt8)++(a1.getD s1.1.toNat default)).length:Int)),.any]),[0,32],[],[(32,.gone),(336,(.vec 5 1 (s1.2++bytesI (([32]:List UInt8)++(a1.getD s1.1.toNat default))).length (cF (D.int .u8) (s1.2++bytesI (([32]:List UInt8)++(a1.getD s1.1.toNat default)))))),(0,(.cells [(.ptr 0 0),(.vec 336 1 (s1.2++bytesI (([32]:List UInt8)++(a1.getD s1.1.toNat default))).length)]))],[]⟩
noncomputable def o21o1_2 (y2:(List Int)) (x:Unit):OT:=⟨.any,[0,32],[],[(32,.gone),(256,(.vec 5 1 (y2++([(10:Int)]:List Int)).length (cF (D.int .u8) (y2++([(10:Int)]:List Int))))),(0,(.cells [(.ptr 0 0),(.vec 256 1 (y2++([(10:Int)]:List Int)).length)]))],[]⟩
noncomputable def d21o1 (a0:List UInt8) (a1:List (List UInt8)) (a2:List Int):JO Tryz.prog Tryz.f21 [(aS a0),(z21o1_0 a1),(.ptr 0 0)] [(1,(.vec 5 1 a2.length (cF (D.int .u8) a2))),(0,(.cells [(.ptr 0 0),(.vec 1 1 a2.length)]))] [0] (q21o1 a0 a1 a2) :=
 (.sq 1 [(0,⟨Unit,fun x=>[],fun x=>[(32,(o21o1_0 a0 a2 x))],[]⟩)] [(0,[1,2],[32,0])] (fun(_:Unit)=>⟨[(1,(z21o1_0 a1)),(2,(.ptr 0 0))],[(32,(.vec 5 1 (a2++bytesI a0).length (cF (D.int .u8) (a2++bytesI a0)))),(0,(.cells [(.ptr 0 0),(.vec 32 1 (a2++bytesI a0).length)]))],[0],48⟩) (c3 (p:=fun x0=>ObjL Tryz.prog 22 [(.ptr 0 0),(aS a0)] [(0,some (.cells [(.ptr 0 0),(.vec 1 1 a2.length)])),(1,some (.vec 5 1 a2.length (cF (D.int .u8) a2)))] 32 (o21o1_0 a0 a2 x0)) (fun x0 (h1:m22o1 a0 a2=some _)=>ok (idn [0,1]) [] [(0,0),(1,1),(32,176)] [] (po22o1 h1)) fun x0=>(.nx ())) (fun _=>(.sc (fun(y2:(List Int))=>⟨[(1,(z21o1_0 a1)),(2,(.ptr 0 0))],[(32,(.vec 5 1 y2.length (cF (D.int .u8) y2))),(0,(.cells [(.ptr 0 0),(.vec 32 1 y2.length)]))],[0],256⟩) (.sq 1 [] [(0,[1,2,9,10,11],[32,0])] (fun(_:Unit)=>⟨[(1,(z21o1_0 a1)),(2,(.ptr 0 0)),(9,(z21o1_0 a1)),(10,(aI (a1.length:Int))),(11,(aI 0))],[(32,(.vec 5 1 (a2++bytesI a0).length (cF (D.int .u8) (a2++bytesI a0)))),(0,(.cells [(.ptr 0 0),(.vec 32 1 (a2++bytesI a0).length)]))],[0],96⟩) (.nx ()) (fun _=>(.bk (.lp (fun(s1:Int×(List Int))=>⟨[(1,(z21o1_0 a1)),(2,(.ptr 0 0)),(9,(z21o1_0 a1)),(10,(aI (a1.length:Int))),(11,(aI s1.1))],[(32,(.vec 5 1 s1.2.length (cF (D.int .u8) s1.2))),(0,(.cells [(.ptr 0 0),(.vec 32 1 s1.2.length)]))],[0],240⟩) ((0:Int),(a2++bytesI a0)) (wk (idn [0,32]) [(0,0)]) fun s1=>(.sg [(4,⟨Unit,fun x=>[],fun x=>[(336,(o21o1_1 a1 s1 x))],[]⟩)] [(0,[1,2,9,10,11],[0,336]),(2,[1,2],[32,0])] (.ite (decide (s1.1 < (a1.length:Int))) (nd (0≤s1.1) (nd (s1.1 < (a1.length:Int)) (.exi (Unit) (if([32]:List UInt8).length+(a1.getD s1.1.toNat default).length≤9223372036854775807 then((m22o1 (([32]:List UInt8)++(a1.getD s1.1.toNat default)) s1.2).bind fun r4_0=>some r4_0)else none) (fun x4=>(.p (([32]:List UInt8).length+(a1.getD s1.1.toNat default).length≤9223372036854775807) (.p (ObjL Tryz.prog 22 [(.ptr 0 0),(aS (([32]:List UInt8)++(a1.getD s1.1.toNat default)))] [(0,some (.cells [(.ptr 0 0),(.vec 32 1 s1.2.length)])),(32,some (.vec 5 1 s1.2.length (cF (D.int .u8) s1.2)))] 336 (o21o1_1 a1 s1 x4)) (.fin 0)))) (by intro x4 h;obtain⟨h1,h⟩:=if_some h;obtain⟨r4_0,h2,h⟩:=Option.bind_eq_some_iff.1 h;cases h;exact⟨h1,ok [(0,0),(1,32)] [] [(0,0),(32,1),(336,176)] [] (po22o1 h2),trivial⟩) (fun x4 _=>(.ret .normal ⟨[(1,(z21o1_0 a1)),(2,(.ptr 0 0)),(9,(z21o1_0 a1)),(10,(aI (a1.length:Int))),(11,(aI (IntKind.wrap .i64 (s1.1+1))))],[(0,(.cells [(.ptr 0 0),(.vec 336 1 (s1.2++bytesI (([32]:List UInt8)++(a1.getD s1.1.toNat default))).length)])),(336,(.vec 5 1 (s1.2++bytesI (([32]:List UInt8)++(a1.getD s1.1.toNat default))).length (cF (D.int .u8) (s1.2++bytesI (([32]:List UInt8)++(a1.getD s1.1.toNat default))))))],[0],384⟩ (.inl ((IntKind.wrap .i64 (s1.1+1)),(s1.2++bytesI (([32]:List UInt8)++(a1.getD s1.1.toNat default))))) ⟨rfl,(wk [(0,0),(32,336)] [(0,0)])⟩))))) (.ret (.exit 0) _ (.inr (.inl s1.2)) ⟨rfl,rfl,Weak.refl _⟩))))))) fun y2=>(.sg [(6,⟨Unit,fun x=>[],fun x=>[(256,(o21o1_2 y2 x))],[]⟩)] [(0,[1,2],[0,256])] (c3 (p:=fun x6=>ObjL Tryz.prog 23 [(.ptr 0 0),(.d (.int .u8 10))] [(0,some (.cells [(.ptr 0 0),(.vec 32 1 y2.length)])),(32,some (.vec 5 1 y2.length (cF (D.int .u8) y2)))] 256 (o21o1_2 y2 x6)) (fun x6 (h1:m23o0 (10:Int) y2=some _)=>ok [(0,0),(1,32)] [] [(0,0),(32,1),(256,176)] [] (po23o0 h1)) fun x6=>(.ret .normal ⟨[(1,(z21o1_0 a1)),(2,(.ptr 0 0))],[(0,(.cells [(.ptr 0 0),(.vec 256 1 (y2++([(10:Int)]:List Int)).length)])),(256,(.vec 5 1 (y2++([(10:Int)]:List Int)).length (cF (D.int .u8) (y2++([(10:Int)]:List Int)))))],[0],272⟩ (y2++([(10:Int)]:List Int)) ⟨rfl,(retO_gone [1] (rk (idn [0,256]) [(0,0)] 272))⟩))))))
noncomputable def m21o1 (a0:List UInt8) (a1:List (List UInt8)) (a2:List Int):Option ((List Int)):=(d21o1 a0 a1 a2).m
theorem po21o1 {a0:List UInt8} {a1:List (List UInt8)} {a2:List Int} {r:(List Int)} (h:m21o1 a0 a1 a2=some r):ObjF Tryz.prog 21 [(aS a0),(z21o1_0 a1),(.ptr 0 0)] [(1,(.vec 5 1 a2.length (cF (D.int .u8) a2))),(0,(.cells [(.ptr 0 0),(.vec 1 1 a2.length)]))] [0] (q21o1 a0 a1 a2 r):=obj_jd (d21o1 a0 a1 a2) Tryz.func21 h
noncomputable def d26 (a0:T27) (a1:List T118):JF Tryz.prog Tryz.f26 [(e27 a0),(eSl 2 e118 a1)] (fun(r:(List (List UInt8)))=>(eSl 1 D.str r)) :=
 (.sq 2 [] [(0,[1,2,5],[16])] (fun(_:Unit)=>⟨[(1,(.d (eSl 2 e118 a1))),(2,(.ptr 16 0)),(5,aN)],[(16,(.cells (g27 a0)))],[],64⟩) (.nx ()) (fun _=>(.sc (fun(y2:(List (List UInt8)))=>⟨[(5,(.ap 1 y2.length (cF D.str y2) (.tok 432 9)))],[],[432],512⟩) (.sq 1 [] [(0,[2,5,9,10,11],[16])] (fun(_:Unit)=>⟨[(2,(.ptr 16 0)),(5,aN),(9,(.d (eSl 2 e118 a1))),(10,(aI (a1.length:Int))),(11,(aI 0))],[(16,(.cells (g27 a0)))],[],112⟩) (.nx ()) (fun _=>(.bk (.lp (fun(s1:(List (List UInt8))×Int)=>⟨[(2,(.ptr 16 0)),(5,(.ap 1 s1.1.length (cF D.str s1.1) (.tok 432 9))),(9,(.d (eSl 2 e118 a1))),(10,(aI (a1.length:Int))),(11,(aI s1.2))],[(16,(.cells (g27 a0)))],[432],496⟩) ([],(0:Int)) (wk [(16,16)] []) fun s1=>(.sg [] [(0,[2,5,9,10,11],[16]),(2,[5],[])] (.ite (decide (s1.2 < (a1.length:Int))) (nd (0≤s1.2) (nd (s1.2 < (a1.length:Int)) (nd (0≤(a1.getD s1.2.toNat default).Cond) (nd ((a1.getD s1.2.toNat default).Cond < (a0.Conds.length:Int)) (.ite (a1.getD s1.2.toNat default).Neg (nd (([33]:List UInt8).length+(a0.Conds.getD (a1.getD s1.2.toNat default).Cond.toNat default).length≤9223372036854775807) (nd ((s1.1.length+1) * 16≤140737488355328) (.ret .normal ⟨[(2,(.ptr 16 0)),(5,(.ap 1 (s1.1.length+1) (appF s1.1.length (cF D.str s1.1) (litF [(.str (([33]:List UInt8)++(a0.Conds.getD (a1.getD s1.2.toNat default).Cond.toNat default)))])) (.tok 816 9))),(9,(.d (eSl 2 e118 a1))),(10,(aI (a1.length:Int))),(11,(aI (IntKind.wrap .i64 (s1.2+1))))],[(16,(.cells (g27 a0)))],[816,800],880⟩ (.inl ((s1.1++([(([33]:List UInt8)++(a0.Conds.getD (a1.getD s1.2.toNat default).Cond.toNat default))]:List (List UInt8))),(IntKind.wrap .i64 (s1.2+1)))) ⟨rfl,(wh [(16,16)] [(432,816)] ⟨⟨rfl,rfl⟩,⟨rfl,rfl,rfl,(de_app dr (de_lit rfl rfl))⟩,dr,dr,dr⟩)⟩))) (nd ((s1.1.length+1) * 16≤140737488355328) (.ret .normal ⟨[(2,(.ptr 16 0)),(5,(.ap 1 (s1.1.length+1) (appF s1.1.length (cF D.str s1.1) (litF [(.str (a0.Conds.getD (a1.getD s1.2.toNat default).Cond.toNat default))])) (.tok 768 9))),(9,(.d (eSl 2 e118 a1))),(10,(aI (a1.length:Int))),(11,(aI (IntKind.wrap .i64 (s1.2+1))))],[(16,(.cells (g27 a0)))],[768,752],832⟩ (.inl ((s1.1++([(a0.Conds.getD (a1.getD s1.2.toNat default).Cond.toNat default)]:List (List UInt8))),(IntKind.wrap .i64 (s1.2+1)))) ⟨rfl,(wh [(16,16)] [(432,768)] ⟨⟨rfl,rfl⟩,⟨rfl,rfl,rfl,(de_app dr (de_lit rfl rfl))⟩,dr,dr,dr⟩)⟩))))))) (.ret (.exit 0) _ (.inr (.inl s1.1)) ⟨rfl,rfl,Weak.refl _⟩))))))) fun y2=>(.sg [] [(1,[4],[])] (.ret .ret ⟨[(4,(.ap 1 y2.length (cF D.str y2) (.tok 432 9)))],[],[432],544⟩ y2 ⟨rfl,_,Weak.refl _,dr⟩)))))
noncomputable def m26 (a0:T27) (a1:List T118):Option ((List (List UInt8))):=(d26 a0 a1).m
theorem p26 {a0:T27} {a1:List T118} {r:(List (List UInt8))} (h:m26 a0 a1=some r):PureAt Tryz.prog 26 [(e27 a0),(eSl 2 e118 a1)] (eSl 1 D.str r):=pure_jd (d26 a0 a1) Tryz.func26 h
noncomputable def q21o2 (a0:List UInt8) (a1:List (List UInt8)) (a2:List Int) (y:(List Int)):OF:=⟨(.tup []),[(1,.gone),(256,(.vec 5 1 y.length (cF (D.int .u8) y))),(0,(.cells [(.ptr 0 0),(.vec 256 1 y.length)]))],[]⟩
noncomputable def o21o2_0 (a0:List UInt8) (a2:List Int) (x:Unit):OT:=⟨(.tup [(aI (a0.length:Int)),.any]),[0,1],[],[(1,.gone),(32,(.vec 5 1 (a2++bytesI a0).length (cF (D.int .u8) (a2++bytesI a0)))),(0,(.cells [(.ptr 0 0),(.vec 32 1 (a2++bytesI a0).length)]))],[]⟩
noncomputable def o21o2_1 (a1:List (List UInt8)) (s1:Int×(List Int)) (x:Unit):OT:=⟨(.tup [(aI ((([32]:List UInt8)++(a1.getD s1.1.toNat default)).length:Int)),.any]),[0,32],[],[(32,.gone),(336,(.vec 5 1 (s1.2++bytesI (([32]:List UInt8)++(a1.getD s1.1.toNat default))).length (cF (D.int .u8) (s1.2++bytesI (([32]:List UInt8)++(a1.getD s1.1.toNat default)))))),(0,(.cells [(.ptr 0 0),(.vec 336 1 (s1.2++bytesI (([32]:List UInt8)++(a1.getD s1.1.toNat default))).length)]))],[]⟩
noncomputable def o21o2_2 (y2:(List Int)) (x:Unit):OT:=⟨.any,[0,32],[],[(32,.gone),(256,(.vec 5 1 (y2++([(10:Int)]:List Int)).length (cF (D.int .u8) (y2++([(10:Int)]:List Int))))),(0,(.cells [(.ptr 0 0),(.vec 256 1 (y2++([(10:Int)]:List Int)).length)]))],[]⟩
noncomputable def d21o2 (a0:List UInt8) (a1:List (List UInt8)) (a2:List Int):JO Tryz.prog Tryz.f21 [(aS a0),(.d (eSl 1 D.str a1)),(.ptr 0 0)] [(1,(.vec 5 1 a2.length (cF (D.int .u8) a2))),(0,(.cells [(.ptr 0 0),(.vec 1 1 a2.length)]))] [] (q21o2 a0 a1 a2) :=
 (.sq 1 [(0,⟨Unit,fun x=>[],fun x=>[(32,(o21o2_0 a0 a2 x))],[]⟩)] [(0,[1,2],[32,0])] (fun(_:Unit)=>⟨[(1,(.d (eSl 1 D.str a1))),(2,(.ptr 0 0))],[(32,(.vec 5 1 (a2++bytesI a0).length (cF (D.int .u8) (a2++bytesI a0)))),(0,(.cells [(.ptr 0 0),(.vec 32 1 (a2++bytesI a0).length)]))],[],48⟩) (c3 (p:=fun x0=>ObjL Tryz.prog 22 [(.ptr 0 0),(aS a0)] [(0,some (.cells [(.ptr 0 0),(.vec 1 1 a2.length)])),(1,some (.vec 5 1 a2.length (cF (D.int .u8) a2)))] 32 (o21o2_0 a0 a2 x0)) (fun x0 (h1:m22o1 a0 a2=some _)=>ok (idn [0,1]) [] [(0,0),(1,1),(32,176)] [] (po22o1 h1)) fun x0=>(.nx ())) (fun _=>(.sc (fun(y2:(List Int))=>⟨[(2,(.ptr 0 0))],[(32,(.vec 5 1 y2.length (cF (D.int .u8) y2))),(0,(.cells [(.ptr 0 0),(.vec 32 1 y2.length)]))],[],256⟩) (.sq 1 [] [(0,[2,9,10,11],[32,0])] (fun(_:Unit)=>⟨[(2,(.ptr 0 0)),(9,(.d (eSl 1 D.str a1))),(10,(aI (a1.length:Int))),(11,(aI 0))],[(32,(.vec 5 1 (a2++bytesI a0).length (cF (D.int .u8) (a2++bytesI a0)))),(0,(.cells [(.ptr 0 0),(.vec 32 1 (a2++bytesI a0).length)]))],[],96⟩) (.nx ()) (fun _=>(.bk (.lp (fun(s1:Int×(List Int))=>⟨[(2,(.ptr 0 0)),(9,(.d (eSl 1 D.str a1))),(10,(aI (a1.length:Int))),(11,(aI s1.1))],[(32,(.vec 5 1 s1.2.length (cF (D.int .u8) s1.2))),(0,(.cells [(.ptr 0 0),(.vec 32 1 s1.2.length)]))],[],240⟩) ((0:Int),(a2++bytesI a0)) (wk (idn [0,32]) []) fun s1=>(.sg [(4,⟨Unit,fun x=>[],fun x=>[(336,(o21o2_1 a1 s1 x))],[]⟩)] [(0,[2,9,10,11],[0,336]),(2,[2],[32,0])] (.ite (decide (s1.1 < (a1.length:Int))) (nd (0≤s1.1) (nd (s1.1 < (a1.length:Int)) (.exi (Unit) (if([32]:List UInt8).length+(a1.getD s1.1.toNat default).length≤9223372036854775807 then((m22o1 (([32]:List UInt8)++(a1.getD s1.1.toNat default)) s1.2).bind fun r4_0=>some r4_0)else none) (fun x4=>(.p (([32]:List UInt8).length+(a1.getD s1.1.toNat default).length≤9223372036854775807) (.p (ObjL Tryz.prog 22 [(.ptr 0 0),(aS (([32]:List UInt8)++(a1.getD s1.1.toNat default)))] [(0,some (.cells [(.ptr 0 0),(.vec 32 1 s1.2.length)])),(32,some (.vec 5 1 s1.2.length (cF (D.int .u8) s1.2)))] 336 (o21o2_1 a1 s1 x4)) (.fin 0)))) (by intro x4 h;obtain⟨h1,h⟩:=if_some h;obtain⟨r4_0,h2,h⟩:=Option.bind_eq_some_iff.1 h;cases h;exact⟨h1,ok [(0,0),(1,32)] [] [(0,0),(32,1),(336,176)] [] (po22o1 h2),trivial⟩) (fun x4 _=>(.ret .normal ⟨[(2,(.ptr 0 0)),(9,(.d (eSl 1 D.str a1))),(10,(aI (a1.length:Int))),(11,(aI (IntKind.wrap .i64 (s1.1+1))))],[(0,(.cells [(.ptr 0 0),(.vec 336 1 (s1.2++bytesI (([32]:List UInt8)++(a1.getD s1.1.toNat default))).length)])),(336,(.vec 5 1 (s1.2++bytesI (([32]:List UInt8)++(a1.getD s1.1.toNat default))).length (cF (D.int .u8) (s1.2++bytesI (([32]:List UInt8)++(a1.getD s1.1.toNat default))))))],[],384⟩ (.inl ((IntKind.wrap .i64 (s1.1+1)),(s1.2++bytesI (([32]:List UInt8)++(a1.getD s1.1.toNat default))))) ⟨rfl,(wk [(0,0),(32,336)] [])⟩))))) (.ret (.exit 0) _ (.inr (.inl s1.2)) ⟨rfl,rfl,Weak.refl _⟩))))))) fun y2=>(.sg [(6,⟨Unit,fun x=>[],fun x=>[(256,(o21o2_2 y2 x))],[]⟩)] [(0,[2],[0,256])] (c3 (p:=fun x6=>ObjL Tryz.prog 23 [(.ptr 0 0),(.d (.int .u8 10))] [(0,some (.cells [(.ptr 0 0),(.vec 32 1 y2.length)])),(32,some (.vec 5 1 y2.length (cF (D.int .u8) y2)))] 256 (o21o2_2 y2 x6)) (fun x6 (h1:m23o0 (10:Int) y2=some _)=>ok [(0,0),(1,32)] [] [(0,0),(32,1),(256,176)] [] (po23o0 h1)) fun x6=>(.ret .normal ⟨[(2,(.ptr 0 0))],[(0,(.cells [(.ptr 0 0),(.vec 256 1 (y2++([(10:Int)]:List Int)).length)])),(256,(.vec 5 1 (y2++([(10:Int)]:List Int)).length (cF (D.int .u8) (y2++([(10:Int)]:List Int)))))],[],272⟩ (y2++([(10:Int)]:List Int)) ⟨rfl,(retO_gone [1] (rk (idn [0,256]) [] 272))⟩))))))
noncomputable def m21o2 (a0:List UInt8) (a1:List (List UInt8)) (a2:List Int):Option ((List Int)):=(d21o2 a0 a1 a2).m
theorem po21o2 {a0:List UInt8} {a1:List (List UInt8)} {a2:List Int} {r:(List Int)} (h:m21o2 a0 a1 a2=some r):ObjF Tryz.prog 21 [(aS a0),(.d (eSl 1 D.str a1)),(.ptr 0 0)] [(1,(.vec 5 1 a2.length (cF (D.int .u8) a2))),(0,(.cells [(.ptr 0 0),(.vec 1 1 a2.length)]))] [] (q21o2 a0 a1 a2 r):=obj_jd (d21o2 a0 a1 a2) Tryz.func21 h
noncomputable def q24o0 (a0:List UInt8) (a1:List (List UInt8)) (a2:List Int) (y:(List Int)):OF:=⟨(.tup []),[(2,.gone),(0,(.cells [(.fn 21 [(.ptr 1 0)])])),(112,(.vec 5 1 y.length (cF (D.int .u8) y))),(1,(.cells [(.ptr 1 0),(.vec 112 1 y.length)]))],[]⟩
noncomputable def o24o0_0 (x:(List Int)):OT:=⟨(.tup []),[1,2],[],[(2,.gone),(112,(.vec 5 1 x.length (cF (D.int .u8) x))),(1,(.cells [(.ptr 1 0),(.vec 112 1 x.length)]))],[]⟩
noncomputable def d24o0 (a0:List UInt8) (a1:List (List UInt8)) (a2:List Int):JO Tryz.prog Tryz.f24 [(aS a0),(.d (eSl 1 D.str a1)),(.ptr 0 0)] [(0,(.cells [(.fn 21 [(.ptr 1 0)])])),(2,(.vec 5 1 a2.length (cF (D.int .u8) a2))),(1,(.cells [(.ptr 1 0),(.vec 2 1 a2.length)]))] [] (q24o0 a0 a1 a2) :=
 (.sg [(1,⟨(List Int),fun x=>[],fun x=>[(112,(o24o0_0 x))],[]⟩)] [(0,[2],[0,1,112,2])] (.ite (decide (0 < (a1.length:Int))) (c3 (p:=fun x1=>ObjL Tryz.prog 21 [(aS a0),(.d (eSl 1 D.str a1)),(.ptr 1 0)] [(1,some (.cells [(.ptr 1 0),(.vec 2 1 a2.length)])),(2,some (.vec 5 1 a2.length (cF (D.int .u8) a2)))] 112 (o24o0_0 x1)) (fun x1 (h1:m21o2 a0 a1 a2=some _)=>ok [(0,1),(1,2)] [] [(1,0),(2,1),(112,256)] [] (po21o2 h1)) fun x1=>(.ret .normal ⟨[(2,(.ptr 0 0))],[(0,(.cells [(.fn 21 [(.ptr 1 0)])])),(1,(.cells [(.ptr 1 0),(.vec 112 1 x1.length)])),(112,(.vec 5 1 x1.length (cF (D.int .u8) x1))),(2,.gone)],[],128⟩ x1 ⟨rfl,(retO_gone [2] (rk (idn [0,1,112]) [] 128))⟩)) (.ret .normal ⟨[(2,(.ptr 0 0))],[(0,(.cells [(.fn 21 [(.ptr 1 0)])])),(1,(.cells [(.ptr 1 0),(.vec 2 1 a2.length)])),(2,(.vec 5 1 a2.length (cF (D.int .u8) a2)))],[],64⟩ a2 ⟨rfl,(retO_gone [2] (rk [(0,0),(1,1),(112,2)] [] 128))⟩)))
noncomputable def m24o0 (a0:List UInt8) (a1:List (List UInt8)) (a2:List Int):Option ((List Int)):=(d24o0 a0 a1 a2).m
theorem po24o0 {a0:List UInt8} {a1:List (List UInt8)} {a2:List Int} {r:(List Int)} (h:m24o0 a0 a1 a2=some r):ObjF Tryz.prog 24 [(aS a0),(.d (eSl 1 D.str a1)),(.ptr 0 0)] [(0,(.cells [(.fn 21 [(.ptr 1 0)])])),(2,(.vec 5 1 a2.length (cF (D.int .u8) a2))),(1,(.cells [(.ptr 1 0),(.vec 2 1 a2.length)]))] [] (q24o0 a0 a1 a2 r):=obj_jd (d24o0 a0 a1 a2) Tryz.func24 h
noncomputable abbrev z7_0:Ob:=(.cells [(.fn 21 [(.ptr 144 0)])])
noncomputable abbrev z7_1:List (Nat×AV):=[(1,(.ptr 16 0)),(5,(.ptr 144 0)),(6,(.ptr 176 0)),(7,(.fn 24 [(.ptr 176 0)]))]
noncomputable abbrev z7_2 (a0:T27) (s6:Int×(List Int)):List (Nat×AV):=[(1,(.ptr 16 0)),(5,(.ptr 144 0)),(6,(.ptr 176 0)),(7,(.fn 24 [(.ptr 176 0)])),(59,(.d (eSl 6 e56 a0.States))),(60,(aI (a0.States.length:Int))),(61,(aI (IntKind.wrap .i64 (s6.1+1))))]
noncomputable abbrev z7_3 (a0:T27) (y1:(List Int)):List (Nat×Ob):=[(16,(.cells (g27 a0))),(368,(.vec 5 1 y1.length (cF (D.int .u8) y1))),(144,(.cells [(.ptr 144 0),(.vec 368 1 y1.length)])),(176,z7_0)]
noncomputable abbrev z7_4 (a0:T27) (y3:(List Int)):List (Nat×Ob):=[(16,(.cells (g27 a0))),(368,(.vec 5 1 y3.length (cF (D.int .u8) y3))),(144,(.cells [(.ptr 144 0),(.vec 368 1 y3.length)])),(176,z7_0)]
noncomputable abbrev z7_5 (a0:T27) (y5:(List Int)):List (Nat×Ob):=[(16,(.cells (g27 a0))),(368,(.vec 5 1 y5.length (cF (D.int .u8) y5))),(144,(.cells [(.ptr 144 0),(.vec 368 1 y5.length)])),(176,z7_0)]
noncomputable abbrev z7_6 (a0:T27) (y7:(List Int)):List (Nat×Ob):=[(16,(.cells (g27 a0))),(368,(.vec 5 1 y7.length (cF (D.int .u8) y7))),(144,(.cells [(.ptr 144 0),(.vec 368 1 y7.length)])),(176,z7_0)]
noncomputable def o7_0 (x:(List UInt8)×(List Int)):OT:=⟨(.tup []),[144],[352],[(368,(.vec 5 1 x.2.length (cF (D.int .u8) x.2))),(144,(.cells [(.ptr 144 0),(.vec 368 1 x.2.length)]))],[368]⟩
noncomputable def o7_1 (x:(List Int)):OT:=⟨(.tup []),[144,368],[704],[(368,.gone),(720,(.vec 5 1 x.length (cF (D.int .u8) x))),(144,(.cells [(.ptr 144 0),(.vec 720 1 x.length)]))],[720]⟩
noncomputable def o7_2 (x:(List (List UInt8))×(List Int)):OT:=⟨(.tup []),[144,368],[],[(368,.gone),(992,(.vec 5 1 x.2.length (cF (D.int .u8) x.2))),(144,(.cells [(.ptr 144 0),(.vec 992 1 x.2.length)]))],[]⟩
noncomputable def o7_3 (x:(List Int)):OT:=⟨(.tup []),[144,368],[1856],[(368,.gone),(1920,(.vec 5 1 x.length (cF (D.int .u8) x))),(144,(.cells [(.ptr 144 0),(.vec 1920 1 x.length)]))],[1920]⟩
noncomputable def o7_4 (x:(List Int)):OT:=⟨(.tup []),[176,144,1920],[],[(1920,.gone),(176,z7_0),(1984,(.vec 5 1 x.length (cF (D.int .u8) x))),(144,(.cells [(.ptr 144 0),(.vec 1984 1 x.length)]))],[]⟩
noncomputable def o7_5 (x:(List Int)):OT:=⟨(.tup []),[176,144,1984],[],[(1984,.gone),(176,z7_0),(2048,(.vec 5 1 x.length (cF (D.int .u8) x))),(144,(.cells [(.ptr 144 0),(.vec 2048 1 x.length)]))],[]⟩
noncomputable def o7_6 (x:(List Int)):OT:=⟨(.tup []),[144,368],[1760],[(368,.gone),(1856,(.vec 5 1 x.length (cF (D.int .u8) x))),(144,(.cells [(.ptr 144 0),(.vec 1856 1 x.length)]))],[1856]⟩
noncomputable def o7_7 (x:(List Int)):OT:=⟨(.tup []),[176,144,1856],[],[(1856,.gone),(176,z7_0),(1920,(.vec 5 1 x.length (cF (D.int .u8) x))),(144,(.cells [(.ptr 144 0),(.vec 1920 1 x.length)]))],[]⟩
noncomputable def o7_8 (x:(List UInt8)×(List UInt8)×(List Int)):OT:=⟨(.tup []),[144,368],[2272],[(368,.gone),(2288,(.vec 5 1 x.2.2.length (cF (D.int .u8) x.2.2))),(144,(.cells [(.ptr 144 0),(.vec 2288 1 x.2.2.length)]))],[2288]⟩
noncomputable def o7_9 (x:(List (List UInt8))×(List Int)):OT:=⟨(.tup []),[176,144,2288],[],[(2288,.gone),(176,z7_0),(2384,(.vec 5 1 x.2.length (cF (D.int .u8) x.2))),(144,(.cells [(.ptr 144 0),(.vec 2384 1 x.2.length)]))],[]⟩
noncomputable def o7_10 (x:(List Int)):OT:=⟨(.tup []),[176,144,2384],[],[(2384,.gone),(176,z7_0),(2448,(.vec 5 1 x.length (cF (D.int .u8) x))),(144,(.cells [(.ptr 144 0),(.vec 2448 1 x.length)]))],[]⟩
noncomputable def o7_11 (x:(List UInt8)):OT:=⟨(aS x),[144,368],[],[(368,.gone),(144,(.cells [(.ptr 144 0),.any]))],[]⟩
noncomputable def d7 (a0:T27):JF Tryz.prog Tryz.f7 [(e27 a0)] (fun(r:(List UInt8)×Int)=>(.tup [(.str r.1),(dI r.2)])) :=
 (.sq 6 [(1,tm1 18 dI),(7,⟨(List UInt8)×(List Int),fun x=>[(30,(.str x.1))],fun x=>[(368,(o7_0 x))],[]⟩)] [(1,[2,3],[]),(0,[1,5,6,7],[16,368,144,176])] (fun(y1:(List Int))=>⟨z7_1,(z7_3 a0 y1),[],384⟩) (c3 (@p20 a0) fun x1=>(.ite (x1 != 0) (.ret .ret ⟨[(2,(aS ([]:List UInt8))),(3,(aI x1))],[],[],192⟩ (.inr ((([]:List UInt8),x1))) ⟨rfl,rfl,_,Weak.refl _,⟨dr,dr,trivial⟩⟩) (.exi ((List UInt8)×(List Int)) ((m25 a0 a0.Start).bind fun r7_0=>((m21o0 ([67,72,65,82,84]:List UInt8) ([a0.Name,r7_0]:List (List UInt8))).bind fun r7_1=>some (r7_0,r7_1))) (fun x7=>(.p (PureAt Tryz.prog 25 [(e27 a0),(dI a0.Start)] (.str x7.1)) (.p (ObjL Tryz.prog 21 [(aS ([67,72,65,82,84]:List UInt8)),(.ap 1 2 (litF [(.str a0.Name),(.str x7.1)]) (.tok 352 9)),(.ptr 144 0)] [(144,some (.bld0 63))] 368 (o7_0 x7)) (.fin 0)))) (by intro x7 h;obtain⟨r7_0,h1,h⟩:=Option.bind_eq_some_iff.1 h;obtain⟨r7_1,h2,h⟩:=Option.bind_eq_some_iff.1 h;cases h;exact⟨p25 h1,objL_of (po21o0 h2) [(0,144)] [(0,352)] [(144,0),(368,256)] [(368,0)] (by kernel_rfl) ⟨dr,⟨rfl,rfl,rfl,(de_lit rfl rfl)⟩,⟨rfl,rfl⟩,trivial⟩ ⟨_,_,rfl,rfl,rfl⟩ (by kernel_rfl) trivial ⟨⟨_,_,rfl,rfl,⟨rfl,rfl,dr⟩⟩,⟨_,_,rfl,rfl,⟨⟨rfl,rfl⟩,⟨rfl,rfl,rfl⟩,trivial⟩⟩⟩,trivial⟩) (fun x7 _=>(.ret .normal ⟨z7_1,[(16,(.cells (g27 a0))),(368,(.vec 5 1 x7.2.length (cF (D.int .u8) x7.2))),(144,(.cells [(.ptr 144 0),(.vec 368 1 x7.2.length)])),(176,z7_0)],[368],384⟩ (.inl x7.2) ⟨rfl,(wk (idn [16,144,176,368]) [])⟩))))) (fun y1=>(.sc (fun(y3:(List Int))=>⟨z7_1,(z7_4 a0 y3),[],624⟩) (.sq 1 [] [(0,[1,5,6,7,34,35,36],[16,368,144,176])] (fun(_:Unit)=>⟨[(1,(.ptr 16 0)),(5,(.ptr 144 0)),(6,(.ptr 176 0)),(7,(.fn 24 [(.ptr 176 0)])),(34,(.d (eSl 1 D.str a0.Conds))),(35,(aI (a0.Conds.length:Int))),(36,(aI 0))],(z7_3 a0 y1),[],448⟩) (.nx ()) (fun _=>(.bk (.lp (fun(s2:Int×(List Int))=>⟨[(1,(.ptr 16 0)),(5,(.ptr 144 0)),(6,(.ptr 176 0)),(7,(.fn 24 [(.ptr 176 0)])),(34,(.d (eSl 1 D.str a0.Conds))),(35,(aI (a0.Conds.length:Int))),(36,(aI s2.1))],[(16,(.cells (g27 a0))),(368,(.vec 5 1 s2.2.length (cF (D.int .u8) s2.2))),(144,(.cells [(.ptr 144 0),(.vec 368 1 s2.2.length)])),(176,z7_0)],[],608⟩) ((0:Int),y1) (wk (idn [16,144,176,368]) []) fun s2=>(.sg [(11,⟨(List Int),fun x=>[],fun x=>[(720,(o7_1 x))],[]⟩)] [(0,[1,5,6,7,34,35,36],[16,144,720,176]),(2,[1,5,6,7],[16,368,144,176])] (.ite (decide (s2.1 < (a0.Conds.length:Int))) (nd (0≤s2.1) (nd (s2.1 < (a0.Conds.length:Int)) (c3 (p:=fun x11=>ObjL Tryz.prog 21 [(aS ([67,79,78,68,73,84,73,79,78]:List UInt8)),(.ap 1 1 (litF [(.str (a0.Conds.getD s2.1.toNat default))]) (.tok 704 9)),(.ptr 144 0)] [(144,some (.cells [(.ptr 144 0),(.vec 368 1 s2.2.length)])),(368,some (.vec 5 1 s2.2.length (cF (D.int .u8) s2.2)))] 720 (o7_1 x11)) (fun x11 (h1:m21o1 ([67,79,78,68,73,84,73,79,78]:List UInt8) ([(a0.Conds.getD s2.1.toNat default)]:List (List UInt8)) s2.2=some _)=>objL_of (po21o1 h1) [(0,144),(1,368)] [(0,704)] [(144,0),(368,1),(720,256)] [(720,0)] (by kernel_rfl) ⟨dr,⟨rfl,rfl,rfl,(de_lit rfl rfl)⟩,⟨rfl,rfl⟩,trivial⟩ ⟨⟨_,_,rfl,rfl,⟨rfl,rfl,dr⟩⟩,⟨_,_,rfl,rfl,⟨⟨rfl,rfl⟩,⟨rfl,rfl,rfl⟩,trivial⟩⟩⟩ (by kernel_rfl) trivial ⟨⟨_,_,rfl,rfl,trivial⟩,⟨_,_,rfl,rfl,⟨rfl,rfl,dr⟩⟩,⟨_,_,rfl,rfl,⟨⟨rfl,rfl⟩,⟨rfl,rfl,rfl⟩,trivial⟩⟩⟩) fun x11=>(.ret .normal ⟨[(1,(.ptr 16 0)),(5,(.ptr 144 0)),(6,(.ptr 176 0)),(7,(.fn 24 [(.ptr 176 0)])),(34,(.d (eSl 1 D.str a0.Conds))),(35,(aI (a0.Conds.length:Int))),(36,(aI (IntKind.wrap .i64 (s2.1+1))))],[(16,(.cells (g27 a0))),(144,(.cells [(.ptr 144 0),(.vec 720 1 x11.length)])),(720,(.vec 5 1 x11.length (cF (D.int .u8) x11))),(176,z7_0)],[720],768⟩ (.inl ((IntKind.wrap .i64 (s2.1+1)),x11)) ⟨rfl,(wk [(16,16),(144,144),(176,176),(368,720)] [])⟩)))) (.ret (.exit 0) _ (.inr (.inl s2.2)) ⟨rfl,rfl,Weak.refl _⟩))))))) fun y3=>(.sc (fun(y5:(List Int))=>⟨z7_1,(z7_5 a0 y5),[],880⟩) (.sq 1 [] [(0,[1,5,6,7,46,47,48],[16,368,144,176])] (fun(_:Unit)=>⟨[(1,(.ptr 16 0)),(5,(.ptr 144 0)),(6,(.ptr 176 0)),(7,(.fn 24 [(.ptr 176 0)])),(46,(.d (eSl 1 (eSl 2 e118) a0.Never))),(47,(aI (a0.Never.length:Int))),(48,(aI 0))],(z7_4 a0 y3),[],688⟩) (.nx ()) (fun _=>(.bk (.lp (fun(s4:Int×(List Int))=>⟨[(1,(.ptr 16 0)),(5,(.ptr 144 0)),(6,(.ptr 176 0)),(7,(.fn 24 [(.ptr 176 0)])),(46,(.d (eSl 1 (eSl 2 e118) a0.Never))),(47,(aI (a0.Never.length:Int))),(48,(aI s4.1))],[(16,(.cells (g27 a0))),(368,(.vec 5 1 s4.2.length (cF (D.int .u8) s4.2))),(144,(.cells [(.ptr 144 0),(.vec 368 1 s4.2.length)])),(176,z7_0)],[],864⟩) ((0:Int),y3) (wk (idn [16,144,176,368]) []) fun s4=>(.sg [(16,⟨(List (List UInt8))×(List Int),fun x=>[(55,(eSl 1 D.str x.1))],fun x=>[(992,(o7_2 x))],[]⟩)] [(0,[1,5,6,7,46,47,48],[16,144,992,176]),(4,[1,5,6,7],[16,368,144,176])] (.ite (decide (s4.1 < (a0.Never.length:Int))) (nd (0≤s4.1) (nd (s4.1 < (a0.Never.length:Int)) (.exi ((List (List UInt8))×(List Int)) ((m26 a0 (a0.Never.getD s4.1.toNat default)).bind fun r16_0=>((m21o2 ([78,69,86,69,82]:List UInt8) r16_0 s4.2).bind fun r16_1=>some (r16_0,r16_1))) (fun x16=>(.p (PureAt Tryz.prog 26 [(e27 a0),(eSl 2 e118 (a0.Never.getD s4.1.toNat default))] (eSl 1 D.str x16.1)) (.p (ObjL Tryz.prog 21 [(aS ([78,69,86,69,82]:List UInt8)),(.d (eSl 1 D.str x16.1)),(.ptr 144 0)] [(144,some (.cells [(.ptr 144 0),(.vec 368 1 s4.2.length)])),(368,some (.vec 5 1 s4.2.length (cF (D.int .u8) s4.2)))] 992 (o7_2 x16)) (.fin 0)))) (by intro x16 h;obtain⟨r16_0,h1,h⟩:=Option.bind_eq_some_iff.1 h;obtain⟨r16_1,h2,h⟩:=Option.bind_eq_some_iff.1 h;cases h;exact⟨p26 h1,ok [(0,144),(1,368)] [] [(144,0),(368,1),(992,256)] [] (po21o2 h2),trivial⟩) (fun x16 _=>(.ret .normal ⟨[(1,(.ptr 16 0)),(5,(.ptr 144 0)),(6,(.ptr 176 0)),(7,(.fn 24 [(.ptr 176 0)])),(46,(.d (eSl 1 (eSl 2 e118) a0.Never))),(47,(aI (a0.Never.length:Int))),(48,(aI (IntKind.wrap .i64 (s4.1+1))))],[(16,(.cells (g27 a0))),(144,(.cells [(.ptr 144 0),(.vec 992 1 x16.2.length)])),(992,(.vec 5 1 x16.2.length (cF (D.int .u8) x16.2))),(176,z7_0)],[],1040⟩ (.inl ((IntKind.wrap .i64 (s4.1+1)),x16.2)) ⟨rfl,(wk [(16,16),(144,144),(176,176),(368,992)] [])⟩))))) (.ret (.exit 2) _ (.inr (.inl s4.2)) ⟨rfl,rfl,Weak.refl _⟩))))))) fun y5=>(.sc (fun(y7:(List Int))=>⟨z7_1,(z7_6 a0 y7),[],1536⟩) (.sq 1 [] [(0,[1,5,6,7,59,60,61],[16,368,144,176])] (fun(_:Unit)=>⟨[(1,(.ptr 16 0)),(5,(.ptr 144 0)),(6,(.ptr 176 0)),(7,(.fn 24 [(.ptr 176 0)])),(59,(.d (eSl 6 e56 a0.States))),(60,(aI (a0.States.length:Int))),(61,(aI 0))],(z7_5 a0 y5),[],944⟩) (.nx ()) (fun _=>(.bk (.lp (fun(s6:Int×(List Int))=>⟨[(1,(.ptr 16 0)),(5,(.ptr 144 0)),(6,(.ptr 176 0)),(7,(.fn 24 [(.ptr 176 0)])),(59,(.d (eSl 6 e56 a0.States))),(60,(aI (a0.States.length:Int))),(61,(aI s6.1))],[(16,(.cells (g27 a0))),(368,(.vec 5 1 s6.2.length (cF (D.int .u8) s6.2))),(144,(.cells [(.ptr 144 0),(.vec 368 1 s6.2.length)])),(176,z7_0)],[],1520⟩) ((0:Int),y5) (wk (idn [16,144,176,368]) []) fun s6=>(.sg [(21,⟨(List UInt8)×(List UInt8),fun x=>[(70,(.str x.1)),(74,(.str x.2))],fun x=>[],[]⟩),(24,⟨(List Int),fun x=>[],fun x=>[(1920,(o7_3 x)),(1856,(o7_6 x))],[]⟩),(25,⟨(List Int),fun x=>[],fun x=>[(1984,(o7_4 x)),(1920,(o7_7 x))],[]⟩),(26,⟨(List Int),fun x=>[],fun x=>[(2048,(o7_5 x)),(1984,(o7_4 x))],[]⟩)] [(0,[1,5,6,7,59,60,61],[16,144,2048,176,1984]),(6,[1,5,6,7],[16,368,144,176])] (.ite (decide (s6.1 < (a0.States.length:Int))) (nd (0≤s6.1) (nd (s6.1 < (a0.States.length:Int)) (.exi ((List UInt8)×(List UInt8)) ((m25 a0 (a0.States.getD s6.1.toNat default).Parent).bind fun r21_0=>((m25 a0 (a0.States.getD s6.1.toNat default).Initial).bind fun r21_1=>some (r21_0,r21_1))) (fun x21=>(.p (PureAt Tryz.prog 25 [(e27 a0),(dI (a0.States.getD s6.1.toNat default).Parent)] (.str x21.1)) (.p (PureAt Tryz.prog 25 [(e27 a0),(dI (a0.States.getD s6.1.toNat default).Initial)] (.str x21.2)) (.fin 0)))) (by intro x21 h;obtain⟨r21_0,h1,h⟩:=Option.bind_eq_some_iff.1 h;obtain⟨r21_1,h2,h⟩:=Option.bind_eq_some_iff.1 h;cases h;exact⟨p25 h1,p25 h2,trivial⟩) (fun x21 _=>(.ite (a0.States.getD s6.1.toNat default).History (nd ((3+1) * 16≤140737488355328) (c3 (p:=fun x24=>ObjL Tryz.prog 21 [(aS ([83,84,65,84,69]:List UInt8)),(.ap 1 (3+1) (appF 3 (litF [(.str (a0.States.getD s6.1.toNat default).Name),(.str x21.1),(.str x21.2)]) (litF [(.str ([72,73,83,84,79,82,89]:List UInt8))])) (.tok 1856 9)),(.ptr 144 0)] [(144,some (.cells [(.ptr 144 0),(.vec 368 1 s6.2.length)])),(368,some (.vec 5 1 s6.2.length (cF (D.int .u8) s6.2)))] 1920 (o7_3 x24)) (fun x24 (h1:m21o1 ([83,84,65,84,69]:List UInt8) (([(a0.States.getD s6.1.toNat default).Name,x21.1,x21.2]:List (List UInt8))++([([72,73,83,84,79,82,89]:List UInt8)]:List (List UInt8))) s6.2=some _)=>objL_of (po21o1 h1) [(0,144),(1,368)] [(0,1856)] [(144,0),(368,1),(1920,256)] [(1920,0)] (by kernel_rfl) ⟨dr,⟨rfl,rfl,rfl,(de_app (de_lit rfl rfl) (de_lit rfl rfl))⟩,⟨rfl,rfl⟩,trivial⟩ ⟨⟨_,_,rfl,rfl,⟨rfl,rfl,dr⟩⟩,⟨_,_,rfl,rfl,⟨⟨rfl,rfl⟩,⟨rfl,rfl,rfl⟩,trivial⟩⟩⟩ (by kernel_rfl) trivial ⟨⟨_,_,rfl,rfl,trivial⟩,⟨_,_,rfl,rfl,⟨rfl,rfl,dr⟩⟩,⟨_,_,rfl,rfl,⟨⟨rfl,rfl⟩,⟨rfl,rfl,rfl⟩,trivial⟩⟩⟩) fun x24=>(c3 (p:=fun x25=>ObjL Tryz.prog 24 [(aS ([69,78,84,82,89]:List UInt8)),(.d (eSl 1 D.str (a0.States.getD s6.1.toNat default).Entry)),(.ptr 176 0)] [(176,some z7_0),(144,some (.cells [(.ptr 144 0),(.vec 1920 1 x24.length)])),(1920,some (.vec 5 1 x24.length (cF (D.int .u8) x24)))] 1984 (o7_4 x25)) (fun x25 (h1:m24o0 ([69,78,84,82,89]:List UInt8) (a0.States.getD s6.1.toNat default).Entry x24=some _)=>ok [(0,176),(1,144),(2,1920)] [] [(176,0),(144,1),(1920,2),(1984,112)] [] (po24o0 h1)) fun x25=>(c3 (p:=fun x26=>ObjL Tryz.prog 24 [(aS ([69,88,73,84]:List UInt8)),(.d (eSl 1 D.str (a0.States.getD s6.1.toNat default).Exit)),(.ptr 176 0)] [(176,some z7_0),(144,some (.cells [(.ptr 144 0),(.vec 1984 1 x25.length)])),(1984,some (.vec 5 1 x25.length (cF (D.int .u8) x25)))] 2048 (o7_5 x26)) (fun x26 (h1:m24o0 ([69,88,73,84]:List UInt8) (a0.States.getD s6.1.toNat default).Exit x25=some _)=>ok [(0,176),(1,144),(2,1984)] [] [(176,0),(144,1),(1984,2),(2048,112)] [] (po24o0 h1)) fun x26=>(.ret .normal ⟨(z7_2 a0 s6),[(16,(.cells (g27 a0))),(144,(.cells [(.ptr 144 0),(.vec 2048 1 x26.length)])),(2048,(.vec 5 1 x26.length (cF (D.int .u8) x26))),(176,z7_0),(1984,.gone)],[1920,1840],2096⟩ (.inl ((IntKind.wrap .i64 (s6.1+1)),x26)) ⟨rfl,(wk [(16,16),(144,144),(176,176),(368,2048)] [])⟩))))) (c3 (p:=fun x24=>ObjL Tryz.prog 21 [(aS ([83,84,65,84,69]:List UInt8)),(.ap 1 3 (litF [(.str (a0.States.getD s6.1.toNat default).Name),(.str x21.1),(.str x21.2)]) (.tok 1760 9)),(.ptr 144 0)] [(144,some (.cells [(.ptr 144 0),(.vec 368 1 s6.2.length)])),(368,some (.vec 5 1 s6.2.length (cF (D.int .u8) s6.2)))] 1856 (o7_6 x24)) (fun x24 (h1:m21o1 ([83,84,65,84,69]:List UInt8) ([(a0.States.getD s6.1.toNat default).Name,x21.1,x21.2]:List (List UInt8)) s6.2=some _)=>objL_of (po21o1 h1) [(0,144),(1,368)] [(0,1760)] [(144,0),(368,1),(1856,256)] [(1856,0)] (by kernel_rfl) ⟨dr,⟨rfl,rfl,rfl,(de_lit rfl rfl)⟩,⟨rfl,rfl⟩,trivial⟩ ⟨⟨_,_,rfl,rfl,⟨rfl,rfl,dr⟩⟩,⟨_,_,rfl,rfl,⟨⟨rfl,rfl⟩,⟨rfl,rfl,rfl⟩,trivial⟩⟩⟩ (by kernel_rfl) trivial ⟨⟨_,_,rfl,rfl,trivial⟩,⟨_,_,rfl,rfl,⟨rfl,rfl,dr⟩⟩,⟨_,_,rfl,rfl,⟨⟨rfl,rfl⟩,⟨rfl,rfl,rfl⟩,trivial⟩⟩⟩) fun x24=>(c3 (p:=fun x25=>ObjL Tryz.prog 24 [(aS ([69,78,84,82,89]:List UInt8)),(.d (eSl 1 D.str (a0.States.getD s6.1.toNat default).Entry)),(.ptr 176 0)] [(176,some z7_0),(144,some (.cells [(.ptr 144 0),(.vec 1856 1 x24.length)])),(1856,some (.vec 5 1 x24.length (cF (D.int .u8) x24)))] 1920 (o7_7 x25)) (fun x25 (h1:m24o0 ([69,78,84,82,89]:List UInt8) (a0.States.getD s6.1.toNat default).Entry x24=some _)=>ok [(0,176),(1,144),(2,1856)] [] [(176,0),(144,1),(1856,2),(1920,112)] [] (po24o0 h1)) fun x25=>(c3 (p:=fun x26=>ObjL Tryz.prog 24 [(aS ([69,88,73,84]:List UInt8)),(.d (eSl 1 D.str (a0.States.getD s6.1.toNat default).Exit)),(.ptr 176 0)] [(176,some z7_0),(144,some (.cells [(.ptr 144 0),(.vec 1920 1 x25.length)])),(1920,some (.vec 5 1 x25.length (cF (D.int .u8) x25)))] 1984 (o7_4 x26)) (fun x26 (h1:m24o0 ([69,88,73,84]:List UInt8) (a0.States.getD s6.1.toNat default).Exit x25=some _)=>ok [(0,176),(1,144),(2,1920)] [] [(176,0),(144,1),(1920,2),(1984,112)] [] (po24o0 h1)) fun x26=>(.ret .normal ⟨(z7_2 a0 s6),[(16,(.cells (g27 a0))),(144,(.cells [(.ptr 144 0),(.vec 1984 1 x26.length)])),(176,z7_0),(1984,(.vec 5 1 x26.length (cF (D.int .u8) x26)))],[1856],2032⟩ (.inl ((IntKind.wrap .i64 (s6.1+1)),x26)) ⟨rfl,(wk [(16,16),(144,144),(176,176),(368,1984)] [])⟩))))))))) (.ret (.exit 4) _ (.inr (.inl s6.2)) ⟨rfl,rfl,Weak.refl _⟩))))))) fun y7=>(.sc (fun(y9:(List Int))=>⟨[(5,(.ptr 144 0))],[(368,(.vec 5 1 y9.length (cF (D.int .u8) y9))),(144,(.cells [(.ptr 144 0),(.vec 368 1 y9.length)]))],[],2064⟩) (.sq 1 [] [(0,[1,5,6,7,94,95,96],[16,368,144,176])] (fun(_:Unit)=>⟨[(1,(.ptr 16 0)),(5,(.ptr 144 0)),(6,(.ptr 176 0)),(7,(.fn 24 [(.ptr 176 0)])),(94,(.d (eSl 4 e58 a0.Transitions))),(95,(aI (a0.Transitions.length:Int))),(96,(aI 0))],(z7_6 a0 y7),[],1600⟩) (.nx ()) (fun _=>(.bk (.lp (fun(s8:Int×(List Int))=>⟨[(1,(.ptr 16 0)),(5,(.ptr 144 0)),(6,(.ptr 176 0)),(7,(.fn 24 [(.ptr 176 0)])),(94,(.d (eSl 4 e58 a0.Transitions))),(95,(aI (a0.Transitions.length:Int))),(96,(aI s8.1))],[(16,(.cells (g27 a0))),(368,(.vec 5 1 s8.2.length (cF (D.int .u8) s8.2))),(144,(.cells [(.ptr 144 0),(.vec 368 1 s8.2.length)])),(176,z7_0)],[],2048⟩) ((0:Int),y7) (wk (idn [16,144,176,368]) []) fun s8=>(.sg [(31,⟨(List UInt8)×(List UInt8)×(List Int),fun x=>[(104,(.str x.1)),(108,(.str x.2.1))],fun x=>[(2288,(o7_8 x))],[]⟩),(32,⟨(List (List UInt8))×(List Int),fun x=>[(115,(eSl 1 D.str x.1))],fun x=>[(2384,(o7_9 x))],[]⟩),(33,⟨(List Int),fun x=>[],fun x=>[(2448,(o7_10 x))],[]⟩)] [(0,[1,5,6,7,94,95,96],[16,144,2448,176]),(8,[5],[368,144])] (.ite (decide (s8.1 < (a0.Transitions.length:Int))) (nd (0≤s8.1) (nd (s8.1 < (a0.Transitions.length:Int)) (.exi ((List UInt8)×(List UInt8)×(List Int)) ((m25 a0 (a0.Transitions.getD s8.1.toNat default).From).bind fun r31_0=>((m25 a0 (a0.Transitions.getD s8.1.toNat default).To).bind fun r31_1=>((m21o1 ([84,82,65,78,83,73,84,73,79,78]:List UInt8) ([r31_0,r31_1]:List (List UInt8)) s8.2).bind fun r31_2=>some (r31_0,r31_1,r31_2)))) (fun x31=>(.p (PureAt Tryz.prog 25 [(e27 a0),(dI (a0.Transitions.getD s8.1.toNat default).From)] (.str x31.1)) (.p (PureAt Tryz.prog 25 [(e27 a0),(dI (a0.Transitions.getD s8.1.toNat default).To)] (.str x31.2.1)) (.p (ObjL Tryz.prog 21 [(aS ([84,82,65,78,83,73,84,73,79,78]:List UInt8)),(.ap 1 2 (litF [(.str x31.1),(.str x31.2.1)]) (.tok 2272 9)),(.ptr 144 0)] [(144,some (.cells [(.ptr 144 0),(.vec 368 1 s8.2.length)])),(368,some (.vec 5 1 s8.2.length (cF (D.int .u8) s8.2)))] 2288 (o7_8 x31)) (.fin 0))))) (by intro x31 h;obtain⟨r31_0,h1,h⟩:=Option.bind_eq_some_iff.1 h;obtain⟨r31_1,h2,h⟩:=Option.bind_eq_some_iff.1 h;obtain⟨r31_2,h3,h⟩:=Option.bind_eq_some_iff.1 h;cases h;exact⟨p25 h1,p25 h2,objL_of (po21o1 h3) [(0,144),(1,368)] [(0,2272)] [(144,0),(368,1),(2288,256)] [(2288,0)] (by kernel_rfl) ⟨dr,⟨rfl,rfl,rfl,(de_lit rfl rfl)⟩,⟨rfl,rfl⟩,trivial⟩ ⟨⟨_,_,rfl,rfl,⟨rfl,rfl,dr⟩⟩,⟨_,_,rfl,rfl,⟨⟨rfl,rfl⟩,⟨rfl,rfl,rfl⟩,trivial⟩⟩⟩ (by kernel_rfl) trivial ⟨⟨_,_,rfl,rfl,trivial⟩,⟨_,_,rfl,rfl,⟨rfl,rfl,dr⟩⟩,⟨_,_,rfl,rfl,⟨⟨rfl,rfl⟩,⟨rfl,rfl,rfl⟩,trivial⟩⟩⟩,trivial⟩) (fun x31 _=>(.exi ((List (List UInt8))×(List Int)) ((m26 a0 (a0.Transitions.getD s8.1.toNat default).When).bind fun r32_0=>((m24o0 ([87,72,69,78]:List UInt8) r32_0 x31.2.2).bind fun r32_1=>some (r32_0,r32_1))) (fun x32=>(.p (PureAt Tryz.prog 26 [(e27 a0),(eSl 2 e118 (a0.Transitions.getD s8.1.toNat default).When)] (eSl 1 D.str x32.1)) (.p (ObjL Tryz.prog 24 [(aS ([87,72,69,78]:List UInt8)),(.d (eSl 1 D.str x32.1)),(.ptr 176 0)] [(176,some z7_0),(144,some (.cells [(.ptr 144 0),(.vec 2288 1 x31.2.2.length)])),(2288,some (.vec 5 1 x31.2.2.length (cF (D.int .u8) x31.2.2)))] 2384 (o7_9 x32)) (.fin 0)))) (by intro x32 h;obtain⟨r32_0,h1,h⟩:=Option.bind_eq_some_iff.1 h;obtain⟨r32_1,h2,h⟩:=Option.bind_eq_some_iff.1 h;cases h;exact⟨p26 h1,ok [(0,176),(1,144),(2,2288)] [] [(176,0),(144,1),(2288,2),(2384,112)] [] (po24o0 h2),trivial⟩) (fun x32 _=>(c3 (p:=fun x33=>ObjL Tryz.prog 24 [(aS ([68,79]:List UInt8)),(.d (eSl 1 D.str (a0.Transitions.getD s8.1.toNat default).Actions)),(.ptr 176 0)] [(176,some z7_0),(144,some (.cells [(.ptr 144 0),(.vec 2384 1 x32.2.length)])),(2384,some (.vec 5 1 x32.2.length (cF (D.int .u8) x32.2)))] 2448 (o7_10 x33)) (fun x33 (h1:m24o0 ([68,79]:List UInt8) (a0.Transitions.getD s8.1.toNat default).Actions x32.2=some _)=>ok [(0,176),(1,144),(2,2384)] [] [(176,0),(144,1),(2384,2),(2448,112)] [] (po24o0 h1)) fun x33=>(.ret .normal ⟨[(1,(.ptr 16 0)),(5,(.ptr 144 0)),(6,(.ptr 176 0)),(7,(.fn 24 [(.ptr 176 0)])),(94,(.d (eSl 4 e58 a0.Transitions))),(95,(aI (a0.Transitions.length:Int))),(96,(aI (IntKind.wrap .i64 (s8.1+1))))],[(16,(.cells (g27 a0))),(144,(.cells [(.ptr 144 0),(.vec 2448 1 x33.length)])),(2448,(.vec 5 1 x33.length (cF (D.int .u8) x33))),(176,z7_0)],[2288],2496⟩ (.inl ((IntKind.wrap .i64 (s8.1+1)),x33)) ⟨rfl,(wk [(16,16),(144,144),(176,176),(368,2448)] [])⟩)))))))) (.ret (.exit 6) _ (.inr (.inl s8.2)) ⟨rfl,rfl,Weak.refl _⟩))))))) fun y9=>(.sg [(35,⟨(List UInt8),fun x=>[],fun x=>[(2064,(o7_11 x))],[]⟩)] [(1,[2,3],[])] (c3 (p:=fun x35=>ObjL Tryz.prog 27 [(.ptr 144 0)] [(144,some (.cells [(.ptr 144 0),(.vec 368 1 y9.length)])),(368,some (.vec 5 1 y9.length (cF (D.int .u8) y9)))] 2064 (o7_11 x35)) (fun x35 (h1:mbs1 y9=some _)=>ok [(0,144),(1,368)] [] [(144,0),(368,1)] [] (pobs1 h1)) fun x35=>(.ret .ret ⟨[(2,(aS x35)),(3,(aI 0))],[],[],2112⟩ (x35,(0:Int)) ⟨rfl,_,Weak.refl _,⟨dr,dr,trivial⟩⟩)))))))))
noncomputable def m7 (a0:T27):Option ((List UInt8)×Int):=(d7 a0).m
theorem p7 {a0:T27} {r:(List UInt8)×Int} (h:m7 a0=some r):PureAt Tryz.prog 7 [(e27 a0)] (.tup [(.str r.1),(dI r.2)]):=pure_jd (d7 a0) Tryz.func7 h
noncomputable def d16 (a0 a1:List Int):JF Tryz.prog Tryz.f16 [(eSl 1 dI a0),(eSl 1 dI a1)] (fun(r:Bool)=>(.bool r)) :=
 (.sq 2 [] [(1,[4],[]),(0,[0,1],[])] (fun(_:Unit)=>⟨[(0,(.d (eSl 1 dI a0))),(1,(.d (eSl 1 dI a1)))],[],[],112⟩) (.ite ((a0.length:Int) != (a1.length:Int)) (.ret .ret ⟨[(4,(aB false))],[],[],128⟩ (.inr (false)) ⟨rfl,rfl,_,Weak.refl _,dr⟩) (.nx ())) (fun _=>(.sc (fun(_:Unit)=>⟨[],[],[],400⟩) (.sq 1 [] [(0,[0,1,12,13],[])] (fun(_:Unit)=>⟨[(0,(.d (eSl 1 dI a0))),(1,(.d (eSl 1 dI a1))),(12,(aI (a0.length:Int))),(13,(aI 0))],[],[],160⟩) (.nx ()) (fun _=>(.bk (.lp (fun(s1:Int)=>⟨[(0,(.d (eSl 1 dI a0))),(1,(.d (eSl 1 dI a1))),(12,(aI (a0.length:Int))),(13,(aI s1))],[],[],384⟩) (0:Int) (wk [] []) fun s1=>(.sg [] [(1,[4],[]),(0,[0,1,12,13],[]),(2,[],[])] (.ite (decide (s1 < (a0.length:Int))) (nd (0≤s1) (nd (s1 < (a0.length:Int)) (nd (0≤s1) (nd (s1 < (a1.length:Int)) (.ite ((a0.getD s1.toNat default) != (a1.getD s1.toNat default)) (.ret .ret ⟨[(4,(aB false))],[],[],592⟩ (.inr (.inr (false))) ⟨rfl,rfl,rfl,_,Weak.refl _,dr⟩) (.ret .normal ⟨[(0,(.d (eSl 1 dI a0))),(1,(.d (eSl 1 dI a1))),(12,(aI (a0.length:Int))),(13,(aI (IntKind.wrap .i64 (s1+1))))],[],[],608⟩ (.inl (IntKind.wrap .i64 (s1+1))) ⟨rfl,(wk [] [])⟩)))))) (.ret (.exit 0) _ (.inr (.inl ())) ⟨rfl,rfl,Weak.refl _⟩))))))) fun _=>(.sg [] [(1,[4],[])] (.ret .ret ⟨[(4,(aB true))],[],[],416⟩ true ⟨rfl,_,Weak.refl _,dr⟩)))))
noncomputable def m16 (a0 a1:List Int):Option (Bool):=(d16 a0 a1).m
theorem p16 {a0:List Int} {a1:List Int} {r:Bool} (h:m16 a0 a1=some r):PureAt Tryz.prog 16 [(eSl 1 dI a0),(eSl 1 dI a1)] (.bool r):=pure_jd (d16 a0 a1) Tryz.func16 h
noncomputable def d17 (a0 a1:List (List UInt8)):JF Tryz.prog Tryz.f17 [(eSl 1 D.str a0),(eSl 1 D.str a1)] (fun(r:Bool)=>(.bool r)) :=
 (.sq 2 [] [(1,[4],[]),(0,[0,1],[])] (fun(_:Unit)=>⟨[(0,(.d (eSl 1 D.str a0))),(1,(.d (eSl 1 D.str a1)))],[],[],112⟩) (.ite ((a0.length:Int) != (a1.length:Int)) (.ret .ret ⟨[(4,(aB false))],[],[],128⟩ (.inr (false)) ⟨rfl,rfl,_,Weak.refl _,dr⟩) (.nx ())) (fun _=>(.sc (fun(_:Unit)=>⟨[],[],[],400⟩) (.sq 1 [] [(0,[0,1,12,13],[])] (fun(_:Unit)=>⟨[(0,(.d (eSl 1 D.str a0))),(1,(.d (eSl 1 D.str a1))),(12,(aI (a0.length:Int))),(13,(aI 0))],[],[],160⟩) (.nx ()) (fun _=>(.bk (.lp (fun(s1:Int)=>⟨[(0,(.d (eSl 1 D.str a0))),(1,(.d (eSl 1 D.str a1))),(12,(aI (a0.length:Int))),(13,(aI s1))],[],[],384⟩) (0:Int) (wk [] []) fun s1=>(.sg [] [(1,[4],[]),(0,[0,1,12,13],[]),(2,[],[])] (.ite (decide (s1 < (a0.length:Int))) (nd (0≤s1) (nd (s1 < (a0.length:Int)) (nd (0≤s1) (nd (s1 < (a1.length:Int)) (.ite ((a0.getD s1.toNat default) != (a1.getD s1.toNat default)) (.ret .ret ⟨[(4,(aB false))],[],[],592⟩ (.inr (.inr (false))) ⟨rfl,rfl,rfl,_,Weak.refl _,dr⟩) (.ret .normal ⟨[(0,(.d (eSl 1 D.str a0))),(1,(.d (eSl 1 D.str a1))),(12,(aI (a0.length:Int))),(13,(aI (IntKind.wrap .i64 (s1+1))))],[],[],608⟩ (.inl (IntKind.wrap .i64 (s1+1))) ⟨rfl,(wk [] [])⟩)))))) (.ret (.exit 0) _ (.inr (.inl ())) ⟨rfl,rfl,Weak.refl _⟩))))))) fun _=>(.sg [] [(1,[4],[])] (.ret .ret ⟨[(4,(aB true))],[],[],416⟩ true ⟨rfl,_,Weak.refl _,dr⟩)))))
noncomputable def m17 (a0 a1:List (List UInt8)):Option (Bool):=(d17 a0 a1).m
theorem p17 {a0:List (List UInt8)} {a1:List (List UInt8)} {r:Bool} (h:m17 a0 a1=some r):PureAt Tryz.prog 17 [(eSl 1 D.str a0),(eSl 1 D.str a1)] (.bool r):=pure_jd (d17 a0 a1) Tryz.func17 h
noncomputable def d5:JF Tryz.prog Tryz.f5 [] (fun(r:Bool)=>(.bool r)) :=
 (.sg [(1,tm1 9 (fun(x:(T27×(List T80)))=>(.tup [(e27 x.1),(eSl 3 e80 x.2)]))),(2,tm1 15 (fun(x:((List Int)×(List (List UInt8))×Int))=>(.tup [(eSl 1 dI x.1),(eSl 1 D.str x.2.1),(dI x.2.2)]))),(3,tm1 21 (fun(x:((List UInt8)×Int))=>(.tup [(.str x.1),(dI x.2)]))),(4,⟨Bool×Bool×(List Int)×Bool×Bool,fun x=>[(30,(.bool x.1)),(35,(.bool x.2.1)),(51,(eSl 1 dI x.2.2.1)),(53,(.bool x.2.2.2.1)),(57,(.bool x.2.2.2.2))],fun x=>[],[]⟩)] [(1,[0],[])] (c3 (@p9 K0) fun x1=>(c2 (@p15 x1.1 ([(1:Int),(0:Int),(1:Int),(1:Int)]:List Int)) [(e27 x1.1),(.sl 1 4 (litF [(.int .u16 1),(.int .u16 0),(.int .u16 1),(.int .u16 1)]))] (dq ⟨dr,(de_lit rfl rfl),trivial⟩) fun x2=>(c3 (@p7 x1.1) fun x3=>(.exi (Bool×Bool×(List Int)×Bool×Bool) ((if((x1.2.length:Int)==(0:Int))=true then m16 x2.1 ([(0:Int),(2:Int),(3:Int),(0:Int),(3:Int)]:List Int)else some default).bind fun r4_0=>((if(((x1.2.length:Int)==(0:Int))&&r4_0)=true then m17 x2.2.1 ([([68,73,77]:List UInt8)]:List (List UInt8))else some default).bind fun r4_1=>((if(((((((x1.2.length:Int)==(0:Int))&&r4_0)&&r4_1)&&(x2.2.2==0))&&(x3.1==K0))&&(x3.2==0))=true then m18 x1.1 (2:Int) (0:Int)else some default).bind fun r4_2=>((if(((((((x1.2.length:Int)==(0:Int))&&r4_0)&&r4_1)&&(x2.2.2==0))&&(x3.1==K0))&&(x3.2==0))=true then m16 r4_2 ([(3:Int)]:List Int)else some default).bind fun r4_3=>((if((((((((x1.2.length:Int)==(0:Int))&&r4_0)&&r4_1)&&(x2.2.2==0))&&(x3.1==K0))&&(x3.2==0))&&r4_3)=true then m19 x1.1 (2:Int)else some default).bind fun r4_4=>some (r4_0,r4_1,r4_2,r4_3,r4_4)))))) (fun x4=>(.g ((x1.2.length:Int)==(0:Int)) (PureAt Tryz.prog 16 [(eSl 1 dI x2.1),(.sl 1 5 (litF [(dI 0),(dI 2),(dI 3),(dI 0),(dI 3)]))] (.bool x4.1)) (.g (((x1.2.length:Int)==(0:Int))&&x4.1) (PureAt Tryz.prog 17 [(eSl 1 D.str x2.2.1),(.sl 1 1 (litF [(.str ([68,73,77]:List UInt8))]))] (.bool x4.2.1)) (.g (((((((x1.2.length:Int)==(0:Int))&&x4.1)&&x4.2.1)&&(x2.2.2==0))&&(x3.1==K0))&&(x3.2==0)) (PureAt Tryz.prog 18 [(e27 x1.1),(dI 2),(.int .u16 0)] (eSl 1 dI x4.2.2.1)) (.g (((((((x1.2.length:Int)==(0:Int))&&x4.1)&&x4.2.1)&&(x2.2.2==0))&&(x3.1==K0))&&(x3.2==0)) (PureAt Tryz.prog 16 [(eSl 1 dI x4.2.2.1),(.sl 1 1 (litF [(dI 3)]))] (.bool x4.2.2.2.1)) (.g ((((((((x1.2.length:Int)==(0:Int))&&x4.1)&&x4.2.1)&&(x2.2.2==0))&&(x3.1==K0))&&(x3.2==0))&&x4.2.2.2.1) (PureAt Tryz.prog 19 [(e27 x1.1),(.int .u16 2)] (.bool x4.2.2.2.2)) (.fin 0))))))) (by intro x4 h;obtain⟨r4_0,h1,h⟩:=Option.bind_eq_some_iff.1 h;obtain⟨r4_1,h2,h⟩:=Option.bind_eq_some_iff.1 h;obtain⟨r4_2,h3,h⟩:=Option.bind_eq_some_iff.1 h;obtain⟨r4_3,h4,h⟩:=Option.bind_eq_some_iff.1 h;obtain⟨r4_4,h5,h⟩:=Option.bind_eq_some_iff.1 h;cases h;exact⟨fun g=>pure_de (p16 (by rw[if_pos g]at h1;exact h1)) ⟨dr,(de_lit rfl rfl),trivial⟩,fun g=>pure_de (p17 (by rw[if_pos g]at h2;exact h2)) ⟨dr,(de_lit rfl rfl),trivial⟩,fun g=>p18 (by rw[if_pos g]at h3;exact h3),fun g=>pure_de (p16 (by rw[if_pos g]at h4;exact h4)) ⟨dr,(de_lit rfl rfl),trivial⟩,fun g=>p19 (by rw[if_pos g]at h5;exact h5),trivial⟩) (fun x4 _=>(.ret .ret ⟨[(0,(aB (((((((((x1.2.length:Int)==(0:Int))&&x4.1)&&x4.2.1)&&(x2.2.2==0))&&(x3.1==K0))&&(x3.2==0))&&x4.2.2.2.1)&&(!x4.2.2.2.2))))],[],[160],1008⟩ (((((((((x1.2.length:Int)==(0:Int))&&x4.1)&&x4.2.1)&&(x2.2.2==0))&&(x3.1==K0))&&(x3.2==0))&&x4.2.2.2.1)&&(!x4.2.2.2.2)) ⟨rfl,_,Weak.refl _,dr⟩)))))))
noncomputable def m5:Option (Bool):=(d5 ).m
theorem p5 {r:Bool} (h:m5  = some r):PureAt Tryz.prog 5 [] (.bool r):=pure_jd (d5 ) Tryz.func5 h
noncomputable abbrev z6_0 (a0:T27):AV:=(.ap 1 (([]:List (List UInt8))++(subL a0.Conds 0 (if 6 < (a0.Conds.length:Int)then(6:Int)else(a0.Conds.length:Int)).toNat)).length (cF D.str (([]:List (List UInt8))++(subL a0.Conds 0 (if 6 < (a0.Conds.length:Int)then(6:Int)else(a0.Conds.length:Int)).toNat))) (.tok 240 9))
noncomputable abbrev z6_1:Ob:=(.cells [(aS ([]:List UInt8)),aN,aN,aN,(aI 0),aN])
noncomputable abbrev z6_2 (y2:(List (List T118))):AV:=(.ap 1 y2.length (cF (eSl 2 e118) y2) (.tok 752 54))
noncomputable abbrev z6_3 (y4:(List T56)):AV:=(.ap 6 y4.length (cF e56 y4) (.tok 1680 56))
noncomputable abbrev z6_4:List (Nat×AV):=[(1,(.ptr 16 0)),(2,(.ptr 32 0)),(3,(.ptr 272 0))]
noncomputable abbrev z6_5 (a0:T27):List (Nat×Ob):=[(16,(.cells (g27 a0))),(32,z6_1),(272,(.cells [(aS a0.Name),(z6_0 a0),aN,aN,(aI a0.Start),aN]))]
noncomputable def d6 (a0:T27):JF Tryz.prog Tryz.f6 [(e27 a0)] (fun(r:T27)=>(e27 r)) :=
 (.sq 2 [] [(0,[1,2,3],[16,32,272])] (fun(_:Unit)=>⟨z6_4,(z6_5 a0),[240],304⟩) (nd (0≤(if 6 < (a0.Conds.length:Int)then(6:Int)else(a0.Conds.length:Int))) (nd ((if 6 < (a0.Conds.length:Int)then(6:Int)else(a0.Conds.length:Int))≤(a0.Conds.length:Int)) (nd ((0+(if 6 < (a0.Conds.length:Int)then(6:Int)else(a0.Conds.length:Int)).toNat) * 16≤140737488355328) (.ret .normal ⟨z6_4,[(16,(.cells (g27 a0))),(32,z6_1),(272,(.cells [(aS a0.Name),(.ap 1 (0+(if 6 < (a0.Conds.length:Int)then(6:Int)else(a0.Conds.length:Int)).toNat) (appF 0 (litF []) (cF D.str a0.Conds)) (.tok 240 9)),aN,aN,(aI a0.Start),aN]))],[240],304⟩ (.inl ()) ⟨rfl,(ws (idn [16,32,272]) [(240,240)] ⟨⟨_,_,rfl,rfl,⟨dr,dr,dr,dr,dr,dr,trivial⟩⟩,⟨_,_,rfl,rfl,⟨dr,rfl,rfl,rfl,dr,rfl,trivial⟩⟩,⟨_,_,rfl,rfl,⟨dr,⟨rfl,rfl,rfl,(de_app (de_lit rfl rfl) de_sub0)⟩,rfl,rfl,dr,rfl,trivial⟩⟩⟩)⟩)))) (fun _=>(.sc (fun(y2:(List (List T118)))=>⟨z6_4,[(16,(.cells (g27 a0))),(32,z6_1),(272,(.cells [(aS a0.Name),(z6_0 a0),(z6_2 y2),aN,(aI a0.Start),aN]))],[240,752],992⟩) (.sq 1 [] [(0,[1,2,3,4],[16,32,272])] (fun(_:Unit)=>⟨[(1,(.ptr 16 0)),(2,(.ptr 32 0)),(3,(.ptr 272 0)),(4,(aI 0))],(z6_5 a0),[240],320⟩) (.nx ()) (fun _=>(.bk (.lp (fun(s1:Int×(List (List T118)))=>⟨[(1,(.ptr 16 0)),(2,(.ptr 32 0)),(3,(.ptr 272 0)),(4,(aI s1.1))],[(16,(.cells (g27 a0))),(32,z6_1),(272,(.cells [(aS a0.Name),(z6_0 a0),(.ap 1 s1.2.length (cF (eSl 2 e118) s1.2) (.tok 752 54)),aN,(aI a0.Start),aN]))],[240,752],848⟩) ((0:Int),[]) (wk (idn [16,32,272]) [(240,240)]) fun s1=>(.sg [] [(0,[1,2,3,4],[16,32,272]),(2,[1,2,3],[16,32,272])] (.ite ((decide (s1.1 < (a0.Never.length:Int)))&&(decide (s1.1 < 4))) (nd (0≤s1.1) (nd (s1.1 < (a0.Never.length:Int)) (nd (0≤s1.1) (nd (s1.1 < (a0.Never.length:Int)) (nd (0≤(if 6 < ((a0.Never.getD s1.1.toNat default).length:Int)then(6:Int)else((a0.Never.getD s1.1.toNat default).length:Int))) (nd ((if 6 < ((a0.Never.getD s1.1.toNat default).length:Int)then(6:Int)else((a0.Never.getD s1.1.toNat default).length:Int))≤((a0.Never.getD s1.1.toNat default).length:Int)) (nd ((0+(if 6 < ((a0.Never.getD s1.1.toNat default).length:Int)then(6:Int)else((a0.Never.getD s1.1.toNat default).length:Int)).toNat) * 16≤140737488355328) (nd ((s1.2.length+1) * 24≤140737488355328) (.ret .normal ⟨[(1,(.ptr 16 0)),(2,(.ptr 32 0)),(3,(.ptr 272 0)),(4,(aI (IntKind.wrap .i64 (s1.1+1))))],[(16,(.cells (g27 a0))),(32,z6_1),(272,(.cells [(aS a0.Name),(z6_0 a0),(.ap 1 (s1.2.length+1) (appF s1.2.length (cF (eSl 2 e118) s1.2) (litF [(.sl 2 (0+(if 6 < ((a0.Never.getD s1.1.toNat default).length:Int)then(6:Int)else((a0.Never.getD s1.1.toNat default).length:Int)).toNat) (appF 0 (litF []) (cF e118 (a0.Never.getD s1.1.toNat default))))])) (.tok 1280 54)),aN,(aI a0.Start),aN]))],[1280,1264,1248,240],1376⟩ (.inl ((IntKind.wrap .i64 (s1.1+1)),(s1.2++([(([]:List T118)++(subL (a0.Never.getD s1.1.toNat default) 0 (if 6 < ((a0.Never.getD s1.1.toNat default).length:Int)then(6:Int)else((a0.Never.getD s1.1.toNat default).length:Int)).toNat))]:List (List T118))))) ⟨rfl,(ws (idn [16,32,272]) [(240,240),(752,1280)] ⟨⟨_,_,rfl,rfl,⟨dr,dr,dr,dr,dr,dr,trivial⟩⟩,⟨_,_,rfl,rfl,⟨dr,rfl,rfl,rfl,dr,rfl,trivial⟩⟩,⟨_,_,rfl,rfl,⟨dr,⟨rfl,rfl,rfl,dr⟩,⟨rfl,rfl,rfl,(de_app dr (de_litD rfl ⟨(de_app (de_lit rfl rfl) de_sub0),trivial⟩))⟩,rfl,dr,rfl,trivial⟩⟩⟩)⟩))))))))) (.ret (.exit 0) _ (.inr (.inl s1.2)) ⟨rfl,rfl,Weak.refl _⟩))))))) fun y2=>(.sc (fun(y4:(List T56))=>⟨z6_4,[(16,(.cells (g27 a0))),(32,z6_1),(272,(.cells [(aS a0.Name),(z6_0 a0),(z6_2 y2),(z6_3 y4),(aI a0.Start),aN]))],[240,752,1680],1920⟩) (.sq 1 [] [(0,[1,2,3,5],[16,32,272])] (fun(_:Unit)=>⟨[(1,(.ptr 16 0)),(2,(.ptr 32 0)),(3,(.ptr 272 0)),(5,(aI 0))],[(16,(.cells (g27 a0))),(32,z6_1),(272,(.cells [(aS a0.Name),(z6_0 a0),(z6_2 y2),aN,(aI a0.Start),aN]))],[240,752],1008⟩) (.nx ()) (fun _=>(.bk (.lp (fun(s3:Int×(List T56))=>⟨[(1,(.ptr 16 0)),(2,(.ptr 32 0)),(3,(.ptr 272 0)),(5,(aI s3.1))],[(16,(.cells (g27 a0))),(32,z6_1),(272,(.cells [(aS a0.Name),(z6_0 a0),(z6_2 y2),(.ap 6 s3.2.length (cF e56 s3.2) (.tok 1680 56)),(aI a0.Start),aN]))],[240,752,1680],1776⟩) ((0:Int),[]) (wk (idn [16,32,272]) (idn [240,752])) fun s3=>(.sg [] [(0,[1,2,3,5],[16,32,272]),(4,[1,2,3],[16,32,272])] (.ite ((decide (s3.1 < (a0.States.length:Int)))&&(decide (s3.1 < 12))) (nd (0≤s3.1) (nd (s3.1 < (a0.States.length:Int)) (nd (0≤(if 9 < ((a0.States.getD s3.1.toNat default).Entry.length:Int)then(9:Int)else((a0.States.getD s3.1.toNat default).Entry.length:Int))) (nd ((if 9 < ((a0.States.getD s3.1.toNat default).Entry.length:Int)then(9:Int)else((a0.States.getD s3.1.toNat default).Entry.length:Int))≤((a0.States.getD s3.1.toNat default).Entry.length:Int)) (nd ((0+(if 9 < ((a0.States.getD s3.1.toNat default).Entry.length:Int)then(9:Int)else((a0.States.getD s3.1.toNat default).Entry.length:Int)).toNat) * 16≤140737488355328) (nd (0≤(if 9 < ((a0.States.getD s3.1.toNat default).Exit.length:Int)then(9:Int)else((a0.States.getD s3.1.toNat default).Exit.length:Int))) (nd ((if 9 < ((a0.States.getD s3.1.toNat default).Exit.length:Int)then(9:Int)else((a0.States.getD s3.1.toNat default).Exit.length:Int))≤((a0.States.getD s3.1.toNat default).Exit.length:Int)) (nd ((0+(if 9 < ((a0.States.getD s3.1.toNat default).Exit.length:Int)then(9:Int)else((a0.States.getD s3.1.toNat default).Exit.length:Int)).toNat) * 16≤140737488355328) (nd ((s3.2.length+1) * 88≤140737488355328) (.ret .normal ⟨[(1,(.ptr 16 0)),(2,(.ptr 32 0)),(3,(.ptr 272 0)),(5,(aI (IntKind.wrap .i64 (s3.1+1))))],[(16,(.cells (g27 a0))),(32,z6_1),(272,(.cells [(aS a0.Name),(z6_0 a0),(z6_2 y2),(.ap 6 (s3.2.length+1) (appF s3.2.length (cF e56 s3.2) (litF [(.agg [(.str (a0.States.getD s3.1.toNat default).Name),(dI (a0.States.getD s3.1.toNat default).Parent),(dI (a0.States.getD s3.1.toNat default).Initial),(.bool (a0.States.getD s3.1.toNat default).History),(.sl 1 (0+(if 9 < ((a0.States.getD s3.1.toNat default).Entry.length:Int)then(9:Int)else((a0.States.getD s3.1.toNat default).Entry.length:Int)).toNat) (appF 0 (litF []) (cF D.str (a0.States.getD s3.1.toNat default).Entry))),(.sl 1 (0+(if 9 < ((a0.States.getD s3.1.toNat default).Exit.length:Int)then(9:Int)else((a0.States.getD s3.1.toNat default).Exit.length:Int)).toNat) (appF 0 (litF []) (cF D.str (a0.States.getD s3.1.toNat default).Exit)))])])) (.tok 2448 56)),(aI a0.Start),aN]))],[2448,2432,2336,2160,240,752],2544⟩ (.inl ((IntKind.wrap .i64 (s3.1+1)),(s3.2++([(⟨(a0.States.getD s3.1.toNat default).Name,(a0.States.getD s3.1.toNat default).Parent,(a0.States.getD s3.1.toNat default).Initial,(a0.States.getD s3.1.toNat default).History,(([]:List (List UInt8))++(subL (a0.States.getD s3.1.toNat default).Entry 0 (if 9 < ((a0.States.getD s3.1.toNat default).Entry.length:Int)then(9:Int)else((a0.States.getD s3.1.toNat default).Entry.length:Int)).toNat)),(([]:List (List UInt8))++(subL (a0.States.getD s3.1.toNat default).Exit 0 (if 9 < ((a0.States.getD s3.1.toNat default).Exit.length:Int)then(9:Int)else((a0.States.getD s3.1.toNat default).Exit.length:Int)).toNat))⟩:T56)]:List T56)))) ⟨rfl,(ws (idn [16,32,272]) [(240,240),(752,752),(1680,2448)] ⟨⟨_,_,rfl,rfl,⟨dr,dr,dr,dr,dr,dr,trivial⟩⟩,⟨_,_,rfl,rfl,⟨dr,rfl,rfl,rfl,dr,rfl,trivial⟩⟩,⟨_,_,rfl,rfl,⟨dr,⟨rfl,rfl,rfl,dr⟩,⟨rfl,rfl,rfl,dr⟩,⟨rfl,rfl,rfl,(de_app dr (de_litD rfl ⟨(.inr ⟨dr,dr,dr,dr,(de_app (de_lit rfl rfl) de_sub0),(de_app (de_lit rfl rfl) de_sub0),trivial⟩),trivial⟩))⟩,dr,rfl,trivial⟩⟩⟩)⟩)))))))))) (.ret (.exit 2) _ (.inr (.inl s3.2)) ⟨rfl,rfl,Weak.refl _⟩))))))) fun y4=>(.sc (fun(y6:(List T58))=>⟨[(2,(.ptr 32 0)),(3,(.ptr 272 0))],[(32,z6_1),(272,(.cells [(aS a0.Name),(z6_0 a0),(z6_2 y2),(z6_3 y4),(aI a0.Start),(.ap 4 y6.length (cF e58 y6) (.tok 2608 58))]))],[240,752,1680,2608],2848⟩) (.sq 1 [] [(0,[1,2,3,7],[16,32,272])] (fun(_:Unit)=>⟨[(1,(.ptr 16 0)),(2,(.ptr 32 0)),(3,(.ptr 272 0)),(7,(aI 0))],[(16,(.cells (g27 a0))),(32,z6_1),(272,(.cells [(aS a0.Name),(z6_0 a0),(z6_2 y2),(z6_3 y4),(aI a0.Start),aN]))],[240,752,1680],1936⟩) (.nx ()) (fun _=>(.bk (.lp (fun(s5:Int×(List T58))=>⟨[(1,(.ptr 16 0)),(2,(.ptr 32 0)),(3,(.ptr 272 0)),(7,(aI s5.1))],[(16,(.cells (g27 a0))),(32,z6_1),(272,(.cells [(aS a0.Name),(z6_0 a0),(z6_2 y2),(z6_3 y4),(aI a0.Start),(.ap 4 s5.2.length (cF e58 s5.2) (.tok 2608 58))]))],[240,752,1680,2608],2704⟩) ((0:Int),[]) (wk (idn [16,32,272]) (idn [240,752,1680])) fun s5=>(.sg [] [(0,[1,2,3,7],[16,32,272]),(6,[2,3],[32,272])] (.ite ((decide (s5.1 < (a0.Transitions.length:Int)))&&(decide (s5.1 < 24))) (nd (0≤s5.1) (nd (s5.1 < (a0.Transitions.length:Int)) (nd (0≤(if 6 < ((a0.Transitions.getD s5.1.toNat default).When.length:Int)then(6:Int)else((a0.Transitions.getD s5.1.toNat default).When.length:Int))) (nd ((if 6 < ((a0.Transitions.getD s5.1.toNat default).When.length:Int)then(6:Int)else((a0.Transitions.getD s5.1.toNat default).When.length:Int))≤((a0.Transitions.getD s5.1.toNat default).When.length:Int)) (nd ((0+(if 6 < ((a0.Transitions.getD s5.1.toNat default).When.length:Int)then(6:Int)else((a0.Transitions.getD s5.1.toNat default).When.length:Int)).toNat) * 16≤140737488355328) (nd (0≤(if 9 < ((a0.Transitions.getD s5.1.toNat default).Actions.length:Int)then(9:Int)else((a0.Transitions.getD s5.1.toNat default).Actions.length:Int))) (nd ((if 9 < ((a0.Transitions.getD s5.1.toNat default).Actions.length:Int)then(9:Int)else((a0.Transitions.getD s5.1.toNat default).Actions.length:Int))≤((a0.Transitions.getD s5.1.toNat default).Actions.length:Int)) (nd ((0+(if 9 < ((a0.Transitions.getD s5.1.toNat default).Actions.length:Int)then(9:Int)else((a0.Transitions.getD s5.1.toNat default).Actions.length:Int)).toNat) * 16≤140737488355328) (nd ((s5.2.length+1) * 64≤140737488355328) (.ret .normal ⟨[(1,(.ptr 16 0)),(2,(.ptr 32 0)),(3,(.ptr 272 0)),(7,(aI (IntKind.wrap .i64 (s5.1+1))))],[(16,(.cells (g27 a0))),(32,z6_1),(272,(.cells [(aS a0.Name),(z6_0 a0),(z6_2 y2),(z6_3 y4),(aI a0.Start),(.ap 4 (s5.2.length+1) (appF s5.2.length (cF e58 s5.2) (litF [(.agg [(dI (a0.Transitions.getD s5.1.toNat default).From),(dI (a0.Transitions.getD s5.1.toNat default).To),(.sl 2 (0+(if 6 < ((a0.Transitions.getD s5.1.toNat default).When.length:Int)then(6:Int)else((a0.Transitions.getD s5.1.toNat default).When.length:Int)).toNat) (appF 0 (litF []) (cF e118 (a0.Transitions.getD s5.1.toNat default).When))),(.sl 1 (0+(if 9 < ((a0.Transitions.getD s5.1.toNat default).Actions.length:Int)then(9:Int)else((a0.Transitions.getD s5.1.toNat default).Actions.length:Int)).toNat) (appF 0 (litF []) (cF D.str (a0.Transitions.getD s5.1.toNat default).Actions)))])])) (.tok 3376 58))]))],[3376,3360,3264,3088,240,752,1680],3472⟩ (.inl ((IntKind.wrap .i64 (s5.1+1)),(s5.2++([(⟨(a0.Transitions.getD s5.1.toNat default).From,(a0.Transitions.getD s5.1.toNat default).To,(([]:List T118)++(subL (a0.Transitions.getD s5.1.toNat default).When 0 (if 6 < ((a0.Transitions.getD s5.1.toNat default).When.length:Int)then(6:Int)else((a0.Transitions.getD s5.1.toNat default).When.length:Int)).toNat)),(([]:List (List UInt8))++(subL (a0.Transitions.getD s5.1.toNat default).Actions 0 (if 9 < ((a0.Transitions.getD s5.1.toNat default).Actions.length:Int)then(9:Int)else((a0.Transitions.getD s5.1.toNat default).Actions.length:Int)).toNat))⟩:T58)]:List T58)))) ⟨rfl,(ws (idn [16,32,272]) [(240,240),(752,752),(1680,1680),(2608,3376)] ⟨⟨_,_,rfl,rfl,⟨dr,dr,dr,dr,dr,dr,trivial⟩⟩,⟨_,_,rfl,rfl,⟨dr,rfl,rfl,rfl,dr,rfl,trivial⟩⟩,⟨_,_,rfl,rfl,⟨dr,⟨rfl,rfl,rfl,dr⟩,⟨rfl,rfl,rfl,dr⟩,⟨rfl,rfl,rfl,dr⟩,dr,⟨rfl,rfl,rfl,(de_app dr (de_litD rfl ⟨(.inr ⟨dr,dr,(de_app (de_lit rfl rfl) de_sub0),(de_app (de_lit rfl rfl) de_sub0),trivial⟩),trivial⟩))⟩,trivial⟩⟩⟩)⟩)))))))))) (.ret (.exit 4) _ (.inr (.inl s5.2)) ⟨rfl,rfl,Weak.refl _⟩))))))) fun y6=>(.sg [] [(1,[2],[32])] (.ret .ret ⟨[(2,(.ptr 32 0))],[(32,(.cells [(aS a0.Name),(z6_0 a0),(z6_2 y2),(z6_3 y4),(aI a0.Start),(.ap 4 y6.length (cF e58 y6) (.tok 2608 58))]))],[240,752,1680,2608],2880⟩ (⟨a0.Name,(([]:List (List UInt8))++(subL a0.Conds 0 (if 6 < (a0.Conds.length:Int)then(6:Int)else(a0.Conds.length:Int)).toNat)),y2,y4,a0.Start,y6⟩:T27) ⟨rfl,_,Weak.refl _,⟨dr,dr,dr,dr,dr,dr,trivial⟩⟩)))))))
noncomputable def m6 (a0:T27):Option (T27):=(d6 a0).m
theorem p6 {a0:T27} {r:T27} (h:m6 a0=some r):PureAt Tryz.prog 6 [(e27 a0)] (e27 r):=pure_jd (d6 a0) Tryz.func6 h
noncomputable def d38 (a0 a1:List T118):JF Tryz.prog Tryz.f38 [(eSl 2 e118 a0),(eSl 2 e118 a1)] (fun(r:Bool)=>(.bool r)) :=
 (.sq 2 [] [(1,[4],[]),(0,[0,1],[])] (fun(_:Unit)=>⟨[(0,(.d (eSl 2 e118 a0))),(1,(.d (eSl 2 e118 a1)))],[],[],112⟩) (.ite ((a0.length:Int) != (a1.length:Int)) (.ret .ret ⟨[(4,(aB false))],[],[],128⟩ (.inr (false)) ⟨rfl,rfl,_,Weak.refl _,dr⟩) (.nx ())) (fun _=>(.sc (fun(_:Unit)=>⟨[],[],[],400⟩) (.sq 1 [] [(0,[0,1,12,13],[])] (fun(_:Unit)=>⟨[(0,(.d (eSl 2 e118 a0))),(1,(.d (eSl 2 e118 a1))),(12,(aI (a0.length:Int))),(13,(aI 0))],[],[],160⟩) (.nx ()) (fun _=>(.bk (.lp (fun(s1:Int)=>⟨[(0,(.d (eSl 2 e118 a0))),(1,(.d (eSl 2 e118 a1))),(12,(aI (a0.length:Int))),(13,(aI s1))],[],[],384⟩) (0:Int) (wk [] []) fun s1=>(.sg [] [(1,[4],[]),(0,[0,1,12,13],[]),(2,[],[])] (.ite (decide (s1 < (a0.length:Int))) (nd (0≤s1) (nd (s1 < (a0.length:Int)) (nd (0≤s1) (nd (s1 < (a1.length:Int)) (.ite (!(((a0.getD s1.toNat default).Cond==(a1.getD s1.toNat default).Cond)&&(((a0.getD s1.toNat default).Neg==(a1.getD s1.toNat default).Neg)&&true))) (.ret .ret ⟨[(4,(aB false))],[],[],592⟩ (.inr (.inr (false))) ⟨rfl,rfl,rfl,_,Weak.refl _,dr⟩) (.ret .normal ⟨[(0,(.d (eSl 2 e118 a0))),(1,(.d (eSl 2 e118 a1))),(12,(aI (a0.length:Int))),(13,(aI (IntKind.wrap .i64 (s1+1))))],[],[],608⟩ (.inl (IntKind.wrap .i64 (s1+1))) ⟨rfl,(wk [] [])⟩)))))) (.ret (.exit 0) _ (.inr (.inl ())) ⟨rfl,rfl,Weak.refl _⟩))))))) fun _=>(.sg [] [(1,[4],[])] (.ret .ret ⟨[(4,(aB true))],[],[],416⟩ true ⟨rfl,_,Weak.refl _,dr⟩)))))
noncomputable def m38 (a0 a1:List T118):Option (Bool):=(d38 a0 a1).m
theorem p38 {a0:List T118} {a1:List T118} {r:Bool} (h:m38 a0 a1=some r):PureAt Tryz.prog 38 [(eSl 2 e118 a0),(eSl 2 e118 a1)] (.bool r):=pure_jd (d38 a0 a1) Tryz.func38 h
noncomputable abbrev z10_0 (a0:T27) (a1:T27):List (Nat×Ob):=[(16,(.cells (g27 a0))),(32,(.cells (g27 a1)))]
noncomputable def d10 (a0 a1:T27):JF Tryz.prog Tryz.f10 [(e27 a0),(e27 a1)] (fun(r:Bool)=>(.bool r)) :=
 (.sq 2 [(1,tm1 29 D.bool)] [(1,[4],[]),(0,[2,3],[16,32])] (fun(_:Unit)=>⟨[(2,(.ptr 16 0)),(3,(.ptr 32 0))],(z10_0 a0 a1),[],816⟩) (.exi (Bool) ((if(!((a0.Name != a1.Name) || (a0.Start != a1.Start)))=true then m17 a0.Conds a1.Conds else some default).bind fun r1_0=>some r1_0) (fun x1=>(.g (!((a0.Name != a1.Name) || (a0.Start != a1.Start))) (PureAt Tryz.prog 17 [(eSl 1 D.str a0.Conds),(eSl 1 D.str a1.Conds)] (.bool x1)) (.fin 0))) (by intro x1 h;obtain⟨r1_0,h1,h⟩:=Option.bind_eq_some_iff.1 h;cases h;exact⟨fun g=>p17 (by rw[if_pos g]at h1;exact h1),trivial⟩) (fun x1 _=>(.ite ((((((a0.Name != a1.Name) || (a0.Start != a1.Start)) || (!x1)) || ((a0.Never.length:Int) != (a1.Never.length:Int))) || ((a0.States.length:Int) != (a1.States.length:Int))) || ((a0.Transitions.length:Int) != (a1.Transitions.length:Int))) (.ret .ret ⟨[(4,(aB false))],[],[],832⟩ (.inr (false)) ⟨rfl,rfl,_,Weak.refl _,dr⟩) (.nx ())))) (fun _=>(.sc (fun(_:Unit)=>⟨[(2,(.ptr 16 0)),(3,(.ptr 32 0))],(z10_0 a0 a1),[],1168⟩) (.sq 1 [] [(0,[2,3,61,62],[16,32])] (fun(_:Unit)=>⟨[(2,(.ptr 16 0)),(3,(.ptr 32 0)),(61,(aI (a0.Never.length:Int))),(62,(aI 0))],(z10_0 a0 a1),[],880⟩) (.nx ()) (fun _=>(.bk (.lp (fun(s1:Int)=>⟨[(2,(.ptr 16 0)),(3,(.ptr 32 0)),(61,(aI (a0.Never.length:Int))),(62,(aI s1))],(z10_0 a0 a1),[],1152⟩) (0:Int) (wk (idn [16,32]) []) fun s1=>(.sg [(6,tm1 75 D.bool)] [(1,[4],[]),(0,[2,3,61,62],[16,32]),(2,[2,3],[16,32])] (.ite (decide (s1 < (a0.Never.length:Int))) (.exi (Bool) (if 0≤s1 then(if s1 < (a0.Never.length:Int)then(if 0≤s1 then(if s1 < (a1.Never.length:Int)then((m38 (a0.Never.getD s1.toNat default) (a1.Never.getD s1.toNat default)).bind fun r6_0=>some r6_0)else none)else none)else none)else none) (fun x6=>(.p (0≤s1) (.p (s1 < (a0.Never.length:Int)) (.p (0≤s1) (.p (s1 < (a1.Never.length:Int)) (.p (PureAt Tryz.prog 38 [(eSl 2 e118 (a0.Never.getD s1.toNat default)),(eSl 2 e118 (a1.Never.getD s1.toNat default))] (.bool x6)) (.fin 0))))))) (by intro x6 h;obtain⟨h1,h⟩:=if_some h;obtain⟨h2,h⟩:=if_some h;obtain⟨h3,h⟩:=if_some h;obtain⟨h4,h⟩:=if_some h;obtain⟨r6_0,h5,h⟩:=Option.bind_eq_some_iff.1 h;cases h;exact⟨h1,h2,h3,h4,p38 h5,trivial⟩) (fun x6 _=>(.ite (!x6) (.ret .ret ⟨[(4,(aB false))],[],[],1408⟩ (.inr (.inr (false))) ⟨rfl,rfl,rfl,_,Weak.refl _,dr⟩) (.ret .normal ⟨[(2,(.ptr 16 0)),(3,(.ptr 32 0)),(61,(aI (a0.Never.length:Int))),(62,(aI (IntKind.wrap .i64 (s1+1))))],(z10_0 a0 a1),[],1424⟩ (.inl (IntKind.wrap .i64 (s1+1))) ⟨rfl,(wk (idn [16,32]) [])⟩)))) (.ret (.exit 0) _ (.inr (.inl ())) ⟨rfl,rfl,Weak.refl _⟩))))))) fun _=>(.sc (fun(_:Unit)=>⟨[(2,(.ptr 16 0)),(3,(.ptr 32 0))],(z10_0 a0 a1),[],2224⟩) (.sq 1 [] [(0,[2,3,80,81],[16,32])] (fun(_:Unit)=>⟨[(2,(.ptr 16 0)),(3,(.ptr 32 0)),(80,(aI (a0.States.length:Int))),(81,(aI 0))],(z10_0 a0 a1),[],1232⟩) (.nx ()) (fun _=>(.bk (.lp (fun(s2:Int)=>⟨[(2,(.ptr 16 0)),(3,(.ptr 32 0)),(80,(aI (a0.States.length:Int))),(81,(aI s2))],(z10_0 a0 a1),[],2208⟩) (0:Int) (wk (idn [16,32]) []) fun s2=>(.sg [(13,⟨Bool×Bool,fun x=>[(125,(.bool x.1)),(133,(.bool x.2))],fun x=>[],[]⟩)] [(1,[4],[]),(0,[2,3,80,81],[16,32]),(4,[2,3],[16,32])] (.ite (decide (s2 < (a0.States.length:Int))) (nd (0≤s2) (nd (s2 < (a0.States.length:Int)) (nd (0≤s2) (nd (s2 < (a1.States.length:Int)) (.exi (Bool×Bool) ((if(!(((((a0.States.getD s2.toNat default).Name != (a1.States.getD s2.toNat default).Name) || ((a0.States.getD s2.toNat default).Parent != (a1.States.getD s2.toNat default).Parent)) || ((a0.States.getD s2.toNat default).Initial != (a1.States.getD s2.toNat default).Initial)) || ((a0.States.getD s2.toNat default).History != (a1.States.getD s2.toNat default).History)))=true then m17 (a0.States.getD s2.toNat default).Entry (a1.States.getD s2.toNat default).Entry else some default).bind fun r13_0=>((if(!((((((a0.States.getD s2.toNat default).Name != (a1.States.getD s2.toNat default).Name) || ((a0.States.getD s2.toNat default).Parent != (a1.States.getD s2.toNat default).Parent)) || ((a0.States.getD s2.toNat default).Initial != (a1.States.getD s2.toNat default).Initial)) || ((a0.States.getD s2.toNat default).History != (a1.States.getD s2.toNat default).History)) || (!r13_0)))=true then m17 (a0.States.getD s2.toNat default).Exit (a1.States.getD s2.toNat default).Exit else some default).bind fun r13_1=>some (r13_0,r13_1))) (fun x13=>(.g (!(((((a0.States.getD s2.toNat default).Name != (a1.States.getD s2.toNat default).Name) || ((a0.States.getD s2.toNat default).Parent != (a1.States.getD s2.toNat default).Parent)) || ((a0.States.getD s2.toNat default).Initial != (a1.States.getD s2.toNat default).Initial)) || ((a0.States.getD s2.toNat default).History != (a1.States.getD s2.toNat default).History))) (PureAt Tryz.prog 17 [(eSl 1 D.str (a0.States.getD s2.toNat default).Entry),(eSl 1 D.str (a1.States.getD s2.toNat default).Entry)] (.bool x13.1)) (.g (!((((((a0.States.getD s2.toNat default).Name != (a1.States.getD s2.toNat default).Name) || ((a0.States.getD s2.toNat default).Parent != (a1.States.getD s2.toNat default).Parent)) || ((a0.States.getD s2.toNat default).Initial != (a1.States.getD s2.toNat default).Initial)) || ((a0.States.getD s2.toNat default).History != (a1.States.getD s2.toNat default).History)) || (!x13.1))) (PureAt Tryz.prog 17 [(eSl 1 D.str (a0.States.getD s2.toNat default).Exit),(eSl 1 D.str (a1.States.getD s2.toNat default).Exit)] (.bool x13.2)) (.fin 0)))) (by intro x13 h;obtain⟨r13_0,h1,h⟩:=Option.bind_eq_some_iff.1 h;obtain⟨r13_1,h2,h⟩:=Option.bind_eq_some_iff.1 h;cases h;exact⟨fun g=>p17 (by rw[if_pos g]at h1;exact h1),fun g=>p17 (by rw[if_pos g]at h2;exact h2),trivial⟩) (fun x13 _=>(.ite (((((((a0.States.getD s2.toNat default).Name != (a1.States.getD s2.toNat default).Name) || ((a0.States.getD s2.toNat default).Parent != (a1.States.getD s2.toNat default).Parent)) || ((a0.States.getD s2.toNat default).Initial != (a1.States.getD s2.toNat default).Initial)) || ((a0.States.getD s2.toNat default).History != (a1.States.getD s2.toNat default).History)) || (!x13.1)) || (!x13.2)) (.ret .ret ⟨[(4,(aB false))],[],[],3168⟩ (.inr (.inr (false))) ⟨rfl,rfl,rfl,_,Weak.refl _,dr⟩) (.ret .normal ⟨[(2,(.ptr 16 0)),(3,(.ptr 32 0)),(80,(aI (a0.States.length:Int))),(81,(aI (IntKind.wrap .i64 (s2+1))))],(z10_0 a0 a1),[],3184⟩ (.inl (IntKind.wrap .i64 (s2+1))) ⟨rfl,(wk (idn [16,32]) [])⟩)))))))) (.ret (.exit 2) _ (.inr (.inl ())) ⟨rfl,rfl,Weak.refl _⟩))))))) fun _=>(.sc (fun(_:Unit)=>⟨[],[],[],3056⟩) (.sq 1 [] [(0,[2,3,139,140],[16,32])] (fun(_:Unit)=>⟨[(2,(.ptr 16 0)),(3,(.ptr 32 0)),(139,(aI (a0.Transitions.length:Int))),(140,(aI 0))],(z10_0 a0 a1),[],2288⟩) (.nx ()) (fun _=>(.bk (.lp (fun(s3:Int)=>⟨[(2,(.ptr 16 0)),(3,(.ptr 32 0)),(139,(aI (a0.Transitions.length:Int))),(140,(aI s3))],(z10_0 a0 a1),[],3040⟩) (0:Int) (wk (idn [16,32]) []) fun s3=>(.sg [(20,⟨Bool×Bool,fun x=>[(170,(.bool x.1)),(178,(.bool x.2))],fun x=>[],[]⟩)] [(1,[4],[]),(0,[2,3,139,140],[16,32]),(6,[],[])] (.ite (decide (s3 < (a0.Transitions.length:Int))) (nd (0≤s3) (nd (s3 < (a0.Transitions.length:Int)) (nd (0≤s3) (nd (s3 < (a1.Transitions.length:Int)) (.exi (Bool×Bool) ((if(!(((a0.Transitions.getD s3.toNat default).From != (a1.Transitions.getD s3.toNat default).From) || ((a0.Transitions.getD s3.toNat default).To != (a1.Transitions.getD s3.toNat default).To)))=true then m38 (a0.Transitions.getD s3.toNat default).When (a1.Transitions.getD s3.toNat default).When else some default).bind fun r20_0=>((if(!((((a0.Transitions.getD s3.toNat default).From != (a1.Transitions.getD s3.toNat default).From) || ((a0.Transitions.getD s3.toNat default).To != (a1.Transitions.getD s3.toNat default).To)) || (!r20_0)))=true then m17 (a0.Transitions.getD s3.toNat default).Actions (a1.Transitions.getD s3.toNat default).Actions else some default).bind fun r20_1=>some (r20_0,r20_1))) (fun x20=>(.g (!(((a0.Transitions.getD s3.toNat default).From != (a1.Transitions.getD s3.toNat default).From) || ((a0.Transitions.getD s3.toNat default).To != (a1.Transitions.getD s3.toNat default).To))) (PureAt Tryz.prog 38 [(eSl 2 e118 (a0.Transitions.getD s3.toNat default).When),(eSl 2 e118 (a1.Transitions.getD s3.toNat default).When)] (.bool x20.1)) (.g (!((((a0.Transitions.getD s3.toNat default).From != (a1.Transitions.getD s3.toNat default).From) || ((a0.Transitions.getD s3.toNat default).To != (a1.Transitions.getD s3.toNat default).To)) || (!x20.1))) (PureAt Tryz.prog 17 [(eSl 1 D.str (a0.Transitions.getD s3.toNat default).Actions),(eSl 1 D.str (a1.Transitions.getD s3.toNat default).Actions)] (.bool x20.2)) (.fin 0)))) (by intro x20 h;obtain⟨r20_0,h1,h⟩:=Option.bind_eq_some_iff.1 h;obtain⟨r20_1,h2,h⟩:=Option.bind_eq_some_iff.1 h;cases h;exact⟨fun g=>p38 (by rw[if_pos g]at h1;exact h1),fun g=>p17 (by rw[if_pos g]at h2;exact h2),trivial⟩) (fun x20 _=>(.ite (((((a0.Transitions.getD s3.toNat default).From != (a1.Transitions.getD s3.toNat default).From) || ((a0.Transitions.getD s3.toNat default).To != (a1.Transitions.getD s3.toNat default).To)) || (!x20.1)) || (!x20.2)) (.ret .ret ⟨[(4,(aB false))],[],[],3776⟩ (.inr (.inr (false))) ⟨rfl,rfl,rfl,_,Weak.refl _,dr⟩) (.ret .normal ⟨[(2,(.ptr 16 0)),(3,(.ptr 32 0)),(139,(aI (a0.Transitions.length:Int))),(140,(aI (IntKind.wrap .i64 (s3+1))))],(z10_0 a0 a1),[],3792⟩ (.inl (IntKind.wrap .i64 (s3+1))) ⟨rfl,(wk (idn [16,32]) [])⟩)))))))) (.ret (.exit 4) _ (.inr (.inl ())) ⟨rfl,rfl,Weak.refl _⟩))))))) fun _=>(.sg [] [(1,[4],[])] (.ret .ret ⟨[(4,(aB true))],[],[],3072⟩ true ⟨rfl,_,Weak.refl _,dr⟩)))))))
noncomputable def m10 (a0 a1:T27):Option (Bool):=(d10 a0 a1).m
theorem p10 {a0:T27} {a1:T27} {r:Bool} (h:m10 a0 a1=some r):PureAt Tryz.prog 10 [(e27 a0),(e27 a1)] (.bool r):=pure_jd (d10 a0 a1) Tryz.func10 h
noncomputable def d12 (a0:T41):JF Tryz.prog Tryz.f12 [(e41 a0)] (fun(r:T41)=>(e41 r)) :=
 (.sg [] [(1,[2],[32])] (nd (0≤(if 14 < (a0.Memory.length:Int)then(14:Int)else(a0.Memory.length:Int))) (nd ((if 14 < (a0.Memory.length:Int)then(14:Int)else(a0.Memory.length:Int))≤(a0.Memory.length:Int)) (nd ((0+(if 14 < (a0.Memory.length:Int)then(14:Int)else(a0.Memory.length:Int)).toNat) * 8≤140737488355328) (.ret .ret ⟨[(2,(.ptr 32 0))],[(32,(.cells [(aI a0.Leaf),(.ap 1 (0+(if 14 < (a0.Memory.length:Int)then(14:Int)else(a0.Memory.length:Int)).toNat) (appF 0 (litF []) (cF dI a0.Memory)) (.tok 208 3))]))],[208],256⟩ (⟨a0.Leaf,(([]:List Int)++(subL a0.Memory 0 (if 14 < (a0.Memory.length:Int)then(14:Int)else(a0.Memory.length:Int)).toNat))⟩:T41) ⟨rfl,_,Weak.refl _,⟨dr,(de_app (de_lit rfl rfl) de_sub0),trivial⟩⟩)))))
noncomputable def m12 (a0:T41):Option (T41):=(d12 a0).m
theorem p12 {a0:T41} {r:T41} (h:m12 a0=some r):PureAt Tryz.prog 12 [(e41 a0)] (e41 r):=pure_jd (d12 a0) Tryz.func12 h
noncomputable abbrev z43o1_0 (a0:T27) (a1:T41):Ob:=(.cells (g27 a0++([(aI a1.Leaf),(.arr 656 1 (a1.Memory.length:Int).toNat),(.vec 657 1 ([]:List (List UInt8)).length)]:List AV)))
noncomputable def q43o1 (a0:T27) (a1:T41) (a2:Int) (y:Int):OF:=⟨(.tup [(.agg [(aI 0),aN]),(.vec 256 1 ([]:List (List UInt8)).length),(aI y)]),[(256,(.vec 9 1 ([]:List (List UInt8)).length (cF D.str ([]:List (List UInt8)))))],[]⟩
noncomputable def o43o1_0 (a0:T27) (a1:T41) (x:Unit):OT:=⟨(.ptr 658 0),[],[],[(656,(.arr 1 (a1.Memory.length:Int).toNat (fun i=>if i < a1.Memory.length then(cF dI a1.Memory) i else(fun _=>(dI 0)) i))),(657,(.vec 9 1 ([]:List (List UInt8)).length (cF D.str ([]:List (List UInt8))))),(658,(z43o1_0 a0 a1))],[]⟩
noncomputable def o43o1_1 (a0:T27) (a1:T41) (x:((List Int)×(List (List UInt8)))):OT:=⟨(.tup []),[658,656,657],[],[(657,.gone),(656,(.arr 1 (a1.Memory.length:Int).toNat (cF dI x.1))),(832,(.vec 9 1 x.2.length (cF D.str x.2))),(658,(.cells (g27 a0++([(aI a1.Leaf),(.arr 656 1 (a1.Memory.length:Int).toNat),(.vec 832 1 x.2.length)]:List AV))))],[]⟩
noncomputable def o43o1_2 (a0:T27) (a1:T41) (x:(Int×(List Int)×(List (List UInt8)))):OT:=⟨(.tup []),[658,656,960],[],[(960,.gone),(656,(.arr 1 (a1.Memory.length:Int).toNat (cF dI x.2.1))),(1088,(.vec 9 1 x.2.2.length (cF D.str x.2.2))),(658,(.cells (g27 a0++([(aI x.1),(.arr 656 1 (a1.Memory.length:Int).toNat),(.vec 1088 1 x.2.2.length)]:List AV))))],[]⟩
noncomputable def d43o1 (a0:T27) (a1:T41) (a2:Int):JO Tryz.prog Tryz.f43 [(.d (e27 a0)),(.d (e41 a1)),(aI a2)] [] [] (q43o1 a0 a1 a2) :=
 (.sg [(1,tm1 14 dI),(4,tm1 21 D.bool),(9,⟨(List Int)×Bool,fun x=>[(42,(eSl 1 dI x.1)),(45,(.bool x.2))],fun x=>[],[]⟩),(11,⟨Unit,fun x=>[],fun x=>[(656,(o43o1_0 a0 a1 x))],[]⟩),(12,tm1 56 dI),(13,⟨((List Int)×(List (List UInt8))),fun x=>[],fun x=>[(832,(o43o1_1 a0 a1 x))],[]⟩),(14,⟨Unit,fun x=>[],fun x=>[],[961]⟩),(15,⟨(Int×(List Int)×(List (List UInt8))),fun x=>[],fun x=>[(1088,(o43o1_2 a0 a1 x))],[]⟩)] [(1,[6,7,8],[48,656,1088])] (c3 (@p20 a0) fun x1=>(.ite (x1 != 0) (.ret .ret ⟨[(6,(.ptr 48 0)),(7,aN),(8,(aI x1))],[(48,(.cells [(aI 0),aN]))],[],256⟩ x1 ⟨rfl,(retO_vec [(256,9,1,fun _=>.bad),(257,3,1,fun _=>.bad)] [] 258 (l1:=[(.agg [(aI 0),aN]),(.vec 256 1 0),(aI x1)]) (by rfl) (Nat.le_of_ble_eq_true rfl) (by kernel_rfl) (by kernel_rfl) (by exact trivial) (by exact(.same (.vec (.head _) (.same .nil)))) (retH_of [(256,256)] [] 690 (by kernel_rfl) (by kernel_rfl) (by exact⟨⟨dr,rfl,trivial⟩,⟨rfl,rfl,(len_of (sz:=1) (e:=D.str) (f:=(fun _=>.bad)) (l:=([]:List (List UInt8))) de_nil)⟩,dr,trivial⟩) (by exact⟨_,_,rfl,rfl,⟨rfl,rfl,de_nil⟩⟩)))⟩) (c3 (@p42 a0 a1) fun x4=>(.ite (!x4) (.ret .ret ⟨[(6,(.ptr 48 0)),(7,aN),(8,(aI 8))],[(48,(.cells [(aI 0),aN]))],[],304⟩ (8:Int) ⟨rfl,(retO_vec [(304,9,1,fun _=>.bad),(305,3,1,fun _=>.bad)] [] 306 (l1:=[(.agg [(aI 0),aN]),(.vec 304 1 0),(aI 8)]) (by rfl) (Nat.le_of_ble_eq_true rfl) (by kernel_rfl) (by kernel_rfl) (by exact trivial) (by exact(.same (.vec (.head _) (.same .nil)))) (retH_of [(256,304)] [] 690 (by kernel_rfl) (by kernel_rfl) (by exact⟨⟨dr,rfl,trivial⟩,⟨rfl,rfl,(len_of (sz:=1) (e:=D.str) (f:=(fun _=>.bad)) (l:=([]:List (List UInt8))) de_nil)⟩,dr,trivial⟩) (by exact⟨_,_,rfl,rfl,⟨rfl,rfl,de_nil⟩⟩)))⟩) (.ite ((decide (a2 < 0)) || (decide ((a0.Transitions.length:Int)≤a2))) (.ret .ret ⟨[(6,(.ptr 48 0)),(7,aN),(8,(aI 2))],[(48,(.cells [(aI 0),aN]))],[],448⟩ (2:Int) ⟨rfl,(retO_vec [(448,9,1,fun _=>.bad),(449,3,1,fun _=>.bad)] [] 450 (l1:=[(.agg [(aI 0),aN]),(.vec 448 1 0),(aI 2)]) (by rfl) (Nat.le_of_ble_eq_true rfl) (by kernel_rfl) (by kernel_rfl) (by exact trivial) (by exact(.same (.vec (.head _) (.same .nil)))) (retH_of [(256,448)] [] 690 (by kernel_rfl) (by kernel_rfl) (by exact⟨⟨dr,rfl,trivial⟩,⟨rfl,rfl,(len_of (sz:=1) (e:=D.str) (f:=(fun _=>.bad)) (l:=([]:List (List UInt8))) de_nil)⟩,dr,trivial⟩) (by exact⟨_,_,rfl,rfl,⟨rfl,rfl,de_nil⟩⟩)))⟩) (nd (0≤a2) (nd (a2 < (a0.Transitions.length:Int)) (.exi ((List Int)×Bool) ((m44 a0 a1.Leaf).bind fun r9_0=>((m45 r9_0 (a0.Transitions.getD a2.toNat default).From).bind fun r9_1=>some (r9_0,r9_1))) (fun x9=>(.p (PureAt Tryz.prog 44 [(e27 a0),(dI a1.Leaf)] (eSl 1 dI x9.1)) (.p (PureAt Tryz.prog 45 [(eSl 1 dI x9.1),(dI (a0.Transitions.getD a2.toNat default).From)] (.bool x9.2)) (.fin 0)))) (by intro x9 h;obtain⟨r9_0,h1,h⟩:=Option.bind_eq_some_iff.1 h;obtain⟨r9_1,h2,h⟩:=Option.bind_eq_some_iff.1 h;cases h;exact⟨p44 h1,p45 h2,trivial⟩) (fun x9 _=>(.ite (!x9.2) (.ret .ret ⟨[(6,(.ptr 48 0)),(7,aN),(8,(aI 9))],[(48,(.cells [(aI 0),aN]))],[],688⟩ (9:Int) ⟨rfl,(retO_vec [(688,9,1,fun _=>.bad),(689,3,1,fun _=>.bad)] [] 690 (l1:=[(.agg [(aI 0),aN]),(.vec 688 1 0),(aI 9)]) (by rfl) (Nat.le_of_ble_eq_true rfl) (by kernel_rfl) (by kernel_rfl) (by exact trivial) (by exact(.same (.vec (.head _) (.same .nil)))) (retH_of [(256,688)] [] 690 (by kernel_rfl) (by kernel_rfl) (by exact⟨⟨dr,rfl,trivial⟩,⟨rfl,rfl,(len_of (sz:=1) (e:=D.str) (f:=(fun _=>.bad)) (l:=([]:List (List UInt8))) de_nil)⟩,dr,trivial⟩) (by exact⟨_,_,rfl,rfl,⟨rfl,rfl,de_nil⟩⟩)))⟩) (c3 (p:=fun x11=>ObjL Tryz.prog 39 [(.d (e27 a0)),(.d (e41 a1))] [] 656 (o43o1_0 a0 a1 x11)) (fun x11 (h1:m39o0 a0 a1=some _)=>ok [] [] [(656,112),(657,336),(658,304)] [] (po39o0 h1)) fun x11=>(c3 (@p80 a0 (a0.Transitions.getD a2.toNat default).From (a0.Transitions.getD a2.toNat default).To) fun x12=>(c3 (p:=fun x13=>ObjL Tryz.prog 81 [(.ptr 658 0),(aI x12)] [(658,some (z43o1_0 a0 a1)),(656,some (.arr 1 (a1.Memory.length:Int).toNat (fun i=>if i < a1.Memory.length then(cF dI a1.Memory) i else(fun _=>(dI 0)) i))),(657,some (.vec 9 1 ([]:List (List UInt8)).length (cF D.str ([]:List (List UInt8)))))] 832 (o43o1_1 a0 a1 x13)) (fun x13 (h1:m81o0 x12 a0 a1.Leaf (copyL (List.replicate (a1.Memory.length:Int).toNat (0:Int)) a1.Memory) ([]:List (List UInt8))=some _)=>objL_of (po81o0 h1) [(0,658),(1,656),(2,657)] [] [(658,0),(656,1),(657,2),(832,16)] [] (by kernel_rfl) ⟨⟨rfl,rfl⟩,dr,trivial⟩ ⟨⟨_,_,rfl,rfl,⟨rfl,(de_copy (z:=1) (sz':=1) de_rep dr)⟩⟩,⟨_,_,rfl,rfl,⟨rfl,rfl,dr⟩⟩,⟨_,_,rfl,rfl,⟨dr,dr,dr,dr,dr,dr,dr,⟨rfl,rfl,(len_of (sz:=1) (e:=dI) (f:=(fun i=>if i < a1.Memory.length then(cF dI a1.Memory) i else(fun _=>(dI 0)) i)) (l:=(copyL (List.replicate (a1.Memory.length:Int).toNat (0:Int)) a1.Memory)) (de_copy (z:=1) (sz':=1) de_rep dr))⟩,⟨rfl,rfl,rfl⟩,trivial⟩⟩⟩ (by kernel_rfl) trivial ⟨⟨_,_,rfl,rfl,trivial⟩,⟨_,_,rfl,rfl,⟨rfl,(de_len (Eq.symm (len_of (sz:=1) (e:=dI) (f:=(fun i=>if i < a1.Memory.length then(cF dI a1.Memory) i else(fun _=>(dI 0)) i)) (l:=(copyL (List.replicate (a1.Memory.length:Int).toNat (0:Int)) a1.Memory)) (de_copy (z:=1) (sz':=1) de_rep dr))))⟩⟩,⟨_,_,rfl,rfl,⟨rfl,rfl,dr⟩⟩,⟨_,_,rfl,rfl,⟨dr,dr,dr,dr,dr,dr,dr,⟨rfl,rfl,(Eq.symm (len_of (sz:=1) (e:=dI) (f:=(fun i=>if i < a1.Memory.length then(cF dI a1.Memory) i else(fun _=>(dI 0)) i)) (l:=(copyL (List.replicate (a1.Memory.length:Int).toNat (0:Int)) a1.Memory)) (de_copy (z:=1) (sz':=1) de_rep dr)))⟩,⟨rfl,rfl,rfl⟩,trivial⟩⟩⟩) fun x13=>(.exi (Unit) (if(x13.2.length+(a0.Transitions.getD a2.toNat default).Actions.length) * 16≤140737488355328 then some ()else none) (fun x14=>(.p ((x13.2.length+(a0.Transitions.getD a2.toNat default).Actions.length) * 16≤140737488355328) (.fin 0))) (by intro x14 h;obtain⟨h1,h⟩:=if_some h;cases h;exact⟨h1,trivial⟩) (fun x14 _=>(c3 (p:=fun x15=>ObjL Tryz.prog 41 [(.ptr 658 0),(aI (a0.Transitions.getD a2.toNat default).To),(aI x12)] [(658,some (.cells (g27 a0++([(aI a1.Leaf),(.arr 656 1 (a1.Memory.length:Int).toNat),(.vec 960 1 (x13.2.length+(a0.Transitions.getD a2.toNat default).Actions.length))]:List AV)))),(656,some (.arr 1 (a1.Memory.length:Int).toNat (cF dI x13.1))),(960,some (.vec 9 1 (x13.2.length+(a0.Transitions.getD a2.toNat default).Actions.length) (appF x13.2.length (cF D.str x13.2) (cF D.str (a0.Transitions.getD a2.toNat default).Actions))))] 1088 (o43o1_2 a0 a1 x15)) (fun x15 (h1:m41o0 (a0.Transitions.getD a2.toNat default).To x12 a0 a1.Leaf (subL x13.1 0 (a1.Memory.length:Int).toNat) (x13.2++(a0.Transitions.getD a2.toNat default).Actions)=some _)=>objL_of (po41o0 h1) [(0,658),(1,656),(2,960)] [] [(658,0),(656,1),(960,2),(1088,384)] [] (by kernel_rfl) ⟨⟨rfl,rfl⟩,dr,dr,trivial⟩ ⟨⟨_,_,rfl,rfl,⟨rfl,de_sub0⟩⟩,⟨_,_,rfl,rfl,⟨rfl,rfl,(de_app dr dr)⟩⟩,⟨_,_,rfl,rfl,⟨dr,dr,dr,dr,dr,dr,dr,⟨rfl,rfl,(len_of (sz:=1) (e:=dI) (f:=(cF dI x13.1)) (l:=(subL x13.1 0 (a1.Memory.length:Int).toNat)) de_sub0)⟩,⟨rfl,rfl,(len_of (sz:=1) (e:=D.str) (f:=(appF x13.2.length (cF D.str x13.2) (cF D.str (a0.Transitions.getD a2.toNat default).Actions))) (l:=(x13.2++(a0.Transitions.getD a2.toNat default).Actions)) (de_app dr dr))⟩,trivial⟩⟩⟩ (by kernel_rfl) trivial ⟨⟨_,_,rfl,rfl,trivial⟩,⟨_,_,rfl,rfl,⟨rfl,(de_len (Eq.symm (len_of (sz:=1) (e:=dI) (f:=(cF dI x13.1)) (l:=(subL x13.1 0 (a1.Memory.length:Int).toNat)) de_sub0)))⟩⟩,⟨_,_,rfl,rfl,⟨rfl,rfl,dr⟩⟩,⟨_,_,rfl,rfl,⟨dr,dr,dr,dr,dr,dr,dr,⟨rfl,rfl,(Eq.symm (len_of (sz:=1) (e:=dI) (f:=(cF dI x13.1)) (l:=(subL x13.1 0 (a1.Memory.length:Int).toNat)) de_sub0))⟩,⟨rfl,rfl,rfl⟩,trivial⟩⟩⟩) fun x15=>(.lost .ret ⟨[(6,(.ptr 48 0)),(7,(.vec 1088 1 x15.2.2.length)),(8,(aI 0))],[(48,(.cells [(aI x15.1),(.arr 656 1 (a1.Memory.length:Int).toNat)])),(656,(.arr 1 (a1.Memory.length:Int).toNat (cF dI x15.2.1))),(1088,(.vec 9 1 x15.2.2.length (cF D.str x15.2.2)))],[],1280⟩))))))))))))))))))
noncomputable def m43o1 (a0:T27) (a1:T41) (a2:Int):Option (Int):=(d43o1 a0 a1 a2).m
theorem po43o1 {a0:T27} {a1:T41} {a2:Int} {r:Int} (h:m43o1 a0 a1 a2=some r):ObjF Tryz.prog 43 [(.d (e27 a0)),(.d (e41 a1)),(aI a2)] [] [] (q43o1 a0 a1 a2 r):=obj_jd (d43o1 a0 a1 a2) Tryz.func43 h
noncomputable abbrev z43o2_0 (a0:T27) (a1:T41):Ob:=(.cells (g27 a0++([(aI a1.Leaf),(.arr 656 1 (a1.Memory.length:Int).toNat),(.vec 657 1 ([]:List (List UInt8)).length)]:List AV)))
noncomputable def q43o2 (a0:T27) (a1:T41) (a2:Int) (y:(List (List UInt8))×Int×(List Int)):OF:=⟨(.tup [(.agg [(aI y.2.1),(.arr 656 1 (a1.Memory.length:Int).toNat)]),(.vec 1088 1 y.1.length),(aI 0)]),[(1088,(.vec 9 1 y.1.length (cF D.str y.1))),(656,(.arr 1 (a1.Memory.length:Int).toNat (cF dI y.2.2)))],[]⟩
noncomputable def o43o2_0 (a0:T27) (a1:T41) (x:Unit):OT:=⟨(.ptr 658 0),[],[],[(656,(.arr 1 (a1.Memory.length:Int).toNat (fun i=>if i < a1.Memory.length then(cF dI a1.Memory) i else(fun _=>(dI 0)) i))),(657,(.vec 9 1 ([]:List (List UInt8)).length (cF D.str ([]:List (List UInt8))))),(658,(z43o2_0 a0 a1))],[]⟩
noncomputable def o43o2_1 (a0:T27) (a1:T41) (x:((List Int)×(List (List UInt8)))):OT:=⟨(.tup []),[658,656,657],[],[(657,.gone),(656,(.arr 1 (a1.Memory.length:Int).toNat (cF dI x.1))),(832,(.vec 9 1 x.2.length (cF D.str x.2))),(658,(.cells (g27 a0++([(aI a1.Leaf),(.arr 656 1 (a1.Memory.length:Int).toNat),(.vec 832 1 x.2.length)]:List AV))))],[]⟩
noncomputable def o43o2_2 (a0:T27) (a1:T41) (x:(Int×(List Int)×(List (List UInt8)))):OT:=⟨(.tup []),[658,656,960],[],[(960,.gone),(656,(.arr 1 (a1.Memory.length:Int).toNat (cF dI x.2.1))),(1088,(.vec 9 1 x.2.2.length (cF D.str x.2.2))),(658,(.cells (g27 a0++([(aI x.1),(.arr 656 1 (a1.Memory.length:Int).toNat),(.vec 1088 1 x.2.2.length)]:List AV))))],[]⟩
noncomputable def d43o2 (a0:T27) (a1:T41) (a2:Int):JO Tryz.prog Tryz.f43 [(.d (e27 a0)),(.d (e41 a1)),(aI a2)] [] [] (q43o2 a0 a1 a2) :=
 (.sg [(1,tm1 14 dI),(4,tm1 21 D.bool),(9,⟨(List Int)×Bool,fun x=>[(42,(eSl 1 dI x.1)),(45,(.bool x.2))],fun x=>[],[]⟩),(11,⟨Unit,fun x=>[],fun x=>[(656,(o43o2_0 a0 a1 x))],[]⟩),(12,tm1 56 dI),(13,⟨((List Int)×(List (List UInt8))),fun x=>[],fun x=>[(832,(o43o2_1 a0 a1 x))],[]⟩),(14,⟨Unit,fun x=>[],fun x=>[],[961]⟩),(15,⟨(Int×(List Int)×(List (List UInt8))),fun x=>[],fun x=>[(1088,(o43o2_2 a0 a1 x))],[]⟩)] [(1,[6,7,8],[48,656,1088])] (c3 (@p20 a0) fun x1=>(.ite (x1 != 0) (.lost .ret ⟨[(6,(.ptr 48 0)),(7,aN),(8,(aI x1))],[(48,(.cells [(aI 0),aN]))],[],256⟩) (c3 (@p42 a0 a1) fun x4=>(.ite (!x4) (.lost .ret ⟨[(6,(.ptr 48 0)),(7,aN),(8,(aI 8))],[(48,(.cells [(aI 0),aN]))],[],304⟩) (.ite ((decide (a2 < 0)) || (decide ((a0.Transitions.length:Int)≤a2))) (.lost .ret ⟨[(6,(.ptr 48 0)),(7,aN),(8,(aI 2))],[(48,(.cells [(aI 0),aN]))],[],448⟩) (nd (0≤a2) (nd (a2 < (a0.Transitions.length:Int)) (.exi ((List Int)×Bool) ((m44 a0 a1.Leaf).bind fun r9_0=>((m45 r9_0 (a0.Transitions.getD a2.toNat default).From).bind fun r9_1=>some (r9_0,r9_1))) (fun x9=>(.p (PureAt Tryz.prog 44 [(e27 a0),(dI a1.Leaf)] (eSl 1 dI x9.1)) (.p (PureAt Tryz.prog 45 [(eSl 1 dI x9.1),(dI (a0.Transitions.getD a2.toNat default).From)] (.bool x9.2)) (.fin 0)))) (by intro x9 h;obtain⟨r9_0,h1,h⟩:=Option.bind_eq_some_iff.1 h;obtain⟨r9_1,h2,h⟩:=Option.bind_eq_some_iff.1 h;cases h;exact⟨p44 h1,p45 h2,trivial⟩) (fun x9 _=>(.ite (!x9.2) (.lost .ret ⟨[(6,(.ptr 48 0)),(7,aN),(8,(aI 9))],[(48,(.cells [(aI 0),aN]))],[],688⟩) (c3 (p:=fun x11=>ObjL Tryz.prog 39 [(.d (e27 a0)),(.d (e41 a1))] [] 656 (o43o2_0 a0 a1 x11)) (fun x11 (h1:m39o0 a0 a1=some _)=>ok [] [] [(656,112),(657,336),(658,304)] [] (po39o0 h1)) fun x11=>(c3 (@p80 a0 (a0.Transitions.getD a2.toNat default).From (a0.Transitions.getD a2.toNat default).To) fun x12=>(c3 (p:=fun x13=>ObjL Tryz.prog 81 [(.ptr 658 0),(aI x12)] [(658,some (z43o2_0 a0 a1)),(656,some (.arr 1 (a1.Memory.length:Int).toNat (fun i=>if i < a1.Memory.length then(cF dI a1.Memory) i else(fun _=>(dI 0)) i))),(657,some (.vec 9 1 ([]:List (List UInt8)).length (cF D.str ([]:List (List UInt8)))))] 832 (o43o2_1 a0 a1 x13)) (fun x13 (h1:m81o0 x12 a0 a1.Leaf (copyL (List.replicate (a1.Memory.length:Int).toNat (0:Int)) a1.Memory) ([]:List (List UInt8))=some _)=>objL_of (po81o0 h1) [(0,658),(1,656),(2,657)] [] [(658,0),(656,1),(657,2),(832,16)] [] (by kernel_rfl) ⟨⟨rfl,rfl⟩,dr,trivial⟩ ⟨⟨_,_,rfl,rfl,⟨rfl,(de_copy (z:=1) (sz':=1) de_rep dr)⟩⟩,⟨_,_,rfl,rfl,⟨rfl,rfl,dr⟩⟩,⟨_,_,rfl,rfl,⟨dr,dr,dr,dr,dr,dr,dr,⟨rfl,rfl,(len_of (sz:=1) (e:=dI) (f:=(fun i=>if i < a1.Memory.length then(cF dI a1.Memory) i else(fun _=>(dI 0)) i)) (l:=(copyL (List.replicate (a1.Memory.length:Int).toNat (0:Int)) a1.Memory)) (de_copy (z:=1) (sz':=1) de_rep dr))⟩,⟨rfl,rfl,rfl⟩,trivial⟩⟩⟩ (by kernel_rfl) trivial ⟨⟨_,_,rfl,rfl,trivial⟩,⟨_,_,rfl,rfl,⟨rfl,(de_len (Eq.symm (len_of (sz:=1) (e:=dI) (f:=(fun i=>if i < a1.Memory.length then(cF dI a1.Memory) i else(fun _=>(dI 0)) i)) (l:=(copyL (List.replicate (a1.Memory.length:Int).toNat (0:Int)) a1.Memory)) (de_copy (z:=1) (sz':=1) de_rep dr))))⟩⟩,⟨_,_,rfl,rfl,⟨rfl,rfl,dr⟩⟩,⟨_,_,rfl,rfl,⟨dr,dr,dr,dr,dr,dr,dr,⟨rfl,rfl,(Eq.symm (len_of (sz:=1) (e:=dI) (f:=(fun i=>if i < a1.Memory.length then(cF dI a1.Memory) i else(fun _=>(dI 0)) i)) (l:=(copyL (List.replicate (a1.Memory.length:Int).toNat (0:Int)) a1.Memory)) (de_copy (z:=1) (sz':=1) de_rep dr)))⟩,⟨rfl,rfl,rfl⟩,trivial⟩⟩⟩) fun x13=>(.exi (Unit) (if(x13.2.length+(a0.Transitions.getD a2.toNat default).Actions.length) * 16≤140737488355328 then some ()else none) (fun x14=>(.p ((x13.2.length+(a0.Transitions.getD a2.toNat default).Actions.length) * 16≤140737488355328) (.fin 0))) (by intro x14 h;obtain⟨h1,h⟩:=if_some h;cases h;exact⟨h1,trivial⟩) (fun x14 _=>(c3 (p:=fun x15=>ObjL Tryz.prog 41 [(.ptr 658 0),(aI (a0.Transitions.getD a2.toNat default).To),(aI x12)] [(658,some (.cells (g27 a0++([(aI a1.Leaf),(.arr 656 1 (a1.Memory.length:Int).toNat),(.vec 960 1 (x13.2.length+(a0.Transitions.getD a2.toNat default).Actions.length))]:List AV)))),(656,some (.arr 1 (a1.Memory.length:Int).toNat (cF dI x13.1))),(960,some (.vec 9 1 (x13.2.length+(a0.Transitions.getD a2.toNat default).Actions.length) (appF x13.2.length (cF D.str x13.2) (cF D.str (a0.Transitions.getD a2.toNat default).Actions))))] 1088 (o43o2_2 a0 a1 x15)) (fun x15 (h1:m41o0 (a0.Transitions.getD a2.toNat default).To x12 a0 a1.Leaf (subL x13.1 0 (a1.Memory.length:Int).toNat) (x13.2++(a0.Transitions.getD a2.toNat default).Actions)=some _)=>objL_of (po41o0 h1) [(0,658),(1,656),(2,960)] [] [(658,0),(656,1),(960,2),(1088,384)] [] (by kernel_rfl) ⟨⟨rfl,rfl⟩,dr,dr,trivial⟩ ⟨⟨_,_,rfl,rfl,⟨rfl,de_sub0⟩⟩,⟨_,_,rfl,rfl,⟨rfl,rfl,(de_app dr dr)⟩⟩,⟨_,_,rfl,rfl,⟨dr,dr,dr,dr,dr,dr,dr,⟨rfl,rfl,(len_of (sz:=1) (e:=dI) (f:=(cF dI x13.1)) (l:=(subL x13.1 0 (a1.Memory.length:Int).toNat)) de_sub0)⟩,⟨rfl,rfl,(len_of (sz:=1) (e:=D.str) (f:=(appF x13.2.length (cF D.str x13.2) (cF D.str (a0.Transitions.getD a2.toNat default).Actions))) (l:=(x13.2++(a0.Transitions.getD a2.toNat default).Actions)) (de_app dr dr))⟩,trivial⟩⟩⟩ (by kernel_rfl) trivial ⟨⟨_,_,rfl,rfl,trivial⟩,⟨_,_,rfl,rfl,⟨rfl,(de_len (Eq.symm (len_of (sz:=1) (e:=dI) (f:=(cF dI x13.1)) (l:=(subL x13.1 0 (a1.Memory.length:Int).toNat)) de_sub0)))⟩⟩,⟨_,_,rfl,rfl,⟨rfl,rfl,dr⟩⟩,⟨_,_,rfl,rfl,⟨dr,dr,dr,dr,dr,dr,dr,⟨rfl,rfl,(Eq.symm (len_of (sz:=1) (e:=dI) (f:=(cF dI x13.1)) (l:=(subL x13.1 0 (a1.Memory.length:Int).toNat)) de_sub0))⟩,⟨rfl,rfl,rfl⟩,trivial⟩⟩⟩) fun x15=>(.ret .ret ⟨[(6,(.ptr 48 0)),(7,(.vec 1088 1 x15.2.2.length)),(8,(aI 0))],[(48,(.cells [(aI x15.1),(.arr 656 1 (a1.Memory.length:Int).toNat)])),(656,(.arr 1 (a1.Memory.length:Int).toNat (cF dI x15.2.1))),(1088,(.vec 9 1 x15.2.2.length (cF D.str x15.2.2)))],[],1280⟩ (x15.2.2,x15.1,x15.2.1) ⟨rfl,(rk (idn [1088,656]) [] 1280)⟩))))))))))))))))))
noncomputable def m43o2 (a0:T27) (a1:T41) (a2:Int):Option ((List (List UInt8))×Int×(List Int)):=(d43o2 a0 a1 a2).m
theorem po43o2 {a0:T27} {a1:T41} {a2:Int} {r:(List (List UInt8))×Int×(List Int)} (h:m43o2 a0 a1 a2=some r):ObjF Tryz.prog 43 [(.d (e27 a0)),(.d (e41 a1)),(aI a2)] [] [] (q43o2 a0 a1 a2 r):=obj_jd (d43o2 a0 a1 a2) Tryz.func43 h
noncomputable abbrev z13o1_0:List (Nat×Ob):=[(48,(.cells [(aI 0),aN]))]
noncomputable def q13o1 (a0:T27) (a1:T41) (a2:Int) (y:Int):OF:=⟨(.tup [(.agg [(aI 0),aN]),(.vec 256 1 ([]:List (List UInt8)).length),(aI y)]),[(256,(.vec 9 1 ([]:List (List UInt8)).length (cF D.str ([]:List (List UInt8)))))],[]⟩
noncomputable def o13o1_0 (x:Int):OT:=⟨(.tup [(.agg [(aI 0),aN]),(.vec 576 1 ([]:List (List UInt8)).length),(aI x)]),[],[],[(576,(.vec 9 1 ([]:List (List UInt8)).length (cF D.str ([]:List (List UInt8)))))],[]⟩
noncomputable def o13o1_1 (a1:T41) (x:((List (List UInt8))×Int×(List Int))):OT:=⟨(.tup [(.agg [(aI x.2.1),(.arr 577 1 (a1.Memory.length:Int).toNat)]),(.vec 576 1 x.1.length),(aI 0)]),[],[],[(576,(.vec 9 1 x.1.length (cF D.str x.1))),(577,(.arr 1 (a1.Memory.length:Int).toNat (cF dI x.2.2)))],[]⟩
noncomputable def d13o1 (a0:T27) (a1:T41) (a2:Int):JO Tryz.prog Tryz.f13 [(.d (e27 a0)),(.d (e41 a1)),(.d (.int .u16 a2))] [] [] (q13o1 a0 a1 a2) :=
 (.or (.sg [(1,tm1 12 dI),(4,tm1 19 D.bool),(6,tm1 24 D.bool),(8,tm1 31 (eSl 1 dI)),(13,⟨Int,fun x=>[],fun x=>[(576,(o13o1_0 x))],[]⟩)] [(1,[6,7,8],[48,576])] (c3 (@p20 a0) fun x1=>(.ite (x1 != 0) (.ret .ret ⟨[(6,(.ptr 48 0)),(7,aN),(8,(aI x1))],z13o1_0,[],256⟩ x1 ⟨rfl,(retO_vec [(256,9,1,fun _=>.bad),(257,3,1,fun _=>.bad)] [] 258 (l1:=[(.agg [(aI 0),aN]),(.vec 256 1 0),(aI x1)]) (by rfl) (Nat.le_of_ble_eq_true rfl) (by kernel_rfl) (by kernel_rfl) (by exact trivial) (by exact(.same (.vec (.head _) (.same .nil)))) (retH_of [(256,256)] [] 689 (by kernel_rfl) (by kernel_rfl) (by exact⟨⟨dr,rfl,trivial⟩,⟨rfl,rfl,(len_of (sz:=1) (e:=D.str) (f:=(fun _=>.bad)) (l:=([]:List (List UInt8))) de_nil)⟩,dr,trivial⟩) (by exact⟨_,_,rfl,rfl,⟨rfl,rfl,de_nil⟩⟩)))⟩) (c3 (@p42 a0 a1) fun x4=>(.ite (!x4) (.ret .ret ⟨[(6,(.ptr 48 0)),(7,aN),(8,(aI 8))],z13o1_0,[],304⟩ (8:Int) ⟨rfl,(retO_vec [(304,9,1,fun _=>.bad),(305,3,1,fun _=>.bad)] [] 306 (l1:=[(.agg [(aI 0),aN]),(.vec 304 1 0),(aI 8)]) (by rfl) (Nat.le_of_ble_eq_true rfl) (by kernel_rfl) (by kernel_rfl) (by exact trivial) (by exact(.same (.vec (.head _) (.same .nil)))) (retH_of [(256,304)] [] 689 (by kernel_rfl) (by kernel_rfl) (by exact⟨⟨dr,rfl,trivial⟩,⟨rfl,rfl,(len_of (sz:=1) (e:=D.str) (f:=(fun _=>.bad)) (l:=([]:List (List UInt8))) de_nil)⟩,dr,trivial⟩) (by exact⟨_,_,rfl,rfl,⟨rfl,rfl,de_nil⟩⟩)))⟩) (c3 (@p19 a0 a2) fun x6=>(.ite (!x6) (.ret .ret ⟨[(6,(.ptr 48 0)),(7,aN),(8,(aI 1))],z13o1_0,[],368⟩ (1:Int) ⟨rfl,(retO_vec [(368,9,1,fun _=>.bad),(369,3,1,fun _=>.bad)] [] 370 (l1:=[(.agg [(aI 0),aN]),(.vec 368 1 0),(aI 1)]) (by rfl) (Nat.le_of_ble_eq_true rfl) (by kernel_rfl) (by kernel_rfl) (by exact trivial) (by exact(.same (.vec (.head _) (.same .nil)))) (retH_of [(256,368)] [] 689 (by kernel_rfl) (by kernel_rfl) (by exact⟨⟨dr,rfl,trivial⟩,⟨rfl,rfl,(len_of (sz:=1) (e:=D.str) (f:=(fun _=>.bad)) (l:=([]:List (List UInt8))) de_nil)⟩,dr,trivial⟩) (by exact⟨_,_,rfl,rfl,⟨rfl,rfl,de_nil⟩⟩)))⟩) (c3 (@p18 a0 a1.Leaf a2) fun x8=>(.ite ((x8.length:Int)==(0:Int)) (.ret .ret ⟨[(6,(.ptr 48 0)),(7,aN),(8,(aI 6))],z13o1_0,[],528⟩ (6:Int) ⟨rfl,(retO_vec [(528,9,1,fun _=>.bad),(529,3,1,fun _=>.bad)] [] 530 (l1:=[(.agg [(aI 0),aN]),(.vec 528 1 0),(aI 6)]) (by rfl) (Nat.le_of_ble_eq_true rfl) (by kernel_rfl) (by kernel_rfl) (by exact trivial) (by exact(.same (.vec (.head _) (.same .nil)))) (retH_of [(256,528)] [] 689 (by kernel_rfl) (by kernel_rfl) (by exact⟨⟨dr,rfl,trivial⟩,⟨rfl,rfl,(len_of (sz:=1) (e:=D.str) (f:=(fun _=>.bad)) (l:=([]:List (List UInt8))) de_nil)⟩,dr,trivial⟩) (by exact⟨_,_,rfl,rfl,⟨rfl,rfl,de_nil⟩⟩)))⟩) (.ite ((x8.length:Int)==(1:Int)) (.exi (Int) (if(0:Int)≤(0:Int)then(if 0 < (x8.length:Int)then((m43o1 a0 a1 (x8.getD (0:Int).toNat default)).bind fun r13_0=>some r13_0)else none)else none) (fun x13=>(.p ((0:Int)≤(0:Int)) (.p (0 < (x8.length:Int)) (.p (ObjL Tryz.prog 43 [(.d (e27 a0)),(.d (e41 a1)),(aI (x8.getD (0:Int).toNat default))] [] 576 (o13o1_0 x13)) (.fin 0))))) (by intro x13 h;obtain⟨h1,h⟩:=if_some h;obtain⟨h2,h⟩:=if_some h;obtain⟨r13_0,h3,h⟩:=Option.bind_eq_some_iff.1 h;cases h;exact⟨h1,h2,ok [] [] [(576,256)] [] (po43o1 h3),trivial⟩) (fun x13 _=>(.ret .ret ⟨[(6,(.ptr 48 0)),(7,(.vec 576 1 ([]:List (List UInt8)).length)),(8,(aI x13))],[(48,(.cells [(aI 0),aN])),(576,(.vec 9 1 ([]:List (List UInt8)).length (cF D.str ([]:List (List UInt8)))))],[],688⟩ x13 ⟨rfl,(retO_vec [(688,3,1,fun _=>.bad)] [(576,(.vec 9 1 ([]:List (List UInt8)).length (cF D.str ([]:List (List UInt8)))))] 689 (l1:=[(.agg [(aI 0),aN]),(.vec 576 1 ([]:List (List UInt8)).length),(aI x13)]) (by rfl) (Nat.le_of_ble_eq_true rfl) (by kernel_rfl) (by kernel_rfl) (by exact .inl rfl) (by exact(.same (.same (.same .nil)))) (retH_of [(256,576)] [] 689 (by kernel_rfl) (by kernel_rfl) (by exact⟨⟨dr,rfl,trivial⟩,⟨rfl,rfl,rfl⟩,dr,trivial⟩) (by exact⟨_,_,rfl,rfl,⟨rfl,rfl,dr⟩⟩)))⟩))) (.ret .ret ⟨[(6,(.ptr 48 0)),(7,aN),(8,(aI 11))],z13o1_0,[],560⟩ (11:Int) ⟨rfl,(retO_vec [(560,9,1,fun _=>.bad),(561,3,1,fun _=>.bad)] [] 562 (l1:=[(.agg [(aI 0),aN]),(.vec 560 1 0),(aI 11)]) (by rfl) (Nat.le_of_ble_eq_true rfl) (by kernel_rfl) (by kernel_rfl) (by exact trivial) (by exact(.same (.vec (.head _) (.same .nil)))) (retH_of [(256,560)] [] 689 (by kernel_rfl) (by kernel_rfl) (by exact⟨⟨dr,rfl,trivial⟩,⟨rfl,rfl,(len_of (sz:=1) (e:=D.str) (f:=(fun _=>.bad)) (l:=([]:List (List UInt8))) de_nil)⟩,dr,trivial⟩) (by exact⟨_,_,rfl,rfl,⟨rfl,rfl,de_nil⟩⟩)))⟩))))))))))) (.sg [(1,tm1 12 dI),(4,tm1 19 D.bool),(6,tm1 24 D.bool),(8,tm1 31 (eSl 1 dI)),(13,⟨((List (List UInt8))×Int×(List Int)),fun x=>[],fun x=>[(576,(o13o1_1 a1 x))],[]⟩)] [(1,[6,7,8],[48,577,576])] (c3 (@p20 a0) fun x1=>(.ite (x1 != 0) (.ret .ret ⟨[(6,(.ptr 48 0)),(7,aN),(8,(aI x1))],z13o1_0,[],256⟩ x1 ⟨rfl,(retO_vec [(256,9,1,fun _=>.bad),(257,3,1,fun _=>.bad)] [] 258 (l1:=[(.agg [(aI 0),aN]),(.vec 256 1 0),(aI x1)]) (by rfl) (Nat.le_of_ble_eq_true rfl) (by kernel_rfl) (by kernel_rfl) (by exact trivial) (by exact(.same (.vec (.head _) (.same .nil)))) (retH_of [(256,256)] [] 689 (by kernel_rfl) (by kernel_rfl) (by exact⟨⟨dr,rfl,trivial⟩,⟨rfl,rfl,(len_of (sz:=1) (e:=D.str) (f:=(fun _=>.bad)) (l:=([]:List (List UInt8))) de_nil)⟩,dr,trivial⟩) (by exact⟨_,_,rfl,rfl,⟨rfl,rfl,de_nil⟩⟩)))⟩) (c3 (@p42 a0 a1) fun x4=>(.ite (!x4) (.ret .ret ⟨[(6,(.ptr 48 0)),(7,aN),(8,(aI 8))],z13o1_0,[],304⟩ (8:Int) ⟨rfl,(retO_vec [(304,9,1,fun _=>.bad),(305,3,1,fun _=>.bad)] [] 306 (l1:=[(.agg [(aI 0),aN]),(.vec 304 1 0),(aI 8)]) (by rfl) (Nat.le_of_ble_eq_true rfl) (by kernel_rfl) (by kernel_rfl) (by exact trivial) (by exact(.same (.vec (.head _) (.same .nil)))) (retH_of [(256,304)] [] 689 (by kernel_rfl) (by kernel_rfl) (by exact⟨⟨dr,rfl,trivial⟩,⟨rfl,rfl,(len_of (sz:=1) (e:=D.str) (f:=(fun _=>.bad)) (l:=([]:List (List UInt8))) de_nil)⟩,dr,trivial⟩) (by exact⟨_,_,rfl,rfl,⟨rfl,rfl,de_nil⟩⟩)))⟩) (c3 (@p19 a0 a2) fun x6=>(.ite (!x6) (.ret .ret ⟨[(6,(.ptr 48 0)),(7,aN),(8,(aI 1))],z13o1_0,[],368⟩ (1:Int) ⟨rfl,(retO_vec [(368,9,1,fun _=>.bad),(369,3,1,fun _=>.bad)] [] 370 (l1:=[(.agg [(aI 0),aN]),(.vec 368 1 0),(aI 1)]) (by rfl) (Nat.le_of_ble_eq_true rfl) (by kernel_rfl) (by kernel_rfl) (by exact trivial) (by exact(.same (.vec (.head _) (.same .nil)))) (retH_of [(256,368)] [] 689 (by kernel_rfl) (by kernel_rfl) (by exact⟨⟨dr,rfl,trivial⟩,⟨rfl,rfl,(len_of (sz:=1) (e:=D.str) (f:=(fun _=>.bad)) (l:=([]:List (List UInt8))) de_nil)⟩,dr,trivial⟩) (by exact⟨_,_,rfl,rfl,⟨rfl,rfl,de_nil⟩⟩)))⟩) (c3 (@p18 a0 a1.Leaf a2) fun x8=>(.ite ((x8.length:Int)==(0:Int)) (.ret .ret ⟨[(6,(.ptr 48 0)),(7,aN),(8,(aI 6))],z13o1_0,[],528⟩ (6:Int) ⟨rfl,(retO_vec [(528,9,1,fun _=>.bad),(529,3,1,fun _=>.bad)] [] 530 (l1:=[(.agg [(aI 0),aN]),(.vec 528 1 0),(aI 6)]) (by rfl) (Nat.le_of_ble_eq_true rfl) (by kernel_rfl) (by kernel_rfl) (by exact trivial) (by exact(.same (.vec (.head _) (.same .nil)))) (retH_of [(256,528)] [] 689 (by kernel_rfl) (by kernel_rfl) (by exact⟨⟨dr,rfl,trivial⟩,⟨rfl,rfl,(len_of (sz:=1) (e:=D.str) (f:=(fun _=>.bad)) (l:=([]:List (List UInt8))) de_nil)⟩,dr,trivial⟩) (by exact⟨_,_,rfl,rfl,⟨rfl,rfl,de_nil⟩⟩)))⟩) (.ite ((x8.length:Int)==(1:Int)) (.exi (((List (List UInt8))×Int×(List Int))) (if(0:Int)≤(0:Int)then(if 0 < (x8.length:Int)then((m43o2 a0 a1 (x8.getD (0:Int).toNat default)).bind fun r13_0=>some r13_0)else none)else none) (fun x13=>(.p ((0:Int)≤(0:Int)) (.p (0 < (x8.length:Int)) (.p (ObjL Tryz.prog 43 [(.d (e27 a0)),(.d (e41 a1)),(aI (x8.getD (0:Int).toNat default))] [] 576 (o13o1_1 a1 x13)) (.fin 0))))) (by intro x13 h;obtain⟨h1,h⟩:=if_some h;obtain⟨h2,h⟩:=if_some h;obtain⟨r13_0,h3,h⟩:=Option.bind_eq_some_iff.1 h;cases h;exact⟨h1,h2,ok [] [] [(576,1088),(577,656)] [] (po43o2 h3),trivial⟩) (fun x13 _=>(.lost .ret ⟨[(6,(.ptr 48 0)),(7,(.vec 576 1 x13.1.length)),(8,(aI 0))],[(48,(.cells [(aI x13.2.1),(.arr 577 1 (a1.Memory.length:Int).toNat)])),(577,(.arr 1 (a1.Memory.length:Int).toNat (cF dI x13.2.2))),(576,(.vec 9 1 x13.1.length (cF D.str x13.1)))],[],688⟩))) (.ret .ret ⟨[(6,(.ptr 48 0)),(7,aN),(8,(aI 11))],z13o1_0,[],560⟩ (11:Int) ⟨rfl,(retO_vec [(560,9,1,fun _=>.bad),(561,3,1,fun _=>.bad)] [] 562 (l1:=[(.agg [(aI 0),aN]),(.vec 560 1 0),(aI 11)]) (by rfl) (Nat.le_of_ble_eq_true rfl) (by kernel_rfl) (by kernel_rfl) (by exact trivial) (by exact(.same (.vec (.head _) (.same .nil)))) (retH_of [(256,560)] [] 689 (by kernel_rfl) (by kernel_rfl) (by exact⟨⟨dr,rfl,trivial⟩,⟨rfl,rfl,(len_of (sz:=1) (e:=D.str) (f:=(fun _=>.bad)) (l:=([]:List (List UInt8))) de_nil)⟩,dr,trivial⟩) (by exact⟨_,_,rfl,rfl,⟨rfl,rfl,de_nil⟩⟩)))⟩))))))))))))
noncomputable def m13o1 (a0:T27) (a1:T41) (a2:Int):Option (Int):=(d13o1 a0 a1 a2).m
theorem po13o1 {a0:T27} {a1:T41} {a2:Int} {r:Int} (h:m13o1 a0 a1 a2=some r):ObjF Tryz.prog 13 [(.d (e27 a0)),(.d (e41 a1)),(.d (.int .u16 a2))] [] [] (q13o1 a0 a1 a2 r):=obj_jd (d13o1 a0 a1 a2) Tryz.func13 h
noncomputable def d14 (a0 a1:T41):JF Tryz.prog Tryz.f14 [(e41 a0),(e41 a1)] (fun(r:Bool)=>(.bool r)) :=
 (.sg [(1,tm1 15 D.bool)] [(1,[4],[])] (.exi (Bool) ((if(a0.Leaf==a1.Leaf)=true then m16 a0.Memory a1.Memory else some default).bind fun r1_0=>some r1_0) (fun x1=>(.g (a0.Leaf==a1.Leaf) (PureAt Tryz.prog 16 [(eSl 1 dI a0.Memory),(eSl 1 dI a1.Memory)] (.bool x1)) (.fin 0))) (by intro x1 h;obtain⟨r1_0,h1,h⟩:=Option.bind_eq_some_iff.1 h;cases h;exact⟨fun g=>p16 (by rw[if_pos g]at h1;exact h1),trivial⟩) (fun x1 _=>(.ret .ret ⟨[(4,(aB ((a0.Leaf==a1.Leaf)&&x1)))],[],[],272⟩ ((a0.Leaf==a1.Leaf)&&x1) ⟨rfl,_,Weak.refl _,dr⟩))))
noncomputable def m14 (a0 a1:T41):Option (Bool):=(d14 a0 a1).m
theorem p14 {a0:T41} {a1:T41} {r:Bool} (h:m14 a0 a1=some r):PureAt Tryz.prog 14 [(e41 a0),(e41 a1)] (.bool r):=pure_jd (d14 a0 a1) Tryz.func14 h
noncomputable abbrev z13o2_0:List (Nat×Ob):=[(48,(.cells [(aI 0),aN]))]
noncomputable def q13o2 (a0:T27) (a1:T41) (a2:Int) (y:(List (List UInt8))×Int×(List Int)):OF:=⟨(.tup [(.agg [(aI y.2.1),(.arr 577 1 (a1.Memory.length:Int).toNat)]),(.vec 576 1 y.1.length),(aI 0)]),[(576,(.vec 9 1 y.1.length (cF D.str y.1))),(577,(.arr 1 (a1.Memory.length:Int).toNat (cF dI y.2.2)))],[]⟩
noncomputable def o13o2_0 (x:Int):OT:=⟨(.tup [(.agg [(aI 0),aN]),(.vec 576 1 ([]:List (List UInt8)).length),(aI x)]),[],[],[(576,(.vec 9 1 ([]:List (List UInt8)).length (cF D.str ([]:List (List UInt8)))))],[]⟩
noncomputable def o13o2_1 (a1:T41) (x:((List (List UInt8))×Int×(List Int))):OT:=⟨(.tup [(.agg [(aI x.2.1),(.arr 577 1 (a1.Memory.length:Int).toNat)]),(.vec 576 1 x.1.length),(aI 0)]),[],[],[(576,(.vec 9 1 x.1.length (cF D.str x.1))),(577,(.arr 1 (a1.Memory.length:Int).toNat (cF dI x.2.2)))],[]⟩
noncomputable def d13o2 (a0:T27) (a1:T41) (a2:Int):JO Tryz.prog Tryz.f13 [(.d (e27 a0)),(.d (e41 a1)),(.d (.int .u16 a2))] [] [] (q13o2 a0 a1 a2) :=
 (.or (.sg [(1,tm1 12 dI),(4,tm1 19 D.bool),(6,tm1 24 D.bool),(8,tm1 31 (eSl 1 dI)),(13,⟨Int,fun x=>[],fun x=>[(576,(o13o2_0 x))],[]⟩)] [(1,[6,7,8],[48,576])] (c3 (@p20 a0) fun x1=>(.ite (x1 != 0) (.lost .ret ⟨[(6,(.ptr 48 0)),(7,aN),(8,(aI x1))],z13o2_0,[],256⟩) (c3 (@p42 a0 a1) fun x4=>(.ite (!x4) (.lost .ret ⟨[(6,(.ptr 48 0)),(7,aN),(8,(aI 8))],z13o2_0,[],304⟩) (c3 (@p19 a0 a2) fun x6=>(.ite (!x6) (.lost .ret ⟨[(6,(.ptr 48 0)),(7,aN),(8,(aI 1))],z13o2_0,[],368⟩) (c3 (@p18 a0 a1.Leaf a2) fun x8=>(.ite ((x8.length:Int)==(0:Int)) (.lost .ret ⟨[(6,(.ptr 48 0)),(7,aN),(8,(aI 6))],z13o2_0,[],528⟩) (.ite ((x8.length:Int)==(1:Int)) (.exi (Int) (if(0:Int)≤(0:Int)then(if 0 < (x8.length:Int)then((m43o1 a0 a1 (x8.getD (0:Int).toNat default)).bind fun r13_0=>some r13_0)else none)else none) (fun x13=>(.p ((0:Int)≤(0:Int)) (.p (0 < (x8.length:Int)) (.p (ObjL Tryz.prog 43 [(.d (e27 a0)),(.d (e41 a1)),(aI (x8.getD (0:Int).toNat default))] [] 576 (o13o2_0 x13)) (.fin 0))))) (by intro x13 h;obtain⟨h1,h⟩:=if_some h;obtain⟨h2,h⟩:=if_some h;obtain⟨r13_0,h3,h⟩:=Option.bind_eq_some_iff.1 h;cases h;exact⟨h1,h2,ok [] [] [(576,256)] [] (po43o1 h3),trivial⟩) (fun x13 _=>(.lost .ret ⟨[(6,(.ptr 48 0)),(7,(.vec 576 1 ([]:List (List UInt8)).length)),(8,(aI x13))],[(48,(.cells [(aI 0),aN])),(576,(.vec 9 1 ([]:List (List UInt8)).length (cF D.str ([]:List (List UInt8)))))],[],688⟩))) (.lost .ret ⟨[(6,(.ptr 48 0)),(7,aN),(8,(aI 11))],z13o2_0,[],560⟩))))))))))) (.sg [(1,tm1 12 dI),(4,tm1 19 D.bool),(6,tm1 24 D.bool),(8,tm1 31 (eSl 1 dI)),(13,⟨((List (List UInt8))×Int×(List Int)),fun x=>[],fun x=>[(576,(o13o2_1 a1 x))],[]⟩)] [(1,[6,7,8],[48,577,576])] (c3 (@p20 a0) fun x1=>(.ite (x1 != 0) (.lost .ret ⟨[(6,(.ptr 48 0)),(7,aN),(8,(aI x1))],z13o2_0,[],256⟩) (c3 (@p42 a0 a1) fun x4=>(.ite (!x4) (.lost .ret ⟨[(6,(.ptr 48 0)),(7,aN),(8,(aI 8))],z13o2_0,[],304⟩) (c3 (@p19 a0 a2) fun x6=>(.ite (!x6) (.lost .ret ⟨[(6,(.ptr 48 0)),(7,aN),(8,(aI 1))],z13o2_0,[],368⟩) (c3 (@p18 a0 a1.Leaf a2) fun x8=>(.ite ((x8.length:Int)==(0:Int)) (.lost .ret ⟨[(6,(.ptr 48 0)),(7,aN),(8,(aI 6))],z13o2_0,[],528⟩) (.ite ((x8.length:Int)==(1:Int)) (.exi (((List (List UInt8))×Int×(List Int))) (if(0:Int)≤(0:Int)then(if 0 < (x8.length:Int)then((m43o2 a0 a1 (x8.getD (0:Int).toNat default)).bind fun r13_0=>some r13_0)else none)else none) (fun x13=>(.p ((0:Int)≤(0:Int)) (.p (0 < (x8.length:Int)) (.p (ObjL Tryz.prog 43 [(.d (e27 a0)),(.d (e41 a1)),(aI (x8.getD (0:Int).toNat default))] [] 576 (o13o2_1 a1 x13)) (.fin 0))))) (by intro x13 h;obtain⟨h1,h⟩:=if_some h;obtain⟨h2,h⟩:=if_some h;obtain⟨r13_0,h3,h⟩:=Option.bind_eq_some_iff.1 h;cases h;exact⟨h1,h2,ok [] [] [(576,1088),(577,656)] [] (po43o2 h3),trivial⟩) (fun x13 _=>(.ret .ret ⟨[(6,(.ptr 48 0)),(7,(.vec 576 1 x13.1.length)),(8,(aI 0))],[(48,(.cells [(aI x13.2.1),(.arr 577 1 (a1.Memory.length:Int).toNat)])),(577,(.arr 1 (a1.Memory.length:Int).toNat (cF dI x13.2.2))),(576,(.vec 9 1 x13.1.length (cF D.str x13.1)))],[],688⟩ (x13.1,x13.2.1,x13.2.2) ⟨rfl,(rk (idn [576,577]) [] 688)⟩))) (.lost .ret ⟨[(6,(.ptr 48 0)),(7,aN),(8,(aI 11))],z13o2_0,[],560⟩))))))))))))
noncomputable def m13o2 (a0:T27) (a1:T41) (a2:Int):Option ((List (List UInt8))×Int×(List Int)):=(d13o2 a0 a1 a2).m
theorem po13o2 {a0:T27} {a1:T41} {a2:Int} {r:(List (List UInt8))×Int×(List Int)} (h:m13o2 a0 a1 a2=some r):ObjF Tryz.prog 13 [(.d (e27 a0)),(.d (e41 a1)),(.d (.int .u16 a2))] [] [] (q13o2 a0 a1 a2 r):=obj_jd (d13o2 a0 a1 a2) Tryz.func13 h
noncomputable abbrev z4_0 (y5:(List (List UInt8))×(List (List UInt8))×(List UInt8)×(List (List UInt8))×(List (List T118))×(List T56)×Int×(List T58)×(List UInt8)×(List (List UInt8))×(List (List T118))×(List T56)×Int×(List T58)×Int×(List Int)×Int×(List Int)×Int×(List Int)×Nat):Ob:=(.cells [(aS y5.2.2.2.2.2.2.2.2.1),(.d (eSl 1 D.str y5.2.2.2.2.2.2.2.2.2.1)),(.d (eSl 1 (eSl 2 e118) y5.2.2.2.2.2.2.2.2.2.2.1)),(.d (eSl 6 e56 y5.2.2.2.2.2.2.2.2.2.2.2.1)),(aI y5.2.2.2.2.2.2.2.2.2.2.2.2.1),(.d (eSl 4 e58 y5.2.2.2.2.2.2.2.2.2.2.2.2.2.1))])
noncomputable abbrev z4_1 (y1:(List (List UInt8))×(List UInt8)×(List (List UInt8))×(List (List T118))×(List T56)×Int×(List T58)×(List UInt8)×(List (List UInt8))×(List (List T118))×(List T56)×Int×(List T58)×Int×(List Int)×Int×(List Int)):Ob:=(.cells [(aS y1.2.2.2.2.2.2.2.1),(.d (eSl 1 D.str y1.2.2.2.2.2.2.2.2.1)),(.d (eSl 1 (eSl 2 e118) y1.2.2.2.2.2.2.2.2.2.1)),(.d (eSl 6 e56 y1.2.2.2.2.2.2.2.2.2.2.1)),(aI y1.2.2.2.2.2.2.2.2.2.2.2.1),(.d (eSl 4 e58 y1.2.2.2.2.2.2.2.2.2.2.2.2.1))])
noncomputable abbrev z4_2 (y5:(List (List UInt8))×(List (List UInt8))×(List UInt8)×(List (List UInt8))×(List (List T118))×(List T56)×Int×(List T58)×(List UInt8)×(List (List UInt8))×(List (List T118))×(List T56)×Int×(List T58)×Int×(List Int)×Int×(List Int)×Int×(List Int)×Nat):Ob:=(.cells [(aS y5.2.2.1),(.d (eSl 1 D.str y5.2.2.2.1)),(.d (eSl 1 (eSl 2 e118) y5.2.2.2.2.1)),(.d (eSl 6 e56 y5.2.2.2.2.2.1)),(aI y5.2.2.2.2.2.2.1),(.d (eSl 4 e58 y5.2.2.2.2.2.2.2.1))])
noncomputable abbrev z4_3 (y1:(List (List UInt8))×(List UInt8)×(List (List UInt8))×(List (List T118))×(List T56)×Int×(List T58)×(List UInt8)×(List (List UInt8))×(List (List T118))×(List T56)×Int×(List T58)×Int×(List Int)×Int×(List Int)):Ob:=(.cells [(aS y1.2.1),(.d (eSl 1 D.str y1.2.2.1)),(.d (eSl 1 (eSl 2 e118) y1.2.2.2.1)),(.d (eSl 6 e56 y1.2.2.2.2.1)),(aI y1.2.2.2.2.2.1),(.d (eSl 4 e58 y1.2.2.2.2.2.2.1))])
noncomputable abbrev z4_4 (y5:(List (List UInt8))×(List (List UInt8))×(List UInt8)×(List (List UInt8))×(List (List T118))×(List T56)×Int×(List T58)×(List UInt8)×(List (List UInt8))×(List (List T118))×(List T56)×Int×(List T58)×Int×(List Int)×Int×(List Int)×Int×(List Int)×Nat):Ob:=(.cells [(aI y5.2.2.2.2.2.2.2.2.2.2.2.2.2.2.2.2.1),(.d (eSl 1 dI y5.2.2.2.2.2.2.2.2.2.2.2.2.2.2.2.2.2.1))])
noncomputable abbrev z4_5 (y5:(List (List UInt8))×(List (List UInt8))×(List UInt8)×(List (List UInt8))×(List (List T118))×(List T56)×Int×(List T58)×(List UInt8)×(List (List UInt8))×(List (List T118))×(List T56)×Int×(List T58)×Int×(List Int)×Int×(List Int)×Int×(List Int)×Nat):Ob:=(.cells [(aI y5.2.2.2.2.2.2.2.2.2.2.2.2.2.2.1),(.d (eSl 1 dI y5.2.2.2.2.2.2.2.2.2.2.2.2.2.2.2.1))])
noncomputable abbrev z4_6 (y1:(List (List UInt8))×(List UInt8)×(List (List UInt8))×(List (List T118))×(List T56)×Int×(List T58)×(List UInt8)×(List (List UInt8))×(List (List T118))×(List T56)×Int×(List T58)×Int×(List Int)×Int×(List Int)):Ob:=(.cells [(aI y1.2.2.2.2.2.2.2.2.2.2.2.2.2.2.2.1),(.d (eSl 1 dI y1.2.2.2.2.2.2.2.2.2.2.2.2.2.2.2.2))])
noncomputable abbrev z4_7 (y1:(List (List UInt8))×(List UInt8)×(List (List UInt8))×(List (List T118))×(List T56)×Int×(List T58)×(List UInt8)×(List (List UInt8))×(List (List T118))×(List T56)×Int×(List T58)×Int×(List Int)×Int×(List Int)):Ob:=(.cells [(aI y1.2.2.2.2.2.2.2.2.2.2.2.2.2.1),(.d (eSl 1 dI y1.2.2.2.2.2.2.2.2.2.2.2.2.2.2.1))])
noncomputable abbrev z4_8 (y1:(List (List UInt8))×(List UInt8)×(List (List UInt8))×(List (List T118))×(List T56)×Int×(List T58)×(List UInt8)×(List (List UInt8))×(List (List T118))×(List T56)×Int×(List T58)×Int×(List Int)×Int×(List Int)):St:=⟨[(2,(.ptr 16 0)),(5,(.ptr 160 0)),(6,(.ptr 288 0)),(7,(.vec 208 1 y1.1.length)),(9,(.ptr 416 0)),(10,(.ptr 576 0)),(11,(.vec 496 1 ([]:List (List UInt8)).length)),(45,(aI 0)),(46,(aI 0))],[(208,(.vec 9 1 y1.1.length (cF D.str y1.1))),(496,(.vec 9 1 ([]:List (List UInt8)).length (cF D.str ([]:List (List UInt8))))),(16,(z4_3 y1)),(160,(z4_1 y1)),(288,(z4_7 y1)),(416,(z4_6 y1)),(576,(.cells [(aI 0),aN]))],[],704⟩
noncomputable abbrev z4_9:AV:=(aI (([]:List (List UInt8)).length:Int))
noncomputable def o4_0 (x:(Int×(List (List UInt8))×Int×(List Int))):OT:=⟨(.tup [(.d (.agg [(dI x.2.2.1),(eSl 1 dI x.2.2.2)])),(.vec 208 1 x.2.1.length),(aI x.1)]),[],[],[(208,(.vec 9 1 x.2.1.length (cF D.str x.2.1)))],[]⟩
noncomputable def o4_1 (x:Int):OT:=⟨(.tup [(.agg [(aI 0),aN]),(.vec 496 1 ([]:List (List UInt8)).length),(aI x)]),[],[],[(496,(.vec 9 1 ([]:List (List UInt8)).length (cF D.str ([]:List (List UInt8)))))],[]⟩
noncomputable def o4_2 (x:((List (List UInt8))×Int×(List Int))×(Int×(List (List UInt8))×Int×(List Int))):OT:=⟨(.tup [(.agg [(aI x.1.2.1),(.arr 497 1 ((⟨x.2.2.2.1,x.2.2.2.2⟩:T41).Memory.length:Int).toNat)]),(.vec 496 1 x.1.1.length),(aI 0)]),[],[],[(496,(.vec 9 1 x.1.1.length (cF D.str x.1.1))),(497,(.arr 1 ((⟨x.2.2.2.1,x.2.2.2.2⟩:T41).Memory.length:Int).toNat (cF dI x.1.2.2)))],[]⟩
noncomputable def d4 (a0:T27) (a1:Int):JF Tryz.prog Tryz.f4 [(e27 a0),(.int .u16 a1)] (fun(r:Bool)=>(.bool r)) :=
 (.or (.sq 8 [(1,tm1 16 D.bool),(3,tm1 19 e27),(4,tm1 21 e27),(5,⟨(Int×(List (List UInt8))×Int×(List Int)),fun x=>[],fun x=>[(208,(o4_0 x))],[]⟩),(7,tm1 32 D.bool),(8,tm1 34 e41),(9,⟨Int,fun x=>[],fun x=>[(496,(o4_1 x))],[]⟩)] [(1,[4],[]),(0,[2,5,6,7,9,10,11],[208,496,16,160,288,416,576])] (fun(y1:(List (List UInt8))×(List UInt8)×(List (List UInt8))×(List (List T118))×(List T56)×Int×(List T58)×(List UInt8)×(List (List UInt8))×(List (List T118))×(List T56)×Int×(List T58)×Int×(List Int)×Int×(List Int))=>⟨[(2,(.ptr 16 0)),(5,(.ptr 160 0)),(6,(.ptr 288 0)),(7,(.vec 208 1 y1.1.length)),(9,(.ptr 416 0)),(10,(.ptr 576 0)),(11,(.vec 496 1 ([]:List (List UInt8)).length))],[(208,(.vec 9 1 y1.1.length (cF D.str y1.1))),(496,(.vec 9 1 ([]:List (List UInt8)).length (cF D.str ([]:List (List UInt8))))),(16,(z4_3 y1)),(160,(z4_1 y1)),(288,(z4_7 y1)),(416,(z4_6 y1)),(576,(.cells [(aI 0),aN]))],[],640⟩) (c3 (@p5) fun x1=>(.ite (!x1) (.ret .ret ⟨[(4,(aB false))],[],[],96⟩ (.inr (false)) ⟨rfl,rfl,_,Weak.refl _,dr⟩) (c3 (@p6 a0) fun x3=>(c3 (@p6 x3) fun x4=>(c3 (p:=fun x5=>ObjL Tryz.prog 11 [(.d (e27 x3))] [] 208 (o4_0 x5)) (fun x5 (h1:m11o0 x3=some _)=>ok [] [] [(208,240)] [] (po11o0 h1)) fun x5=>(.ite (x5.1 != 0) (c3 (@p10 x3 x4) fun x7=>(.ret .ret ⟨[(4,(aB x7))],[],[],448⟩ (.inr (x7)) ⟨rfl,rfl,_,Weak.refl _,dr⟩)) (c3 (@p12 (⟨x5.2.2.1,x5.2.2.2⟩:T41)) fun x8=>(c3 (p:=fun x9=>ObjL Tryz.prog 13 [(.d (e27 x3)),(.d (.agg [(dI x5.2.2.1),(eSl 1 dI x5.2.2.2)])),(.d (.int .u16 a1))] [] 496 (o4_1 x9)) (fun x9 (h1:m13o1 x3 (⟨x5.2.2.1,x5.2.2.2⟩:T41) a1=some _)=>ok [] [] [(496,256)] [] (po13o1 h1)) fun x9=>(.nx (x5.2.1,x3.Name,x3.Conds,x3.Never,x3.States,x3.Start,x3.Transitions,x4.Name,x4.Conds,x4.Never,x4.States,x4.Start,x4.Transitions,x5.2.2.1,x5.2.2.2,x8.Leaf,x8.Memory)))))))))) (fun y1=>(.sc (fun(_:Unit)=>⟨[(2,(.ptr 16 0)),(5,(.ptr 160 0)),(6,(.ptr 288 0)),(7,(.vec 208 1 y1.1.length)),(9,(.ptr 416 0)),(11,(.vec 496 1 ([]:List (List UInt8)).length))],[(208,(.vec 9 1 y1.1.length (cF D.str y1.1))),(496,(.vec 9 1 ([]:List (List UInt8)).length (cF D.str ([]:List (List UInt8))))),(16,(z4_3 y1)),(160,(z4_1 y1)),(288,(z4_7 y1)),(416,(z4_6 y1))],[],720⟩) (.sq 1 [] [(0,[2,5,6,7,9,10,11,45,46],[208,496,16,160,288,416,576])] (fun(_:Unit)=>(z4_8 y1)) (.nx ()) (fun _=>(.bk (.lp (fun(s2:Unit)=>(z4_8 y1)) () (wk (idn [16,160,288,208,416,576,496]) []) fun s2=>(.sg [] [(2,[2,5,6,7,9,11],[208,496,16,160,288,416])] (.ite (decide ((0:Int) < (0:Int))) .bad (.ret (.exit 0) _ (.inr (.inl ())) ⟨rfl,rfl,Weak.refl _⟩))))))) fun _=>(.sc (fun(_:Unit)=>⟨[(2,(.ptr 16 0)),(5,(.ptr 160 0)),(6,(.ptr 288 0)),(7,(.vec 208 1 y1.1.length)),(9,(.ptr 416 0))],[(208,(.vec 9 1 y1.1.length (cF D.str y1.1))),(16,(z4_3 y1)),(160,(z4_1 y1)),(288,(z4_7 y1)),(416,(z4_6 y1))],[],928⟩) (.sq 1 [] [(0,[2,5,6,7,9,11,55,56],[208,496,16,160,288,416])] (fun(_:Unit)=>⟨[(2,(.ptr 16 0)),(5,(.ptr 160 0)),(6,(.ptr 288 0)),(7,(.vec 208 1 y1.1.length)),(9,(.ptr 416 0)),(11,(.vec 496 1 ([]:List (List UInt8)).length)),(55,z4_9),(56,(aI 0))],[(208,(.vec 9 1 y1.1.length (cF D.str y1.1))),(496,(.vec 9 1 ([]:List (List UInt8)).length (cF D.str ([]:List (List UInt8))))),(16,(z4_3 y1)),(160,(z4_1 y1)),(288,(z4_7 y1)),(416,(z4_6 y1))],[],768⟩) (.nx ()) (fun _=>(.bk (.lp (fun(s3:(List (List UInt8))×Int)=>⟨[(2,(.ptr 16 0)),(5,(.ptr 160 0)),(6,(.ptr 288 0)),(7,(.vec 208 1 y1.1.length)),(9,(.ptr 416 0)),(11,(.vec 496 1 s3.1.length)),(55,z4_9),(56,(aI s3.2))],[(208,(.vec 9 1 y1.1.length (cF D.str y1.1))),(496,(.vec 9 1 s3.1.length (cF D.str s3.1))),(16,(z4_3 y1)),(160,(z4_1 y1)),(288,(z4_7 y1)),(416,(z4_6 y1))],[],912⟩) (([]:List (List UInt8)),(0:Int)) (wk (idn [16,160,288,208,416,496]) []) fun s3=>(.sg [] [(0,[2,5,6,7,9,11,55,56],[208,496,16,160,288,416]),(4,[2,5,6,7,9],[208,16,160,288,416])] (.ite (decide (s3.2 < (([]:List (List UInt8)).length:Int))) (nd (0≤s3.2) (nd (s3.2 < (s3.1.length:Int)) (nd (s3.2.toNat < s3.1.length) (.ret .normal ⟨[(2,(.ptr 16 0)),(5,(.ptr 160 0)),(6,(.ptr 288 0)),(7,(.vec 208 1 y1.1.length)),(9,(.ptr 416 0)),(11,(.vec 496 1 s3.1.length)),(55,z4_9),(56,(aI (IntKind.wrap .i64 (s3.2+1))))],[(208,(.vec 9 1 y1.1.length (cF D.str y1.1))),(496,(.vec 9 1 s3.1.length (fun k=>if k=s3.2.toNat then(.str ([67,72,65,78,71,69,68]:List UInt8))else(cF D.str s3.1) k))),(16,(z4_3 y1)),(160,(z4_1 y1)),(288,(z4_7 y1)),(416,(z4_6 y1))],[],1056⟩ (.inl ((s3.1.set s3.2.toNat ([67,72,65,78,71,69,68]:List UInt8)),(IntKind.wrap .i64 (s3.2+1)))) ⟨rfl,(weak_of [(16,16),(160,160),(288,288),(208,208),(416,416),(496,496)] [] (by kernel_rfl) ⟨⟨rfl,rfl⟩,⟨rfl,rfl⟩,⟨rfl,rfl⟩,⟨rfl,rfl,rfl⟩,⟨rfl,rfl⟩,⟨rfl,rfl,(len_of (sz:=1) (e:=D.str) (f:=(fun k=>if k=s3.2.toNat then(.str ([67,72,65,78,71,69,68]:List UInt8))else(cF D.str s3.1) k)) (l:=(s3.1.set s3.2.toNat ([67,72,65,78,71,69,68]:List UInt8))) (de_set (e:=D.str) (x:=([67,72,65,78,71,69,68]:List UInt8)) dr))⟩,dr,dr⟩ ⟨⟨_,_,rfl,rfl,⟨rfl,rfl,dr⟩⟩,⟨_,_,rfl,rfl,⟨rfl,rfl,(de_set (e:=D.str) (x:=([67,72,65,78,71,69,68]:List UInt8)) dr)⟩⟩,⟨_,_,rfl,rfl,⟨dr,dr,dr,dr,dr,dr,trivial⟩⟩,⟨_,_,rfl,rfl,⟨dr,dr,dr,dr,dr,dr,trivial⟩⟩,⟨_,_,rfl,rfl,⟨dr,dr,trivial⟩⟩,⟨_,_,rfl,rfl,⟨dr,dr,trivial⟩⟩⟩)⟩)))) (.ret (.exit 2) _ (.inr (.inl ())) ⟨rfl,rfl,Weak.refl _⟩))))))) fun _=>(.sc (fun(_:Unit)=>⟨[(2,(.ptr 16 0)),(5,(.ptr 160 0)),(6,(.ptr 288 0)),(9,(.ptr 416 0))],[(16,(z4_3 y1)),(160,(z4_1 y1)),(288,(z4_7 y1)),(416,(z4_6 y1))],[],1136⟩) (.sq 1 [] [(0,[2,5,6,7,9,64,65],[208,16,160,288,416])] (fun(_:Unit)=>⟨[(2,(.ptr 16 0)),(5,(.ptr 160 0)),(6,(.ptr 288 0)),(7,(.vec 208 1 y1.1.length)),(9,(.ptr 416 0)),(64,(aI (y1.1.length:Int))),(65,(aI 0))],[(208,(.vec 9 1 y1.1.length (cF D.str y1.1))),(16,(z4_3 y1)),(160,(z4_1 y1)),(288,(z4_7 y1)),(416,(z4_6 y1))],[],976⟩) (.nx ()) (fun _=>(.bk (.lp (fun(s4:(List (List UInt8))×Int)=>⟨[(2,(.ptr 16 0)),(5,(.ptr 160 0)),(6,(.ptr 288 0)),(7,(.vec 208 1 s4.1.length)),(9,(.ptr 416 0)),(64,(aI (y1.1.length:Int))),(65,(aI s4.2))],[(208,(.vec 9 1 s4.1.length (cF D.str s4.1))),(16,(z4_3 y1)),(160,(z4_1 y1)),(288,(z4_7 y1)),(416,(z4_6 y1))],[],1120⟩) (y1.1,(0:Int)) (wk (idn [16,160,288,208,416]) []) fun s4=>(.sg [] [(0,[2,5,6,7,9,64,65],[208,16,160,288,416]),(6,[2,5,6,9],[16,160,288,416])] (.ite (decide (s4.2 < (y1.1.length:Int))) (nd (0≤s4.2) (nd (s4.2 < (s4.1.length:Int)) (nd (s4.2.toNat < s4.1.length) (.ret .normal ⟨[(2,(.ptr 16 0)),(5,(.ptr 160 0)),(6,(.ptr 288 0)),(7,(.vec 208 1 s4.1.length)),(9,(.ptr 416 0)),(64,(aI (y1.1.length:Int))),(65,(aI (IntKind.wrap .i64 (s4.2+1))))],[(208,(.vec 9 1 s4.1.length (fun k=>if k=s4.2.toNat then(.str ([67,72,65,78,71,69,68]:List UInt8))else(cF D.str s4.1) k))),(16,(z4_3 y1)),(160,(z4_1 y1)),(288,(z4_7 y1)),(416,(z4_6 y1))],[],1264⟩ (.inl ((s4.1.set s4.2.toNat ([67,72,65,78,71,69,68]:List UInt8)),(IntKind.wrap .i64 (s4.2+1)))) ⟨rfl,(weak_of [(16,16),(160,160),(288,288),(208,208),(416,416)] [] (by kernel_rfl) ⟨⟨rfl,rfl⟩,⟨rfl,rfl⟩,⟨rfl,rfl⟩,⟨rfl,rfl,(len_of (sz:=1) (e:=D.str) (f:=(fun k=>if k=s4.2.toNat then(.str ([67,72,65,78,71,69,68]:List UInt8))else(cF D.str s4.1) k)) (l:=(s4.1.set s4.2.toNat ([67,72,65,78,71,69,68]:List UInt8))) (de_set (e:=D.str) (x:=([67,72,65,78,71,69,68]:List UInt8)) dr))⟩,⟨rfl,rfl⟩,dr,dr⟩ ⟨⟨_,_,rfl,rfl,⟨rfl,rfl,(de_set (e:=D.str) (x:=([67,72,65,78,71,69,68]:List UInt8)) dr)⟩⟩,⟨_,_,rfl,rfl,⟨dr,dr,dr,dr,dr,dr,trivial⟩⟩,⟨_,_,rfl,rfl,⟨dr,dr,dr,dr,dr,dr,trivial⟩⟩,⟨_,_,rfl,rfl,⟨dr,dr,trivial⟩⟩,⟨_,_,rfl,rfl,⟨dr,dr,trivial⟩⟩⟩)⟩)))) (.ret (.exit 4) _ (.inr (.inl ())) ⟨rfl,rfl,Weak.refl _⟩))))))) fun _=>(.sg [(25,⟨Bool×Bool,fun x=>[(74,(.bool x.1)),(78,(.bool x.2))],fun x=>[],[]⟩)] [(1,[4],[])] (.exi (Bool×Bool) ((m10 (⟨y1.2.1,y1.2.2.1,y1.2.2.2.1,y1.2.2.2.2.1,y1.2.2.2.2.2.1,y1.2.2.2.2.2.2.1⟩:T27) (⟨y1.2.2.2.2.2.2.2.1,y1.2.2.2.2.2.2.2.2.1,y1.2.2.2.2.2.2.2.2.2.1,y1.2.2.2.2.2.2.2.2.2.2.1,y1.2.2.2.2.2.2.2.2.2.2.2.1,y1.2.2.2.2.2.2.2.2.2.2.2.2.1⟩:T27)).bind fun r25_0=>((if r25_0=true then m14 (⟨y1.2.2.2.2.2.2.2.2.2.2.2.2.2.1,y1.2.2.2.2.2.2.2.2.2.2.2.2.2.2.1⟩:T41) (⟨y1.2.2.2.2.2.2.2.2.2.2.2.2.2.2.2.1,y1.2.2.2.2.2.2.2.2.2.2.2.2.2.2.2.2⟩:T41)else some default).bind fun r25_1=>some (r25_0,r25_1))) (fun x25=>(.p (PureAt Tryz.prog 10 [(.agg [(.str y1.2.1),(eSl 1 D.str y1.2.2.1),(eSl 1 (eSl 2 e118) y1.2.2.2.1),(eSl 6 e56 y1.2.2.2.2.1),(dI y1.2.2.2.2.2.1),(eSl 4 e58 y1.2.2.2.2.2.2.1)]),(.agg [(.str y1.2.2.2.2.2.2.2.1),(eSl 1 D.str y1.2.2.2.2.2.2.2.2.1),(eSl 1 (eSl 2 e118) y1.2.2.2.2.2.2.2.2.2.1),(eSl 6 e56 y1.2.2.2.2.2.2.2.2.2.2.1),(dI y1.2.2.2.2.2.2.2.2.2.2.2.1),(eSl 4 e58 y1.2.2.2.2.2.2.2.2.2.2.2.2.1)])] (.bool x25.1)) (.g x25.1 (PureAt Tryz.prog 14 [(.agg [(dI y1.2.2.2.2.2.2.2.2.2.2.2.2.2.1),(eSl 1 dI y1.2.2.2.2.2.2.2.2.2.2.2.2.2.2.1)]),(.agg [(dI y1.2.2.2.2.2.2.2.2.2.2.2.2.2.2.2.1),(eSl 1 dI y1.2.2.2.2.2.2.2.2.2.2.2.2.2.2.2.2)])] (.bool x25.2)) (.fin 0)))) (by intro x25 h;obtain⟨r25_0,h1,h⟩:=Option.bind_eq_some_iff.1 h;obtain⟨r25_1,h2,h⟩:=Option.bind_eq_some_iff.1 h;cases h;exact⟨p10 (a0:=(⟨y1.2.1,y1.2.2.1,y1.2.2.2.1,y1.2.2.2.2.1,y1.2.2.2.2.2.1,y1.2.2.2.2.2.2.1⟩:T27)) (a1:=(⟨y1.2.2.2.2.2.2.2.1,y1.2.2.2.2.2.2.2.2.1,y1.2.2.2.2.2.2.2.2.2.1,y1.2.2.2.2.2.2.2.2.2.2.1,y1.2.2.2.2.2.2.2.2.2.2.2.1,y1.2.2.2.2.2.2.2.2.2.2.2.2.1⟩:T27)) h1,fun g=>p14 (a0:=(⟨y1.2.2.2.2.2.2.2.2.2.2.2.2.2.1,y1.2.2.2.2.2.2.2.2.2.2.2.2.2.2.1⟩:T41)) (a1:=(⟨y1.2.2.2.2.2.2.2.2.2.2.2.2.2.2.2.1,y1.2.2.2.2.2.2.2.2.2.2.2.2.2.2.2.2⟩:T41)) (by rw[if_pos g]at h2;exact h2),trivial⟩) (fun x25 _=>(.ret .ret ⟨[(4,(aB (x25.1&&x25.2)))],[],[],1280⟩ (x25.1&&x25.2) ⟨rfl,_,Weak.refl _,dr⟩))))))))) (.sq 8 [(1,tm1 16 D.bool),(3,tm1 19 e27),(4,tm1 21 e27),(5,⟨(Int×(List (List UInt8))×Int×(List Int)),fun x=>[],fun x=>[(208,(o4_0 x))],[]⟩),(7,tm1 32 D.bool),(8,tm1 34 e41),(9,⟨((List (List UInt8))×Int×(List Int))×(Int×(List (List UInt8))×Int×(List Int)),fun x=>[],fun x=>[(496,(o4_2 x))],[]⟩)] [(1,[4],[]),(0,[2,5,6,7,9,10,11],[208,496,16,160,288,416,497,576])] (fun(y5:(List (List UInt8))×(List (List UInt8))×(List UInt8)×(List (List UInt8))×(List (List T118))×(List T56)×Int×(List T58)×(List UInt8)×(List (List UInt8))×(List (List T118))×(List T56)×Int×(List T58)×Int×(List Int)×Int×(List Int)×Int×(List Int)×Nat)=>⟨[(2,(.ptr 16 0)),(5,(.ptr 160 0)),(6,(.ptr 288 0)),(7,(.vec 208 1 y5.1.length)),(9,(.ptr 416 0)),(10,(.ptr 576 0)),(11,(.vec 496 1 y5.2.1.length))],[(208,(.vec 9 1 y5.1.length (cF D.str y5.1))),(496,(.vec 9 1 y5.2.1.length (cF D.str y5.2.1))),(16,(z4_2 y5)),(160,(z4_0 y5)),(288,(z4_5 y5)),(416,(z4_4 y5)),(497,(.arr 1 y5.2.2.2.2.2.2.2.2.2.2.2.2.2.2.2.2.2.2.2.2 (cF dI y5.2.2.2.2.2.2.2.2.2.2.2.2.2.2.2.2.2.2.2.1))),(576,(.cells [(aI y5.2.2.2.2.2.2.2.2.2.2.2.2.2.2.2.2.2.2.1),(.arr 497 1 y5.2.2.2.2.2.2.2.2.2.2.2.2.2.2.2.2.2.2.2.2)]))],[],640⟩) (c3 (@p5) fun x1=>(.ite (!x1) (.ret .ret ⟨[(4,(aB false))],[],[],96⟩ (.inr (false)) ⟨rfl,rfl,_,Weak.refl _,dr⟩) (c3 (@p6 a0) fun x3=>(c3 (@p6 x3) fun x4=>(c3 (p:=fun x5=>ObjL Tryz.prog 11 [(.d (e27 x3))] [] 208 (o4_0 x5)) (fun x5 (h1:m11o0 x3=some _)=>ok [] [] [(208,240)] [] (po11o0 h1)) fun x5=>(.ite (x5.1 != 0) (c3 (@p10 x3 x4) fun x7=>(.ret .ret ⟨[(4,(aB x7))],[],[],448⟩ (.inr (x7)) ⟨rfl,rfl,_,Weak.refl _,dr⟩)) (c3 (@p12 (⟨x5.2.2.1,x5.2.2.2⟩:T41)) fun x8=>(.exi (((List (List UInt8))×Int×(List Int))×(Int×(List (List UInt8))×Int×(List Int))) ((m13o2 x3 (⟨x5.2.2.1,x5.2.2.2⟩:T41) a1).bind fun r9_0=>some (r9_0,x5)) (fun x9=>(.p (ObjL Tryz.prog 13 [(.d (e27 x3)),(.d (.agg [(dI x5.2.2.1),(eSl 1 dI x5.2.2.2)])),(.d (.int .u16 a1))] [] 496 (o4_2 x9)) (.fin 0))) (by intro x9 h;obtain⟨r9_0,h1,h⟩:=Option.bind_eq_some_iff.1 h;cases h;exact⟨ok [] [] [(496,576),(497,577)] [] (po13o2 h1),trivial⟩) (fun x9 _=>(.nx (x5.2.1,x9.1.1,x3.Name,x3.Conds,x3.Never,x3.States,x3.Start,x3.Transitions,x4.Name,x4.Conds,x4.Never,x4.States,x4.Start,x4.Transitions,x5.2.2.1,x5.2.2.2,x8.Leaf,x8.Memory,x9.1.2.1,x9.1.2.2,((⟨x9.2.2.2.1,x9.2.2.2.2⟩:T41).Memory.length:Int).toNat))))))))))) (fun y5=>(.sc (fun(_:Unit)=>⟨[(2,(.ptr 16 0)),(5,(.ptr 160 0)),(6,(.ptr 288 0)),(7,(.vec 208 1 y5.1.length)),(9,(.ptr 416 0)),(11,(.vec 496 1 y5.2.1.length))],[(208,(.vec 9 1 y5.1.length (cF D.str y5.1))),(496,(.vec 9 1 y5.2.1.length (cF D.str y5.2.1))),(16,(z4_2 y5)),(160,(z4_0 y5)),(288,(z4_5 y5)),(416,(z4_4 y5))],[],880⟩) (.sq 1 [] [(0,[2,5,6,7,9,10,11,45,46],[208,496,16,160,288,416,497,576])] (fun(_:Unit)=>⟨[(2,(.ptr 16 0)),(5,(.ptr 160 0)),(6,(.ptr 288 0)),(7,(.vec 208 1 y5.1.length)),(9,(.ptr 416 0)),(10,(.ptr 576 0)),(11,(.vec 496 1 y5.2.1.length)),(45,(aI (y5.2.2.2.2.2.2.2.2.2.2.2.2.2.2.2.2.2.2.2.2:Int))),(46,(aI 0))],[(208,(.vec 9 1 y5.1.length (cF D.str y5.1))),(496,(.vec 9 1 y5.2.1.length (cF D.str y5.2.1))),(16,(z4_2 y5)),(160,(z4_0 y5)),(288,(z4_5 y5)),(416,(z4_4 y5)),(497,(.arr 1 y5.2.2.2.2.2.2.2.2.2.2.2.2.2.2.2.2.2.2.2.2 (cF dI y5.2.2.2.2.2.2.2.2.2.2.2.2.2.2.2.2.2.2.2.1))),(576,(.cells [(aI y5.2.2.2.2.2.2.2.2.2.2.2.2.2.2.2.2.2.2.1),(.arr 497 1 y5.2.2.2.2.2.2.2.2.2.2.2.2.2.2.2.2.2.2.2.2)]))],[],704⟩) (.nx ()) (fun _=>(.bk (.lp (fun(s6:Int×(List Int))=>⟨[(2,(.ptr 16 0)),(5,(.ptr 160 0)),(6,(.ptr 288 0)),(7,(.vec 208 1 y5.1.length)),(9,(.ptr 416 0)),(10,(.ptr 576 0)),(11,(.vec 496 1 y5.2.1.length)),(45,(aI (y5.2.2.2.2.2.2.2.2.2.2.2.2.2.2.2.2.2.2.2.2:Int))),(46,(aI s6.1))],[(208,(.vec 9 1 y5.1.length (cF D.str y5.1))),(496,(.vec 9 1 y5.2.1.length (cF D.str y5.2.1))),(16,(z4_2 y5)),(160,(z4_0 y5)),(288,(z4_5 y5)),(416,(z4_4 y5)),(497,(.arr 1 y5.2.2.2.2.2.2.2.2.2.2.2.2.2.2.2.2.2.2.2.2 (cF dI s6.2))),(576,(.cells [(aI y5.2.2.2.2.2.2.2.2.2.2.2.2.2.2.2.2.2.2.1),(.arr 497 1 y5.2.2.2.2.2.2.2.2.2.2.2.2.2.2.2.2.2.2.2.2)]))],[],864⟩) ((0:Int),y5.2.2.2.2.2.2.2.2.2.2.2.2.2.2.2.2.2.2.2.1) (wk (idn [16,160,288,208,416,576,496,497]) []) fun s6=>(.sg [] [(0,[2,5,6,7,9,10,11,45,46],[208,496,16,160,288,416,497,576]),(2,[2,5,6,7,9,11],[208,496,16,160,288,416])] (.ite (decide (s6.1 < (y5.2.2.2.2.2.2.2.2.2.2.2.2.2.2.2.2.2.2.2.2:Int))) (nd (0≤s6.1) (nd (s6.1 < (y5.2.2.2.2.2.2.2.2.2.2.2.2.2.2.2.2.2.2.2.2:Int)) (nd (s6.1.toNat < y5.2.2.2.2.2.2.2.2.2.2.2.2.2.2.2.2.2.2.2.2) (.ret .normal ⟨[(2,(.ptr 16 0)),(5,(.ptr 160 0)),(6,(.ptr 288 0)),(7,(.vec 208 1 y5.1.length)),(9,(.ptr 416 0)),(10,(.ptr 576 0)),(11,(.vec 496 1 y5.2.1.length)),(45,(aI (y5.2.2.2.2.2.2.2.2.2.2.2.2.2.2.2.2.2.2.2.2:Int))),(46,(aI (IntKind.wrap .i64 (s6.1+1))))],[(208,(.vec 9 1 y5.1.length (cF D.str y5.1))),(496,(.vec 9 1 y5.2.1.length (cF D.str y5.2.1))),(16,(z4_2 y5)),(160,(z4_0 y5)),(288,(z4_5 y5)),(416,(z4_4 y5)),(497,(.arr 1 y5.2.2.2.2.2.2.2.2.2.2.2.2.2.2.2.2.2.2.2.2 (fun k=>if k=s6.1.toNat then(dI 77)else(cF dI s6.2) k))),(576,(.cells [(aI y5.2.2.2.2.2.2.2.2.2.2.2.2.2.2.2.2.2.2.1),(.arr 497 1 y5.2.2.2.2.2.2.2.2.2.2.2.2.2.2.2.2.2.2.2.2)]))],[],1024⟩ (.inl ((IntKind.wrap .i64 (s6.1+1)),((subL s6.2 0 y5.2.2.2.2.2.2.2.2.2.2.2.2.2.2.2.2.2.2.2.2).set s6.1.toNat (77:Int)))) ⟨rfl,(ws (idn [16,160,288,208,416,576,496,497]) [] ⟨⟨_,_,rfl,rfl,⟨rfl,rfl,dr⟩⟩,⟨_,_,rfl,rfl,⟨rfl,rfl,dr⟩⟩,⟨_,_,rfl,rfl,⟨dr,dr,dr,dr,dr,dr,trivial⟩⟩,⟨_,_,rfl,rfl,⟨dr,dr,dr,dr,dr,dr,trivial⟩⟩,⟨_,_,rfl,rfl,⟨dr,dr,trivial⟩⟩,⟨_,_,rfl,rfl,⟨dr,dr,trivial⟩⟩,⟨_,_,rfl,rfl,⟨rfl,(de_keep (de_set de_sub0))⟩⟩,⟨_,_,rfl,rfl,⟨dr,⟨rfl,rfl,rfl⟩,trivial⟩⟩⟩)⟩)))) (.ret (.exit 0) _ (.inr (.inl ())) ⟨rfl,rfl,Weak.refl _⟩))))))) fun _=>(.sc (fun(_:Unit)=>⟨[(2,(.ptr 16 0)),(5,(.ptr 160 0)),(6,(.ptr 288 0)),(7,(.vec 208 1 y5.1.length)),(9,(.ptr 416 0))],[(208,(.vec 9 1 y5.1.length (cF D.str y5.1))),(16,(z4_2 y5)),(160,(z4_0 y5)),(288,(z4_5 y5)),(416,(z4_4 y5))],[],1088⟩) (.sq 1 [] [(0,[2,5,6,7,9,11,55,56],[208,496,16,160,288,416])] (fun(_:Unit)=>⟨[(2,(.ptr 16 0)),(5,(.ptr 160 0)),(6,(.ptr 288 0)),(7,(.vec 208 1 y5.1.length)),(9,(.ptr 416 0)),(11,(.vec 496 1 y5.2.1.length)),(55,(aI (y5.2.1.length:Int))),(56,(aI 0))],[(208,(.vec 9 1 y5.1.length (cF D.str y5.1))),(496,(.vec 9 1 y5.2.1.length (cF D.str y5.2.1))),(16,(z4_2 y5)),(160,(z4_0 y5)),(288,(z4_5 y5)),(416,(z4_4 y5))],[],928⟩) (.nx ()) (fun _=>(.bk (.lp (fun(s7:(List (List UInt8))×Int)=>⟨[(2,(.ptr 16 0)),(5,(.ptr 160 0)),(6,(.ptr 288 0)),(7,(.vec 208 1 y5.1.length)),(9,(.ptr 416 0)),(11,(.vec 496 1 s7.1.length)),(55,(aI (y5.2.1.length:Int))),(56,(aI s7.2))],[(208,(.vec 9 1 y5.1.length (cF D.str y5.1))),(496,(.vec 9 1 s7.1.length (cF D.str s7.1))),(16,(z4_2 y5)),(160,(z4_0 y5)),(288,(z4_5 y5)),(416,(z4_4 y5))],[],1072⟩) (y5.2.1,(0:Int)) (wk (idn [16,160,288,208,416,496]) []) fun s7=>(.sg [] [(0,[2,5,6,7,9,11,55,56],[208,496,16,160,288,416]),(4,[2,5,6,7,9],[208,16,160,288,416])] (.ite (decide (s7.2 < (y5.2.1.length:Int))) (nd (0≤s7.2) (nd (s7.2 < (s7.1.length:Int)) (nd (s7.2.toNat < s7.1.length) (.ret .normal ⟨[(2,(.ptr 16 0)),(5,(.ptr 160 0)),(6,(.ptr 288 0)),(7,(.vec 208 1 y5.1.length)),(9,(.ptr 416 0)),(11,(.vec 496 1 s7.1.length)),(55,(aI (y5.2.1.length:Int))),(56,(aI (IntKind.wrap .i64 (s7.2+1))))],[(208,(.vec 9 1 y5.1.length (cF D.str y5.1))),(496,(.vec 9 1 s7.1.length (fun k=>if k=s7.2.toNat then(.str ([67,72,65,78,71,69,68]:List UInt8))else(cF D.str s7.1) k))),(16,(z4_2 y5)),(160,(z4_0 y5)),(288,(z4_5 y5)),(416,(z4_4 y5))],[],1216⟩ (.inl ((s7.1.set s7.2.toNat ([67,72,65,78,71,69,68]:List UInt8)),(IntKind.wrap .i64 (s7.2+1)))) ⟨rfl,(weak_of [(16,16),(160,160),(288,288),(208,208),(416,416),(496,496)] [] (by kernel_rfl) ⟨⟨rfl,rfl⟩,⟨rfl,rfl⟩,⟨rfl,rfl⟩,⟨rfl,rfl,rfl⟩,⟨rfl,rfl⟩,⟨rfl,rfl,(len_of (sz:=1) (e:=D.str) (f:=(fun k=>if k=s7.2.toNat then(.str ([67,72,65,78,71,69,68]:List UInt8))else(cF D.str s7.1) k)) (l:=(s7.1.set s7.2.toNat ([67,72,65,78,71,69,68]:List UInt8))) (de_set (e:=D.str) (x:=([67,72,65,78,71,69,68]:List UInt8)) dr))⟩,dr,dr⟩ ⟨⟨_,_,rfl,rfl,⟨rfl,rfl,dr⟩⟩,⟨_,_,rfl,rfl,⟨rfl,rfl,(de_set (e:=D.str) (x:=([67,72,65,78,71,69,68]:List UInt8)) dr)⟩⟩,⟨_,_,rfl,rfl,⟨dr,dr,dr,dr,dr,dr,trivial⟩⟩,⟨_,_,rfl,rfl,⟨dr,dr,dr,dr,dr,dr,trivial⟩⟩,⟨_,_,rfl,rfl,⟨dr,dr,trivial⟩⟩,⟨_,_,rfl,rfl,⟨dr,dr,trivial⟩⟩⟩)⟩)))) (.ret (.exit 2) _ (.inr (.inl ())) ⟨rfl,rfl,Weak.refl _⟩))))))) fun _=>(.sc (fun(_:Unit)=>⟨[(2,(.ptr 16 0)),(5,(.ptr 160 0)),(6,(.ptr 288 0)),(9,(.ptr 416 0))],[(16,(z4_2 y5)),(160,(z4_0 y5)),(288,(z4_5 y5)),(416,(z4_4 y5))],[],1296⟩) (.sq 1 [] [(0,[2,5,6,7,9,64,65],[208,16,160,288,416])] (fun(_:Unit)=>⟨[(2,(.ptr 16 0)),(5,(.ptr 160 0)),(6,(.ptr 288 0)),(7,(.vec 208 1 y5.1.length)),(9,(.ptr 416 0)),(64,(aI (y5.1.length:Int))),(65,(aI 0))],[(208,(.vec 9 1 y5.1.length (cF D.str y5.1))),(16,(z4_2 y5)),(160,(z4_0 y5)),(288,(z4_5 y5)),(416,(z4_4 y5))],[],1136⟩) (.nx ()) (fun _=>(.bk (.lp (fun(s8:(List (List UInt8))×Int)=>⟨[(2,(.ptr 16 0)),(5,(.ptr 160 0)),(6,(.ptr 288 0)),(7,(.vec 208 1 s8.1.length)),(9,(.ptr 416 0)),(64,(aI (y5.1.length:Int))),(65,(aI s8.2))],[(208,(.vec 9 1 s8.1.length (cF D.str s8.1))),(16,(z4_2 y5)),(160,(z4_0 y5)),(288,(z4_5 y5)),(416,(z4_4 y5))],[],1280⟩) (y5.1,(0:Int)) (wk (idn [16,160,288,208,416]) []) fun s8=>(.sg [] [(0,[2,5,6,7,9,64,65],[208,16,160,288,416]),(6,[2,5,6,9],[16,160,288,416])] (.ite (decide (s8.2 < (y5.1.length:Int))) (nd (0≤s8.2) (nd (s8.2 < (s8.1.length:Int)) (nd (s8.2.toNat < s8.1.length) (.ret .normal ⟨[(2,(.ptr 16 0)),(5,(.ptr 160 0)),(6,(.ptr 288 0)),(7,(.vec 208 1 s8.1.length)),(9,(.ptr 416 0)),(64,(aI (y5.1.length:Int))),(65,(aI (IntKind.wrap .i64 (s8.2+1))))],[(208,(.vec 9 1 s8.1.length (fun k=>if k=s8.2.toNat then(.str ([67,72,65,78,71,69,68]:List UInt8))else(cF D.str s8.1) k))),(16,(z4_2 y5)),(160,(z4_0 y5)),(288,(z4_5 y5)),(416,(z4_4 y5))],[],1424⟩ (.inl ((s8.1.set s8.2.toNat ([67,72,65,78,71,69,68]:List UInt8)),(IntKind.wrap .i64 (s8.2+1)))) ⟨rfl,(weak_of [(16,16),(160,160),(288,288),(208,208),(416,416)] [] (by kernel_rfl) ⟨⟨rfl,rfl⟩,⟨rfl,rfl⟩,⟨rfl,rfl⟩,⟨rfl,rfl,(len_of (sz:=1) (e:=D.str) (f:=(fun k=>if k=s8.2.toNat then(.str ([67,72,65,78,71,69,68]:List UInt8))else(cF D.str s8.1) k)) (l:=(s8.1.set s8.2.toNat ([67,72,65,78,71,69,68]:List UInt8))) (de_set (e:=D.str) (x:=([67,72,65,78,71,69,68]:List UInt8)) dr))⟩,⟨rfl,rfl⟩,dr,dr⟩ ⟨⟨_,_,rfl,rfl,⟨rfl,rfl,(de_set (e:=D.str) (x:=([67,72,65,78,71,69,68]:List UInt8)) dr)⟩⟩,⟨_,_,rfl,rfl,⟨dr,dr,dr,dr,dr,dr,trivial⟩⟩,⟨_,_,rfl,rfl,⟨dr,dr,dr,dr,dr,dr,trivial⟩⟩,⟨_,_,rfl,rfl,⟨dr,dr,trivial⟩⟩,⟨_,_,rfl,rfl,⟨dr,dr,trivial⟩⟩⟩)⟩)))) (.ret (.exit 4) _ (.inr (.inl ())) ⟨rfl,rfl,Weak.refl _⟩))))))) fun _=>(.sg [(25,⟨Bool×Bool,fun x=>[(74,(.bool x.1)),(78,(.bool x.2))],fun x=>[],[]⟩)] [(1,[4],[])] (.exi (Bool×Bool) ((m10 (⟨y5.2.2.1,y5.2.2.2.1,y5.2.2.2.2.1,y5.2.2.2.2.2.1,y5.2.2.2.2.2.2.1,y5.2.2.2.2.2.2.2.1⟩:T27) (⟨y5.2.2.2.2.2.2.2.2.1,y5.2.2.2.2.2.2.2.2.2.1,y5.2.2.2.2.2.2.2.2.2.2.1,y5.2.2.2.2.2.2.2.2.2.2.2.1,y5.2.2.2.2.2.2.2.2.2.2.2.2.1,y5.2.2.2.2.2.2.2.2.2.2.2.2.2.1⟩:T27)).bind fun r25_0=>((if r25_0=true then m14 (⟨y5.2.2.2.2.2.2.2.2.2.2.2.2.2.2.1,y5.2.2.2.2.2.2.2.2.2.2.2.2.2.2.2.1⟩:T41) (⟨y5.2.2.2.2.2.2.2.2.2.2.2.2.2.2.2.2.1,y5.2.2.2.2.2.2.2.2.2.2.2.2.2.2.2.2.2.1⟩:T41)else some default).bind fun r25_1=>some (r25_0,r25_1))) (fun x25=>(.p (PureAt Tryz.prog 10 [(.agg [(.str y5.2.2.1),(eSl 1 D.str y5.2.2.2.1),(eSl 1 (eSl 2 e118) y5.2.2.2.2.1),(eSl 6 e56 y5.2.2.2.2.2.1),(dI y5.2.2.2.2.2.2.1),(eSl 4 e58 y5.2.2.2.2.2.2.2.1)]),(.agg [(.str y5.2.2.2.2.2.2.2.2.1),(eSl 1 D.str y5.2.2.2.2.2.2.2.2.2.1),(eSl 1 (eSl 2 e118) y5.2.2.2.2.2.2.2.2.2.2.1),(eSl 6 e56 y5.2.2.2.2.2.2.2.2.2.2.2.1),(dI y5.2.2.2.2.2.2.2.2.2.2.2.2.1),(eSl 4 e58 y5.2.2.2.2.2.2.2.2.2.2.2.2.2.1)])] (.bool x25.1)) (.g x25.1 (PureAt Tryz.prog 14 [(.agg [(dI y5.2.2.2.2.2.2.2.2.2.2.2.2.2.2.1),(eSl 1 dI y5.2.2.2.2.2.2.2.2.2.2.2.2.2.2.2.1)]),(.agg [(dI y5.2.2.2.2.2.2.2.2.2.2.2.2.2.2.2.2.1),(eSl 1 dI y5.2.2.2.2.2.2.2.2.2.2.2.2.2.2.2.2.2.1)])] (.bool x25.2)) (.fin 0)))) (by intro x25 h;obtain⟨r25_0,h1,h⟩:=Option.bind_eq_some_iff.1 h;obtain⟨r25_1,h2,h⟩:=Option.bind_eq_some_iff.1 h;cases h;exact⟨p10 (a0:=(⟨y5.2.2.1,y5.2.2.2.1,y5.2.2.2.2.1,y5.2.2.2.2.2.1,y5.2.2.2.2.2.2.1,y5.2.2.2.2.2.2.2.1⟩:T27)) (a1:=(⟨y5.2.2.2.2.2.2.2.2.1,y5.2.2.2.2.2.2.2.2.2.1,y5.2.2.2.2.2.2.2.2.2.2.1,y5.2.2.2.2.2.2.2.2.2.2.2.1,y5.2.2.2.2.2.2.2.2.2.2.2.2.1,y5.2.2.2.2.2.2.2.2.2.2.2.2.2.1⟩:T27)) h1,fun g=>p14 (a0:=(⟨y5.2.2.2.2.2.2.2.2.2.2.2.2.2.2.1,y5.2.2.2.2.2.2.2.2.2.2.2.2.2.2.2.1⟩:T41)) (a1:=(⟨y5.2.2.2.2.2.2.2.2.2.2.2.2.2.2.2.2.1,y5.2.2.2.2.2.2.2.2.2.2.2.2.2.2.2.2.2.1⟩:T41)) (by rw[if_pos g]at h2;exact h2),trivial⟩) (fun x25 _=>(.ret .ret ⟨[(4,(aB (x25.1&&x25.2)))],[],[],1440⟩ (x25.1&&x25.2) ⟨rfl,_,Weak.refl _,dr⟩))))))))))
noncomputable def m4 (a0:T27) (a1:Int):Option (Bool):=(d4 a0 a1).m
theorem p4 {a0:T27} {a1:Int} {r:Bool} (h:m4 a0 a1=some r):PureAt Tryz.prog 4 [(e27 a0),(.int .u16 a1)] (.bool r):=pure_jd (d4 a0 a1) Tryz.func4 h
end Go.Av
namespace Go.Av
def firstR {Y:Type} (f:Nat→Option Y) (n:Nat):Option Y:=(List.range n).findSome? f
theorem firstR_succ {Y:Type} {f:Nat→Option Y} {n:Nat}:firstR f (n+1)=match firstR f n with | some y=>some y | none=>f n:=by
 unfold firstR
 rw[List.range_succ,List.findSome?_append]
 cases (List.range n).findSome? f with
 | some y=>rfl
 | none=>simp
theorem firstR_none {Y:Type} {f:Nat→Option Y} {n:Nat}:firstR f n=none↔∀ i,i < n→f i=none:=by
 unfold firstR
 rw[List.findSome?_eq_none_iff]
 exact⟨fun h i hi=>h i (List.mem_range.2 hi),fun h i hi=>h i (List.mem_range.1 hi)⟩
theorem firstR_some {Y:Type} {f:Nat→Option Y} {n:Nat} {y:Y} (h:firstR f n=some y):∃ i,i < n∧f i=some y:=by
 unfold firstR at h
 obtain⟨i,hi,h⟩:=List.exists_of_findSome?_eq_some h
 exact⟨i,List.mem_range.1 hi,h⟩
theorem firstR_at {Y:Type} {f:Nat→Option Y} {n i:Nat} {y:Y} (hi:i < n) (h0:∀ j,j < i→f j=none) (h:f i=some y):firstR f n=some y:=by
 induction n with
 | zero=>omega
 | succ n ih =>
  rw[firstR_succ]
  by_cases hn:i < n
  ·rw[ih hn]
  ·obtain rfl:i=n:=by omega
   rw[firstR_none.2 h0,h]
def anyR (F:Nat→Bool) (n:Nat):Bool:=(List.range n).any F
theorem anyR_iff {F:Nat→Bool} {n:Nat}:anyR F n=true↔∃ i,i < n∧F i=true:=by
 simp only[anyR,List.any_eq_true,List.mem_range]
theorem anyR_false {F:Nat→Bool} {n:Nat}:anyR F n=false↔∀ i,i < n→F i=false:=by
 rw[← Bool.not_eq_true,anyR_iff]
 exact⟨fun h i hi=>by cases hf:F i with | false=>rfl | true=>exact absurd ⟨i,hi,hf⟩ h,fun h ⟨i,hi,hf⟩=>by rw[h i hi]at hf;cases hf⟩
theorem anyR_congr {F G:Nat→Bool} {n:Nat} (h:∀ i,i < n→F i=G i):anyR F n=anyR G n:=by
 rw[Bool.eq_iff_iff,anyR_iff,anyR_iff]
 exact⟨fun⟨i,hi,hf⟩=>⟨i,hi,by rw[← h i hi];exact hf⟩,fun⟨i,hi,hf⟩=>⟨i,hi,by rw[h i hi];exact hf⟩⟩
theorem firstR_any {Y:Type} {F:Nat→Bool} {g:Nat→Y} {n:Nat}:(firstR (fun i=>if F i=true then some (g i)else none) n).isSome=anyR F n:=by
 rw[Bool.eq_iff_iff,anyR_iff,Option.isSome_iff_ne_none,ne_eq,firstR_none]
 constructor
 ·intro h
  apply Classical.byContradiction
  intro hn
  exact h fun i hi=>by
   rw[if_neg]
   exact fun hf=>hn ⟨i,hi,hf⟩
 ·rintro⟨i,hi,hf⟩ h
  have:=h i hi
  rw[if_pos hf]at this;cases this
theorem firstR_const {Y:Type} {F:Nat→Bool} {y:Y} {n:Nat}:firstR (fun i=>if F i=true then some y else none) n=if anyR F n=true then some y else none:=by
 rw[← firstR_any (g:=fun _=>y)]
 cases h:firstR (fun i=>if F i=true then some y else none) n with
 | none=>rfl
 | some z =>
  obtain⟨i,_,h⟩:=firstR_some h
  split at h
  ·injection h with h;subst h;rfl
  ·cases h
def findR (F:Nat→Bool) (n:Nat):Int:=(firstR (fun i=>if F i=true then some (i:Int)else none) n).getD (-1)
theorem findR_any {F:Nat→Bool} {n:Nat}:decide (0≤findR F n)=anyR F n:=by
 rw[← firstR_any (g:=fun i=>(i:Int))]
 unfold findR
 cases h:firstR (fun i=>if F i=true then some (i:Int)else none) n with
 | none=>rfl
 | some y =>
  obtain⟨i,_,h⟩:=firstR_some h
  split at h
  ·injection h with h;subst h;simp
  ·cases h
def orK {R:Type} (o k:Option R):Option R:=match o with
 | some y=>some y
 | none=>k
theorem orK_some {R:Type} {y:R} {k:Option R}:orK (some y) k=some y:=rfl
theorem orK_none {R:Type} {k:Option R}:orK none k=k:=rfl
theorem orK_getD {R:Type} {a:Option R} {d:R}:orK a (some d)=some (a.getD d):=by cases a<;>rfl
theorem orK_total {R:Type} {o k:Option R} (h:∃ y,k=some y):∃ y,orK o k=some y:=by
 cases o with
 | some y=>exact⟨y,rfl⟩
 | none=>exact h
theorem ite_total {R:Type} {p:Prop} [Decidable p] {y:R} {k:Option R} (h:∃ y,k=some y):∃ z,(if p then some y else k)=some z:=by
 split
 ·exact⟨y,rfl⟩
 ·exact h
def exB {S R:Type} (o:Option R) (s:S):Option (S⊕(Unit⊕R)):=match o with
 | some y=>some (.inr (.inr y))
 | none=>some (.inl s)
theorem exB_some {S R:Type} {y:R} {s:S}:exB (some y) s=some (.inr (.inr y)):=rfl
theorem exB_none {S R:Type} {s:S}:exB (none:Option R) s=some (.inl s):=rfl
theorem exB_ite {S R:Type} {p:Prop} [Decidable p] {a b:Option R} {s:S}:exB (if p then a else b) s=if p then exB a s else exB b s:=by split<;>rfl
theorem some_ite {α:Type} {p:Prop} [Decidable p] {a b:α}:some (if p then a else b)=if p then some a else some b:=by split<;>rfl
theorem loop_ex_from {R:Type} {b:Int→Option (Int⊕(Unit⊕R))} (n:Nat) (f:Nat→Option R) (hb:∀ i:Nat,i < n→b i=exB (f i) ((i:Int)+1)) (hd:b n=some (.inr (.inl ()))) :
  ∀ (k i0:Nat),i0+k=n→(∀ i,i < i0→f i=none)→loopO b i0=match firstR f n with | some y=>some (.inr y) | none=>some (.inl ())
 | 0,i0,hk,h0=>by
  obtain rfl:i0=n:=by omega
  rw[loopO_eq,hd,firstR_none.2 h0];rfl
 | k+1,i0,hk,h0=>by
  rw[loopO_eq,hb i0 (by omega)]
  cases hf:f i0 with
  | some y=>rw[firstR_at (by omega) h0 hf];rfl
  | none =>
   have:=loop_ex_from n f hb hd k (i0+1) (by omega) (fun i hi=>by
    by_cases h:i < i0
    ·exact h0 i h
    ·obtain rfl:i=i0:=by omega
     exact hf)
   rw[exB_none]
   simpa using this
theorem loop_ex {R:Type} {b:Int→Option (Int⊕(Unit⊕R))} {k:Unit→Option R} (n:Nat) (f:Nat→Option R) (hb:∀ i:Nat,i < n→b i=exB (f i) ((i:Int)+1)) (hd:b n=some (.inr (.inl ()))) :
  (loopO b 0).bind (onS k)=orK (firstR f n) (k ()):=by
 have:=loop_ex_from n f hb hd n 0 (by omega) (fun i hi=>by omega)
 rw[show ((0:Nat):Int)=0 from rfl]at this
 rw[this]
 cases firstR f n<;>rfl
theorem loop_or {R:Type} {b:Int→Option (Int⊕(Unit⊕R))} {k:Unit→Option R} (n:Nat) (f:Nat→Option R) (hb:∀ i:Nat,i < n→b i=exB (f i) ((i:Int)+1)) (hd:b n=some (.inr (.inl ()))) {z:Option R} (hk:k ()=z) :
  (loopO b 0).bind (onS k)=orK (firstR f n) z:=by rw[loop_ex n f hb hd,hk]
theorem loop_pass {R:Type} {b:Int→Option (Int⊕(Unit⊕R))} {k:Unit→Option R} (n:Nat) (hb:∀ i:Nat,i < n→b i=some (.inl ((i:Int)+1))) (hd:b n=some (.inr (.inl ()))) {z:Option R} (hk:k ()=z) :
  (loopO b 0).bind (onS k)=z:=by
 rw[loop_or n (fun _=>none) hb hd hk,firstR_none.2 fun _ _=>rfl];rfl
theorem ite_else {α:Type} {p:Prop} [Decidable p] {a b b':α} (h:b=b'):(if p then a else b)=if p then a else b':=by rw[h]
theorem on_l {Y R:Type} {m:Option (Y⊕R)} {y:Y} {f:Y→Option R} {z:Option R} (h:m=some (.inl y)) (hf:f y=z):m.bind (onS f)=z:=by rw[h];exact hf
theorem flatMap_app {A:Type} (g:Nat→List A) (n:Nat):(List.range (n+1)).flatMap g=(List.range n).flatMap g++g n:=by rw[List.range_succ,List.flatMap_append];simp
theorem loop_coll {A St X:Type} {b:St→Option (St⊕X)} (n:Nat) (mk:Nat→List A→St) (g:Nat→List A) (out:List A→X)
  (hs:∀ i,i < n→b (mk i ((List.range i).flatMap g))=some (.inl (mk (i+1) ((List.range i).flatMap g++g i)))) (he:b (mk n ((List.range n).flatMap g))=some (.inr (out ((List.range n).flatMap g)))) :
  loopO b (mk 0 [])=some (out ((List.range n).flatMap g)):=by
 have key:∀ k i,i+k=n→loopO b (mk i ((List.range i).flatMap g))=some (out ((List.range n).flatMap g)):=by
  intro k
  induction k with
  | zero =>
   intro i hk
   obtain rfl:i=n:=by omega
   rw[loopO_eq,he];rfl
  | succ k ih =>
   intro i hk
   rw[loopO_eq,hs i (by omega),← flatMap_app]
   exact ih (i+1) (by omega)
 exact key n 0 (by omega)
theorem flatMap_len {A:Type} {g:Nat→List A} {m:Nat} (h:∀ i,(g i).length≤m):∀ n,((List.range n).flatMap g).length≤n * m
 | 0=>by simp
 | n+1=>by
  have:=flatMap_len h n
  have:=h n
  rw[flatMap_app,List.length_append,Nat.succ_mul];omega
theorem wr1 {i n:Nat} (h:i < n) (hn:n≤4611686018427387904):IntKind.wrap .i64 ((i:Int)+1)=(i:Int)+1:=w64 (by omega) (by omega)
theorem lt_irr {n:Nat}:¬ ((n:Int) < (n:Int)):=Int.lt_irrefl _
theorem subL_getD {α:Type} [Inhabited α] {l:List α} {k j:Nat} (h:j < k):(subL l 0 k).getD j default=l.getD j default:=by
 simp[subL,List.getD_eq_getElem?_getD,List.getElem?_range h]
theorem inL {i:Nat} {n:Nat} (h:i < n):((0:Int)≤(i:Int))=True∧((i:Int) < (n:Int))=True∧(decide ((i:Int) < (n:Int))=true)=True:=by
 refine⟨eq_true (by omega),eq_true (by omega),eq_true (by simpa using h)⟩
end Go.Av
set_option maxRecDepth 100000
namespace Go.Av.Ch
def odd1 (c:Int):Bool:=(decide (c < 65) || decide (90 < c))&&(decide (c < 48) || decide (57 < c))
def nm0 (s:List UInt8):Bool:=decide (s.length=0) || decide (8 < s.length) || decide (byteAt s 0 < 65) || decide (90 < byteAt s 0)
def nm (s:List UInt8):Bool:=!nm0 s&&!anyR (fun i=>odd1 (byteAt s i)) s.length
theorem nm_loop {s:List UInt8} (hl:s.length≤8) {b:Int→Option (Int⊕(Unit⊕Bool))} (hb:∀ i:Nat,i < s.length→b i=exB (if odd1 (byteAt s i)=true then some false else none) ((i:Int)+1)) (hd:b s.length=some (.inr (.inl ()))) :
  (loopO b 0).bind (onS fun _=>some true)=some (!anyR (fun i=>odd1 (byteAt s i)) s.length):=by
 rw[loop_ex s.length _ hb hd,firstR_const]
 cases anyR (fun i=>odd1 (byteAt s i)) s.length<;>rfl
theorem nm_rname (s:List UInt8):m83 s 8=some (nm s):=by
 have e0:(((s.length:Int)==(0:Int)) || (decide ((8:Int) < (s.length:Int))))=(decide (s.length=0) || decide (8 < s.length)):=by
  rw[Bool.eq_iff_iff];simp only[Bool.or_eq_true,decide_eq_true_eq,beq_iff_eq];omega
 delta m83 d83
 simp only[↓JD.sg_m,↓JD.sq_m,↓JD.sc_m,↓JD.bk_m,↓JD.lp_m,↓JD.cd_m,↓JD.lu_m,↓JD.ct_m,↓JD.ce_m,↓JL.r_m,↓JL.z_m,↓JD.se_m,onE_r,↓Tr.run,↓Tr.run_nd,↓Tr.run_c3,↓Tr.run_c2,↓Tr.run_nx,↓onS,bind_ite,Option.bind_some,Option.bind_none,obR,e0,Int.toNat_zero,Int.le_refl,implies_true,if_true]
 cases h1:(decide (s.length=0) || decide (8 < s.length)) with
 | true=>simp only[Bool.true_or,Bool.not_true,Bool.false_eq_true,false_implies,if_true,nm,nm0,h1,Bool.false_and]
 | false =>
  have hl:s.length≤8∧0 < s.length:=by simp only[Bool.or_eq_false_iff,decide_eq_false_iff_not]at h1;omega
  have z2:(0:Int) < s.length:=by omega
  simp only[Bool.false_or,z2,implies_true,if_true,nm,nm0,h1]
  cases h2:(decide (byteAt s 0 < 65) || decide (90 < byteAt s 0)) with
  | true=>rfl
  | false =>
   simp only[Bool.false_eq_true,if_false,Bool.not_false,Bool.true_and]
   refine nm_loop hl.1 (fun i hi=>?_) ?_
   ·(simp only[exB_ite,exB_some,exB_none];simp only[inL hi,decide_true,Int.toNat_natCast,if_true,implies_true,wr1 hi (by omega)];try rfl)
   ·(simp only[lt_irr,decide_false,Bool.false_eq_true,if_false];try rfl)
theorem nm_name (s:List UInt8):m49 s=some (nm s):=by
 delta m49 d49
 simp only[↓JD.sg_m,↓JD.sq_m,↓JD.sc_m,↓JD.bk_m,↓JD.lp_m,↓JD.cd_m,↓JD.lu_m,↓JD.ct_m,↓JD.ce_m,↓JL.r_m,↓JL.z_m,↓JD.se_m,onE_r,↓Tr.run,↓Tr.run_nd,↓Tr.run_c3,↓Tr.run_c2,↓Tr.run_nx,↓onS,bind_ite,Option.bind_some,Option.bind_none,obR,nm_rname]
def hasK {α:Type} [BEq α] [Inhabited α] (l:List α) (k:Nat) (x:α):Bool:=anyR (fun i=>x==l.getD i default) k
theorem hasK_sub {α:Type} [BEq α] [Inhabited α] {l:List α} {k:Nat} {x:α}:hasK (subL l 0 k) k x=hasK l k x:=anyR_congr fun i hi=>by rw[subL_getD hi]
theorem idx_loop {n:Nat} {F:Nat→Bool} {b:Int→Option (Int⊕(Unit⊕Int))} (hb:∀ i:Nat,i < n→b i=exB (if F i=true then some (i:Int)else none) ((i:Int)+1)) (hd:b n=some (.inr (.inl ()))) :
  (loopO b 0).bind (onS fun _=>some (-1))=some (findR F n):=by
 rw[loop_ex n _ hb hd,orK_getD];rfl
theorem containsS_eq (l:List (List UInt8)) (x:List UInt8) (hl:l.length≤100000):m62 l x=some (hasK l l.length x):=by
 have e:m91 l x=some (findR (fun i=>x==l.getD i default) l.length):=by
  delta m91 d91
  simp only[↓JD.sg_m,↓JD.sq_m,↓JD.sc_m,↓JD.bk_m,↓JD.lp_m,↓JD.cd_m,↓JD.lu_m,↓JD.ct_m,↓JD.ce_m,↓JL.r_m,↓JL.z_m,↓JD.se_m,onE_r,↓Tr.run,↓Tr.run_nd,↓Tr.run_c3,↓Tr.run_c2,↓Tr.run_nx,↓onS,bind_ite,Option.bind_some,Option.bind_none,obR]
  refine idx_loop (fun i hi=>?_) ?_
  ·(simp only[exB_ite,exB_some,exB_none];simp only[inL hi,decide_true,Int.toNat_natCast,if_true,implies_true,wr1 hi (by omega)];try rfl)
  ·(simp only[lt_irr,decide_false,Bool.false_eq_true,if_false];try rfl)
 delta m62 d62
 simp only[↓JD.sg_m,↓JD.sq_m,↓JD.sc_m,↓JD.bk_m,↓JD.lp_m,↓JD.cd_m,↓JD.lu_m,↓JD.ct_m,↓JD.ce_m,↓JL.r_m,↓JL.z_m,↓JD.se_m,onE_r,↓Tr.run,↓Tr.run_nd,↓Tr.run_c3,↓Tr.run_c2,↓Tr.run_nx,↓onS,bind_ite,Option.bind_some,Option.bind_none,obR,e,findR_any,hasK]
theorem indexI_eq (l:List Int) (x:Int) (hl:l.length≤100000):m75 l x=some (findR (fun i=>x==l.getD i default) l.length):=by
 delta m75 d75
 simp only[↓JD.sg_m,↓JD.sq_m,↓JD.sc_m,↓JD.bk_m,↓JD.lp_m,↓JD.cd_m,↓JD.lu_m,↓JD.ct_m,↓JD.ce_m,↓JL.r_m,↓JL.z_m,↓JD.se_m,onE_r,↓Tr.run,↓Tr.run_nd,↓Tr.run_c3,↓Tr.run_c2,↓Tr.run_nx,↓onS,bind_ite,Option.bind_some,Option.bind_none,obR]
 refine idx_loop (fun i hi=>?_) ?_
 ·(simp only[exB_ite,exB_some,exB_none];simp only[inL hi,decide_true,Int.toNat_natCast,if_true,implies_true,wr1 hi (by omega)];try rfl)
 ·(simp only[lt_irr,decide_false,Bool.false_eq_true,if_false];try rfl)
theorem containsI_eq (l:List Int) (x:Int) (hl:l.length≤100000):m45 l x=some (hasK l l.length x):=by
 delta m45 d45
 simp only[↓JD.sg_m,↓JD.sq_m,↓JD.sc_m,↓JD.bk_m,↓JD.lp_m,↓JD.cd_m,↓JD.lu_m,↓JD.ct_m,↓JD.ce_m,↓JL.r_m,↓JL.z_m,↓JD.se_m,onE_r,↓Tr.run,↓Tr.run_nd,↓Tr.run_c3,↓Tr.run_c2,↓Tr.run_nx,↓onS,bind_ite,Option.bind_some,Option.bind_none,obR,indexI_eq l x hl,findR_any,hasK]
def listedS (l:List (List UInt8)) (i:Nat):Int:=if(!nm (l.getD i default))=true then 5 else if hasK l i (l.getD i default)=true then 7 else 0
theorem listed_eq (l:List (List UInt8)) (i:Nat) (hi:i < l.length) (hl:l.length≤100000):m50 l i=some (listedS l i):=by
 have e:=containsS_eq (subL l 0 i) (l.getD i default) (by rw[subL_len];omega)
 rw[subL_len,hasK_sub]at e
 delta m50 d50
 simp only[↓JD.sg_m,↓JD.sq_m,↓JD.sc_m,↓JD.bk_m,↓JD.lp_m,↓JD.cd_m,↓JD.lu_m,↓JD.ct_m,↓JD.ce_m,↓JL.r_m,↓JL.z_m,↓JD.se_m,onE_r,↓Tr.run,↓Tr.run_nd,↓Tr.run_c3,↓Tr.run_c2,↓Tr.run_nx,↓onS,bind_ite,Option.bind_some,Option.bind_none,obR,inL hi,Int.toNat_natCast,if_true,nm_name,e,listedS,some_ite,show (i:Int)≤l.length by omega]
def litF (c:T27) (l:List T118) (i:Nat):Option Int :=
 if(decide ((l.getD i default).Cond < 0) || decide ((c.Conds.length:Int)≤(l.getD i default).Cond))=true then some 2
 else if(decide ((0:Int) < (i:Int))&&decide ((l.getD i default).Cond≤(l.getD ((i:Int) - 1).toNat default).Cond))=true then some 9 else none
def litS (c:T27) (l:List T118):Int:=(firstR (litF c l) l.length).getD 0
theorem literals_eq (c:T27) (l:List T118) (hl:l.length≤100000):m51 c l=some (litS c l):=by
 delta m51 d51
 simp only[↓JD.sg_m,↓JD.sq_m,↓JD.sc_m,↓JD.bk_m,↓JD.lp_m,↓JD.cd_m,↓JD.lu_m,↓JD.ct_m,↓JD.ce_m,↓JL.r_m,↓JL.z_m,↓JD.se_m,onE_r,↓Tr.run,↓Tr.run_nd,↓Tr.run_c3,↓Tr.run_c2,↓Tr.run_nx,↓onS,bind_ite,Option.bind_some,Option.bind_none,obR]
 rw[loop_ex l.length (litF c l) ?_ ?_,orK_getD];rfl
 ·intro i hi
  have w1:IntKind.wrap .i64 ((i:Int) - 1)=(i:Int) - 1:=w64 (by omega) (by omega)
  have h3:=eq_true (show decide ((0:Int) < i)=true→(0:Int)≤(i:Int) - 1 from fun h=>by simp only[decide_eq_true_eq]at h;omega)
  have h4:=eq_true (show decide ((0:Int) < i)=true→(i:Int) - 1 < l.length from fun h=>by omega)
  unfold litF
  (simp only[exB_ite,exB_some,exB_none];simp only[w1,h3,h4,inL hi,decide_true,Int.toNat_natCast,if_true,implies_true,wr1 hi (by omega)];try rfl)
 ·(simp only[lt_irr,decide_false,Bool.false_eq_true,if_false];try rfl)
def actS (l:List (List UInt8)):Int:=if decide ((8:Int) < (l.length:Int))=true then 3 else if anyR (fun i=>!nm (l.getD i default)) l.length=true then 5 else 0
theorem actS_len {l:List (List UInt8)} (h:actS l=0):l.length≤8:=by
 unfold actS at h
 split at h
 ·cases h
 ·rename_i h1;simp only[decide_eq_true_eq]at h1;omega
theorem actions_eq (l:List (List UInt8)) (hl:l.length≤100000):m54 l=some (actS l):=by
 have e:m102o0 l=some (findR (fun i=>!nm (l.getD i default)) l.length):=by
  delta m102o0 d102o0
  simp only[↓JD.sg_m,↓JD.sq_m,↓JD.sc_m,↓JD.bk_m,↓JD.lp_m,↓JD.cd_m,↓JD.lu_m,↓JD.ct_m,↓JD.ce_m,↓JL.r_m,↓JL.z_m,↓JD.se_m,onE_r,↓Tr.run,↓Tr.run_nd,↓Tr.run_c3,↓Tr.run_c2,↓Tr.run_nx,↓onS,bind_ite,Option.bind_some,Option.bind_none,obR,m85o0,d85o0,nm_name]
  refine idx_loop (fun i hi=>?_) ?_
  ·(simp only[exB_ite,exB_some,exB_none];simp only[inL hi,decide_true,Int.toNat_natCast,if_true,implies_true,wr1 hi (by omega)];try rfl)
  ·(simp only[lt_irr,decide_false,Bool.false_eq_true,if_false];try rfl)
 delta m54 d54
 simp only[↓JD.sg_m,↓JD.sq_m,↓JD.sc_m,↓JD.bk_m,↓JD.lp_m,↓JD.cd_m,↓JD.lu_m,↓JD.ct_m,↓JD.ce_m,↓JL.r_m,↓JL.z_m,↓JD.se_m,onE_r,↓Tr.run,↓Tr.run_nd,↓Tr.run_c3,↓Tr.run_c2,↓Tr.run_nx,↓onS,bind_ite,Option.bind_some,Option.bind_none,obR,m84o0,d84o0,e,findR_any,actS,some_ite]
def comp (c:T27) (x:Int):Bool:=anyR (fun i=>(c.States.getD i default).Parent==x) c.States.length
theorem composite_eq (c:T27) (x:Int) (hl:c.States.length≤100000):m79 c x=some (comp c x):=by
 have e:m109o0 c.States x=some (findR (fun i=>(c.States.getD i default).Parent==x) c.States.length):=by
  delta m109o0 d109o0
  simp only[↓JD.sg_m,↓JD.sq_m,↓JD.sc_m,↓JD.bk_m,↓JD.lp_m,↓JD.cd_m,↓JD.lu_m,↓JD.ct_m,↓JD.ce_m,↓JL.r_m,↓JL.z_m,↓JD.se_m,onE_r,↓Tr.run,↓Tr.run_nd,↓Tr.run_c3,↓Tr.run_c2,↓Tr.run_nx,↓onS,bind_ite,Option.bind_some,Option.bind_none,obR,m101o0,d101o0]
  refine idx_loop (fun i hi=>?_) ?_
  ·(simp only[exB_ite,exB_some,exB_none];simp only[inL hi,decide_true,Int.toNat_natCast,if_true,implies_true,wr1 hi (by omega)];try rfl)
  ·(simp only[lt_irr,decide_false,Bool.false_eq_true,if_false];try rfl)
 delta m79 d79
 simp only[↓JD.sg_m,↓JD.sq_m,↓JD.sc_m,↓JD.bk_m,↓JD.lp_m,↓JD.cd_m,↓JD.lu_m,↓JD.ct_m,↓JD.ce_m,↓JL.r_m,↓JL.z_m,↓JD.se_m,onE_r,↓Tr.run,↓Tr.run_nd,↓Tr.run_c3,↓Tr.run_c2,↓Tr.run_nx,↓onS,bind_ite,Option.bind_some,Option.bind_none,obR,m100o0,d100o0,e,findR_any,comp]
def isS (c:T27) (x:Int):Bool:=decide ((0:Int)≤x)&&decide (x < (c.States.length:Int))
theorem is_eq (c:T27) (x:Int):m53 c x=some (isS c x):=rfl
theorem isS_iff {c:T27} {x:Int}:isS c x=true↔0≤x∧x < c.States.length:=by simp[isS]
def childS (c:T27) (x y:Int):Bool:=isS c x&&((c.States.getD x.toNat default).Parent==y)
end Go.Av.Ch
set_option maxRecDepth 100000
namespace Go.Av.Ch
structure Fit (c:T27):Prop where
 conds:c.Conds.length≤1000
 never:c.Never.length≤1000
 lits:∀ l∈c.Never,l.length≤1000
 states:c.States.length≤1000
 entry:∀ s∈c.States,s.Entry.length≤1000
 exit_:∀ s∈c.States,s.Exit.length≤1000
 trans:c.Transitions.length≤1000
 when_:∀ t∈c.Transitions,t.When.length≤1000
 acts:∀ t∈c.Transitions,t.Actions.length≤1000
def namesS (c:T27):List (List UInt8):=(List.range c.States.length).flatMap fun i=>[(c.States.getD i default).Name]
theorem namesS_map (c:T27):namesS c=(List.range c.States.length).map fun i=>(c.States.getD i default).Name:=(List.map_eq_flatMap ..).symm
theorem namesS_len (c:T27):(namesS c).length=c.States.length:=by rw[namesS_map];simp
def stateT (c:T27) (i:Nat):Int :=
 if(decide ((c.States.getD i default).Parent < (-1:Int)) || decide ((i:Int)≤(c.States.getD i default).Parent))=true then 9
 else if((comp c i&&!childS c (c.States.getD i default).Initial i) || (!comp c i&&((c.States.getD i default).Initial != (-1:Int))))=true then 2
 else if(!comp c i&&(c.States.getD i default).History)=true then 17
 else if(actS (c.States.getD i default).Entry != 0)=true then actS (c.States.getD i default).Entry
 else actS (c.States.getD i default).Exit
def stateS (c:T27) (i:Nat):Int:=if(listedS (namesS c) i != 0)=true then listedS (namesS c) i else stateT c i
theorem state_eq (c:T27) (H:Fit c) (i:Nat) (hi:i < c.States.length):m52 c (namesS c) i=some (stateS c i):=by
 have hs:=H.states
 have he:=H.entry _ (getD_mem hi)
 have hx:=H.exit_ _ (getD_mem hi)
 have e1:=listed_eq (namesS c) i (by rw[namesS_len];exact hi) (by rw[namesS_len];omega)
 delta m52 d52
 simp only[↓JD.sg_m,↓JD.sq_m,↓JD.sc_m,↓JD.bk_m,↓JD.lp_m,↓JD.cd_m,↓JD.lu_m,↓JD.ct_m,↓JD.ce_m,↓JL.r_m,↓JL.z_m,↓JD.se_m,onE_r,↓Tr.run,↓Tr.run_nd,↓Tr.run_c3,↓Tr.run_c2,↓Tr.run_nx,↓onS,bind_ite,Option.bind_some,Option.bind_none,obR,inL hi,e1,Int.toNat_natCast,if_true,composite_eq c _ (Nat.le_trans hs (by omega)),is_eq,actions_eq _ (Nat.le_trans he (by omega)),actions_eq _ (Nat.le_trans hx (by omega)),stateS,stateT,some_ite]
 refine ite_else (ite_else ?_)
 cases hc:comp c i with
 | false=>simp only[Bool.false_and,Bool.not_false,Bool.true_and,Bool.false_or,Bool.false_eq_true,if_false,false_implies,if_true]
 | true =>
  have g1:=eq_true (show (!!isS c (c.States.getD i default).Initial)=true→(0:Int)≤(c.States.getD i default).Initial from fun h=>by simp only[Bool.not_not]at h;exact(isS_iff.1 h).1)
  have g2:=eq_true (show (!!isS c (c.States.getD i default).Initial)=true→(c.States.getD i default).Initial < (c.States.length:Int) from fun h=>by simp only[Bool.not_not]at h;exact(isS_iff.1 h).2)
  simp only[if_true,Option.bind_some,g1,g2,childS,bne,Bool.not_and,Bool.true_and,Bool.not_true,Bool.false_and,Bool.or_false,Bool.false_eq_true,if_false]
def condF (c:T27) (i:Nat):Option Int:=if(listedS c.Conds i != 0)=true then some (listedS c.Conds i)else none
def nevF (c:T27) (i:Nat):Option Int:=if(((c.Never.getD i default).length:Int)==0)=true then some 1 else if(litS c (c.Never.getD i default) != 0)=true then some (litS c (c.Never.getD i default))else none
def stF (c:T27) (i:Nat):Option Int:=if(stateS c i != 0)=true then some (stateS c i)else none
def trF (c:T27) (i:Nat):Option Int :=
 if((!isS c (c.Transitions.getD i default).From) || (!isS c (c.Transitions.getD i default).To))=true then some 2
 else if(litS c (c.Transitions.getD i default).When != 0)=true then some (litS c (c.Transitions.getD i default).When)
 else if(actS (c.Transitions.getD i default).Actions != 0)=true then some (actS (c.Transitions.getD i default).Actions)else none
def checkM (c:T27):Option Int :=
 if(!nm c.Name)=true then some 5
 else if((c.States.length:Int)==0)=true then some 6
 else if((((decide ((12:Int) < (c.Conds.length:Int))) || (decide ((16:Int) < (c.Never.length:Int)))) || (decide ((40:Int) < (c.States.length:Int)))) || (decide ((120:Int) < (c.Transitions.length:Int))))=true then some 3
 else orK (firstR (condF c) c.Conds.length) (orK (firstR (nevF c) c.Never.length) (orK (firstR (stF c) c.States.length) (if(!isS c c.Start)=true then some 2 else orK (firstR (trF c) c.Transitions.length) (some 0))))
theorem checkM_some (c:T27):∃ e,checkM c=some e:=ite_total (ite_total (ite_total (orK_total (orK_total (orK_total (ite_total (orK_total ⟨0,rfl⟩)))))))
theorem Check_eq (c:T27) (H:Fit c):m20 c=checkM c:=by
 have hcl:=H.conds
 have hnl:=H.never
 have hsl:=H.states
 have htl:=H.trans
 delta m20 d20
 simp only[↓JD.sg_m,↓JD.sq_m,↓JD.sc_m,↓JD.bk_m,↓JD.lp_m,↓JD.cd_m,↓JD.lu_m,↓JD.ct_m,↓JD.ce_m,↓JL.r_m,↓JL.z_m,↓JD.se_m,onE_r,↓Tr.run,↓Tr.run_nd,↓Tr.run_c3,↓Tr.run_c2,↓Tr.run_nx,↓onS,bind_ite,Option.bind_some,Option.bind_none,obR,nm_name,is_eq,checkM]
 refine ite_else (ite_else (ite_else (loop_or _ (condF c) (fun i hi=>?_) (by (simp only[lt_irr,decide_false,Bool.false_eq_true,if_false];try rfl)) (loop_or _ (nevF c) (fun i hi=>?_) (by (simp only[lt_irr,decide_false,Bool.false_eq_true,if_false];try rfl)) (on_l (loop_coll c.States.length (fun i l=>(l,(i:Int))) (fun i=>[(c.States.getD i default).Name]) Sum.inl (fun i hi=>?_) (by (simp only[lt_irr,decide_false,Bool.false_eq_true,if_false];try rfl))) (loop_or _ (stF c) (fun i hi=>?_) (by (simp only[lt_irr,decide_false,Bool.false_eq_true,if_false];try rfl)) (ite_else (loop_or _ (trF c) (fun i hi=>?_) (by (simp only[lt_irr,decide_false,Bool.false_eq_true,if_false];try rfl)) rfl))))))))
 ·unfold condF
  (simp only[exB_ite,exB_some,exB_none];simp only[listed_eq c.Conds i hi (by omega),Option.bind_some,inL hi,decide_true,Int.toNat_natCast,if_true,implies_true,wr1 hi (by omega)];try rfl)
 ·have hl:=H.lits _ (getD_mem hi)
  unfold nevF
  (simp only[exB_ite,exB_some,exB_none];simp only[literals_eq c _ (Nat.le_trans hl (by omega)),Option.bind_some,inL hi,decide_true,Int.toNat_natCast,if_true,implies_true,wr1 hi (by omega)];try rfl)
 ·have hl:=flatMap_len (g:=fun i=>[(c.States.getD i default).Name]) (m:=1) (fun i=>by simp) i
  have h3:(((List.range i).flatMap fun i=>[(c.States.getD i default).Name]).length+1) * 16≤140737488355328:=by omega
  simp only[inL hi,h3,Int.toNat_natCast,if_true,wr1 hi (by omega)];rfl
 ·unfold stF
  have e:=state_eq c H i hi
  unfold namesS at e
  (simp only[exB_ite,exB_some,exB_none];simp only[e,Option.bind_some,inL hi,decide_true,Int.toNat_natCast,if_true,implies_true,wr1 hi (by omega)];try rfl)
 ·have hw:=H.when_ _ (getD_mem hi)
  have ha:=H.acts _ (getD_mem hi)
  unfold trF
  simp only[exB_ite,exB_some,exB_none]
  simp only[inL hi,is_eq,literals_eq c _ (Nat.le_trans hw (by omega)),actions_eq _ (Nat.le_trans ha (by omega)),Option.bind_some,decide_true,Int.toNat_natCast,if_true,wr1 hi (by omega)]
  cases isS c (c.Transitions.getD i default).From<;>simp only[Bool.not_true,Bool.not_false,Bool.false_eq_true,Bool.true_or,Bool.false_or,if_true,if_false,Option.bind_some]
end Go.Av.Ch
set_option maxRecDepth 100000
namespace Go.Av.Ch
def topB (c:T27) (s:Int):Bool:=decide ((c.States.getD s.toNat default).Parent < 0) || decide (s≤(c.States.getD s.toNat default).Parent)
def pathT (c:T27):Nat→Int→List Int
 | 0,_=>[]
 | n+1,s=>if topB c s=true then[]else(c.States.getD s.toNat default).Parent :: pathT c n (c.States.getD s.toNat default).Parent
def pathS (c:T27) (s:Int):List Int:=if isS c s=true then s :: pathT c s.toNat s else[]
theorem pathT_len (c:T27):∀ n s,(pathT c n s).length≤n
 | 0,_=>by simp[pathT]
 | n+1,s=>by
  unfold pathT
  split
  ·simp
  ·have:=pathT_len c n (c.States.getD s.toNat default).Parent
   simp only[List.length_cons];omega
theorem pathS_len (c:T27) (s:Int):(pathS c s).length≤c.States.length:=by
 unfold pathS
 split
 ·rename_i h
  have:=isS_iff.1 h
  have:=pathT_len c s.toNat s
  simp only[List.length_cons];omega
 ·simp
theorem topB_false {c:T27} {s:Int} (h:topB c s=false):0≤(c.States.getD s.toNat default).Parent∧(c.States.getD s.toNat default).Parent < s:=by
 simp only[topB,Bool.or_eq_false_iff,decide_eq_false_iff_not]at h;omega
theorem pathT_fuel (c:T27):∀ n m s,0≤s→s.toNat≤n→s.toNat≤m→pathT c n s=pathT c m s:=by
 intro n
 induction n with
 | zero =>
  intro m s h0 hn hm
  cases m with
  | zero=>rfl
  | succ m =>
   unfold pathT
   cases ht:topB c s with
   | true=>simp
   | false=>have:=topB_false ht;omega
 | succ n ih =>
  intro m s h0 hn hm
  cases ht:topB c s with
  | true =>
   cases m with
   | zero=>unfold pathT;simp[ht]
   | succ m=>unfold pathT;simp[ht]
  | false =>
   have:=topB_false ht
   cases m with
   | zero=>omega
   | succ m =>
    unfold pathT
    simp only[ht,Bool.false_eq_true,if_false]
    rw[ih m _ this.1 (by omega) (by omega)]
theorem pathS_step {c:T27} {s:Int} (h:isS c s=true):pathS c s=s :: if topB c s=true then[]else pathS c (c.States.getD s.toNat default).Parent:=by
 have hs:=isS_iff.1 h
 unfold pathS
 rw[if_pos h,pathT_fuel c s.toNat (s.toNat+1) s hs.1 (Nat.le_refl _) (by omega)]
 congr 1
 show (if topB c s=true then[]else(c.States.getD s.toNat default).Parent :: pathT c s.toNat (c.States.getD s.toNat default).Parent)=_
 cases ht:topB c s with
 | true=>rfl
 | false =>
  have hp:=topB_false ht
  simp only[Bool.false_eq_true,if_false]
  rw[if_pos (isS_iff.2 ⟨hp.1,by omega⟩),pathT_fuel c s.toNat (c.States.getD s.toNat default).Parent.toNat _ hp.1 (by omega) (Nat.le_refl _)]
theorem pathS_is {c:T27}:∀ (n:Nat) (s:Int),s.toNat≤n→∀ x∈pathS c s,isS c x=true∧x≤s:=by
 intro n
 induction n with
 | zero =>
  intro s hn x hx
  cases h:isS c s with
  | false=>unfold pathS at hx;rw[if_neg (by rw[h];decide)]at hx;cases hx
  | true =>
   have hs:=isS_iff.1 h
   rw[pathS_step h]at hx
   cases ht:topB c s with
   | true=>rw[ht]at hx;simp at hx;subst hx;exact⟨h,Int.le_refl _⟩
   | false=>have:=topB_false ht;omega
 | succ n ih =>
  intro s hn x hx
  cases h:isS c s with
  | false=>unfold pathS at hx;rw[if_neg (by rw[h];decide)]at hx;cases hx
  | true =>
   rw[pathS_step h]at hx
   rcases List.mem_cons.1 hx with rfl | hx
   ·exact⟨h,Int.le_refl _⟩
   ·cases ht:topB c s with
    | true=>rw[ht]at hx;simp at hx
    | false =>
     have:=topB_false ht
     rw[ht]at hx
     have:=ih _ (by omega) x hx
     exact⟨this.1,by omega⟩
theorem path_loop {c:T27} {b:Int×List Int→Option ((Int×List Int)⊕List Int)}
  (hb:∀ (s:Int) (acc:List Int),0≤s→s < c.States.length→b (s,acc)=if topB c s=true then some (.inr acc)else if(acc.length+1) * 8≤140737488355328 then some (.inl ((c.States.getD s.toNat default).Parent,acc++[(c.States.getD s.toNat default).Parent]))else none) :
  ∀ (n:Nat) (s:Int) (acc:List Int),0≤s→s < c.States.length→s.toNat≤n→acc.length+n≤100000→loopO b (s,acc)=some (acc++pathT c n s):=by
 intro n
 induction n with
 | zero =>
  intro s acc h0 h1 hn hl
  rw[loopO_eq,hb s acc h0 h1]
  cases ht:topB c s with
  | true=>simp[pathT]
  | false=>have:=topB_false ht;omega
 | succ n ih =>
  intro s acc h0 h1 hn hl
  rw[loopO_eq,hb s acc h0 h1]
  unfold pathT
  cases ht:topB c s with
  | true=>simp
  | false =>
   have hp:=topB_false ht
   have h8:(acc.length+1) * 8≤140737488355328:=by omega
   simp only[Bool.false_eq_true,if_false,if_pos h8,Option.bind_some]
   rw[ih _ _ hp.1 (by omega) (by omega) (by simp only[List.length_append,List.length_cons,List.length_nil];omega)]
   simp
theorem Path_eq (c:T27) (H:Fit c) (s:Int):m44 c s=some (pathS c s):=by
 have hs:=H.states
 delta m44 d44
 simp only[↓JD.sg_m,↓JD.sq_m,↓JD.sc_m,↓JD.bk_m,↓JD.lp_m,↓JD.cd_m,↓JD.lu_m,↓JD.ct_m,↓JD.ce_m,↓JL.r_m,↓JL.z_m,↓JD.se_m,onE_r,↓Tr.run,↓Tr.run_nd,↓Tr.run_c3,↓Tr.run_c2,↓Tr.run_nx,↓onS,bind_ite,Option.bind_some,Option.bind_none,obR,is_eq]
 unfold pathS
 cases h:isS c s with
 | false=>rfl
 | true =>
  have hi:=isS_iff.1 h
  simp only[Bool.not_true,Bool.false_eq_true,if_false,if_true]
  rw[path_loop (c:=c) (fun s acc h0 h1=>?_) s.toNat s [s] hi.1 hi.2 (Nat.le_refl _) (by simp;omega)]
  ·simp
  ·simp only[h0,h1,if_true];rfl
def bitV (v:Int) (k:Nat):Bool:=IntKind.u16.wrap ((BitVec.ofInt IntKind.u16.bits (v.fdiv (2 ^ min k IntKind.u16.bits)) &&& BitVec.ofInt IntKind.u16.bits 1).toNat:Int)==1
def litN (v:Int) (x:T118):Bool:=decide (x.Cond < 0) || decide (15 < x.Cond) || bitV v x.Cond.toNat==x.Neg
def holdsS (l:List T118) (v:Int):Bool:=!anyR (fun i=>litN v (l.getD i default)) l.length
theorem holds_loop {l:List T118} {v:Int} (hl:l.length≤100000) {b:Int→Option (Int⊕(Unit⊕Bool))} (hb:∀ i:Nat,i < l.length→b i=exB (if litN v (l.getD i default)=true then some false else none) ((i:Int)+1)) (hd:b l.length=some (.inr (.inl ()))) :
  (loopO b 0).bind (onS fun _=>some true)=some (holdsS l v):=by
 rw[loop_ex l.length _ hb hd,firstR_const,holdsS]
 cases anyR (fun i=>litN v (l.getD i default)) l.length<;>rfl
theorem Holds_eq (l:List T118) (v:Int) (hl:l.length≤100000):m46 l v=some (holdsS l v):=by
 delta m46 d46
 simp only[↓JD.sg_m,↓JD.sq_m,↓JD.sc_m,↓JD.bk_m,↓JD.lp_m,↓JD.cd_m,↓JD.lu_m,↓JD.ct_m,↓JD.ce_m,↓JL.r_m,↓JL.z_m,↓JD.se_m,onE_r,↓Tr.run,↓Tr.run_nd,↓Tr.run_c3,↓Tr.run_c2,↓Tr.run_nx,↓onS,bind_ite,Option.bind_some,Option.bind_none,obR]
 refine holds_loop hl (fun i hi=>?_) (by (simp only[lt_irr,decide_false,Bool.false_eq_true,if_false];try rfl))
 have h1:=eq_true (show (!(decide ((l.getD i default).Cond < 0) || decide (15 < (l.getD i default).Cond)))=true→0≤(l.getD i default).Cond from fun h=>by simp only[Bool.not_eq_true',Bool.or_eq_false_iff,decide_eq_false_iff_not]at h;omega)
 (simp only[exB_ite,exB_some,exB_none];simp only[h1,inL hi,decide_true,Int.toNat_natCast,if_true,implies_true,wr1 hi (by omega)];try rfl)
def wideB (c:T27) (v:Int):Bool:=decide ((c.Conds.length:Int) < 16)&&(v.fdiv (2 ^ min (c.Conds.length:Int).toNat IntKind.u16.bits) != 0)
def allowedS (c:T27) (v:Int):Bool:=!wideB c v&&!anyR (fun i=>holdsS (c.Never.getD i default) v) c.Never.length
theorem Allowed_eq (c:T27) (H:Fit c) (v:Int):m19 c v=some (allowedS c v):=by
 have hn:=H.never
 have e:m82o0 c.Never v=some (findR (fun i=>holdsS (c.Never.getD i default) v) c.Never.length):=by
  delta m82o0 d82o0
  simp only[↓JD.sg_m,↓JD.sq_m,↓JD.sc_m,↓JD.bk_m,↓JD.lp_m,↓JD.cd_m,↓JD.lu_m,↓JD.ct_m,↓JD.ce_m,↓JL.r_m,↓JL.z_m,↓JD.se_m,onE_r,↓Tr.run,↓Tr.run_nd,↓Tr.run_c3,↓Tr.run_c2,↓Tr.run_nx,↓onS,bind_ite,Option.bind_some,Option.bind_none,obR,m48o0,d48o0]
  refine idx_loop (fun i hi=>?_) (by (simp only[lt_irr,decide_false,Bool.false_eq_true,if_false];try rfl))
  have hl:=H.lits _ (getD_mem hi)
  (simp only[exB_ite,exB_some,exB_none];simp only[Holds_eq _ _ (Nat.le_trans hl (by omega)),Option.bind_some,inL hi,decide_true,Int.toNat_natCast,if_true,implies_true,wr1 hi (by omega)];try rfl)
 have h1:=eq_true (show decide ((c.Conds.length:Int) < 16)=true→(0:Int)≤(c.Conds.length:Int) from fun _=>by omega)
 delta m19 d19
 simp only[↓JD.sg_m,↓JD.sq_m,↓JD.sc_m,↓JD.bk_m,↓JD.lp_m,↓JD.cd_m,↓JD.lu_m,↓JD.ct_m,↓JD.ce_m,↓JL.r_m,↓JL.z_m,↓JD.se_m,onE_r,↓Tr.run,↓Tr.run_nd,↓Tr.run_c3,↓Tr.run_c2,↓Tr.run_nx,↓onS,bind_ite,Option.bind_some,Option.bind_none,obR,m47o0,d47o0,e,findR_any,h1,if_true]
 unfold allowedS
 cases hw:wideB c v with
 | true=>unfold wideB at hw;simp only[hw,if_true];rfl
 | false=>unfold wideB at hw;simp only[hw,if_false,Bool.false_eq_true];rfl
def enabG (c:T27) (p:List Int) (v:Int) (i:Nat):List Int:=if(hasK p p.length (c.Transitions.getD i default).From&&holdsS (c.Transitions.getD i default).When v)=true then[(i:Int)]else[]
def enabledS (c:T27) (leaf v:Int):List Int:=(List.range c.Transitions.length).flatMap (enabG c (pathS c leaf) v)
theorem enabG_len (c:T27) (p:List Int) (v:Int) (i:Nat):(enabG c p v i).length≤1:=by unfold enabG;split<;>simp
theorem Enabled_eq (c:T27) (H:Fit c) (leaf v:Int):m18 c leaf v=some (enabledS c leaf v):=by
 have hs:=H.states
 have ht:=H.trans
 have hp:=pathS_len c leaf
 delta m18 d18
 simp only[↓JD.sg_m,↓JD.sq_m,↓JD.sc_m,↓JD.bk_m,↓JD.lp_m,↓JD.cd_m,↓JD.lu_m,↓JD.ct_m,↓JD.ce_m,↓JL.r_m,↓JL.z_m,↓JD.se_m,onE_r,↓Tr.run,↓Tr.run_nd,↓Tr.run_c3,↓Tr.run_c2,↓Tr.run_nx,↓onS,bind_ite,Option.bind_some,Option.bind_none,obR,Path_eq c H,onS_l]
 refine on_l (loop_coll c.Transitions.length (fun i l=>(l,(i:Int))) (enabG c (pathS c leaf) v) Sum.inl (fun i hi=>?_) (by (simp only[lt_irr,decide_false,Bool.false_eq_true,if_false];try rfl))) rfl
 have hl:=flatMap_len (enabG_len c (pathS c leaf) v) i
 have h3:(((List.range i).flatMap (enabG c (pathS c leaf) v)).length+1) * 8≤140737488355328:=by omega
 have hw:=H.when_ _ (getD_mem hi)
 simp only[inL hi,decide_true,h3,Int.toNat_natCast,if_true,wr1 hi (by omega),containsI_eq _ _ (show (pathS c leaf).length≤100000 by omega),Holds_eq _ _ (Nat.le_trans hw (by omega)),Option.bind_some,enabG]
 cases hasK (pathS c leaf) (pathS c leaf).length (c.Transitions.getD i default).From with
 | false=>simp
 | true=>cases holdsS (c.Transitions.getD i default).When v<;>simp
end Go.Av.Ch
set_option maxRecDepth 100000
namespace Go.Av.Ch
theorem minQ0 (k:Int) (hk:0≤k) (L:Nat):(0:Int)≤(if k < (L:Int)then k else(L:Int)):=by split<;>omega
theorem minQ1 (k:Int) (L:Nat):(if k < (L:Int)then k else(L:Int))≤(L:Int):=by split<;>omega
theorem minQ2 (k:Int) (hk:k≤1000) (L:Nat):(0+(if k < (L:Int)then k else(L:Int)).toNat) * 16≤140737488355328:=by split<;>omega
def cutL {A:Type} [Inhabited A] (k:Int) (l:List A):List A:=[]++subL l 0 (if k < (l.length:Int)then k else(l.length:Int)).toNat
theorem cutL_len {A:Type} [Inhabited A] (k:Nat) (l:List A):(cutL (k:Int) l).length=min k l.length:=by
 rw[cutL,List.nil_append,subL_len];split<;>omega
theorem coll_map {A:Type} {h:Nat→A} {n:Nat}:((List.range n).flatMap fun i=>[h i])=(List.range n).map h:=(List.map_eq_flatMap ..).symm
theorem mem_coll {A:Type} {h:Nat→A} {n:Nat} {P:A→Prop} (hp:∀ i,i < n→P (h i)):∀ x∈(List.range n).flatMap fun i=>[h i],P x:=fun x hx=>by
 obtain⟨i,h1,hi⟩:=List.mem_flatMap.1 hx
 simp only[List.mem_singleton]at hi
 rw[hi];exact hp i (List.mem_range.1 h1)
theorem few_end {n k:Nat} {K:Int} (hK:K=(k:Int)):((decide (((min n k:Nat):Int) < (n:Int)))&&(decide (((min n k:Nat):Int) < K)))=false:=by
 rw[Bool.eq_false_iff];simp only[ne_eq,Bool.and_eq_true,decide_eq_true_eq];omega
theorem few_on {i n k:Nat} {K:Int} (hK:K=(k:Int)) (h:i < min n k):((decide ((i:Int) < (n:Int)))&&(decide ((i:Int) < K)))=true:=by
 simp only[Bool.and_eq_true,decide_eq_true_eq];omega
def fewN (c:T27) (i:Nat):List T118:=cutL 6 (c.Never.getD i default)
def fewT (c:T27) (i:Nat):T56:=⟨(c.States.getD i default).Name,(c.States.getD i default).Parent,(c.States.getD i default).Initial,(c.States.getD i default).History,cutL 9 (c.States.getD i default).Entry,cutL 9 (c.States.getD i default).Exit⟩
def fewR (c:T27) (i:Nat):T58:=⟨(c.Transitions.getD i default).From,(c.Transitions.getD i default).To,cutL 6 (c.Transitions.getD i default).When,cutL 9 (c.Transitions.getD i default).Actions⟩
def fewS (c:T27):T27:=⟨c.Name,cutL 6 c.Conds,(List.range (min c.Never.length 4)).flatMap (fun i=>[fewN c i]),(List.range (min c.States.length 12)).flatMap (fun i=>[fewT c i]),c.Start,(List.range (min c.Transitions.length 24)).flatMap (fun i=>[fewR c i])⟩
theorem round_few {A:Type} {g:Nat→A} {i:Nat} {n k z:Nat} (hz:z≤1000) (hk:k≤1000) (h:i < min n k):(((List.range i).flatMap fun i=>[g i]).length+1) * z≤140737488355328:=by
 have hl:=flatMap_len (g:=fun i=>[g i]) (m:=1) (fun i=>by simp) i
 have:(((List.range i).flatMap fun i=>[g i]).length+1) * z≤1001 * 1000:=Nat.mul_le_mul (by omega) hz
 omega
theorem Few_eq (c:T27):m6 c=some (fewS c):=by
 delta m6 d6
 simp only[↓JD.sg_m,↓JD.sq_m,↓JD.sc_m,↓JD.bk_m,↓JD.lp_m,↓JD.cd_m,↓JD.lu_m,↓JD.ct_m,↓JD.ce_m,↓JL.r_m,↓JL.z_m,↓JD.se_m,onE_r,↓Tr.run,↓Tr.run_nd,↓Tr.run_c3,↓Tr.run_c2,↓Tr.run_nx,↓onS,bind_ite,Option.bind_some,Option.bind_none,obR,minQ0 6 (by omega),minQ1,minQ2 6 (by omega),if_true]
 refine on_l (loop_coll (min c.Never.length 4) (fun i l=>((i:Int),l)) (fun i=>[fewN c i]) Sum.inl (fun i hi=>?_) ?_) (on_l (loop_coll (min c.States.length 12) (fun i l=>((i:Int),l)) (fun i=>[fewT c i]) Sum.inl (fun i hi=>?_) ?_) (on_l (loop_coll (min c.Transitions.length 24) (fun i l=>((i:Int),l)) (fun i=>[fewR c i]) Sum.inl (fun i hi=>?_) ?_) rfl))
 ·rw[if_pos (few_on (K:=4) rfl hi)];simp only[round_few (show 24≤1000 by omega) (by omega) hi,minQ0 6 (by omega),minQ1,minQ2 6 (by omega),Int.toNat_natCast,inL (show i < c.Never.length by omega),if_true,wr1 hi (by omega)];rfl
 ·simp only[few_end (n:=c.Never.length) (k:=4) (K:=4) rfl,Bool.false_eq_true,if_false]
 ·rw[if_pos (few_on (K:=12) rfl hi)];simp only[round_few (show 88≤1000 by omega) (by omega) hi,minQ0 9 (by omega),minQ1,minQ2 9 (by omega),Int.toNat_natCast,inL (show i < c.States.length by omega),if_true,wr1 hi (by omega)];rfl
 ·simp only[few_end (n:=c.States.length) (k:=12) (K:=12) rfl,Bool.false_eq_true,if_false]
 ·rw[if_pos (few_on (K:=24) rfl hi)];simp only[round_few (show 64≤1000 by omega) (by omega) hi,minQ0 6 (by omega),minQ0 9 (by omega),minQ1,minQ2 6 (by omega),minQ2 9 (by omega),Int.toNat_natCast,inL (show i < c.Transitions.length by omega),if_true,wr1 hi (by omega)];rfl
 ·simp only[few_end (n:=c.Transitions.length) (k:=24) (K:=24) rfl,Bool.false_eq_true,if_false]
structure Small (c:T27):Prop where
 conds:c.Conds.length≤6
 never:c.Never.length≤4
 lits:∀ l∈c.Never,l.length≤6
 states:c.States.length≤12
 entry:∀ s∈c.States,s.Entry.length≤9
 exit_:∀ s∈c.States,s.Exit.length≤9
 trans:c.Transitions.length≤24
 when_:∀ t∈c.Transitions,t.When.length≤6
 acts:∀ t∈c.Transitions,t.Actions.length≤9
theorem Small.fit {c:T27} (h:Small c):Fit c :=
 ⟨Nat.le_trans h.conds (by omega),Nat.le_trans h.never (by omega),fun l hl=>Nat.le_trans (h.lits l hl) (by omega),Nat.le_trans h.states (by omega),fun s hs=>Nat.le_trans (h.entry s hs) (by omega),fun s hs=>Nat.le_trans (h.exit_ s hs) (by omega),Nat.le_trans h.trans (by omega),fun t ht=>Nat.le_trans (h.when_ t ht) (by omega),fun t ht=>Nat.le_trans (h.acts t ht) (by omega)⟩
theorem cutL6 {A:Type} [Inhabited A] (l:List A):(cutL 6 l).length≤6:=by have:=cutL_len 6 l;simp only[Int.cast_ofNat_Int]at this;omega
theorem cutL9 {A:Type} [Inhabited A] (l:List A):(cutL 9 l).length≤9:=by have:=cutL_len 9 l;simp only[Int.cast_ofNat_Int]at this;omega
theorem few_small (c : T27) : Small (fewS c) :=
  ⟨cutL6 _, Nat.le_trans (flatMap_len (m := 1) (fun i => by simp) _) (by omega), mem_coll fun i _ => cutL6 _, Nat.le_trans (flatMap_len (m := 1) (fun i => by simp) _) (by omega), mem_coll fun i _ => cutL9 _, mem_coll fun i _ => cutL9 _,
   Nat.le_trans (flatMap_len (m := 1) (fun i => by simp) _) (by omega), mem_coll fun i _ => cutL6 _, mem_coll fun i _ => cutL9 _⟩
end Go.Av.Ch
set_option maxRecDepth 100000
namespace Go.Av.Ch
theorem bne_self {α:Type} [BEq α] [LawfulBEq α] (x:α):(x != x)=false:=by simp
theorem sameI (l:List Int) (hl:l.length≤1000000):m16 l l=some true:=by
 delta m16 d16
 simp only[↓JD.sg_m,↓JD.sq_m,↓JD.sc_m,↓JD.bk_m,↓JD.lp_m,↓JD.cd_m,↓JD.lu_m,↓JD.ct_m,↓JD.ce_m,↓JL.r_m,↓JL.z_m,↓JD.se_m,onE_r,↓Tr.run,↓Tr.run_nd,↓Tr.run_c3,↓Tr.run_c2,↓Tr.run_nx,↓onS,bind_ite,Option.bind_some,Option.bind_none,obR,bne_self,Bool.false_eq_true,if_false]
 refine loop_pass l.length (fun i hi=>?_) (by (simp only[lt_irr,decide_false,Bool.false_eq_true,if_false];try rfl)) rfl
 simp only[inL hi,decide_true,Int.toNat_natCast,if_true,wr1 hi (by omega)]
theorem sameS (l:List (List UInt8)) (hl:l.length≤1000000):m17 l l=some true:=by
 delta m17 d17
 simp only[↓JD.sg_m,↓JD.sq_m,↓JD.sc_m,↓JD.bk_m,↓JD.lp_m,↓JD.cd_m,↓JD.lu_m,↓JD.ct_m,↓JD.ce_m,↓JL.r_m,↓JL.z_m,↓JD.se_m,onE_r,↓Tr.run,↓Tr.run_nd,↓Tr.run_c3,↓Tr.run_c2,↓Tr.run_nx,↓onS,bind_ite,Option.bind_some,Option.bind_none,obR,bne_self,Bool.false_eq_true,if_false]
 refine loop_pass l.length (fun i hi=>?_) (by (simp only[lt_irr,decide_false,Bool.false_eq_true,if_false];try rfl)) rfl
 simp only[inL hi,decide_true,Int.toNat_natCast,if_true,wr1 hi (by omega)]
theorem sameG (g:T41) (hl:g.Memory.length≤1000000):m14 g g=some true:=by
 delta m14 d14
 simp only[↓JD.sg_m,↓JD.sq_m,↓JD.sc_m,↓JD.bk_m,↓JD.lp_m,↓JD.cd_m,↓JD.lu_m,↓JD.ct_m,↓JD.ce_m,↓JL.r_m,↓JL.z_m,↓JD.se_m,onE_r,↓Tr.run,↓Tr.run_nd,↓Tr.run_c3,↓Tr.run_c2,↓Tr.run_nx,↓onS,bind_ite,Option.bind_some,Option.bind_none,obR,sameI _ hl,beq_self_eq_true,if_true,Bool.true_and]
end Go.Av.Ch
namespace Go.Av
theorem bs {α β:Type} {a:α} {f:α→Option β}:Option.bind (some a) f=f a:=Eq.mpr rfl rfl
theorem bn {α β:Type} {f:α→Option β}:Option.bind none f=none:=Eq.mpr rfl rfl
theorem ol {Y R:Type} {f:Y→Option R} {y:Y}:onS f (.inl y)=f y:=Eq.mpr rfl rfl
theorem or_ {Y R:Type} {f:Y→Option R} {r:R}:onS f (.inr r)=some r:=Eq.mpr rfl rfl
theorem bind_id {α:Type} {m:Option α}:(Option.bind m fun r=>some r)=m:=by cases m<;>rfl
theorem loop_done {S R:Type} {b:S→Option (S⊕(Unit⊕R))} {k:Unit→Option R} {z:Option R} {s0:S} (I:Nat→S→Prop) (m0:Nat) (h0:I m0 s0) (step:∀ m s,I m s→(∃ s',b s=some (.inl s')∧∃ m',m' < m∧I m' s')∨b s=some (.inr (.inl ()))) (hk:k ()=z):(loopO b s0).bind (onS k)=z:=by
 obtain⟨x,h1,h2⟩:=loop_inv I (fun(x:Unit⊕R)=>x=.inl ()) (fun m s hs=>by
  rcases step m s hs with h | h
  ·exact .inl h
  ·exact .inr ⟨_,h,rfl⟩) m0 s0 h0
 subst h2
 rw[h1];exact hk
end Go.Av
set_option maxRecDepth 100000
namespace Go.Av
open Ch
theorem M38 (a0 a1:List T118):m38 a0 a1=((Option.bind (if((a0.length:Int) != (a1.length:Int))=true then(some (.inr (false)))else(some (.inl ()))) (onS fun(_:Unit)=>(Option.bind (Option.bind (some (.inl ())) (onS fun(_:Unit)=>(loopO (fun(s1:Int)=>((if(decide (s1 < (a0.length:Int)))=true then(if(0≤s1)then(if(s1 < (a0.length:Int))then(if(0≤s1)then(if(s1 < (a1.length:Int))then(if(!(((a0.getD s1.toNat default).Cond==(a1.getD s1.toNat default).Cond)&&(((a0.getD s1.toNat default).Neg==(a1.getD s1.toNat default).Neg)&&true)))=true then(some (.inr (.inr (false))))else(some (.inl (IntKind.wrap .i64 (s1+1)))))else none)else none)else none)else none)else(some (.inr (.inl ())))):Option ((Int)⊕((Unit)⊕(Bool))))) (0:Int)))) (onS fun(_:Unit)=>(some true))))):Option (Bool)):=by kernel_rfl
theorem M10 (a0 a1:T27):m10 a0 a1=((Option.bind (Option.bind (((if(!((a0.Name != a1.Name) || (a0.Start != a1.Start)))=true then m17 a0.Conds a1.Conds else some default).bind fun r1_0=>some r1_0)) fun(x1:(Bool))=>(if((((((a0.Name != a1.Name) || (a0.Start != a1.Start)) || (!x1)) || ((a0.Never.length:Int) != (a1.Never.length:Int))) || ((a0.States.length:Int) != (a1.States.length:Int))) || ((a0.Transitions.length:Int) != (a1.Transitions.length:Int)))=true then(some (.inr (false)))else(some (.inl ())))) (onS fun(_:Unit)=>(Option.bind (Option.bind (some (.inl ())) (onS fun(_:Unit)=>(loopO (fun(s1:Int)=>((if(decide (s1 < (a0.Never.length:Int)))=true then(Option.bind ((if 0≤s1 then(if s1 < (a0.Never.length:Int)then(if 0≤s1 then(if s1 < (a1.Never.length:Int)then((m38 (a0.Never.getD s1.toNat default) (a1.Never.getD s1.toNat default)).bind fun r6_0=>some r6_0)else none)else none)else none)else none)) fun(x6:(Bool))=>(if(!x6)=true then(some (.inr (.inr (false))))else(some (.inl (IntKind.wrap .i64 (s1+1))))))else(some (.inr (.inl ())))):Option ((Int)⊕((Unit)⊕(Bool))))) (0:Int)))) (onS fun(_:Unit)=>(Option.bind (Option.bind (some (.inl ())) (onS fun(_:Unit)=>(loopO (fun(s2:Int)=>((if(decide (s2 < (a0.States.length:Int)))=true then(if(0≤s2)then(if(s2 < (a0.States.length:Int))then(if(0≤s2)then(if(s2 < (a1.States.length:Int))then(Option.bind (((if(!(((((a0.States.getD s2.toNat default).Name != (a1.States.getD s2.toNat default).Name) || ((a0.States.getD s2.toNat default).Parent != (a1.States.getD s2.toNat default).Parent)) || ((a0.States.getD s2.toNat default).Initial != (a1.States.getD s2.toNat default).Initial)) || ((a0.States.getD s2.toNat default).History != (a1.States.getD s2.toNat default).History)))=true then m17 (a0.States.getD s2.toNat default).Entry (a1.States.getD s2.toNat default).Entry else some default).bind fun r13_0=>((if(!((((((a0.States.getD s2.toNat default).Name != (a1.States.getD s2.toNat default).Name) || ((a0.States.getD s2.toNat default).Parent != (a1.States.getD s2.toNat default).Parent)) || ((a0.States.getD s2.toNat default).Initial != (a1.States.getD s2.toNat default).Initial)) || ((a0.States.getD s2.toNat default).History != (a1.States.getD s2.toNat default).History)) || (!r13_0)))=true then m17 (a0.States.getD s2.toNat default).Exit (a1.States.getD s2.toNat default).Exit else some default).bind fun r13_1=>some (r13_0,r13_1)))) fun(x13:(Bool×Bool))=>(if(((((((a0.States.getD s2.toNat default).Name != (a1.States.getD s2.toNat default).Name) || ((a0.States.getD s2.toNat default).Parent != (a1.States.getD s2.toNat default).Parent)) || ((a0.States.getD s2.toNat default).Initial != (a1.States.getD s2.toNat default).Initial)) || ((a0.States.getD s2.toNat default).History != (a1.States.getD s2.toNat default).History)) || (!x13.1)) || (!x13.2))=true then(some (.inr (.inr (false))))else(some (.inl (IntKind.wrap .i64 (s2+1))))))else none)else none)else none)else none)else(some (.inr (.inl ())))):Option ((Int)⊕((Unit)⊕(Bool))))) (0:Int)))) (onS fun(_:Unit)=>(Option.bind (Option.bind (some (.inl ())) (onS fun(_:Unit)=>(loopO (fun(s3:Int)=>((if(decide (s3 < (a0.Transitions.length:Int)))=true then(if(0≤s3)then(if(s3 < (a0.Transitions.length:Int))then(if(0≤s3)then(if(s3 < (a1.Transitions.length:Int))then(Option.bind (((if(!(((a0.Transitions.getD s3.toNat default).From != (a1.Transitions.getD s3.toNat default).From) || ((a0.Transitions.getD s3.toNat default).To != (a1.Transitions.getD s3.toNat default).To)))=true then m38 (a0.Transitions.getD s3.toNat default).When (a1.Transitions.getD s3.toNat default).When else some default).bind fun r20_0=>((if(!((((a0.Transitions.getD s3.toNat default).From != (a1.Transitions.getD s3.toNat default).From) || ((a0.Transitions.getD s3.toNat default).To != (a1.Transitions.getD s3.toNat default).To)) || (!r20_0)))=true then m17 (a0.Transitions.getD s3.toNat default).Actions (a1.Transitions.getD s3.toNat default).Actions else some default).bind fun r20_1=>some (r20_0,r20_1)))) fun(x20:(Bool×Bool))=>(if(((((a0.Transitions.getD s3.toNat default).From != (a1.Transitions.getD s3.toNat default).From) || ((a0.Transitions.getD s3.toNat default).To != (a1.Transitions.getD s3.toNat default).To)) || (!x20.1)) || (!x20.2))=true then(some (.inr (.inr (false))))else(some (.inl (IntKind.wrap .i64 (s3+1))))))else none)else none)else none)else none)else(some (.inr (.inl ())))):Option ((Int)⊕((Unit)⊕(Bool))))) (0:Int)))) (onS fun(_:Unit)=>(some true))))))))):Option (Bool)):=by kernel_rfl
theorem sameLits_refl (l:List T118) (hl:l.length≤1000000):m38 l l=some true:=by
 simp only[M38,bind_id,bne_self,Bool.false_eq_true,if_false,bs,ol]
 refine loop_pass l.length (fun i hi=>?_) (by simp only[lt_irr,decide_false,Bool.false_eq_true,if_false]) rfl
 simp only[inL hi,decide_true,Int.toNat_natCast,if_true,wr1 hi (by omega),beq_self_eq_true,Bool.and_self,Bool.not_true,Bool.false_eq_true,if_false]
theorem Same_refl (c:T27) (H:Fit c):m10 c c=some true:=by
 have h1:=H.conds
 have h2:=H.never
 have h3:=H.states
 have h4:=H.trans
 have q1:∀ l:List (List UInt8),l.length≤1000→m17 l l=some true:=fun l hl=>sameS l (by omega)
 have q2:∀ l:List T118,l.length≤1000→m38 l l=some true:=fun l hl=>sameLits_refl l (by omega)
 simp only[M10,bind_id]
 generalize m17=F1 at q1 ⊢
 generalize m38=F2 at q2 ⊢
 have e1:=q1 c.Conds h1
 simp only[e1,bne_self,Bool.or_self,Bool.not_false,Bool.not_true,Bool.false_eq_true,if_false,if_true,bs,ol]
 refine loop_pass c.Never.length (fun i hi=>?_) (by simp only[lt_irr,decide_false,Bool.false_eq_true,if_false]) ?_
 ·have e2:=q2 _ (H.lits _ (getD_mem hi))
  simp only[inL hi,decide_true,Int.toNat_natCast,if_true,wr1 hi (by omega),e2,bs,Bool.not_true,Bool.false_eq_true,if_false]
 refine loop_pass c.States.length (fun i hi=>?_) (by simp only[lt_irr,decide_false,Bool.false_eq_true,if_false]) ?_
 ·have e2:=q1 _ (H.entry _ (getD_mem hi))
  have e3:=q1 _ (H.exit_ _ (getD_mem hi))
  simp only[inL hi,decide_true,Int.toNat_natCast,if_true,wr1 hi (by omega),e2,e3,bs,bne_self,Bool.or_self,Bool.not_false,Bool.not_true,Bool.false_eq_true,if_false]
 refine loop_pass c.Transitions.length (fun i hi=>?_) (by simp only[lt_irr,decide_false,Bool.false_eq_true,if_false]) rfl
 have e2:=q2 _ (H.when_ _ (getD_mem hi))
 have e3:=q1 _ (H.acts _ (getD_mem hi))
 simp only[inL hi,decide_true,Int.toNat_natCast,if_true,wr1 hi (by omega),e2,e3,bs,bne_self,Bool.or_self,Bool.not_false,Bool.not_true,Bool.false_eq_true,if_false]
end Go.Av
set_option maxRecDepth 100000
namespace Go.Av.Ch
abbrev stA (c:T27) (x:Int):T56:=c.States.getD x.toNat default
structure Good (c:T27):Prop where
 ne:0 < c.States.length
 cap:c.States.length≤40
 parent:∀ x,isS c x=true → -1≤(stA c x).Parent∧(stA c x).Parent < x
 init:∀ x,isS c x=true→comp c x=true→childS c (stA c x).Initial x=true
 leafI:∀ x,isS c x=true→comp c x=false→(stA c x).Initial = -1∧(stA c x).History=false
 start:isS c c.Start=true
 tr:∀ i,i < c.Transitions.length→isS c (c.Transitions.getD i default).From=true∧isS c (c.Transitions.getD i default).To=true
 entry:∀ x,isS c x=true→(stA c x).Entry.length≤8
 exit_:∀ x,isS c x=true→(stA c x).Exit.length≤8
 acts:∀ i,i < c.Transitions.length→(c.Transitions.getD i default).Actions.length≤8
theorem orK_ok {R:Type} {a b:Option R} {z:R} (h:orK a b=some z) (hn:a≠some z):a=none∧b=some z:=by
 cases a with
 | none=>exact⟨rfl,h⟩
 | some y=>exact absurd h hn
theorem ite_err {p:Prop} [Decidable p] {e z:Int} {k:Option Int} (h:(if p then some e else k)=some z) (he:e≠z):¬ p∧k=some z:=by
 split at h
 ·injection h with h;exact absurd h he
 ·rename_i hp;exact⟨hp,h⟩
theorem good_of {c:T27} (h:checkM c=some 0):Good c:=by
 unfold checkM at h
 obtain⟨-,h⟩:=ite_err h (by decide)
 obtain⟨h1,h⟩:=ite_err h (by decide)
 obtain⟨hcap,h⟩:=ite_err h (by decide)
 have n1:firstR (condF c) c.Conds.length≠some 0:=fun e=>by
  obtain⟨i,_,e⟩:=firstR_some e
  unfold condF at e
  split at e
  ·rename_i hh;injection e with e;rw[e]at hh;simp at hh
  ·cases e
 obtain⟨-,h⟩:=orK_ok h n1
 have n2:firstR (nevF c) c.Never.length≠some 0:=fun e=>by
  obtain⟨i,_,e⟩:=firstR_some e
  unfold nevF at e
  split at e
  ·cases e
  ·split at e
   ·rename_i hh;injection e with e;rw[e]at hh;simp at hh
   ·cases e
 obtain⟨-,h⟩:=orK_ok h n2
 have n3:firstR (stF c) c.States.length≠some 0:=fun e=>by
  obtain⟨i,_,e⟩:=firstR_some e
  unfold stF at e
  split at e
  ·rename_i hh;injection e with e;rw[e]at hh;simp at hh
  ·cases e
 obtain⟨hst,h⟩:=orK_ok h n3
 obtain⟨hs,h⟩:=ite_err h (by decide)
 have n4:firstR (trF c) c.Transitions.length≠some 0:=fun e=>by
  obtain⟨i,_,e⟩:=firstR_some e
  unfold trF at e
  split at e
  ·cases e
  ·split at e
   ·rename_i hh;injection e with e;rw[e]at hh;simp at hh
   ·split at e
    ·rename_i hh;injection e with e;rw[e]at hh;simp at hh
    ·cases e
 obtain⟨htr,-⟩:=orK_ok h n4
 have st:∀ i,i < c.States.length→stateT c i=0:=fun i hi=>by
  have:=firstR_none.1 hst i hi
  unfold stF at this
  split at this
  ·cases this
  ·rename_i hh
   have hh:stateS c i=0:=by simpa using hh
   unfold stateS at hh
   split at hh
   ·rename_i h2;rw[hh]at h2;simp at h2
   ·exact hh
 have key:∀ x,isS c x=true→x=(x.toNat:Int)∧x.toNat < c.States.length:=fun x hx=>by have:=isS_iff.1 hx;omega
 have rows:∀ x,isS c x=true→(-1≤(stA c x).Parent∧(stA c x).Parent < x)∧(comp c x=true→childS c (stA c x).Initial x=true)∧(comp c x=false→(stA c x).Initial = -1∧(stA c x).History=false)∧(stA c x).Entry.length≤8∧(stA c x).Exit.length≤8:=fun x hx=>by
  obtain⟨e,hlt⟩:=key x hx
  have h:=st _ hlt
  unfold stateT at h
  rw[← e]at h
  split at h
  ·cases h
  rename_i a1
  split at h
  ·cases h
  rename_i a2
  split at h
  ·cases h
  rename_i a3
  split at h
  ·rename_i a4;rw[h]at a4;simp at a4
  rename_i a4
  simp only[Bool.or_eq_true,decide_eq_true_eq,not_or,Int.not_lt,Int.not_le]at a1
  refine⟨⟨a1.1,a1.2⟩,fun hc=>?_,fun hc=>?_,actS_len (by simpa using a4),actS_len h⟩
  ·rw[hc]at a2
   simpa using a2
  ·rw[hc]at a2 a3
   exact⟨by simpa using a2,by simpa using a3⟩
 have trs:∀ i,i < c.Transitions.length→(isS c (c.Transitions.getD i default).From=true∧isS c (c.Transitions.getD i default).To=true)∧(c.Transitions.getD i default).Actions.length≤8:=fun i hi=>by
  have:=firstR_none.1 htr i hi
  unfold trF at this
  split at this
  ·cases this
  rename_i a1
  split at this
  ·cases this
  split at this
  ·cases this
  rename_i a3
  exact⟨by simpa using a1,actS_len (by simpa using a3)⟩
 refine⟨?_,by simp only[Bool.or_eq_true,decide_eq_true_eq,not_or,Int.not_lt]at hcap;omega,fun x hx=>(rows x hx).1,fun x hx=>(rows x hx).2.1,fun x hx=>(rows x hx).2.2.1,by simpa using hs,fun i hi=>(trs i hi).1,fun x hx=>(rows x hx).2.2.2.1,fun x hx=>(rows x hx).2.2.2.2,fun i hi=>(trs i hi).2⟩
 have:¬ ((c.States.length:Int)=0):=by simpa using h1
 omega
def memBad (c:T27) (i m:Int):Bool:=(m != (-1:Int))&&(!isS c m || !(stA c i).History || ((stA c m).Parent != i))
def validS (c:T27) (g:T41):Bool:=!(!isS c g.Leaf || comp c g.Leaf || ((g.Memory.length:Int) != (c.States.length:Int)))&&!anyR (fun i=>memBad c i (g.Memory.getD i default)) g.Memory.length
structure MemOk (c:T27) (m:List Int):Prop where
 len:m.length=c.States.length
 ok:∀ i:Nat,i < m.length→memBad c i (m.getD i default)=false
theorem validS_iff {c:T27} {g:T41}:validS c g=true↔isS c g.Leaf=true∧comp c g.Leaf=false∧MemOk c g.Memory:=by
 unfold validS
 simp only[Bool.and_eq_true,Bool.not_eq_true',Bool.or_eq_false_iff,Bool.not_eq_false',bne_eq_false_iff_eq,anyR_false]
 constructor
 ·rintro⟨⟨⟨h1,h2⟩,h3⟩,h4⟩;exact⟨h1,h2,⟨by omega,h4⟩⟩
 ·rintro⟨h1,h2,h3⟩;exact⟨⟨⟨h1,h2⟩,by have:=h3.len;omega⟩,h3.ok⟩
theorem MemOk.none {c:T27} {m:List Int} (h:MemOk c m) {x:Int} (hx:isS c x=true) (hh:(stA c x).History=false):m.getD x.toNat default = -1:=by
 have hi:=isS_iff.1 hx
 have:=h.ok x.toNat (by rw[h.len];omega)
 unfold memBad at this
 rw[Int.toNat_of_nonneg hi.1,hh]at this
 simpa using this
theorem MemOk.child {c:T27} {m:List Int} (h:MemOk c m) {x:Int} (hx:isS c x=true) (hm:m.getD x.toNat default ≠ -1):childS c (m.getD x.toNat default) x=true:=by
 have hi:=isS_iff.1 hx
 have:=h.ok x.toNat (by rw[h.len];omega)
 unfold memBad at this
 rw[Int.toNat_of_nonneg hi.1]at this
 simp only[Bool.and_eq_false_iff,bne_eq_false_iff_eq,Bool.or_eq_false_iff,Bool.not_eq_false']at this
 rcases this with h1 | ⟨⟨h1,h2⟩,h3⟩
 ·exact absurd h1 hm
 ·unfold childS;rw[h1,h3];simp
theorem MemOk.set {c:T27} {m:List Int} (h:MemOk c m) {x v:Int} (hv:v = -1∨((stA c x).History=true∧childS c v x=true)) (hx:isS c x=true):MemOk c (m.set x.toNat v):=by
 have hi:=isS_iff.1 hx
 refine⟨by rw[List.length_set];exact h.len,fun i hl=>?_⟩
 rw[List.length_set]at hl
 by_cases he:x.toNat=i
 ·subst he
  rw[List.getD_eq_getElem?_getD,List.getElem?_set_self hl,Option.getD_some,Int.toNat_of_nonneg hi.1]
  unfold memBad
  rcases hv with rfl | ⟨h1,h2⟩
  ·rfl
  ·unfold childS at h2
   simp only[Bool.and_eq_true,beq_iff_eq]at h2
   rw[h1,h2.1,h2.2];simp
 ·rw[List.getD_eq_getElem?_getD,List.getElem?_set_ne he,← List.getD_eq_getElem?_getD]
  exact h.ok i hl
theorem set_same {m:List Int} {i:Nat} {v:Int} (hi:i < m.length) (h:m.getD i default=v):m.set i v=m:=by
 apply List.ext_getElem?
 intro j
 rw[List.getElem?_set]
 split
 ·rename_i e;subst e
  rw[← h,List.getD_eq_getElem?_getD,List.getElem?_eq_getElem hi,Option.getD_some]
 ·rfl
theorem Valid_eq (c:T27) (H:Fit c) (g:T41):m42 c g=some (validS c g):=by
 have hs:=H.states
 delta m42 d42
 simp only[↓JD.sg_m,↓JD.sq_m,↓JD.sc_m,↓JD.bk_m,↓JD.lp_m,↓JD.cd_m,↓JD.lu_m,↓JD.ct_m,↓JD.ce_m,↓JL.r_m,↓JL.z_m,↓JD.se_m,onE_r,↓Tr.run,↓Tr.run_nd,↓Tr.run_c3,↓Tr.run_c2,↓Tr.run_nx,↓onS,bind_ite,Option.bind_some,Option.bind_none,obR,is_eq,composite_eq c _ (Nat.le_trans hs (by omega))]
 unfold validS
 have e0:(if(!!isS c g.Leaf)=true then some (isS c g.Leaf,comp c g.Leaf)else some (isS c g.Leaf,default))=some (isS c g.Leaf,if isS c g.Leaf=true then comp c g.Leaf else default):=by
  cases isS c g.Leaf<;>rfl
 cases h1:(!isS c g.Leaf || comp c g.Leaf || ((g.Memory.length:Int) != (c.States.length:Int))) with
 | true =>
  cases h2:isS c g.Leaf with
  | false=>simp
  | true =>
   rw[h2]at h1
   simp only[Bool.not_true,Bool.false_or]at h1
   simp only[Bool.not_true,Bool.not_false,Bool.false_or,if_true,h1,onS_r,Bool.false_and]
 | false =>
  simp only[Bool.or_eq_false_iff,Bool.not_eq_false',bne_eq_false_iff_eq]at h1
  obtain⟨⟨h2,h3⟩,h4⟩:=h1
  have h5:g.Memory.length=c.States.length:=by omega
  simp only[h2,h3,h5,bne_self_eq_false,Bool.not_true,Bool.not_false,Bool.or_false,Bool.false_eq_true,if_false,if_true,onS_l,Bool.true_and]
  rw[loop_ex c.States.length (fun i=>if memBad c i (g.Memory.getD i default)=true then some false else none) ?_ ?_,firstR_const]
  ·cases anyR (fun i=>memBad c i (g.Memory.getD i default)) c.States.length<;>rfl
  ·intro i hi
   simp only[exB_ite,exB_some,exB_none]
   simp only[inL hi,decide_true,Int.toNat_natCast,if_true,implies_true,wr1 hi (by omega)]
   unfold memBad stA
   simp only[Int.toNat_natCast]
   by_cases hm:g.Memory.getD i default = -1
   ·simp only[hm,bne_self_eq_false,Bool.false_and,Bool.false_eq_true,false_implies,if_false,if_true]
   ·have hm':(g.Memory.getD i default != (-1:Int))=true:=by simpa using hm
    have a3:=eq_true (show (true&&!(!isS c (g.Memory.getD i default) || !(c.States.getD i default).History))=true→(0:Int)≤g.Memory.getD i default from fun h=>by
     simp only[Bool.true_and,Bool.not_eq_true',Bool.or_eq_false_iff,Bool.not_eq_false']at h;exact(isS_iff.1 h.1).1)
    have a4:=eq_true (show (true&&!(!isS c (g.Memory.getD i default) || !(c.States.getD i default).History))=true→g.Memory.getD i default < (c.States.length:Int) from fun h=>by
     simp only[Bool.true_and,Bool.not_eq_true',Bool.or_eq_false_iff,Bool.not_eq_false']at h;exact(isS_iff.1 h.1).2)
    simp only[hm',a3,a4,if_true,Option.bind_some]
  ·(simp only[lt_irr,decide_false,Bool.false_eq_true,if_false];try rfl)
end Go.Av.Ch
set_option maxRecDepth 100000
namespace Go.Av.Ch
theorem isS_lt {c:T27} {x:Int} (h:isS c x=true):((0:Int)≤x)=True∧(x < (c.States.length:Int))=True∧x.toNat < c.States.length:=by
 have:=isS_iff.1 h
 exact⟨eq_true this.1,eq_true this.2,by omega⟩
theorem child_is {c:T27} (G:Good c) {x y:Int} (h:childS c y x=true):isS c y=true∧x < y:=by
 unfold childS at h
 simp only[Bool.and_eq_true,beq_iff_eq]at h
 have:=(G.parent y h.1).2
 exact⟨h.1,by unfold stA at this;omega⟩
def nextS (c:T27) (m:List Int) (x:Int):Int:=if((stA c x).History&&(m.getD x.toNat default != (-1:Int)))=true then m.getD x.toNat default else(stA c x).Initial
theorem nextS_child {c:T27} (G:Good c) {m:List Int} (M:MemOk c m) {x:Int} (hx:isS c x=true) (hc:comp c x=true):childS c (nextS c m x) x=true:=by
 unfold nextS
 split
 ·rename_i h
  simp only[Bool.and_eq_true,bne_iff_ne,ne_eq]at h
  exact M.child hx h.2
 ·exact G.init x hx hc
def enterF (c:T27):Nat→Int→List Int→List (List UInt8)→Int×List Int×List (List UInt8)
 | 0,x,m,a=>(x,m,a)
 | n+1,x,m,a=>if comp c x=true then enterF c n (nextS c m x) (m.set x.toNat (-1)) (a++(stA c x).Entry)else(x,m,a++(stA c x).Entry)
theorem enterF_ok {c:T27} (G:Good c):∀ (n:Nat) (x:Int) (m:List Int) (a:List (List UInt8)),isS c x=true→MemOk c m→c.States.length≤n+x.toNat →
  isS c (enterF c n x m a).1=true∧comp c (enterF c n x m a).1=false∧MemOk c (enterF c n x m a).2.1∧(enterF c n x m a).2.2.length≤a.length+8 * n
 | 0,x,m,a,hx,M,hn=>by have:=(isS_lt hx).2.2;omega
 | n+1,x,m,a,hx,M,hn=>by
  have he:=G.entry x hx
  unfold enterF
  cases hc:comp c x with
  | false=>simp only[Bool.false_eq_true,if_false,List.length_append];exact⟨hx,hc,M,by omega⟩
  | true =>
   simp only[if_true]
   obtain⟨h1,h2⟩:=child_is G (nextS_child G M hx hc)
   have h3:=isS_iff.1 hx
   obtain⟨k1,k2,k3,k4⟩:=enterF_ok G n _ _ (a++(stA c x).Entry) h1 (M.set (.inl rfl) hx) (by omega)
   exact⟨k1,k2,k3,by rw[List.length_append]at k4;omega⟩
theorem enter_loop {c:T27} (G:Good c) {b:Int×List Int×List (List UInt8)→Option ((Int×List Int×List (List UInt8))⊕(Int×List Int×List (List UInt8)))}
  (hb:∀ (x:Int) (m:List Int) (a:List (List UInt8)),isS c x=true→MemOk c m→a.length≤100000→b (x,m,a)=if comp c x=true then some (.inl (nextS c m x,m.set x.toNat (-1),a++(stA c x).Entry))else some (.inr (x,m,a++(stA c x).Entry))) :
  ∀ (n:Nat) (x:Int) (m:List Int) (a:List (List UInt8)),isS c x=true→MemOk c m→c.States.length≤n+x.toNat→a.length+8 * n≤100000→loopO b (x,m,a)=some (enterF c n x m a)
 | 0,x,m,a,hx,M,hn,hl=>by have:=(isS_lt hx).2.2;omega
 | n+1,x,m,a,hx,M,hn,hl=>by
  have he:=G.entry x hx
  rw[loopO_eq,hb x m a hx M (by omega)]
  unfold enterF
  cases hc:comp c x with
  | false=>rfl
  | true =>
   simp only[if_true,Option.bind_some]
   obtain⟨h1,h2⟩:=child_is G (nextS_child G M hx hc)
   have h3:=isS_iff.1 hx
   exact enter_loop G hb n _ _ _ h1 (M.set (.inl rfl) hx) (by omega) (by rw[List.length_append];omega)
def enterS (c:T27) (x:Int) (m:List Int) (a:List (List UInt8)):Int×List Int×List (List UInt8):=enterF c c.States.length x m a
def aroundS (c:T27) (l:List Int) (m:List Int) (a:List (List UInt8)):List Int×List (List UInt8):=l.foldr (fun x s=>(s.1.set x.toNat (-1),s.2++(stA c x).Entry)) (m,a)
theorem aroundS_ok {c:T27} (G:Good c) {m:List Int} {a:List (List UInt8)} (M:MemOk c m):∀ (l:List Int),(∀ x∈l,isS c x=true)→MemOk c (aroundS c l m a).1∧(aroundS c l m a).2.length≤a.length+8 * l.length
 | [],_=>⟨M,Nat.le_refl _⟩
 | x :: l,h=>by
  obtain⟨h1,h2⟩:=aroundS_ok G (a:=a) M l fun y hy=>h y (List.mem_cons_of_mem _ hy)
  have hx:=h x (by simp)
  have he:=G.entry x hx
  refine⟨h1.set (.inl rfl) hx,?_⟩
  show ((aroundS c l m a).2++(stA c x).Entry).length≤_
  rw[List.length_append,List.length_cons];omega
def leaveS (c:T27) (s:Int):List Int→Int→List Int→List (List UInt8)→List Int×List (List UInt8)
 | [],_,m,a=>(m,a)
 | x :: l,last,m,a=>if(x==s)=true then(m,a)else leaveS c s l x (if((stA c x).History&&(last != (-1:Int)))=true then m.set x.toNat last else m) (a++(stA c x).Exit)
theorem mem_leave {c:T27} {m:List Int} (M:MemOk c m) {x last:Int} (hx:isS c x=true) (hl:last = -1∨childS c last x=true):MemOk c (if((stA c x).History&&(last != (-1:Int)))=true then m.set x.toNat last else m):=by
 split
 ·rename_i h
  simp only[Bool.and_eq_true,bne_iff_ne,ne_eq]at h
  exact M.set (hl.imp (fun e=>absurd e h.2) fun e=>⟨h.1,e⟩) hx
 ·exact M
theorem parent_is {c:T27} (G:Good c) {x:Int} (hx:isS c x=true) (ht:topB c x=false):isS c (stA c x).Parent=true∧(stA c x).Parent.toNat < x.toNat∧childS c x (stA c x).Parent=true:=by
 have h1:=topB_false ht
 have h2:=isS_iff.1 hx
 refine⟨isS_iff.2 ⟨h1.1,by show (c.States.getD x.toNat default).Parent < _;omega⟩,by show (c.States.getD x.toNat default).Parent.toNat < _;omega,?_⟩
 unfold childS;rw[hx];simp[stA]
theorem leaveS_ok {c:T27} (G:Good c) {s:Int}:∀ (n:Nat) (x last:Int) (m:List Int) (a:List (List UInt8)),x.toNat≤n→isS c x=true→MemOk c m→(last = -1∨childS c last x=true) →
  MemOk c (leaveS c s (pathS c x) last m a).1∧(leaveS c s (pathS c x) last m a).2.length≤a.length+8 * (n+1):=by
 intro n
 induction n with
 | zero =>
  intro x last m a hn hx M hl
  have he:=G.exit_ x hx
  rw[pathS_step hx]
  unfold leaveS
  split
  ·exact⟨M,by show a.length≤_;omega⟩
  ·cases ht:topB c x with
   | false=>have:=(parent_is G hx ht).2.1;omega
   | true=>exact⟨mem_leave M hx hl,by simp only[if_true,leaveS,List.length_append];omega⟩
 | succ n ih =>
  intro x last m a hn hx M hl
  have he:=G.exit_ x hx
  rw[pathS_step hx]
  unfold leaveS
  split
  ·exact⟨M,by show a.length≤_;omega⟩
  ·cases ht:topB c x with
   | true=>exact⟨mem_leave M hx hl,by simp only[if_true,leaveS,List.length_append];omega⟩
   | false =>
    obtain⟨p1,p2,p3⟩:=parent_is G hx ht
    simp only[Bool.false_eq_true,if_false]
    obtain⟨k1,k2⟩:=ih (stA c x).Parent x _ (a++(stA c x).Exit) (by omega) p1 (mem_leave M hx hl) (.inr p3)
    exact⟨k1,Nat.le_trans k2 (by rw[List.length_append];omega)⟩
def scopeS (c:T27) (a b:Int):Int:=((pathS c a).tail.find? fun x=>hasK (pathS c b).tail (pathS c b).tail.length x).getD (-1)
def untilS (s:Int) (l:List Int):List Int:=l.takeWhile fun x=>!(s==x)
def startS (c:T27):Int×List Int×List (List UInt8):=enterS c c.Start (aroundS c (pathS c c.Start).tail (List.replicate c.States.length (-1)) []).1 (aroundS c (pathS c c.Start).tail (List.replicate c.States.length (-1)) []).2
def fireS (c:T27) (g:T41) (t:T58):Int×List Int×List (List UInt8) :=
 let s:=scopeS c t.From t.To
 let l:=leaveS c s (pathS c g.Leaf) (-1) g.Memory []
 let r:=aroundS c (untilS s (pathS c t.To).tail) l.1 (l.2++t.Actions)
 enterS c t.To r.1 r.2
theorem tail_is {c:T27} {x:Int}:∀ y∈(pathS c x).tail,isS c y=true:=fun y hy=>(pathS_is x.toNat x (Nat.le_refl _) y (List.mem_of_mem_tail hy)).1
theorem mem_begin {c:T27}:MemOk c (List.replicate c.States.length (-1)):=⟨by simp,fun i hi=>by
 have:(List.replicate c.States.length (-1:Int)).getD i default = -1:=by simp at hi;simp[List.getD_eq_getElem?_getD,List.getElem?_replicate,hi]
 unfold memBad;rw[this];rfl⟩
theorem startS_ok {c:T27} (G:Good c) (H:Fit c):validS c ⟨(startS c).1,(startS c).2.1⟩=true∧(startS c).2.2.length≤16000:=by
 have hs:=H.states
 have hp:=pathS_len c c.Start
 obtain⟨h1,h2⟩:=aroundS_ok G (a:=[]) mem_begin (pathS c c.Start).tail tail_is
 obtain⟨k1,k2,k3,k4⟩:=enterF_ok G c.States.length c.Start _ (aroundS c (pathS c c.Start).tail (List.replicate c.States.length (-1)) []).2 G.start h1 (by omega)
 refine⟨validS_iff.2 ⟨k1,k2,k3⟩,?_⟩
 have:(startS c).2.2.length≤_:=k4
 simp only[List.length_nil,List.length_tail]at h2
 omega
theorem untilS_sub {s:Int} {l:List Int}:∀ x∈untilS s l,x∈l:=fun x hx=>(List.takeWhile_prefix _).sublist.mem hx
theorem untilS_len {s:Int} {l:List Int}:(untilS s l).length≤l.length:=(List.takeWhile_prefix _).length_le
theorem fireS_ok {c:T27} (G:Good c) (H:Fit c) {g:T41} (hg:validS c g=true) {i:Nat} (hi:i < c.Transitions.length):validS c ⟨(fireS c g (c.Transitions.getD i default)).1,(fireS c g (c.Transitions.getD i default)).2.1⟩=true∧(fireS c g (c.Transitions.getD i default)).2.2.length≤32000:=by
 have hs:=H.states
 obtain⟨v1,v2,v3⟩:=validS_iff.1 hg
 have ha:=G.acts i hi
 have ht:=(G.tr i hi).2
 generalize c.Transitions.getD i default=t at *
 have hp:=pathS_len c t.To
 have hl:=(isS_lt v1).2.2
 obtain⟨a1,a2⟩:=leaveS_ok G (s:=scopeS c t.From t.To) g.Leaf.toNat g.Leaf (-1) g.Memory [] (Nat.le_refl _) v1 v3 (.inl rfl)
 obtain⟨h1,h2⟩:=aroundS_ok G (a:=(leaveS c (scopeS c t.From t.To) (pathS c g.Leaf) (-1) g.Memory []).2++t.Actions) a1 (untilS (scopeS c t.From t.To) (pathS c t.To).tail) fun x hx=>tail_is x (untilS_sub x hx)
 have hu:=untilS_len (s:=scopeS c t.From t.To) (l:=(pathS c t.To).tail)
 obtain⟨k1,k2,k3,k4⟩:=enterF_ok G c.States.length t.To _ (aroundS c (untilS (scopeS c t.From t.To) (pathS c t.To).tail) (leaveS c (scopeS c t.From t.To) (pathS c g.Leaf) (-1) g.Memory []).1 ((leaveS c (scopeS c t.From t.To) (pathS c g.Leaf) (-1) g.Memory []).2++t.Actions)).2 ht h1 (by omega)
 refine⟨validS_iff.2 ⟨k1,k2,k3⟩,?_⟩
 have:(fireS c g t).2.2.length≤_:=k4
 simp only[List.length_nil,List.length_tail,List.length_append]at h2 hu a2
 omega
theorem firstR_cons {Y:Type} {f:Nat→Option Y} {n:Nat}:firstR f (n+1)=orK (f 0) (firstR (fun i=>f (i+1)) n):=by
 unfold firstR
 rw[List.range_succ_eq_map,List.findSome?_cons,List.findSome?_map]
 cases f 0<;>rfl
theorem firstR_find {F:Int→Bool}:∀ {l:List Int},firstR (fun i=>if F (l.getD i default)=true then some (l.getD i default)else none) l.length=l.find? F
 | []=>rfl
 | x :: l=>by
  rw[List.length_cons,firstR_cons]
  simp only[List.getD_cons_zero,List.getD_cons_succ]
  rw[firstR_find,List.find?_cons]
  by_cases hf:F x=true
  ·simp only[hf,if_true,orK_some]
  ·have hf:=Bool.eq_false_iff.2 hf
   simp only[hf,Bool.false_eq_true,if_false,orK_none]
theorem until_eq {s:Int}:∀ (l:List Int),(if decide (0≤findR (fun i=>s==l.getD i default) l.length)=true then subL l 0 (findR (fun i=>s==l.getD i default) l.length).toNat else l)=untilS s l∧findR (fun i=>s==l.getD i default) l.length≤l.length
 | []=>by simp[untilS,findR,firstR]
 | x :: l=>by
  obtain⟨h1,h2⟩:=until_eq l (s:=s)
  have e:findR (fun i=>s==(x :: l).getD i default) (x :: l).length=if(s==x)=true then 0 else if decide (0≤findR (fun i=>s==l.getD i default) l.length)=true then findR (fun i=>s==l.getD i default) l.length+1 else -1:=by
   unfold findR
   rw[List.length_cons,firstR_cons]
   simp only[List.getD_cons_zero,List.getD_cons_succ]
   by_cases hx:(s==x)=true
   ·simp only[hx,if_true,orK_some];rfl
   ·simp only[hx,if_false,Bool.false_eq_true,orK_none]
    have key:firstR (fun i=>if(s==l.getD i default)=true then some (((i+1:Nat):Int))else none) l.length=(firstR (fun i=>if(s==l.getD i default)=true then some (i:Int)else none) l.length).map (·+1):=by
     unfold firstR
     induction List.range l.length with
     | nil=>rfl
     | cons i r ih =>
      simp only[List.findSome?_cons]
      by_cases hf:(s==l.getD i default)=true
      ·simp only[hf,if_true];simp
      ·simp only[hf,if_false,Bool.false_eq_true];exact ih
    rw[key]
    cases hf:firstR (fun i=>if(s==l.getD i default)=true then some (i:Int)else none) l.length with
    | none=>rfl
    | some y =>
     obtain⟨i,_,h⟩:=firstR_some hf
     split at h
     ·injection h with h;subst h;simp
     ·cases h
  rw[e]
  by_cases hx:(s==x)=true
  ·simp only[hx,if_true]
   exact⟨by simp[untilS,hx,subL],by rw[List.length_cons];omega⟩
  ·have hx':=Bool.eq_false_iff.2 hx
   simp only[hx',if_false,Bool.false_eq_true]
   unfold untilS at h1 ⊢
   rw[List.takeWhile_cons,hx']
   simp only[Bool.not_false,if_true]
   rw[← h1]
   by_cases hf:decide (0≤findR (fun i=>s==l.getD i default) l.length)=true
   ·have h0:0≤findR (fun i=>s==l.getD i default) l.length:=by simpa using hf
    simp only[hf,if_true]
    have h3:decide (0≤findR (fun i=>s==l.getD i default) l.length+1)=true:=by rw[decide_eq_true_eq];omega
    refine⟨?_,by rw[List.length_cons];omega⟩
    rw[if_pos h3,subL_eq (by rw[List.length_cons];omega),subL_eq (by omega)]
    rw[show (findR (fun i=>s==l.getD i default) l.length+1).toNat=(findR (fun i=>s==l.getD i default) l.length).toNat+1 by omega]
    simp
   ·simp only[hf,if_false,Bool.false_eq_true]
    exact⟨by simp,by rw[List.length_cons];omega⟩
theorem tail_sub (l:List Int):subL l 1 (l.length - 1)=l.tail:=by
 cases l with
 | nil=>rfl
 | cons x l=>rw[subL_eq (by rw[List.length_cons];omega)];simp
theorem pathS_pos {c:T27} {x:Int} (hx:isS c x=true):(1:Int)≤((pathS c x).length:Int):=by rw[pathS_step hx,List.length_cons];omega
end Go.Av.Ch
