/- A part of the proof. -/
import Derived.Test.YtppfnndafbhegaaGreatDoorPart4
set_option linter.unusedVariables false
set_option linter.unusedSimpArgs false
set_option maxRecDepth 100000
namespace Go.Av
open Go.RowKit Go.Base Go.Proofs Go.ChangeShapes Go.WideShapes
theorem po51o0 {a0:List (List T116)} {a1:Int} {r:Bool} (h:m51o0 a0 a1=some r):ObjF Tryz.prog 51 [(.d (eSl 1 (eSl 2 e116) a0)),(.fn 52 [(.ptr 0 0)])] [(0,(.cells [(.d (.int .u16 a1))]))] [] (q51o0 a0 a1 r):=obj_jd (d51o0 a0 a1) Tryz.func51 h
noncomputable def d20 (a0:T27) (a1:Int):JF Tryz.prog Tryz.f20 [(e27 a0),(.int .u16 a1)] (fun(r:Bool)=>(.bool r)) :=
 (.sg [(4,⟨Bool,fun x=>[],fun x=>[(304,⟨(aB x),[32],[],[(32,(.cells [(.d (.int .u16 a1))]))],[]⟩)],[]⟩)] [(1,[4],[])] (.needG (decide ((a0.Conds.length:Int) < (16:Int))) (0≤(a0.Conds.length:Int)) inferInstance (.ite ((decide ((a0.Conds.length:Int) < (16:Int)))&&((Int.fdiv a1 (2 ^ (min (a0.Conds.length:Int).toNat (IntKind.bits .u16)))) != 0)) (.ret .ret ⟨[(4,(aB false))],[],[],272⟩ false ⟨rfl,_,Weak.refl _,dr⟩) (c3 (p:=fun x4=>ObjL Tryz.prog 51 [(.d (eSl 1 (eSl 2 e116) a0.Never)),(.fn 52 [(.ptr 32 0)])] [(32,some (.cells [(.d (.int .u16 a1))]))] 304 ⟨(aB x4),[32],[],[(32,(.cells [(.d (.int .u16 a1))]))],[]⟩) (fun x4 (h1:m51o0 a0.Never a1=some _)=>ok [(0,32)] [] [(32,0)] [] (po51o0 h1)) fun x4=>(.ret .ret ⟨[(4,(aB (!x4)))],[],[],352⟩ (!x4) ⟨rfl,_,Weak.refl _,dr⟩)))))
noncomputable def m20 (a0:T27) (a1:Int):Option (Bool):=(d20 a0 a1).m
theorem p20 {a0:T27} {a1:Int} {r:Bool} (h:m20 a0 a1=some r):PureAt Tryz.prog 20 [(e27 a0),(.int .u16 a1)] (.bool r):=pure_jd (d20 a0 a1) Tryz.func20 h
noncomputable def d99 (a0:T27):JF Tryz.prog Tryz.f99 [(e27 a0)] (fun(r:(List Int))=>(eSl 1 (D.int .u16) r)) :=
 (.sq 2 [] [(0,[1,3],[16])] (fun(_:Unit)=>⟨[(1,(.ptr 16 0)),(3,aN)],[(16,(.cells (g27 a0)))],[],64⟩) (.nx ()) (fun _=>(.sc (fun(y2:(List Int))=>⟨[(3,(.ap 1 y2.length (cF (D.int .u16) y2) (.tok 320 42)))],[],[320],400⟩) (.sq 1 [] [(0,[1,3,8,9],[16])] (fun(_:Unit)=>⟨[(1,(.ptr 16 0)),(3,aN),(8,(aI (IntKind.wrap .i64 ((1:Int) * 2 ^ (min (a0.Conds.length:Int).toNat (IntKind.bits .i64)))))),(9,(aI 0))],[(16,(.cells (g27 a0)))],[],144⟩) (nd (0≤(a0.Conds.length:Int)) (.nx ())) (fun _=>(.bk (.lp (fun(s1:(List Int)×Int)=>⟨[(1,(.ptr 16 0)),(3,(.ap 1 s1.1.length (cF (D.int .u16) s1.1) (.tok 320 42))),(8,(aI (IntKind.wrap .i64 ((1:Int) * 2 ^ (min (a0.Conds.length:Int).toNat (IntKind.bits .i64)))))),(9,(aI s1.2))],[(16,(.cells (g27 a0)))],[320],384⟩) ([],(0:Int)) (wk [(16,16)] []) fun s1=>(.sg [(5,tm1 15 D.bool)] [(0,[1,3,8,9],[16]),(2,[3],[])] (.ite (decide (s1.2 < (IntKind.wrap .i64 ((1:Int) * 2 ^ (min (a0.Conds.length:Int).toNat (IntKind.bits .i64)))))) (c3 (@p20 a0 (IntKind.wrap .u16 (s1.2))) fun x5=>(.ite x5 (nd ((s1.1.length+1) * 2≤140737488355328) (.ret .normal ⟨[(1,(.ptr 16 0)),(3,(.ap 1 (s1.1.length+1) (appF s1.1.length (cF (D.int .u16) s1.1) (litF [(.int .u16 (IntKind.wrap .u16 (s1.2)))])) (.tok 560 42))),(8,(aI (IntKind.wrap .i64 ((1:Int) * 2 ^ (min (a0.Conds.length:Int).toNat (IntKind.bits .i64)))))),(9,(aI (IntKind.wrap .i64 (s1.2+1))))],[(16,(.cells (g27 a0)))],[560,544],624⟩ (.inl ((s1.1++([(IntKind.wrap .u16 (s1.2))]:List Int)),(IntKind.wrap .i64 (s1.2+1)))) ⟨rfl,(wh [(16,16)] [(320,560)] ⟨⟨rfl,rfl⟩,⟨rfl,rfl,rfl,(de_app dr (de_lit rfl rfl))⟩,dr,dr⟩)⟩)) (.ret .normal ⟨[(1,(.ptr 16 0)),(3,(.ap 1 s1.1.length (cF (D.int .u16) s1.1) (.tok 320 42))),(8,(aI (IntKind.wrap .i64 ((1:Int) * 2 ^ (min (a0.Conds.length:Int).toNat (IntKind.bits .i64)))))),(9,(aI (IntKind.wrap .i64 (s1.2+1))))],[(16,(.cells (g27 a0)))],[320],528⟩ (.inl (s1.1,(IntKind.wrap .i64 (s1.2+1)))) ⟨rfl,(wk [(16,16)] [(320,320)])⟩))) (.ret (.exit 0) _ (.inr (.inl s1.1)) ⟨rfl,rfl,Weak.refl _⟩))))))) fun y2=>(.sg [] [(1,[2],[])] (.ret .ret ⟨[(2,(.ap 1 y2.length (cF (D.int .u16) y2) (.tok 320 42)))],[],[320],432⟩ y2 ⟨rfl,_,Weak.refl _,dr⟩)))))
noncomputable def m99 (a0:T27):Option ((List Int)):=(d99 a0).m
theorem p99 {a0:T27} {r:(List Int)} (h:m99 a0=some r):PureAt Tryz.prog 99 [(e27 a0)] (eSl 1 (D.int .u16) r):=pure_jd (d99 a0) Tryz.func99 h
noncomputable def d49 (a0:List Int) (a1:Int):JF Tryz.prog Tryz.f49 [(eSl 1 dI a0),(dI a1)] (fun(r:Bool)=>(.bool r)) :=
 (.sg [(1,tm1 7 dI)] [(1,[4],[])] (c3 (@p101 a0 a1) fun x1=>(.ret .ret ⟨[(4,(aB (decide (0≤x1))))],[],[],112⟩ (decide (0≤x1)) ⟨rfl,_,Weak.refl _,dr⟩)))
noncomputable def m49 (a0:List Int) (a1:Int):Option (Bool):=(d49 a0 a1).m
theorem p49 {a0:List Int} {a1:Int} {r:Bool} (h:m49 a0 a1=some r):PureAt Tryz.prog 49 [(eSl 1 dI a0),(dI a1)] (.bool r):=pure_jd (d49 a0 a1) Tryz.func49 h
noncomputable def d19 (a0:T27) (a1 a2:Int):JF Tryz.prog Tryz.f19 [(e27 a0),(dI a1),(.int .u16 a2)] (fun(r:(List Int))=>(eSl 1 dI r)) :=
 (.sq 3 [(1,tm1 13 (eSl 1 dI))] [(0,[2,3,7,8],[16])] (fun(y1:(List Int))=>⟨[(2,(.d (.int .u16 a2))),(3,(.ptr 16 0)),(7,(.d (eSl 1 dI y1))),(8,aN)],[(16,(.cells (g27 a0)))],[],128⟩) (c3 (@p48 a0 a1) fun x1=>(.nx x1)) (fun y1=>(.sc (fun(y3:(List Int))=>⟨[(8,(.ap 1 y3.length (cF dI y3) (.tok 512 3)))],[],[512],592⟩) (.sq 1 [] [(0,[2,7,8,15,16,17],[])] (fun(_:Unit)=>⟨[(2,(.d (.int .u16 a2))),(7,(.d (eSl 1 dI y1))),(8,aN),(15,(.d (eSl 4 e85 a0.Transitions))),(16,(aI (a0.Transitions.length:Int))),(17,(aI 0))],[],[],192⟩) (.nx ()) (fun _=>(.bk (.lp (fun(s2:(List Int)×Int)=>⟨[(2,(.d (.int .u16 a2))),(7,(.d (eSl 1 dI y1))),(8,(.ap 1 s2.1.length (cF dI s2.1) (.tok 512 3))),(15,(.d (eSl 4 e85 a0.Transitions))),(16,(aI (a0.Transitions.length:Int))),(17,(aI s2.2))],[],[512],576⟩) ([],(0:Int)) (wk [] []) fun s2=>(.sg [(6,⟨Bool×Bool,fun x=>[(25,(.bool x.1)),(30,(.bool x.2))],fun x=>[],[]⟩)] [(0,[2,7,8,15,16,17],[]),(2,[8],[])] (.ite (decide (s2.2 < (a0.Transitions.length:Int))) (nd (0≤s2.2) (nd (s2.2 < (a0.Transitions.length:Int)) (.exi (Bool×Bool) ((m49 y1 (a0.Transitions.getD s2.2.toNat default).From).bind fun r6_0=>((if r6_0=true then m50 (a0.Transitions.getD s2.2.toNat default).When a2 else some default).bind fun r6_1=>some (r6_0,r6_1))) (fun x6=>(.p (PureAt Tryz.prog 49 [(eSl 1 dI y1),(dI (a0.Transitions.getD s2.2.toNat default).From)] (.bool x6.1)) (.g x6.1 (PureAt Tryz.prog 50 [(eSl 2 e116 (a0.Transitions.getD s2.2.toNat default).When),(.int .u16 a2)] (.bool x6.2)) (.fin 0)))) (by intro x6 h;obtain⟨r6_0,h1,h⟩:=Option.bind_eq_some_iff.1 h;obtain⟨r6_1,h2,h⟩:=Option.bind_eq_some_iff.1 h;cases h;exact⟨p49 h1,fun g=>p50 (by rw[if_pos g]at h2;exact h2),trivial⟩) (fun x6 _=>(.ite (x6.1&&x6.2) (nd ((s2.1.length+1) * 8≤140737488355328) (.ret .normal ⟨[(2,(.d (.int .u16 a2))),(7,(.d (eSl 1 dI y1))),(8,(.ap 1 (s2.1.length+1) (appF s2.1.length (cF dI s2.1) (litF [(dI s2.2)])) (.tok 896 3))),(15,(.d (eSl 4 e85 a0.Transitions))),(16,(aI (a0.Transitions.length:Int))),(17,(aI (IntKind.wrap .i64 (s2.2+1))))],[],[896,880],960⟩ (.inl ((s2.1++([s2.2]:List Int)),(IntKind.wrap .i64 (s2.2+1)))) ⟨rfl,(wh [] [(512,896)] ⟨dr,dr,⟨rfl,rfl,rfl,(de_app dr (de_lit rfl rfl))⟩,dr,dr,dr⟩)⟩)) (.ret .normal ⟨[(2,(.d (.int .u16 a2))),(7,(.d (eSl 1 dI y1))),(8,(.ap 1 s2.1.length (cF dI s2.1) (.tok 512 3))),(15,(.d (eSl 4 e85 a0.Transitions))),(16,(aI (a0.Transitions.length:Int))),(17,(aI (IntKind.wrap .i64 (s2.2+1))))],[],[512],880⟩ (.inl (s2.1,(IntKind.wrap .i64 (s2.2+1)))) ⟨rfl,(wk [] [(512,512)])⟩)))))) (.ret (.exit 0) _ (.inr (.inl s2.1)) ⟨rfl,rfl,Weak.refl _⟩))))))) fun y3=>(.sg [] [(1,[6],[])] (.ret .ret ⟨[(6,(.ap 1 y3.length (cF dI y3) (.tok 512 3)))],[],[512],624⟩ y3 ⟨rfl,_,Weak.refl _,dr⟩)))))
noncomputable def m19 (a0:T27) (a1 a2:Int):Option ((List Int)):=(d19 a0 a1 a2).m
theorem p19 {a0:T27} {a1:Int} {a2:Int} {r:(List Int)} (h:m19 a0 a1 a2=some r):PureAt Tryz.prog 19 [(e27 a0),(dI a1),(.int .u16 a2)] (eSl 1 dI r):=pure_jd (d19 a0 a1 a2) Tryz.func19 h
noncomputable def d66 (a0:T27) (a1:T37):JF Tryz.prog Tryz.f66 [(e27 a0),(e37 a1)] (fun(r:Bool)=>(.bool r)) :=
 (.sq 2 [(1,⟨Bool×Bool,fun x=>[(10,(.bool x.1)),(16,(.bool x.2))],fun x=>[],[]⟩)] [(1,[4],[]),(0,[2,3],[16,32])] (fun(_:Unit)=>⟨[(2,(.ptr 16 0)),(3,(.ptr 32 0))],[(16,(.cells (g27 a0))),(32,(.cells (g37 a1)))],[],384⟩) (.exi (Bool×Bool) ((m89 a0 a1.Leaf).bind fun r1_0=>((if(!(!r1_0))=true then m103 a0 a1.Leaf else some default).bind fun r1_1=>some (r1_0,r1_1))) (fun x1=>(.p (PureAt Tryz.prog 89 [(e27 a0),(dI a1.Leaf)] (.bool x1.1)) (.g (!(!x1.1)) (PureAt Tryz.prog 103 [(e27 a0),(dI a1.Leaf)] (.bool x1.2)) (.fin 0)))) (by intro x1 h;obtain⟨r1_0,h1,h⟩:=Option.bind_eq_some_iff.1 h;obtain⟨r1_1,h2,h⟩:=Option.bind_eq_some_iff.1 h;cases h;exact⟨p89 h1,fun g=>p103 (by rw[if_pos g]at h2;exact h2),trivial⟩) (fun x1 _=>(.ite (((!x1.1) || x1.2) || ((a1.Memory.length:Int) != (a0.States.length:Int))) (.ret .ret ⟨[(4,(aB false))],[],[],400⟩ (.inr (false)) ⟨rfl,rfl,_,Weak.refl _,dr⟩) (.nx ())))) (fun _=>(.sc (fun(_:Unit)=>⟨[],[],[],1024⟩) (.sq 1 [] [(0,[2,28,29,30],[16])] (fun(_:Unit)=>⟨[(2,(.ptr 16 0)),(28,(.d (eSl 1 dI a1.Memory))),(29,(aI (a1.Memory.length:Int))),(30,(aI 0))],[(16,(.cells (g27 a0)))],[],448⟩) (.nx ()) (fun _=>(.bk (.lp (fun(s1:Int)=>⟨[(2,(.ptr 16 0)),(28,(.d (eSl 1 dI a1.Memory))),(29,(aI (a1.Memory.length:Int))),(30,(aI s1))],[(16,(.cells (g27 a0)))],[],1008⟩) (0:Int) (wk [(16,16)] []) fun s1=>(.sg [(6,tm1 40 D.bool)] [(1,[4],[]),(0,[2,28,29,30],[16]),(2,[],[])] (.ite (decide (s1 < (a1.Memory.length:Int))) (nd (0≤s1) (nd (s1 < (a1.Memory.length:Int)) (.exi (Bool) ((if((a1.Memory.getD s1.toNat default) != (-1:Int))=true then m89 a0 (a1.Memory.getD s1.toNat default)else some default).bind fun r6_0=>(if(((a1.Memory.getD s1.toNat default) != (-1:Int))&&(!(!r6_0)))=true→0≤s1 then(if(((a1.Memory.getD s1.toNat default) != (-1:Int))&&(!(!r6_0)))=true→s1 < (a0.States.length:Int)then(if(((a1.Memory.getD s1.toNat default) != (-1:Int))&&(!((!r6_0) || (!(a0.States.getD s1.toNat default).History))))=true→0≤(a1.Memory.getD s1.toNat default)then(if(((a1.Memory.getD s1.toNat default) != (-1:Int))&&(!((!r6_0) || (!(a0.States.getD s1.toNat default).History))))=true→(a1.Memory.getD s1.toNat default) < (a0.States.length:Int)then some r6_0 else none)else none)else none)else none)) (fun x6=>(.g ((a1.Memory.getD s1.toNat default) != (-1:Int)) (PureAt Tryz.prog 89 [(e27 a0),(dI (a1.Memory.getD s1.toNat default))] (.bool x6)) (.g (((a1.Memory.getD s1.toNat default) != (-1:Int))&&(!(!x6))) (0≤s1) (.g (((a1.Memory.getD s1.toNat default) != (-1:Int))&&(!(!x6))) (s1 < (a0.States.length:Int)) (.g (((a1.Memory.getD s1.toNat default) != (-1:Int))&&(!((!x6) || (!(a0.States.getD s1.toNat default).History)))) (0≤(a1.Memory.getD s1.toNat default)) (.g (((a1.Memory.getD s1.toNat default) != (-1:Int))&&(!((!x6) || (!(a0.States.getD s1.toNat default).History)))) ((a1.Memory.getD s1.toNat default) < (a0.States.length:Int)) (.fin 0))))))) (by intro x6 h;obtain⟨r6_0,h1,h⟩:=Option.bind_eq_some_iff.1 h;obtain⟨h2,h⟩:=if_some h;obtain⟨h3,h⟩:=if_some h;obtain⟨h4,h⟩:=if_some h;obtain⟨h5,h⟩:=if_some h;cases h;exact⟨fun g=>p89 (by rw[if_pos g]at h1;exact h1),h2,h3,h4,h5,trivial⟩) (fun x6 _=>(.ite (((a1.Memory.getD s1.toNat default) != (-1:Int))&&(((!x6) || (!(a0.States.getD s1.toNat default).History)) || ((a0.States.getD (a1.Memory.getD s1.toNat default).toNat default).Parent != s1))) (.ret .ret ⟨[(4,(aB false))],[],[],1552⟩ (.inr (.inr (false))) ⟨rfl,rfl,rfl,_,Weak.refl _,dr⟩) (.ret .normal ⟨[(2,(.ptr 16 0)),(28,(.d (eSl 1 dI a1.Memory))),(29,(aI (a1.Memory.length:Int))),(30,(aI (IntKind.wrap .i64 (s1+1))))],[(16,(.cells (g27 a0)))],[],1568⟩ (.inl (IntKind.wrap .i64 (s1+1))) ⟨rfl,(wk [(16,16)] [])⟩)))))) (.ret (.exit 0) _ (.inr (.inl ())) ⟨rfl,rfl,Weak.refl _⟩))))))) fun _=>(.sg [] [(1,[4],[])] (.ret .ret ⟨[(4,(aB true))],[],[],1040⟩ true ⟨rfl,_,Weak.refl _,dr⟩)))))
noncomputable def m66 (a0:T27) (a1:T37):Option (Bool):=(d66 a0 a1).m
theorem p66 {a0:T27} {a1:T37} {r:Bool} (h:m66 a0 a1=some r):PureAt Tryz.prog 66 [(e27 a0),(e37 a1)] (.bool r):=pure_jd (d66 a0 a1) Tryz.func66 h
noncomputable def d114 (a0:T27) (a1 a2:Int):JF Tryz.prog Tryz.f114 [(e27 a0),(dI a1),(dI a2)] (fun(r:Int)=>(dI r)) :=
 (.sq 2 [(1,tm1 12 (eSl 1 dI))] [(0,[1,3,7],[16])] (fun(y1:(List Int))=>⟨[(1,(aI a1)),(3,(.ptr 16 0)),(7,(.d (eSl 1 dI y1)))],[(16,(.cells (g27 a0)))],[],128⟩) (.exi ((List Int)) ((m48 a0 a2).bind fun r1_0=>(if(0:Int)≤(1:Int)then(if 1≤(r1_0.length:Int)then some r1_0 else none)else none)) (fun x1=>(.p (PureAt Tryz.prog 48 [(e27 a0),(dI a2)] (eSl 1 dI x1)) (.p ((0:Int)≤(1:Int)) (.p (1≤(x1.length:Int)) (.fin 0))))) (by intro x1 h;obtain⟨r1_0,h1,h⟩:=Option.bind_eq_some_iff.1 h;obtain⟨h2,h⟩:=if_some h;obtain⟨h3,h⟩:=if_some h;cases h;exact⟨p48 h1,h2,h3,trivial⟩) (fun x1 _=>(.ret .normal ⟨[(1,(aI a1)),(3,(.ptr 16 0)),(7,(.d (.sl 1 (x1.length - (1:Int).toNat) (fun i=>cF dI x1 ((1:Int).toNat+i)))))],[(16,(.cells (g27 a0)))],[],128⟩ (.inl (subL x1 (1:Int).toNat (x1.length - (1:Int).toNat))) ⟨rfl,(wh [(16,16)] [] ⟨dr,⟨rfl,rfl⟩,de_sub⟩)⟩))) (fun y1=>(.sc (fun(_:Unit)=>⟨[],[],[],384⟩) (.sq 1 [(2,tm1 16 (eSl 1 dI))] [(0,[7,17,18,19],[])] (fun(y2:(List Int)×Int)=>⟨[(7,(.d (eSl 1 dI y1))),(17,(.d (eSl 1 dI y2.1))),(18,(aI y2.2)),(19,(aI 0))],[],[],224⟩) (.exi ((List Int)) ((m48 a0 a1).bind fun r2_0=>(if(0:Int)≤(1:Int)then(if 1≤(r2_0.length:Int)then some r2_0 else none)else none)) (fun x2=>(.p (PureAt Tryz.prog 48 [(e27 a0),(dI a1)] (eSl 1 dI x2)) (.p ((0:Int)≤(1:Int)) (.p (1≤(x2.length:Int)) (.fin 0))))) (by intro x2 h;obtain⟨r2_0,h1,h⟩:=Option.bind_eq_some_iff.1 h;obtain⟨h2,h⟩:=if_some h;obtain⟨h3,h⟩:=if_some h;cases h;exact⟨p48 h1,h2,h3,trivial⟩) (fun x2 _=>(.ret .normal ⟨[(7,(.d (eSl 1 dI y1))),(17,(.d (.sl 1 (x2.length - (1:Int).toNat) (fun i=>cF dI x2 ((1:Int).toNat+i))))),(18,(aI (((x2.length - (1:Int).toNat):Nat):Int))),(19,(aI 0))],[],[],224⟩ (.inl ((subL x2 (1:Int).toNat (x2.length - (1:Int).toNat)),(((x2.length - (1:Int).toNat):Nat):Int))) ⟨rfl,(wh [] [] ⟨dr,de_sub,dr,dr⟩)⟩))) (fun y2=>(.bk (.lp (fun(s3:Int)=>⟨[(7,(.d (eSl 1 dI y1))),(17,(.d (eSl 1 dI y2.1))),(18,(aI y2.2)),(19,(aI s3))],[],[],368⟩) (0:Int) (wk [] []) fun s3=>(.sg [(5,tm1 25 D.bool)] [(1,[6],[]),(0,[7,17,18,19],[]),(2,[],[])] (.ite (decide (s3 < y2.2)) (nd (0≤s3) (nd (s3 < (y2.1.length:Int)) (c3 (@p49 y1 (y2.1.getD s3.toNat default)) fun x5=>(.ite x5 (.ret .ret ⟨[(6,(aI (y2.1.getD s3.toNat default)))],[],[],512⟩ (.inr (.inr ((y2.1.getD s3.toNat default)))) ⟨rfl,rfl,rfl,_,Weak.refl _,dr⟩) (.ret .normal ⟨[(7,(.d (eSl 1 dI y1))),(17,(.d (eSl 1 dI y2.1))),(18,(aI y2.2)),(19,(aI (IntKind.wrap .i64 (s3+1))))],[],[],512⟩ (.inl (IntKind.wrap .i64 (s3+1))) ⟨rfl,(wk [] [])⟩))))) (.ret (.exit 0) _ (.inr (.inl ())) ⟨rfl,rfl,Weak.refl _⟩))))))) fun _=>(.sg [] [(1,[6],[])] (.ret .ret ⟨[(6,(aI (-1)))],[],[],400⟩ (-1:Int) ⟨rfl,_,Weak.refl _,dr⟩)))))
noncomputable def m114 (a0:T27) (a1 a2:Int):Option (Int):=(d114 a0 a1 a2).m
theorem p114 {a0:T27} {a1:Int} {a2:Int} {r:Int} (h:m114 a0 a1 a2=some r):PureAt Tryz.prog 114 [(e27 a0),(dI a1),(dI a2)] (dI r):=pure_jd (d114 a0 a1 a2) Tryz.func114 h
noncomputable abbrev z115o0_0 (a1:T27) (a2:Int) (a3:List Int) (s2:Int×Int×(List Int)×(List (List UInt8))) (y1:(List Int)×Int):Ob:=(.cells (g27 a1++([(aI a2),(.arr 1 1 a3.length),(.ap 1 (s2.2.2.2.length+(a1.States.getD (y1.1.getD s2.2.1.toNat default).toNat default).Exit.length) (appF s2.2.2.2.length (cF D.str s2.2.2.2) (cF D.str (a1.States.getD (y1.1.getD s2.2.1.toNat default).toNat default).Exit)) (.tok 1360 9))]:List AV)))
noncomputable abbrev z115o0_1 (a1:T27) (a2:Int) (a3:List Int) (a4:List (List UInt8)):Ob:=(.cells [(aS a1.Name),(.d (eSl 1 D.str a1.Conds)),(.d (eSl 1 (eSl 2 e116) a1.Never)),(.d (eSl 6 e119 a1.States)),(aI a1.Start),(.d (eSl 4 e85 a1.Transitions)),(aI a2),(.arr 1 1 a3.length),(.ap 1 a4.length (cF D.str a4) (.tok 0 9))])
noncomputable abbrev z115o0_2 (a1:T27) (a2:Int) (a3:List Int) (s2:Int×Int×(List Int)×(List (List UInt8))):Ob:=(.cells (g27 a1++([(aI a2),(.arr 1 1 a3.length),(.ap 1 s2.2.2.2.length (cF D.str s2.2.2.2) (.tok 0 9))]:List AV)))
noncomputable def q115o0 (a0:Int) (a1:T27) (a2:Int) (a3:List Int) (a4:List (List UInt8)) (y:(List Int)×(List (List UInt8))):OF:=⟨(.tup []),[(1,(.arr 1 a3.length (cF dI y.1))),(0,(.cells (g27 a1++([(aI a2),(.arr 1 1 a3.length),(.ap 1 y.2.length (cF D.str y.2) (.tok 0 9))]:List AV))))],[0]⟩
noncomputable def d115o0 (a0:Int) (a1:T27) (a2:Int) (a3:List Int) (a4:List (List UInt8)):JO Tryz.prog Tryz.f115 [(.ptr 0 0),(aI a0)] [(1,(.arr 1 a3.length (cF dI a3))),(0,(z115o0_1 a1 a2 a3 a4))] [0] (q115o0 a0 a1 a2 a3 a4) :=
 (.sq 2 [(1,tm1 17 (eSl 1 dI))] [(0,[0,1,4,17,18,19],[1,0])] (fun(y1:(List Int)×Int)=>⟨[(0,(.ptr 0 0)),(1,(aI a0)),(4,(aI (-1))),(17,(.d (eSl 1 dI y1.1))),(18,(aI y1.2)),(19,(aI 0))],[(1,(.arr 1 a3.length (cF dI a3))),(0,(.cells (g27 a1++([(aI a2),(.arr 1 1 a3.length),(.ap 1 a4.length (cF D.str a4) (.tok 0 9))]:List AV))))],[0],224⟩) (c3 (@p48 a1 a2) fun x1=>(.nx (x1,(x1.length:Int)))) (fun y1=>(.bk (.lp (fun(s2:Int×Int×(List Int)×(List (List UInt8)))=>⟨[(0,(.ptr 0 0)),(1,(aI a0)),(4,(aI s2.1)),(17,(.d (eSl 1 dI y1.1))),(18,(aI y1.2)),(19,(aI s2.2.1))],[(1,(.arr 1 a3.length (cF dI s2.2.2.1))),(0,(z115o0_2 a1 a2 a3 s2))],[0],976⟩) ((-1:Int),(0:Int),a3,a4) (ws (idn [0,1]) [(0,0)] ⟨⟨_,_,rfl,rfl,⟨rfl,(de_keep dr)⟩⟩,⟨_,_,rfl,rfl,⟨dr,dr,dr,dr,dr,dr,dr,⟨rfl,rfl,rfl⟩,⟨rfl,rfl,rfl,dr⟩,trivial⟩⟩⟩) fun s2=>(.sg [] [(1,[0],[0,1]),(0,[0,1,4,17,18,19],[1,0]),(2,[0],[0,1])] (.ite (decide (s2.2.1 < y1.2)) (nd (0≤s2.2.1) (nd (s2.2.1 < (y1.1.length:Int)) (.ite ((y1.1.getD s2.2.1.toNat default)==a0) (.ret .ret ⟨[(0,(.ptr 0 0))],[(0,(z115o0_2 a1 a2 a3 s2)),(1,(.arr 1 a3.length (cF dI s2.2.2.1)))],[0],1088⟩ (.inr ((s2.2.2.1,s2.2.2.2))) ⟨rfl,rfl,(rk (idn [0,1]) [(0,0)] 1088)⟩) (nd (0≤(y1.1.getD s2.2.1.toNat default)) (nd ((y1.1.getD s2.2.1.toNat default) < (a1.States.length:Int)) (nd ((s2.2.2.2.length+(a1.States.getD (y1.1.getD s2.2.1.toNat default).toNat default).Exit.length) * 16≤140737488355328) (.ite ((a1.States.getD (y1.1.getD s2.2.1.toNat default).toNat default).History&&(s2.1 != (-1:Int))) (nd (0≤(y1.1.getD s2.2.1.toNat default)) (nd ((y1.1.getD s2.2.1.toNat default) < (a3.length:Int)) (nd ((y1.1.getD s2.2.1.toNat default).toNat < a3.length) (.ret .normal ⟨[(0,(.ptr 0 0)),(1,(aI a0)),(4,(aI (y1.1.getD s2.2.1.toNat default))),(17,(.d (eSl 1 dI y1.1))),(18,(aI y1.2)),(19,(aI (IntKind.wrap .i64 (s2.2.1+1))))],[(1,(.arr 1 a3.length (fun k=>if k=(y1.1.getD s2.2.1.toNat default).toNat then(dI s2.1)else(cF dI s2.2.2.1) k))),(0,(z115o0_0 a1 a2 a3 s2 y1))],[1360],1728⟩ (.inl ((y1.1.getD s2.2.1.toNat default),(IntKind.wrap .i64 (s2.2.1+1)),((subL s2.2.2.1 0 a3.length).set (y1.1.getD s2.2.1.toNat default).toNat s2.1),(s2.2.2.2++(a1.States.getD (y1.1.getD s2.2.1.toNat default).toNat default).Exit))) ⟨rfl,(ws (idn [0,1]) [(0,1360)] ⟨⟨_,_,rfl,rfl,⟨rfl,(de_keep (de_set de_sub0))⟩⟩,⟨_,_,rfl,rfl,⟨dr,dr,dr,dr,dr,dr,dr,⟨rfl,rfl,rfl⟩,⟨rfl,rfl,rfl,(de_app dr dr)⟩,trivial⟩⟩⟩)⟩)))) (.ret .normal ⟨[(0,(.ptr 0 0)),(1,(aI a0)),(4,(aI (y1.1.getD s2.2.1.toNat default))),(17,(.d (eSl 1 dI y1.1))),(18,(aI y1.2)),(19,(aI (IntKind.wrap .i64 (s2.2.1+1))))],[(1,(.arr 1 a3.length (cF dI s2.2.2.1))),(0,(z115o0_0 a1 a2 a3 s2 y1))],[1360],1584⟩ (.inl ((y1.1.getD s2.2.1.toNat default),(IntKind.wrap .i64 (s2.2.1+1)),s2.2.2.1,(s2.2.2.2++(a1.States.getD (y1.1.getD s2.2.1.toNat default).toNat default).Exit))) ⟨rfl,(ws (idn [0,1]) [(0,1360)] ⟨⟨_,_,rfl,rfl,⟨rfl,dr⟩⟩,⟨_,_,rfl,rfl,⟨dr,dr,dr,dr,dr,dr,dr,⟨rfl,rfl,rfl⟩,⟨rfl,rfl,rfl,(de_app dr dr)⟩,trivial⟩⟩⟩)⟩)))))))) (.ret (.exit 0) ⟨[(0,(.ptr 0 0))],[(0,(z115o0_2 a1 a2 a3 s2)),(1,(.arr 1 a3.length (cF dI s2.2.2.1)))],[0],992⟩ (.inr ((s2.2.2.1,s2.2.2.2))) ⟨rfl,rfl,(rk (idn [0,1]) [(0,0)] 1088)⟩)))))))
noncomputable def m115o0 (a0:Int) (a1:T27) (a2:Int) (a3:List Int) (a4:List (List UInt8)):Option ((List Int)×(List (List UInt8))):=(d115o0 a0 a1 a2 a3 a4).m
theorem po115o0 {a0:Int} {a1:T27} {a2:Int} {a3:List Int} {a4:List (List UInt8)} {r:(List Int)×(List (List UInt8))} (h:m115o0 a0 a1 a2 a3 a4=some r):ObjF Tryz.prog 115 [(.ptr 0 0),(aI a0)] [(1,(.arr 1 a3.length (cF dI a3))),(0,(z115o0_1 a1 a2 a3 a4))] [0] (q115o0 a0 a1 a2 a3 a4 r):=obj_jd (d115o0 a0 a1 a2 a3 a4) Tryz.func115 h
noncomputable def E67 (r:T37×(List (List UInt8))×Int):D:=(.tup [(e37 r.1),(eSl 1 D.str r.2.1),(dI r.2.2)])
noncomputable def o67_0 (a0:T27) (a1:T37) (x:Unit):OT:=⟨(.ptr 657 0),[],[],[(656,(.arr 1 (a1.Memory.length:Int).toNat (fun i=>if i < a1.Memory.length then(cF dI a1.Memory) i else(fun _=>(dI 0)) i))),(657,(.cells (g27 a0++([(aI a1.Leaf),(.arr 656 1 (a1.Memory.length:Int).toNat),aN]:List AV))))],[]⟩
noncomputable def o67_1 (a0:T27) (a1:T37) (x:((List Int)×(List (List UInt8)))):OT:=⟨(.tup []),[657,656],[],[(656,(.arr 1 (a1.Memory.length:Int).toNat (cF dI x.1))),(657,(.cells (g27 a0++([(aI a1.Leaf),(.arr 656 1 (a1.Memory.length:Int).toNat),(.ap 1 x.2.length (cF D.str x.2) (.tok 832 9))]:List AV))))],[832]⟩
noncomputable def o67_2 (a0:T27) (a1:T37) (x:(Int×(List Int)×(List (List UInt8)))):OT:=⟨(.tup []),[657,656],[960],[(656,(.arr 1 (a1.Memory.length:Int).toNat (cF dI x.2.1))),(657,(.cells (g27 a0++([(aI x.1),(.arr 656 1 (a1.Memory.length:Int).toNat),(.ap 1 x.2.2.length (cF D.str x.2.2) (.tok 1088 9))]:List AV))))],[1088]⟩
noncomputable def d67 (a0:T27) (a1:T37) (a2:Int):JF Tryz.prog Tryz.f67 [(e27 a0),(e37 a1),(dI a2)] E67 :=
 (.sg [(1,tm1 14 dI),(4,tm1 21 D.bool),(9,⟨(List Int)×Bool,fun x=>[(42,(eSl 1 dI x.1)),(45,(.bool x.2))],fun x=>[],[]⟩),(11,⟨Unit,fun x=>[],fun x=>[(656,(o67_0 a0 a1 x))],[]⟩),(12,tm1 56 dI),(13,⟨((List Int)×(List (List UInt8))),fun x=>[],fun x=>[(832,(o67_1 a0 a1 x))],[]⟩),(15,⟨(Int×(List Int)×(List (List UInt8))),fun x=>[],fun x=>[(1088,(o67_2 a0 a1 x))],[]⟩)] [(1,[6,7,8],[48,656])] (c3 (@p38 a0) fun x1=>(.ite (x1 != 0) (.ret .ret ⟨[(6,(.ptr 48 0)),(7,aN),(8,(aI x1))],[(48,(.cells [(aI 0),aN]))],[],256⟩ ((⟨(0:Int),[]⟩:T37),[],x1) ⟨rfl,_,Weak.refl _,⟨⟨dr,de_nil,trivial⟩,de_nil,dr,trivial⟩⟩) (c3 (@p66 a0 a1) fun x4=>(.ite (!x4) (.ret .ret ⟨[(6,(.ptr 48 0)),(7,aN),(8,(aI 8))],[(48,(.cells [(aI 0),aN]))],[],304⟩ ((⟨(0:Int),[]⟩:T37),[],(8:Int)) ⟨rfl,_,Weak.refl _,⟨⟨dr,de_nil,trivial⟩,de_nil,dr,trivial⟩⟩) (.ite ((decide (a2 < 0)) || (decide ((a0.Transitions.length:Int)≤a2))) (.ret .ret ⟨[(6,(.ptr 48 0)),(7,aN),(8,(aI 2))],[(48,(.cells [(aI 0),aN]))],[],448⟩ ((⟨(0:Int),[]⟩:T37),[],(2:Int)) ⟨rfl,_,Weak.refl _,⟨⟨dr,de_nil,trivial⟩,de_nil,dr,trivial⟩⟩) (nd (0≤a2) (nd (a2 < (a0.Transitions.length:Int)) (.exi ((List Int)×Bool) ((m48 a0 a1.Leaf).bind fun r9_0=>((m49 r9_0 (a0.Transitions.getD a2.toNat default).From).bind fun r9_1=>some (r9_0,r9_1))) (fun x9=>(.p (PureAt Tryz.prog 48 [(e27 a0),(dI a1.Leaf)] (eSl 1 dI x9.1)) (.p (PureAt Tryz.prog 49 [(eSl 1 dI x9.1),(dI (a0.Transitions.getD a2.toNat default).From)] (.bool x9.2)) (.fin 0)))) (by intro x9 h;obtain⟨r9_0,h1,h⟩:=Option.bind_eq_some_iff.1 h;obtain⟨r9_1,h2,h⟩:=Option.bind_eq_some_iff.1 h;cases h;exact⟨p48 h1,p49 h2,trivial⟩) (fun x9 _=>(.ite (!x9.2) (.ret .ret ⟨[(6,(.ptr 48 0)),(7,aN),(8,(aI 9))],[(48,(.cells [(aI 0),aN]))],[],688⟩ ((⟨(0:Int),[]⟩:T37),[],(9:Int)) ⟨rfl,_,Weak.refl _,⟨⟨dr,de_nil,trivial⟩,de_nil,dr,trivial⟩⟩) (c3 (p:=fun x11=>ObjL Tryz.prog 63 [(.d (e27 a0)),(.d (e37 a1))] [] 656 (o67_0 a0 a1 x11)) (fun x11 (h1:m63o0 a0 a1=some _)=>ok [] [] [(656,112),(657,304)] [] (po63o0 h1)) fun x11=>(c3 (@p114 a0 (a0.Transitions.getD a2.toNat default).From (a0.Transitions.getD a2.toNat default).To) fun x12=>(c3 (p:=fun x13=>ObjL Tryz.prog 115 [(.ptr 657 0),(aI x12)] [(657,some (.cells (g27 a0++([(aI a1.Leaf),(.arr 656 1 (a1.Memory.length:Int).toNat),aN]:List AV)))),(656,some (.arr 1 (a1.Memory.length:Int).toNat (fun i=>if i < a1.Memory.length then(cF dI a1.Memory) i else(fun _=>(dI 0)) i)))] 832 (o67_1 a0 a1 x13)) (fun x13 (h1:m115o0 x12 a0 a1.Leaf (copyL (List.replicate (a1.Memory.length:Int).toNat (0:Int)) a1.Memory) []=some _)=>objL_of (po115o0 h1) [(0,657),(1,656)] [] [(657,0),(656,1)] [(832,0)] (by kernel_rfl) ⟨⟨rfl,rfl⟩,dr,trivial⟩ ⟨⟨_,_,rfl,rfl,⟨rfl,(de_copy (z:=1) (sz':=1) de_rep dr)⟩⟩,⟨_,_,rfl,rfl,⟨dr,dr,dr,dr,dr,dr,dr,⟨rfl,rfl,(len_of (sz:=1) (e:=dI) (f:=(fun i=>if i < a1.Memory.length then(cF dI a1.Memory) i else(fun _=>(dI 0)) i)) (l:=(copyL (List.replicate (a1.Memory.length:Int).toNat (0:Int)) a1.Memory)) (de_copy (z:=1) (sz':=1) de_rep dr))⟩,rfl,trivial⟩⟩⟩ (by kernel_rfl) trivial ⟨⟨_,_,rfl,rfl,⟨rfl,(de_len (Eq.symm (len_of (sz:=1) (e:=dI) (f:=(fun i=>if i < a1.Memory.length then(cF dI a1.Memory) i else(fun _=>(dI 0)) i)) (l:=(copyL (List.replicate (a1.Memory.length:Int).toNat (0:Int)) a1.Memory)) (de_copy (z:=1) (sz':=1) de_rep dr))))⟩⟩,⟨_,_,rfl,rfl,⟨dr,dr,dr,dr,dr,dr,dr,⟨rfl,rfl,(Eq.symm (len_of (sz:=1) (e:=dI) (f:=(fun i=>if i < a1.Memory.length then(cF dI a1.Memory) i else(fun _=>(dI 0)) i)) (l:=(copyL (List.replicate (a1.Memory.length:Int).toNat (0:Int)) a1.Memory)) (de_copy (z:=1) (sz':=1) de_rep dr)))⟩,⟨rfl,rfl,rfl,dr⟩,trivial⟩⟩⟩) fun x13=>(nd ((x13.2.length+(a0.Transitions.getD a2.toNat default).Actions.length) * 16≤140737488355328) (c3 (p:=fun x15=>ObjL Tryz.prog 65 [(.ptr 657 0),(aI (a0.Transitions.getD a2.toNat default).To),(aI x12)] [(657,some (.cells (g27 a0++([(aI a1.Leaf),(.arr 656 1 (a1.Memory.length:Int).toNat),(.ap 1 (x13.2.length+(a0.Transitions.getD a2.toNat default).Actions.length) (appF x13.2.length (cF D.str x13.2) (cF D.str (a0.Transitions.getD a2.toNat default).Actions)) (.tok 960 9))]:List AV)))),(656,some (.arr 1 (a1.Memory.length:Int).toNat (cF dI x13.1)))] 1088 (o67_2 a0 a1 x15)) (fun x15 (h1:m65o0 (a0.Transitions.getD a2.toNat default).To x12 a0 a1.Leaf (subL x13.1 0 (a1.Memory.length:Int).toNat) (x13.2++(a0.Transitions.getD a2.toNat default).Actions)=some _)=>objL_of (po65o0 h1) [(0,657),(1,656)] [(0,960)] [(657,0),(656,1)] [(1088,384)] (by kernel_rfl) ⟨⟨rfl,rfl⟩,dr,dr,trivial⟩ ⟨⟨_,_,rfl,rfl,⟨rfl,de_sub0⟩⟩,⟨_,_,rfl,rfl,⟨dr,dr,dr,dr,dr,dr,dr,⟨rfl,rfl,(len_of (sz:=1) (e:=dI) (f:=(cF dI x13.1)) (l:=(subL x13.1 0 (a1.Memory.length:Int).toNat)) de_sub0)⟩,⟨rfl,rfl,rfl,(de_app dr dr)⟩,trivial⟩⟩⟩ (by kernel_rfl) trivial ⟨⟨_,_,rfl,rfl,⟨rfl,(de_len (Eq.symm (len_of (sz:=1) (e:=dI) (f:=(cF dI x13.1)) (l:=(subL x13.1 0 (a1.Memory.length:Int).toNat)) de_sub0)))⟩⟩,⟨_,_,rfl,rfl,⟨dr,dr,dr,dr,dr,dr,dr,⟨rfl,rfl,(Eq.symm (len_of (sz:=1) (e:=dI) (f:=(cF dI x13.1)) (l:=(subL x13.1 0 (a1.Memory.length:Int).toNat)) de_sub0))⟩,⟨rfl,rfl,rfl,dr⟩,trivial⟩⟩⟩) fun x15=>(.ret .ret ⟨[(6,(.ptr 48 0)),(7,(.ap 1 x15.2.2.length (cF D.str x15.2.2) (.tok 1088 9))),(8,(aI 0))],[(48,(.cells [(aI x15.1),(.arr 656 1 (a1.Memory.length:Int).toNat)])),(656,(.arr 1 (a1.Memory.length:Int).toNat (cF dI x15.2.1)))],[1088],1280⟩ ((⟨x15.1,(subL x15.2.1 0 (a1.Memory.length:Int).toNat)⟩:T37),x15.2.2,(0:Int)) ⟨rfl,_,(weak_frz (st':=⟨[(6,(.ptr 48 0)),(7,(.ap 1 x15.2.2.length (cF D.str x15.2.2) (.tok 1088 9))),(8,(aI 0))],[(48,(.cells [(aI x15.1),(.d (eSl 1 dI (subL x15.2.1 0 (a1.Memory.length:Int).toNat)))]))],[1088],1280⟩) [(656,1,(a1.Memory.length:Int).toNat,(cF dI x15.2.1))] (by rfl) (by rfl) (by kernel_rfl) (by kernel_rfl) (by exact(rowIs_arr rfl)) (by exact .inr ⟨_,_,rfl,rfl,(.same (.arr (.head _) (Nat.le_refl _) de_sub0 .nil))⟩) (by exact⟨(.same .nil),(.same .nil),(.same .nil)⟩)),⟨dr,dr,dr,trivial⟩⟩)))))))))))))))))
noncomputable def m67 (a0:T27) (a1:T37) (a2:Int):Option (T37×(List (List UInt8))×Int):=(d67 a0 a1 a2).m
theorem p67 {a0:T27} {a1:T37} {a2:Int} {r:T37×(List (List UInt8))×Int} (h:m67 a0 a1 a2=some r):PureAt Tryz.prog 67 [(e27 a0),(e37 a1),(dI a2)] (E67 r):=pure_jd (d67 a0 a1 a2) Tryz.func67 h
noncomputable def d121 (a0 a1:List Int):JF Tryz.prog Tryz.f121 [(eSl 1 dI a0),(eSl 1 dI a1)] (fun(r:Bool)=>(.bool r)) :=
 (.sq 2 [] [(1,[4],[]),(0,[0,1],[])] (fun(_:Unit)=>⟨[(0,(.d (eSl 1 dI a0))),(1,(.d (eSl 1 dI a1)))],[],[],112⟩) (.ite ((a0.length:Int) != (a1.length:Int)) (.ret .ret ⟨[(4,(aB false))],[],[],128⟩ (.inr (false)) ⟨rfl,rfl,_,Weak.refl _,dr⟩) (.nx ())) (fun _=>(.sc (fun(_:Unit)=>⟨[],[],[],400⟩) (.sq 1 [] [(0,[0,1,12,13],[])] (fun(_:Unit)=>⟨[(0,(.d (eSl 1 dI a0))),(1,(.d (eSl 1 dI a1))),(12,(aI (a0.length:Int))),(13,(aI 0))],[],[],160⟩) (.nx ()) (fun _=>(.bk (.lp (fun(s1:Int)=>⟨[(0,(.d (eSl 1 dI a0))),(1,(.d (eSl 1 dI a1))),(12,(aI (a0.length:Int))),(13,(aI s1))],[],[],384⟩) (0:Int) (wk [] []) fun s1=>(.sg [] [(1,[4],[]),(0,[0,1,12,13],[]),(2,[],[])] (.ite (decide (s1 < (a0.length:Int))) (nd (0≤s1) (nd (s1 < (a0.length:Int)) (nd (0≤s1) (nd (s1 < (a1.length:Int)) (.ite ((a0.getD s1.toNat default) != (a1.getD s1.toNat default)) (.ret .ret ⟨[(4,(aB false))],[],[],592⟩ (.inr (.inr (false))) ⟨rfl,rfl,rfl,_,Weak.refl _,dr⟩) (.ret .normal ⟨[(0,(.d (eSl 1 dI a0))),(1,(.d (eSl 1 dI a1))),(12,(aI (a0.length:Int))),(13,(aI (IntKind.wrap .i64 (s1+1))))],[],[],608⟩ (.inl (IntKind.wrap .i64 (s1+1))) ⟨rfl,(wk [] [])⟩)))))) (.ret (.exit 0) _ (.inr (.inl ())) ⟨rfl,rfl,Weak.refl _⟩))))))) fun _=>(.sg [] [(1,[4],[])] (.ret .ret ⟨[(4,(aB true))],[],[],416⟩ true ⟨rfl,_,Weak.refl _,dr⟩)))))
noncomputable def m121 (a0 a1:List Int):Option (Bool):=(d121 a0 a1).m
theorem p121 {a0:List Int} {a1:List Int} {r:Bool} (h:m121 a0 a1=some r):PureAt Tryz.prog 121 [(eSl 1 dI a0),(eSl 1 dI a1)] (.bool r):=pure_jd (d121 a0 a1) Tryz.func121 h
noncomputable def d73 (a0 a1:T37):JF Tryz.prog Tryz.f73 [(e37 a0),(e37 a1)] (fun(r:Bool)=>(.bool r)) :=
 (.sg [(1,tm1 15 D.bool)] [(1,[4],[])] (.exi (Bool) ((if(a0.Leaf==a1.Leaf)=true then m121 a0.Memory a1.Memory else some default).bind fun r1_0=>some r1_0) (fun x1=>(.g (a0.Leaf==a1.Leaf) (PureAt Tryz.prog 121 [(eSl 1 dI a0.Memory),(eSl 1 dI a1.Memory)] (.bool x1)) (.fin 0))) (by intro x1 h;obtain⟨r1_0,h1,h⟩:=Option.bind_eq_some_iff.1 h;cases h;exact⟨fun g=>p121 (by rw[if_pos g]at h1;exact h1),trivial⟩) (fun x1 _=>(.ret .ret ⟨[(4,(aB ((a0.Leaf==a1.Leaf)&&x1)))],[],[],272⟩ ((a0.Leaf==a1.Leaf)&&x1) ⟨rfl,_,Weak.refl _,dr⟩))))
noncomputable def m73 (a0 a1:T37):Option (Bool):=(d73 a0 a1).m
theorem p73 {a0:T37} {a1:T37} {r:Bool} (h:m73 a0 a1=some r):PureAt Tryz.prog 73 [(e37 a0),(e37 a1)] (.bool r):=pure_jd (d73 a0 a1) Tryz.func73 h
noncomputable def q128o0 (a0 a1:T37) (y:Bool):OF:=⟨(aB y),[(0,(.cells (g37 a1)))],[]⟩
noncomputable def d128o0 (a0 a1:T37):JO Tryz.prog Tryz.f128 [(.d (e37 a0)),(.ptr 0 0)] [(0,(.cells (g37 a1)))] [] (q128o0 a0 a1) :=
 (.sg [(1,tm1 6 D.bool)] [(1,[1,3],[0])] (c3 (@p73 a0 a1) fun x1=>(.ret .ret ⟨[(1,(.ptr 0 0)),(3,(aB x1))],[(0,(.cells (g37 a1)))],[],112⟩ x1 ⟨rfl,(rk [(0,0)] [] 112)⟩)))
noncomputable def m128o0 (a0 a1:T37):Option (Bool):=(d128o0 a0 a1).m
theorem po128o0 {a0:T37} {a1:T37} {r:Bool} (h:m128o0 a0 a1=some r):ObjF Tryz.prog 128 [(.d (e37 a0)),(.ptr 0 0)] [(0,(.cells (g37 a1)))] [] (q128o0 a0 a1 r):=obj_jd (d128o0 a0 a1) Tryz.func128 h
noncomputable def q54o0 (a0:List T37) (a1:T37) (y:Int):OF:=⟨(aI y),[(0,(.cells (g37 a1)))],[]⟩
noncomputable def o54o0_0 (a1:T37) (x:Bool):OT:=⟨(aB x),[0],[],[(0,(.cells (g37 a1)))],[]⟩
noncomputable def d54o0 (a0:List T37) (a1:T37):JO Tryz.prog Tryz.f54 [(.d (eSl 2 e37 a0)),(.fn 128 [(.ptr 0 0)])] [(0,(.cells (g37 a1)))] [] (q54o0 a0 a1) :=
 (.sq 1 [] [(0,[0,1],[0])] (fun(_:Unit)=>⟨[(0,(.d (eSl 2 e37 a0))),(1,(.fn 128 [(.ptr 0 0)]))],[(0,(.cells (g37 a1)))],[],32⟩) (.nx ()) (fun _=>(.sc (fun(_:Unit)=>⟨[(1,(.fn 128 [(.ptr 0 0)]))],[(0,(.cells (g37 a1)))],[],272⟩) (.sq 1 [] [(0,[0,1,7,8],[0])] (fun(_:Unit)=>⟨[(0,(.d (eSl 2 e37 a0))),(1,(.fn 128 [(.ptr 0 0)])),(7,(aI (a0.length:Int))),(8,(aI 0))],[(0,(.cells (g37 a1)))],[],80⟩) (.nx ()) (fun _=>(.bk (.lp (fun(s1:Int)=>⟨[(0,(.d (eSl 2 e37 a0))),(1,(.fn 128 [(.ptr 0 0)])),(7,(aI (a0.length:Int))),(8,(aI s1))],[(0,(.cells (g37 a1)))],[],256⟩) (0:Int) (wk [(0,0)] []) fun s1=>(.sg [(4,⟨Bool,fun x=>[],fun x=>[(384,(o54o0_0 a1 x))],[]⟩)] [(1,[1,4],[0]),(0,[0,1,7,8],[0]),(2,[1],[0])] (.ite (decide (s1 < (a0.length:Int))) (.exi (Bool) (if 0≤s1 then(if s1 < (a0.length:Int)then((m128o0 (a0.getD s1.toNat default) a1).bind fun r4_0=>some r4_0)else none)else none) (fun x4=>(.p (0≤s1) (.p (s1 < (a0.length:Int)) (.p (ObjL Tryz.prog 128 [(.d (.agg [(dI (a0.getD s1.toNat default).Leaf),(eSl 1 dI (a0.getD s1.toNat default).Memory)])),(.ptr 0 0)] [(0,some (.cells (g37 a1)))] 384 (o54o0_0 a1 x4)) (.fin 0))))) (by intro x4 h;obtain⟨h1,h⟩:=if_some h;obtain⟨h2,h⟩:=if_some h;obtain⟨r4_0,h3,h⟩:=Option.bind_eq_some_iff.1 h;cases h;exact⟨h1,h2,ok [(0,0)] [] [(0,0)] [] (po128o0 h3),trivial⟩) (fun x4 _=>(.ite x4 (.ret .ret ⟨[(1,(.fn 128 [(.ptr 0 0)])),(4,(aI s1))],[(0,(.cells (g37 a1)))],[],432⟩ (.inr (.inr (s1))) ⟨rfl,rfl,rfl,(rk [(0,0)] [] 432)⟩) (.ret .normal ⟨[(0,(.d (eSl 2 e37 a0))),(1,(.fn 128 [(.ptr 0 0)])),(7,(aI (a0.length:Int))),(8,(aI (IntKind.wrap .i64 (s1+1))))],[(0,(.cells (g37 a1)))],[],432⟩ (.inl (IntKind.wrap .i64 (s1+1))) ⟨rfl,(wk [(0,0)] [])⟩)))) (.ret (.exit 0) _ (.inr (.inl ())) ⟨rfl,rfl,Weak.refl _⟩))))))) fun _=>(.sg [] [(1,[1,4],[0])] (.ret .ret ⟨[(1,(.fn 128 [(.ptr 0 0)])),(4,(aI (-1)))],[(0,(.cells (g37 a1)))],[],288⟩ (-1:Int) ⟨rfl,(rk [(0,0)] [] 432)⟩)))))
noncomputable def m54o0 (a0:List T37) (a1:T37):Option (Int):=(d54o0 a0 a1).m
theorem po54o0 {a0:List T37} {a1:T37} {r:Int} (h:m54o0 a0 a1=some r):ObjF Tryz.prog 54 [(.d (eSl 2 e37 a0)),(.fn 128 [(.ptr 0 0)])] [(0,(.cells (g37 a1)))] [] (q54o0 a0 a1 r):=obj_jd (d54o0 a0 a1) Tryz.func54 h
noncomputable def o80_0 (a1:T37) (x:Int):OT:=⟨(aI x),[16],[],[(16,(.cells (g37 a1)))],[]⟩
noncomputable def d80 (a0:List T37) (a1:T37):JF Tryz.prog Tryz.f80 [(eSl 2 e37 a0),(e37 a1)] (fun(r:Int)=>(dI r)) :=
 (.sg [(1,⟨Int,fun x=>[],fun x=>[(80,(o80_0 a1 x))],[]⟩)] [(1,[4],[])] (c3 (p:=fun x1=>ObjL Tryz.prog 54 [(.d (eSl 2 e37 a0)),(.fn 128 [(.ptr 16 0)])] [(16,some (.cells (g37 a1)))] 80 (o80_0 a1 x1)) (fun x1 (h1:m54o0 a0 a1=some _)=>ok [(0,16)] [] [(16,0)] [] (po54o0 h1)) fun x1=>(.ret .ret ⟨[(4,(aI x1))],[],[],112⟩ x1 ⟨rfl,_,Weak.refl _,dr⟩)))
noncomputable def m80 (a0:List T37) (a1:T37):Option (Int):=(d80 a0 a1).m
theorem p80 {a0:List T37} {a1:T37} {r:Int} (h:m80 a0 a1=some r):PureAt Tryz.prog 80 [(eSl 2 e37 a0),(e37 a1)] (dI r):=pure_jd (d80 a0 a1) Tryz.func80 h
noncomputable abbrev z44o1_0 (a0:T27) (s2:Int×(List T37)×(List Int)×(List Int)) (y1:(List T37)×(List Int)):Ob:=(.cells (g27 a0++([(.ap 2 s2.2.1.length (cF e37 s2.2.1) (.tok 288 37)),(.ap 1 s2.2.2.1.length (cF dI s2.2.2.1) (.tok 304 3)),(.ap 1 s2.2.2.2.length (cF (D.int .u16) s2.2.2.2) (.tok 320 42)),(.d (eSl 1 (D.int .u16) y1.2))]:List AV)))
noncomputable abbrev z44o1_1 (a0:T27) (s3:Int×(List T37)×(List Int)×(List Int)×Nat×(List UInt8→Option Int)) (y1:(List T37)×(List Int)):Ob:=(.cells (g27 a0++([(.ap 2 s3.2.1.length (cF e37 s3.2.1) (.tok 288 37)),(.ap 1 s3.2.2.1.length (cF dI s3.2.2.1) (.tok 304 3)),(.ap 1 s3.2.2.2.1.length (cF (D.int .u16) s3.2.2.2.1) (.tok 320 42)),(.d (eSl 1 (D.int .u16) y1.2))]:List AV)))
noncomputable abbrev z44o1_2 (a0:T27) (y1:(List T37)×(List Int)):List (Nat×Ob):=[(16,(.cells (g27 a0))),(384,(.cells (g27 a0++([(.ap 2 y1.1.length (cF e37 y1.1) (.tok 288 37)),(.ap 1 ([(-1:Int)]:List Int).length (cF dI ([(-1:Int)]:List Int)) (.tok 304 3)),(.ap 1 ([(0:Int)]:List Int).length (cF (D.int .u16) ([(0:Int)]:List Int)) (.tok 320 42)),(.d (eSl 1 (D.int .u16) y1.2))]:List AV))))]
noncomputable abbrev z44o1_3 (s2:Int×(List T37)×(List Int)×(List Int)) (s3:Int×(List T37)×(List Int)×(List Int)×Nat×(List UInt8→Option Int)) (y1:(List T37)×(List Int)):List (Nat×AV):=[(1,(.ptr 16 0)),(7,(.ptr 384 0)),(8,(aI s2.1)),(9,(.mp 2496)),(47,(.d (eSl 1 (D.int .u16) y1.2))),(48,(aI (y1.2.length:Int))),(49,(aI (IntKind.wrap .i64 (s3.1+1))))]
noncomputable abbrev z44o1_4 (a0:T27) (y1:(List T37)×(List Int)) (y4:(List T37)×(List Int)×(List Int)):List (Nat×Ob):=[(16,(.cells (g27 a0))),(384,(.cells (g27 a0++([(.ap 2 y4.1.length (cF e37 y4.1) (.tok 288 37)),(.ap 1 y4.2.1.length (cF dI y4.2.1) (.tok 304 3)),(.ap 1 y4.2.2.length (cF (D.int .u16) y4.2.2) (.tok 320 42)),(.d (eSl 1 (D.int .u16) y1.2))]:List AV))))]
noncomputable abbrev z44o1_5 (a0:T27) (y1:(List T37)×(List Int)) (y5:(List T37)×(List Int)×(List Int)):List (Nat×Ob):=[(384,(.cells (g27 a0++([(.ap 2 y5.1.length (cF e37 y5.1) (.tok 288 37)),(.ap 1 y5.2.1.length (cF dI y5.2.1) (.tok 304 3)),(.ap 1 y5.2.2.length (cF (D.int .u16) y5.2.2) (.tok 320 42)),(.d (eSl 1 (D.int .u16) y1.2))]:List AV))))]
noncomputable def q44o1 (a0:T27) (y:Int):OF:=⟨(.tup [.nilp,(aI y)]),[],[]⟩
noncomputable def o44o1_0 (x:(Int×(List (List UInt8))×Int×(List Int))):OT:=⟨(.tup [(.d (.agg [(dI x.2.2.1),(eSl 1 dI x.2.2.2)])),(.ap 1 x.2.1.length (cF D.str x.2.1) (.tok 80 9)),(aI x.1)]),[],[],[],[80]⟩
noncomputable def d44o1 (a0:T27):JO Tryz.prog Tryz.f44 [(.d (e27 a0))] [] [] (q44o1 a0) :=
 (.sq 4 [(1,⟨(Int×(List (List UInt8))×Int×(List Int)),fun x=>[],fun x=>[(80,(o44o1_0 x))],[]⟩),(4,tm1 31 (eSl 1 (D.int .u16)))] [(1,[2,3],[]),(0,[1,7],[16,384])] (fun(y1:(List T37)×(List Int))=>⟨[(1,(.ptr 16 0)),(7,(.ptr 384 0))],(z44o1_2 a0 y1),[288,304,320],416⟩) (c3 (p:=fun x1=>ObjL Tryz.prog 28 [(.d (e27 a0))] [] 80 (o44o1_0 x1)) (fun x1 (h1:m28o0 a0=some _)=>ok [] [] [] [(80,352)] (po28o0 h1)) fun x1=>(.ite (x1.1 != 0) (.ret .ret ⟨[(2,.nilp),(3,(aI x1.1))],[],[80],304⟩ (.inr (x1.1)) ⟨rfl,rfl,(rk [] [] 5392)⟩) (c3 (@p99 a0) fun x4=>(.ret .normal ⟨[(1,(.ptr 16 0)),(7,(.ptr 384 0))],[(16,(.cells (g27 a0))),(384,(.cells (g27 a0++([(.ap 2 1 (litF [(.agg [(dI x1.2.2.1),(eSl 1 dI x1.2.2.2)])]) (.tok 288 37)),(.ap 1 1 (litF [(dI (-1))]) (.tok 304 3)),(.ap 1 1 (litF [(.int .u16 0)]) (.tok 320 42)),(.d (eSl 1 (D.int .u16) x4))]:List AV))))],[320,304,288,80],416⟩ (.inl (([(⟨x1.2.2.1,x1.2.2.2⟩:T37)]:List T37),x4)) ⟨rfl,(ws (idn [16,384]) (idn [288,304,320]) ⟨⟨_,_,rfl,rfl,⟨dr,dr,dr,dr,dr,dr,trivial⟩⟩,⟨_,_,rfl,rfl,⟨dr,dr,dr,dr,dr,dr,⟨rfl,rfl,rfl,(de_lit rfl rfl)⟩,⟨rfl,rfl,rfl,(de_lit rfl rfl)⟩,⟨rfl,rfl,rfl,(de_lit rfl rfl)⟩,dr,trivial⟩⟩⟩)⟩)))) (fun y1=>(.sc (fun(y5:(List T37)×(List Int)×(List Int))=>⟨[(7,(.ptr 384 0))],(z44o1_5 a0 y1 y5),[288,304,320],2496⟩) (.sq 1 [] [(0,[1,7,8],[16,384])] (fun(_:Unit)=>⟨[(1,(.ptr 16 0)),(7,(.ptr 384 0)),(8,(aI 0))],(z44o1_2 a0 y1),[288,304,320],432⟩) (.nx ()) (fun _=>(.bk (.lp (fun(s2:Int×(List T37)×(List Int)×(List Int))=>⟨[(1,(.ptr 16 0)),(7,(.ptr 384 0)),(8,(aI s2.1))],[(16,(.cells (g27 a0))),(384,(z44o1_0 a0 s2 y1))],[288,304,320],2384⟩) ((0:Int),y1.1,([(-1:Int)]:List Int),([(0:Int)]:List Int)) (wk (idn [16,384]) (idn [288,304,320])) fun s2=>(.sq 1 [] [(0,[1,7,8],[16,384]),(2,[7],[384])] (fun(_:Unit)=>⟨[(1,(.ptr 16 0)),(7,(.ptr 384 0)),(8,(aI s2.1))],[(16,(.cells (g27 a0))),(384,(z44o1_0 a0 s2 y1))],[288,304,320],2496⟩) (.ite (decide (s2.1 < (s2.2.1.length:Int))) (.nx ()) (.ret (.exit 0) _ (.inr (.inr (.inl (s2.2.1,s2.2.2.1,s2.2.2.2)))) ⟨rfl,rfl,rfl,Weak.refl _⟩)) (fun _=>(.sc (fun(y4:(List T37)×(List Int)×(List Int))=>⟨[(1,(.ptr 16 0)),(7,(.ptr 384 0)),(8,(aI s2.1))],(z44o1_4 a0 y1 y4),[288,304,320],4288⟩) (.bk (.sq 2 [] [(0,[1,7,8,9,47,48,49],[16,384,2496])] (fun(_:Unit)=>⟨[(1,(.ptr 16 0)),(7,(.ptr 384 0)),(8,(aI s2.1)),(9,(.mp 2496)),(47,(.d (eSl 1 (D.int .u16) y1.2))),(48,(aI (y1.2.length:Int))),(49,(aI 0))],[(16,(.cells (g27 a0))),(384,(z44o1_0 a0 s2 y1)),(2496,(.map Tryz.prog 3 4 0 (fun _=>none)))],[288,304,320],2624⟩) (.nx ()) (fun _=>(.bk (.lp (fun(s3:Int×(List T37)×(List Int)×(List Int)×Nat×(List UInt8→Option Int))=>⟨[(1,(.ptr 16 0)),(7,(.ptr 384 0)),(8,(aI s2.1)),(9,(.mp 2496)),(47,(.d (eSl 1 (D.int .u16) y1.2))),(48,(aI (y1.2.length:Int))),(49,(aI s3.1))],[(16,(.cells (g27 a0))),(384,(z44o1_1 a0 s3 y1)),(2496,(.map Tryz.prog 3 4 s3.2.2.2.2.1 s3.2.2.2.2.2))],[288,304,320],4272⟩) ((0:Int),s2.2.1,s2.2.2.1,s2.2.2.2,0,(fun _=>none)) (wk (idn [16,384,2496]) (idn [288,304,320])) fun s3=>(.sg [(12,tm1 63 (eSl 1 dI)),(15,tm1 90 (fun(x:(T37×(List (List UInt8))×Int))=>(.tup [(e37 x.1),(eSl 1 D.str x.2.1),(dI x.2.2)]))),(16,tm1 102 dI)] [(0,[1,7,8,9,47,48,49],[16,384,2496]),(1,[2,3],[]),(4,[1,7,8],[16,384])] (.ite (decide (s3.1 < (y1.2.length:Int))) (nd (0≤s3.1) (nd (s3.1 < (y1.2.length:Int)) (.exi ((List Int)) (if 0≤s2.1 then(if s2.1 < (s3.2.1.length:Int)then((m19 a0 (s3.2.1.getD s2.1.toNat default).Leaf (y1.2.getD s3.1.toNat default)).bind fun r12_0=>some r12_0)else none)else none) (fun x12=>(.p (0≤s2.1) (.p (s2.1 < (s3.2.1.length:Int)) (.p (PureAt Tryz.prog 19 [(e27 a0),(dI (s3.2.1.getD s2.1.toNat default).Leaf),(.int .u16 (y1.2.getD s3.1.toNat default))] (eSl 1 dI x12)) (.fin 0))))) (by intro x12 h;obtain⟨h1,h⟩:=if_some h;obtain⟨h2,h⟩:=if_some h;obtain⟨r12_0,h3,h⟩:=Option.bind_eq_some_iff.1 h;cases h;exact⟨h1,h2,p19 h3,trivial⟩) (fun x12 _=>(.needG (!((x12.length:Int) != (1:Int))) ((0:Int)≤(0:Int)) inferInstance (.needG (!((x12.length:Int) != (1:Int))) (0 < (x12.length:Int)) inferInstance (.needG (!((x12.length:Int) != (1:Int))) (Tryz.prog=Tryz.prog) (.isTrue rfl) (.needG (!((x12.length:Int) != (1:Int))) ((Lit.int .i64 (x12.getD (0:Int).toNat default)).wf=true) inferInstance (.ite (((x12.length:Int) != (1:Int)) || ((s3.2.2.2.2.2 (encK (x12.getD (0:Int).toNat default))).getD 0 != 0)) (.ret .normal ⟨(z44o1_3 s2 s3 y1),[(16,(.cells (g27 a0))),(384,(z44o1_1 a0 s3 y1)),(2496,(.map Tryz.prog 3 4 s3.2.2.2.2.1 s3.2.2.2.2.2))],[288,304,320],4720⟩ (.inl ((IntKind.wrap .i64 (s3.1+1)),s3.2.1,s3.2.2.1,s3.2.2.2.1,s3.2.2.2.2.1,s3.2.2.2.2.2)) ⟨rfl,(wk (idn [16,384,2496]) (idn [288,304,320]))⟩) (nd ((0:Int)≤(0:Int)) (nd (0 < (x12.length:Int)) (.need (Tryz.prog=Tryz.prog) (.isTrue rfl) (nd ((Lit.int .i64 (x12.getD (0:Int).toNat default)).wf=true) (nd (s3.2.2.2.2.1 < maxLen) (.exi ((T37×(List (List UInt8))×Int)) (if 0≤s2.1 then(if s2.1 < (s3.2.1.length:Int)then(if(0:Int)≤(0:Int)then(if 0 < (x12.length:Int)then((m67 a0 (s3.2.1.getD s2.1.toNat default) (x12.getD (0:Int).toNat default)).bind fun r15_0=>some r15_0)else none)else none)else none)else none) (fun x15=>(.p (0≤s2.1) (.p (s2.1 < (s3.2.1.length:Int)) (.p ((0:Int)≤(0:Int)) (.p (0 < (x12.length:Int)) (.p (PureAt Tryz.prog 67 [(e27 a0),(.agg [(dI (s3.2.1.getD s2.1.toNat default).Leaf),(eSl 1 dI (s3.2.1.getD s2.1.toNat default).Memory)]),(dI (x12.getD (0:Int).toNat default))] (.tup [(e37 x15.1),(eSl 1 D.str x15.2.1),(dI x15.2.2)])) (.fin 0))))))) (by intro x15 h;obtain⟨h1,h⟩:=if_some h;obtain⟨h2,h⟩:=if_some h;obtain⟨h3,h⟩:=if_some h;obtain⟨h4,h⟩:=if_some h;obtain⟨r15_0,h5,h⟩:=Option.bind_eq_some_iff.1 h;cases h;exact⟨h1,h2,h3,h4,p67 h5,trivial⟩) (fun x15 _=>(.exi (Int) ((if(!(x15.2.2 != 0))=true then m80 s3.2.1 x15.1 else some default).bind fun r16_0=>some r16_0) (fun x16=>(.g (!(x15.2.2 != 0)) (PureAt Tryz.prog 80 [(eSl 2 e37 s3.2.1),(e37 x15.1)] (dI x16)) (.fin 0))) (by intro x16 h;obtain⟨r16_0,h1,h⟩:=Option.bind_eq_some_iff.1 h;cases h;exact⟨fun g=>p80 (by rw[if_pos g]at h1;exact h1),trivial⟩) (fun x16 _=>(.ite ((x15.2.2 != 0) || (decide (0≤x16))) (.ret .normal ⟨(z44o1_3 s2 s3 y1),[(16,(.cells (g27 a0))),(384,(z44o1_1 a0 s3 y1)),(2496,(.map Tryz.prog 3 4 (s3.2.2.2.2.1+1) (fun q=>if q=(encK (x12.getD (0:Int).toNat default))then some (if true=true then(1:Int)else 0)else s3.2.2.2.2.2 q)))],[288,304,320],5296⟩ (.inl ((IntKind.wrap .i64 (s3.1+1)),s3.2.1,s3.2.2.1,s3.2.2.2.1,(s3.2.2.2.2.1+1),(fun q=>if q=(encK (x12.getD (0:Int).toNat default))then some (if true=true then(1:Int)else 0)else s3.2.2.2.2.2 q))) ⟨rfl,(wk (idn [16,384,2496]) (idn [288,304,320]))⟩) (.ite ((s3.2.1.length:Int)==(400:Int)) (.ret .ret ⟨[(2,.nilp),(3,(aI 3))],[],[288,304,320],5392⟩ (.inr (.inr (.inr (.inr ((3:Int)))))) ⟨rfl,rfl,rfl,rfl,rfl,(rk [] [] 5392)⟩) (nd ((s3.2.1.length+1) * 32≤140737488355328) (nd ((s3.2.2.1.length+1) * 8≤140737488355328) (nd ((s3.2.2.2.1.length+1) * 2≤140737488355328) (.ret .normal ⟨(z44o1_3 s2 s3 y1),[(16,(.cells (g27 a0))),(384,(.cells (g27 a0++([(.ap 2 (s3.2.1.length+1) (appF s3.2.1.length (cF e37 s3.2.1) (litF [(e37 x15.1)])) (.tok 5504 37)),(.ap 1 (s3.2.2.1.length+1) (appF s3.2.2.1.length (cF dI s3.2.2.1) (litF [(dI s2.1)])) (.tok 5616 3)),(.ap 1 (s3.2.2.2.1.length+1) (appF s3.2.2.2.1.length (cF (D.int .u16) s3.2.2.2.1) (litF [(.int .u16 (y1.2.getD s3.1.toNat default))])) (.tok 5728 42)),(.d (eSl 1 (D.int .u16) y1.2))]:List AV)))),(2496,(.map Tryz.prog 3 4 (s3.2.2.2.2.1+1) (fun q=>if q=(encK (x12.getD (0:Int).toNat default))then some (if true=true then(1:Int)else 0)else s3.2.2.2.2.2 q)))],[5728,5712,5616,5600,5504,5488],5920⟩ (.inl ((IntKind.wrap .i64 (s3.1+1)),(s3.2.1++([x15.1]:List T37)),(s3.2.2.1++([s2.1]:List Int)),(s3.2.2.2.1++([(y1.2.getD s3.1.toNat default)]:List Int)),(s3.2.2.2.2.1+1),(fun q=>if q=(encK (x12.getD (0:Int).toNat default))then some (if true=true then(1:Int)else 0)else s3.2.2.2.2.2 q))) ⟨rfl,(ws (idn [16,384,2496]) [(288,5504),(304,5616),(320,5728)] ⟨⟨_,_,rfl,rfl,⟨dr,dr,dr,dr,dr,dr,trivial⟩⟩,⟨_,_,rfl,rfl,⟨dr,dr,dr,dr,dr,dr,⟨rfl,rfl,rfl,(de_app dr (de_lit rfl rfl))⟩,⟨rfl,rfl,rfl,(de_app dr (de_lit rfl rfl))⟩,⟨rfl,rfl,rfl,(de_app dr (de_lit rfl rfl))⟩,dr,trivial⟩⟩,⟨_,_,rfl,rfl,⟨rfl,rfl,rfl,rfl,rfl⟩⟩⟩)⟩)))))))))))))))))))))))) (.ret (.exit 2) _ (.inr (.inl (s3.2.1,s3.2.2.1,s3.2.2.2.1))) ⟨rfl,rfl,Weak.refl _⟩)))))))) fun y4=>(.sg [] [(0,[1,7,8],[16,384])] (.ret .normal ⟨[(1,(.ptr 16 0)),(7,(.ptr 384 0)),(8,(aI (IntKind.wrap .i64 (s2.1+1))))],(z44o1_4 a0 y1 y4),[288,304,320],4336⟩ (.inl ((IntKind.wrap .i64 (s2.1+1)),y4.1,y4.2.1,y4.2.2)) ⟨rfl,(wk (idn [16,384]) (idn [288,304,320]))⟩))))))))) fun y5=>(.sg [] [(1,[2,3],[384])] (.lost .ret ⟨[(2,(.ptr 384 0)),(3,(aI 0))],(z44o1_5 a0 y1 y5),[288,304,320],2544⟩)))))
noncomputable def m44o1 (a0:T27):Option (Int):=(d44o1 a0).m
theorem po44o1 {a0:T27} {r:Int} (h:m44o1 a0=some r):ObjF Tryz.prog 44 [(.d (e27 a0))] [] [] (q44o1 a0 r):=obj_jd (d44o1 a0) Tryz.func44 h
noncomputable abbrev z44o2_0 (a0:T27) (s2:Int×(List T37)×(List Int)×(List Int)) (y1:(List T37)×(List Int)):Ob:=(.cells (g27 a0++([(.ap 2 s2.2.1.length (cF e37 s2.2.1) (.tok 288 37)),(.ap 1 s2.2.2.1.length (cF dI s2.2.2.1) (.tok 304 3)),(.ap 1 s2.2.2.2.length (cF (D.int .u16) s2.2.2.2) (.tok 320 42)),(.d (eSl 1 (D.int .u16) y1.2))]:List AV)))
noncomputable abbrev z44o2_1 (a0:T27) (s3:Int×(List T37)×(List Int)×(List Int)×Nat×(List UInt8→Option Int)) (y1:(List T37)×(List Int)):Ob:=(.cells (g27 a0++([(.ap 2 s3.2.1.length (cF e37 s3.2.1) (.tok 288 37)),(.ap 1 s3.2.2.1.length (cF dI s3.2.2.1) (.tok 304 3)),(.ap 1 s3.2.2.2.1.length (cF (D.int .u16) s3.2.2.2.1) (.tok 320 42)),(.d (eSl 1 (D.int .u16) y1.2))]:List AV)))
noncomputable abbrev z44o2_2 (a0:T27) (y1:(List T37)×(List Int)):List (Nat×Ob):=[(16,(.cells (g27 a0))),(384,(.cells (g27 a0++([(.ap 2 y1.1.length (cF e37 y1.1) (.tok 288 37)),(.ap 1 ([(-1:Int)]:List Int).length (cF dI ([(-1:Int)]:List Int)) (.tok 304 3)),(.ap 1 ([(0:Int)]:List Int).length (cF (D.int .u16) ([(0:Int)]:List Int)) (.tok 320 42)),(.d (eSl 1 (D.int .u16) y1.2))]:List AV))))]
noncomputable abbrev z44o2_3 (s2:Int×(List T37)×(List Int)×(List Int)) (s3:Int×(List T37)×(List Int)×(List Int)×Nat×(List UInt8→Option Int)) (y1:(List T37)×(List Int)):List (Nat×AV):=[(1,(.ptr 16 0)),(7,(.ptr 384 0)),(8,(aI s2.1)),(9,(.mp 2496)),(47,(.d (eSl 1 (D.int .u16) y1.2))),(48,(aI (y1.2.length:Int))),(49,(aI (IntKind.wrap .i64 (s3.1+1))))]
noncomputable abbrev z44o2_4 (a0:T27) (y1:(List T37)×(List Int)) (y4:(List T37)×(List Int)×(List Int)):List (Nat×Ob):=[(16,(.cells (g27 a0))),(384,(.cells (g27 a0++([(.ap 2 y4.1.length (cF e37 y4.1) (.tok 288 37)),(.ap 1 y4.2.1.length (cF dI y4.2.1) (.tok 304 3)),(.ap 1 y4.2.2.length (cF (D.int .u16) y4.2.2) (.tok 320 42)),(.d (eSl 1 (D.int .u16) y1.2))]:List AV))))]
noncomputable abbrev z44o2_5 (a0:T27) (y1:(List T37)×(List Int)) (y5:(List T37)×(List Int)×(List Int)):List (Nat×Ob):=[(384,(.cells (g27 a0++([(.ap 2 y5.1.length (cF e37 y5.1) (.tok 288 37)),(.ap 1 y5.2.1.length (cF dI y5.2.1) (.tok 304 3)),(.ap 1 y5.2.2.length (cF (D.int .u16) y5.2.2) (.tok 320 42)),(.d (eSl 1 (D.int .u16) y1.2))]:List AV))))]
noncomputable def q44o2 (a0:T27) (y:(List T37)×(List Int)×(List Int)×(List Int)):OF:=⟨(.tup [(.ptr 384 0),(aI 0)]),[(384,(.cells (g27 a0++([(.ap 2 y.1.length (cF e37 y.1) (.tok 288 37)),(.ap 1 y.2.1.length (cF dI y.2.1) (.tok 304 3)),(.ap 1 y.2.2.1.length (cF (D.int .u16) y.2.2.1) (.tok 320 42)),(.d (eSl 1 (D.int .u16) y.2.2.2))]:List AV))))],[288,304,320]⟩
noncomputable def o44o2_0 (x:(Int×(List (List UInt8))×Int×(List Int))):OT:=⟨(.tup [(.d (.agg [(dI x.2.2.1),(eSl 1 dI x.2.2.2)])),(.ap 1 x.2.1.length (cF D.str x.2.1) (.tok 80 9)),(aI x.1)]),[],[],[],[80]⟩
noncomputable def d44o2 (a0:T27):JO Tryz.prog Tryz.f44 [(.d (e27 a0))] [] [] (q44o2 a0) :=
 (.sq 4 [(1,⟨(Int×(List (List UInt8))×Int×(List Int)),fun x=>[],fun x=>[(80,(o44o2_0 x))],[]⟩),(4,tm1 31 (eSl 1 (D.int .u16)))] [(1,[2,3],[]),(0,[1,7],[16,384])] (fun(y1:(List T37)×(List Int))=>⟨[(1,(.ptr 16 0)),(7,(.ptr 384 0))],(z44o2_2 a0 y1),[288,304,320],416⟩) (c3 (p:=fun x1=>ObjL Tryz.prog 28 [(.d (e27 a0))] [] 80 (o44o2_0 x1)) (fun x1 (h1:m28o0 a0=some _)=>ok [] [] [] [(80,352)] (po28o0 h1)) fun x1=>(.ite (x1.1 != 0) (.lost .ret ⟨[(2,.nilp),(3,(aI x1.1))],[],[80],304⟩) (c3 (@p99 a0) fun x4=>(.ret .normal ⟨[(1,(.ptr 16 0)),(7,(.ptr 384 0))],[(16,(.cells (g27 a0))),(384,(.cells (g27 a0++([(.ap 2 1 (litF [(.agg [(dI x1.2.2.1),(eSl 1 dI x1.2.2.2)])]) (.tok 288 37)),(.ap 1 1 (litF [(dI (-1))]) (.tok 304 3)),(.ap 1 1 (litF [(.int .u16 0)]) (.tok 320 42)),(.d (eSl 1 (D.int .u16) x4))]:List AV))))],[320,304,288,80],416⟩ (.inl (([(⟨x1.2.2.1,x1.2.2.2⟩:T37)]:List T37),x4)) ⟨rfl,(ws (idn [16,384]) (idn [288,304,320]) ⟨⟨_,_,rfl,rfl,⟨dr,dr,dr,dr,dr,dr,trivial⟩⟩,⟨_,_,rfl,rfl,⟨dr,dr,dr,dr,dr,dr,⟨rfl,rfl,rfl,(de_lit rfl rfl)⟩,⟨rfl,rfl,rfl,(de_lit rfl rfl)⟩,⟨rfl,rfl,rfl,(de_lit rfl rfl)⟩,dr,trivial⟩⟩⟩)⟩)))) (fun y1=>(.sc (fun(y5:(List T37)×(List Int)×(List Int))=>⟨[(7,(.ptr 384 0))],(z44o2_5 a0 y1 y5),[288,304,320],2496⟩) (.sq 1 [] [(0,[1,7,8],[16,384])] (fun(_:Unit)=>⟨[(1,(.ptr 16 0)),(7,(.ptr 384 0)),(8,(aI 0))],(z44o2_2 a0 y1),[288,304,320],432⟩) (.nx ()) (fun _=>(.bk (.lp (fun(s2:Int×(List T37)×(List Int)×(List Int))=>⟨[(1,(.ptr 16 0)),(7,(.ptr 384 0)),(8,(aI s2.1))],[(16,(.cells (g27 a0))),(384,(z44o2_0 a0 s2 y1))],[288,304,320],2384⟩) ((0:Int),y1.1,([(-1:Int)]:List Int),([(0:Int)]:List Int)) (wk (idn [16,384]) (idn [288,304,320])) fun s2=>(.sq 1 [] [(0,[1,7,8],[16,384]),(2,[7],[384])] (fun(_:Unit)=>⟨[(1,(.ptr 16 0)),(7,(.ptr 384 0)),(8,(aI s2.1))],[(16,(.cells (g27 a0))),(384,(z44o2_0 a0 s2 y1))],[288,304,320],2496⟩) (.ite (decide (s2.1 < (s2.2.1.length:Int))) (.nx ()) (.ret (.exit 0) _ (.inr (.inr (.inl (s2.2.1,s2.2.2.1,s2.2.2.2)))) ⟨rfl,rfl,rfl,Weak.refl _⟩)) (fun _=>(.sc (fun(y4:(List T37)×(List Int)×(List Int))=>⟨[(1,(.ptr 16 0)),(7,(.ptr 384 0)),(8,(aI s2.1))],(z44o2_4 a0 y1 y4),[288,304,320],4288⟩) (.bk (.sq 2 [] [(0,[1,7,8,9,47,48,49],[16,384,2496])] (fun(_:Unit)=>⟨[(1,(.ptr 16 0)),(7,(.ptr 384 0)),(8,(aI s2.1)),(9,(.mp 2496)),(47,(.d (eSl 1 (D.int .u16) y1.2))),(48,(aI (y1.2.length:Int))),(49,(aI 0))],[(16,(.cells (g27 a0))),(384,(z44o2_0 a0 s2 y1)),(2496,(.map Tryz.prog 3 4 0 (fun _=>none)))],[288,304,320],2624⟩) (.nx ()) (fun _=>(.bk (.lp (fun(s3:Int×(List T37)×(List Int)×(List Int)×Nat×(List UInt8→Option Int))=>⟨[(1,(.ptr 16 0)),(7,(.ptr 384 0)),(8,(aI s2.1)),(9,(.mp 2496)),(47,(.d (eSl 1 (D.int .u16) y1.2))),(48,(aI (y1.2.length:Int))),(49,(aI s3.1))],[(16,(.cells (g27 a0))),(384,(z44o2_1 a0 s3 y1)),(2496,(.map Tryz.prog 3 4 s3.2.2.2.2.1 s3.2.2.2.2.2))],[288,304,320],4272⟩) ((0:Int),s2.2.1,s2.2.2.1,s2.2.2.2,0,(fun _=>none)) (wk (idn [16,384,2496]) (idn [288,304,320])) fun s3=>(.sg [(12,tm1 63 (eSl 1 dI)),(15,tm1 90 (fun(x:(T37×(List (List UInt8))×Int))=>(.tup [(e37 x.1),(eSl 1 D.str x.2.1),(dI x.2.2)]))),(16,tm1 102 dI)] [(0,[1,7,8,9,47,48,49],[16,384,2496]),(1,[2,3],[]),(4,[1,7,8],[16,384])] (.ite (decide (s3.1 < (y1.2.length:Int))) (nd (0≤s3.1) (nd (s3.1 < (y1.2.length:Int)) (.exi ((List Int)) (if 0≤s2.1 then(if s2.1 < (s3.2.1.length:Int)then((m19 a0 (s3.2.1.getD s2.1.toNat default).Leaf (y1.2.getD s3.1.toNat default)).bind fun r12_0=>some r12_0)else none)else none) (fun x12=>(.p (0≤s2.1) (.p (s2.1 < (s3.2.1.length:Int)) (.p (PureAt Tryz.prog 19 [(e27 a0),(dI (s3.2.1.getD s2.1.toNat default).Leaf),(.int .u16 (y1.2.getD s3.1.toNat default))] (eSl 1 dI x12)) (.fin 0))))) (by intro x12 h;obtain⟨h1,h⟩:=if_some h;obtain⟨h2,h⟩:=if_some h;obtain⟨r12_0,h3,h⟩:=Option.bind_eq_some_iff.1 h;cases h;exact⟨h1,h2,p19 h3,trivial⟩) (fun x12 _=>(.needG (!((x12.length:Int) != (1:Int))) ((0:Int)≤(0:Int)) inferInstance (.needG (!((x12.length:Int) != (1:Int))) (0 < (x12.length:Int)) inferInstance (.needG (!((x12.length:Int) != (1:Int))) (Tryz.prog=Tryz.prog) (.isTrue rfl) (.needG (!((x12.length:Int) != (1:Int))) ((Lit.int .i64 (x12.getD (0:Int).toNat default)).wf=true) inferInstance (.ite (((x12.length:Int) != (1:Int)) || ((s3.2.2.2.2.2 (encK (x12.getD (0:Int).toNat default))).getD 0 != 0)) (.ret .normal ⟨(z44o2_3 s2 s3 y1),[(16,(.cells (g27 a0))),(384,(z44o2_1 a0 s3 y1)),(2496,(.map Tryz.prog 3 4 s3.2.2.2.2.1 s3.2.2.2.2.2))],[288,304,320],4720⟩ (.inl ((IntKind.wrap .i64 (s3.1+1)),s3.2.1,s3.2.2.1,s3.2.2.2.1,s3.2.2.2.2.1,s3.2.2.2.2.2)) ⟨rfl,(wk (idn [16,384,2496]) (idn [288,304,320]))⟩) (nd ((0:Int)≤(0:Int)) (nd (0 < (x12.length:Int)) (.need (Tryz.prog=Tryz.prog) (.isTrue rfl) (nd ((Lit.int .i64 (x12.getD (0:Int).toNat default)).wf=true) (nd (s3.2.2.2.2.1 < maxLen) (.exi ((T37×(List (List UInt8))×Int)) (if 0≤s2.1 then(if s2.1 < (s3.2.1.length:Int)then(if(0:Int)≤(0:Int)then(if 0 < (x12.length:Int)then((m67 a0 (s3.2.1.getD s2.1.toNat default) (x12.getD (0:Int).toNat default)).bind fun r15_0=>some r15_0)else none)else none)else none)else none) (fun x15=>(.p (0≤s2.1) (.p (s2.1 < (s3.2.1.length:Int)) (.p ((0:Int)≤(0:Int)) (.p (0 < (x12.length:Int)) (.p (PureAt Tryz.prog 67 [(e27 a0),(.agg [(dI (s3.2.1.getD s2.1.toNat default).Leaf),(eSl 1 dI (s3.2.1.getD s2.1.toNat default).Memory)]),(dI (x12.getD (0:Int).toNat default))] (.tup [(e37 x15.1),(eSl 1 D.str x15.2.1),(dI x15.2.2)])) (.fin 0))))))) (by intro x15 h;obtain⟨h1,h⟩:=if_some h;obtain⟨h2,h⟩:=if_some h;obtain⟨h3,h⟩:=if_some h;obtain⟨h4,h⟩:=if_some h;obtain⟨r15_0,h5,h⟩:=Option.bind_eq_some_iff.1 h;cases h;exact⟨h1,h2,h3,h4,p67 h5,trivial⟩) (fun x15 _=>(.exi (Int) ((if(!(x15.2.2 != 0))=true then m80 s3.2.1 x15.1 else some default).bind fun r16_0=>some r16_0) (fun x16=>(.g (!(x15.2.2 != 0)) (PureAt Tryz.prog 80 [(eSl 2 e37 s3.2.1),(e37 x15.1)] (dI x16)) (.fin 0))) (by intro x16 h;obtain⟨r16_0,h1,h⟩:=Option.bind_eq_some_iff.1 h;cases h;exact⟨fun g=>p80 (by rw[if_pos g]at h1;exact h1),trivial⟩) (fun x16 _=>(.ite ((x15.2.2 != 0) || (decide (0≤x16))) (.ret .normal ⟨(z44o2_3 s2 s3 y1),[(16,(.cells (g27 a0))),(384,(z44o2_1 a0 s3 y1)),(2496,(.map Tryz.prog 3 4 (s3.2.2.2.2.1+1) (fun q=>if q=(encK (x12.getD (0:Int).toNat default))then some (if true=true then(1:Int)else 0)else s3.2.2.2.2.2 q)))],[288,304,320],5296⟩ (.inl ((IntKind.wrap .i64 (s3.1+1)),s3.2.1,s3.2.2.1,s3.2.2.2.1,(s3.2.2.2.2.1+1),(fun q=>if q=(encK (x12.getD (0:Int).toNat default))then some (if true=true then(1:Int)else 0)else s3.2.2.2.2.2 q))) ⟨rfl,(wk (idn [16,384,2496]) (idn [288,304,320]))⟩) (.ite ((s3.2.1.length:Int)==(400:Int)) (.lost .ret ⟨[(2,.nilp),(3,(aI 3))],[],[288,304,320],5392⟩) (nd ((s3.2.1.length+1) * 32≤140737488355328) (nd ((s3.2.2.1.length+1) * 8≤140737488355328) (nd ((s3.2.2.2.1.length+1) * 2≤140737488355328) (.ret .normal ⟨(z44o2_3 s2 s3 y1),[(16,(.cells (g27 a0))),(384,(.cells (g27 a0++([(.ap 2 (s3.2.1.length+1) (appF s3.2.1.length (cF e37 s3.2.1) (litF [(e37 x15.1)])) (.tok 5504 37)),(.ap 1 (s3.2.2.1.length+1) (appF s3.2.2.1.length (cF dI s3.2.2.1) (litF [(dI s2.1)])) (.tok 5616 3)),(.ap 1 (s3.2.2.2.1.length+1) (appF s3.2.2.2.1.length (cF (D.int .u16) s3.2.2.2.1) (litF [(.int .u16 (y1.2.getD s3.1.toNat default))])) (.tok 5728 42)),(.d (eSl 1 (D.int .u16) y1.2))]:List AV)))),(2496,(.map Tryz.prog 3 4 (s3.2.2.2.2.1+1) (fun q=>if q=(encK (x12.getD (0:Int).toNat default))then some (if true=true then(1:Int)else 0)else s3.2.2.2.2.2 q)))],[5728,5712,5616,5600,5504,5488],5920⟩ (.inl ((IntKind.wrap .i64 (s3.1+1)),(s3.2.1++([x15.1]:List T37)),(s3.2.2.1++([s2.1]:List Int)),(s3.2.2.2.1++([(y1.2.getD s3.1.toNat default)]:List Int)),(s3.2.2.2.2.1+1),(fun q=>if q=(encK (x12.getD (0:Int).toNat default))then some (if true=true then(1:Int)else 0)else s3.2.2.2.2.2 q))) ⟨rfl,(ws (idn [16,384,2496]) [(288,5504),(304,5616),(320,5728)] ⟨⟨_,_,rfl,rfl,⟨dr,dr,dr,dr,dr,dr,trivial⟩⟩,⟨_,_,rfl,rfl,⟨dr,dr,dr,dr,dr,dr,⟨rfl,rfl,rfl,(de_app dr (de_lit rfl rfl))⟩,⟨rfl,rfl,rfl,(de_app dr (de_lit rfl rfl))⟩,⟨rfl,rfl,rfl,(de_app dr (de_lit rfl rfl))⟩,dr,trivial⟩⟩,⟨_,_,rfl,rfl,⟨rfl,rfl,rfl,rfl,rfl⟩⟩⟩)⟩)))))))))))))))))))))))) (.ret (.exit 2) _ (.inr (.inl (s3.2.1,s3.2.2.1,s3.2.2.2.1))) ⟨rfl,rfl,Weak.refl _⟩)))))))) fun y4=>(.sg [] [(0,[1,7,8],[16,384])] (.ret .normal ⟨[(1,(.ptr 16 0)),(7,(.ptr 384 0)),(8,(aI (IntKind.wrap .i64 (s2.1+1))))],(z44o2_4 a0 y1 y4),[288,304,320],4336⟩ (.inl ((IntKind.wrap .i64 (s2.1+1)),y4.1,y4.2.1,y4.2.2)) ⟨rfl,(wk (idn [16,384]) (idn [288,304,320]))⟩))))))))) fun y5=>(.sg [] [(1,[2,3],[384])] (.ret .ret ⟨[(2,(.ptr 384 0)),(3,(aI 0))],(z44o2_5 a0 y1 y5),[288,304,320],2544⟩ (y5.1,y5.2.1,y5.2.2,y1.2) ⟨rfl,(rk [(384,384)] (idn [288,304,320]) 2544)⟩)))))
noncomputable def m44o2 (a0:T27):Option ((List T37)×(List Int)×(List Int)×(List Int)):=(d44o2 a0).m
theorem po44o2 {a0:T27} {r:(List T37)×(List Int)×(List Int)×(List Int)} (h:m44o2 a0=some r):ObjF Tryz.prog 44 [(.d (e27 a0))] [] [] (q44o2 a0 r):=obj_jd (d44o2 a0) Tryz.func44 h
noncomputable def o15_0 (a0:T27) (x:((List T37)×(List Int)×(List Int)×(List Int))):OT:=⟨(.tup [(.ptr 80 0),(aI 0)]),[],[],[(80,(.cells (g27 a0++([(.ap 2 x.1.length (cF e37 x.1) (.tok 80 37)),(.ap 1 x.2.1.length (cF dI x.2.1) (.tok 81 3)),(.ap 1 x.2.2.1.length (cF (D.int .u16) x.2.2.1) (.tok 82 42)),(.d (eSl 1 (D.int .u16) x.2.2.2))]:List AV))))],[80,81,82]⟩
noncomputable def d15 (a0:T27):JF Tryz.prog Tryz.f15 [(e27 a0)] (fun(r:(List T37)×Int)=>(.tup [(eSl 2 e37 r.1),(dI r.2)])) :=
 (.or (.sg [(1,⟨Int,fun x=>[],fun x=>[(80,⟨(.tup [.nilp,(aI x)]),[],[],[],[]⟩)],[]⟩)] [(1,[2,3],[])] (c3 (p:=fun x1=>ObjL Tryz.prog 44 [(.d (e27 a0))] [] 80 ⟨(.tup [.nilp,(aI x1)]),[],[],[],[]⟩) (fun x1 (h1:m44o1 a0=some _)=>ok [] [] [] [] (po44o1 h1)) fun x1=>(.ite (x1 != 0) (.ret .ret ⟨[(2,aN),(3,(aI x1))],[],[],256⟩ ([],x1) ⟨rfl,_,Weak.refl _,⟨de_nil,dr,trivial⟩⟩) .bad))) (.sg [(1,⟨((List T37)×(List Int)×(List Int)×(List Int)),fun x=>[],fun x=>[(80,(o15_0 a0 x))],[]⟩)] [(1,[2,3],[])] (c3 (p:=fun x1=>ObjL Tryz.prog 44 [(.d (e27 a0))] [] 80 (o15_0 a0 x1)) (fun x1 (h1:m44o2 a0=some _)=>ok [] [] [(80,384)] [(80,288),(81,304),(82,320)] (po44o2 h1)) fun x1=>(.ite ((0:Int) != (0:Int)) (.ret .ret ⟨[(2,aN),(3,(aI 0))],[],[80,81,82],256⟩ ([],(0:Int)) ⟨rfl,_,Weak.refl _,⟨de_nil,dr,trivial⟩⟩) (.ret .ret ⟨[(2,(.ap 2 x1.1.length (cF e37 x1.1) (.tok 80 37))),(3,(aI 0))],[],[80,81,82],304⟩ (x1.1,(0:Int)) ⟨rfl,_,Weak.refl _,⟨dr,dr,trivial⟩⟩)))))
noncomputable def m15 (a0:T27):Option ((List T37)×Int):=(d15 a0).m
theorem p15 {a0:T27} {r:(List T37)×Int} (h:m15 a0=some r):PureAt Tryz.prog 15 [(e27 a0)] (.tup [(eSl 2 e37 r.1),(dI r.2)]):=pure_jd (d15 a0) Tryz.func15 h
noncomputable def d53 (a0:T27):JF Tryz.prog Tryz.f53 [(e27 a0)] (fun(r:(List Int))=>(eSl 1 dI r)) :=
 (.sq 2 [] [(0,[1,3],[16])] (fun(_:Unit)=>⟨[(1,(.ptr 16 0)),(3,aN)],[(16,(.cells (g27 a0)))],[],64⟩) (.nx ()) (fun _=>(.sc (fun(y2:(List Int))=>⟨[(3,(.ap 1 y2.length (cF dI y2) (.tok 288 3)))],[],[288],368⟩) (.sq 1 [] [(0,[1,3,7,8],[16])] (fun(_:Unit)=>⟨[(1,(.ptr 16 0)),(3,aN),(7,(aI (a0.States.length:Int))),(8,(aI 0))],[(16,(.cells (g27 a0)))],[],128⟩) (.nx ()) (fun _=>(.bk (.lp (fun(s1:(List Int)×Int)=>⟨[(1,(.ptr 16 0)),(3,(.ap 1 s1.1.length (cF dI s1.1) (.tok 288 3))),(7,(aI (a0.States.length:Int))),(8,(aI s1.2))],[(16,(.cells (g27 a0)))],[288],352⟩) ([],(0:Int)) (wk [(16,16)] []) fun s1=>(.sg [(5,tm1 13 D.bool)] [(0,[1,3,7,8],[16]),(2,[3],[])] (.ite (decide (s1.2 < (a0.States.length:Int))) (c3 (@p103 a0 s1.2) fun x5=>(.ite (!x5) (nd ((s1.1.length+1) * 8≤140737488355328) (.ret .normal ⟨[(1,(.ptr 16 0)),(3,(.ap 1 (s1.1.length+1) (appF s1.1.length (cF dI s1.1) (litF [(dI s1.2)])) (.tok 512 3))),(7,(aI (a0.States.length:Int))),(8,(aI (IntKind.wrap .i64 (s1.2+1))))],[(16,(.cells (g27 a0)))],[512,496],576⟩ (.inl ((s1.1++([s1.2]:List Int)),(IntKind.wrap .i64 (s1.2+1)))) ⟨rfl,(wh [(16,16)] [(288,512)] ⟨⟨rfl,rfl⟩,⟨rfl,rfl,rfl,(de_app dr (de_lit rfl rfl))⟩,dr,dr⟩)⟩)) (.ret .normal ⟨[(1,(.ptr 16 0)),(3,(.ap 1 s1.1.length (cF dI s1.1) (.tok 288 3))),(7,(aI (a0.States.length:Int))),(8,(aI (IntKind.wrap .i64 (s1.2+1))))],[(16,(.cells (g27 a0)))],[288],496⟩ (.inl (s1.1,(IntKind.wrap .i64 (s1.2+1)))) ⟨rfl,(wk [(16,16)] [(288,288)])⟩))) (.ret (.exit 0) _ (.inr (.inl s1.1)) ⟨rfl,rfl,Weak.refl _⟩))))))) fun y2=>(.sg [] [(1,[2],[])] (.ret .ret ⟨[(2,(.ap 1 y2.length (cF dI y2) (.tok 288 3)))],[],[288],400⟩ y2 ⟨rfl,_,Weak.refl _,dr⟩)))))
noncomputable def m53 (a0:T27):Option ((List Int)):=(d53 a0).m
theorem p53 {a0:T27} {r:(List Int)} (h:m53 a0=some r):PureAt Tryz.prog 53 [(e27 a0)] (eSl 1 dI r):=pure_jd (d53 a0) Tryz.func53 h
noncomputable def q55o0 (a0:T37) (a1:Int) (y:Unit):OF:=⟨(aB (a0.Leaf==a1)),[(0,(.cells [(aI a1)]))],[]⟩
noncomputable def d55o0 (a0:T37) (a1:Int):JO Tryz.prog Tryz.f55 [(.d (e37 a0)),(.ptr 0 0)] [(0,(.cells [(aI a1)]))] [] (q55o0 a0 a1) :=
 (.sg [] [(1,[1,3],[0])] (.ret .ret ⟨[(1,(.ptr 0 0)),(3,(aB (a0.Leaf==a1)))],[(0,(.cells [(aI a1)]))],[],128⟩ () ⟨rfl,(rk [(0,0)] [] 128)⟩))
noncomputable def m55o0 (a0:T37) (a1:Int):Option (Unit):=(d55o0 a0 a1).m
theorem po55o0 {a0:T37} {a1:Int} {r:Unit} (h:m55o0 a0 a1=some r):ObjF Tryz.prog 55 [(.d (e37 a0)),(.ptr 0 0)] [(0,(.cells [(aI a1)]))] [] (q55o0 a0 a1 r):=obj_jd (d55o0 a0 a1) Tryz.func55 h
noncomputable def q54o1 (a0:List T37) (a1:Int) (y:Int):OF:=⟨(aI y),[(0,(.cells [(aI a1)]))],[]⟩
noncomputable def o54o1_0 (a0:List T37) (a1 s1:Int) (x:Unit):OT:=⟨(aB ((a0.getD s1.toNat default).Leaf==a1)),[0],[],[(0,(.cells [(aI a1)]))],[]⟩
noncomputable def d54o1 (a0:List T37) (a1:Int):JO Tryz.prog Tryz.f54 [(.d (eSl 2 e37 a0)),(.fn 55 [(.ptr 0 0)])] [(0,(.cells [(aI a1)]))] [] (q54o1 a0 a1) :=
 (.sq 1 [] [(0,[0,1],[0])] (fun(_:Unit)=>⟨[(0,(.d (eSl 2 e37 a0))),(1,(.fn 55 [(.ptr 0 0)]))],[(0,(.cells [(aI a1)]))],[],32⟩) (.nx ()) (fun _=>(.sc (fun(_:Unit)=>⟨[(1,(.fn 55 [(.ptr 0 0)]))],[(0,(.cells [(aI a1)]))],[],272⟩) (.sq 1 [] [(0,[0,1,7,8],[0])] (fun(_:Unit)=>⟨[(0,(.d (eSl 2 e37 a0))),(1,(.fn 55 [(.ptr 0 0)])),(7,(aI (a0.length:Int))),(8,(aI 0))],[(0,(.cells [(aI a1)]))],[],80⟩) (.nx ()) (fun _=>(.bk (.lp (fun(s1:Int)=>⟨[(0,(.d (eSl 2 e37 a0))),(1,(.fn 55 [(.ptr 0 0)])),(7,(aI (a0.length:Int))),(8,(aI s1))],[(0,(.cells [(aI a1)]))],[],256⟩) (0:Int) (wk [(0,0)] []) fun s1=>(.sg [(4,⟨Unit,fun x=>[],fun x=>[(384,(o54o1_0 a0 a1 s1 x))],[]⟩)] [(1,[1,4],[0]),(0,[0,1,7,8],[0]),(2,[1],[0])] (.ite (decide (s1 < (a0.length:Int))) (.exi (Unit) (if 0≤s1 then(if s1 < (a0.length:Int)then((m55o0 (a0.getD s1.toNat default) a1).bind fun r4_0=>some r4_0)else none)else none) (fun x4=>(.p (0≤s1) (.p (s1 < (a0.length:Int)) (.p (ObjL Tryz.prog 55 [(.d (.agg [(dI (a0.getD s1.toNat default).Leaf),(eSl 1 dI (a0.getD s1.toNat default).Memory)])),(.ptr 0 0)] [(0,some (.cells [(aI a1)]))] 384 (o54o1_0 a0 a1 s1 x4)) (.fin 0))))) (by intro x4 h;obtain⟨h1,h⟩:=if_some h;obtain⟨h2,h⟩:=if_some h;obtain⟨r4_0,h3,h⟩:=Option.bind_eq_some_iff.1 h;cases h;exact⟨h1,h2,ok [(0,0)] [] [(0,0)] [] (po55o0 h3),trivial⟩) (fun x4 _=>(.ite ((a0.getD s1.toNat default).Leaf==a1) (.ret .ret ⟨[(1,(.fn 55 [(.ptr 0 0)])),(4,(aI s1))],[(0,(.cells [(aI a1)]))],[],432⟩ (.inr (.inr (s1))) ⟨rfl,rfl,rfl,(rk [(0,0)] [] 432)⟩) (.ret .normal ⟨[(0,(.d (eSl 2 e37 a0))),(1,(.fn 55 [(.ptr 0 0)])),(7,(aI (a0.length:Int))),(8,(aI (IntKind.wrap .i64 (s1+1))))],[(0,(.cells [(aI a1)]))],[],432⟩ (.inl (IntKind.wrap .i64 (s1+1))) ⟨rfl,(wk [(0,0)] [])⟩)))) (.ret (.exit 0) _ (.inr (.inl ())) ⟨rfl,rfl,Weak.refl _⟩))))))) fun _=>(.sg [] [(1,[1,4],[0])] (.ret .ret ⟨[(1,(.fn 55 [(.ptr 0 0)])),(4,(aI (-1)))],[(0,(.cells [(aI a1)]))],[],288⟩ (-1:Int) ⟨rfl,(rk [(0,0)] [] 432)⟩)))))
noncomputable def m54o1 (a0:List T37) (a1:Int):Option (Int):=(d54o1 a0 a1).m
theorem po54o1 {a0:List T37} {a1:Int} {r:Int} (h:m54o1 a0 a1=some r):ObjF Tryz.prog 54 [(.d (eSl 2 e37 a0)),(.fn 55 [(.ptr 0 0)])] [(0,(.cells [(aI a1)]))] [] (q54o1 a0 a1 r):=obj_jd (d54o1 a0 a1) Tryz.func54 h
noncomputable def q104o0 (a0:List Int) (y:(List Int)):OF:=⟨(.tup []),[(0,(.vec 42 1 a0.length (cF (D.int .u16) y)))],[]⟩
noncomputable def d104o0 (a0:List Int):JO Tryz.prog Tryz.f104 [(.vec 0 1 a0.length)] [(0,(.vec 42 1 a0.length (cF (D.int .u16) a0)))] [] (q104o0 a0) :=
 (.sq 1 [] [(0,[0,2,3],[0])] (fun(_:Unit)=>⟨[(0,(.vec 0 1 a0.length)),(2,(aI 0)),(3,(aI (IntKind.wrap .i64 ((a0.length:Int) - (1:Int)))))],[(0,(.vec 42 1 a0.length (cF (D.int .u16) a0)))],[],96⟩) (.nx ()) (fun _=>(.bk (.lp (fun(s1:(List Int)×Int×Int)=>⟨[(0,(.vec 0 1 a0.length)),(2,(aI s1.2.1)),(3,(aI s1.2.2))],[(0,(.vec 42 1 a0.length (cF (D.int .u16) s1.1)))],[],496⟩) (a0,(0:Int),(IntKind.wrap .i64 ((a0.length:Int) - (1:Int)))) (wk [(0,0)] []) fun s1=>(.sg [] [(0,[0,2,3],[0]),(2,[0],[0])] (.ite (decide (s1.2.1 < s1.2.2)) (nd (0≤s1.2.2) (nd (s1.2.2 < (a0.length:Int)) (nd (s1.2.2.toNat < a0.length) (nd (0≤s1.2.1) (nd (s1.2.1 < (a0.length:Int)) (nd (s1.2.1.toNat < a0.length) (nd (0≤s1.2.1) (nd (s1.2.1 < (a0.length:Int)) (nd (s1.2.1.toNat < a0.length) (nd (0≤s1.2.2) (nd (s1.2.2 < (a0.length:Int)) (nd (s1.2.2.toNat < a0.length) (.ret .normal ⟨[(0,(.vec 0 1 a0.length)),(2,(aI (IntKind.wrap .i64 (s1.2.1+1)))),(3,(aI (IntKind.wrap .i64 (s1.2.2 - 1))))],[(0,(.vec 42 1 a0.length (fun k=>if k=s1.2.2.toNat then(.int .u16 (s1.1.getD s1.2.1.toNat default))else(fun k=>if k=s1.2.1.toNat then(.int .u16 (s1.1.getD s1.2.2.toNat default))else(cF (D.int .u16) s1.1) k) k)))],[],896⟩ (.inl ((((subL s1.1 0 a0.length).set s1.2.1.toNat (s1.1.getD s1.2.2.toNat default)).set s1.2.2.toNat (s1.1.getD s1.2.1.toNat default)),(IntKind.wrap .i64 (s1.2.1+1)),(IntKind.wrap .i64 (s1.2.2 - 1)))) ⟨rfl,(ws [(0,0)] [] ⟨_,_,rfl,rfl,⟨rfl,rfl,(de_keep (de_set (e:=(D.int .u16)) (x:=(s1.1.getD s1.2.1.toNat default)) (de_set (e:=(D.int .u16)) (x:=(s1.1.getD s1.2.2.toNat default)) de_sub0)))⟩⟩)⟩))))))))))))) (.ret (.exit 0) ⟨[(0,(.vec 0 1 a0.length))],[(0,(.vec 42 1 a0.length (cF (D.int .u16) s1.1)))],[],544⟩ (.inr (s1.1)) ⟨rfl,rfl,(rk [(0,0)] [] 544)⟩)))))))
noncomputable def m104o0 (a0:List Int):Option ((List Int)):=(d104o0 a0).m
theorem po104o0 {a0:List Int} {r:(List Int)} (h:m104o0 a0=some r):ObjF Tryz.prog 104 [(.vec 0 1 a0.length)] [(0,(.vec 42 1 a0.length (cF (D.int .u16) a0)))] [] (q104o0 a0 r):=obj_jd (d104o0 a0) Tryz.func104 h
noncomputable def q56o0 (a0 a1:List Int) (a2:Int) (y:(List Int)):OF:=⟨(.vec 48 1 y.length),[(48,(.vec 42 1 y.length (cF (D.int .u16) y)))],[]⟩
noncomputable def o56o0_0 (y2:(List Int)) (x:(List Int)):OT:=⟨(.tup []),[48],[],[(48,(.vec 42 1 y2.length (cF (D.int .u16) x)))],[]⟩
noncomputable def d56o0 (a0 a1:List Int) (a2:Int):JO Tryz.prog Tryz.f56 [(.d (eSl 1 dI a0)),(.d (eSl 1 (D.int .u16) a1)),(aI a2)] [] [] (q56o0 a0 a1 a2) :=
 (.sq 2 [] [(0,[0,1,2,7],[])] (fun(_:Unit)=>⟨[(0,(.d (eSl 1 dI a0))),(1,(.d (eSl 1 (D.int .u16) a1))),(2,(aI a2)),(7,aN)],[],[],48⟩) (.nx ()) (fun _=>(.sc (fun(y2:(List Int))=>⟨[(7,(.vec 48 1 y2.length))],[(48,(.vec 42 1 y2.length (cF (D.int .u16) y2)))],[],417⟩) (.bk (.lp (fun(s1:Int×(List Int))=>⟨[(0,(.d (eSl 1 dI a0))),(1,(.d (eSl 1 (D.int .u16) a1))),(2,(aI s1.1)),(7,(.vec 48 1 s1.2.length))],[(48,(.vec 42 1 s1.2.length (cF (D.int .u16) s1.2)))],[],337⟩) (a2,([]:List Int)) (Weak.trans (weak_vec (st:=_) (st':=⟨[(0,(.d (eSl 1 dI a0))),(1,(.d (eSl 1 (D.int .u16) a1))),(2,(aI a2)),(7,(.vec 48 1 0))],[(48,(.vec 42 1 0 (fun _=>.bad)))],[],49⟩) [(48,42,1,fun _=>.bad)] [] rfl rfl (Nat.le_of_ble_eq_true rfl) (by kernel_rfl) (by kernel_rfl) (by kernel_rfl) (by exact trivial) (by exact⟨(.same .nil),(.same .nil),(.same .nil),(.vec (.head _) .nil)⟩)) (by exact(wh [(48,48)] [] ⟨dr,dr,dr,⟨rfl,rfl,(len_of (sz:=1) (e:=(D.int .u16)) (f:=(fun _=>.bad)) (l:=([]:List Int)) de_nil)⟩⟩))) fun s1=>(.sg [(4,⟨Unit,fun x=>[],fun x=>[],[226,514]⟩)] [(0,[0,1,2,7],[513]),(2,[7],[48])] (nd (0≤s1.1) (nd (s1.1 < (a0.length:Int)) (.ite (decide (0≤(a0.getD s1.1.toNat default))) (.exi (Unit) (if 0≤s1.1 then(if s1.1 < (a1.length:Int)then(if(s1.2.length+1) * 2≤140737488355328 then some ()else none)else none)else none) (fun x4=>(.p (0≤s1.1) (.p (s1.1 < (a1.length:Int)) (.p ((s1.2.length+1) * 2≤140737488355328) (.fin 0))))) (by intro x4 h;obtain⟨h1,h⟩:=if_some h;obtain⟨h2,h⟩:=if_some h;obtain⟨h3,h⟩:=if_some h;cases h;exact⟨h1,h2,h3,trivial⟩) (fun x4 _=>(nd (0≤s1.1) (nd (s1.1 < (a0.length:Int)) (.ret .normal ⟨[(0,(.d (eSl 1 dI a0))),(1,(.d (eSl 1 (D.int .u16) a1))),(2,(aI (a0.getD s1.1.toNat default))),(7,(.vec 513 1 (s1.2.length+1)))],[(513,(.vec 42 1 (s1.2.length+1) (appF s1.2.length (cF (D.int .u16) s1.2) (litF [(.int .u16 (a1.getD s1.1.toNat default))]))))],[497],625⟩ (.inl ((a0.getD s1.1.toNat default),(s1.2++([(a1.getD s1.1.toNat default)]:List Int)))) ⟨rfl,(weak_of [(48,513)] [] (by kernel_rfl) ⟨dr,dr,dr,⟨rfl,rfl,(len_of (sz:=1) (e:=(D.int .u16)) (f:=(appF s1.2.length (cF (D.int .u16) s1.2) (litF [(.int .u16 (a1.getD s1.1.toNat default))]))) (l:=(s1.2++([(a1.getD s1.1.toNat default)]:List Int))) (de_app dr (de_lit rfl rfl)))⟩⟩ ⟨_,_,rfl,rfl,⟨rfl,rfl,(de_app dr (de_lit rfl rfl))⟩⟩)⟩))))) (.ret (.exit 0) _ (.inr (.inl s1.2)) ⟨rfl,rfl,Weak.refl _⟩))))))) fun y2=>(.sg [(5,⟨(List Int),fun x=>[],fun x=>[(433,(o56o0_0 y2 x))],[]⟩)] [(1,[6],[48])] (c3 (p:=fun x5=>ObjL Tryz.prog 104 [(.vec 48 1 y2.length)] [(48,some (.vec 42 1 y2.length (cF (D.int .u16) y2)))] 433 (o56o0_0 y2 x5)) (fun x5 (h1:m104o0 y2=some _)=>ok [(0,48)] [] [(48,0)] [] (po104o0 h1)) fun x5=>(.ret .ret ⟨[(6,(.vec 48 1 y2.length))],[(48,(.vec 42 1 y2.length (cF (D.int .u16) x5)))],[],481⟩ (subL x5 0 y2.length) ⟨rfl,(retO_of [(48,48)] [] 481 rfl (by kernel_rfl) (by kernel_rfl) ⟨rfl,rfl,(len_of (sz:=1) (e:=(D.int .u16)) (f:=(cF (D.int .u16) x5)) (l:=(subL x5 0 y2.length)) de_sub0)⟩ ⟨_,_,rfl,rfl,⟨rfl,rfl,de_sub0⟩⟩)⟩))))))
noncomputable def m56o0 (a0 a1:List Int) (a2:Int):Option ((List Int)):=(d56o0 a0 a1 a2).m
theorem po56o0 {a0:List Int} {a1:List Int} {a2:Int} {r:(List Int)} (h:m56o0 a0 a1 a2=some r):ObjF Tryz.prog 56 [(.d (eSl 1 dI a0)),(.d (eSl 1 (D.int .u16) a1)),(aI a2)] [] [] (q56o0 a0 a1 a2 r):=obj_jd (d56o0 a0 a1 a2) Tryz.func56 h
noncomputable def E21 (r:(List Int)×Int):D:=(.tup [(eSl 1 (D.int .u16) r.1),(dI r.2)])
noncomputable def o21_0 (a0:T27) (x:((List T37)×(List Int)×(List Int)×(List Int))):OT:=⟨(.tup [(.ptr 256 0),(aI 0)]),[],[],[(256,(.cells (g27 a0++([(.ap 2 x.1.length (cF e37 x.1) (.tok 256 37)),(.ap 1 x.2.1.length (cF dI x.2.1) (.tok 257 3)),(.ap 1 x.2.2.1.length (cF (D.int .u16) x.2.2.1) (.tok 258 42)),(.d (eSl 1 (D.int .u16) x.2.2.2))]:List AV))))],[256,257,258]⟩
noncomputable def o21_1 (x:(List Int)):OT:=⟨(.vec 672 1 x.length),[],[],[(672,(.vec 42 1 x.length (cF (D.int .u16) x)))],[]⟩
noncomputable def d21 (a0:T27) (a1:Int):JF Tryz.prog Tryz.f21 [(e27 a0),(dI a1)] E21 :=
 (.or (.sg [(1,tm1 11 dI),(4,⟨(List Int)×Bool,fun x=>[(16,(eSl 1 dI x.1)),(18,(.bool x.2))],fun x=>[],[]⟩),(6,⟨Int,fun x=>[],fun x=>[(256,⟨(.tup [.nilp,(aI x)]),[],[],[],[]⟩)],[]⟩),(9,⟨Unit,fun x=>[],fun x=>[],[]⟩)] [(1,[4,5],[])] (c3 (@p38 a0) fun x1=>(.ite (x1 != 0) (.ret .ret ⟨[(4,aN),(5,(aI x1))],[],[],208⟩ ([],x1) ⟨rfl,_,Weak.refl _,⟨de_nil,dr,trivial⟩⟩) (.exi ((List Int)×Bool) ((m53 a0).bind fun r4_0=>((m49 r4_0 a1).bind fun r4_1=>some (r4_0,r4_1))) (fun x4=>(.p (PureAt Tryz.prog 53 [(e27 a0)] (eSl 1 dI x4.1)) (.p (PureAt Tryz.prog 49 [(eSl 1 dI x4.1),(dI a1)] (.bool x4.2)) (.fin 0)))) (by intro x4 h;obtain⟨r4_0,h1,h⟩:=Option.bind_eq_some_iff.1 h;obtain⟨r4_1,h2,h⟩:=Option.bind_eq_some_iff.1 h;cases h;exact⟨p53 h1,p49 h2,trivial⟩) (fun x4 _=>(.ite (!x4.2) (.ret .ret ⟨[(4,aN),(5,(aI 2))],[],[],272⟩ ([],(2:Int)) ⟨rfl,_,Weak.refl _,⟨de_nil,dr,trivial⟩⟩) (c3 (p:=fun x6=>ObjL Tryz.prog 44 [(.d (e27 a0))] [] 256 ⟨(.tup [.nilp,(aI x6)]),[],[],[],[]⟩) (fun x6 (h1:m44o1 a0=some _)=>ok [] [] [] [] (po44o1 h1)) fun x6=>(.ite (x6 != 0) (.ret .ret ⟨[(4,aN),(5,(aI x6))],[],[],432⟩ ([],x6) ⟨rfl,_,Weak.refl _,⟨de_nil,dr,trivial⟩⟩) (.exi (Unit) none (fun x9=>.no) (by intro x9 h;cases h) (fun x9 i=>match i with  | _=>.bad)))))))))) (.sg [(1,tm1 11 dI),(4,⟨(List Int)×Bool,fun x=>[(16,(eSl 1 dI x.1)),(18,(.bool x.2))],fun x=>[],[]⟩),(6,⟨((List T37)×(List Int)×(List Int)×(List Int)),fun x=>[],fun x=>[(256,(o21_0 a0 x))],[]⟩),(9,⟨Int,fun x=>[],fun x=>[(464,⟨(aI x),[32],[],[(32,(.cells [(aI a1)]))],[]⟩)],[]⟩),(12,⟨(List Int),fun x=>[],fun x=>[(672,(o21_1 x))],[]⟩)] [(1,[4,5],[672])] (c3 (@p38 a0) fun x1=>(.ite (x1 != 0) (.ret .ret ⟨[(4,aN),(5,(aI x1))],[],[],208⟩ ([],x1) ⟨rfl,_,Weak.refl _,⟨de_nil,dr,trivial⟩⟩) (.exi ((List Int)×Bool) ((m53 a0).bind fun r4_0=>((m49 r4_0 a1).bind fun r4_1=>some (r4_0,r4_1))) (fun x4=>(.p (PureAt Tryz.prog 53 [(e27 a0)] (eSl 1 dI x4.1)) (.p (PureAt Tryz.prog 49 [(eSl 1 dI x4.1),(dI a1)] (.bool x4.2)) (.fin 0)))) (by intro x4 h;obtain⟨r4_0,h1,h⟩:=Option.bind_eq_some_iff.1 h;obtain⟨r4_1,h2,h⟩:=Option.bind_eq_some_iff.1 h;cases h;exact⟨p53 h1,p49 h2,trivial⟩) (fun x4 _=>(.ite (!x4.2) (.ret .ret ⟨[(4,aN),(5,(aI 2))],[],[],272⟩ ([],(2:Int)) ⟨rfl,_,Weak.refl _,⟨de_nil,dr,trivial⟩⟩) (c3 (p:=fun x6=>ObjL Tryz.prog 44 [(.d (e27 a0))] [] 256 (o21_0 a0 x6)) (fun x6 (h1:m44o2 a0=some _)=>ok [] [] [(256,384)] [(256,288),(257,304),(258,320)] (po44o2 h1)) fun x6=>(.ite ((0:Int) != (0:Int)) (.ret .ret ⟨[(4,aN),(5,(aI 0))],[],[256,257,258],432⟩ ([],(0:Int)) ⟨rfl,_,Weak.refl _,⟨de_nil,dr,trivial⟩⟩) (c3 (p:=fun x9=>ObjL Tryz.prog 54 [(.ap 2 x6.1.length (cF e37 x6.1) (.tok 256 37)),(.fn 55 [(.ptr 32 0)])] [(32,some (.cells [(aI a1)]))] 464 ⟨(aI x9),[32],[],[(32,(.cells [(aI a1)]))],[]⟩) (fun x9 (h1:m54o1 x6.1 a1=some _)=>ok [(0,32)] [] [(32,0)] [] (po54o1 h1)) fun x9=>(.ite (decide (x9 < 0)) (.ret .ret ⟨[(4,aN),(5,(aI 6))],[],[256,257,258],560⟩ ([],(6:Int)) ⟨rfl,_,Weak.refl _,⟨de_nil,dr,trivial⟩⟩) (c3 (p:=fun x12=>ObjL Tryz.prog 56 [(.ap 1 x6.2.1.length (cF dI x6.2.1) (.tok 257 3)),(.ap 1 x6.2.2.1.length (cF (D.int .u16) x6.2.2.1) (.tok 258 42)),(aI x9)] [] 672 (o21_1 x12)) (fun x12 (h1:m56o0 x6.2.1 x6.2.2.1 x9=some _)=>ok [] [] [(672,48)] [] (po56o0 h1)) fun x12=>(.ret .ret ⟨[(4,(.vec 672 1 x12.length)),(5,(aI 0))],[(672,(.vec 42 1 x12.length (cF (D.int .u16) x12)))],[256,257,258],720⟩ (x12,(0:Int)) ⟨rfl,_,(weak_frz (st':=⟨[(4,(.d (eSl 1 (D.int .u16) x12))),(5,(aI 0))],[],[256,257,258],720⟩) [(672,1,x12.length,(cF (D.int .u16) x12))] (by rfl) (by rfl) (by kernel_rfl) (by kernel_rfl) (by exact(rowIs_vec (e:=42) rfl)) (by exact trivial) (by exact⟨(.vec (.head _) dr .nil),(.same .nil)⟩)),⟨dr,dr,trivial⟩⟩)))))))))))))
noncomputable def m21 (a0:T27) (a1:Int):Option ((List Int)×Int):=(d21 a0 a1).m
theorem p21 {a0:T27} {a1:Int} {r:(List Int)×Int} (h:m21 a0 a1=some r):PureAt Tryz.prog 21 [(e27 a0),(dI a1)] (E21 r):=pure_jd (d21 a0 a1) Tryz.func21 h
noncomputable abbrev z100o1_1 (a1:List T37):AV:=(.ap 2 a1.length (cF e37 a1) (.tok 0 37))
noncomputable abbrev z100o1_0 (a0:T27) (a1:List T37) (a2:List Int) (a3:List Int) (a4:List Int):Ob:=(.cells (g27 a0++([(z100o1_1 a1),(.ap 1 a2.length (cF dI a2) (.tok 1 3)),(.ap 1 a3.length (cF (D.int .u16) a3) (.tok 2 42)),(.d (eSl 1 (D.int .u16) a4))]:List AV)))
noncomputable def q100o1 (a0:T27) (a1:List T37) (a2 a3 a4:List Int) (y:(List Int)):OF:=⟨(.vec 417 1 y.length),[(417,(.vec 3 1 y.length (cF dI y))),(0,(z100o1_0 a0 a1 a2 a3 a4))],[0,1,2]⟩
noncomputable def o100o1_0 (y2:(List Int)) (x:Unit):OT:=⟨(.tup []),[144],[],[(144,(.vec 3 1 y2.length (cF dI (sortI y2))))],[]⟩
noncomputable def o100o1_1 (y2:(List Int)) (x:Unit):OT:=⟨(.vec 417 1 (cmpI (sortI y2)).length),[144],[],[(417,(.vec 3 1 (cmpI (sortI y2)).length (cF dI (cmpI (sortI y2))))),(144,.gone)],[]⟩
noncomputable def d100o1 (a0:T27) (a1:List T37) (a2 a3 a4:List Int):JO Tryz.prog Tryz.f100 [(.ptr 0 0)] [(0,(z100o1_0 a0 a1 a2 a3 a4))] [0,1,2] (q100o1 a0 a1 a2 a3 a4) :=
 (.sq 2 [] [(0,[0,3],[0])] (fun(_:Unit)=>⟨[(0,(.ptr 0 0)),(3,aN)],[(0,(z100o1_0 a0 a1 a2 a3 a4))],[0,1,2],48⟩) (.nx ()) (fun _=>(.sc (fun(y2:(List Int))=>⟨[(0,(.ptr 0 0)),(3,(.vec 144 1 y2.length))],[(144,(.vec 3 1 y2.length (cF dI y2))),(0,(z100o1_0 a0 a1 a2 a3 a4))],[0,1,2],369⟩) (.sq 1 [] [(0,[0,3,9,10,11],[0])] (fun(_:Unit)=>⟨[(0,(.ptr 0 0)),(3,aN),(9,(z100o1_1 a1)),(10,(aI (a1.length:Int))),(11,(aI 0))],[(0,(z100o1_0 a0 a1 a2 a3 a4))],[0,1,2],144⟩) (.nx ()) (fun _=>(.bk (.lp (fun(s1:(List Int)×Int)=>⟨[(0,(.ptr 0 0)),(3,(.vec 144 1 s1.1.length)),(9,(z100o1_1 a1)),(10,(aI (a1.length:Int))),(11,(aI s1.2))],[(144,(.vec 3 1 s1.1.length (cF dI s1.1))),(0,(z100o1_0 a0 a1 a2 a3 a4))],[0,1,2],353⟩) (([]:List Int),(0:Int)) (Weak.trans (weak_vec (st:=_) (st':=⟨[(0,(.ptr 0 0)),(3,(.vec 144 1 0)),(9,(z100o1_1 a1)),(10,(aI (a1.length:Int))),(11,(aI 0))],[(144,(.vec 3 1 0 (fun _=>.bad))),(0,(z100o1_0 a0 a1 a2 a3 a4))],[0,1,2],145⟩) [(144,3,1,fun _=>.bad)] [(0,(z100o1_0 a0 a1 a2 a3 a4))] rfl rfl (Nat.le_of_ble_eq_true rfl) (by kernel_rfl) (by kernel_rfl) (by kernel_rfl) (by exact .inl rfl) (by exact⟨(.same .nil),(.vec (.head _) .nil),(.same .nil),(.same .nil),(.same .nil)⟩)) (by exact(wh (idn [0,144]) (idn [0,1,2]) ⟨⟨rfl,rfl⟩,⟨rfl,rfl,(len_of (sz:=1) (e:=dI) (f:=(fun _=>.bad)) (l:=([]:List Int)) de_nil)⟩,⟨rfl,rfl,rfl,dr⟩,dr,dr⟩))) fun s1=>(.sg [(5,⟨Unit,fun x=>[],fun x=>[],[290,498]⟩)] [(0,[0,3,9,10,11],[0,497]),(2,[0,3],[144,0])] (.ite (decide (s1.2 < (a1.length:Int))) (nd (0≤s1.2) (nd (s1.2 < (a1.length:Int)) (.exi (Unit) (if(s1.1.length+1) * 8≤140737488355328 then some ()else none) (fun x5=>(.p ((s1.1.length+1) * 8≤140737488355328) (.fin 0))) (by intro x5 h;obtain⟨h1,h⟩:=if_some h;cases h;exact⟨h1,trivial⟩) (fun x5 _=>(.ret .normal ⟨[(0,(.ptr 0 0)),(3,(.vec 497 1 (s1.1.length+1))),(9,(z100o1_1 a1)),(10,(aI (a1.length:Int))),(11,(aI (IntKind.wrap .i64 (s1.2+1))))],[(0,(z100o1_0 a0 a1 a2 a3 a4)),(497,(.vec 3 1 (s1.1.length+1) (appF s1.1.length (cF dI s1.1) (litF [(dI (a1.getD s1.2.toNat default).Leaf)]))))],[481,0,1,2],561⟩ (.inl ((s1.1++([(a1.getD s1.2.toNat default).Leaf]:List Int)),(IntKind.wrap .i64 (s1.2+1)))) ⟨rfl,(weak_of [(0,0),(144,497)] [(0,0),(1,1),(2,2)] (by kernel_rfl) ⟨⟨rfl,rfl⟩,⟨rfl,rfl,(len_of (sz:=1) (e:=dI) (f:=(appF s1.1.length (cF dI s1.1) (litF [(dI (a1.getD s1.2.toNat default).Leaf)]))) (l:=(s1.1++([(a1.getD s1.2.toNat default).Leaf]:List Int))) (de_app dr (de_lit rfl rfl)))⟩,⟨rfl,rfl,rfl,dr⟩,dr,dr⟩ ⟨⟨_,_,rfl,rfl,⟨rfl,rfl,(de_app dr (de_lit rfl rfl))⟩⟩,⟨_,_,rfl,rfl,⟨dr,dr,dr,dr,dr,dr,⟨rfl,rfl,rfl,dr⟩,⟨rfl,rfl,rfl,dr⟩,⟨rfl,rfl,rfl,dr⟩,dr,trivial⟩⟩⟩)⟩))))) (.ret (.exit 0) _ (.inr (.inl s1.1)) ⟨rfl,rfl,Weak.refl _⟩))))))) fun y2=>(.sg [(7,⟨Unit,fun x=>[],fun x=>[(385,(o100o1_0 y2 x))],[]⟩),(8,⟨Unit,fun x=>[],fun x=>[(417,(o100o1_1 y2 x))],[]⟩)] [(1,[0,2],[0,417])] (c3 (p:=fun x7=>ObjL Tryz.prog 151 [(.vec 144 1 y2.length)] [(144,some (.vec 3 1 y2.length (cF dI y2)))] 385 (o100o1_0 y2 x7)) (fun x7 (h1:msrt y2=some _)=>ok [(0,144)] [] [(144,0)] [] (posrt h1)) fun x7=>(c3 (p:=fun x8=>ObjL Tryz.prog 152 [(.vec 144 1 y2.length)] [(144,some (.vec 3 1 y2.length (cF dI (sortI y2))))] 417 (o100o1_1 y2 x8)) (fun x8 (h1:mcmp (sortI y2)=some _)=>objL_of (pocmp h1) [(0,144)] [] [(144,0),(417,16)] [] (by kernel_rfl) ⟨⟨rfl,rfl,(len_of (sz:=1) (e:=dI) (f:=(cF dI (sortI y2))) (l:=(sortI y2)) de_sortI)⟩,trivial⟩ ⟨_,_,rfl,rfl,⟨rfl,rfl,de_sortI⟩⟩ (by kernel_rfl) ⟨rfl,rfl,rfl⟩ ⟨⟨_,_,rfl,rfl,⟨rfl,rfl,dr⟩⟩,⟨_,_,rfl,rfl,trivial⟩⟩) fun x8=>(.ret .ret ⟨[(0,(.ptr 0 0)),(2,(.vec 417 1 (cmpI (sortI y2)).length))],[(0,(z100o1_0 a0 a1 a2 a3 a4)),(417,(.vec 3 1 (cmpI (sortI y2)).length (cF dI (cmpI (sortI y2)))))],[0,1,2],449⟩ (cmpI (sortI y2)) ⟨rfl,(rk (idn [417,0]) (idn [0,1,2]) 449)⟩)))))))
noncomputable def m100o1 (a0:T27) (a1:List T37) (a2 a3 a4:List Int):Option ((List Int)):=(d100o1 a0 a1 a2 a3 a4).m
theorem po100o1 {a0:T27} {a1:List T37} {a2:List Int} {a3:List Int} {a4:List Int} {r:(List Int)} (h:m100o1 a0 a1 a2 a3 a4=some r):ObjF Tryz.prog 100 [(.ptr 0 0)] [(0,(z100o1_0 a0 a1 a2 a3 a4))] [0,1,2] (q100o1 a0 a1 a2 a3 a4 r):=obj_jd (d100o1 a0 a1 a2 a3 a4) Tryz.func100 h
noncomputable abbrev z47o1_5 (a4:List Int):AV:=(.d (eSl 1 (D.int .u16) a4))
noncomputable abbrev z47o1_0 (a0:T27) (a1:List T37) (a2:List Int) (a3:List Int) (a4:List Int):Ob:=(.cells (g27 a0++([(.ap 2 a1.length (cF e37 a1) (.tok 48 37)),(.ap 1 a2.length (cF dI a2) (.tok 49 3)),(.ap 1 a3.length (cF (D.int .u16) a3) (.tok 50 42)),(z47o1_5 a4)]:List AV)))
noncomputable abbrev z47o1_6 (s2:(List T44)×(List T44)×(List Bool)×Int) (y1:(List Int)):AV:=(aI (y1.getD s2.2.2.2.toNat default))
noncomputable abbrev z47o1_1 (a0:T27) (a4:List Int) (s2:(List T44)×(List T44)×(List Bool)×Int) (s3:(List T44)×(List T44)×(List Bool)×Bool×Bool×Int) (y1:(List Int)):List (Nat×AV):=[(0,(.ptr 0 0)),(3,(.vec 48 1 y1.length)),(4,(.ap 5 s3.1.length (cF e44 s3.1) (.tok 1120 44))),(5,(.ap 5 s3.2.1.length (cF e44 s3.2.1) (.tok 1456 44))),(7,(.arr 224 1 (a0.Transitions.length:Int).toNat)),(9,(z47o1_6 s2 y1)),(10,(aB s3.2.2.2.1)),(11,(aB s3.2.2.2.2.1)),(30,(.vec 48 1 y1.length)),(31,(aI (y1.length:Int))),(32,(aI s2.2.2.2)),(39,(z47o1_5 a4)),(40,(aI (a4.length:Int))),(41,(aI s3.2.2.2.2.2))]
noncomputable abbrev z47o1_2 (a0:T27) (a4:List Int) (s2:(List T44)×(List T44)×(List Bool)×Int) (s3:(List T44)×(List T44)×(List Bool)×Bool×Bool×Int) (y1:(List Int)) (y4:(List Int)):List (Nat×AV):=[(0,(.ptr 0 0)),(3,(.vec 48 1 y1.length)),(4,(.ap 5 s3.1.length (cF e44 s3.1) (.tok 1120 44))),(5,(.ap 5 s3.2.1.length (cF e44 s3.2.1) (.tok 1456 44))),(7,(.arr 224 1 (a0.Transitions.length:Int).toNat)),(9,(z47o1_6 s2 y1)),(10,(aB s3.2.2.2.1)),(11,(aB s3.2.2.2.2.1)),(13,(.d (.int .u16 (a4.getD s3.2.2.2.2.2.toNat default)))),(14,(.d (eSl 1 dI y4))),(30,(.vec 48 1 y1.length)),(31,(aI (y1.length:Int))),(32,(aI s2.2.2.2)),(39,(z47o1_5 a4)),(40,(aI (a4.length:Int))),(41,(aI s3.2.2.2.2.2))]
noncomputable abbrev z47o1_3 (a0:T27) (a1:List T37) (a2:List Int) (a3:List Int) (a4:List Int):Ob:=(.cells (g27 a0++([(.ap 2 a1.length (cF e37 a1) (.tok 0 37)),(.ap 1 a2.length (cF dI a2) (.tok 1 3)),(.ap 1 a3.length (cF (D.int .u16) a3) (.tok 2 42)),(z47o1_5 a4)]:List AV)))
noncomputable abbrev z47o1_4 (a0:T27) (s2:(List T44)×(List T44)×(List Bool)×Int) (y1:(List Int)):List (Nat×AV):=[(0,(.ptr 0 0)),(3,(.vec 48 1 y1.length)),(4,(.ap 5 s2.1.length (cF e44 s2.1) (.tok 1120 44))),(5,(.ap 5 s2.2.1.length (cF e44 s2.2.1) (.tok 1456 44))),(7,(.arr 224 1 (a0.Transitions.length:Int).toNat)),(30,(.vec 48 1 y1.length)),(31,(aI (y1.length:Int))),(32,(aI s2.2.2.2))]
noncomputable abbrev z47o1_7 (a0:T27):AV:=(aI ((a0.Transitions.length:Int).toNat:Int))
noncomputable def q47o1 (a0:T27) (a1:List T37) (a2 a3 a4:List Int) (y:(List T44)):OF:=⟨(.ap 5 y.length (cF e44 y) (.tok 1616 44)),[(0,(z47o1_0 a0 a1 a2 a3 a4))],[1616,48,49,50]⟩
noncomputable def o47o1_0 (a0:T27) (a1:List T37) (a2 a3 a4:List Int) (x:(List Int)):OT:=⟨(.vec 48 1 x.length),[0],[0,1,2],[(48,(.vec 3 1 x.length (cF dI x))),(0,(z47o1_0 a0 a1 a2 a3 a4))],[48,49,50]⟩
noncomputable def d47o1 (a0:T27) (a1:List T37) (a2 a3 a4:List Int):JO Tryz.prog Tryz.f47 [(.ptr 0 0)] [(0,(z47o1_3 a0 a1 a2 a3 a4))] [0,1,2] (q47o1 a0 a1 a2 a3 a4) :=
 (.sq 4 [(1,⟨(List Int),fun x=>[],fun x=>[(48,(o47o1_0 a0 a1 a2 a3 a4 x))],[]⟩)] [(0,[0,3,4,5,7],[48,224,0])] (fun(y1:(List Int))=>⟨[(0,(.ptr 0 0)),(3,(.vec 48 1 y1.length)),(4,aN),(5,aN),(7,(.arr 224 1 (a0.Transitions.length:Int).toNat))],[(48,(.vec 3 1 y1.length (cF dI y1))),(224,(.arr 1 (a0.Transitions.length:Int).toNat (fun _=>(.bool false)))),(0,(z47o1_0 a0 a1 a2 a3 a4))],[48,49,50],256⟩) (c3 (p:=fun x1=>ObjL Tryz.prog 100 [(.ptr 0 0)] [(0,some (z47o1_3 a0 a1 a2 a3 a4))] 48 (o47o1_0 a0 a1 a2 a3 a4 x1)) (fun x1 (h1:m100o1 a0 a1 a2 a3 a4=some _)=>ok [(0,0)] (idn [0,1,2]) [(0,0),(48,417)] [(48,0),(49,1),(50,2)] (po100o1 h1)) fun x1=>(nd (0≤(a0.Transitions.length:Int)) (nd ((a0.Transitions.length:Int)=(a0.Transitions.length:Int)) (nd ((a0.Transitions.length:Int) * 1≤140737488355328) (nd ((a0.Transitions.length:Int)≤9223372036854775807) (.nx x1)))))) (fun y1=>(.sc (fun(y9:(List T44)×(List T44)×(List Bool))=>⟨[(0,(.ptr 0 0)),(3,(.vec 48 1 y1.length)),(4,(.ap 5 y9.1.length (cF e44 y9.1) (.tok 1120 44))),(5,(.ap 5 y9.2.1.length (cF e44 y9.2.1) (.tok 1456 44))),(7,(.arr 224 1 (a0.Transitions.length:Int).toNat))],[(48,(.vec 3 1 y1.length (cF dI y1))),(224,(.arr 1 (a0.Transitions.length:Int).toNat (cF D.bool y9.2.2))),(0,(z47o1_0 a0 a1 a2 a3 a4))],[1120,1456,48,49,50],1584⟩) (.sq 1 [] [(0,[0,3,4,5,7,30,31,32],[48,224,0])] (fun(_:Unit)=>⟨[(0,(.ptr 0 0)),(3,(.vec 48 1 y1.length)),(4,aN),(5,aN),(7,(.arr 224 1 (a0.Transitions.length:Int).toNat)),(30,(.vec 48 1 y1.length)),(31,(aI (y1.length:Int))),(32,(aI 0))],[(48,(.vec 3 1 y1.length (cF dI y1))),(224,(.arr 1 (a0.Transitions.length:Int).toNat (fun _=>(.bool false)))),(0,(z47o1_0 a0 a1 a2 a3 a4))],[48,49,50],304⟩) (.nx ()) (fun _=>(.bk (.lp (fun(s2:(List T44)×(List T44)×(List Bool)×Int)=>⟨(z47o1_4 a0 s2 y1),[(48,(.vec 3 1 y1.length (cF dI y1))),(224,(.arr 1 (a0.Transitions.length:Int).toNat (cF D.bool s2.2.2.1))),(0,(z47o1_0 a0 a1 a2 a3 a4))],[1120,1456,48,49,50],1568⟩) ([],[],(List.replicate (a0.Transitions.length:Int).toNat false),(0:Int)) (ws (idn [0,48,224]) (idn [48,49,50]) ⟨⟨_,_,rfl,rfl,⟨rfl,rfl,dr⟩⟩,⟨_,_,rfl,rfl,⟨rfl,(de_keep de_rep)⟩⟩,⟨_,_,rfl,rfl,⟨dr,dr,dr,dr,dr,dr,⟨rfl,rfl,rfl,dr⟩,⟨rfl,rfl,rfl,dr⟩,⟨rfl,rfl,rfl,dr⟩,dr,trivial⟩⟩⟩) fun s2=>(.sq 2 [] [(0,[0,3,4,5,7,30,31,32],[48,224,0]),(2,[0,3,4,5,7],[48,224,0])] (fun(_:Unit)=>⟨(z47o1_4 a0 s2 y1),[(48,(.vec 3 1 y1.length (cF dI y1))),(224,(.arr 1 (a0.Transitions.length:Int).toNat (cF D.bool s2.2.2.1))),(0,(z47o1_0 a0 a1 a2 a3 a4))],[1120,1456,48,49,50],1584⟩) (.ite (decide (s2.2.2.2 < (y1.length:Int))) (.nx ()) (.ret (.exit 0) _ (.inr (.inr (.inl (s2.1,s2.2.1,s2.2.2.1)))) ⟨rfl,rfl,rfl,Weak.refl _⟩)) (fun _=>(.sc (fun(y8:(List T44)×(List T44)×(List Bool))=>⟨[(0,(.ptr 0 0)),(3,(.vec 48 1 y1.length)),(4,(.ap 5 y8.1.length (cF e44 y8.1) (.tok 1120 44))),(5,(.ap 5 y8.2.1.length (cF e44 y8.2.1) (.tok 1456 44))),(7,(.arr 224 1 (a0.Transitions.length:Int).toNat)),(30,(.vec 48 1 y1.length)),(31,(aI (y1.length:Int))),(32,(aI s2.2.2.2))],[(48,(.vec 3 1 y1.length (cF dI y1))),(224,(.arr 1 (a0.Transitions.length:Int).toNat (cF D.bool y8.2.2))),(0,(z47o1_0 a0 a1 a2 a3 a4))],[1120,1456,48,49,50],2800⟩) (.bk (.sq 3 [] [(0,[0,3,4,5,7,9,10,11,30,31,32,39,40,41],[48,224,0])] (fun(_:Unit)=>⟨[(0,(.ptr 0 0)),(3,(.vec 48 1 y1.length)),(4,(.ap 5 s2.1.length (cF e44 s2.1) (.tok 1120 44))),(5,(.ap 5 s2.2.1.length (cF e44 s2.2.1) (.tok 1456 44))),(7,(.arr 224 1 (a0.Transitions.length:Int).toNat)),(9,(z47o1_6 s2 y1)),(10,(aB false)),(11,(aB false)),(30,(.vec 48 1 y1.length)),(31,(aI (y1.length:Int))),(32,(aI s2.2.2.2)),(39,(z47o1_5 a4)),(40,(aI (a4.length:Int))),(41,(aI 0))],[(48,(.vec 3 1 y1.length (cF dI y1))),(224,(.arr 1 (a0.Transitions.length:Int).toNat (cF D.bool s2.2.2.1))),(0,(z47o1_0 a0 a1 a2 a3 a4))],[1120,1456,48,49,50],1760⟩) (nd (0≤s2.2.2.2) (nd (s2.2.2.2 < (y1.length:Int)) (nd (s2.2.2.2.toNat < y1.length) (.nx ())))) (fun _=>(.bk (.lp (fun(s3:(List T44)×(List T44)×(List Bool)×Bool×Bool×Int)=>⟨(z47o1_1 a0 a4 s2 s3 y1),[(48,(.vec 3 1 y1.length (cF dI y1))),(224,(.arr 1 (a0.Transitions.length:Int).toNat (cF D.bool s3.2.2.1))),(0,(z47o1_0 a0 a1 a2 a3 a4))],[1120,1456,48,49,50],2784⟩) (s2.1,s2.2.1,s2.2.2.1,false,false,(0:Int)) (wk (idn [0,48,224]) (idn [1120,1456,48,49,50])) fun s3=>(.sq 2 [] [(0,[0,3,4,5,7,9,10,11,30,31,32,39,40,41],[48,224,0]),(4,[0,3,4,5,7,30,31,32],[48,224,0])] (fun(_:Unit)=>⟨(z47o1_1 a0 a4 s2 s3 y1),[(48,(.vec 3 1 y1.length (cF dI y1))),(224,(.arr 1 (a0.Transitions.length:Int).toNat (cF D.bool s3.2.2.1))),(0,(z47o1_0 a0 a1 a2 a3 a4))],[1120,1456,48,49,50],2800⟩) (.ite (decide (s3.2.2.2.2.2 < (a4.length:Int))) (.nx ()) (.ret (.exit 2) _ (.inr (.inr (.inl (s3.1,s3.2.1,s3.2.2.1)))) ⟨rfl,rfl,rfl,Weak.refl _⟩)) (fun _=>(.sc (fun(y7:(List T44)×(List T44)×(List Bool)×Bool×Bool)=>⟨[(0,(.ptr 0 0)),(3,(.vec 48 1 y1.length)),(4,(.ap 5 y7.1.length (cF e44 y7.1) (.tok 3408 44))),(5,(.ap 5 y7.2.1.length (cF e44 y7.2.1) (.tok 3744 44))),(7,(.arr 224 1 (a0.Transitions.length:Int).toNat)),(9,(z47o1_6 s2 y1)),(10,(aB y7.2.2.2.1)),(11,(aB y7.2.2.2.2)),(30,(.vec 48 1 y1.length)),(31,(aI (y1.length:Int))),(32,(aI s2.2.2.2)),(39,(z47o1_5 a4)),(40,(aI (a4.length:Int))),(41,(aI s3.2.2.2.2.2))],[(48,(.vec 3 1 y1.length (cF dI y1))),(224,(.arr 1 (a0.Transitions.length:Int).toNat (cF D.bool y7.2.2.1))),(0,(z47o1_0 a0 a1 a2 a3 a4))],[3408,3744,48,49,50],3776⟩) (.bk (.sq 2 [(11,tm1 51 (eSl 1 dI))] [(0,[0,3,4,5,7,9,10,11,13,14,30,31,32,39,40,41],[48,224,0])] (fun(y4:(List Int))=>⟨(z47o1_2 a0 a4 s2 s3 y1 y4),[(48,(.vec 3 1 y1.length (cF dI y1))),(224,(.arr 1 (a0.Transitions.length:Int).toNat (cF D.bool s3.2.2.1))),(0,(z47o1_0 a0 a1 a2 a3 a4))],[1120,1456,48,49,50],2976⟩) (nd (0≤s3.2.2.2.2.2) (nd (s3.2.2.2.2.2 < (a4.length:Int)) (c3 (@p19 a0 (y1.getD s2.2.2.2.toNat default) (a4.getD s3.2.2.2.2.2.toNat default)) fun x11=>(.nx x11)))) (fun y4=>(.sc (fun(y6:(List Bool))=>⟨(z47o1_2 a0 a4 s2 s3 y1 y4),[(48,(.vec 3 1 y1.length (cF dI y1))),(224,(.arr 1 (a0.Transitions.length:Int).toNat (cF D.bool y6))),(0,(z47o1_0 a0 a1 a2 a3 a4))],[1120,1456,48,49,50],3200⟩) (.sq 1 [] [(0,[0,3,4,5,7,9,10,11,13,14,30,31,32,39,40,41,52,53,54],[48,224,0])] (fun(_:Unit)=>⟨[(0,(.ptr 0 0)),(3,(.vec 48 1 y1.length)),(4,(.ap 5 s3.1.length (cF e44 s3.1) (.tok 1120 44))),(5,(.ap 5 s3.2.1.length (cF e44 s3.2.1) (.tok 1456 44))),(7,(.arr 224 1 (a0.Transitions.length:Int).toNat)),(9,(z47o1_6 s2 y1)),(10,(aB s3.2.2.2.1)),(11,(aB s3.2.2.2.2.1)),(13,(.d (.int .u16 (a4.getD s3.2.2.2.2.2.toNat default)))),(14,(.d (eSl 1 dI y4))),(30,(.vec 48 1 y1.length)),(31,(aI (y1.length:Int))),(32,(aI s2.2.2.2)),(39,(z47o1_5 a4)),(40,(aI (a4.length:Int))),(41,(aI s3.2.2.2.2.2)),(52,(.d (eSl 1 dI y4))),(53,(aI (y4.length:Int))),(54,(aI 0))],[(48,(.vec 3 1 y1.length (cF dI y1))),(224,(.arr 1 (a0.Transitions.length:Int).toNat (cF D.bool s3.2.2.1))),(0,(z47o1_0 a0 a1 a2 a3 a4))],[1120,1456,48,49,50],3024⟩) (.nx ()) (fun _=>(.bk (.lp (fun(s5:(List Bool)×Int)=>⟨[(0,(.ptr 0 0)),(3,(.vec 48 1 y1.length)),(4,(.ap 5 s3.1.length (cF e44 s3.1) (.tok 1120 44))),(5,(.ap 5 s3.2.1.length (cF e44 s3.2.1) (.tok 1456 44))),(7,(.arr 224 1 (a0.Transitions.length:Int).toNat)),(9,(z47o1_6 s2 y1)),(10,(aB s3.2.2.2.1)),(11,(aB s3.2.2.2.2.1)),(13,(.d (.int .u16 (a4.getD s3.2.2.2.2.2.toNat default)))),(14,(.d (eSl 1 dI y4))),(30,(.vec 48 1 y1.length)),(31,(aI (y1.length:Int))),(32,(aI s2.2.2.2)),(39,(z47o1_5 a4)),(40,(aI (a4.length:Int))),(41,(aI s3.2.2.2.2.2)),(52,(.d (eSl 1 dI y4))),(53,(aI (y4.length:Int))),(54,(aI s5.2))],[(48,(.vec 3 1 y1.length (cF dI y1))),(224,(.arr 1 (a0.Transitions.length:Int).toNat (cF D.bool s5.1))),(0,(z47o1_0 a0 a1 a2 a3 a4))],[1120,1456,48,49,50],3184⟩) (s3.2.2.1,(0:Int)) (wk (idn [0,48,224]) (idn [1120,1456,48,49,50])) fun s5=>(.sg [] [(0,[0,3,4,5,7,9,10,11,13,14,30,31,32,39,40,41,52,53,54],[48,224,0]),(6,[0,3,4,5,7,9,10,11,13,14,30,31,32,39,40,41],[48,224,0])] (.ite (decide (s5.2 < (y4.length:Int))) (nd (0≤s5.2) (nd (s5.2 < (y4.length:Int)) (nd (0≤(y4.getD s5.2.toNat default)) (nd ((y4.getD s5.2.toNat default) < ((a0.Transitions.length:Int).toNat:Int)) (nd ((y4.getD s5.2.toNat default).toNat < (a0.Transitions.length:Int).toNat) (.ret .normal ⟨[(0,(.ptr 0 0)),(3,(.vec 48 1 y1.length)),(4,(.ap 5 s3.1.length (cF e44 s3.1) (.tok 1120 44))),(5,(.ap 5 s3.2.1.length (cF e44 s3.2.1) (.tok 1456 44))),(7,(.arr 224 1 (a0.Transitions.length:Int).toNat)),(9,(z47o1_6 s2 y1)),(10,(aB s3.2.2.2.1)),(11,(aB s3.2.2.2.2.1)),(13,(.d (.int .u16 (a4.getD s3.2.2.2.2.2.toNat default)))),(14,(.d (eSl 1 dI y4))),(30,(.vec 48 1 y1.length)),(31,(aI (y1.length:Int))),(32,(aI s2.2.2.2)),(39,(z47o1_5 a4)),(40,(aI (a4.length:Int))),(41,(aI s3.2.2.2.2.2)),(52,(.d (eSl 1 dI y4))),(53,(aI (y4.length:Int))),(54,(aI (IntKind.wrap .i64 (s5.2+1))))],[(48,(.vec 3 1 y1.length (cF dI y1))),(224,(.arr 1 (a0.Transitions.length:Int).toNat (fun k=>if k=(y4.getD s5.2.toNat default).toNat then(.bool true)else(cF D.bool s5.1) k))),(0,(z47o1_0 a0 a1 a2 a3 a4))],[1120,1456,48,49,50],3344⟩ (.inl (((subL s5.1 0 (a0.Transitions.length:Int).toNat).set (y4.getD s5.2.toNat default).toNat true),(IntKind.wrap .i64 (s5.2+1)))) ⟨rfl,(ws (idn [0,48,224]) (idn [1120,1456,48,49,50]) ⟨⟨_,_,rfl,rfl,⟨rfl,rfl,dr⟩⟩,⟨_,_,rfl,rfl,⟨rfl,(de_keep (de_set de_sub0))⟩⟩,⟨_,_,rfl,rfl,⟨dr,dr,dr,dr,dr,dr,⟨rfl,rfl,rfl,dr⟩,⟨rfl,rfl,rfl,dr⟩,⟨rfl,rfl,rfl,dr⟩,dr,trivial⟩⟩⟩)⟩)))))) (.ret (.exit 4) _ (.inr (.inl s5.1)) ⟨rfl,rfl,Weak.refl _⟩))))))) fun y6=>(.sg [] [(0,[0,3,4,5,7,9,10,11,30,31,32,39,40,41],[48,224,0])] (.ite (((y4.length:Int)==(0:Int))&&(!s3.2.2.2.1)) (nd ((s3.1.length+1) * 40≤140737488355328) (.ite ((decide (1 < (y4.length:Int)))&&(!s3.2.2.2.2.1)) (nd ((0:Int)≤(0:Int)) (nd (0 < (y4.length:Int)) (nd ((0:Int)≤(1:Int)) (nd (1 < (y4.length:Int)) (nd ((s3.2.1.length+1) * 40≤140737488355328) (.ret .normal ⟨[(0,(.ptr 0 0)),(3,(.vec 48 1 y1.length)),(4,(.ap 5 (s3.1.length+1) (appF s3.1.length (cF e44 s3.1) (litF [(.agg [(.int .u8 1),(dI (y1.getD s2.2.2.2.toNat default)),(.int .u16 (a4.getD s3.2.2.2.2.2.toNat default)),(dI (-1)),(dI (-1))])])) (.tok 3408 44))),(5,(.ap 5 (s3.2.1.length+1) (appF s3.2.1.length (cF e44 s3.2.1) (litF [(.agg [(.int .u8 2),(dI (y1.getD s2.2.2.2.toNat default)),(.int .u16 (a4.getD s3.2.2.2.2.2.toNat default)),(dI (y4.getD (0:Int).toNat default)),(dI (y4.getD (1:Int).toNat default))])])) (.tok 3744 44))),(7,(.arr 224 1 (a0.Transitions.length:Int).toNat)),(9,(z47o1_6 s2 y1)),(10,(aB true)),(11,(aB true)),(30,(.vec 48 1 y1.length)),(31,(aI (y1.length:Int))),(32,(aI s2.2.2.2)),(39,(z47o1_5 a4)),(40,(aI (a4.length:Int))),(41,(aI s3.2.2.2.2.2))],[(48,(.vec 3 1 y1.length (cF dI y1))),(224,(.arr 1 (a0.Transitions.length:Int).toNat (cF D.bool y6))),(0,(z47o1_0 a0 a1 a2 a3 a4))],[3744,3728,3408,3392,48,49,50],3776⟩ (.inl ((s3.1++([(⟨(1:Int),(y1.getD s2.2.2.2.toNat default),(a4.getD s3.2.2.2.2.2.toNat default),(-1:Int),(-1:Int)⟩:T44)]:List T44)),(s3.2.1++([(⟨(2:Int),(y1.getD s2.2.2.2.toNat default),(a4.getD s3.2.2.2.2.2.toNat default),(y4.getD (0:Int).toNat default),(y4.getD (1:Int).toNat default)⟩:T44)]:List T44)),y6,true,true)) ⟨rfl,(wh (idn [0,48,224]) (idn [3408,3744,48,49,50]) ⟨⟨rfl,rfl⟩,⟨rfl,rfl,rfl⟩,⟨rfl,rfl,rfl,(de_app dr (de_lit rfl rfl))⟩,⟨rfl,rfl,rfl,(de_app dr (de_lit rfl rfl))⟩,⟨rfl,rfl,rfl⟩,dr,dr,dr,⟨rfl,rfl,rfl⟩,dr,dr,dr,dr,dr⟩)⟩)))))) (.ret .normal ⟨[(0,(.ptr 0 0)),(3,(.vec 48 1 y1.length)),(4,(.ap 5 (s3.1.length+1) (appF s3.1.length (cF e44 s3.1) (litF [(.agg [(.int .u8 1),(dI (y1.getD s2.2.2.2.toNat default)),(.int .u16 (a4.getD s3.2.2.2.2.2.toNat default)),(dI (-1)),(dI (-1))])])) (.tok 3408 44))),(5,(.ap 5 s3.2.1.length (cF e44 s3.2.1) (.tok 1456 44))),(7,(.arr 224 1 (a0.Transitions.length:Int).toNat)),(9,(z47o1_6 s2 y1)),(10,(aB true)),(11,(aB s3.2.2.2.2.1)),(30,(.vec 48 1 y1.length)),(31,(aI (y1.length:Int))),(32,(aI s2.2.2.2)),(39,(z47o1_5 a4)),(40,(aI (a4.length:Int))),(41,(aI s3.2.2.2.2.2))],[(48,(.vec 3 1 y1.length (cF dI y1))),(224,(.arr 1 (a0.Transitions.length:Int).toNat (cF D.bool y6))),(0,(z47o1_0 a0 a1 a2 a3 a4))],[3408,3392,1456,48,49,50],3552⟩ (.inl ((s3.1++([(⟨(1:Int),(y1.getD s2.2.2.2.toNat default),(a4.getD s3.2.2.2.2.2.toNat default),(-1:Int),(-1:Int)⟩:T44)]:List T44)),s3.2.1,y6,true,s3.2.2.2.2.1)) ⟨rfl,(wh (idn [0,48,224]) [(3408,3408),(3744,1456),(48,48),(49,49),(50,50)] ⟨⟨rfl,rfl⟩,⟨rfl,rfl,rfl⟩,⟨rfl,rfl,rfl,(de_app dr (de_lit rfl rfl))⟩,⟨rfl,rfl,rfl,dr⟩,⟨rfl,rfl,rfl⟩,dr,dr,dr,⟨rfl,rfl,rfl⟩,dr,dr,dr,dr,dr⟩)⟩))) (.ite ((decide (1 < (y4.length:Int)))&&(!s3.2.2.2.2.1)) (nd ((0:Int)≤(0:Int)) (nd (0 < (y4.length:Int)) (nd ((0:Int)≤(1:Int)) (nd (1 < (y4.length:Int)) (nd ((s3.2.1.length+1) * 40≤140737488355328) (.ret .normal ⟨[(0,(.ptr 0 0)),(3,(.vec 48 1 y1.length)),(4,(.ap 5 s3.1.length (cF e44 s3.1) (.tok 1120 44))),(5,(.ap 5 (s3.2.1.length+1) (appF s3.2.1.length (cF e44 s3.2.1) (litF [(.agg [(.int .u8 2),(dI (y1.getD s2.2.2.2.toNat default)),(.int .u16 (a4.getD s3.2.2.2.2.2.toNat default)),(dI (y4.getD (0:Int).toNat default)),(dI (y4.getD (1:Int).toNat default))])])) (.tok 3616 44))),(7,(.arr 224 1 (a0.Transitions.length:Int).toNat)),(9,(z47o1_6 s2 y1)),(10,(aB s3.2.2.2.1)),(11,(aB true)),(30,(.vec 48 1 y1.length)),(31,(aI (y1.length:Int))),(32,(aI s2.2.2.2)),(39,(z47o1_5 a4)),(40,(aI (a4.length:Int))),(41,(aI s3.2.2.2.2.2))],[(48,(.vec 3 1 y1.length (cF dI y1))),(224,(.arr 1 (a0.Transitions.length:Int).toNat (cF D.bool y6))),(0,(z47o1_0 a0 a1 a2 a3 a4))],[3616,3600,1120,48,49,50],3648⟩ (.inl (s3.1,(s3.2.1++([(⟨(2:Int),(y1.getD s2.2.2.2.toNat default),(a4.getD s3.2.2.2.2.2.toNat default),(y4.getD (0:Int).toNat default),(y4.getD (1:Int).toNat default)⟩:T44)]:List T44)),y6,s3.2.2.2.1,true)) ⟨rfl,(wh (idn [0,48,224]) [(3408,1120),(3744,3616),(48,48),(49,49),(50,50)] ⟨⟨rfl,rfl⟩,⟨rfl,rfl,rfl⟩,⟨rfl,rfl,rfl,dr⟩,⟨rfl,rfl,rfl,(de_app dr (de_lit rfl rfl))⟩,⟨rfl,rfl,rfl⟩,dr,dr,dr,⟨rfl,rfl,rfl⟩,dr,dr,dr,dr,dr⟩)⟩)))))) (.ret .normal ⟨(z47o1_1 a0 a4 s2 s3 y1),[(48,(.vec 3 1 y1.length (cF dI y1))),(224,(.arr 1 (a0.Transitions.length:Int).toNat (cF D.bool y6))),(0,(z47o1_0 a0 a1 a2 a3 a4))],[1120,1456,48,49,50],3424⟩ (.inl (s3.1,s3.2.1,y6,s3.2.2.2.1,s3.2.2.2.2.1)) ⟨rfl,(wk (idn [0,48,224]) [(3408,1120),(3744,1456),(48,48),(49,49),(50,50)])⟩)))))))) fun y7=>(.sg [] [(0,[0,3,4,5,7,9,10,11,30,31,32,39,40,41],[48,224,0])] (.ret .normal ⟨[(0,(.ptr 0 0)),(3,(.vec 48 1 y1.length)),(4,(.ap 5 y7.1.length (cF e44 y7.1) (.tok 3408 44))),(5,(.ap 5 y7.2.1.length (cF e44 y7.2.1) (.tok 3744 44))),(7,(.arr 224 1 (a0.Transitions.length:Int).toNat)),(9,(z47o1_6 s2 y1)),(10,(aB y7.2.2.2.1)),(11,(aB y7.2.2.2.2)),(30,(.vec 48 1 y1.length)),(31,(aI (y1.length:Int))),(32,(aI s2.2.2.2)),(39,(z47o1_5 a4)),(40,(aI (a4.length:Int))),(41,(aI (IntKind.wrap .i64 (s3.2.2.2.2.2+1))))],[(48,(.vec 3 1 y1.length (cF dI y1))),(224,(.arr 1 (a0.Transitions.length:Int).toNat (cF D.bool y7.2.2.1))),(0,(z47o1_0 a0 a1 a2 a3 a4))],[3408,3744,48,49,50],3808⟩ (.inl (y7.1,y7.2.1,y7.2.2.1,y7.2.2.2.1,y7.2.2.2.2,(IntKind.wrap .i64 (s3.2.2.2.2.2+1)))) ⟨rfl,(wk (idn [0,48,224]) [(1120,3408),(1456,3744),(48,48),(49,49),(50,50)])⟩)))))))))) fun y8=>(.sg [] [(0,[0,3,4,5,7,30,31,32],[48,224,0])] (.ret .normal ⟨[(0,(.ptr 0 0)),(3,(.vec 48 1 y1.length)),(4,(.ap 5 y8.1.length (cF e44 y8.1) (.tok 1120 44))),(5,(.ap 5 y8.2.1.length (cF e44 y8.2.1) (.tok 1456 44))),(7,(.arr 224 1 (a0.Transitions.length:Int).toNat)),(30,(.vec 48 1 y1.length)),(31,(aI (y1.length:Int))),(32,(aI (IntKind.wrap .i64 (s2.2.2.2+1))))],[(48,(.vec 3 1 y1.length (cF dI y1))),(224,(.arr 1 (a0.Transitions.length:Int).toNat (cF D.bool y8.2.2))),(0,(z47o1_0 a0 a1 a2 a3 a4))],[1120,1456,48,49,50],2832⟩ (.inl (y8.1,y8.2.1,y8.2.2,(IntKind.wrap .i64 (s2.2.2.2+1)))) ⟨rfl,(wk (idn [0,48,224]) (idn [1120,1456,48,49,50]))⟩))))))))) fun y9=>(.sq 1 [] [(0,[0,3,6,7],[48,224,0])] (fun(_:Unit)=>⟨[(0,(.ptr 0 0)),(3,(.vec 48 1 y1.length)),(6,(.ap 5 (y9.1++y9.2.1).length (cF e44 (y9.1++y9.2.1)) (.tok 1616 44))),(7,(.arr 224 1 (a0.Transitions.length:Int).toNat))],[(48,(.vec 3 1 y1.length (cF dI y1))),(224,(.arr 1 (a0.Transitions.length:Int).toNat (cF D.bool y9.2.2))),(0,(z47o1_0 a0 a1 a2 a3 a4))],[1616,48,49,50],1648⟩) (nd ((y9.1.length+y9.2.1.length) * 40≤140737488355328) (.ret .normal ⟨[(0,(.ptr 0 0)),(3,(.vec 48 1 y1.length)),(6,(.ap 5 (y9.1.length+y9.2.1.length) (appF y9.1.length (cF e44 y9.1) (cF e44 y9.2.1)) (.tok 1616 44))),(7,(.arr 224 1 (a0.Transitions.length:Int).toNat))],[(48,(.vec 3 1 y1.length (cF dI y1))),(224,(.arr 1 (a0.Transitions.length:Int).toNat (cF D.bool y9.2.2))),(0,(z47o1_0 a0 a1 a2 a3 a4))],[1616,1456,48,49,50],1648⟩ (.inl ()) ⟨rfl,(wh (idn [0,48,224]) (idn [1616,48,49,50]) ⟨⟨rfl,rfl⟩,⟨rfl,rfl,rfl⟩,⟨rfl,rfl,rfl,(de_app dr dr)⟩,⟨rfl,rfl,rfl⟩⟩)⟩)) (fun _=>(.sc (fun(y12:(List T44))=>⟨[(0,(.ptr 0 0)),(6,(.ap 5 y12.length (cF e44 y12) (.tok 1616 44))),(7,(.arr 224 1 (a0.Transitions.length:Int).toNat))],[(224,(.arr 1 (a0.Transitions.length:Int).toNat (cF D.bool y9.2.2))),(0,(z47o1_0 a0 a1 a2 a3 a4))],[1616,48,49,50],2032⟩) (.sq 1 [(26,tm1 103 (eSl 1 dI))] [(0,[0,3,6,7,103,104,105],[48,224,0])] (fun(y10:(List Int)×Int)=>⟨[(0,(.ptr 0 0)),(3,(.vec 48 1 y1.length)),(6,(.ap 5 (y9.1++y9.2.1).length (cF e44 (y9.1++y9.2.1)) (.tok 1616 44))),(7,(.arr 224 1 (a0.Transitions.length:Int).toNat)),(103,(.d (eSl 1 dI y10.1))),(104,(aI y10.2)),(105,(aI 0))],[(48,(.vec 3 1 y1.length (cF dI y1))),(224,(.arr 1 (a0.Transitions.length:Int).toNat (cF D.bool y9.2.2))),(0,(z47o1_0 a0 a1 a2 a3 a4))],[1616,48,49,50],1760⟩) (c3 (@p53 a0) fun x26=>(.nx (x26,(x26.length:Int)))) (fun y10=>(.bk (.lp (fun(s11:(List T44)×Int)=>⟨[(0,(.ptr 0 0)),(3,(.vec 48 1 y1.length)),(6,(.ap 5 s11.1.length (cF e44 s11.1) (.tok 1616 44))),(7,(.arr 224 1 (a0.Transitions.length:Int).toNat)),(103,(.d (eSl 1 dI y10.1))),(104,(aI y10.2)),(105,(aI s11.2))],[(48,(.vec 3 1 y1.length (cF dI y1))),(224,(.arr 1 (a0.Transitions.length:Int).toNat (cF D.bool y9.2.2))),(0,(z47o1_0 a0 a1 a2 a3 a4))],[1616,48,49,50],2016⟩) ((y9.1++y9.2.1),(0:Int)) (wk (idn [0,48,224]) (idn [1616,48,49,50])) fun s11=>(.sg [(29,tm1 111 D.bool)] [(0,[0,3,6,7,103,104,105],[48,224,0]),(8,[0,6,7],[224,0])] (.ite (decide (s11.2 < y10.2)) (nd (0≤s11.2) (nd (s11.2 < (y10.1.length:Int)) (c3 (@p49 y1 (y10.1.getD s11.2.toNat default)) fun x29=>(.ite (!x29) (nd ((s11.1.length+1) * 40≤140737488355328) (.ret .normal ⟨[(0,(.ptr 0 0)),(3,(.vec 48 1 y1.length)),(6,(.ap 5 (s11.1.length+1) (appF s11.1.length (cF e44 s11.1) (litF [(.agg [(.int .u8 3),(dI (y10.1.getD s11.2.toNat default)),(.int .u16 0),(dI (-1)),(dI (-1))])])) (.tok 2208 44))),(7,(.arr 224 1 (a0.Transitions.length:Int).toNat)),(103,(.d (eSl 1 dI y10.1))),(104,(aI y10.2)),(105,(aI (IntKind.wrap .i64 (s11.2+1))))],[(48,(.vec 3 1 y1.length (cF dI y1))),(224,(.arr 1 (a0.Transitions.length:Int).toNat (cF D.bool y9.2.2))),(0,(z47o1_0 a0 a1 a2 a3 a4))],[2208,2192,48,49,50],2272⟩ (.inl ((s11.1++([(⟨(3:Int),(y10.1.getD s11.2.toNat default),(0:Int),(-1:Int),(-1:Int)⟩:T44)]:List T44)),(IntKind.wrap .i64 (s11.2+1)))) ⟨rfl,(wh (idn [0,48,224]) [(1616,2208),(48,48),(49,49),(50,50)] ⟨⟨rfl,rfl⟩,⟨rfl,rfl,rfl⟩,⟨rfl,rfl,rfl,(de_app dr (de_lit rfl rfl))⟩,⟨rfl,rfl,rfl⟩,dr,dr,dr⟩)⟩)) (.ret .normal ⟨[(0,(.ptr 0 0)),(3,(.vec 48 1 y1.length)),(6,(.ap 5 s11.1.length (cF e44 s11.1) (.tok 1616 44))),(7,(.arr 224 1 (a0.Transitions.length:Int).toNat)),(103,(.d (eSl 1 dI y10.1))),(104,(aI y10.2)),(105,(aI (IntKind.wrap .i64 (s11.2+1))))],[(48,(.vec 3 1 y1.length (cF dI y1))),(224,(.arr 1 (a0.Transitions.length:Int).toNat (cF D.bool y9.2.2))),(0,(z47o1_0 a0 a1 a2 a3 a4))],[1616,48,49,50],2176⟩ (.inl (s11.1,(IntKind.wrap .i64 (s11.2+1)))) ⟨rfl,(wk (idn [0,48,224]) (idn [1616,48,49,50]))⟩))))) (.ret (.exit 6) _ (.inr (.inl s11.1)) ⟨rfl,rfl,Weak.refl _⟩))))))) fun y12=>(.sc (fun(y14:(List T44))=>⟨[(0,(.ptr 0 0)),(6,(.ap 5 y14.length (cF e44 y14) (.tok 1616 44)))],[(0,(z47o1_0 a0 a1 a2 a3 a4))],[1616,48,49,50],2352⟩) (.sq 1 [] [(0,[0,6,119,120,121],[224,0])] (fun(_:Unit)=>⟨[(0,(.ptr 0 0)),(6,(.ap 5 y12.length (cF e44 y12) (.tok 1616 44))),(119,(.arr 224 1 (a0.Transitions.length:Int).toNat)),(120,(z47o1_7 a0)),(121,(aI 0))],[(224,(.arr 1 (a0.Transitions.length:Int).toNat (cF D.bool y9.2.2))),(0,(z47o1_0 a0 a1 a2 a3 a4))],[1616,48,49,50],2080⟩) (.nx ()) (fun _=>(.bk (.lp (fun(s13:(List T44)×Int)=>⟨[(0,(.ptr 0 0)),(6,(.ap 5 s13.1.length (cF e44 s13.1) (.tok 1616 44))),(119,(.arr 224 1 (a0.Transitions.length:Int).toNat)),(120,(z47o1_7 a0)),(121,(aI s13.2))],[(224,(.arr 1 (a0.Transitions.length:Int).toNat (cF D.bool y9.2.2))),(0,(z47o1_0 a0 a1 a2 a3 a4))],[1616,48,49,50],2336⟩) (y12,(0:Int)) (wk (idn [0,224]) (idn [1616,48,49,50])) fun s13=>(.sg [] [(0,[0,6,119,120,121],[224,0]),(10,[0,6],[0])] (.ite (decide (s13.2 < ((a0.Transitions.length:Int).toNat:Int))) (nd (0≤s13.2) (nd (s13.2 < ((a0.Transitions.length:Int).toNat:Int)) (nd (s13.2.toNat < (a0.Transitions.length:Int).toNat) (.ite (!(y9.2.2.getD s13.2.toNat default)) (nd ((s13.1.length+1) * 40≤140737488355328) (.ret .normal ⟨[(0,(.ptr 0 0)),(6,(.ap 5 (s13.1.length+1) (appF s13.1.length (cF e44 s13.1) (litF [(.agg [(.int .u8 4),(dI (-1)),(.int .u16 0),(dI s13.2),(dI (-1))])])) (.tok 2528 44))),(119,(.arr 224 1 (a0.Transitions.length:Int).toNat)),(120,(z47o1_7 a0)),(121,(aI (IntKind.wrap .i64 (s13.2+1))))],[(224,(.arr 1 (a0.Transitions.length:Int).toNat (cF D.bool y9.2.2))),(0,(z47o1_0 a0 a1 a2 a3 a4))],[2528,2512,48,49,50],2592⟩ (.inl ((s13.1++([(⟨(4:Int),(-1:Int),(0:Int),s13.2,(-1:Int)⟩:T44)]:List T44)),(IntKind.wrap .i64 (s13.2+1)))) ⟨rfl,(wh (idn [0,224]) [(1616,2528),(48,48),(49,49),(50,50)] ⟨⟨rfl,rfl⟩,⟨rfl,rfl,rfl,(de_app dr (de_lit rfl rfl))⟩,⟨rfl,rfl,rfl⟩,dr,dr⟩)⟩)) (.ret .normal ⟨[(0,(.ptr 0 0)),(6,(.ap 5 s13.1.length (cF e44 s13.1) (.tok 1616 44))),(119,(.arr 224 1 (a0.Transitions.length:Int).toNat)),(120,(z47o1_7 a0)),(121,(aI (IntKind.wrap .i64 (s13.2+1))))],[(224,(.arr 1 (a0.Transitions.length:Int).toNat (cF D.bool y9.2.2))),(0,(z47o1_0 a0 a1 a2 a3 a4))],[1616,48,49,50],2496⟩ (.inl (s13.1,(IntKind.wrap .i64 (s13.2+1)))) ⟨rfl,(wk (idn [0,224]) (idn [1616,48,49,50]))⟩))))) (.ret (.exit 8) _ (.inr (.inl s13.1)) ⟨rfl,rfl,Weak.refl _⟩))))))) fun y14=>(.sg [] [(1,[0,2],[0])] (.ret .ret ⟨[(0,(.ptr 0 0)),(2,(.ap 5 y14.length (cF e44 y14) (.tok 1616 44)))],[(0,(z47o1_0 a0 a1 a2 a3 a4))],[1616,48,49,50],2384⟩ y14 ⟨rfl,(rk [(0,0)] (idn [1616,48,49,50]) 2384)⟩)))))))))
noncomputable def m47o1 (a0:T27) (a1:List T37) (a2 a3 a4:List Int):Option ((List T44)):=(d47o1 a0 a1 a2 a3 a4).m
theorem po47o1 {a0:T27} {a1:List T37} {a2:List Int} {a3:List Int} {a4:List Int} {r:(List T44)} (h:m47o1 a0 a1 a2 a3 a4=some r):ObjF Tryz.prog 47 [(.ptr 0 0)] [(0,(z47o1_3 a0 a1 a2 a3 a4))] [0,1,2] (q47o1 a0 a1 a2 a3 a4 r):=obj_jd (d47o1 a0 a1 a2 a3 a4) Tryz.func47 h
noncomputable def o18_0 (a0:T27) (x:((List T37)×(List Int)×(List Int)×(List Int))):OT:=⟨(.tup [(.ptr 80 0),(aI 0)]),[],[],[(80,(.cells (g27 a0++([(.ap 2 x.1.length (cF e37 x.1) (.tok 80 37)),(.ap 1 x.2.1.length (cF dI x.2.1) (.tok 81 3)),(.ap 1 x.2.2.1.length (cF (D.int .u16) x.2.2.1) (.tok 82 42)),(.d (eSl 1 (D.int .u16) x.2.2.2))]:List AV))))],[80,81,82]⟩
noncomputable def o18_1 (a0:T27) (x:(List T44)×((List T37)×(List Int)×(List Int)×(List Int))):OT:=⟨(.ap 5 x.1.length (cF e44 x.1) (.tok 224 44)),[80],[80,81,82],[(80,(.cells (g27 a0++([(.ap 2 x.2.1.length (cF e37 x.2.1) (.tok 225 37)),(.ap 1 x.2.2.1.length (cF dI x.2.2.1) (.tok 226 3)),(.ap 1 x.2.2.2.1.length (cF (D.int .u16) x.2.2.2.1) (.tok 227 42)),(.d (eSl 1 (D.int .u16) x.2.2.2.2))]:List AV))))],[224,225,226,227]⟩
noncomputable def d18 (a0:T27):JF Tryz.prog Tryz.f18 [(e27 a0)] (fun(r:(List T44)×Int)=>(.tup [(eSl 5 e44 r.1),(dI r.2)])) :=
 (.or (.sg [(1,⟨Int,fun x=>[],fun x=>[(80,⟨(.tup [.nilp,(aI x)]),[],[],[],[]⟩)],[]⟩),(4,⟨Unit,fun x=>[],fun x=>[],[]⟩)] [(1,[2,3],[])] (c3 (p:=fun x1=>ObjL Tryz.prog 44 [(.d (e27 a0))] [] 80 ⟨(.tup [.nilp,(aI x1)]),[],[],[],[]⟩) (fun x1 (h1:m44o1 a0=some _)=>ok [] [] [] [] (po44o1 h1)) fun x1=>(.ite (x1 != 0) (.ret .ret ⟨[(2,aN),(3,(aI x1))],[],[],256⟩ ([],x1) ⟨rfl,_,Weak.refl _,⟨de_nil,dr,trivial⟩⟩) (.exi (Unit) none (fun x4=>.no) (by intro x4 h;cases h) (fun x4 i=>match i with  | _=>.bad))))) (.sg [(1,⟨((List T37)×(List Int)×(List Int)×(List Int)),fun x=>[],fun x=>[(80,(o18_0 a0 x))],[]⟩),(4,⟨(List T44)×((List T37)×(List Int)×(List Int)×(List Int)),fun x=>[],fun x=>[(224,(o18_1 a0 x))],[]⟩)] [(1,[2,3],[])] (c3 (p:=fun x1=>ObjL Tryz.prog 44 [(.d (e27 a0))] [] 80 (o18_0 a0 x1)) (fun x1 (h1:m44o2 a0=some _)=>ok [] [] [(80,384)] [(80,288),(81,304),(82,320)] (po44o2 h1)) fun x1=>(.ite ((0:Int) != (0:Int)) (.ret .ret ⟨[(2,aN),(3,(aI 0))],[],[80,81,82],256⟩ ([],(0:Int)) ⟨rfl,_,Weak.refl _,⟨de_nil,dr,trivial⟩⟩) (.exi ((List T44)×((List T37)×(List Int)×(List Int)×(List Int))) ((m47o1 a0 x1.1 x1.2.1 x1.2.2.1 x1.2.2.2).bind fun r4_0=>some (r4_0,x1)) (fun x4=>(.p (ObjL Tryz.prog 47 [(.ptr 80 0)] [(80,some (.cells (g27 a0++([(.ap 2 x1.1.length (cF e37 x1.1) (.tok 80 37)),(.ap 1 x1.2.1.length (cF dI x1.2.1) (.tok 81 3)),(.ap 1 x1.2.2.1.length (cF (D.int .u16) x1.2.2.1) (.tok 82 42)),(.d (eSl 1 (D.int .u16) x1.2.2.2))]:List AV))))] 224 (o18_1 a0 x4)) (.fin 0))) (by intro x4 h;obtain⟨r4_0,h1,h⟩:=Option.bind_eq_some_iff.1 h;cases h;exact⟨ok [(0,80)] [(0,80),(1,81),(2,82)] [(80,0)] [(224,1616),(225,48),(226,49),(227,50)] (po47o1 h1),trivial⟩) (fun x4 _=>(.ret .ret ⟨[(2,(.ap 5 x4.1.length (cF e44 x4.1) (.tok 224 44))),(3,(aI 0))],[],[224,225,226,227],272⟩ (x4.1,(0:Int)) ⟨rfl,_,Weak.refl _,⟨dr,dr,trivial⟩⟩)))))))
noncomputable def m18 (a0:T27):Option ((List T44)×Int):=(d18 a0).m
theorem p18 {a0:T27} {r:(List T44)×Int} (h:m18 a0=some r):PureAt Tryz.prog 18 [(e27 a0)] (.tup [(eSl 5 e44 r.1),(dI r.2)]):=pure_jd (d18 a0) Tryz.func18 h
noncomputable abbrev z13_0:AV:=(.d (.agg [(dI 0),(dI (-1)),(dI 2),(dI (-1)),(dI 3),(dI (-1)),(dI 0),(dI 2),(dI 0),(dI 3)]))
noncomputable def d13:JF Tryz.prog Tryz.f13 [] (fun(r:Bool)=>(.bool r)) :=
 (.sq 7 [(1,tm1 13 (fun(x:(T27×(List T138)))=>(.tup [(e27 x.1),(eSl 3 e138 x.2)]))),(2,tm1 18 (fun(x:((List T37)×Int))=>(.tup [(eSl 2 e37 x.1),(dI x.2)]))),(3,tm1 23 (fun(x:((List Int)×Int))=>(.tup [(eSl 1 (D.int .u16) x.1),(dI x.2)]))),(4,tm1 28 (fun(x:((List T44)×Int))=>(.tup [(eSl 5 e44 x.1),(dI x.2)])))] [(1,[0],[]),(0,[3,9],[1168])] (fun(y1:(List T37))=>⟨[(3,(.d (eSl 2 e37 y1))),(9,(.ptr 1168 0))],[(1168,(.cells [(aI 0),(aI (-1)),(aI 2),(aI (-1)),(aI 3),(aI (-1)),(aI 0),(aI 2),(aI 0),(aI 3)]))],[],1200⟩) (c3 (@p42 K1) fun x1=>(c3 (@p15 x1.1) fun x2=>(c3 (@p21 x1.1 (3:Int)) fun x3=>(c3 (@p18 x1.1) fun x4=>(.needG (!((((x2.1.length:Int) != (5:Int)) || (x2.2 != 0)) || ((x3.1.length:Int) != (2:Int)))) ((0:Int)≤(0:Int)) inferInstance (.needG (!((((x2.1.length:Int) != (5:Int)) || (x2.2 != 0)) || ((x3.1.length:Int) != (2:Int)))) (0 < (x3.1.length:Int)) inferInstance (.needG (!(((((x2.1.length:Int) != (5:Int)) || (x2.2 != 0)) || ((x3.1.length:Int) != (2:Int))) || ((x3.1.getD (0:Int).toNat default) != 1))) ((0:Int)≤(1:Int)) inferInstance (.needG (!(((((x2.1.length:Int) != (5:Int)) || (x2.2 != 0)) || ((x3.1.length:Int) != (2:Int))) || ((x3.1.getD (0:Int).toNat default) != 1))) (1 < (x3.1.length:Int)) inferInstance (.ite (((((((((x2.1.length:Int) != (5:Int)) || (x2.2 != 0)) || ((x3.1.length:Int) != (2:Int))) || ((x3.1.getD (0:Int).toNat default) != 1)) || ((x3.1.getD (1:Int).toNat default) != 0)) || (x3.2 != 0)) || ((x4.1.length:Int) != (0:Int))) || (x4.2 != 0)) (.ret .ret ⟨[(0,(aB false))],[],[],1088⟩ (.inr (false)) ⟨rfl,rfl,_,Weak.refl _,dr⟩) (.nx x2.1)))))))))) (fun y1=>(.sc (fun(_:Unit)=>⟨[],[],[],4208⟩) (.sq 1 [] [(0,[3,74,75],[])] (fun(_:Unit)=>⟨[(3,(.d (eSl 2 e37 y1))),(74,z13_0),(75,(aI 0))],[],[],1232⟩) (.nx ()) (fun _=>(.bk (.lu 6 (.r (fun(_:Unit)=>⟨[(3,(.d (eSl 2 e37 y1))),(74,z13_0),(75,(aI 1))],[],[],1824⟩) (.sq 1 [] [(0,[3,74,75,76],[])] (fun(_:Unit)=>⟨[(3,(.d (eSl 2 e37 y1))),(74,z13_0),(75,(aI 0)),(76,(aB true))],[],[],1248⟩) (.nx ()) (fun _=>(.sc (fun(_:Unit)=>⟨[(3,(.d (eSl 2 e37 y1))),(74,z13_0),(75,(aI 0))],[],[],1248⟩) (.ct (.sg [] [(0,[3,74,75],[])] (.nx ()))) fun _=>(.sc (fun(_:Unit)=>⟨[(3,(.d (eSl 2 e37 y1))),(74,z13_0),(75,(aI 0))],[],[],1792⟩) (.bk (.sq 2 [] [(0,[3,74,75,107],[])] (fun(_:Unit)=>⟨[(3,(.d (eSl 2 e37 y1))),(74,z13_0),(75,(aI 0)),(107,(aB ((((y1.getD (0:Int).toNat default).Leaf != 0) || (((y1.getD (0:Int).toNat default).Memory.length:Int) != (4:Int))) || (((y1.getD (0:Int).toNat default).Memory.getD (1:Int).toNat default) != (-1:Int)))))],[],[],1792⟩) (nd ((0:Int)≤(0:Int)) (nd (0 < (y1.length:Int)) (.needG (!((y1.getD (0:Int).toNat default).Leaf != 0)) ((0:Int)≤(0:Int)) inferInstance (.needG (!((y1.getD (0:Int).toNat default).Leaf != 0)) (0 < (y1.length:Int)) inferInstance (.needG (!(((y1.getD (0:Int).toNat default).Leaf != 0) || (((y1.getD (0:Int).toNat default).Memory.length:Int) != (4:Int)))) ((0:Int)≤(0:Int)) inferInstance (.needG (!(((y1.getD (0:Int).toNat default).Leaf != 0) || (((y1.getD (0:Int).toNat default).Memory.length:Int) != (4:Int)))) (0 < (y1.length:Int)) inferInstance (.needG (!(((y1.getD (0:Int).toNat default).Leaf != 0) || (((y1.getD (0:Int).toNat default).Memory.length:Int) != (4:Int)))) ((0:Int)≤(1:Int)) inferInstance (.needG (!(((y1.getD (0:Int).toNat default).Leaf != 0) || (((y1.getD (0:Int).toNat default).Memory.length:Int) != (4:Int)))) (1 < ((y1.getD (0:Int).toNat default).Memory.length:Int)) inferInstance (.nx ()))))))))) (fun _=>(.cd ((((y1.getD (0:Int).toNat default).Leaf != 0) || (((y1.getD (0:Int).toNat default).Memory.length:Int) != (4:Int))) || (((y1.getD (0:Int).toNat default).Memory.getD (1:Int).toNat default) != (-1:Int))) (.sg [] [(1,[0],[])] (.ret .ret ⟨[(0,(aB false))],[],[],1808⟩ (.inr (.inr (.inr (false)))) ⟨rfl,rfl,rfl,rfl,_,Weak.refl _,dr⟩)) (.sg [] [(0,[3,74,75],[])] (.ret .normal _ (.inl ()) ⟨rfl,Weak.refl _⟩)))))) fun _=>(.sg [] [(0,[3,74,75],[])] (.nx ())))))) fun _=>(.r (fun(_:Unit)=>⟨[(3,(.d (eSl 2 e37 y1))),(74,z13_0),(75,(aI 2))],[],[],2416⟩) (.sq 1 [] [(0,[3,74,75,76],[])] (fun(_:Unit)=>⟨[(3,(.d (eSl 2 e37 y1))),(74,z13_0),(75,(aI 1)),(76,(aB true))],[],[],1840⟩) (.nx ()) (fun _=>(.sc (fun(_:Unit)=>⟨[(3,(.d (eSl 2 e37 y1))),(74,z13_0),(75,(aI 1))],[],[],1840⟩) (.ct (.sg [] [(0,[3,74,75],[])] (.nx ()))) fun _=>(.sc (fun(_:Unit)=>⟨[(3,(.d (eSl 2 e37 y1))),(74,z13_0),(75,(aI 1))],[],[],2384⟩) (.bk (.sq 2 [] [(0,[3,74,75,107],[])] (fun(_:Unit)=>⟨[(3,(.d (eSl 2 e37 y1))),(74,z13_0),(75,(aI 1)),(107,(aB ((((y1.getD (1:Int).toNat default).Leaf != 2) || (((y1.getD (1:Int).toNat default).Memory.length:Int) != (4:Int))) || (((y1.getD (1:Int).toNat default).Memory.getD (1:Int).toNat default) != (-1:Int)))))],[],[],2384⟩) (nd ((0:Int)≤(1:Int)) (nd (1 < (y1.length:Int)) (.needG (!((y1.getD (1:Int).toNat default).Leaf != 2)) ((0:Int)≤(1:Int)) inferInstance (.needG (!((y1.getD (1:Int).toNat default).Leaf != 2)) (1 < (y1.length:Int)) inferInstance (.needG (!(((y1.getD (1:Int).toNat default).Leaf != 2) || (((y1.getD (1:Int).toNat default).Memory.length:Int) != (4:Int)))) ((0:Int)≤(1:Int)) inferInstance (.needG (!(((y1.getD (1:Int).toNat default).Leaf != 2) || (((y1.getD (1:Int).toNat default).Memory.length:Int) != (4:Int)))) (1 < (y1.length:Int)) inferInstance (.needG (!(((y1.getD (1:Int).toNat default).Leaf != 2) || (((y1.getD (1:Int).toNat default).Memory.length:Int) != (4:Int)))) ((0:Int)≤(1:Int)) inferInstance (.needG (!(((y1.getD (1:Int).toNat default).Leaf != 2) || (((y1.getD (1:Int).toNat default).Memory.length:Int) != (4:Int)))) (1 < ((y1.getD (1:Int).toNat default).Memory.length:Int)) inferInstance (.nx ()))))))))) (fun _=>(.cd ((((y1.getD (1:Int).toNat default).Leaf != 2) || (((y1.getD (1:Int).toNat default).Memory.length:Int) != (4:Int))) || (((y1.getD (1:Int).toNat default).Memory.getD (1:Int).toNat default) != (-1:Int))) (.sg [] [(1,[0],[])] (.ret .ret ⟨[(0,(aB false))],[],[],2400⟩ (.inr (.inr (.inr (false)))) ⟨rfl,rfl,rfl,rfl,_,Weak.refl _,dr⟩)) (.sg [] [(0,[3,74,75],[])] (.ret .normal _ (.inl ()) ⟨rfl,Weak.refl _⟩)))))) fun _=>(.sg [] [(0,[3,74,75],[])] (.nx ())))))) fun _=>(.r (fun(_:Unit)=>⟨[(3,(.d (eSl 2 e37 y1))),(74,z13_0),(75,(aI 3))],[],[],3008⟩) (.sq 1 [] [(0,[3,74,75,76],[])] (fun(_:Unit)=>⟨[(3,(.d (eSl 2 e37 y1))),(74,z13_0),(75,(aI 2)),(76,(aB true))],[],[],2432⟩) (.nx ()) (fun _=>(.sc (fun(_:Unit)=>⟨[(3,(.d (eSl 2 e37 y1))),(74,z13_0),(75,(aI 2))],[],[],2432⟩) (.ct (.sg [] [(0,[3,74,75],[])] (.nx ()))) fun _=>(.sc (fun(_:Unit)=>⟨[(3,(.d (eSl 2 e37 y1))),(74,z13_0),(75,(aI 2))],[],[],2976⟩) (.bk (.sq 2 [] [(0,[3,74,75,107],[])] (fun(_:Unit)=>⟨[(3,(.d (eSl 2 e37 y1))),(74,z13_0),(75,(aI 2)),(107,(aB ((((y1.getD (2:Int).toNat default).Leaf != 3) || (((y1.getD (2:Int).toNat default).Memory.length:Int) != (4:Int))) || (((y1.getD (2:Int).toNat default).Memory.getD (1:Int).toNat default) != (-1:Int)))))],[],[],2976⟩) (nd ((0:Int)≤(2:Int)) (nd (2 < (y1.length:Int)) (.needG (!((y1.getD (2:Int).toNat default).Leaf != 3)) ((0:Int)≤(2:Int)) inferInstance (.needG (!((y1.getD (2:Int).toNat default).Leaf != 3)) (2 < (y1.length:Int)) inferInstance (.needG (!(((y1.getD (2:Int).toNat default).Leaf != 3) || (((y1.getD (2:Int).toNat default).Memory.length:Int) != (4:Int)))) ((0:Int)≤(2:Int)) inferInstance (.needG (!(((y1.getD (2:Int).toNat default).Leaf != 3) || (((y1.getD (2:Int).toNat default).Memory.length:Int) != (4:Int)))) (2 < (y1.length:Int)) inferInstance (.needG (!(((y1.getD (2:Int).toNat default).Leaf != 3) || (((y1.getD (2:Int).toNat default).Memory.length:Int) != (4:Int)))) ((0:Int)≤(1:Int)) inferInstance (.needG (!(((y1.getD (2:Int).toNat default).Leaf != 3) || (((y1.getD (2:Int).toNat default).Memory.length:Int) != (4:Int)))) (1 < ((y1.getD (2:Int).toNat default).Memory.length:Int)) inferInstance (.nx ()))))))))) (fun _=>(.cd ((((y1.getD (2:Int).toNat default).Leaf != 3) || (((y1.getD (2:Int).toNat default).Memory.length:Int) != (4:Int))) || (((y1.getD (2:Int).toNat default).Memory.getD (1:Int).toNat default) != (-1:Int))) (.sg [] [(1,[0],[])] (.ret .ret ⟨[(0,(aB false))],[],[],2992⟩ (.inr (.inr (.inr (false)))) ⟨rfl,rfl,rfl,rfl,_,Weak.refl _,dr⟩)) (.sg [] [(0,[3,74,75],[])] (.ret .normal _ (.inl ()) ⟨rfl,Weak.refl _⟩)))))) fun _=>(.sg [] [(0,[3,74,75],[])] (.nx ())))))) fun _=>(.r (fun(_:Unit)=>⟨[(3,(.d (eSl 2 e37 y1))),(74,z13_0),(75,(aI 4))],[],[],3600⟩) (.sq 1 [] [(0,[3,74,75,76],[])] (fun(_:Unit)=>⟨[(3,(.d (eSl 2 e37 y1))),(74,z13_0),(75,(aI 3)),(76,(aB true))],[],[],3024⟩) (.nx ()) (fun _=>(.sc (fun(_:Unit)=>⟨[(3,(.d (eSl 2 e37 y1))),(74,z13_0),(75,(aI 3))],[],[],3024⟩) (.ct (.sg [] [(0,[3,74,75],[])] (.nx ()))) fun _=>(.sc (fun(_:Unit)=>⟨[(3,(.d (eSl 2 e37 y1))),(74,z13_0),(75,(aI 3))],[],[],3568⟩) (.bk (.sq 2 [] [(0,[3,74,75,107],[])] (fun(_:Unit)=>⟨[(3,(.d (eSl 2 e37 y1))),(74,z13_0),(75,(aI 3)),(107,(aB ((((y1.getD (3:Int).toNat default).Leaf != 0) || (((y1.getD (3:Int).toNat default).Memory.length:Int) != (4:Int))) || (((y1.getD (3:Int).toNat default).Memory.getD (1:Int).toNat default) != 2))))],[],[],3568⟩) (nd ((0:Int)≤(3:Int)) (nd (3 < (y1.length:Int)) (.needG (!((y1.getD (3:Int).toNat default).Leaf != 0)) ((0:Int)≤(3:Int)) inferInstance (.needG (!((y1.getD (3:Int).toNat default).Leaf != 0)) (3 < (y1.length:Int)) inferInstance (.needG (!(((y1.getD (3:Int).toNat default).Leaf != 0) || (((y1.getD (3:Int).toNat default).Memory.length:Int) != (4:Int)))) ((0:Int)≤(3:Int)) inferInstance (.needG (!(((y1.getD (3:Int).toNat default).Leaf != 0) || (((y1.getD (3:Int).toNat default).Memory.length:Int) != (4:Int)))) (3 < (y1.length:Int)) inferInstance (.needG (!(((y1.getD (3:Int).toNat default).Leaf != 0) || (((y1.getD (3:Int).toNat default).Memory.length:Int) != (4:Int)))) ((0:Int)≤(1:Int)) inferInstance (.needG (!(((y1.getD (3:Int).toNat default).Leaf != 0) || (((y1.getD (3:Int).toNat default).Memory.length:Int) != (4:Int)))) (1 < ((y1.getD (3:Int).toNat default).Memory.length:Int)) inferInstance (.nx ()))))))))) (fun _=>(.cd ((((y1.getD (3:Int).toNat default).Leaf != 0) || (((y1.getD (3:Int).toNat default).Memory.length:Int) != (4:Int))) || (((y1.getD (3:Int).toNat default).Memory.getD (1:Int).toNat default) != 2)) (.sg [] [(1,[0],[])] (.ret .ret ⟨[(0,(aB false))],[],[],3584⟩ (.inr (.inr (.inr (false)))) ⟨rfl,rfl,rfl,rfl,_,Weak.refl _,dr⟩)) (.sg [] [(0,[3,74,75],[])] (.ret .normal _ (.inl ()) ⟨rfl,Weak.refl _⟩)))))) fun _=>(.sg [] [(0,[3,74,75],[])] (.nx ())))))) fun _=>(.r (fun(_:Unit)=>⟨[(3,(.d (eSl 2 e37 y1))),(74,z13_0),(75,(aI 5))],[],[],4192⟩) (.sq 1 [] [(0,[3,74,75,76],[])] (fun(_:Unit)=>⟨[(3,(.d (eSl 2 e37 y1))),(74,z13_0),(75,(aI 4)),(76,(aB true))],[],[],3616⟩) (.nx ()) (fun _=>(.sc (fun(_:Unit)=>⟨[(3,(.d (eSl 2 e37 y1))),(74,z13_0),(75,(aI 4))],[],[],3616⟩) (.ct (.sg [] [(0,[3,74,75],[])] (.nx ()))) fun _=>(.sc (fun(_:Unit)=>⟨[(3,(.d (eSl 2 e37 y1))),(74,z13_0),(75,(aI 4))],[],[],4160⟩) (.bk (.sq 2 [] [(0,[3,74,75,107],[])] (fun(_:Unit)=>⟨[(3,(.d (eSl 2 e37 y1))),(74,z13_0),(75,(aI 4)),(107,(aB ((((y1.getD (4:Int).toNat default).Leaf != 0) || (((y1.getD (4:Int).toNat default).Memory.length:Int) != (4:Int))) || (((y1.getD (4:Int).toNat default).Memory.getD (1:Int).toNat default) != 3))))],[],[],4160⟩) (nd ((0:Int)≤(4:Int)) (nd (4 < (y1.length:Int)) (.needG (!((y1.getD (4:Int).toNat default).Leaf != 0)) ((0:Int)≤(4:Int)) inferInstance (.needG (!((y1.getD (4:Int).toNat default).Leaf != 0)) (4 < (y1.length:Int)) inferInstance (.needG (!(((y1.getD (4:Int).toNat default).Leaf != 0) || (((y1.getD (4:Int).toNat default).Memory.length:Int) != (4:Int)))) ((0:Int)≤(4:Int)) inferInstance (.needG (!(((y1.getD (4:Int).toNat default).Leaf != 0) || (((y1.getD (4:Int).toNat default).Memory.length:Int) != (4:Int)))) (4 < (y1.length:Int)) inferInstance (.needG (!(((y1.getD (4:Int).toNat default).Leaf != 0) || (((y1.getD (4:Int).toNat default).Memory.length:Int) != (4:Int)))) ((0:Int)≤(1:Int)) inferInstance (.needG (!(((y1.getD (4:Int).toNat default).Leaf != 0) || (((y1.getD (4:Int).toNat default).Memory.length:Int) != (4:Int)))) (1 < ((y1.getD (4:Int).toNat default).Memory.length:Int)) inferInstance (.nx ()))))))))) (fun _=>(.cd ((((y1.getD (4:Int).toNat default).Leaf != 0) || (((y1.getD (4:Int).toNat default).Memory.length:Int) != (4:Int))) || (((y1.getD (4:Int).toNat default).Memory.getD (1:Int).toNat default) != 3)) (.sg [] [(1,[0],[])] (.ret .ret ⟨[(0,(aB false))],[],[],4176⟩ (.inr (.inr (.inr (false)))) ⟨rfl,rfl,rfl,rfl,_,Weak.refl _,dr⟩)) (.sg [] [(0,[3,74,75],[])] (.ret .normal _ (.inl ()) ⟨rfl,Weak.refl _⟩)))))) fun _=>(.sg [] [(0,[3,74,75],[])] (.nx ())))))) fun _=>(.z (.sq 1 [] [(0,[3,74,75,76],[])] (fun(_:Unit)=>⟨[(3,(.d (eSl 2 e37 y1))),(74,z13_0),(75,(aI 5)),(76,(aB false))],[],[],4208⟩) (.nx ()) (fun _=>(.se (.ce (.sg [] [(2,[],[])] (.ret (.exit 0) _ (.inr (.inr (.inl ()))) ⟨rfl,rfl,rfl,Weak.refl _⟩)))))))))))))))) fun _=>(.sg [] [(1,[0],[])] (.ret .ret ⟨[(0,(aB true))],[],[],4224⟩ true ⟨rfl,_,Weak.refl _,dr⟩)))))
noncomputable def m13:Option (Bool):=(d13 ).m
theorem p13 {r:Bool} (h:m13  = some r):PureAt Tryz.prog 13 [] (.bool r):=pure_jd (d13 ) Tryz.func13 h
noncomputable abbrev z43_0 (a0:T27):AV:=(.ap 1 (([]:List (List UInt8))++(subL a0.Conds 0 (if 6 < (a0.Conds.length:Int)then(6:Int)else(a0.Conds.length:Int)).toNat)).length (cF D.str (([]:List (List UInt8))++(subL a0.Conds 0 (if 6 < (a0.Conds.length:Int)then(6:Int)else(a0.Conds.length:Int)).toNat))) (.tok 240 9))
noncomputable abbrev z43_1:Ob:=(.cells [(aS ([]:List UInt8)),aN,aN,aN,(aI 0),aN])
noncomputable abbrev z43_2 (y2:(List (List T116))):AV:=(.ap 1 y2.length (cF (eSl 2 e116) y2) (.tok 752 83))
noncomputable abbrev z43_3 (y4:(List T119)):AV:=(.ap 6 y4.length (cF e119 y4) (.tok 1680 119))
noncomputable abbrev z43_4:List (Nat×AV):=[(1,(.ptr 16 0)),(2,(.ptr 32 0)),(3,(.ptr 272 0))]
noncomputable abbrev z43_5 (a0:T27):List (Nat×Ob):=[(16,(.cells (g27 a0))),(32,z43_1),(272,(.cells [(aS a0.Name),(z43_0 a0),aN,aN,(aI a0.Start),aN]))]
noncomputable def d43 (a0:T27):JF Tryz.prog Tryz.f43 [(e27 a0)] (fun(r:T27)=>(e27 r)) :=
 (.sq 2 [] [(0,[1,2,3],[16,32,272])] (fun(_:Unit)=>⟨z43_4,(z43_5 a0),[240],304⟩) (nd (0≤(if 6 < (a0.Conds.length:Int)then(6:Int)else(a0.Conds.length:Int))) (nd ((if 6 < (a0.Conds.length:Int)then(6:Int)else(a0.Conds.length:Int))≤(a0.Conds.length:Int)) (nd ((0+(if 6 < (a0.Conds.length:Int)then(6:Int)else(a0.Conds.length:Int)).toNat) * 16≤140737488355328) (.ret .normal ⟨z43_4,[(16,(.cells (g27 a0))),(32,z43_1),(272,(.cells [(aS a0.Name),(.ap 1 (0+(if 6 < (a0.Conds.length:Int)then(6:Int)else(a0.Conds.length:Int)).toNat) (appF 0 (litF []) (cF D.str a0.Conds)) (.tok 240 9)),aN,aN,(aI a0.Start),aN]))],[240],304⟩ (.inl ()) ⟨rfl,(ws (idn [16,32,272]) [(240,240)] ⟨⟨_,_,rfl,rfl,⟨dr,dr,dr,dr,dr,dr,trivial⟩⟩,⟨_,_,rfl,rfl,⟨dr,rfl,rfl,rfl,dr,rfl,trivial⟩⟩,⟨_,_,rfl,rfl,⟨dr,⟨rfl,rfl,rfl,(de_app (de_lit rfl rfl) de_sub0)⟩,rfl,rfl,dr,rfl,trivial⟩⟩⟩)⟩)))) (fun _=>(.sc (fun(y2:(List (List T116)))=>⟨z43_4,[(16,(.cells (g27 a0))),(32,z43_1),(272,(.cells [(aS a0.Name),(z43_0 a0),(z43_2 y2),aN,(aI a0.Start),aN]))],[240,752],992⟩) (.sq 1 [] [(0,[1,2,3,4],[16,32,272])] (fun(_:Unit)=>⟨[(1,(.ptr 16 0)),(2,(.ptr 32 0)),(3,(.ptr 272 0)),(4,(aI 0))],(z43_5 a0),[240],320⟩) (.nx ()) (fun _=>(.bk (.lp (fun(s1:Int×(List (List T116)))=>⟨[(1,(.ptr 16 0)),(2,(.ptr 32 0)),(3,(.ptr 272 0)),(4,(aI s1.1))],[(16,(.cells (g27 a0))),(32,z43_1),(272,(.cells [(aS a0.Name),(z43_0 a0),(.ap 1 s1.2.length (cF (eSl 2 e116) s1.2) (.tok 752 83)),aN,(aI a0.Start),aN]))],[240,752],848⟩) ((0:Int),[]) (wk (idn [16,32,272]) [(240,240)]) fun s1=>(.sg [] [(0,[1,2,3,4],[16,32,272]),(2,[1,2,3],[16,32,272])] (.ite ((decide (s1.1 < (a0.Never.length:Int)))&&(decide (s1.1 < 4))) (nd (0≤s1.1) (nd (s1.1 < (a0.Never.length:Int)) (nd (0≤s1.1) (nd (s1.1 < (a0.Never.length:Int)) (nd (0≤(if 6 < ((a0.Never.getD s1.1.toNat default).length:Int)then(6:Int)else((a0.Never.getD s1.1.toNat default).length:Int))) (nd ((if 6 < ((a0.Never.getD s1.1.toNat default).length:Int)then(6:Int)else((a0.Never.getD s1.1.toNat default).length:Int))≤((a0.Never.getD s1.1.toNat default).length:Int)) (nd ((0+(if 6 < ((a0.Never.getD s1.1.toNat default).length:Int)then(6:Int)else((a0.Never.getD s1.1.toNat default).length:Int)).toNat) * 16≤140737488355328) (nd ((s1.2.length+1) * 24≤140737488355328) (.ret .normal ⟨[(1,(.ptr 16 0)),(2,(.ptr 32 0)),(3,(.ptr 272 0)),(4,(aI (IntKind.wrap .i64 (s1.1+1))))],[(16,(.cells (g27 a0))),(32,z43_1),(272,(.cells [(aS a0.Name),(z43_0 a0),(.ap 1 (s1.2.length+1) (appF s1.2.length (cF (eSl 2 e116) s1.2) (litF [(.sl 2 (0+(if 6 < ((a0.Never.getD s1.1.toNat default).length:Int)then(6:Int)else((a0.Never.getD s1.1.toNat default).length:Int)).toNat) (appF 0 (litF []) (cF e116 (a0.Never.getD s1.1.toNat default))))])) (.tok 1280 83)),aN,(aI a0.Start),aN]))],[1280,1264,1248,240],1376⟩ (.inl ((IntKind.wrap .i64 (s1.1+1)),(s1.2++([(([]:List T116)++(subL (a0.Never.getD s1.1.toNat default) 0 (if 6 < ((a0.Never.getD s1.1.toNat default).length:Int)then(6:Int)else((a0.Never.getD s1.1.toNat default).length:Int)).toNat))]:List (List T116))))) ⟨rfl,(ws (idn [16,32,272]) [(240,240),(752,1280)] ⟨⟨_,_,rfl,rfl,⟨dr,dr,dr,dr,dr,dr,trivial⟩⟩,⟨_,_,rfl,rfl,⟨dr,rfl,rfl,rfl,dr,rfl,trivial⟩⟩,⟨_,_,rfl,rfl,⟨dr,⟨rfl,rfl,rfl,dr⟩,⟨rfl,rfl,rfl,(de_app dr (de_litD rfl ⟨(de_app (de_lit rfl rfl) de_sub0),trivial⟩))⟩,rfl,dr,rfl,trivial⟩⟩⟩)⟩))))))))) (.ret (.exit 0) _ (.inr (.inl s1.2)) ⟨rfl,rfl,Weak.refl _⟩))))))) fun y2=>(.sc (fun(y4:(List T119))=>⟨z43_4,[(16,(.cells (g27 a0))),(32,z43_1),(272,(.cells [(aS a0.Name),(z43_0 a0),(z43_2 y2),(z43_3 y4),(aI a0.Start),aN]))],[240,752,1680],1920⟩) (.sq 1 [] [(0,[1,2,3,5],[16,32,272])] (fun(_:Unit)=>⟨[(1,(.ptr 16 0)),(2,(.ptr 32 0)),(3,(.ptr 272 0)),(5,(aI 0))],[(16,(.cells (g27 a0))),(32,z43_1),(272,(.cells [(aS a0.Name),(z43_0 a0),(z43_2 y2),aN,(aI a0.Start),aN]))],[240,752],1008⟩) (.nx ()) (fun _=>(.bk (.lp (fun(s3:Int×(List T119))=>⟨[(1,(.ptr 16 0)),(2,(.ptr 32 0)),(3,(.ptr 272 0)),(5,(aI s3.1))],[(16,(.cells (g27 a0))),(32,z43_1),(272,(.cells [(aS a0.Name),(z43_0 a0),(z43_2 y2),(.ap 6 s3.2.length (cF e119 s3.2) (.tok 1680 119)),(aI a0.Start),aN]))],[240,752,1680],1776⟩) ((0:Int),[]) (wk (idn [16,32,272]) (idn [240,752])) fun s3=>(.sg [] [(0,[1,2,3,5],[16,32,272]),(4,[1,2,3],[16,32,272])] (.ite ((decide (s3.1 < (a0.States.length:Int)))&&(decide (s3.1 < 12))) (nd (0≤s3.1) (nd (s3.1 < (a0.States.length:Int)) (nd (0≤(if 9 < ((a0.States.getD s3.1.toNat default).Entry.length:Int)then(9:Int)else((a0.States.getD s3.1.toNat default).Entry.length:Int))) (nd ((if 9 < ((a0.States.getD s3.1.toNat default).Entry.length:Int)then(9:Int)else((a0.States.getD s3.1.toNat default).Entry.length:Int))≤((a0.States.getD s3.1.toNat default).Entry.length:Int)) (nd ((0+(if 9 < ((a0.States.getD s3.1.toNat default).Entry.length:Int)then(9:Int)else((a0.States.getD s3.1.toNat default).Entry.length:Int)).toNat) * 16≤140737488355328) (nd (0≤(if 9 < ((a0.States.getD s3.1.toNat default).Exit.length:Int)then(9:Int)else((a0.States.getD s3.1.toNat default).Exit.length:Int))) (nd ((if 9 < ((a0.States.getD s3.1.toNat default).Exit.length:Int)then(9:Int)else((a0.States.getD s3.1.toNat default).Exit.length:Int))≤((a0.States.getD s3.1.toNat default).Exit.length:Int)) (nd ((0+(if 9 < ((a0.States.getD s3.1.toNat default).Exit.length:Int)then(9:Int)else((a0.States.getD s3.1.toNat default).Exit.length:Int)).toNat) * 16≤140737488355328) (nd ((s3.2.length+1) * 88≤140737488355328) (.ret .normal ⟨[(1,(.ptr 16 0)),(2,(.ptr 32 0)),(3,(.ptr 272 0)),(5,(aI (IntKind.wrap .i64 (s3.1+1))))],[(16,(.cells (g27 a0))),(32,z43_1),(272,(.cells [(aS a0.Name),(z43_0 a0),(z43_2 y2),(.ap 6 (s3.2.length+1) (appF s3.2.length (cF e119 s3.2) (litF [(.agg [(.str (a0.States.getD s3.1.toNat default).Name),(dI (a0.States.getD s3.1.toNat default).Parent),(dI (a0.States.getD s3.1.toNat default).Initial),(.bool (a0.States.getD s3.1.toNat default).History),(.sl 1 (0+(if 9 < ((a0.States.getD s3.1.toNat default).Entry.length:Int)then(9:Int)else((a0.States.getD s3.1.toNat default).Entry.length:Int)).toNat) (appF 0 (litF []) (cF D.str (a0.States.getD s3.1.toNat default).Entry))),(.sl 1 (0+(if 9 < ((a0.States.getD s3.1.toNat default).Exit.length:Int)then(9:Int)else((a0.States.getD s3.1.toNat default).Exit.length:Int)).toNat) (appF 0 (litF []) (cF D.str (a0.States.getD s3.1.toNat default).Exit)))])])) (.tok 2448 119)),(aI a0.Start),aN]))],[2448,2432,2336,2160,240,752],2544⟩ (.inl ((IntKind.wrap .i64 (s3.1+1)),(s3.2++([(⟨(a0.States.getD s3.1.toNat default).Name,(a0.States.getD s3.1.toNat default).Parent,(a0.States.getD s3.1.toNat default).Initial,(a0.States.getD s3.1.toNat default).History,(([]:List (List UInt8))++(subL (a0.States.getD s3.1.toNat default).Entry 0 (if 9 < ((a0.States.getD s3.1.toNat default).Entry.length:Int)then(9:Int)else((a0.States.getD s3.1.toNat default).Entry.length:Int)).toNat)),(([]:List (List UInt8))++(subL (a0.States.getD s3.1.toNat default).Exit 0 (if 9 < ((a0.States.getD s3.1.toNat default).Exit.length:Int)then(9:Int)else((a0.States.getD s3.1.toNat default).Exit.length:Int)).toNat))⟩:T119)]:List T119)))) ⟨rfl,(ws (idn [16,32,272]) [(240,240),(752,752),(1680,2448)] ⟨⟨_,_,rfl,rfl,⟨dr,dr,dr,dr,dr,dr,trivial⟩⟩,⟨_,_,rfl,rfl,⟨dr,rfl,rfl,rfl,dr,rfl,trivial⟩⟩,⟨_,_,rfl,rfl,⟨dr,⟨rfl,rfl,rfl,dr⟩,⟨rfl,rfl,rfl,dr⟩,⟨rfl,rfl,rfl,(de_app dr (de_litD rfl ⟨(.inr ⟨dr,dr,dr,dr,(de_app (de_lit rfl rfl) de_sub0),(de_app (de_lit rfl rfl) de_sub0),trivial⟩),trivial⟩))⟩,dr,rfl,trivial⟩⟩⟩)⟩)))))))))) (.ret (.exit 2) _ (.inr (.inl s3.2)) ⟨rfl,rfl,Weak.refl _⟩))))))) fun y4=>(.sc (fun(y6:(List T85))=>⟨[(2,(.ptr 32 0)),(3,(.ptr 272 0))],[(32,z43_1),(272,(.cells [(aS a0.Name),(z43_0 a0),(z43_2 y2),(z43_3 y4),(aI a0.Start),(.ap 4 y6.length (cF e85 y6) (.tok 2608 85))]))],[240,752,1680,2608],2848⟩) (.sq 1 [] [(0,[1,2,3,7],[16,32,272])] (fun(_:Unit)=>⟨[(1,(.ptr 16 0)),(2,(.ptr 32 0)),(3,(.ptr 272 0)),(7,(aI 0))],[(16,(.cells (g27 a0))),(32,z43_1),(272,(.cells [(aS a0.Name),(z43_0 a0),(z43_2 y2),(z43_3 y4),(aI a0.Start),aN]))],[240,752,1680],1936⟩) (.nx ()) (fun _=>(.bk (.lp (fun(s5:Int×(List T85))=>⟨[(1,(.ptr 16 0)),(2,(.ptr 32 0)),(3,(.ptr 272 0)),(7,(aI s5.1))],[(16,(.cells (g27 a0))),(32,z43_1),(272,(.cells [(aS a0.Name),(z43_0 a0),(z43_2 y2),(z43_3 y4),(aI a0.Start),(.ap 4 s5.2.length (cF e85 s5.2) (.tok 2608 85))]))],[240,752,1680,2608],2704⟩) ((0:Int),[]) (wk (idn [16,32,272]) (idn [240,752,1680])) fun s5=>(.sg [] [(0,[1,2,3,7],[16,32,272]),(6,[2,3],[32,272])] (.ite ((decide (s5.1 < (a0.Transitions.length:Int)))&&(decide (s5.1 < 24))) (nd (0≤s5.1) (nd (s5.1 < (a0.Transitions.length:Int)) (nd (0≤(if 6 < ((a0.Transitions.getD s5.1.toNat default).When.length:Int)then(6:Int)else((a0.Transitions.getD s5.1.toNat default).When.length:Int))) (nd ((if 6 < ((a0.Transitions.getD s5.1.toNat default).When.length:Int)then(6:Int)else((a0.Transitions.getD s5.1.toNat default).When.length:Int))≤((a0.Transitions.getD s5.1.toNat default).When.length:Int)) (nd ((0+(if 6 < ((a0.Transitions.getD s5.1.toNat default).When.length:Int)then(6:Int)else((a0.Transitions.getD s5.1.toNat default).When.length:Int)).toNat) * 16≤140737488355328) (nd (0≤(if 9 < ((a0.Transitions.getD s5.1.toNat default).Actions.length:Int)then(9:Int)else((a0.Transitions.getD s5.1.toNat default).Actions.length:Int))) (nd ((if 9 < ((a0.Transitions.getD s5.1.toNat default).Actions.length:Int)then(9:Int)else((a0.Transitions.getD s5.1.toNat default).Actions.length:Int))≤((a0.Transitions.getD s5.1.toNat default).Actions.length:Int)) (nd ((0+(if 9 < ((a0.Transitions.getD s5.1.toNat default).Actions.length:Int)then(9:Int)else((a0.Transitions.getD s5.1.toNat default).Actions.length:Int)).toNat) * 16≤140737488355328) (nd ((s5.2.length+1) * 64≤140737488355328) (.ret .normal ⟨[(1,(.ptr 16 0)),(2,(.ptr 32 0)),(3,(.ptr 272 0)),(7,(aI (IntKind.wrap .i64 (s5.1+1))))],[(16,(.cells (g27 a0))),(32,z43_1),(272,(.cells [(aS a0.Name),(z43_0 a0),(z43_2 y2),(z43_3 y4),(aI a0.Start),(.ap 4 (s5.2.length+1) (appF s5.2.length (cF e85 s5.2) (litF [(.agg [(dI (a0.Transitions.getD s5.1.toNat default).From),(dI (a0.Transitions.getD s5.1.toNat default).To),(.sl 2 (0+(if 6 < ((a0.Transitions.getD s5.1.toNat default).When.length:Int)then(6:Int)else((a0.Transitions.getD s5.1.toNat default).When.length:Int)).toNat) (appF 0 (litF []) (cF e116 (a0.Transitions.getD s5.1.toNat default).When))),(.sl 1 (0+(if 9 < ((a0.Transitions.getD s5.1.toNat default).Actions.length:Int)then(9:Int)else((a0.Transitions.getD s5.1.toNat default).Actions.length:Int)).toNat) (appF 0 (litF []) (cF D.str (a0.Transitions.getD s5.1.toNat default).Actions)))])])) (.tok 3376 85))]))],[3376,3360,3264,3088,240,752,1680],3472⟩ (.inl ((IntKind.wrap .i64 (s5.1+1)),(s5.2++([(⟨(a0.Transitions.getD s5.1.toNat default).From,(a0.Transitions.getD s5.1.toNat default).To,(([]:List T116)++(subL (a0.Transitions.getD s5.1.toNat default).When 0 (if 6 < ((a0.Transitions.getD s5.1.toNat default).When.length:Int)then(6:Int)else((a0.Transitions.getD s5.1.toNat default).When.length:Int)).toNat)),(([]:List (List UInt8))++(subL (a0.Transitions.getD s5.1.toNat default).Actions 0 (if 9 < ((a0.Transitions.getD s5.1.toNat default).Actions.length:Int)then(9:Int)else((a0.Transitions.getD s5.1.toNat default).Actions.length:Int)).toNat))⟩:T85)]:List T85)))) ⟨rfl,(ws (idn [16,32,272]) [(240,240),(752,752),(1680,1680),(2608,3376)] ⟨⟨_,_,rfl,rfl,⟨dr,dr,dr,dr,dr,dr,trivial⟩⟩,⟨_,_,rfl,rfl,⟨dr,rfl,rfl,rfl,dr,rfl,trivial⟩⟩,⟨_,_,rfl,rfl,⟨dr,⟨rfl,rfl,rfl,dr⟩,⟨rfl,rfl,rfl,dr⟩,⟨rfl,rfl,rfl,dr⟩,dr,⟨rfl,rfl,rfl,(de_app dr (de_litD rfl ⟨(.inr ⟨dr,dr,(de_app (de_lit rfl rfl) de_sub0),(de_app (de_lit rfl rfl) de_sub0),trivial⟩),trivial⟩))⟩,trivial⟩⟩⟩)⟩)))))))))) (.ret (.exit 4) _ (.inr (.inl s5.2)) ⟨rfl,rfl,Weak.refl _⟩))))))) fun y6=>(.sg [] [(1,[2],[32])] (.ret .ret ⟨[(2,(.ptr 32 0))],[(32,(.cells [(aS a0.Name),(z43_0 a0),(z43_2 y2),(z43_3 y4),(aI a0.Start),(.ap 4 y6.length (cF e85 y6) (.tok 2608 85))]))],[240,752,1680,2608],2880⟩ (⟨a0.Name,(([]:List (List UInt8))++(subL a0.Conds 0 (if 6 < (a0.Conds.length:Int)then(6:Int)else(a0.Conds.length:Int)).toNat)),y2,y4,a0.Start,y6⟩:T27) ⟨rfl,_,Weak.refl _,⟨dr,dr,dr,dr,dr,dr,trivial⟩⟩)))))))
noncomputable def m43 (a0:T27):Option (T27):=(d43 a0).m
theorem p43 {a0:T27} {r:T27} (h:m43 a0=some r):PureAt Tryz.prog 43 [(e27 a0)] (e27 r):=pure_jd (d43 a0) Tryz.func43 h
noncomputable def d14 (a0:T27):JF Tryz.prog Tryz.f14 [(e27 a0)] (fun(r:T27)=>(e27 r)) :=
 (.sg [(1,tm1 4 e27)] [(1,[2],[32])] (c3 (@p43 a0) fun x1=>(nd (0≤(if 7 < (x1.States.length:Int)then(7:Int)else(x1.States.length:Int))) (nd ((if 7 < (x1.States.length:Int)then(7:Int)else(x1.States.length:Int))≤(x1.States.length:Int)) (nd (0≤(if 3 < (x1.Conds.length:Int)then(3:Int)else(x1.Conds.length:Int))) (nd ((if 3 < (x1.Conds.length:Int)then(3:Int)else(x1.Conds.length:Int))≤(x1.Conds.length:Int)) (nd (0≤(if 14 < (x1.Transitions.length:Int)then(14:Int)else(x1.Transitions.length:Int))) (nd ((if 14 < (x1.Transitions.length:Int)then(14:Int)else(x1.Transitions.length:Int))≤(x1.Transitions.length:Int)) (.ret .ret ⟨[(2,(.ptr 32 0))],[(32,(.cells [(aS x1.Name),(.d (.sl 1 (if 3 < (x1.Conds.length:Int)then(3:Int)else(x1.Conds.length:Int)).toNat (cF D.str x1.Conds))),(.d (eSl 1 (eSl 2 e116) x1.Never)),(.d (.sl 6 (if 7 < (x1.States.length:Int)then(7:Int)else(x1.States.length:Int)).toNat (cF e119 x1.States))),(aI x1.Start),(.d (.sl 4 (if 14 < (x1.Transitions.length:Int)then(14:Int)else(x1.Transitions.length:Int)).toNat (cF e85 x1.Transitions)))]))],[],560⟩ (⟨x1.Name,(subL x1.Conds 0 (if 3 < (x1.Conds.length:Int)then(3:Int)else(x1.Conds.length:Int)).toNat),x1.Never,(subL x1.States 0 (if 7 < (x1.States.length:Int)then(7:Int)else(x1.States.length:Int)).toNat),x1.Start,(subL x1.Transitions 0 (if 14 < (x1.Transitions.length:Int)then(14:Int)else(x1.Transitions.length:Int)).toNat)⟩:T27) ⟨rfl,_,Weak.refl _,(.inr ⟨dr,de_sub0,dr,de_sub0,dr,de_sub0,trivial⟩)⟩)))))))))
noncomputable def m14 (a0:T27):Option (T27):=(d14 a0).m
theorem p14 {a0:T27} {r:T27} (h:m14 a0=some r):PureAt Tryz.prog 14 [(e27 a0)] (e27 r):=pure_jd (d14 a0) Tryz.func14 h
noncomputable def q109o0 (a0:T44) (a1:Int) (y:Unit):OF:=⟨(aB (a0.Kind==a1)),[(0,(.cells [(.d (.int .u8 a1))]))],[]⟩
noncomputable def d109o0 (a0:T44) (a1:Int):JO Tryz.prog Tryz.f109 [(.d (e44 a0)),(.ptr 0 0)] [(0,(.cells [(.d (.int .u8 a1))]))] [] (q109o0 a0 a1) :=
 (.sg [] [(1,[1,3],[0])] (.ret .ret ⟨[(1,(.ptr 0 0)),(3,(aB (a0.Kind==a1)))],[(0,(.cells [(.d (.int .u8 a1))]))],[],128⟩ () ⟨rfl,(rk [(0,0)] [] 128)⟩))
noncomputable def m109o0 (a0:T44) (a1:Int):Option (Unit):=(d109o0 a0 a1).m
theorem po109o0 {a0:T44} {a1:Int} {r:Unit} (h:m109o0 a0 a1=some r):ObjF Tryz.prog 109 [(.d (e44 a0)),(.ptr 0 0)] [(0,(.cells [(.d (.int .u8 a1))]))] [] (q109o0 a0 a1 r):=obj_jd (d109o0 a0 a1) Tryz.func109 h
noncomputable abbrev z108o0_0 (a1:Int):List (Nat×Ob):=[(0,(.cells [(.d (.int .u8 a1))]))]
noncomputable def q108o0 (a0:List T44) (a1:Int) (y:Int):OF:=⟨(aI y),(z108o0_0 a1),[]⟩
noncomputable def o108o0_0 (a0:List T44) (a1 s1:Int) (x:Unit):OT:=⟨(aB ((a0.getD s1.toNat default).Kind==a1)),[0],[],(z108o0_0 a1),[]⟩
noncomputable def d108o0 (a0:List T44) (a1:Int):JO Tryz.prog Tryz.f108 [(.d (eSl 5 e44 a0)),(.fn 109 [(.ptr 0 0)])] (z108o0_0 a1) [] (q108o0 a0 a1) :=
 (.sq 1 [] [(0,[0,1],[0])] (fun(_:Unit)=>⟨[(0,(.d (eSl 5 e44 a0))),(1,(.fn 109 [(.ptr 0 0)]))],(z108o0_0 a1),[],32⟩) (.nx ()) (fun _=>(.sc (fun(_:Unit)=>⟨[(1,(.fn 109 [(.ptr 0 0)]))],(z108o0_0 a1),[],272⟩) (.sq 1 [] [(0,[0,1,7,8],[0])] (fun(_:Unit)=>⟨[(0,(.d (eSl 5 e44 a0))),(1,(.fn 109 [(.ptr 0 0)])),(7,(aI (a0.length:Int))),(8,(aI 0))],(z108o0_0 a1),[],80⟩) (.nx ()) (fun _=>(.bk (.lp (fun(s1:Int)=>⟨[(0,(.d (eSl 5 e44 a0))),(1,(.fn 109 [(.ptr 0 0)])),(7,(aI (a0.length:Int))),(8,(aI s1))],(z108o0_0 a1),[],256⟩) (0:Int) (wk [(0,0)] []) fun s1=>(.sg [(4,⟨Unit,fun x=>[],fun x=>[(384,(o108o0_0 a0 a1 s1 x))],[]⟩)] [(1,[1,4],[0]),(0,[0,1,7,8],[0]),(2,[1],[0])] (.ite (decide (s1 < (a0.length:Int))) (.exi (Unit) (if 0≤s1 then(if s1 < (a0.length:Int)then((m109o0 (a0.getD s1.toNat default) a1).bind fun r4_0=>some r4_0)else none)else none) (fun x4=>(.p (0≤s1) (.p (s1 < (a0.length:Int)) (.p (ObjL Tryz.prog 109 [(.d (.agg [(.int .u8 (a0.getD s1.toNat default).Kind),(dI (a0.getD s1.toNat default).State),(.int .u16 (a0.getD s1.toNat default).Valuation),(dI (a0.getD s1.toNat default).First),(dI (a0.getD s1.toNat default).Second)])),(.ptr 0 0)] [(0,some (.cells [(.d (.int .u8 a1))]))] 384 (o108o0_0 a0 a1 s1 x4)) (.fin 0))))) (by intro x4 h;obtain⟨h1,h⟩:=if_some h;obtain⟨h2,h⟩:=if_some h;obtain⟨r4_0,h3,h⟩:=Option.bind_eq_some_iff.1 h;cases h;exact⟨h1,h2,ok [(0,0)] [] [(0,0)] [] (po109o0 h3),trivial⟩) (fun x4 _=>(.ite ((a0.getD s1.toNat default).Kind==a1) (.ret .ret ⟨[(1,(.fn 109 [(.ptr 0 0)])),(4,(aI s1))],(z108o0_0 a1),[],432⟩ (.inr (.inr (s1))) ⟨rfl,rfl,rfl,(rk [(0,0)] [] 432)⟩) (.ret .normal ⟨[(0,(.d (eSl 5 e44 a0))),(1,(.fn 109 [(.ptr 0 0)])),(7,(aI (a0.length:Int))),(8,(aI (IntKind.wrap .i64 (s1+1))))],(z108o0_0 a1),[],432⟩ (.inl (IntKind.wrap .i64 (s1+1))) ⟨rfl,(wk [(0,0)] [])⟩)))) (.ret (.exit 0) _ (.inr (.inl ())) ⟨rfl,rfl,Weak.refl _⟩))))))) fun _=>(.sg [] [(1,[1,4],[0])] (.ret .ret ⟨[(1,(.fn 109 [(.ptr 0 0)])),(4,(aI (-1)))],(z108o0_0 a1),[],288⟩ (-1:Int) ⟨rfl,(rk [(0,0)] [] 432)⟩)))))
noncomputable def m108o0 (a0:List T44) (a1:Int):Option (Int):=(d108o0 a0 a1).m
theorem po108o0 {a0:List T44} {a1:Int} {r:Int} (h:m108o0 a0 a1=some r):ObjF Tryz.prog 108 [(.d (eSl 5 e44 a0)),(.fn 109 [(.ptr 0 0)])] (z108o0_0 a1) [] (q108o0 a0 a1 r):=obj_jd (d108o0 a0 a1) Tryz.func108 h
noncomputable def E61 (r:T44×Bool×Int):D:=(.tup [(e44 r.1),(.bool r.2.1),(dI r.2.2)])
noncomputable def d61 (a0:T27) (a1:Int):JF Tryz.prog Tryz.f61 [(e27 a0),(.int .u8 a1)] E61 :=
 (.sg [(1,tm1 12 (fun(x:((List T44)×Int))=>(.tup [(eSl 5 e44 x.1),(dI x.2)]))),(4,⟨Int,fun x=>[],fun x=>[(272,⟨(aI x),[32],[],[(32,(.cells [(.d (.int .u8 a1))]))],[]⟩)],[]⟩)] [(1,[4,5,6],[48])] (c3 (@p18 a0) fun x1=>(.ite (x1.2 != 0) (.ret .ret ⟨[(4,(.ptr 48 0)),(5,(aB false)),(6,(aI x1.2))],[(48,(.cells [(.d (.int .u8 0)),(aI 0),(.d (.int .u16 0)),(aI 0),(aI 0)]))],[],320⟩ ((⟨(0:Int),(0:Int),(0:Int),(0:Int),(0:Int)⟩:T44),false,x1.2) ⟨rfl,_,Weak.refl _,⟨dr,dr,dr,trivial⟩⟩) (c3 (p:=fun x4=>ObjL Tryz.prog 108 [(.d (eSl 5 e44 x1.1)),(.fn 109 [(.ptr 32 0)])] [(32,some (.cells [(.d (.int .u8 a1))]))] 272 ⟨(aI x4),[32],[],[(32,(.cells [(.d (.int .u8 a1))]))],[]⟩) (fun x4 (h1:m108o0 x1.1 a1=some _)=>ok [(0,32)] [] [(32,0)] [] (po108o0 h1)) fun x4=>(.ite (decide (x4 < 0)) (.ret .ret ⟨[(4,(.ptr 48 0)),(5,(aB true)),(6,(aI 0))],[(48,(.cells [(.d (.int .u8 0)),(aI 0),(.d (.int .u16 0)),(aI 0),(aI 0)]))],[],400⟩ ((⟨(0:Int),(0:Int),(0:Int),(0:Int),(0:Int)⟩:T44),true,(0:Int)) ⟨rfl,_,Weak.refl _,⟨dr,dr,dr,trivial⟩⟩) (nd (0≤x4) (nd (x4 < (x1.1.length:Int)) (.ret .ret ⟨[(4,(.ptr 48 0)),(5,(aB false)),(6,(aI 0))],[(48,(.cells [(.d (.int .u8 (x1.1.getD x4.toNat default).Kind)),(aI (x1.1.getD x4.toNat default).State),(.d (.int .u16 (x1.1.getD x4.toNat default).Valuation)),(aI (x1.1.getD x4.toNat default).First),(aI (x1.1.getD x4.toNat default).Second)]))],[],448⟩ ((x1.1.getD x4.toNat default),false,(0:Int)) ⟨rfl,_,Weak.refl _,⟨dr,dr,dr,trivial⟩⟩))))))))
noncomputable def m61 (a0:T27) (a1:Int):Option (T44×Bool×Int):=(d61 a0 a1).m
theorem p61 {a0:T27} {a1:Int} {r:T44×Bool×Int} (h:m61 a0 a1=some r):PureAt Tryz.prog 61 [(e27 a0),(.int .u8 a1)] (E61 r):=pure_jd (d61 a0 a1) Tryz.func61 h
noncomputable def E23 (r:T44×Bool×Int):D:=(.tup [(e44 r.1),(.bool r.2.1),(dI r.2.2)])
noncomputable def d23 (a0:T27):JF Tryz.prog Tryz.f23 [(e27 a0)] E23 :=
 (.sg [(1,tm1 6 (fun(x:(T44×Bool×Int))=>(.tup [(e44 x.1),(.bool x.2.1),(dI x.2.2)])))] [(1,[2,3,4],[32])] (c3 (@p61 a0 (1:Int)) fun x1=>(.ret .ret ⟨[(2,(.ptr 32 0)),(3,(aB x1.2.1)),(4,(aI x1.2.2))],[(32,(.cells (g44 x1.1)))],[],208⟩ (x1.1,x1.2.1,x1.2.2) ⟨rfl,_,Weak.refl _,⟨dr,dr,dr,trivial⟩⟩)))
noncomputable def m23 (a0:T27):Option (T44×Bool×Int):=(d23 a0).m
theorem p23 {a0:T27} {r:T44×Bool×Int} (h:m23 a0=some r):PureAt Tryz.prog 23 [(e27 a0)] (E23 r):=pure_jd (d23 a0) Tryz.func23 h
noncomputable def E25 (r:T44×Bool×Int):D:=(.tup [(e44 r.1),(.bool r.2.1),(dI r.2.2)])
noncomputable def d25 (a0:T27):JF Tryz.prog Tryz.f25 [(e27 a0)] E25 :=
 (.sg [(1,tm1 6 (fun(x:(T44×Bool×Int))=>(.tup [(e44 x.1),(.bool x.2.1),(dI x.2.2)])))] [(1,[2,3,4],[32])] (c3 (@p61 a0 (2:Int)) fun x1=>(.ret .ret ⟨[(2,(.ptr 32 0)),(3,(aB x1.2.1)),(4,(aI x1.2.2))],[(32,(.cells (g44 x1.1)))],[],208⟩ (x1.1,x1.2.1,x1.2.2) ⟨rfl,_,Weak.refl _,⟨dr,dr,dr,trivial⟩⟩)))
noncomputable def m25 (a0:T27):Option (T44×Bool×Int):=(d25 a0).m
theorem p25 {a0:T27} {r:T44×Bool×Int} (h:m25 a0=some r):PureAt Tryz.prog 25 [(e27 a0)] (E25 r):=pure_jd (d25 a0) Tryz.func25 h
noncomputable def E29 (r:T37×(List (List UInt8))×Int):D:=(.tup [(e37 r.1),(eSl 1 D.str r.2.1),(dI r.2.2)])
noncomputable def d29 (a0:T27) (a1:T37) (a2:Int):JF Tryz.prog Tryz.f29 [(e27 a0),(e37 a1),(.int .u16 a2)] E29 :=
 (.sg [(1,tm1 12 dI),(4,tm1 19 D.bool),(6,tm1 24 D.bool),(8,tm1 31 (eSl 1 dI)),(13,tm1 44 (fun(x:(T37×(List (List UInt8))×Int))=>(.tup [(e37 x.1),(eSl 1 D.str x.2.1),(dI x.2.2)])))] [(1,[6,7,8],[48])] (c3 (@p38 a0) fun x1=>(.ite (x1 != 0) (.ret .ret ⟨[(6,(.ptr 48 0)),(7,aN),(8,(aI x1))],[(48,(.cells [(aI 0),aN]))],[],256⟩ ((⟨(0:Int),[]⟩:T37),[],x1) ⟨rfl,_,Weak.refl _,⟨⟨dr,de_nil,trivial⟩,de_nil,dr,trivial⟩⟩) (c3 (@p66 a0 a1) fun x4=>(.ite (!x4) (.ret .ret ⟨[(6,(.ptr 48 0)),(7,aN),(8,(aI 8))],[(48,(.cells [(aI 0),aN]))],[],304⟩ ((⟨(0:Int),[]⟩:T37),[],(8:Int)) ⟨rfl,_,Weak.refl _,⟨⟨dr,de_nil,trivial⟩,de_nil,dr,trivial⟩⟩) (c3 (@p20 a0 a2) fun x6=>(.ite (!x6) (.ret .ret ⟨[(6,(.ptr 48 0)),(7,aN),(8,(aI 1))],[(48,(.cells [(aI 0),aN]))],[],368⟩ ((⟨(0:Int),[]⟩:T37),[],(1:Int)) ⟨rfl,_,Weak.refl _,⟨⟨dr,de_nil,trivial⟩,de_nil,dr,trivial⟩⟩) (c3 (@p19 a0 a1.Leaf a2) fun x8=>(.ite ((x8.length:Int)==(0:Int)) (.ret .ret ⟨[(6,(.ptr 48 0)),(7,aN),(8,(aI 6))],[(48,(.cells [(aI 0),aN]))],[],528⟩ ((⟨(0:Int),[]⟩:T37),[],(6:Int)) ⟨rfl,_,Weak.refl _,⟨⟨dr,de_nil,trivial⟩,de_nil,dr,trivial⟩⟩) (.ite ((x8.length:Int)==(1:Int)) (.exi ((T37×(List (List UInt8))×Int)) (if(0:Int)≤(0:Int)then(if 0 < (x8.length:Int)then((m67 a0 a1 (x8.getD (0:Int).toNat default)).bind fun r13_0=>some r13_0)else none)else none) (fun x13=>(.p ((0:Int)≤(0:Int)) (.p (0 < (x8.length:Int)) (.p (PureAt Tryz.prog 67 [(e27 a0),(e37 a1),(dI (x8.getD (0:Int).toNat default))] (.tup [(e37 x13.1),(eSl 1 D.str x13.2.1),(dI x13.2.2)])) (.fin 0))))) (by intro x13 h;obtain⟨h1,h⟩:=if_some h;obtain⟨h2,h⟩:=if_some h;obtain⟨r13_0,h3,h⟩:=Option.bind_eq_some_iff.1 h;cases h;exact⟨h1,h2,p67 h3,trivial⟩) (fun x13 _=>(.ret .ret ⟨[(6,(.ptr 48 0)),(7,(.d (eSl 1 D.str x13.2.1))),(8,(aI x13.2.2))],[(48,(.cells (g37 x13.1)))],[],688⟩ (x13.1,x13.2.1,x13.2.2) ⟨rfl,_,Weak.refl _,⟨dr,dr,dr,trivial⟩⟩))) (.ret .ret ⟨[(6,(.ptr 48 0)),(7,aN),(8,(aI 11))],[(48,(.cells [(aI 0),aN]))],[],560⟩ ((⟨(0:Int),[]⟩:T37),[],(11:Int)) ⟨rfl,_,Weak.refl _,⟨⟨dr,de_nil,trivial⟩,de_nil,dr,trivial⟩⟩)))))))))))
noncomputable def m29 (a0:T27) (a1:T37) (a2:Int):Option (T37×(List (List UInt8))×Int):=(d29 a0 a1 a2).m
theorem p29 {a0:T27} {a1:T37} {a2:Int} {r:T37×(List (List UInt8))×Int} (h:m29 a0 a1 a2=some r):PureAt Tryz.prog 29 [(e27 a0),(e37 a1),(.int .u16 a2)] (E29 r):=pure_jd (d29 a0 a1 a2) Tryz.func29 h
noncomputable def E32 (r:(List Int)×(List (List UInt8))×Int):D:=(.tup [(eSl 1 dI r.1),(eSl 1 D.str r.2.1),(dI r.2.2)])
noncomputable def o32_0 (x:(Int×(List (List UInt8))×Int×(List Int))):OT:=⟨(.tup [(.d (.agg [(dI x.2.2.1),(eSl 1 dI x.2.2.2)])),(.ap 1 x.2.1.length (cF D.str x.2.1) (.tok 96 9)),(aI x.1)]),[],[],[],[96]⟩
noncomputable def d32 (a0:T27) (a1:List Int):JF Tryz.prog Tryz.f32 [(e27 a0),(eSl 1 (D.int .u16) a1)] E32 :=
 (.sq 4 [(1,⟨(Int×(List (List UInt8))×Int×(List Int)),fun x=>[],fun x=>[(96,(o32_0 x))],[]⟩)] [(1,[4,5,6],[]),(0,[1,2,7,8,10],[16,176])] (fun(y1:(List (List UInt8))×(List Int)×Int×(List Int))=>⟨[(1,(.d (eSl 1 (D.int .u16) a1))),(2,(.ptr 16 0)),(7,(.ptr 176 0)),(8,(.ap 1 y1.1.length (cF D.str y1.1) (.tok 96 9))),(10,(.ap 1 y1.2.1.length (cF dI y1.2.1) (.tok 304 3)))],[(16,(.cells (g27 a0))),(176,(.cells [(aI y1.2.2.1),(.d (eSl 1 dI y1.2.2.2))]))],[96,304],336⟩) (c3 (p:=fun x1=>ObjL Tryz.prog 28 [(.d (e27 a0))] [] 96 (o32_0 x1)) (fun x1 (h1:m28o0 a0=some _)=>ok [] [] [] [(96,352)] (po28o0 h1)) fun x1=>(.ite (x1.1 != 0) (.ret .ret ⟨[(4,aN),(5,aN),(6,(aI x1.1))],[],[96],336⟩ (.inr (([],[],x1.1))) ⟨rfl,rfl,_,Weak.refl _,⟨de_nil,de_nil,dr,trivial⟩⟩) (.ret .normal ⟨[(1,(.d (eSl 1 (D.int .u16) a1))),(2,(.ptr 16 0)),(7,(.ptr 176 0)),(8,(.ap 1 x1.2.1.length (cF D.str x1.2.1) (.tok 96 9))),(10,(.ap 1 1 (litF [(dI x1.2.2.1)]) (.tok 304 3)))],[(16,(.cells (g27 a0))),(176,(.cells [(aI x1.2.2.1),(.d (eSl 1 dI x1.2.2.2))]))],[304,96],336⟩ (.inl (x1.2.1,([x1.2.2.1]:List Int),x1.2.2.1,x1.2.2.2)) ⟨rfl,(wh (idn [16,176]) (idn [96,304]) ⟨dr,⟨rfl,rfl⟩,⟨rfl,rfl⟩,⟨rfl,rfl,rfl,dr⟩,⟨rfl,rfl,rfl,(de_lit rfl rfl)⟩⟩)⟩))) (fun y1=>(.sc (fun(y3:(List (List UInt8))×(List Int))=>⟨[(8,(.ap 1 y3.1.length (cF D.str y3.1) (.tok 96 9))),(10,(.ap 1 y3.2.length (cF dI y3.2) (.tok 304 3)))],[],[96,304],880⟩) (.sq 1 [] [(0,[2,7,8,10,26,27,28],[16,176])] (fun(_:Unit)=>⟨[(2,(.ptr 16 0)),(7,(.ptr 176 0)),(8,(.ap 1 y1.1.length (cF D.str y1.1) (.tok 96 9))),(10,(.ap 1 y1.2.1.length (cF dI y1.2.1) (.tok 304 3))),(26,(.d (eSl 1 (D.int .u16) a1))),(27,(aI (a1.length:Int))),(28,(aI 0))],[(16,(.cells (g27 a0))),(176,(.cells [(aI y1.2.2.1),(.d (eSl 1 dI y1.2.2.2))]))],[96,304],384⟩) (.nx ()) (fun _=>(.bk (.lp (fun(s2:(List (List UInt8))×(List Int)×Int×Int×(List Int))=>⟨[(2,(.ptr 16 0)),(7,(.ptr 176 0)),(8,(.ap 1 s2.1.length (cF D.str s2.1) (.tok 96 9))),(10,(.ap 1 s2.2.1.length (cF dI s2.2.1) (.tok 304 3))),(26,(.d (eSl 1 (D.int .u16) a1))),(27,(aI (a1.length:Int))),(28,(aI s2.2.2.1))],[(16,(.cells (g27 a0))),(176,(.cells [(aI s2.2.2.2.1),(.d (eSl 1 dI s2.2.2.2.2))]))],[96,304],864⟩) (y1.1,y1.2.1,(0:Int),y1.2.2.1,y1.2.2.2) (wk (idn [16,176]) (idn [96,304])) fun s2=>(.sg [(9,tm1 36 (fun(x:(T37×(List (List UInt8))×Int))=>(.tup [(e37 x.1),(eSl 1 D.str x.2.1),(dI x.2.2)])))] [(1,[4,5,6],[]),(0,[2,7,8,10,26,27,28],[16,176]),(2,[8,10],[])] (.ite (decide (s2.2.2.1 < (a1.length:Int))) (nd (0≤s2.2.2.1) (nd (s2.2.2.1 < (a1.length:Int)) (c3 (@p29 a0 (⟨s2.2.2.2.1,s2.2.2.2.2⟩:T37) (a1.getD s2.2.2.1.toNat default)) fun x9=>(.ite (x9.2.2 != 0) (.ret .ret ⟨[(4,aN),(5,aN),(6,(aI x9.2.2))],[],[96,304],1216⟩ (.inr (.inr (([],[],x9.2.2)))) ⟨rfl,rfl,rfl,_,Weak.refl _,⟨de_nil,de_nil,dr,trivial⟩⟩) (nd ((s2.2.1.length+1) * 8≤140737488355328) (nd ((s2.1.length+x9.2.1.length) * 16≤140737488355328) (.ret .normal ⟨[(2,(.ptr 16 0)),(7,(.ptr 176 0)),(8,(.ap 1 (s2.1.length+x9.2.1.length) (appF s2.1.length (cF D.str s2.1) (cF D.str x9.2.1)) (.tok 1280 9))),(10,(.ap 1 (s2.2.1.length+1) (appF s2.2.1.length (cF dI s2.2.1) (litF [(dI x9.1.Leaf)])) (.tok 1216 3))),(26,(.d (eSl 1 (D.int .u16) a1))),(27,(aI (a1.length:Int))),(28,(aI (IntKind.wrap .i64 (s2.2.2.1+1))))],[(16,(.cells (g27 a0))),(176,(.cells (g37 x9.1)))],[1280,1216,1200],1344⟩ (.inl ((s2.1++x9.2.1),(s2.2.1++([x9.1.Leaf]:List Int)),(IntKind.wrap .i64 (s2.2.2.1+1)),x9.1.Leaf,x9.1.Memory)) ⟨rfl,(wh (idn [16,176]) [(96,1280),(304,1216)] ⟨⟨rfl,rfl⟩,⟨rfl,rfl⟩,⟨rfl,rfl,rfl,(de_app dr dr)⟩,⟨rfl,rfl,rfl,(de_app dr (de_lit rfl rfl))⟩,dr,dr,dr⟩)⟩))))))) (.ret (.exit 0) _ (.inr (.inl (s2.1,s2.2.1))) ⟨rfl,rfl,Weak.refl _⟩))))))) fun y3=>(.sg [] [(1,[4,5,6],[])] (.ret .ret ⟨[(4,(.ap 1 y3.2.length (cF dI y3.2) (.tok 304 3))),(5,(.ap 1 y3.1.length (cF D.str y3.1) (.tok 96 9))),(6,(aI 0))],[],[96,304],960⟩ (y3.2,y3.1,(0:Int)) ⟨rfl,_,Weak.refl _,⟨dr,dr,dr,trivial⟩⟩)))))
noncomputable def m32 (a0:T27) (a1:List Int):Option ((List Int)×(List (List UInt8))×Int):=(d32 a0 a1).m
theorem p32 {a0:T27} {a1:List Int} {r:(List Int)×(List (List UInt8))×Int} (h:m32 a0 a1=some r):PureAt Tryz.prog 32 [(e27 a0),(eSl 1 (D.int .u16) a1)] (E32 r):=pure_jd (d32 a0 a1) Tryz.func32 h
noncomputable abbrev z8_0 (y1:(List UInt8)×(List (List UInt8))×(List (List T116))×(List T119)×Int×(List T85)):List (Nat×Ob):=[(16,(.cells [(aS y1.1),(.d (eSl 1 D.str y1.2.1)),(.d (eSl 1 (eSl 2 e116) y1.2.2.1)),(.d (eSl 6 e119 y1.2.2.2.1)),(aI y1.2.2.2.2.1),(.d (eSl 4 e85 y1.2.2.2.2.2))]))]
noncomputable abbrev z8_1 (y3:(List Int)):AV:=(.ap 1 y3.length (cF (D.int .u16) y3) (.tok 1104 42))
noncomputable abbrev z8_2 (s5:Int) (y3:(List Int)) (y4:(List Int)×(List T37)):List (Nat×AV):=[(2,(.ptr 16 0)),(11,(z8_1 y3)),(17,(.d (eSl 2 e37 y4.2))),(103,(.d (eSl 1 dI y4.1))),(104,(aI (y4.1.length:Int))),(105,(aI s5))]
noncomputable def d8 (a0:T27) (a1:List Int):JF Tryz.prog Tryz.f8 [(e27 a0),(eSl 1 (D.int .u16) a1)] (fun(r:Bool)=>(.bool r)) :=
 (.sq 7 [(1,tm1 24 D.bool),(3,tm1 27 e27),(4,tm1 30 (fun(x:(T44×Bool×Int))=>(.tup [(e44 x.1),(.bool x.2.1),(dI x.2.2)]))),(5,tm1 36 (fun(x:(T44×Bool×Int))=>(.tup [(e44 x.1),(.bool x.2.1),(dI x.2.2)])))] [(1,[4],[]),(0,[1,2,11],[16])] (fun(y1:(List UInt8)×(List (List UInt8))×(List (List T116))×(List T119)×Int×(List T85))=>⟨[(1,(.d (eSl 1 (D.int .u16) a1))),(2,(.ptr 16 0)),(11,aN)],(z8_0 y1),[],688⟩) (c3 (@p13) fun x1=>(.ite (!x1) (.ret .ret ⟨[(4,(aB false))],[],[],96⟩ (.inr (false)) ⟨rfl,rfl,_,Weak.refl _,dr⟩) (c3 (@p14 a0) fun x3=>(c3 (@p23 x3) fun x4=>(c3 (@p25 x3) fun x5=>(.ite ((((x4.2.2 != 0) || (x5.2.2 != 0)) || (!x4.2.1)) || (!x5.2.1)) (.ret .ret ⟨[(4,(aB true))],[],[],688⟩ (.inr (true)) ⟨rfl,rfl,_,Weak.refl _,dr⟩) (.nx (x3.Name,x3.Conds,x3.Never,x3.States,x3.Start,x3.Transitions)))))))) (fun y1=>(.sc (fun(y3:(List Int))=>⟨[(2,(.ptr 16 0)),(11,(z8_1 y3))],(z8_0 y1),[1104],1312⟩) (.sq 1 [] [(0,[1,2,11,12],[16])] (fun(_:Unit)=>⟨[(1,(.d (eSl 1 (D.int .u16) a1))),(2,(.ptr 16 0)),(11,aN),(12,(aI 0))],(z8_0 y1),[],704⟩) (.nx ()) (fun _=>(.bk (.lp (fun(s2:(List Int)×Int)=>⟨[(1,(.d (eSl 1 (D.int .u16) a1))),(2,(.ptr 16 0)),(11,(.ap 1 s2.1.length (cF (D.int .u16) s2.1) (.tok 1104 42))),(12,(aI s2.2))],(z8_0 y1),[1104],1184⟩) ([],(0:Int)) (wk [(16,16)] []) fun s2=>(.sg [(13,tm1 76 D.bool)] [(0,[1,2,11,12],[16]),(2,[2,11],[16])] (.ite ((decide (s2.2 < (a1.length:Int)))&&(decide (s2.2 < 12))) (nd (0≤s2.2) (nd (s2.2 < (a1.length:Int)) (nd (0≤(y1.2.1.length:Int)) (c3 (@p20 (⟨y1.1,y1.2.1,y1.2.2.1,y1.2.2.2.1,y1.2.2.2.2.1,y1.2.2.2.2.2⟩:T27) (IntKind.wrap .u16 ((((BitVec.ofInt (IntKind.bits .u16) (a1.getD s2.2.toNat default)) &&& (BitVec.ofInt (IntKind.bits .u16) (IntKind.wrap .u16 ((IntKind.wrap .u16 ((1:Int) * 2 ^ (min (y1.2.1.length:Int).toNat (IntKind.bits .u16)))) - 1)))).toNat:Int)))) fun x13=>(.ite x13 (nd ((s2.1.length+1) * 2≤140737488355328) (.ret .normal ⟨[(1,(.d (eSl 1 (D.int .u16) a1))),(2,(.ptr 16 0)),(11,(.ap 1 (s2.1.length+1) (appF s2.1.length (cF (D.int .u16) s2.1) (litF [(.int .u16 (IntKind.wrap .u16 ((((BitVec.ofInt (IntKind.bits .u16) (a1.getD s2.2.toNat default)) &&& (BitVec.ofInt (IntKind.bits .u16) (IntKind.wrap .u16 ((IntKind.wrap .u16 ((1:Int) * 2 ^ (min (y1.2.1.length:Int).toNat (IntKind.bits .u16)))) - 1)))).toNat:Int))))])) (.tok 1584 42))),(12,(aI (IntKind.wrap .i64 (s2.2+1))))],(z8_0 y1),[1584,1568],1664⟩ (.inl ((s2.1++([(IntKind.wrap .u16 ((((BitVec.ofInt (IntKind.bits .u16) (a1.getD s2.2.toNat default)) &&& (BitVec.ofInt (IntKind.bits .u16) (IntKind.wrap .u16 ((IntKind.wrap .u16 ((1:Int) * 2 ^ (min (y1.2.1.length:Int).toNat (IntKind.bits .u16)))) - 1)))).toNat:Int)))]:List Int)),(IntKind.wrap .i64 (s2.2+1)))) ⟨rfl,(wh [(16,16)] [(1104,1584)] ⟨dr,⟨rfl,rfl⟩,⟨rfl,rfl,rfl,(de_app dr (de_lit rfl rfl))⟩,dr⟩)⟩)) (.ret .normal ⟨[(1,(.d (eSl 1 (D.int .u16) a1))),(2,(.ptr 16 0)),(11,(.ap 1 s2.1.length (cF (D.int .u16) s2.1) (.tok 1104 42))),(12,(aI (IntKind.wrap .i64 (s2.2+1))))],(z8_0 y1),[1104],1584⟩ (.inl (s2.1,(IntKind.wrap .i64 (s2.2+1)))) ⟨rfl,(wk [(16,16)] [(1104,1104)])⟩)))))) (.ret (.exit 0) _ (.inr (.inl s2.1)) ⟨rfl,rfl,Weak.refl _⟩))))))) fun y3=>(.sq 3 [(15,tm1 84 (fun(x:((List Int)×(List (List UInt8))×Int))=>(.tup [(eSl 1 dI x.1),(eSl 1 D.str x.2.1),(dI x.2.2)]))),(18,tm1 100 (fun(x:((List T37)×Int))=>(.tup [(eSl 2 e37 x.1),(dI x.2)])))] [(1,[4],[]),(0,[2,11,14,17],[16])] (fun(y4:(List Int)×(List T37))=>⟨[(2,(.ptr 16 0)),(11,(z8_1 y3)),(14,(.d (eSl 1 dI y4.1))),(17,(.d (eSl 2 e37 y4.2)))],(z8_0 y1),[1104],1744⟩) (c3 (@p32 (⟨y1.1,y1.2.1,y1.2.2.1,y1.2.2.2.1,y1.2.2.2.2.1,y1.2.2.2.2.2⟩:T27) y3) fun x15=>(.ite ((x15.2.2 != 0) || ((x15.1.length:Int) != (IntKind.wrap .i64 ((y3.length:Int)+(1:Int))))) (.ret .ret ⟨[(4,(aB false))],[],[1104],1648⟩ (.inr (false)) ⟨rfl,rfl,_,Weak.refl _,dr⟩) (c3 (@p15 (⟨y1.1,y1.2.1,y1.2.2.1,y1.2.2.2.1,y1.2.2.2.2.1,y1.2.2.2.2.2⟩:T27)) fun x18=>(.nx (x15.1,x18.1))))) (fun y4=>(.sc (fun(_:Unit)=>⟨[],[],[],2560⟩) (.sq 1 [] [(0,[2,11,17,103,104,105],[16])] (fun(_:Unit)=>⟨[(2,(.ptr 16 0)),(11,(z8_1 y3)),(17,(.d (eSl 2 e37 y4.2))),(103,(.d (eSl 1 dI y4.1))),(104,(aI (y4.1.length:Int))),(105,(aI 0))],(z8_0 y1),[1104],1792⟩) (.nx ()) (fun _=>(.bk (.lp (fun(s5:Int)=>⟨(z8_2 s5 y3 y4),(z8_0 y1),[1104],2544⟩) (0:Int) (wk [(16,16)] [(1104,1104)]) fun s5=>(.sq 2 [] [(0,[2,11,17,103,104,105],[16]),(4,[],[])] (fun(_:Unit)=>⟨(z8_2 s5 y3 y4),(z8_0 y1),[1104],2560⟩) (.ite (decide (s5 < (y4.1.length:Int))) (.nx ()) (.ret (.exit 2) ⟨[],[],[1104],2560⟩ (.inr (.inr (.inl ()))) ⟨rfl,rfl,rfl,(wk [] [])⟩)) (fun _=>(.sc (fun(_:Unit)=>⟨(z8_2 s5 y3 y4),(z8_0 y1),[1104],3264⟩) (.bk (.sq 2 [] [(0,[2,11,17,19,20,21,103,104,105],[16])] (fun(_:Unit)=>⟨[(2,(.ptr 16 0)),(11,(z8_1 y3)),(17,(.d (eSl 2 e37 y4.2))),(19,(aI s5)),(20,(aI (y4.1.getD s5.toNat default))),(21,(aB false)),(103,(.d (eSl 1 dI y4.1))),(104,(aI (y4.1.length:Int))),(105,(aI s5))],(z8_0 y1),[1104],2656⟩) (nd (0≤s5) (nd (s5 < (y4.1.length:Int)) (.nx ()))) (fun _=>(.sc (fun(y7:Bool)=>⟨[(2,(.ptr 16 0)),(11,(z8_1 y3)),(17,(.d (eSl 2 e37 y4.2))),(19,(aI s5)),(20,(aI (y4.1.getD s5.toNat default))),(21,(aB y7)),(103,(.d (eSl 1 dI y4.1))),(104,(aI (y4.1.length:Int))),(105,(aI s5))],(z8_0 y1),[1104],2960⟩) (.sq 1 [] [(0,[2,11,17,19,20,21,103,104,105,110,111,112],[16])] (fun(_:Unit)=>⟨[(2,(.ptr 16 0)),(11,(z8_1 y3)),(17,(.d (eSl 2 e37 y4.2))),(19,(aI s5)),(20,(aI (y4.1.getD s5.toNat default))),(21,(aB false)),(103,(.d (eSl 1 dI y4.1))),(104,(aI (y4.1.length:Int))),(105,(aI s5)),(110,(.d (eSl 2 e37 y4.2))),(111,(aI (y4.2.length:Int))),(112,(aI 0))],(z8_0 y1),[1104],2704⟩) (.nx ()) (fun _=>(.bk (.lp (fun(s6:Bool×Int)=>⟨[(2,(.ptr 16 0)),(11,(z8_1 y3)),(17,(.d (eSl 2 e37 y4.2))),(19,(aI s5)),(20,(aI (y4.1.getD s5.toNat default))),(21,(aB s6.1)),(103,(.d (eSl 1 dI y4.1))),(104,(aI (y4.1.length:Int))),(105,(aI s5)),(110,(.d (eSl 2 e37 y4.2))),(111,(aI (y4.2.length:Int))),(112,(aI s6.2))],(z8_0 y1),[1104],2944⟩) (false,(0:Int)) (wk [(16,16)] [(1104,1104)]) fun s6=>(.sg [] [(0,[2,11,17,19,20,21,103,104,105,110,111,112],[16]),(6,[2,11,17,19,20,21,103,104,105],[16])] (.ite (decide (s6.2 < (y4.2.length:Int))) (nd (0≤s6.2) (nd (s6.2 < (y4.2.length:Int)) (.ret .normal ⟨[(2,(.ptr 16 0)),(11,(z8_1 y3)),(17,(.d (eSl 2 e37 y4.2))),(19,(aI s5)),(20,(aI (y4.1.getD s5.toNat default))),(21,(aB (s6.1 || ((y4.2.getD s6.2.toNat default).Leaf==(y4.1.getD s5.toNat default))))),(103,(.d (eSl 1 dI y4.1))),(104,(aI (y4.1.length:Int))),(105,(aI s5)),(110,(.d (eSl 2 e37 y4.2))),(111,(aI (y4.2.length:Int))),(112,(aI (IntKind.wrap .i64 (s6.2+1))))],(z8_0 y1),[1104],3184⟩ (.inl ((s6.1 || ((y4.2.getD s6.2.toNat default).Leaf==(y4.1.getD s5.toNat default))),(IntKind.wrap .i64 (s6.2+1)))) ⟨rfl,(wk [(16,16)] [(1104,1104)])⟩))) (.ret (.exit 4) _ (.inr (.inl s6.1)) ⟨rfl,rfl,Weak.refl _⟩))))))) fun y7=>(.sg [(28,tm1 138 (eSl 1 dI))] [(1,[4],[]),(0,[2,11,17,103,104,105],[16])] (.exi ((List Int)) (if((!(!y7))&&(decide (s5 < (y3.length:Int))))=true→0≤s5 then(if((!(!y7))&&(decide (s5 < (y3.length:Int))))=true→s5 < (y3.length:Int)then((if((!(!y7))&&(decide (s5 < (y3.length:Int))))=true then m19 (⟨y1.1,y1.2.1,y1.2.2.1,y1.2.2.2.1,y1.2.2.2.2.1,y1.2.2.2.2.2⟩:T27) (y4.1.getD s5.toNat default) (y3.getD s5.toNat default)else some default).bind fun r28_0=>some r28_0)else none)else none) (fun x28=>(.g ((!(!y7))&&(decide (s5 < (y3.length:Int)))) (0≤s5) (.g ((!(!y7))&&(decide (s5 < (y3.length:Int)))) (s5 < (y3.length:Int)) (.g ((!(!y7))&&(decide (s5 < (y3.length:Int)))) (PureAt Tryz.prog 19 [(.agg [(.str y1.1),(eSl 1 D.str y1.2.1),(eSl 1 (eSl 2 e116) y1.2.2.1),(eSl 6 e119 y1.2.2.2.1),(dI y1.2.2.2.2.1),(eSl 4 e85 y1.2.2.2.2.2)]),(dI (y4.1.getD s5.toNat default)),(.int .u16 (y3.getD s5.toNat default))] (eSl 1 dI x28)) (.fin 0))))) (by intro x28 h;obtain⟨h1,h⟩:=if_some h;obtain⟨h2,h⟩:=if_some h;obtain⟨r28_0,h3,h⟩:=Option.bind_eq_some_iff.1 h;cases h;exact⟨h1,h2,fun g=>p19 (a0:=(⟨y1.1,y1.2.1,y1.2.2.1,y1.2.2.2.1,y1.2.2.2.2.1,y1.2.2.2.2.2⟩:T27)) (by rw[if_pos g]at h3;exact h3),trivial⟩) (fun x28 _=>(.ite ((!y7) || ((decide (s5 < (y3.length:Int)))&&((x28.length:Int) != (1:Int)))) (.ret .ret ⟨[(4,(aB false))],[],[1104],3280⟩ (.inr (.inr (.inr (false)))) ⟨rfl,rfl,rfl,rfl,_,Weak.refl _,dr⟩) (.ret .normal _ (.inl ()) ⟨rfl,Weak.refl _⟩))))))))) fun _=>(.sg [] [(0,[2,11,17,103,104,105],[16])] (.ret .normal ⟨[(2,(.ptr 16 0)),(11,(z8_1 y3)),(17,(.d (eSl 2 e37 y4.2))),(103,(.d (eSl 1 dI y4.1))),(104,(aI (y4.1.length:Int))),(105,(aI (IntKind.wrap .i64 (s5+1))))],(z8_0 y1),[1104],3296⟩ (.inl (IntKind.wrap .i64 (s5+1))) ⟨rfl,(wk [(16,16)] [(1104,1104)])⟩))))))))) fun _=>(.sg [] [(1,[4],[])] (.ret .ret ⟨[(4,(aB true))],[],[],2576⟩ true ⟨rfl,_,Weak.refl _,dr⟩))))))))
noncomputable def m8 (a0:T27) (a1:List Int):Option (Bool):=(d8 a0 a1).m
theorem p8 {a0:T27} {a1:List Int} {r:Bool} (h:m8 a0 a1=some r):PureAt Tryz.prog 8 [(e27 a0),(eSl 1 (D.int .u16) a1)] (.bool r):=pure_jd (d8 a0 a1) Tryz.func8 h
end Go.Av
namespace Go.Av
def firstR {Y:Type} (f:Nat→Option Y) (n:Nat):Option Y:=(List.range n).findSome? f
theorem firstR_succ {Y:Type} {f:Nat→Option Y} {n:Nat}:firstR f (n+1)=match firstR f n with | some y=>some y | none=>f n:=by
 unfold firstR
 rw[List.range_succ,List.findSome?_append]
 cases (List.range n).findSome? f with
 | some y=>rfl
 | none=>simp
theorem firstR_none {Y:Type} {f:Nat→Option Y} {n:Nat}:firstR f n=none↔∀ i,i < n→f i=none:=by
 unfold firstR
 rw[List.findSome?_eq_none_iff]
 exact⟨fun h i hi=>h i (List.mem_range.2 hi),fun h i hi=>h i (List.mem_range.1 hi)⟩
theorem firstR_some {Y:Type} {f:Nat→Option Y} {n:Nat} {y:Y} (h:firstR f n=some y):∃ i,i < n∧f i=some y:=by
 unfold firstR at h
 obtain⟨i,hi,h⟩:=List.exists_of_findSome?_eq_some h
 exact⟨i,List.mem_range.1 hi,h⟩
theorem firstR_at {Y:Type} {f:Nat→Option Y} {n i:Nat} {y:Y} (hi:i < n) (h0:∀ j,j < i→f j=none) (h:f i=some y):firstR f n=some y:=by
 induction n with
 | zero=>omega
 | succ n ih =>
  rw[firstR_succ]
  by_cases hn:i < n
  ·rw[ih hn]
  ·obtain rfl:i=n:=by omega
   rw[firstR_none.2 h0,h]
def anyR (F:Nat→Bool) (n:Nat):Bool:=(List.range n).any F
theorem anyR_iff {F:Nat→Bool} {n:Nat}:anyR F n=true↔∃ i,i < n∧F i=true:=by
 simp only[anyR,List.any_eq_true,List.mem_range]
theorem anyR_false {F:Nat→Bool} {n:Nat}:anyR F n=false↔∀ i,i < n→F i=false:=by
 rw[← Bool.not_eq_true,anyR_iff]
 exact⟨fun h i hi=>by cases hf:F i with | false=>rfl | true=>exact absurd ⟨i,hi,hf⟩ h,fun h ⟨i,hi,hf⟩=>by rw[h i hi]at hf;cases hf⟩
theorem anyR_congr {F G:Nat→Bool} {n:Nat} (h:∀ i,i < n→F i=G i):anyR F n=anyR G n:=by
 rw[Bool.eq_iff_iff,anyR_iff,anyR_iff]
 exact⟨fun⟨i,hi,hf⟩=>⟨i,hi,by rw[← h i hi];exact hf⟩,fun⟨i,hi,hf⟩=>⟨i,hi,by rw[h i hi];exact hf⟩⟩
theorem firstR_any {Y:Type} {F:Nat→Bool} {g:Nat→Y} {n:Nat}:(firstR (fun i=>if F i=true then some (g i)else none) n).isSome=anyR F n:=by
 rw[Bool.eq_iff_iff,anyR_iff,Option.isSome_iff_ne_none,ne_eq,firstR_none]
 constructor
 ·intro h
  apply Classical.byContradiction
  intro hn
  exact h fun i hi=>by
   rw[if_neg]
   exact fun hf=>hn ⟨i,hi,hf⟩
 ·rintro⟨i,hi,hf⟩ h
  have:=h i hi
  rw[if_pos hf]at this;cases this
theorem firstR_const {Y:Type} {F:Nat→Bool} {y:Y} {n:Nat}:firstR (fun i=>if F i=true then some y else none) n=if anyR F n=true then some y else none:=by
 rw[← firstR_any (g:=fun _=>y)]
 cases h:firstR (fun i=>if F i=true then some y else none) n with
 | none=>rfl
 | some z =>
  obtain⟨i,_,h⟩:=firstR_some h
  split at h
  ·injection h with h;subst h;rfl
  ·cases h
def findR (F:Nat→Bool) (n:Nat):Int:=(firstR (fun i=>if F i=true then some (i:Int)else none) n).getD (-1)
theorem findR_any {F:Nat→Bool} {n:Nat}:decide (0≤findR F n)=anyR F n:=by
 rw[← firstR_any (g:=fun i=>(i:Int))]
 unfold findR
 cases h:firstR (fun i=>if F i=true then some (i:Int)else none) n with
 | none=>rfl
 | some y =>
  obtain⟨i,_,h⟩:=firstR_some h
  split at h
  ·injection h with h;subst h;simp
  ·cases h
def orK {R:Type} (o k:Option R):Option R:=match o with
 | some y=>some y
 | none=>k
theorem orK_some {R:Type} {y:R} {k:Option R}:orK (some y) k=some y:=rfl
theorem orK_none {R:Type} {k:Option R}:orK none k=k:=rfl
theorem orK_getD {R:Type} {a:Option R} {d:R}:orK a (some d)=some (a.getD d):=by cases a<;>rfl
theorem orK_total {R:Type} {o k:Option R} (h:∃ y,k=some y):∃ y,orK o k=some y:=by
 cases o with
 | some y=>exact⟨y,rfl⟩
 | none=>exact h
theorem ite_total {R:Type} {p:Prop} [Decidable p] {y:R} {k:Option R} (h:∃ y,k=some y):∃ z,(if p then some y else k)=some z:=by
 split
 ·exact⟨y,rfl⟩
 ·exact h
def exB {S R:Type} (o:Option R) (s:S):Option (S⊕(Unit⊕R)):=match o with
 | some y=>some (.inr (.inr y))
 | none=>some (.inl s)
theorem exB_some {S R:Type} {y:R} {s:S}:exB (some y) s=some (.inr (.inr y)):=rfl
theorem exB_none {S R:Type} {s:S}:exB (none:Option R) s=some (.inl s):=rfl
theorem exB_ite {S R:Type} {p:Prop} [Decidable p] {a b:Option R} {s:S}:exB (if p then a else b) s=if p then exB a s else exB b s:=by split<;>rfl
theorem some_ite {α:Type} {p:Prop} [Decidable p] {a b:α}:some (if p then a else b)=if p then some a else some b:=by split<;>rfl
theorem loop_ex_from {R:Type} {b:Int→Option (Int⊕(Unit⊕R))} (n:Nat) (f:Nat→Option R) (hb:∀ i:Nat,i < n→b i=exB (f i) ((i:Int)+1)) (hd:b n=some (.inr (.inl ()))) :
  ∀ (k i0:Nat),i0+k=n→(∀ i,i < i0→f i=none)→loopO b i0=match firstR f n with | some y=>some (.inr y) | none=>some (.inl ())
 | 0,i0,hk,h0=>by
  obtain rfl:i0=n:=by omega
  rw[loopO_eq,hd,firstR_none.2 h0];rfl
 | k+1,i0,hk,h0=>by
  rw[loopO_eq,hb i0 (by omega)]
  cases hf:f i0 with
  | some y=>rw[firstR_at (by omega) h0 hf];rfl
  | none =>
   have:=loop_ex_from n f hb hd k (i0+1) (by omega) (fun i hi=>by
    by_cases h:i < i0
    ·exact h0 i h
    ·obtain rfl:i=i0:=by omega
     exact hf)
   rw[exB_none]
   simpa using this
theorem loop_ex {R:Type} {b:Int→Option (Int⊕(Unit⊕R))} {k:Unit→Option R} (n:Nat) (f:Nat→Option R) (hb:∀ i:Nat,i < n→b i=exB (f i) ((i:Int)+1)) (hd:b n=some (.inr (.inl ()))) :
  (loopO b 0).bind (onS k)=orK (firstR f n) (k ()):=by
 have:=loop_ex_from n f hb hd n 0 (by omega) (fun i hi=>by omega)
 rw[show ((0:Nat):Int)=0 from rfl]at this
 rw[this]
 cases firstR f n<;>rfl
theorem loop_or {R:Type} {b:Int→Option (Int⊕(Unit⊕R))} {k:Unit→Option R} (n:Nat) (f:Nat→Option R) (hb:∀ i:Nat,i < n→b i=exB (f i) ((i:Int)+1)) (hd:b n=some (.inr (.inl ()))) {z:Option R} (hk:k ()=z) :
  (loopO b 0).bind (onS k)=orK (firstR f n) z:=by rw[loop_ex n f hb hd,hk]
theorem loop_pass {R:Type} {b:Int→Option (Int⊕(Unit⊕R))} {k:Unit→Option R} (n:Nat) (hb:∀ i:Nat,i < n→b i=some (.inl ((i:Int)+1))) (hd:b n=some (.inr (.inl ()))) {z:Option R} (hk:k ()=z) :
  (loopO b 0).bind (onS k)=z:=by
 rw[loop_or n (fun _=>none) hb hd hk,firstR_none.2 fun _ _=>rfl];rfl
theorem ite_else {α:Type} {p:Prop} [Decidable p] {a b b':α} (h:b=b'):(if p then a else b)=if p then a else b':=by rw[h]
theorem bind_to {α β:Type} {m:Option α} {x:α} {f:α→Option β} {z:Option β} (h:m=some x) (hf:f x=z):m.bind f=z:=by rw[h];exact hf
theorem bind_eq {α β:Type} {m m':Option α} {f:α→Option β} {z:Option β} (h:m=m') (h2:m'.bind f=z):m.bind f=z:=by rw[h];exact h2
theorem on_l {Y R:Type} {m:Option (Y⊕R)} {y:Y} {f:Y→Option R} {z:Option R} (h:m=some (.inl y)) (hf:f y=z):m.bind (onS f)=z:=by rw[h];exact hf
theorem flatMap_app {A:Type} (g:Nat→List A) (n:Nat):(List.range (n+1)).flatMap g=(List.range n).flatMap g++g n:=by rw[List.range_succ,List.flatMap_append];simp
theorem loop_coll {A St X:Type} {b:St→Option (St⊕X)} (n:Nat) (mk:Nat→List A→St) (g:Nat→List A) (out:List A→X)
  (hs:∀ i,i < n→b (mk i ((List.range i).flatMap g))=some (.inl (mk (i+1) ((List.range i).flatMap g++g i)))) (he:b (mk n ((List.range n).flatMap g))=some (.inr (out ((List.range n).flatMap g)))) :
  loopO b (mk 0 [])=some (out ((List.range n).flatMap g)):=by
 have key:∀ k i,i+k=n→loopO b (mk i ((List.range i).flatMap g))=some (out ((List.range n).flatMap g)):=by
  intro k
  induction k with
  | zero =>
   intro i hk
   obtain rfl:i=n:=by omega
   rw[loopO_eq,he];rfl
  | succ k ih =>
   intro i hk
   rw[loopO_eq,hs i (by omega),← flatMap_app]
   exact ih (i+1) (by omega)
 exact key n 0 (by omega)
theorem flatMap_len {A:Type} {g:Nat→List A} {m:Nat} (h:∀ i,(g i).length≤m):∀ n,((List.range n).flatMap g).length≤n * m
 | 0=>by simp
 | n+1=>by
  have:=flatMap_len h n
  have:=h n
  rw[flatMap_app,List.length_append,Nat.succ_mul];omega
theorem wr1 {i n:Nat} (h:i < n) (hn:n≤4611686018427387904):IntKind.wrap .i64 ((i:Int)+1)=(i:Int)+1:=w64 (by omega) (by omega)
theorem lt_irr {n:Nat}:¬ ((n:Int) < (n:Int)):=Int.lt_irrefl _
theorem subL_getD {α:Type} [Inhabited α] {l:List α} {k j:Nat} (h:j < k):(subL l 0 k).getD j default=l.getD j default:=by
 simp[subL,List.getD_eq_getElem?_getD,List.getElem?_range h]
theorem inL {i:Nat} {n:Nat} (h:i < n):((0:Int)≤(i:Int))=True∧((i:Int) < (n:Int))=True∧(decide ((i:Int) < (n:Int))=true)=True:=by
 refine⟨eq_true (by omega),eq_true (by omega),eq_true (by simpa using h)⟩
end Go.Av
set_option maxRecDepth 100000
namespace Go.Av.Ch
def odd1 (c:Int):Bool:=(decide (c < 65) || decide (90 < c))&&(decide (c < 48) || decide (57 < c))
def nm0 (s:List UInt8):Bool:=decide (s.length=0) || decide (8 < s.length) || decide (byteAt s 0 < 65) || decide (90 < byteAt s 0)
def nm (s:List UInt8):Bool:=!nm0 s&&!anyR (fun i=>odd1 (byteAt s i)) s.length
theorem nm_loop {s:List UInt8} (hl:s.length≤8) {b:Int→Option (Int⊕(Unit⊕Bool))} (hb:∀ i:Nat,i < s.length→b i=exB (if odd1 (byteAt s i)=true then some false else none) ((i:Int)+1)) (hd:b s.length=some (.inr (.inl ()))) :
  (loopO b 0).bind (onS fun _=>some true)=some (!anyR (fun i=>odd1 (byteAt s i)) s.length):=by
 rw[loop_ex s.length _ hb hd,firstR_const]
 cases anyR (fun i=>odd1 (byteAt s i)) s.length<;>rfl
theorem nm_rname (s:List UInt8):m130 s 8=some (nm s):=by
 have e0:(((s.length:Int)==(0:Int)) || (decide ((8:Int) < (s.length:Int))))=(decide (s.length=0) || decide (8 < s.length)):=by
  rw[Bool.eq_iff_iff];simp only[Bool.or_eq_true,decide_eq_true_eq,beq_iff_eq];omega
 delta m130 d130
 simp only[↓JD.sg_m,↓JD.sq_m,↓JD.sc_m,↓JD.bk_m,↓JD.lp_m,↓JD.cd_m,↓JD.lu_m,↓JD.ct_m,↓JD.ce_m,↓JL.r_m,↓JL.z_m,↓JD.se_m,onE_r,↓Tr.run,↓Tr.run_nd,↓Tr.run_c3,↓Tr.run_c2,↓Tr.run_nx,↓onS,bind_ite,Option.bind_some,Option.bind_none,obR,e0,Int.toNat_zero,Int.le_refl,implies_true,if_true]
 cases h1:(decide (s.length=0) || decide (8 < s.length)) with
 | true=>simp only[Bool.true_or,Bool.not_true,Bool.false_eq_true,false_implies,if_true,nm,nm0,h1,Bool.false_and]
 | false =>
  have hl:s.length≤8∧0 < s.length:=by simp only[Bool.or_eq_false_iff,decide_eq_false_iff_not]at h1;omega
  have z2:(0:Int) < s.length:=by omega
  simp only[Bool.false_or,z2,implies_true,if_true,nm,nm0,h1]
  cases h2:(decide (byteAt s 0 < 65) || decide (90 < byteAt s 0)) with
  | true=>rfl
  | false =>
   simp only[Bool.false_eq_true,if_false,Bool.not_false,Bool.true_and]
   refine nm_loop hl.1 (fun i hi=>?_) ?_
   ·(simp only[exB_ite,exB_some,exB_none];simp only[inL hi,decide_true,Int.toNat_natCast,if_true,implies_true,wr1 hi (by omega)];try rfl)
   ·(simp only[lt_irr,decide_false,Bool.false_eq_true,if_false];try rfl)
theorem nm_name (s:List UInt8):m85 s=some (nm s):=by
 delta m85 d85
 simp only[↓JD.sg_m,↓JD.sq_m,↓JD.sc_m,↓JD.bk_m,↓JD.lp_m,↓JD.cd_m,↓JD.lu_m,↓JD.ct_m,↓JD.ce_m,↓JL.r_m,↓JL.z_m,↓JD.se_m,onE_r,↓Tr.run,↓Tr.run_nd,↓Tr.run_c3,↓Tr.run_c2,↓Tr.run_nx,↓onS,bind_ite,Option.bind_some,Option.bind_none,obR,nm_rname]
def hasK {α:Type} [BEq α] [Inhabited α] (l:List α) (k:Nat) (x:α):Bool:=anyR (fun i=>x==l.getD i default) k
theorem hasK_sub {α:Type} [BEq α] [Inhabited α] {l:List α} {k:Nat} {x:α}:hasK (subL l 0 k) k x=hasK l k x:=anyR_congr fun i hi=>by rw[subL_getD hi]
theorem hasK_iff {α:Type} [BEq α] [LawfulBEq α] [Inhabited α] {l:List α} {x:α}:hasK l l.length x=true↔x∈l:=by
 unfold hasK
 rw[anyR_iff]
 constructor
 ·rintro⟨i,hi,h⟩
  rw[eq_of_beq h];exact getD_mem hi
 ·intro h
  obtain⟨i,hi,h⟩:=List.getElem_of_mem h
  exact⟨i,hi,by simp[List.getD_eq_getElem?_getD,List.getElem?_eq_getElem hi,h]⟩
theorem idx_loop {n:Nat} {F:Nat→Bool} {b:Int→Option (Int⊕(Unit⊕Int))} (hb:∀ i:Nat,i < n→b i=exB (if F i=true then some (i:Int)else none) ((i:Int)+1)) (hd:b n=some (.inr (.inl ()))) :
  (loopO b 0).bind (onS fun _=>some (-1))=some (findR F n):=by
 rw[loop_ex n _ hb hd,orK_getD];rfl
theorem containsS_eq (l:List (List UInt8)) (x:List UInt8) (hl:l.length≤100000):m131 l x=some (hasK l l.length x):=by
 have e:m162 l x=some (findR (fun i=>x==l.getD i default) l.length):=by
  delta m162 d162
  simp only[↓JD.sg_m,↓JD.sq_m,↓JD.sc_m,↓JD.bk_m,↓JD.lp_m,↓JD.cd_m,↓JD.lu_m,↓JD.ct_m,↓JD.ce_m,↓JL.r_m,↓JL.z_m,↓JD.se_m,onE_r,↓Tr.run,↓Tr.run_nd,↓Tr.run_c3,↓Tr.run_c2,↓Tr.run_nx,↓onS,bind_ite,Option.bind_some,Option.bind_none,obR]
  refine idx_loop (fun i hi=>?_) ?_
  ·(simp only[exB_ite,exB_some,exB_none];simp only[inL hi,decide_true,Int.toNat_natCast,if_true,implies_true,wr1 hi (by omega)];try rfl)
  ·(simp only[lt_irr,decide_false,Bool.false_eq_true,if_false];try rfl)
 delta m131 d131
 simp only[↓JD.sg_m,↓JD.sq_m,↓JD.sc_m,↓JD.bk_m,↓JD.lp_m,↓JD.cd_m,↓JD.lu_m,↓JD.ct_m,↓JD.ce_m,↓JL.r_m,↓JL.z_m,↓JD.se_m,onE_r,↓Tr.run,↓Tr.run_nd,↓Tr.run_c3,↓Tr.run_c2,↓Tr.run_nx,↓onS,bind_ite,Option.bind_some,Option.bind_none,obR,e,findR_any,hasK]
theorem indexI_eq (l:List Int) (x:Int) (hl:l.length≤100000):m101 l x=some (findR (fun i=>x==l.getD i default) l.length):=by
 delta m101 d101
 simp only[↓JD.sg_m,↓JD.sq_m,↓JD.sc_m,↓JD.bk_m,↓JD.lp_m,↓JD.cd_m,↓JD.lu_m,↓JD.ct_m,↓JD.ce_m,↓JL.r_m,↓JL.z_m,↓JD.se_m,onE_r,↓Tr.run,↓Tr.run_nd,↓Tr.run_c3,↓Tr.run_c2,↓Tr.run_nx,↓onS,bind_ite,Option.bind_some,Option.bind_none,obR]
 refine idx_loop (fun i hi=>?_) ?_
 ·(simp only[exB_ite,exB_some,exB_none];simp only[inL hi,decide_true,Int.toNat_natCast,if_true,implies_true,wr1 hi (by omega)];try rfl)
 ·(simp only[lt_irr,decide_false,Bool.false_eq_true,if_false];try rfl)
theorem containsI_eq (l:List Int) (x:Int) (hl:l.length≤100000):m49 l x=some (hasK l l.length x):=by
 delta m49 d49
 simp only[↓JD.sg_m,↓JD.sq_m,↓JD.sc_m,↓JD.bk_m,↓JD.lp_m,↓JD.cd_m,↓JD.lu_m,↓JD.ct_m,↓JD.ce_m,↓JL.r_m,↓JL.z_m,↓JD.se_m,onE_r,↓Tr.run,↓Tr.run_nd,↓Tr.run_c3,↓Tr.run_c2,↓Tr.run_nx,↓onS,bind_ite,Option.bind_some,Option.bind_none,obR,indexI_eq l x hl,findR_any,hasK]
def listedS (l:List (List UInt8)) (i:Nat):Int:=if(!nm (l.getD i default))=true then 5 else if hasK l i (l.getD i default)=true then 7 else 0
theorem listed_eq (l:List (List UInt8)) (i:Nat) (hi:i < l.length) (hl:l.length≤100000):m86 l i=some (listedS l i):=by
 have e:=containsS_eq (subL l 0 i) (l.getD i default) (by rw[subL_len];omega)
 rw[subL_len,hasK_sub]at e
 delta m86 d86
 simp only[↓JD.sg_m,↓JD.sq_m,↓JD.sc_m,↓JD.bk_m,↓JD.lp_m,↓JD.cd_m,↓JD.lu_m,↓JD.ct_m,↓JD.ce_m,↓JL.r_m,↓JL.z_m,↓JD.se_m,onE_r,↓Tr.run,↓Tr.run_nd,↓Tr.run_c3,↓Tr.run_c2,↓Tr.run_nx,↓onS,bind_ite,Option.bind_some,Option.bind_none,obR,inL hi,Int.toNat_natCast,if_true,nm_name,e,listedS,some_ite,show (i:Int)≤l.length by omega]
def litF (c:T27) (l:List T116) (i:Nat):Option Int :=
 if(decide ((l.getD i default).Cond < 0) || decide ((c.Conds.length:Int)≤(l.getD i default).Cond))=true then some 2
 else if(decide ((0:Int) < (i:Int))&&decide ((l.getD i default).Cond≤(l.getD ((i:Int) - 1).toNat default).Cond))=true then some 9 else none
def litS (c:T27) (l:List T116):Int:=(firstR (litF c l) l.length).getD 0
theorem literals_eq (c:T27) (l:List T116) (hl:l.length≤100000):m87 c l=some (litS c l):=by
 delta m87 d87
 simp only[↓JD.sg_m,↓JD.sq_m,↓JD.sc_m,↓JD.bk_m,↓JD.lp_m,↓JD.cd_m,↓JD.lu_m,↓JD.ct_m,↓JD.ce_m,↓JL.r_m,↓JL.z_m,↓JD.se_m,onE_r,↓Tr.run,↓Tr.run_nd,↓Tr.run_c3,↓Tr.run_c2,↓Tr.run_nx,↓onS,bind_ite,Option.bind_some,Option.bind_none,obR]
 rw[loop_ex l.length (litF c l) ?_ ?_,orK_getD];rfl
 ·intro i hi
  have w1:IntKind.wrap .i64 ((i:Int) - 1)=(i:Int) - 1:=w64 (by omega) (by omega)
  have h3:=eq_true (show decide ((0:Int) < i)=true→(0:Int)≤(i:Int) - 1 from fun h=>by simp only[decide_eq_true_eq]at h;omega)
  have h4:=eq_true (show decide ((0:Int) < i)=true→(i:Int) - 1 < l.length from fun h=>by omega)
  unfold litF
  (simp only[exB_ite,exB_some,exB_none];simp only[w1,h3,h4,inL hi,decide_true,Int.toNat_natCast,if_true,implies_true,wr1 hi (by omega)];try rfl)
 ·(simp only[lt_irr,decide_false,Bool.false_eq_true,if_false];try rfl)
def actS (l:List (List UInt8)):Int:=if decide ((8:Int) < (l.length:Int))=true then 3 else if anyR (fun i=>!nm (l.getD i default)) l.length=true then 5 else 0
theorem actS_len {l:List (List UInt8)} (h:actS l=0):l.length≤8:=by
 unfold actS at h
 split at h
 ·cases h
 ·rename_i h1;simp only[decide_eq_true_eq]at h1;omega
theorem actions_eq (l:List (List UInt8)) (hl:l.length≤100000):m90 l=some (actS l):=by
 have e:m163o0 l=some (findR (fun i=>!nm (l.getD i default)) l.length):=by
  delta m163o0 d163o0
  simp only[↓JD.sg_m,↓JD.sq_m,↓JD.sc_m,↓JD.bk_m,↓JD.lp_m,↓JD.cd_m,↓JD.lu_m,↓JD.ct_m,↓JD.ce_m,↓JL.r_m,↓JL.z_m,↓JD.se_m,onE_r,↓Tr.run,↓Tr.run_nd,↓Tr.run_c3,↓Tr.run_c2,↓Tr.run_nx,↓onS,bind_ite,Option.bind_some,Option.bind_none,obR,m133o0,d133o0,nm_name]
  refine idx_loop (fun i hi=>?_) ?_
  ·(simp only[exB_ite,exB_some,exB_none];simp only[inL hi,decide_true,Int.toNat_natCast,if_true,implies_true,wr1 hi (by omega)];try rfl)
  ·(simp only[lt_irr,decide_false,Bool.false_eq_true,if_false];try rfl)
 delta m90 d90
 simp only[↓JD.sg_m,↓JD.sq_m,↓JD.sc_m,↓JD.bk_m,↓JD.lp_m,↓JD.cd_m,↓JD.lu_m,↓JD.ct_m,↓JD.ce_m,↓JL.r_m,↓JL.z_m,↓JD.se_m,onE_r,↓Tr.run,↓Tr.run_nd,↓Tr.run_c3,↓Tr.run_c2,↓Tr.run_nx,↓onS,bind_ite,Option.bind_some,Option.bind_none,obR,m132o0,d132o0,e,findR_any,actS,some_ite]
def comp (c:T27) (x:Int):Bool:=anyR (fun i=>(c.States.getD i default).Parent==x) c.States.length
theorem composite_eq (c:T27) (x:Int) (hl:c.States.length≤100000):m103 c x=some (comp c x):=by
 have e:m175o0 c.States x=some (findR (fun i=>(c.States.getD i default).Parent==x) c.States.length):=by
  delta m175o0 d175o0
  simp only[↓JD.sg_m,↓JD.sq_m,↓JD.sc_m,↓JD.bk_m,↓JD.lp_m,↓JD.cd_m,↓JD.lu_m,↓JD.ct_m,↓JD.ce_m,↓JL.r_m,↓JL.z_m,↓JD.se_m,onE_r,↓Tr.run,↓Tr.run_nd,↓Tr.run_c3,↓Tr.run_c2,↓Tr.run_nx,↓onS,bind_ite,Option.bind_some,Option.bind_none,obR,m154o0,d154o0]
  refine idx_loop (fun i hi=>?_) ?_
  ·(simp only[exB_ite,exB_some,exB_none];simp only[inL hi,decide_true,Int.toNat_natCast,if_true,implies_true,wr1 hi (by omega)];try rfl)
  ·(simp only[lt_irr,decide_false,Bool.false_eq_true,if_false];try rfl)
 delta m103 d103
 simp only[↓JD.sg_m,↓JD.sq_m,↓JD.sc_m,↓JD.bk_m,↓JD.lp_m,↓JD.cd_m,↓JD.lu_m,↓JD.ct_m,↓JD.ce_m,↓JL.r_m,↓JL.z_m,↓JD.se_m,onE_r,↓Tr.run,↓Tr.run_nd,↓Tr.run_c3,↓Tr.run_c2,↓Tr.run_nx,↓onS,bind_ite,Option.bind_some,Option.bind_none,obR,m153o0,d153o0,e,findR_any,comp]
def isS (c:T27) (x:Int):Bool:=decide ((0:Int)≤x)&&decide (x < (c.States.length:Int))
theorem is_eq (c:T27) (x:Int):m89 c x=some (isS c x):=rfl
theorem isS_iff {c:T27} {x:Int}:isS c x=true↔0≤x∧x < c.States.length:=by simp[isS]
def childS (c:T27) (x y:Int):Bool:=isS c x&&((c.States.getD x.toNat default).Parent==y)
end Go.Av.Ch
set_option maxRecDepth 100000
namespace Go.Av.Ch
structure Fit (c:T27):Prop where
 conds:c.Conds.length≤1000
 never:c.Never.length≤1000
 lits:∀ l∈c.Never,l.length≤1000
 states:c.States.length≤1000
 entry:∀ s∈c.States,s.Entry.length≤1000
 exit_:∀ s∈c.States,s.Exit.length≤1000
 trans:c.Transitions.length≤1000
 when_:∀ t∈c.Transitions,t.When.length≤1000
 acts:∀ t∈c.Transitions,t.Actions.length≤1000
def namesS (c:T27):List (List UInt8):=(List.range c.States.length).flatMap fun i=>[(c.States.getD i default).Name]
theorem namesS_map (c:T27):namesS c=(List.range c.States.length).map fun i=>(c.States.getD i default).Name:=(List.map_eq_flatMap ..).symm
theorem namesS_len (c:T27):(namesS c).length=c.States.length:=by rw[namesS_map];simp
def stateT (c:T27) (i:Nat):Int :=
 if(decide ((c.States.getD i default).Parent < (-1:Int)) || decide ((i:Int)≤(c.States.getD i default).Parent))=true then 9
 else if((comp c i&&!childS c (c.States.getD i default).Initial i) || (!comp c i&&((c.States.getD i default).Initial != (-1:Int))))=true then 2
 else if(!comp c i&&(c.States.getD i default).History)=true then 17
 else if(actS (c.States.getD i default).Entry != 0)=true then actS (c.States.getD i default).Entry
 else actS (c.States.getD i default).Exit
def stateS (c:T27) (i:Nat):Int:=if(listedS (namesS c) i != 0)=true then listedS (namesS c) i else stateT c i
theorem state_eq (c:T27) (H:Fit c) (i:Nat) (hi:i < c.States.length):m88 c (namesS c) i=some (stateS c i):=by
 have hs:=H.states
 have he:=H.entry _ (getD_mem hi)
 have hx:=H.exit_ _ (getD_mem hi)
 have e1:=listed_eq (namesS c) i (by rw[namesS_len];exact hi) (by rw[namesS_len];omega)
 delta m88 d88
 simp only[↓JD.sg_m,↓JD.sq_m,↓JD.sc_m,↓JD.bk_m,↓JD.lp_m,↓JD.cd_m,↓JD.lu_m,↓JD.ct_m,↓JD.ce_m,↓JL.r_m,↓JL.z_m,↓JD.se_m,onE_r,↓Tr.run,↓Tr.run_nd,↓Tr.run_c3,↓Tr.run_c2,↓Tr.run_nx,↓onS,bind_ite,Option.bind_some,Option.bind_none,obR,inL hi,e1,Int.toNat_natCast,if_true,composite_eq c _ (Nat.le_trans hs (by omega)),is_eq,actions_eq _ (Nat.le_trans he (by omega)),actions_eq _ (Nat.le_trans hx (by omega)),stateS,stateT,some_ite]
 refine ite_else (ite_else ?_)
 cases hc:comp c i with
 | false=>simp only[Bool.false_and,Bool.not_false,Bool.true_and,Bool.false_or,Bool.false_eq_true,if_false,false_implies,if_true]
 | true =>
  have g1:=eq_true (show (!!isS c (c.States.getD i default).Initial)=true→(0:Int)≤(c.States.getD i default).Initial from fun h=>by simp only[Bool.not_not]at h;exact(isS_iff.1 h).1)
  have g2:=eq_true (show (!!isS c (c.States.getD i default).Initial)=true→(c.States.getD i default).Initial < (c.States.length:Int) from fun h=>by simp only[Bool.not_not]at h;exact(isS_iff.1 h).2)
  simp only[if_true,Option.bind_some,g1,g2,childS,bne,Bool.not_and,Bool.true_and,Bool.not_true,Bool.false_and,Bool.or_false,Bool.false_eq_true,if_false]
def condF (c:T27) (i:Nat):Option Int:=if(listedS c.Conds i != 0)=true then some (listedS c.Conds i)else none
def nevF (c:T27) (i:Nat):Option Int:=if(((c.Never.getD i default).length:Int)==0)=true then some 1 else if(litS c (c.Never.getD i default) != 0)=true then some (litS c (c.Never.getD i default))else none
def stF (c:T27) (i:Nat):Option Int:=if(stateS c i != 0)=true then some (stateS c i)else none
def trF (c:T27) (i:Nat):Option Int :=
 if((!isS c (c.Transitions.getD i default).From) || (!isS c (c.Transitions.getD i default).To))=true then some 2
 else if(litS c (c.Transitions.getD i default).When != 0)=true then some (litS c (c.Transitions.getD i default).When)
 else if(actS (c.Transitions.getD i default).Actions != 0)=true then some (actS (c.Transitions.getD i default).Actions)else none
def checkM (c:T27):Option Int :=
 if(!nm c.Name)=true then some 5
 else if((c.States.length:Int)==0)=true then some 6
 else if((((decide ((12:Int) < (c.Conds.length:Int))) || (decide ((16:Int) < (c.Never.length:Int)))) || (decide ((40:Int) < (c.States.length:Int)))) || (decide ((120:Int) < (c.Transitions.length:Int))))=true then some 3
 else orK (firstR (condF c) c.Conds.length) (orK (firstR (nevF c) c.Never.length) (orK (firstR (stF c) c.States.length) (if(!isS c c.Start)=true then some 2 else orK (firstR (trF c) c.Transitions.length) (some 0))))
theorem checkM_some (c:T27):∃ e,checkM c=some e:=ite_total (ite_total (ite_total (orK_total (orK_total (orK_total (ite_total (orK_total ⟨0,rfl⟩)))))))
theorem Check_eq (c:T27) (H:Fit c):m38 c=checkM c:=by
 have hcl:=H.conds
 have hnl:=H.never
 have hsl:=H.states
 have htl:=H.trans
 delta m38 d38
 simp only[↓JD.sg_m,↓JD.sq_m,↓JD.sc_m,↓JD.bk_m,↓JD.lp_m,↓JD.cd_m,↓JD.lu_m,↓JD.ct_m,↓JD.ce_m,↓JL.r_m,↓JL.z_m,↓JD.se_m,onE_r,↓Tr.run,↓Tr.run_nd,↓Tr.run_c3,↓Tr.run_c2,↓Tr.run_nx,↓onS,bind_ite,Option.bind_some,Option.bind_none,obR,nm_name,is_eq,checkM]
 refine ite_else (ite_else (ite_else (loop_or _ (condF c) (fun i hi=>?_) (by (simp only[lt_irr,decide_false,Bool.false_eq_true,if_false];try rfl)) (loop_or _ (nevF c) (fun i hi=>?_) (by (simp only[lt_irr,decide_false,Bool.false_eq_true,if_false];try rfl)) (on_l (loop_coll c.States.length (fun i l=>(l,(i:Int))) (fun i=>[(c.States.getD i default).Name]) Sum.inl (fun i hi=>?_) (by (simp only[lt_irr,decide_false,Bool.false_eq_true,if_false];try rfl))) (loop_or _ (stF c) (fun i hi=>?_) (by (simp only[lt_irr,decide_false,Bool.false_eq_true,if_false];try rfl)) (ite_else (loop_or _ (trF c) (fun i hi=>?_) (by (simp only[lt_irr,decide_false,Bool.false_eq_true,if_false];try rfl)) rfl))))))))
 ·unfold condF
  (simp only[exB_ite,exB_some,exB_none];simp only[listed_eq c.Conds i hi (by omega),Option.bind_some,inL hi,decide_true,Int.toNat_natCast,if_true,implies_true,wr1 hi (by omega)];try rfl)
 ·have hl:=H.lits _ (getD_mem hi)
  unfold nevF
  (simp only[exB_ite,exB_some,exB_none];simp only[literals_eq c _ (Nat.le_trans hl (by omega)),Option.bind_some,inL hi,decide_true,Int.toNat_natCast,if_true,implies_true,wr1 hi (by omega)];try rfl)
 ·have hl:=flatMap_len (g:=fun i=>[(c.States.getD i default).Name]) (m:=1) (fun i=>by simp) i
  have h3:(((List.range i).flatMap fun i=>[(c.States.getD i default).Name]).length+1) * 16≤140737488355328:=by omega
  simp only[inL hi,h3,Int.toNat_natCast,if_true,wr1 hi (by omega)];rfl
 ·unfold stF
  have e:=state_eq c H i hi
  unfold namesS at e
  (simp only[exB_ite,exB_some,exB_none];simp only[e,Option.bind_some,inL hi,decide_true,Int.toNat_natCast,if_true,implies_true,wr1 hi (by omega)];try rfl)
 ·have hw:=H.when_ _ (getD_mem hi)
  have ha:=H.acts _ (getD_mem hi)
  unfold trF
  simp only[exB_ite,exB_some,exB_none]
  simp only[inL hi,is_eq,literals_eq c _ (Nat.le_trans hw (by omega)),actions_eq _ (Nat.le_trans ha (by omega)),Option.bind_some,decide_true,Int.toNat_natCast,if_true,wr1 hi (by omega)]
  cases isS c (c.Transitions.getD i default).From<;>simp only[Bool.not_true,Bool.not_false,Bool.false_eq_true,Bool.true_or,Bool.false_or,if_true,if_false,Option.bind_some]
end Go.Av.Ch
set_option maxRecDepth 100000
namespace Go.Av.Ch
def topB (c:T27) (s:Int):Bool:=decide ((c.States.getD s.toNat default).Parent < 0) || decide (s≤(c.States.getD s.toNat default).Parent)
def pathT (c:T27):Nat→Int→List Int
 | 0,_=>[]
 | n+1,s=>if topB c s=true then[]else(c.States.getD s.toNat default).Parent :: pathT c n (c.States.getD s.toNat default).Parent
def pathS (c:T27) (s:Int):List Int:=if isS c s=true then s :: pathT c s.toNat s else[]
theorem pathT_len (c:T27):∀ n s,(pathT c n s).length≤n
 | 0,_=>by simp[pathT]
 | n+1,s=>by
  unfold pathT
  split
  ·simp
  ·have:=pathT_len c n (c.States.getD s.toNat default).Parent
   simp only[List.length_cons];omega
theorem pathS_len (c:T27) (s:Int):(pathS c s).length≤c.States.length:=by
 unfold pathS
 split
 ·rename_i h
  have:=isS_iff.1 h
  have:=pathT_len c s.toNat s
  simp only[List.length_cons];omega
 ·simp
theorem topB_false {c:T27} {s:Int} (h:topB c s=false):0≤(c.States.getD s.toNat default).Parent∧(c.States.getD s.toNat default).Parent < s:=by
 simp only[topB,Bool.or_eq_false_iff,decide_eq_false_iff_not]at h;omega
theorem pathT_fuel (c:T27):∀ n m s,0≤s→s.toNat≤n→s.toNat≤m→pathT c n s=pathT c m s:=by
 intro n
 induction n with
 | zero =>
  intro m s h0 hn hm
  cases m with
  | zero=>rfl
  | succ m =>
   unfold pathT
   cases ht:topB c s with
   | true=>simp
   | false=>have:=topB_false ht;omega
 | succ n ih =>
  intro m s h0 hn hm
  cases ht:topB c s with
  | true =>
   cases m with
   | zero=>unfold pathT;simp[ht]
   | succ m=>unfold pathT;simp[ht]
  | false =>
   have:=topB_false ht
   cases m with
   | zero=>omega
   | succ m =>
    unfold pathT
    simp only[ht,Bool.false_eq_true,if_false]
    rw[ih m _ this.1 (by omega) (by omega)]
theorem pathS_step {c:T27} {s:Int} (h:isS c s=true):pathS c s=s :: if topB c s=true then[]else pathS c (c.States.getD s.toNat default).Parent:=by
 have hs:=isS_iff.1 h
 unfold pathS
 rw[if_pos h,pathT_fuel c s.toNat (s.toNat+1) s hs.1 (Nat.le_refl _) (by omega)]
 congr 1
 show (if topB c s=true then[]else(c.States.getD s.toNat default).Parent :: pathT c s.toNat (c.States.getD s.toNat default).Parent)=_
 cases ht:topB c s with
 | true=>rfl
 | false =>
  have hp:=topB_false ht
  simp only[Bool.false_eq_true,if_false]
  rw[if_pos (isS_iff.2 ⟨hp.1,by omega⟩),pathT_fuel c s.toNat (c.States.getD s.toNat default).Parent.toNat _ hp.1 (by omega) (Nat.le_refl _)]
theorem pathS_is {c:T27}:∀ (n:Nat) (s:Int),s.toNat≤n→∀ x∈pathS c s,isS c x=true∧x≤s:=by
 intro n
 induction n with
 | zero =>
  intro s hn x hx
  cases h:isS c s with
  | false=>unfold pathS at hx;rw[if_neg (by rw[h];decide)]at hx;cases hx
  | true =>
   have hs:=isS_iff.1 h
   rw[pathS_step h]at hx
   cases ht:topB c s with
   | true=>rw[ht]at hx;simp at hx;subst hx;exact⟨h,Int.le_refl _⟩
   | false=>have:=topB_false ht;omega
 | succ n ih =>
  intro s hn x hx
  cases h:isS c s with
  | false=>unfold pathS at hx;rw[if_neg (by rw[h];decide)]at hx;cases hx
  | true =>
   rw[pathS_step h]at hx
   rcases List.mem_cons.1 hx with rfl | hx
   ·exact⟨h,Int.le_refl _⟩
   ·cases ht:topB c s with
    | true=>rw[ht]at hx;simp at hx
    | false =>
     have:=topB_false ht
     rw[ht]at hx
     have:=ih _ (by omega) x hx
     exact⟨this.1,by omega⟩
theorem path_loop {c:T27} {b:Int×List Int→Option ((Int×List Int)⊕List Int)}
  (hb:∀ (s:Int) (acc:List Int),0≤s→s < c.States.length→b (s,acc)=if topB c s=true then some (.inr acc)else if(acc.length+1) * 8≤140737488355328 then some (.inl ((c.States.getD s.toNat default).Parent,acc++[(c.States.getD s.toNat default).Parent]))else none) :
  ∀ (n:Nat) (s:Int) (acc:List Int),0≤s→s < c.States.length→s.toNat≤n→acc.length+n≤100000→loopO b (s,acc)=some (acc++pathT c n s):=by
 intro n
 induction n with
 | zero =>
  intro s acc h0 h1 hn hl
  rw[loopO_eq,hb s acc h0 h1]
  cases ht:topB c s with
  | true=>simp[pathT]
  | false=>have:=topB_false ht;omega
 | succ n ih =>
  intro s acc h0 h1 hn hl
  rw[loopO_eq,hb s acc h0 h1]
  unfold pathT
  cases ht:topB c s with
  | true=>simp
  | false =>
   have hp:=topB_false ht
   have h8:(acc.length+1) * 8≤140737488355328:=by omega
   simp only[Bool.false_eq_true,if_false,if_pos h8,Option.bind_some]
   rw[ih _ _ hp.1 (by omega) (by omega) (by simp only[List.length_append,List.length_cons,List.length_nil];omega)]
   simp
theorem Path_eq (c:T27) (H:Fit c) (s:Int):m48 c s=some (pathS c s):=by
 have hs:=H.states
 delta m48 d48
 simp only[↓JD.sg_m,↓JD.sq_m,↓JD.sc_m,↓JD.bk_m,↓JD.lp_m,↓JD.cd_m,↓JD.lu_m,↓JD.ct_m,↓JD.ce_m,↓JL.r_m,↓JL.z_m,↓JD.se_m,onE_r,↓Tr.run,↓Tr.run_nd,↓Tr.run_c3,↓Tr.run_c2,↓Tr.run_nx,↓onS,bind_ite,Option.bind_some,Option.bind_none,obR,is_eq]
 unfold pathS
 cases h:isS c s with
 | false=>rfl
 | true =>
  have hi:=isS_iff.1 h
  simp only[Bool.not_true,Bool.false_eq_true,if_false,if_true]
  rw[path_loop (c:=c) (fun s acc h0 h1=>?_) s.toNat s [s] hi.1 hi.2 (Nat.le_refl _) (by simp;omega)]
  ·simp
  ·simp only[h0,h1,if_true];rfl
def leafG (c:T27) (i:Nat):List Int:=if comp c i=true then[]else[(i:Int)]
def leavesS (c:T27):List Int:=(List.range c.States.length).flatMap (leafG c)
theorem leafG_len (c:T27) (i:Nat):(leafG c i).length≤1:=by unfold leafG;split<;>simp
theorem leavesS_iff {c:T27} {x:Int}:x∈leavesS c↔isS c x=true∧comp c x=false:=by
 unfold leavesS leafG
 rw[List.mem_flatMap,isS_iff]
 constructor
 ·rintro⟨i,hi,hx⟩
  rw[List.mem_range]at hi
  split at hx
  ·cases hx
  ·rename_i h;simp only[List.mem_singleton]at hx;subst hx;exact⟨by omega,by simpa using h⟩
 ·rintro⟨h1,h2⟩
  refine⟨x.toNat,List.mem_range.2 (by omega),?_⟩
  rw[Int.toNat_of_nonneg h1.1,if_neg (by rw[h2];decide)];simp
theorem Leaves_eq (c:T27) (H:Fit c):m53 c=some (leavesS c):=by
 have hs:=H.states
 delta m53 d53
 simp only[↓JD.sg_m,↓JD.sq_m,↓JD.sc_m,↓JD.bk_m,↓JD.lp_m,↓JD.cd_m,↓JD.lu_m,↓JD.ct_m,↓JD.ce_m,↓JL.r_m,↓JL.z_m,↓JD.se_m,onE_r,↓Tr.run,↓Tr.run_nd,↓Tr.run_c3,↓Tr.run_c2,↓Tr.run_nx,↓onS,bind_ite,Option.bind_some,Option.bind_none,obR,composite_eq c _ (Nat.le_trans hs (by omega))]
 refine on_l (loop_coll c.States.length (fun i l=>(l,(i:Int))) (leafG c) Sum.inl (fun i hi=>?_) (by (simp only[lt_irr,decide_false,Bool.false_eq_true,if_false];try rfl))) rfl
 have hl:=flatMap_len (leafG_len c) i
 have h3:(((List.range i).flatMap (leafG c)).length+1) * 8≤140737488355328:=by omega
 simp only[inL hi,decide_true,h3,if_true,wr1 hi (by omega),leafG]
 cases comp c i<;>simp
def bitV (v:Int) (k:Nat):Bool:=IntKind.u16.wrap ((BitVec.ofInt IntKind.u16.bits (v.fdiv (2 ^ min k IntKind.u16.bits)) &&& BitVec.ofInt IntKind.u16.bits 1).toNat:Int)==1
def litN (v:Int) (x:T116):Bool:=decide (x.Cond < 0) || decide (15 < x.Cond) || bitV v x.Cond.toNat==x.Neg
def holdsS (l:List T116) (v:Int):Bool:=!anyR (fun i=>litN v (l.getD i default)) l.length
theorem holds_loop {l:List T116} {v:Int} (hl:l.length≤100000) {b:Int→Option (Int⊕(Unit⊕Bool))} (hb:∀ i:Nat,i < l.length→b i=exB (if litN v (l.getD i default)=true then some false else none) ((i:Int)+1)) (hd:b l.length=some (.inr (.inl ()))) :
  (loopO b 0).bind (onS fun _=>some true)=some (holdsS l v):=by
 rw[loop_ex l.length _ hb hd,firstR_const,holdsS]
 cases anyR (fun i=>litN v (l.getD i default)) l.length<;>rfl
theorem Holds_eq (l:List T116) (v:Int) (hl:l.length≤100000):m50 l v=some (holdsS l v):=by
 delta m50 d50
 simp only[↓JD.sg_m,↓JD.sq_m,↓JD.sc_m,↓JD.bk_m,↓JD.lp_m,↓JD.cd_m,↓JD.lu_m,↓JD.ct_m,↓JD.ce_m,↓JL.r_m,↓JL.z_m,↓JD.se_m,onE_r,↓Tr.run,↓Tr.run_nd,↓Tr.run_c3,↓Tr.run_c2,↓Tr.run_nx,↓onS,bind_ite,Option.bind_some,Option.bind_none,obR]
 refine holds_loop hl (fun i hi=>?_) (by (simp only[lt_irr,decide_false,Bool.false_eq_true,if_false];try rfl))
 have h1:=eq_true (show (!(decide ((l.getD i default).Cond < 0) || decide (15 < (l.getD i default).Cond)))=true→0≤(l.getD i default).Cond from fun h=>by simp only[Bool.not_eq_true',Bool.or_eq_false_iff,decide_eq_false_iff_not]at h;omega)
 (simp only[exB_ite,exB_some,exB_none];simp only[h1,inL hi,decide_true,Int.toNat_natCast,if_true,implies_true,wr1 hi (by omega)];try rfl)
def wideB (c:T27) (v:Int):Bool:=decide ((c.Conds.length:Int) < 16)&&(v.fdiv (2 ^ min (c.Conds.length:Int).toNat IntKind.u16.bits) != 0)
def allowedS (c:T27) (v:Int):Bool:=!wideB c v&&!anyR (fun i=>holdsS (c.Never.getD i default) v) c.Never.length
theorem Allowed_eq (c:T27) (H:Fit c) (v:Int):m20 c v=some (allowedS c v):=by
 have hn:=H.never
 have e:m102o0 c.Never v=some (findR (fun i=>holdsS (c.Never.getD i default) v) c.Never.length):=by
  delta m102o0 d102o0
  simp only[↓JD.sg_m,↓JD.sq_m,↓JD.sc_m,↓JD.bk_m,↓JD.lp_m,↓JD.cd_m,↓JD.lu_m,↓JD.ct_m,↓JD.ce_m,↓JL.r_m,↓JL.z_m,↓JD.se_m,onE_r,↓Tr.run,↓Tr.run_nd,↓Tr.run_c3,↓Tr.run_c2,↓Tr.run_nx,↓onS,bind_ite,Option.bind_some,Option.bind_none,obR,m52o0,d52o0]
  refine idx_loop (fun i hi=>?_) (by (simp only[lt_irr,decide_false,Bool.false_eq_true,if_false];try rfl))
  have hl:=H.lits _ (getD_mem hi)
  (simp only[exB_ite,exB_some,exB_none];simp only[Holds_eq _ _ (Nat.le_trans hl (by omega)),Option.bind_some,inL hi,decide_true,Int.toNat_natCast,if_true,implies_true,wr1 hi (by omega)];try rfl)
 have h1:=eq_true (show decide ((c.Conds.length:Int) < 16)=true→(0:Int)≤(c.Conds.length:Int) from fun _=>by omega)
 delta m20 d20
 simp only[↓JD.sg_m,↓JD.sq_m,↓JD.sc_m,↓JD.bk_m,↓JD.lp_m,↓JD.cd_m,↓JD.lu_m,↓JD.ct_m,↓JD.ce_m,↓JL.r_m,↓JL.z_m,↓JD.se_m,onE_r,↓Tr.run,↓Tr.run_nd,↓Tr.run_c3,↓Tr.run_c2,↓Tr.run_nx,↓onS,bind_ite,Option.bind_some,Option.bind_none,obR,m51o0,d51o0,e,findR_any,h1,if_true]
 unfold allowedS
 cases hw:wideB c v with
 | true=>unfold wideB at hw;simp only[hw,if_true];rfl
 | false=>unfold wideB at hw;simp only[hw,if_false,Bool.false_eq_true];rfl
def enabG (c:T27) (p:List Int) (v:Int) (i:Nat):List Int:=if(hasK p p.length (c.Transitions.getD i default).From&&holdsS (c.Transitions.getD i default).When v)=true then[(i:Int)]else[]
def enabledS (c:T27) (leaf v:Int):List Int:=(List.range c.Transitions.length).flatMap (enabG c (pathS c leaf) v)
theorem enabG_len (c:T27) (p:List Int) (v:Int) (i:Nat):(enabG c p v i).length≤1:=by unfold enabG;split<;>simp
theorem enabledS_len (c:T27) (leaf v:Int):(enabledS c leaf v).length≤c.Transitions.length:=by
 have:=flatMap_len (enabG_len c (pathS c leaf) v) c.Transitions.length;unfold enabledS;omega
theorem Enabled_eq (c:T27) (H:Fit c) (leaf v:Int):m19 c leaf v=some (enabledS c leaf v):=by
 have hs:=H.states
 have ht:=H.trans
 have hp:=pathS_len c leaf
 delta m19 d19
 simp only[↓JD.sg_m,↓JD.sq_m,↓JD.sc_m,↓JD.bk_m,↓JD.lp_m,↓JD.cd_m,↓JD.lu_m,↓JD.ct_m,↓JD.ce_m,↓JL.r_m,↓JL.z_m,↓JD.se_m,onE_r,↓Tr.run,↓Tr.run_nd,↓Tr.run_c3,↓Tr.run_c2,↓Tr.run_nx,↓onS,bind_ite,Option.bind_some,Option.bind_none,obR,Path_eq c H,onS_l]
 refine on_l (loop_coll c.Transitions.length (fun i l=>(l,(i:Int))) (enabG c (pathS c leaf) v) Sum.inl (fun i hi=>?_) (by (simp only[lt_irr,decide_false,Bool.false_eq_true,if_false];try rfl))) rfl
 have hl:=flatMap_len (enabG_len c (pathS c leaf) v) i
 have h3:(((List.range i).flatMap (enabG c (pathS c leaf) v)).length+1) * 8≤140737488355328:=by omega
 have hw:=H.when_ _ (getD_mem hi)
 simp only[inL hi,decide_true,h3,Int.toNat_natCast,if_true,wr1 hi (by omega),containsI_eq _ _ (show (pathS c leaf).length≤100000 by omega),Holds_eq _ _ (Nat.le_trans hw (by omega)),Option.bind_some,enabG]
 cases hasK (pathS c leaf) (pathS c leaf).length (c.Transitions.getD i default).From with
 | false=>simp
 | true=>cases holdsS (c.Transitions.getD i default).When v<;>simp
end Go.Av.Ch
set_option maxRecDepth 100000
namespace Go.Av.Ch
abbrev stA (c:T27) (x:Int):T119:=c.States.getD x.toNat default
structure Good (c:T27):Prop where
 ne:0 < c.States.length
 cap:c.States.length≤40
 parent:∀ x,isS c x=true → -1≤(stA c x).Parent∧(stA c x).Parent < x
 init:∀ x,isS c x=true→comp c x=true→childS c (stA c x).Initial x=true
 leafI:∀ x,isS c x=true→comp c x=false→(stA c x).Initial = -1∧(stA c x).History=false
 start:isS c c.Start=true
 tr:∀ i,i < c.Transitions.length→isS c (c.Transitions.getD i default).From=true∧isS c (c.Transitions.getD i default).To=true
 entry:∀ x,isS c x=true→(stA c x).Entry.length≤8
 exit_:∀ x,isS c x=true→(stA c x).Exit.length≤8
 acts:∀ i,i < c.Transitions.length→(c.Transitions.getD i default).Actions.length≤8
theorem orK_ok {R:Type} {a b:Option R} {z:R} (h:orK a b=some z) (hn:a≠some z):a=none∧b=some z:=by
 cases a with
 | none=>exact⟨rfl,h⟩
 | some y=>exact absurd h hn
theorem ite_err {p:Prop} [Decidable p] {e z:Int} {k:Option Int} (h:(if p then some e else k)=some z) (he:e≠z):¬ p∧k=some z:=by
 split at h
 ·injection h with h;exact absurd h he
 ·rename_i hp;exact⟨hp,h⟩
theorem good_of {c:T27} (h:checkM c=some 0):Good c:=by
 unfold checkM at h
 obtain⟨-,h⟩:=ite_err h (by decide)
 obtain⟨h1,h⟩:=ite_err h (by decide)
 obtain⟨hcap,h⟩:=ite_err h (by decide)
 have n1:firstR (condF c) c.Conds.length≠some 0:=fun e=>by
  obtain⟨i,_,e⟩:=firstR_some e
  unfold condF at e
  split at e
  ·rename_i hh;injection e with e;rw[e]at hh;simp at hh
  ·cases e
 obtain⟨-,h⟩:=orK_ok h n1
 have n2:firstR (nevF c) c.Never.length≠some 0:=fun e=>by
  obtain⟨i,_,e⟩:=firstR_some e
  unfold nevF at e
  split at e
  ·cases e
  ·split at e
   ·rename_i hh;injection e with e;rw[e]at hh;simp at hh
   ·cases e
 obtain⟨-,h⟩:=orK_ok h n2
 have n3:firstR (stF c) c.States.length≠some 0:=fun e=>by
  obtain⟨i,_,e⟩:=firstR_some e
  unfold stF at e
  split at e
  ·rename_i hh;injection e with e;rw[e]at hh;simp at hh
  ·cases e
 obtain⟨hst,h⟩:=orK_ok h n3
 obtain⟨hs,h⟩:=ite_err h (by decide)
 have n4:firstR (trF c) c.Transitions.length≠some 0:=fun e=>by
  obtain⟨i,_,e⟩:=firstR_some e
  unfold trF at e
  split at e
  ·cases e
  ·split at e
   ·rename_i hh;injection e with e;rw[e]at hh;simp at hh
   ·split at e
    ·rename_i hh;injection e with e;rw[e]at hh;simp at hh
    ·cases e
 obtain⟨htr,-⟩:=orK_ok h n4
 have st:∀ i,i < c.States.length→stateT c i=0:=fun i hi=>by
  have:=firstR_none.1 hst i hi
  unfold stF at this
  split at this
  ·cases this
  ·rename_i hh
   have hh:stateS c i=0:=by simpa using hh
   unfold stateS at hh
   split at hh
   ·rename_i h2;rw[hh]at h2;simp at h2
   ·exact hh
 have key:∀ x,isS c x=true→x=(x.toNat:Int)∧x.toNat < c.States.length:=fun x hx=>by have:=isS_iff.1 hx;omega
 have rows:∀ x,isS c x=true→(-1≤(stA c x).Parent∧(stA c x).Parent < x)∧(comp c x=true→childS c (stA c x).Initial x=true)∧(comp c x=false→(stA c x).Initial = -1∧(stA c x).History=false)∧(stA c x).Entry.length≤8∧(stA c x).Exit.length≤8:=fun x hx=>by
  obtain⟨e,hlt⟩:=key x hx
  have h:=st _ hlt
  unfold stateT at h
  rw[← e]at h
  split at h
  ·cases h
  rename_i a1
  split at h
  ·cases h
  rename_i a2
  split at h
  ·cases h
  rename_i a3
  split at h
  ·rename_i a4;rw[h]at a4;simp at a4
  rename_i a4
  simp only[Bool.or_eq_true,decide_eq_true_eq,not_or,Int.not_lt,Int.not_le]at a1
  refine⟨⟨a1.1,a1.2⟩,fun hc=>?_,fun hc=>?_,actS_len (by simpa using a4),actS_len h⟩
  ·rw[hc]at a2
   simpa using a2
  ·rw[hc]at a2 a3
   exact⟨by simpa using a2,by simpa using a3⟩
 have trs:∀ i,i < c.Transitions.length→(isS c (c.Transitions.getD i default).From=true∧isS c (c.Transitions.getD i default).To=true)∧(c.Transitions.getD i default).Actions.length≤8:=fun i hi=>by
  have:=firstR_none.1 htr i hi
  unfold trF at this
  split at this
  ·cases this
  rename_i a1
  split at this
  ·cases this
  split at this
  ·cases this
  rename_i a3
  exact⟨by simpa using a1,actS_len (by simpa using a3)⟩
 refine⟨?_,by simp only[Bool.or_eq_true,decide_eq_true_eq,not_or,Int.not_lt]at hcap;omega,fun x hx=>(rows x hx).1,fun x hx=>(rows x hx).2.1,fun x hx=>(rows x hx).2.2.1,by simpa using hs,fun i hi=>(trs i hi).1,fun x hx=>(rows x hx).2.2.2.1,fun x hx=>(rows x hx).2.2.2.2,fun i hi=>(trs i hi).2⟩
 have:¬ ((c.States.length:Int)=0):=by simpa using h1
 omega
def memBad (c:T27) (i m:Int):Bool:=(m != (-1:Int))&&(!isS c m || !(stA c i).History || ((stA c m).Parent != i))
def validS (c:T27) (g:T37):Bool:=!(!isS c g.Leaf || comp c g.Leaf || ((g.Memory.length:Int) != (c.States.length:Int)))&&!anyR (fun i=>memBad c i (g.Memory.getD i default)) g.Memory.length
structure MemOk (c:T27) (m:List Int):Prop where
 len:m.length=c.States.length
 ok:∀ i:Nat,i < m.length→memBad c i (m.getD i default)=false
theorem validS_iff {c:T27} {g:T37}:validS c g=true↔isS c g.Leaf=true∧comp c g.Leaf=false∧MemOk c g.Memory:=by
 unfold validS
 simp only[Bool.and_eq_true,Bool.not_eq_true',Bool.or_eq_false_iff,Bool.not_eq_false',bne_eq_false_iff_eq,anyR_false]
 constructor
 ·rintro⟨⟨⟨h1,h2⟩,h3⟩,h4⟩;exact⟨h1,h2,⟨by omega,h4⟩⟩
 ·rintro⟨h1,h2,h3⟩;exact⟨⟨⟨h1,h2⟩,by have:=h3.len;omega⟩,h3.ok⟩
theorem MemOk.none {c:T27} {m:List Int} (h:MemOk c m) {x:Int} (hx:isS c x=true) (hh:(stA c x).History=false):m.getD x.toNat default = -1:=by
 have hi:=isS_iff.1 hx
 have:=h.ok x.toNat (by rw[h.len];omega)
 unfold memBad at this
 rw[Int.toNat_of_nonneg hi.1,hh]at this
 simpa using this
theorem MemOk.child {c:T27} {m:List Int} (h:MemOk c m) {x:Int} (hx:isS c x=true) (hm:m.getD x.toNat default ≠ -1):childS c (m.getD x.toNat default) x=true:=by
 have hi:=isS_iff.1 hx
 have:=h.ok x.toNat (by rw[h.len];omega)
 unfold memBad at this
 rw[Int.toNat_of_nonneg hi.1]at this
 simp only[Bool.and_eq_false_iff,bne_eq_false_iff_eq,Bool.or_eq_false_iff,Bool.not_eq_false']at this
 rcases this with h1 | ⟨⟨h1,h2⟩,h3⟩
 ·exact absurd h1 hm
 ·unfold childS;rw[h1,h3];simp
theorem MemOk.set {c:T27} {m:List Int} (h:MemOk c m) {x v:Int} (hv:v = -1∨((stA c x).History=true∧childS c v x=true)) (hx:isS c x=true):MemOk c (m.set x.toNat v):=by
 have hi:=isS_iff.1 hx
 refine⟨by rw[List.length_set];exact h.len,fun i hl=>?_⟩
 rw[List.length_set]at hl
 by_cases he:x.toNat=i
 ·subst he
  rw[List.getD_eq_getElem?_getD,List.getElem?_set_self hl,Option.getD_some,Int.toNat_of_nonneg hi.1]
  unfold memBad
  rcases hv with rfl | ⟨h1,h2⟩
  ·rfl
  ·unfold childS at h2
   simp only[Bool.and_eq_true,beq_iff_eq]at h2
   rw[h1,h2.1,h2.2];simp
 ·rw[List.getD_eq_getElem?_getD,List.getElem?_set_ne he,← List.getD_eq_getElem?_getD]
  exact h.ok i hl
theorem set_same {m:List Int} {i:Nat} {v:Int} (hi:i < m.length) (h:m.getD i default=v):m.set i v=m:=by
 apply List.ext_getElem?
 intro j
 rw[List.getElem?_set]
 split
 ·rename_i e;subst e
  rw[← h,List.getD_eq_getElem?_getD,List.getElem?_eq_getElem hi,Option.getD_some]
 ·rfl
theorem Valid_eq (c:T27) (H:Fit c) (g:T37):m66 c g=some (validS c g):=by
 have hs:=H.states
 delta m66 d66
 simp only[↓JD.sg_m,↓JD.sq_m,↓JD.sc_m,↓JD.bk_m,↓JD.lp_m,↓JD.cd_m,↓JD.lu_m,↓JD.ct_m,↓JD.ce_m,↓JL.r_m,↓JL.z_m,↓JD.se_m,onE_r,↓Tr.run,↓Tr.run_nd,↓Tr.run_c3,↓Tr.run_c2,↓Tr.run_nx,↓onS,bind_ite,Option.bind_some,Option.bind_none,obR,is_eq,composite_eq c _ (Nat.le_trans hs (by omega))]
 unfold validS
 have e0:(if(!!isS c g.Leaf)=true then some (isS c g.Leaf,comp c g.Leaf)else some (isS c g.Leaf,default))=some (isS c g.Leaf,if isS c g.Leaf=true then comp c g.Leaf else default):=by
  cases isS c g.Leaf<;>rfl
 cases h1:(!isS c g.Leaf || comp c g.Leaf || ((g.Memory.length:Int) != (c.States.length:Int))) with
 | true =>
  cases h2:isS c g.Leaf with
  | false=>simp
  | true =>
   rw[h2]at h1
   simp only[Bool.not_true,Bool.false_or]at h1
   simp only[Bool.not_true,Bool.not_false,Bool.false_or,if_true,h1,onS_r,Bool.false_and]
 | false =>
  simp only[Bool.or_eq_false_iff,Bool.not_eq_false',bne_eq_false_iff_eq]at h1
  obtain⟨⟨h2,h3⟩,h4⟩:=h1
  have h5:g.Memory.length=c.States.length:=by omega
  simp only[h2,h3,h5,bne_self_eq_false,Bool.not_true,Bool.not_false,Bool.or_false,Bool.false_eq_true,if_false,if_true,onS_l,Bool.true_and]
  rw[loop_ex c.States.length (fun i=>if memBad c i (g.Memory.getD i default)=true then some false else none) ?_ ?_,firstR_const]
  ·cases anyR (fun i=>memBad c i (g.Memory.getD i default)) c.States.length<;>rfl
  ·intro i hi
   simp only[exB_ite,exB_some,exB_none]
   simp only[inL hi,decide_true,Int.toNat_natCast,if_true,implies_true,wr1 hi (by omega)]
   unfold memBad stA
   simp only[Int.toNat_natCast]
   by_cases hm:g.Memory.getD i default = -1
   ·simp only[hm,bne_self_eq_false,Bool.false_and,Bool.false_eq_true,false_implies,if_false,if_true]
   ·have hm':(g.Memory.getD i default != (-1:Int))=true:=by simpa using hm
    have a3:=eq_true (show (true&&!(!isS c (g.Memory.getD i default) || !(c.States.getD i default).History))=true→(0:Int)≤g.Memory.getD i default from fun h=>by
     simp only[Bool.true_and,Bool.not_eq_true',Bool.or_eq_false_iff,Bool.not_eq_false']at h;exact(isS_iff.1 h.1).1)
    have a4:=eq_true (show (true&&!(!isS c (g.Memory.getD i default) || !(c.States.getD i default).History))=true→g.Memory.getD i default < (c.States.length:Int) from fun h=>by
     simp only[Bool.true_and,Bool.not_eq_true',Bool.or_eq_false_iff,Bool.not_eq_false']at h;exact(isS_iff.1 h.1).2)
    simp only[hm',a3,a4,if_true,Option.bind_some]
  ·(simp only[lt_irr,decide_false,Bool.false_eq_true,if_false];try rfl)
end Go.Av.Ch
set_option maxRecDepth 100000
namespace Go.Av.Ch
theorem isS_lt {c:T27} {x:Int} (h:isS c x=true):((0:Int)≤x)=True∧(x < (c.States.length:Int))=True∧x.toNat < c.States.length:=by
 have:=isS_iff.1 h
 exact⟨eq_true this.1,eq_true this.2,by omega⟩
theorem child_is {c:T27} (G:Good c) {x y:Int} (h:childS c y x=true):isS c y=true∧x < y:=by
 unfold childS at h
 simp only[Bool.and_eq_true,beq_iff_eq]at h
 have:=(G.parent y h.1).2
 exact⟨h.1,by unfold stA at this;omega⟩
def nextS (c:T27) (m:List Int) (x:Int):Int:=if((stA c x).History&&(m.getD x.toNat default != (-1:Int)))=true then m.getD x.toNat default else(stA c x).Initial
theorem nextS_child {c:T27} (G:Good c) {m:List Int} (M:MemOk c m) {x:Int} (hx:isS c x=true) (hc:comp c x=true):childS c (nextS c m x) x=true:=by
 unfold nextS
 split
 ·rename_i h
  simp only[Bool.and_eq_true,bne_iff_ne,ne_eq]at h
  exact M.child hx h.2
 ·exact G.init x hx hc
def enterF (c:T27):Nat→Int→List Int→List (List UInt8)→Int×List Int×List (List UInt8)
 | 0,x,m,a=>(x,m,a)
 | n+1,x,m,a=>if comp c x=true then enterF c n (nextS c m x) (m.set x.toNat (-1)) (a++(stA c x).Entry)else(x,m,a++(stA c x).Entry)
theorem enterF_ok {c:T27} (G:Good c):∀ (n:Nat) (x:Int) (m:List Int) (a:List (List UInt8)),isS c x=true→MemOk c m→c.States.length≤n+x.toNat →
  isS c (enterF c n x m a).1=true∧comp c (enterF c n x m a).1=false∧MemOk c (enterF c n x m a).2.1∧(enterF c n x m a).2.2.length≤a.length+8 * n
 | 0,x,m,a,hx,M,hn=>by have:=(isS_lt hx).2.2;omega
 | n+1,x,m,a,hx,M,hn=>by
  have he:=G.entry x hx
  unfold enterF
  cases hc:comp c x with
  | false=>simp only[Bool.false_eq_true,if_false,List.length_append];exact⟨hx,hc,M,by omega⟩
  | true =>
   simp only[if_true]
   obtain⟨h1,h2⟩:=child_is G (nextS_child G M hx hc)
   have h3:=isS_iff.1 hx
   obtain⟨k1,k2,k3,k4⟩:=enterF_ok G n _ _ (a++(stA c x).Entry) h1 (M.set (.inl rfl) hx) (by omega)
   exact⟨k1,k2,k3,by rw[List.length_append]at k4;omega⟩
theorem enter_loop {c:T27} (G:Good c) {b:Int×List Int×List (List UInt8)→Option ((Int×List Int×List (List UInt8))⊕(Int×List Int×List (List UInt8)))}
  (hb:∀ (x:Int) (m:List Int) (a:List (List UInt8)),isS c x=true→MemOk c m→a.length≤100000→b (x,m,a)=if comp c x=true then some (.inl (nextS c m x,m.set x.toNat (-1),a++(stA c x).Entry))else some (.inr (x,m,a++(stA c x).Entry))) :
  ∀ (n:Nat) (x:Int) (m:List Int) (a:List (List UInt8)),isS c x=true→MemOk c m→c.States.length≤n+x.toNat→a.length+8 * n≤100000→loopO b (x,m,a)=some (enterF c n x m a)
 | 0,x,m,a,hx,M,hn,hl=>by have:=(isS_lt hx).2.2;omega
 | n+1,x,m,a,hx,M,hn,hl=>by
  have he:=G.entry x hx
  rw[loopO_eq,hb x m a hx M (by omega)]
  unfold enterF
  cases hc:comp c x with
  | false=>rfl
  | true =>
   simp only[if_true,Option.bind_some]
   obtain⟨h1,h2⟩:=child_is G (nextS_child G M hx hc)
   have h3:=isS_iff.1 hx
   exact enter_loop G hb n _ _ _ h1 (M.set (.inl rfl) hx) (by omega) (by rw[List.length_append];omega)
def enterS (c:T27) (x:Int) (m:List Int) (a:List (List UInt8)):Int×List Int×List (List UInt8):=enterF c c.States.length x m a
def aroundS (c:T27) (l:List Int) (m:List Int) (a:List (List UInt8)):List Int×List (List UInt8):=l.foldr (fun x s=>(s.1.set x.toNat (-1),s.2++(stA c x).Entry)) (m,a)
theorem aroundS_ok {c:T27} (G:Good c) {m:List Int} {a:List (List UInt8)} (M:MemOk c m):∀ (l:List Int),(∀ x∈l,isS c x=true)→MemOk c (aroundS c l m a).1∧(aroundS c l m a).2.length≤a.length+8 * l.length
 | [],_=>⟨M,Nat.le_refl _⟩
 | x :: l,h=>by
  obtain⟨h1,h2⟩:=aroundS_ok G (a:=a) M l fun y hy=>h y (List.mem_cons_of_mem _ hy)
  have hx:=h x (by simp)
  have he:=G.entry x hx
  refine⟨h1.set (.inl rfl) hx,?_⟩
  show ((aroundS c l m a).2++(stA c x).Entry).length≤_
  rw[List.length_append,List.length_cons];omega
def leaveS (c:T27) (s:Int):List Int→Int→List Int→List (List UInt8)→List Int×List (List UInt8)
 | [],_,m,a=>(m,a)
 | x :: l,last,m,a=>if(x==s)=true then(m,a)else leaveS c s l x (if((stA c x).History&&(last != (-1:Int)))=true then m.set x.toNat last else m) (a++(stA c x).Exit)
theorem mem_leave {c:T27} {m:List Int} (M:MemOk c m) {x last:Int} (hx:isS c x=true) (hl:last = -1∨childS c last x=true):MemOk c (if((stA c x).History&&(last != (-1:Int)))=true then m.set x.toNat last else m):=by
 split
 ·rename_i h
  simp only[Bool.and_eq_true,bne_iff_ne,ne_eq]at h
  exact M.set (hl.imp (fun e=>absurd e h.2) fun e=>⟨h.1,e⟩) hx
 ·exact M
theorem parent_is {c:T27} (G:Good c) {x:Int} (hx:isS c x=true) (ht:topB c x=false):isS c (stA c x).Parent=true∧(stA c x).Parent.toNat < x.toNat∧childS c x (stA c x).Parent=true:=by
 have h1:=topB_false ht
 have h2:=isS_iff.1 hx
 refine⟨isS_iff.2 ⟨h1.1,by show (c.States.getD x.toNat default).Parent < _;omega⟩,by show (c.States.getD x.toNat default).Parent.toNat < _;omega,?_⟩
 unfold childS;rw[hx];simp[stA]
theorem leaveS_ok {c:T27} (G:Good c) {s:Int}:∀ (n:Nat) (x last:Int) (m:List Int) (a:List (List UInt8)),x.toNat≤n→isS c x=true→MemOk c m→(last = -1∨childS c last x=true) →
  MemOk c (leaveS c s (pathS c x) last m a).1∧(leaveS c s (pathS c x) last m a).2.length≤a.length+8 * (n+1):=by
 intro n
 induction n with
 | zero =>
  intro x last m a hn hx M hl
  have he:=G.exit_ x hx
  rw[pathS_step hx]
  unfold leaveS
  split
  ·exact⟨M,by show a.length≤_;omega⟩
  ·cases ht:topB c x with
   | false=>have:=(parent_is G hx ht).2.1;omega
   | true=>exact⟨mem_leave M hx hl,by simp only[if_true,leaveS,List.length_append];omega⟩
 | succ n ih =>
  intro x last m a hn hx M hl
  have he:=G.exit_ x hx
  rw[pathS_step hx]
  unfold leaveS
  split
  ·exact⟨M,by show a.length≤_;omega⟩
  ·cases ht:topB c x with
   | true=>exact⟨mem_leave M hx hl,by simp only[if_true,leaveS,List.length_append];omega⟩
   | false =>
    obtain⟨p1,p2,p3⟩:=parent_is G hx ht
    simp only[Bool.false_eq_true,if_false]
    obtain⟨k1,k2⟩:=ih (stA c x).Parent x _ (a++(stA c x).Exit) (by omega) p1 (mem_leave M hx hl) (.inr p3)
    exact⟨k1,Nat.le_trans k2 (by rw[List.length_append];omega)⟩
def scopeS (c:T27) (a b:Int):Int:=((pathS c a).tail.find? fun x=>hasK (pathS c b).tail (pathS c b).tail.length x).getD (-1)
def untilS (s:Int) (l:List Int):List Int:=l.takeWhile fun x=>!(s==x)
def startS (c:T27):Int×List Int×List (List UInt8):=enterS c c.Start (aroundS c (pathS c c.Start).tail (List.replicate c.States.length (-1)) []).1 (aroundS c (pathS c c.Start).tail (List.replicate c.States.length (-1)) []).2
def fireS (c:T27) (g:T37) (t:T85):Int×List Int×List (List UInt8) :=
 let s:=scopeS c t.From t.To
 let l:=leaveS c s (pathS c g.Leaf) (-1) g.Memory []
 let r:=aroundS c (untilS s (pathS c t.To).tail) l.1 (l.2++t.Actions)
 enterS c t.To r.1 r.2
theorem tail_is {c:T27} {x:Int}:∀ y∈(pathS c x).tail,isS c y=true:=fun y hy=>(pathS_is x.toNat x (Nat.le_refl _) y (List.mem_of_mem_tail hy)).1
theorem mem_begin {c:T27}:MemOk c (List.replicate c.States.length (-1)):=⟨by simp,fun i hi=>by
 have:(List.replicate c.States.length (-1:Int)).getD i default = -1:=by simp at hi;simp[List.getD_eq_getElem?_getD,List.getElem?_replicate,hi]
 unfold memBad;rw[this];rfl⟩
theorem startS_ok {c:T27} (G:Good c) (H:Fit c):validS c ⟨(startS c).1,(startS c).2.1⟩=true∧(startS c).2.2.length≤16000:=by
 have hs:=H.states
 have hp:=pathS_len c c.Start
 obtain⟨h1,h2⟩:=aroundS_ok G (a:=[]) mem_begin (pathS c c.Start).tail tail_is
 obtain⟨k1,k2,k3,k4⟩:=enterF_ok G c.States.length c.Start _ (aroundS c (pathS c c.Start).tail (List.replicate c.States.length (-1)) []).2 G.start h1 (by omega)
 refine⟨validS_iff.2 ⟨k1,k2,k3⟩,?_⟩
 have:(startS c).2.2.length≤_:=k4
 simp only[List.length_nil,List.length_tail]at h2
 omega
theorem untilS_sub {s:Int} {l:List Int}:∀ x∈untilS s l,x∈l:=fun x hx=>(List.takeWhile_prefix _).sublist.mem hx
theorem untilS_len {s:Int} {l:List Int}:(untilS s l).length≤l.length:=(List.takeWhile_prefix _).length_le
theorem fireS_ok {c:T27} (G:Good c) (H:Fit c) {g:T37} (hg:validS c g=true) {i:Nat} (hi:i < c.Transitions.length):validS c ⟨(fireS c g (c.Transitions.getD i default)).1,(fireS c g (c.Transitions.getD i default)).2.1⟩=true∧(fireS c g (c.Transitions.getD i default)).2.2.length≤32000:=by
 have hs:=H.states
 obtain⟨v1,v2,v3⟩:=validS_iff.1 hg
 have ha:=G.acts i hi
 have ht:=(G.tr i hi).2
 generalize c.Transitions.getD i default=t at *
 have hp:=pathS_len c t.To
 have hl:=(isS_lt v1).2.2
 obtain⟨a1,a2⟩:=leaveS_ok G (s:=scopeS c t.From t.To) g.Leaf.toNat g.Leaf (-1) g.Memory [] (Nat.le_refl _) v1 v3 (.inl rfl)
 obtain⟨h1,h2⟩:=aroundS_ok G (a:=(leaveS c (scopeS c t.From t.To) (pathS c g.Leaf) (-1) g.Memory []).2++t.Actions) a1 (untilS (scopeS c t.From t.To) (pathS c t.To).tail) fun x hx=>tail_is x (untilS_sub x hx)
 have hu:=untilS_len (s:=scopeS c t.From t.To) (l:=(pathS c t.To).tail)
 obtain⟨k1,k2,k3,k4⟩:=enterF_ok G c.States.length t.To _ (aroundS c (untilS (scopeS c t.From t.To) (pathS c t.To).tail) (leaveS c (scopeS c t.From t.To) (pathS c g.Leaf) (-1) g.Memory []).1 ((leaveS c (scopeS c t.From t.To) (pathS c g.Leaf) (-1) g.Memory []).2++t.Actions)).2 ht h1 (by omega)
 refine⟨validS_iff.2 ⟨k1,k2,k3⟩,?_⟩
 have:(fireS c g t).2.2.length≤_:=k4
 simp only[List.length_nil,List.length_tail,List.length_append]at h2 hu a2
 omega
theorem firstR_cons {Y:Type} {f:Nat→Option Y} {n:Nat}:firstR f (n+1)=orK (f 0) (firstR (fun i=>f (i+1)) n):=by
 unfold firstR
 rw[List.range_succ_eq_map,List.findSome?_cons,List.findSome?_map]
 cases f 0<;>rfl
theorem firstR_find {F:Int→Bool}:∀ {l:List Int},firstR (fun i=>if F (l.getD i default)=true then some (l.getD i default)else none) l.length=l.find? F
 | []=>rfl
 | x :: l=>by
  rw[List.length_cons,firstR_cons]
  simp only[List.getD_cons_zero,List.getD_cons_succ]
  rw[firstR_find,List.find?_cons]
  by_cases hf:F x=true
  ·simp only[hf,if_true,orK_some]
  ·have hf:=Bool.eq_false_iff.2 hf
   simp only[hf,Bool.false_eq_true,if_false,orK_none]
theorem until_eq {s:Int}:∀ (l:List Int),(if decide (0≤findR (fun i=>s==l.getD i default) l.length)=true then subL l 0 (findR (fun i=>s==l.getD i default) l.length).toNat else l)=untilS s l∧findR (fun i=>s==l.getD i default) l.length≤l.length
 | []=>by simp[untilS,findR,firstR]
 | x :: l=>by
  obtain⟨h1,h2⟩:=until_eq l (s:=s)
  have e:findR (fun i=>s==(x :: l).getD i default) (x :: l).length=if(s==x)=true then 0 else if decide (0≤findR (fun i=>s==l.getD i default) l.length)=true then findR (fun i=>s==l.getD i default) l.length+1 else -1:=by
   unfold findR
   rw[List.length_cons,firstR_cons]
   simp only[List.getD_cons_zero,List.getD_cons_succ]
   by_cases hx:(s==x)=true
   ·simp only[hx,if_true,orK_some];rfl
   ·simp only[hx,if_false,Bool.false_eq_true,orK_none]
    have key:firstR (fun i=>if(s==l.getD i default)=true then some (((i+1:Nat):Int))else none) l.length=(firstR (fun i=>if(s==l.getD i default)=true then some (i:Int)else none) l.length).map (·+1):=by
     unfold firstR
     induction List.range l.length with
     | nil=>rfl
     | cons i r ih =>
      simp only[List.findSome?_cons]
      by_cases hf:(s==l.getD i default)=true
      ·simp only[hf,if_true];simp
      ·simp only[hf,if_false,Bool.false_eq_true];exact ih
    rw[key]
    cases hf:firstR (fun i=>if(s==l.getD i default)=true then some (i:Int)else none) l.length with
    | none=>rfl
    | some y =>
     obtain⟨i,_,h⟩:=firstR_some hf
     split at h
     ·injection h with h;subst h;simp
     ·cases h
  rw[e]
  by_cases hx:(s==x)=true
  ·simp only[hx,if_true]
   exact⟨by simp[untilS,hx,subL],by rw[List.length_cons];omega⟩
  ·have hx':=Bool.eq_false_iff.2 hx
   simp only[hx',if_false,Bool.false_eq_true]
   unfold untilS at h1 ⊢
   rw[List.takeWhile_cons,hx']
   simp only[Bool.not_false,if_true]
   rw[← h1]
   by_cases hf:decide (0≤findR (fun i=>s==l.getD i default) l.length)=true
   ·have h0:0≤findR (fun i=>s==l.getD i default) l.length:=by simpa using hf
    simp only[hf,if_true]
    have h3:decide (0≤findR (fun i=>s==l.getD i default) l.length+1)=true:=by rw[decide_eq_true_eq];omega
    refine⟨?_,by rw[List.length_cons];omega⟩
    rw[if_pos h3,subL_eq (by rw[List.length_cons];omega),subL_eq (by omega)]
    rw[show (findR (fun i=>s==l.getD i default) l.length+1).toNat=(findR (fun i=>s==l.getD i default) l.length).toNat+1 by omega]
    simp
   ·simp only[hf,if_false,Bool.false_eq_true]
    exact⟨by simp,by rw[List.length_cons];omega⟩
theorem tail_sub (l:List Int):subL l 1 (l.length - 1)=l.tail:=by
 cases l with
 | nil=>rfl
 | cons x l=>rw[subL_eq (by rw[List.length_cons];omega)];simp
theorem pathS_pos {c:T27} {x:Int} (hx:isS c x=true):(1:Int)≤((pathS c x).length:Int):=by rw[pathS_step hx,List.length_cons];omega
end Go.Av.Ch
set_option maxRecDepth 100000
namespace Go.Av.Ch
theorem pass_eq {c:T27} (G:Good c) {x:Int} (hx:isS c x=true) {m:List Int} (M:MemOk c m) (leaf:Int) {a:List (List UInt8)} (ha:a.length≤100000):m112o0 x c leaf m a=some (m.set x.toNat (-1)):=by
 have he:=G.entry x hx
 have hl:=(isS_lt hx).2.2
 have h1:(a.length+(c.States.getD x.toNat default).Entry.length) * 16≤140737488355328:=by unfold stA at he;omega
 have h2:x < (m.length:Int):=by have:=M.len;have:=isS_iff.1 hx;omega
 have h3:x.toNat < m.length:=by have:=M.len;omega
 delta m112o0 d112o0
 simp only[↓JD.sg_m,↓JD.sq_m,↓JD.sc_m,↓JD.bk_m,↓JD.lp_m,↓JD.cd_m,↓JD.lu_m,↓JD.ct_m,↓JD.ce_m,↓JL.r_m,↓JL.z_m,↓JD.se_m,onE_r,↓Tr.run,↓Tr.run_nd,↓Tr.run_c3,↓Tr.run_c2,↓Tr.run_nx,↓onS,bind_ite,Option.bind_some,Option.bind_none,obR,isS_lt hx,h1,h2,h3,if_true]
 by_cases hh:(c.States.getD x.toNat default).History=true
 ·simp only[hh,if_true]
 ·have hh:=Bool.eq_false_iff.2 hh
  simp only[hh,Bool.false_eq_true,if_false]
  rw[set_same h3 (M.none hx hh)]
theorem enter_eq {c:T27} (G:Good c) (H:Fit c) {x:Int} (hx:isS c x=true) {m:List Int} (M:MemOk c m) (leaf:Int) {a:List (List UInt8)} (ha:a.length≤80000):m113o0 x c leaf m a=some (enterS c x m a):=by
 have hs:=H.states
 have hm:=M.len
 delta m113o0 d113o0
 simp only[↓JD.sg_m,↓JD.sq_m,↓JD.sc_m,↓JD.bk_m,↓JD.lp_m,↓JD.cd_m,↓JD.lu_m,↓JD.ct_m,↓JD.ce_m,↓JL.r_m,↓JL.z_m,↓JD.se_m,onE_r,↓Tr.run,↓Tr.run_nd,↓Tr.run_c3,↓Tr.run_c2,↓Tr.run_nx,↓onS,bind_ite,Option.bind_some,Option.bind_none,obR]
 refine enter_loop G (fun x m' a hx M' ha=>?_) _ _ _ _ hx M (by omega) (by omega)
 have hl:=(isS_lt hx).2.2
 have h2:x < (m.length:Int):=by have:=isS_iff.1 hx;omega
 have h3:x.toNat < m.length:=by omega
 have h4:subL m' 0 m.length=m':=subL_all (by rw[M'.len,hm])
 simp only[isS_lt hx,h2,h3,h4,implies_true,if_true,pass_eq G hx M' leaf ha,Option.bind_some]
 cases hc:comp c x with
 | true =>
  obtain⟨q1,q2⟩:=child_is G (nextS_child G M' hx hc)
  have q3:=isS_iff.1 q1
  unfold nextS stA at *
  simp only[if_true]
  by_cases hh:((c.States.getD x.toNat default).History&&(m'.getD x.toNat default != (-1:Int)))=true
  ·rw[if_pos hh]at q3
   have:(m'.getD x.toNat default==(-1:Int))=false:=by simp only[beq_eq_false_iff_ne,ne_eq];omega
   simp only[hh,this,if_true,Bool.false_eq_true,if_false]
  ·rw[if_neg hh]at q3
   have hh:=Bool.eq_false_iff.2 hh
   have:((c.States.getD x.toNat default).Initial==(-1:Int))=false:=by simp only[beq_eq_false_iff_ne,ne_eq];omega
   simp only[hh,this,if_true,Bool.false_eq_true,if_false]
 | false =>
  obtain⟨q1,q2⟩:=G.leafI x hx hc
  unfold stA at *
  simp only[q1,q2,Bool.false_and,Bool.false_eq_true,if_false,beq_self_eq_true,if_true]
  rw[set_same (by rw[M'.len];omega) (M'.none hx q2)]
theorem scope_eq {c:T27} (H:Fit c) {a b:Int} (ha:isS c a=true) (hb:isS c b=true):m114 c a b=some (scopeS c a b):=by
 have hs:=H.states
 have hla:=pathS_len c a
 have hlb:=pathS_len c b
 have hl:(pathS c b).tail.length≤100000:=by rw[List.length_tail];omega
 delta m114 d114
 simp only[↓JD.sg_m,↓JD.sq_m,↓JD.sc_m,↓JD.bk_m,↓JD.lp_m,↓JD.cd_m,↓JD.lu_m,↓JD.ct_m,↓JD.ce_m,↓JL.r_m,↓JL.z_m,↓JD.se_m,onE_r,↓Tr.run,↓Tr.run_nd,↓Tr.run_c3,↓Tr.run_c2,↓Tr.run_nx,↓onS,bind_ite,Option.bind_some,Option.bind_none,obR,Path_eq c H,Option.bind_some,Int.reduceLE,pathS_pos ha,pathS_pos hb,if_true,onS_l,Int.toNat_one,tail_sub,containsI_eq _ _ hl]
 rw[show ((pathS c a).length - 1)=(pathS c a).tail.length by rw[List.length_tail]]
 rw[loop_ex (pathS c a).tail.length (fun i=>if hasK (pathS c b).tail (pathS c b).tail.length ((pathS c a).tail.getD i default)=true then some ((pathS c a).tail.getD i default)else none) ?_ ?_,firstR_find,orK_getD];rfl
 ·intro i hi
  rw[List.length_tail]at hi
  have hi':i < (pathS c a).tail.length:=by rw[List.length_tail];exact hi
  have hta:(pathS c a).tail.length≤1000:=by rw[List.length_tail];omega
  simp only[exB_ite,exB_some,exB_none]
  simp only[inL hi',decide_true,Int.toNat_natCast,if_true,wr1 hi' (by omega)]
 ·(simp only[lt_irr,decide_false,Bool.false_eq_true,if_false];try rfl)
theorem leave_key {c:T27} (G:Good c) (s:Int) {p:List Int} {S X:Type} {b:S→Option (S⊕X)} (mk:Int→Int→List Int→List (List UInt8)→S) (out:List Int×List (List UInt8)→X)
  (hb:∀ (pre l:List Int) (x last:Int) (m:List Int) (a:List (List UInt8)),p=pre++x :: l→isS c x=true→MemOk c m→((last = -1∧(stA c x).History=false)∨childS c last x=true)→a.length≤90000 →
   b (mk last (pre.length:Int) m a)=if(x==s)=true then some (.inr (out (m,a)))else some (.inl (mk x ((pre.length+1:Nat):Int) (if((stA c x).History&&(last != (-1:Int)))=true then m.set x.toNat last else m) (a++(stA c x).Exit))))
  (he:∀ last m a,b (mk last (p.length:Int) m a)=some (.inr (out (m,a)))) :
  ∀ (n:Nat) (pre:List Int) (x last:Int) (m:List Int) (a:List (List UInt8)),p=pre++pathS c x→x.toNat≤n→isS c x=true→MemOk c m→((last = -1∧(stA c x).History=false)∨childS c last x=true)→a.length+8 * (n+1)≤90000 →
   loopO b (mk last (pre.length:Int) m a)=some (out (leaveS c s (pathS c x) last m a)):=by
 intro n
 induction n with
 | zero =>
  intro pre x last m' a hpre hn hx M' hl ha
  have he8:=G.exit_ x hx
  rw[pathS_step hx]at hpre ⊢
  rw[loopO_eq,hb pre _ x last m' a hpre hx M' hl (by omega)]
  unfold leaveS
  by_cases hxs:(x==s)=true
  ·simp only[hxs,if_true,Option.bind_some]
  ·simp only[hxs,if_false,Bool.false_eq_true,Option.bind_some]
   cases ht:topB c x with
   | false=>have:=(parent_is G hx ht).2.1;omega
   | true =>
    rw[ht]at hpre
    simp only[if_true]at hpre ⊢
    rw[loopO_eq,show pre.length+1=p.length by rw[hpre];simp,he];rfl
 | succ n ih =>
  intro pre x last m' a hpre hn hx M' hl ha
  have he8:=G.exit_ x hx
  rw[pathS_step hx]at hpre ⊢
  rw[loopO_eq,hb pre _ x last m' a hpre hx M' hl (by omega)]
  unfold leaveS
  by_cases hxs:(x==s)=true
  ·simp only[hxs,if_true,Option.bind_some]
  ·simp only[hxs,if_false,Bool.false_eq_true,Option.bind_some]
   cases ht:topB c x with
   | true =>
    rw[ht]at hpre
    simp only[if_true]at hpre ⊢
    rw[loopO_eq,show pre.length+1=p.length by rw[hpre];simp,he];rfl
   | false =>
    obtain⟨p1,p2,p3⟩:=parent_is G hx ht
    rw[ht]at hpre
    simp only[Bool.false_eq_true,if_false]at hpre ⊢
    have:=ih (pre++[x]) (stA c x).Parent x _ (a++(stA c x).Exit) (by rw[hpre];simp[stA]) (by omega) p1 (mem_leave M' hx (hl.imp (·.1) id)) (.inr p3) (by rw[List.length_append];omega)
    rw[List.length_append]at this
    exact this
theorem leave_eq {c:T27} (G:Good c) (H:Fit c) (s:Int) {leaf:Int} (hx:isS c leaf=true) (hc:comp c leaf=false) {m:List Int} (M:MemOk c m):m115o0 s c leaf m []=some (leaveS c s (pathS c leaf) (-1) m []):=by
 have hs:=H.states
 have hm:=M.len
 have hp:=pathS_len c leaf
 have hlf:=(isS_lt hx).2.2
 have hh:=(G.leafI leaf hx hc).2
 delta m115o0 d115o0
 simp only[↓JD.sg_m,↓JD.sq_m,↓JD.sc_m,↓JD.bk_m,↓JD.lp_m,↓JD.cd_m,↓JD.lu_m,↓JD.ct_m,↓JD.ce_m,↓JL.r_m,↓JL.z_m,↓JD.se_m,onE_r,↓Tr.run,↓Tr.run_nd,↓Tr.run_c3,↓Tr.run_c2,↓Tr.run_nx,↓onS,bind_ite,Option.bind_some,Option.bind_none,obR,Path_eq c H,onS_l]
 generalize hP:pathS c leaf=p at *
 rw[show leaveS c s p (-1) m []=leaveS c s (pathS c leaf) (-1) m [] by rw[hP]]
 refine leave_key G s (p:=p) (fun last i m a=>(last,i,m,a)) id (fun pre l x last m' a hpre hx M' hl ha=>?_) (fun last m' a=>?_) leaf.toNat [] leaf (-1) m [] (by rw[hP];rfl) (Nat.le_refl _) hx M (.inl ⟨rfl,hh⟩) (by simp;omega)
 ·have hi:pre.length < p.length:=by rw[hpre];simp
  have hg:p.getD pre.length default=x:=by rw[hpre];simp[List.getD_eq_getElem?_getD]
  have he8:=G.exit_ x hx
  have h1:(a.length+(c.States.getD x.toNat default).Exit.length) * 16≤140737488355328:=by unfold stA at he8;omega
  have h2:x < (m.length:Int):=by have:=isS_iff.1 hx;omega
  have h3:x.toNat < m.length:=by have:=(isS_lt hx).2.2;omega
  have h4:subL m' 0 m.length=m':=subL_all (by rw[M'.len,hm])
  simp only[inL hi,decide_true,Int.toNat_natCast,if_true,hg,isS_lt hx,h1,h2,h3,h4,wr1 hi (by omega)]
  refine ite_else ?_
  unfold stA
  by_cases hh:((c.States.getD x.toNat default).History&&(last != (-1:Int)))=true
  ·simp only[hh,if_true];rfl
  ·simp only[hh,if_false,Bool.false_eq_true];rfl
 ·simp only[lt_irr,decide_false,Bool.false_eq_true,if_false];rfl
theorem around_fold {c:T27} (G:Good c) {l:List Int} (hl:∀ x∈l,isS c x=true) (h1:l.length≤2000) {m:List Int} (M:MemOk c m) {a:List (List UInt8)} (ha:a.length≤60000) {f:List Int×List (List UInt8)→Nat→Option (List Int×List (List UInt8))}
  (hf:∀ (x:Int) (i:Nat) (m':List Int) (a':List (List UInt8)),i < l.length→l.getD i 0=x→isS c x=true→MemOk c m'→a'.length≤100000→f (m',a') i=some (m'.set x.toNat (-1),a'++(stA c x).Entry)) :
  (dn l.length l.length).foldlM f (m,a)=some (aroundS c l m a):=by
 have key:∀ k,k≤l.length→(dn l.length k).foldlM f (m,a)=some (aroundS c (l.drop (l.length - k)) m a):=by
  intro k
  induction k with
  | zero=>intro _;simp[dn,aroundS]
  | succ k ih =>
   intro hk
   have e:dn l.length (k+1)=dn l.length k++[l.length - 1 - k]:=by unfold dn;rw[List.range_succ,List.map_append];rfl
   have hi:l.length - 1 - k < l.length:=by omega
   have hd:l.drop (l.length - (k+1))=l.getD (l.length - 1 - k) 0 :: l.drop (l.length - k):=by
    rw[show l.length - (k+1)=l.length - 1 - k by omega,List.drop_eq_getElem_cons hi,show l.length - 1 - k+1=l.length - k by omega]
    simp[List.getD_eq_getElem?_getD,List.getElem?_eq_getElem hi]
   have hx:isS c (l.getD (l.length - 1 - k) 0)=true:=hl _ (by rw[List.getD_eq_getElem?_getD,List.getElem?_eq_getElem hi];exact List.getElem_mem hi)
   obtain⟨k1,k2⟩:=aroundS_ok G (a:=a) M (l.drop (l.length - k)) fun x hx=>hl x (List.mem_of_mem_drop hx)
   rw[e,List.foldlM_append,ih (by omega),hd]
   show (f _ _).bind _=_
   rw[hf _ _ _ _ hi rfl hx k1 (by rw[List.length_drop]at k2;omega)]
   rfl
 have:=key l.length (Nat.le_refl _)
 rwa [Nat.sub_self,List.drop_zero]at this
theorem into_eq {c:T27} (G:Good c) (H:Fit c) {to:Int} (ht:isS c to=true) (s:Int) (leaf:Int) {m:List Int} (M:MemOk c m) {a:List (List UInt8)} (ha:a.length≤60000) :
  m65o0 to s c leaf m a=some (enterS c to (aroundS c (untilS s (pathS c to).tail) m a).1 (aroundS c (untilS s (pathS c to).tail) m a).2):=by
 have hs:=H.states
 have hm:=M.len
 have hp:=pathS_len c to
 have hl:(pathS c to).tail.length≤100000:=by rw[List.length_tail];omega
 obtain⟨u1,u2⟩:=until_eq (s:=s) (pathS c to).tail
 have hu:=untilS_len (s:=s) (l:=(pathS c to).tail)
 have e1:(d65o0_1 to s c leaf m a).m=some (pathS c to).tail:=by
  delta d65o0_1
  simp only[↓JD.sg_m,↓JD.sq_m,↓JD.sc_m,↓JD.bk_m,↓JD.lp_m,↓JD.cd_m,↓JD.lu_m,↓JD.ct_m,↓JD.ce_m,↓JL.r_m,↓JL.z_m,↓JD.se_m,onE_r,↓Tr.run,↓Tr.run_nd,↓Tr.run_c3,↓Tr.run_c2,↓Tr.run_nx,↓onS,bind_ite,Option.bind_some,Option.bind_none,obR,Path_eq c H,Option.bind_some,Int.reduceLE,pathS_pos ht,if_true,Int.toNat_one,tail_sub]
 have e2:(d65o0_2 to s c leaf m a (pathS c to).tail).m=some (untilS s (pathS c to).tail):=by
  delta d65o0_2
  simp only[↓JD.sg_m,↓JD.sq_m,↓JD.sc_m,↓JD.bk_m,↓JD.lp_m,↓JD.cd_m,↓JD.lu_m,↓JD.ct_m,↓JD.ce_m,↓JL.r_m,↓JL.z_m,↓JD.se_m,onE_r,↓Tr.run,↓Tr.run_nd,↓Tr.run_c3,↓Tr.run_c2,↓Tr.run_nx,↓onS,bind_ite,Option.bind_some,Option.bind_none,obR,indexI_eq _ _ hl]
  rw[← u1]
  by_cases h0:decide (0≤findR (fun i=>s==(pathS c to).tail.getD i default) (pathS c to).tail.length)=true
  ·have h1:0≤findR (fun i=>s==(pathS c to).tail.getD i default) (pathS c to).tail.length:=by simpa using h0
   simp only[h1,u2,decide_true,if_true]
  ·simp only[h0,if_false,Bool.false_eq_true]
 have e3:(d65o0_3 to s c leaf m a (pathS c to).tail (untilS s (pathS c to).tail)).m=some ():=by
  delta d65o0_3
  simp only[↓JD.sg_m,↓JD.sq_m,↓JD.sc_m,↓JD.bk_m,↓JD.lp_m,↓JD.cd_m,↓JD.lu_m,↓JD.ct_m,↓JD.ce_m,↓JL.r_m,↓JL.z_m,↓JD.se_m,onE_r,↓Tr.run,↓Tr.run_nd,↓Tr.run_c3,↓Tr.run_c2,↓Tr.run_nx,↓onS,bind_ite,Option.bind_some,Option.bind_none,obR,m111o0,d111o0]
 obtain⟨r1,r2⟩:=aroundS_ok G (a:=a) M (untilS s (pathS c to).tail) fun x hx=>tail_is x (untilS_sub x hx)
 rw[List.length_tail]at hu
 delta m65o0
 rw[show (d65o0_0 to s c leaf m a).m=some () from rfl,Option.bind_some,e1,Option.bind_some,e2,Option.bind_some,e3,Option.bind_some,if_pos (by omega)]
 rw[around_fold G (fun x hx=>tail_is x (untilS_sub x hx)) (by omega) M ha ?_,Option.bind_some]
 ·delta d65o0_p
  have h4:subL (aroundS c (untilS s (pathS c to).tail) m a).1 0 m.length=(aroundS c (untilS s (pathS c to).tail) m a).1:=subL_all (by rw[r1.len,hm])
  simp only[↓JD.sg_m,↓JD.sq_m,↓JD.sc_m,↓JD.bk_m,↓JD.lp_m,↓JD.cd_m,↓JD.lu_m,↓JD.ct_m,↓JD.ce_m,↓JL.r_m,↓JL.z_m,↓JD.se_m,onE_r,↓Tr.run,↓Tr.run_nd,↓Tr.run_c3,↓Tr.run_c2,↓Tr.run_nx,↓onS,bind_ite,Option.bind_some,Option.bind_none,obR,h4,enter_eq G H ht r1 leaf (a:=(aroundS c (untilS s (pathS c to).tail) m a).2) (by omega)]
 ·intro x i m' a' hi hg hx M' ha'
  have h4:subL m' 0 m.length=m':=subL_all (by rw[M'.len,hm])
  delta mr65o0
  simp only[hg,h4,pass_eq G hx M' leaf ha',Option.map_some]
theorem begun_eq {c:T27} (H:Fit c) {g:T37} (hl:g.Memory.length=c.States.length):m63o0 c g=some ():=by
 have hs:=H.states
 have h1:((0:Int)≤(g.Memory.length:Int)):=by omega
 have h2:(g.Memory.length:Int) * 8≤140737488355328:=by omega
 have h3:(g.Memory.length:Int)≤9223372036854775807:=by omega
 delta m63o0 d63o0
 simp only[↓JD.sg_m,↓JD.sq_m,↓JD.sc_m,↓JD.bk_m,↓JD.lp_m,↓JD.cd_m,↓JD.lu_m,↓JD.ct_m,↓JD.ce_m,↓JL.r_m,↓JL.z_m,↓JD.se_m,onE_r,↓Tr.run,↓Tr.run_nd,↓Tr.run_c3,↓Tr.run_c2,↓Tr.run_nx,↓onS,bind_ite,Option.bind_some,Option.bind_none,obR,h1,h2,h3,if_true]
theorem copyL_full {l:List Int} {n:Nat} (h:l.length=n):copyL (List.replicate n (0:Int)) l=l:=by
 subst h
 rw[copyL,List.length_replicate,List.take_length,List.drop_eq_nil_of_le (by simp),List.append_nil]
theorem fire_of {c:T27} (G:Good c) (H:Fit c) {g:T37} (hg:validS c g=true) {i:Nat} (hi:i < c.Transitions.length) (he:checkM c=some 0) (hon:hasK (pathS c g.Leaf) (pathS c g.Leaf).length (c.Transitions.getD i default).From=true) :
  m67 c g i=some (⟨(fireS c g (c.Transitions.getD i default)).1,(fireS c g (c.Transitions.getD i default)).2.1⟩,(fireS c g (c.Transitions.getD i default)).2.2,0):=by
 have hs:=H.states
 obtain⟨v1,v2,v3⟩:=validS_iff.1 hg
 have hml:=v3.len
 have hp:=pathS_len c g.Leaf
 have hlf:=(isS_lt v1).2.2
 have ha:=G.acts i hi
 obtain⟨hf,ht⟩:=G.tr i hi
 obtain⟨a1,a2⟩:=leaveS_ok G (s:=scopeS c (c.Transitions.getD i default).From (c.Transitions.getD i default).To) g.Leaf.toNat g.Leaf (-1) g.Memory [] (Nat.le_refl _) v1 v3 (.inl rfl)
 simp only[List.length_nil]at a2
 have h16:((leaveS c (scopeS c (c.Transitions.getD i default).From (c.Transitions.getD i default).To) (pathS c g.Leaf) (-1) g.Memory []).2.length+(c.Transitions.getD i default).Actions.length) * 16≤140737488355328:=by omega
 have hsub:∀ m:List Int,m.length=c.States.length→subL m 0 g.Memory.length=m:=fun m h=>subL_all (by rw[h,hml])
 have hrange:(decide ((i:Int) < 0) || decide ((c.Transitions.length:Int)≤(i:Int)))=false:=by simp;omega
 have hend:=(fireS_ok G H hg hi).1
 have hmend:=(validS_iff.1 hend).2.2.len
 delta m67 d67
 simp only[↓JD.sg_m,↓JD.sq_m,↓JD.sc_m,↓JD.bk_m,↓JD.lp_m,↓JD.cd_m,↓JD.lu_m,↓JD.ct_m,↓JD.ce_m,↓JL.r_m,↓JL.z_m,↓JD.se_m,onE_r,↓Tr.run,↓Tr.run_nd,↓Tr.run_c3,↓Tr.run_c2,↓Tr.run_nx,↓onS,bind_ite,Option.bind_some,Option.bind_none,obR,Check_eq c H,he,Valid_eq c H,hg,Path_eq c H,inL hi,Int.toNat_natCast,if_true,Option.bind_some,containsI_eq _ _ (show (pathS c g.Leaf).length≤100000 by omega),hon,hrange,begun_eq H hml,scope_eq H hf ht,copyL_full (rfl:g.Memory.length=_),leave_eq G H _ v1 v2 v3,h16,
  hsub _ a1.len,bne_self_eq_false,Bool.not_true,Bool.false_eq_true,if_false]
 rw[into_eq G H ht _ _ a1 (by rw[List.length_append];omega)]
 simp only[Option.bind_some]
 have:=hsub _ hmend
 unfold fireS at this
 rw[this]
 rfl
theorem fire_err {c:T27} (H:Fit c) {g:T37} {t:Int}:m67 c g t=(checkM c).bind fun e=>if(e != 0)=true then some (⟨0,[]⟩,[],e)else if(!validS c g)=true then some (⟨0,[]⟩,[],8)else if(decide (t < 0) || decide ((c.Transitions.length:Int)≤t))=true then some (⟨0,[]⟩,[],2)else
  if(!hasK (pathS c g.Leaf) (pathS c g.Leaf).length (c.Transitions.getD t.toNat default).From)=true then some (⟨0,[]⟩,[],9)else some (⟨(fireS c g (c.Transitions.getD t.toNat default)).1,(fireS c g (c.Transitions.getD t.toNat default)).2.1⟩,(fireS c g (c.Transitions.getD t.toNat default)).2.2,0):=by
 have hs:=H.states
 have hp:=pathS_len c g.Leaf
 obtain⟨e,he⟩:=checkM_some c
 rw[he,Option.bind_some]
 by_cases h0:(e != 0)=true
 ·delta m67 d67
  simp only[↓JD.sg_m,↓JD.sq_m,↓JD.sc_m,↓JD.bk_m,↓JD.lp_m,↓JD.cd_m,↓JD.lu_m,↓JD.ct_m,↓JD.ce_m,↓JL.r_m,↓JL.z_m,↓JD.se_m,onE_r,↓Tr.run,↓Tr.run_nd,↓Tr.run_c3,↓Tr.run_c2,↓Tr.run_nx,↓onS,bind_ite,Option.bind_some,Option.bind_none,obR,Check_eq c H,he,Option.bind_some,h0,if_true]
 have h0':e=0:=by simpa using h0
 subst h0'
 simp only[h0,if_false,Bool.false_eq_true]
 cases hv:validS c g with
 | false =>
  delta m67 d67
  simp only[↓JD.sg_m,↓JD.sq_m,↓JD.sc_m,↓JD.bk_m,↓JD.lp_m,↓JD.cd_m,↓JD.lu_m,↓JD.ct_m,↓JD.ce_m,↓JL.r_m,↓JL.z_m,↓JD.se_m,onE_r,↓Tr.run,↓Tr.run_nd,↓Tr.run_c3,↓Tr.run_c2,↓Tr.run_nx,↓onS,bind_ite,Option.bind_some,Option.bind_none,obR,Check_eq c H,he,Option.bind_some,h0,if_false,Bool.false_eq_true,Valid_eq c H,hv,Bool.not_false,if_true]
 | true =>
  by_cases hr:(decide (t < 0) || decide ((c.Transitions.length:Int)≤t))=true
  ·delta m67 d67
   simp only[↓JD.sg_m,↓JD.sq_m,↓JD.sc_m,↓JD.bk_m,↓JD.lp_m,↓JD.cd_m,↓JD.lu_m,↓JD.ct_m,↓JD.ce_m,↓JL.r_m,↓JL.z_m,↓JD.se_m,onE_r,↓Tr.run,↓Tr.run_nd,↓Tr.run_c3,↓Tr.run_c2,↓Tr.run_nx,↓onS,bind_ite,Option.bind_some,Option.bind_none,obR,Check_eq c H,he,Option.bind_some,h0,if_false,Bool.false_eq_true,Valid_eq c H,hv,Bool.not_true,hr,if_true]
  ·have hr':=Bool.eq_false_iff.2 hr
   simp only[Bool.or_eq_false_iff,decide_eq_false_iff_not]at hr'
   obtain⟨i,rfl⟩:=Int.eq_ofNat_of_zero_le (show 0≤t by omega)
   have hi:i < c.Transitions.length:=by omega
   cases hon:hasK (pathS c g.Leaf) (pathS c g.Leaf).length (c.Transitions.getD i default).From with
   | true=>rw[fire_of (good_of he) H hv hi he hon];simp only[hr,Int.toNat_natCast,hon,Bool.not_true,Bool.false_eq_true,if_false]
   | false =>
    delta m67 d67
    simp only[↓JD.sg_m,↓JD.sq_m,↓JD.sc_m,↓JD.bk_m,↓JD.lp_m,↓JD.cd_m,↓JD.lu_m,↓JD.ct_m,↓JD.ce_m,↓JL.r_m,↓JL.z_m,↓JD.se_m,onE_r,↓Tr.run,↓Tr.run_nd,↓Tr.run_c3,↓Tr.run_c2,↓Tr.run_nx,↓onS,bind_ite,Option.bind_some,Option.bind_none,obR,Check_eq c H,he,Option.bind_some,h0,if_false,Bool.false_eq_true,Valid_eq c H,hv,Bool.not_true,hr,if_true,inL hi,Int.toNat_natCast,Path_eq c H,containsI_eq _ _ (show (pathS c g.Leaf).length≤100000 by omega),hon,Bool.not_false]
end Go.Av.Ch
set_option maxRecDepth 100000
namespace Go.Av.Ch
theorem untilS_all {s:Int} {l:List Int} (h:∀ x∈l,x≠s):untilS s l=l:=by
 unfold untilS
 induction l with
 | nil=>rfl
 | cons x l ih =>
  have hx:(s==x)=false:=by simp only[beq_eq_false_iff_ne,ne_eq];exact fun e=>h x (by simp) e.symm
  rw[List.takeWhile_cons,hx,ih fun y hy=>h y (List.mem_cons_of_mem _ hy)];rfl
def startM (c:T27):Option (Int×List (List UInt8)×Int×List Int):=(checkM c).bind fun e=>if(e != 0)=true then some (e,[],0,[])else some (0,(startS c).2.2,(startS c).1,(startS c).2.1)
theorem Start_eq (c:T27) (H:Fit c):m28o0 c=startM c:=by
 obtain⟨e,he⟩:=checkM_some c
 unfold startM
 rw[he,Option.bind_some]
 delta m28o0 d28o0
 by_cases h0:(e != 0)=true
 ·simp only[↓JD.sg_m,↓JD.sq_m,↓JD.sc_m,↓JD.bk_m,↓JD.lp_m,↓JD.cd_m,↓JD.lu_m,↓JD.ct_m,↓JD.ce_m,↓JL.r_m,↓JL.z_m,↓JD.se_m,onE_r,↓Tr.run,↓Tr.run_nd,↓Tr.run_c3,↓Tr.run_c2,↓Tr.run_nx,↓onS,bind_ite,Option.bind_some,Option.bind_none,obR,Check_eq c H,he,h0,if_true]
 ·have h0':e=0:=by simpa using h0
  subst h0'
  have G:=good_of he
  have hcap:=G.cap
  have hrep:m64 [-1] (c.States.length:Int)=some (List.replicate c.States.length (-1)):=by
   unfold m64
   simp only[Int.toNat_natCast]
   rw[if_pos (by omega)]
  have hb:=begun_eq H (g:=⟨0,List.replicate c.States.length (-1)⟩) (by simp)
  have hl:(List.replicate c.States.length (-1:Int)).length=c.States.length:=by simp
  have hu:untilS (-1) (pathS c c.Start).tail=(pathS c c.Start).tail:=untilS_all fun x hx=>by
   have:=isS_iff.1 (tail_is x hx);omega
  have hi:=into_eq G H G.start (-1) 0 mem_begin (a:=[]) (by simp)
  rw[hu]at hi
  have hend:=(startS_ok G H).1
  have hmend:=(validS_iff.1 hend).2.2.len
  simp only[↓JD.sg_m,↓JD.sq_m,↓JD.sc_m,↓JD.bk_m,↓JD.lp_m,↓JD.cd_m,↓JD.lu_m,↓JD.ct_m,↓JD.ce_m,↓JL.r_m,↓JL.z_m,↓JD.se_m,onE_r,↓Tr.run,↓Tr.run_nd,↓Tr.run_c3,↓Tr.run_c2,↓Tr.run_nx,↓onS,bind_ite,Option.bind_some,Option.bind_none,obR,Check_eq c H,he,h0,if_false,Bool.false_eq_true,hrep,hb,hl,Int.toNat_natCast,copyL_full hl,hi]
  rw[subL_all (by unfold startS at hmend;exact hmend)]
  rfl
theorem enabled_at {c:T27} {leaf v:Int} (h:0 < (enabledS c leaf v).length):∃ i,i < c.Transitions.length∧(enabledS c leaf v).getD 0 default=(i:Int)∧hasK (pathS c leaf) (pathS c leaf).length (c.Transitions.getD i default).From=true:=by
 have hm:(enabledS c leaf v).getD 0 default∈enabledS c leaf v:=getD_mem h
 generalize (enabledS c leaf v).getD 0 default=x at *
 unfold enabledS at hm
 obtain⟨i,hi,hx⟩:=List.mem_flatMap.1 hm
 unfold enabG at hx
 split at hx
 ·rename_i h1
  simp only[Bool.and_eq_true]at h1
  exact⟨i,List.mem_range.1 hi,by simpa using hx,h1.1⟩
 ·cases hx
def fireR (c:T27) (g:T37) (t:Int):T37×List (List UInt8)×Int:=(⟨(fireS c g (c.Transitions.getD t.toNat default)).1,(fireS c g (c.Transitions.getD t.toNat default)).2.1⟩,(fireS c g (c.Transitions.getD t.toNat default)).2.2,0)
def stepM (c:T27) (g:T37) (v:Int):Option (T37×List (List UInt8)×Int):=(checkM c).bind fun e=>if(e != 0)=true then some (⟨0,[]⟩,[],e)else if(!validS c g)=true then some (⟨0,[]⟩,[],8)else if(!allowedS c v)=true then some (⟨0,[]⟩,[],1)else
 if(((enabledS c g.Leaf v).length:Int)==0)=true then some (⟨0,[]⟩,[],6)else if(((enabledS c g.Leaf v).length:Int)==1)=true then some (fireR c g ((enabledS c g.Leaf v).getD 0 default))else some (⟨0,[]⟩,[],11)
theorem Step_eq (c:T27) (H:Fit c) (g:T37) (v:Int):m29 c g v=stepM c g v:=by
 obtain⟨e,he⟩:=checkM_some c
 unfold stepM
 rw[he,Option.bind_some]
 delta m29 d29
 by_cases h0:(e != 0)=true
 ·simp only[↓JD.sg_m,↓JD.sq_m,↓JD.sc_m,↓JD.bk_m,↓JD.lp_m,↓JD.cd_m,↓JD.lu_m,↓JD.ct_m,↓JD.ce_m,↓JL.r_m,↓JL.z_m,↓JD.se_m,onE_r,↓Tr.run,↓Tr.run_nd,↓Tr.run_c3,↓Tr.run_c2,↓Tr.run_nx,↓onS,bind_ite,Option.bind_some,Option.bind_none,obR,Check_eq c H,he,h0,if_true]
 ·have h0':e=0:=by simpa using h0
  subst h0'
  simp only[↓JD.sg_m,↓JD.sq_m,↓JD.sc_m,↓JD.bk_m,↓JD.lp_m,↓JD.cd_m,↓JD.lu_m,↓JD.ct_m,↓JD.ce_m,↓JL.r_m,↓JL.z_m,↓JD.se_m,onE_r,↓Tr.run,↓Tr.run_nd,↓Tr.run_c3,↓Tr.run_c2,↓Tr.run_nx,↓onS,bind_ite,Option.bind_some,Option.bind_none,obR,Check_eq c H,he,h0,if_false,Bool.false_eq_true,Valid_eq c H,Allowed_eq c H,Enabled_eq c H]
  cases hv:validS c g with
  | false=>rfl
  | true =>
   simp only[Bool.not_true,Bool.false_eq_true,if_false]
   refine ite_else (ite_else ?_)
   by_cases h1:(((enabledS c g.Leaf v).length:Int)==1)=true
   ·have hl:(enabledS c g.Leaf v).length=1:=by have:=eq_of_beq h1;omega
    obtain⟨i,hi,hx,hon⟩:=enabled_at (c:=c) (leaf:=g.Leaf) (v:=v) (by omega)
    have hz:(0:Int) < ((enabledS c g.Leaf v).length:Int):=by omega
    simp only[h1,hz,Int.le_refl,if_true,Int.toNat_zero,hx,fire_of (good_of he) H hv hi he hon,fireR,Int.toNat_natCast,Option.bind_some]
   ·simp only[h1,if_false,Bool.false_eq_true]
theorem stepM_some (c:T27) (g:T37) (v:Int):∃ r,stepM c g v=some r:=by
 obtain⟨e,he⟩:=checkM_some c
 unfold stepM
 rw[he,Option.bind_some]
 exact ite_total (ite_total (ite_total (ite_total (ite_total ⟨_,rfl⟩))))
theorem stepM_ok {c:T27} (H:Fit c) {g:T37} {v:Int} {r:T37×List (List UInt8)×Int} (h:stepM c g v=some r):r.2.1.length≤32000∧(r.2.2=0→checkM c=some 0∧validS c g=true∧validS c r.1=true):=by
 obtain⟨e,he⟩:=checkM_some c
 unfold stepM at h
 rw[he,Option.bind_some]at h
 split at h
 ·rename_i h0;injection h with h;subst h;exact⟨by simp,fun h=>absurd h (by simpa using h0)⟩
 rename_i h0
 have h0':e=0:=by simpa using h0
 subst h0'
 split at h
 ·injection h with h;subst h;exact⟨by simp,fun h=>absurd h (by decide)⟩
 rename_i hv
 have hv:validS c g=true:=by simpa using hv
 split at h
 ·injection h with h;subst h;exact⟨by simp,fun h=>absurd h (by decide)⟩
 split at h
 ·injection h with h;subst h;exact⟨by simp,fun h=>absurd h (by decide)⟩
 split at h
 ·rename_i h1
  have hl:(enabledS c g.Leaf v).length=1:=by have:=eq_of_beq h1;omega
  obtain⟨i,hi,hx,hon⟩:=enabled_at (c:=c) (leaf:=g.Leaf) (v:=v) (by omega)
  injection h with h;subst h
  rw[hx]
  unfold fireR
  rw[Int.toNat_natCast]
  obtain⟨k1,k2⟩:=fireS_ok (good_of he) H hv hi
  exact⟨k2,fun _=>⟨he,hv,k1⟩⟩
 ·injection h with h;subst h;exact⟨by simp,fun h=>absurd h (by decide)⟩
def runS (c:T27):List Int→T37→List Int→List (List UInt8)→Option (List Int×List (List UInt8)×Int)
 | [],_,ls,a=>some (ls,a,0)
 | v :: l,g,ls,a=>(stepM c g v).bind fun r=>if(r.2.2 != 0)=true then some ([],[],r.2.2)else runS c l r.1 (ls++[r.1.Leaf]) (a++r.2.1)
def runM (c:T27) (l:List Int):Option (List Int×List (List UInt8)×Int):=(startM c).bind fun r=>if(r.1 != 0)=true then some ([],[],r.1)else runS c l ⟨r.2.2.1,r.2.2.2⟩ [r.2.2.1] r.2.1
theorem startM_some (c:T27):∃ r,startM c=some r:=by
 obtain⟨e,he⟩:=checkM_some c
 unfold startM
 rw[he,Option.bind_some]
 exact ite_total ⟨_,rfl⟩
theorem startM_ok {c:T27} (H:Fit c) {r:Int×List (List UInt8)×Int×List Int} (h:startM c=some r):r.2.1.length≤16000∧(r.1=0→checkM c=some 0∧validS c ⟨r.2.2.1,r.2.2.2⟩=true):=by
 obtain⟨e,he⟩:=checkM_some c
 unfold startM at h
 rw[he,Option.bind_some]at h
 split at h
 ·rename_i h0;injection h with h;subst h;exact⟨by simp,fun h=>absurd h (by simpa using h0)⟩
 rename_i h0
 have h0':e=0:=by simpa using h0
 subst h0'
 injection h with h;subst h
 obtain⟨k1,k2⟩:=startS_ok (good_of he) H
 exact⟨k2,fun _=>⟨he,k1⟩⟩
theorem run_loop {c:T27} (H:Fit c) {l:List Int} {S X:Type} {b:S→Option (S⊕X)} (mk:List (List UInt8)→List Int→Int→T37→S) (ok:List (List UInt8)→List Int→X) (bad:Int→X)
  (hb:∀ (i:Nat) (a:List (List UInt8)) (ls:List Int) (g:T37),i < l.length→a.length≤32000 * (i+1)→ls.length=i+1→b (mk a ls i g)=(stepM c g (l.getD i default)).bind fun r=>if(r.2.2 != 0)=true then some (.inr (bad r.2.2))else some (.inl (mk (a++r.2.1) (ls++[r.1.Leaf]) ((i+1:Nat):Int) r.1)))
  (he:∀ a ls g,b (mk a ls (l.length:Int) g)=some (.inr (ok a ls))) :
  ∀ (k i:Nat) (a:List (List UInt8)) (ls:List Int) (g:T37),i+k=l.length→a.length≤32000 * (i+1)→ls.length=i+1 →
   loopO b (mk a ls i g)=(runS c (l.drop i) g ls a).map fun r=>if(r.2.2 != 0)=true then bad r.2.2 else ok r.2.1 r.1:=by
 intro k
 induction k with
 | zero =>
  intro i a ls g hk ha hls
  obtain rfl:i=l.length:=by omega
  rw[loopO_eq,he,List.drop_length];rfl
 | succ k ih =>
  intro i a ls g hk ha hls
  have hi:i < l.length:=by omega
  rw[loopO_eq,hb i a ls g hi ha hls,List.drop_eq_getElem_cons hi]
  obtain⟨r,hr⟩:=stepM_some c g (l.getD i default)
  have hr':=hr
  rw[List.getD_eq_getElem?_getD,List.getElem?_eq_getElem hi,Option.getD_some]at hr'
  unfold runS
  rw[hr,hr',Option.bind_some,Option.bind_some]
  by_cases h0:(r.2.2 != 0)=true
  ·simp only[h0,if_true,Option.bind_some,Option.map_some]
  ·simp only[h0,if_false,Bool.false_eq_true,Option.bind_some]
   have:=(stepM_ok H hr).1
   exact ih (i+1) _ _ _ (by omega) (by rw[List.length_append];omega) (by rw[List.length_append,hls];rfl)
theorem run_end {c:T27} {l:List Int} {g:T37} {ls:List Int} {a:List (List UInt8)} :
  ((runS c l g ls a).map fun r=>if(r.2.2 != 0)=true then(.inr ([],[],r.2.2):(List (List UInt8)×List Int)⊕(List Int×List (List UInt8)×Int))else .inl (r.2.1,r.1)).bind (onS fun y=>some (y.2,y.1,0))=runS c l g ls a:=by
 have key:∀ (l:List Int) (g:T37) (ls:List Int) (a:List (List UInt8)),∀ z,runS c l g ls a=some z→(z.2.2≠0→z=([],[],z.2.2)):=by
  intro l
  induction l with
  | nil=>intro g ls a z hz;unfold runS at hz;injection hz with hz;subst hz;intro h;exact absurd rfl h
  | cons v l ih =>
   intro g ls a z hz
   unfold runS at hz
   obtain⟨q,hq⟩:=stepM_some c g v
   rw[hq,Option.bind_some]at hz
   split at hz
   ·injection hz with hz;subst hz;intro _;rfl
   ·exact ih _ _ _ z hz
 cases hz:runS c l g ls a with
 | none=>rfl
 | some z =>
  simp only[Option.map_some,Option.bind_some]
  by_cases h1:(z.2.2 != 0)=true
  ·rw[if_pos h1,onS_r,key _ _ _ _ z hz (by simpa using h1)]
  ·rw[if_neg h1,onS_l]
   have:z.2.2=0:=by simpa using h1
   rw[← this]
theorem Run_eq (c:T27) (H:Fit c) (l:List Int) (hl:l.length≤1000):m32 c l=runM c l:=by
 obtain⟨r,hr⟩:=startM_some c
 unfold runM
 rw[hr,Option.bind_some]
 have ha:=(startM_ok H hr).1
 delta m32 d32
 by_cases h0:(r.1 != 0)=true
 ·simp only[↓JD.sg_m,↓JD.sq_m,↓JD.sc_m,↓JD.bk_m,↓JD.lp_m,↓JD.cd_m,↓JD.lu_m,↓JD.ct_m,↓JD.ce_m,↓JL.r_m,↓JL.z_m,↓JD.se_m,onE_r,↓Tr.run,↓Tr.run_nd,↓Tr.run_c3,↓Tr.run_c2,↓Tr.run_nx,↓onS,bind_ite,Option.bind_some,Option.bind_none,obR,Start_eq c H,hr,h0,if_true,onS_r]
 ·simp only[↓JD.sg_m,↓JD.sq_m,↓JD.sc_m,↓JD.bk_m,↓JD.lp_m,↓JD.cd_m,↓JD.lu_m,↓JD.ct_m,↓JD.ce_m,↓JL.r_m,↓JL.z_m,↓JD.se_m,onE_r,↓Tr.run,↓Tr.run_nd,↓Tr.run_c3,↓Tr.run_c2,↓Tr.run_nx,↓onS,bind_ite,Option.bind_some,Option.bind_none,obR,Start_eq c H,hr,h0,if_false,Bool.false_eq_true,onS_l]
  refine bind_eq (run_loop H (l:=l) (X:=(List (List UInt8)×List Int)⊕(List Int×List (List UInt8)×Int)) (fun a ls i g=>(a,ls,i,g.Leaf,g.Memory)) (fun a ls=>.inl (a,ls)) (fun e=>.inr ([],[],e)) ?_ ?_ l.length 0 r.2.1 [r.2.2.1] ⟨r.2.2.1,r.2.2.2⟩ (by omega) (by omega) rfl) ?_
  rotate_left 2
  ·rw[List.drop_zero]
   exact run_end
  ·intro i a ls g hi ha hls
   have h1:(ls.length+1) * 8≤140737488355328:=by omega
   obtain⟨q,hq⟩:=stepM_some c g (l.getD i default)
   have hq2:=(stepM_ok H hq).1
   have h2:(a.length+q.2.1.length) * 16≤140737488355328:=by omega
   have hq':m29 c ⟨g.Leaf,g.Memory⟩ (l.getD i default)=some q:=by rw[Step_eq c H];exact hq
   simp only[inL hi,decide_true,Int.toNat_natCast,if_true,hq,hq',h1,h2,wr1 hi (by omega),Option.bind_some];rfl
  ·intro a ls g;(simp only[lt_irr,decide_false,Bool.false_eq_true,if_false];try rfl)
end Go.Av.Ch
set_option maxRecDepth 100000
namespace Go.Av.Ch
theorem minQ0 (k:Int) (hk:0≤k) (L:Nat):(0:Int)≤(if k < (L:Int)then k else(L:Int)):=by split<;>omega
theorem minQ1 (k:Int) (L:Nat):(if k < (L:Int)then k else(L:Int))≤(L:Int):=by split<;>omega
theorem minQ2 (k:Int) (hk:k≤1000) (L:Nat):(0+(if k < (L:Int)then k else(L:Int)).toNat) * 16≤140737488355328:=by split<;>omega
def cutL {A:Type} [Inhabited A] (k:Int) (l:List A):List A:=[]++subL l 0 (if k < (l.length:Int)then k else(l.length:Int)).toNat
theorem cutL_len {A:Type} [Inhabited A] (k:Nat) (l:List A):(cutL (k:Int) l).length=min k l.length:=by
 rw[cutL,List.nil_append,subL_len];split<;>omega
theorem mem_coll {A:Type} {h:Nat→A} {n:Nat} {P:A→Prop} (hp:∀ i,i < n→P (h i)):∀ x∈(List.range n).flatMap fun i=>[h i],P x:=fun x hx=>by
 obtain⟨i,h1,hi⟩:=List.mem_flatMap.1 hx
 simp only[List.mem_singleton]at hi
 rw[hi];exact hp i (List.mem_range.1 h1)
theorem few_end {n k:Nat} {K:Int} (hK:K=(k:Int)):((decide (((min n k:Nat):Int) < (n:Int)))&&(decide (((min n k:Nat):Int) < K)))=false:=by
 rw[Bool.eq_false_iff];simp only[ne_eq,Bool.and_eq_true,decide_eq_true_eq];omega
theorem few_on {i n k:Nat} {K:Int} (hK:K=(k:Int)) (h:i < min n k):((decide ((i:Int) < (n:Int)))&&(decide ((i:Int) < K)))=true:=by
 simp only[Bool.and_eq_true,decide_eq_true_eq];omega
def fewN (c:T27) (i:Nat):List T116:=cutL 6 (c.Never.getD i default)
def fewT (c:T27) (i:Nat):T119:=⟨(c.States.getD i default).Name,(c.States.getD i default).Parent,(c.States.getD i default).Initial,(c.States.getD i default).History,cutL 9 (c.States.getD i default).Entry,cutL 9 (c.States.getD i default).Exit⟩
def fewR (c:T27) (i:Nat):T85:=⟨(c.Transitions.getD i default).From,(c.Transitions.getD i default).To,cutL 6 (c.Transitions.getD i default).When,cutL 9 (c.Transitions.getD i default).Actions⟩
def fewS (c:T27):T27:=⟨c.Name,cutL 6 c.Conds,(List.range (min c.Never.length 4)).flatMap (fun i=>[fewN c i]),(List.range (min c.States.length 12)).flatMap (fun i=>[fewT c i]),c.Start,(List.range (min c.Transitions.length 24)).flatMap (fun i=>[fewR c i])⟩
theorem round_few {A:Type} {g:Nat→A} {i:Nat} {n k z:Nat} (hz:z≤1000) (hk:k≤1000) (h:i < min n k):(((List.range i).flatMap fun i=>[g i]).length+1) * z≤140737488355328:=by
 have hl:=flatMap_len (g:=fun i=>[g i]) (m:=1) (fun i=>by simp) i
 have:(((List.range i).flatMap fun i=>[g i]).length+1) * z≤1001 * 1000:=Nat.mul_le_mul (by omega) hz
 omega
theorem Few_eq (c:T27):m43 c=some (fewS c):=by
 delta m43 d43
 simp only[↓JD.sg_m,↓JD.sq_m,↓JD.sc_m,↓JD.bk_m,↓JD.lp_m,↓JD.cd_m,↓JD.lu_m,↓JD.ct_m,↓JD.ce_m,↓JL.r_m,↓JL.z_m,↓JD.se_m,onE_r,↓Tr.run,↓Tr.run_nd,↓Tr.run_c3,↓Tr.run_c2,↓Tr.run_nx,↓onS,bind_ite,Option.bind_some,Option.bind_none,obR,minQ0 6 (by omega),minQ1,minQ2 6 (by omega),if_true]
 refine on_l (loop_coll (min c.Never.length 4) (fun i l=>((i:Int),l)) (fun i=>[fewN c i]) Sum.inl (fun i hi=>?_) ?_) (on_l (loop_coll (min c.States.length 12) (fun i l=>((i:Int),l)) (fun i=>[fewT c i]) Sum.inl (fun i hi=>?_) ?_) (on_l (loop_coll (min c.Transitions.length 24) (fun i l=>((i:Int),l)) (fun i=>[fewR c i]) Sum.inl (fun i hi=>?_) ?_) rfl))
 ·rw[if_pos (few_on (K:=4) rfl hi)];simp only[round_few (show 24≤1000 by omega) (by omega) hi,minQ0 6 (by omega),minQ1,minQ2 6 (by omega),Int.toNat_natCast,inL (show i < c.Never.length by omega),if_true,wr1 hi (by omega)];rfl
 ·simp only[few_end (n:=c.Never.length) (k:=4) (K:=4) rfl,Bool.false_eq_true,if_false]
 ·rw[if_pos (few_on (K:=12) rfl hi)];simp only[round_few (show 88≤1000 by omega) (by omega) hi,minQ0 9 (by omega),minQ1,minQ2 9 (by omega),Int.toNat_natCast,inL (show i < c.States.length by omega),if_true,wr1 hi (by omega)];rfl
 ·simp only[few_end (n:=c.States.length) (k:=12) (K:=12) rfl,Bool.false_eq_true,if_false]
 ·rw[if_pos (few_on (K:=24) rfl hi)];simp only[round_few (show 64≤1000 by omega) (by omega) hi,minQ0 6 (by omega),minQ0 9 (by omega),minQ1,minQ2 6 (by omega),minQ2 9 (by omega),Int.toNat_natCast,inL (show i < c.Transitions.length by omega),if_true,wr1 hi (by omega)];rfl
 ·simp only[few_end (n:=c.Transitions.length) (k:=24) (K:=24) rfl,Bool.false_eq_true,if_false]
structure Small (c:T27):Prop where
 conds:c.Conds.length≤6
 never:c.Never.length≤4
 lits:∀ l∈c.Never,l.length≤6
 states:c.States.length≤12
 entry:∀ s∈c.States,s.Entry.length≤9
 exit_:∀ s∈c.States,s.Exit.length≤9
 trans:c.Transitions.length≤24
 when_:∀ t∈c.Transitions,t.When.length≤6
 acts:∀ t∈c.Transitions,t.Actions.length≤9
theorem Small.fit {c:T27} (h:Small c):Fit c :=
 ⟨Nat.le_trans h.conds (by omega),Nat.le_trans h.never (by omega),fun l hl=>Nat.le_trans (h.lits l hl) (by omega),Nat.le_trans h.states (by omega),fun s hs=>Nat.le_trans (h.entry s hs) (by omega),fun s hs=>Nat.le_trans (h.exit_ s hs) (by omega),Nat.le_trans h.trans (by omega),fun t ht=>Nat.le_trans (h.when_ t ht) (by omega),fun t ht=>Nat.le_trans (h.acts t ht) (by omega)⟩
theorem cutL6 {A:Type} [Inhabited A] (l:List A):(cutL 6 l).length≤6:=by have:=cutL_len 6 l;simp only[Int.cast_ofNat_Int]at this;omega
theorem cutL9 {A:Type} [Inhabited A] (l:List A):(cutL 9 l).length≤9:=by have:=cutL_len 9 l;simp only[Int.cast_ofNat_Int]at this;omega
theorem few_small (c : T27) : Small (fewS c) :=
  ⟨cutL6 _, Nat.le_trans (flatMap_len (m := 1) (fun i => by simp) _) (by omega), mem_coll fun i _ => cutL6 _, Nat.le_trans (flatMap_len (m := 1) (fun i => by simp) _) (by omega), mem_coll fun i _ => cutL9 _, mem_coll fun i _ => cutL9 _,
   Nat.le_trans (flatMap_len (m := 1) (fun i => by simp) _) (by omega), mem_coll fun i _ => cutL6 _, mem_coll fun i _ => cutL9 _⟩
end Go.Av.Ch
set_option maxRecDepth 100000
namespace Go.Av.Ch
theorem eta (x:T27):(⟨x.Name,x.Conds,x.Never,x.States,x.Start,x.Transitions⟩:T27)=x:=rfl
theorem bne_self {α:Type} [BEq α] [LawfulBEq α] (x:α):(x != x)=false:=by simp
end Go.Av.Ch
namespace Go.Av
theorem n16 {n:Nat} (h:n < 65536):IntKind.wrap .u16 (n:Int)=(n:Int):=IntWalk.u16_in _ (by omega)
theorem bs {α β:Type} {a:α} {f:α→Option β}:Option.bind (some a) f=f a:=Eq.mpr rfl rfl
theorem bn {α β:Type} {f:α→Option β}:Option.bind none f=none:=Eq.mpr rfl rfl
theorem ol {Y R:Type} {f:Y→Option R} {y:Y}:onS f (.inl y)=f y:=Eq.mpr rfl rfl
theorem or_ {Y R:Type} {f:Y→Option R} {r:R}:onS f (.inr r)=some r:=Eq.mpr rfl rfl
theorem bind_id {α:Type} {m:Option α}:(Option.bind m fun r=>some r)=m:=by cases m<;>rfl
theorem loop_st {S X : Type} {b : S → Option (S ⊕ X)} (n : Nat) (st : Nat → S) (out : X) (hs : ∀ i, i < n → b (st i) = some (.inl (st (i + 1)))) (he : b (st n) = some (.inr out)) : loopO b (st 0) = some out := by
  have key : ∀ k i, i + k = n → loopO b (st i) = some out := by
    intro k
    induction k with
    | zero => intro i h; obtain rfl : i = n := by omega
              rw [loopO_eq, he]; rfl
    | succ k ih => intro i h; rw [loopO_eq, hs i (by omega)]; exact ih (i + 1) (by omega)
  exact key n 0 (by omega)
end Go.Av
set_option maxRecDepth 100000
namespace Go.Av
open Ch Go.Proofs
instance:Decidable (Tryz.prog=Tryz.prog):=.isTrue rfl
theorem list_eq_iff {α:Type} [Inhabited α] {a b:List α} (h:a.length=b.length):a=b↔∀ i,i < a.length→a.getD i default=b.getD i default:=by
 constructor
 ·intro e i _;rw[e]
 ·intro k
  apply List.ext_getElem h
  intro i h1 h2
  have:=k i h1
  simpa [List.getD_eq_getElem?_getD,List.getElem?_eq_getElem h1,List.getElem?_eq_getElem h2] using this
theorem firstR_ne {α:Type} [BEq α] [LawfulBEq α] [Inhabited α] {a b:List α} (h:a.length=b.length):(firstR (fun i=>if(a.getD i default != b.getD i default)=true then some false else none) a.length).getD true=(a==b):=by
 rw[firstR_const]
 by_cases e:a=b
 ·have:anyR (fun i=>a.getD i default != b.getD i default) a.length=false:=by
   rw[anyR_false];intro i _;rw[e];simp
  rw[this,e];simp
 ·have:anyR (fun i=>a.getD i default != b.getD i default) a.length=true:=by
   rw[anyR_iff]
   apply Classical.byContradiction
   intro hn
   apply e
   rw[list_eq_iff h]
   intro i hi
   apply Classical.byContradiction
   intro hne
   exact hn ⟨i,hi,by simpa using hne⟩
  rw[this,if_pos rfl]
  simp[e]
theorem len_ne {α:Type} [BEq α] [LawfulBEq α] {a b:List α} (h:((a.length:Int) != (b.length:Int))=true):(a==b)=false:=by
 rw[beq_eq_false_iff_ne]
 rintro rfl
 simp at h
theorem len_eq {α:Type} {a b:List α} (h:((a.length:Int) != (b.length:Int))=false):a.length=b.length:=by
 simp at h;omega
theorem eqInts_eq (a b:List Int) (ha:a.length≤1000000):m121 a b=some (a==b):=by
 delta m121 d121
 simp only[↓JD.sg_m,↓JD.sq_m,↓JD.sc_m,↓JD.bk_m,↓JD.lp_m,↓JD.cd_m,↓JD.lu_m,↓JD.ct_m,↓JD.ce_m,↓JL.r_m,↓JL.z_m,↓JD.se_m,onE_r,↓Tr.run,↓Tr.run_nd,↓Tr.run_c3,↓Tr.run_c2,↓Tr.run_nx,↓onS,bind_ite,Option.bind_some,Option.bind_none,obR]
 by_cases h:((a.length:Int) != (b.length:Int))=true
 ·simp only[h,if_true,onS_r,len_ne h]
 ·have h:=Bool.eq_false_iff.2 h
  have hl:=len_eq h
  simp only[h,Bool.false_eq_true,if_false,onS_l]
  rw[loop_ex a.length (fun i=>if(a.getD i default != b.getD i default)=true then some false else none) ?_ ?_,orK_getD,firstR_ne hl]
  ·intro i hi
   have hi2:i < b.length:=by omega
   simp only[exB_ite,exB_some,exB_none,inL hi,inL hi2,decide_true,Int.toNat_natCast,if_true,wr1 hi (by omega)]
  ·(simp only[lt_irr,decide_false,Bool.false_eq_true,if_false];try rfl)
def eqC (a b:T37):Bool:=a.Leaf==b.Leaf&&a.Memory==b.Memory
theorem eqC_iff {a b:T37}:eqC a b=true↔a=b:=by
 obtain⟨x,y⟩:=a
 obtain⟨z,w⟩:=b
 simp only[eqC,Bool.and_eq_true,beq_iff_eq]
 constructor
 ·rintro⟨rfl,rfl⟩;rfl
 ·intro h;injection h with h1 h2;exact⟨h1,h2⟩
theorem eqC_refl (a:T37):eqC a a=true:=eqC_iff.2 rfl
theorem same_eq (a b:T37) (ha:a.Memory.length≤1000000):m73 a b=some (eqC a b):=by
 delta m73 d73
 simp only[↓JD.sg_m,↓JD.sq_m,↓JD.sc_m,↓JD.bk_m,↓JD.lp_m,↓JD.cd_m,↓JD.lu_m,↓JD.ct_m,↓JD.ce_m,↓JL.r_m,↓JL.z_m,↓JD.se_m,onE_r,↓Tr.run,↓Tr.run_nd,↓Tr.run_c3,↓Tr.run_c2,↓Tr.run_nx,↓onS,bind_ite,Option.bind_some,Option.bind_none,obR,eqInts_eq _ _ ha,eqC]
 cases (a.Leaf==b.Leaf)<;>rfl
def Short (l:List T37):Prop:=∀ g∈l,g.Memory.length≤1000000
theorem Short.at {l:List T37} (h:Short l) {i:Nat} (hi:i < l.length):(l.getD i default).Memory.length≤1000000:=h _ (getD_mem hi)
def findC (l:List T37) (g:T37):Int:=findR (fun i=>eqC (l.getD i default) g) l.length
theorem find_eq (l:List T37) (g:T37) (hs:Short l) (hl:l.length≤1000000):m80 l g=some (findC l g):=by
 have e1:m54o0 l g=some (findC l g):=by
  have e2:∀ x:T37,x.Memory.length≤1000000→m128o0 x g=some (eqC x g):=fun x hx=>by
   delta m128o0 d128o0
   simp only[↓JD.sg_m,↓JD.sq_m,↓JD.sc_m,↓JD.bk_m,↓JD.lp_m,↓JD.cd_m,↓JD.lu_m,↓JD.ct_m,↓JD.ce_m,↓JL.r_m,↓JL.z_m,↓JD.se_m,onE_r,↓Tr.run,↓Tr.run_nd,↓Tr.run_c3,↓Tr.run_c2,↓Tr.run_nx,↓onS,bind_ite,Option.bind_some,Option.bind_none,obR,same_eq x g hx]
  delta m54o0 d54o0
  simp only[↓JD.sg_m,↓JD.sq_m,↓JD.sc_m,↓JD.bk_m,↓JD.lp_m,↓JD.cd_m,↓JD.lu_m,↓JD.ct_m,↓JD.ce_m,↓JL.r_m,↓JL.z_m,↓JD.se_m,onE_r,↓Tr.run,↓Tr.run_nd,↓Tr.run_c3,↓Tr.run_c2,↓Tr.run_nx,↓onS,bind_ite,Option.bind_some,Option.bind_none,obR]
  refine idx_loop (fun i hi=>?_) ?_
  ·simp only[exB_ite,exB_some,exB_none,inL hi,decide_true,Int.toNat_natCast,if_true,wr1 hi (by omega),e2 _ (hs.at hi),Option.bind_some]
  ·(simp only[lt_irr,decide_false,Bool.false_eq_true,if_false];try rfl)
 delta m80 d80
 simp only[↓JD.sg_m,↓JD.sq_m,↓JD.sc_m,↓JD.bk_m,↓JD.lp_m,↓JD.cd_m,↓JD.lu_m,↓JD.ct_m,↓JD.ce_m,↓JL.r_m,↓JL.z_m,↓JD.se_m,onE_r,↓Tr.run,↓Tr.run_nd,↓Tr.run_c3,↓Tr.run_c2,↓Tr.run_nx,↓onS,bind_ite,Option.bind_some,Option.bind_none,obR,e1]
theorem findC_any {l:List T37} {g:T37}:decide (0≤findC l g)=l.any (fun x=>eqC x g):=by
 unfold findC
 rw[findR_any,Bool.eq_iff_iff,anyR_iff,List.any_eq_true]
 constructor
 ·rintro⟨i,hi,h⟩;exact⟨_,getD_mem hi,h⟩
 ·rintro⟨x,hx,h⟩
  obtain⟨i,hi,rfl⟩:=List.getElem_of_mem hx
  exact⟨i,hi,by simpa [List.getD_eq_getElem?_getD,List.getElem?_eq_getElem hi] using h⟩
def hasC (l:List T37) (g:T37):Bool:=l.any fun x=>eqC x g
theorem hasC_iff {l:List T37} {g:T37}:hasC l g=true↔g∈l:=by
 unfold hasC
 rw[List.any_eq_true]
 constructor
 ·rintro⟨x,hx,h⟩;rw[← eqC_iff.1 h];exact hx
 ·intro h;exact⟨g,h,eqC_refl g⟩
theorem find_in {l:List T37} {g:T37}:decide (0≤findC l g)=hasC l g:=findC_any
def numV (c:T27):Nat:=2 ^ c.Conds.length
theorem numV_pos (c:T27):0 < numV c:=Nat.two_pow_pos _
theorem numV_le {c:T27} (h:c.Conds.length≤12):numV c≤4096:=Nat.pow_le_pow_right (by omega) h
theorem shl64 {n:Nat} (h:n≤12):IntKind.wrap .i64 ((1:Int) * 2 ^ (min ((n:Nat):Int).toNat (IntKind.bits .i64)))=((2 ^ n:Nat):Int):=by
 have e1:min ((n:Nat):Int).toNat (IntKind.bits .i64)=n:=by
  show min ((n:Nat):Int).toNat 64=n
  omega
 rw[e1,Int.one_mul]
 have h2:2 ^ n≤4096:=Nat.pow_le_pow_right (by omega) h
 have e2:((2:Int) ^ n)=((2 ^ n:Nat):Int):=by push_cast;rfl
 rw[e2]
 generalize 2 ^ n=m at h2 ⊢
 exact w64 (by omega) (by omega)
def alG (c:T27) (v:Nat):List Int:=if allowedS c (v:Int)=true then[(v:Int)]else[]
theorem alG_len (c:T27) (v:Nat):(alG c v).length≤1:=by unfold alG;split<;>simp
def valsA (c:T27):List Int:=(List.range (numV c)).flatMap (alG c)
theorem valsA_len {c:T27}:(valsA c).length≤numV c:=by
 have:=flatMap_len (alG_len c) (numV c)
 unfold valsA;omega
theorem valsA_mem {c:T27} {v:Int}:v∈valsA c↔∃ n:Nat,n < numV c∧v=n∧allowedS c v=true:=by
 unfold valsA
 rw[List.mem_flatMap]
 constructor
 ·rintro⟨n,h1,h2⟩
  unfold alG at h2
  split at h2
  ·rename_i h
   simp only[List.mem_singleton]at h2
   subst h2
   exact⟨n,List.mem_range.1 h1,rfl,h⟩
  ·cases h2
 ·rintro⟨n,h1,rfl,h2⟩
  exact⟨n,List.mem_range.2 h1,by unfold alG;rw[if_pos h2];simp⟩
theorem allowedL_eq {c:T27} (H:Fit c) (h:c.Conds.length≤12):m99 c=some (valsA c):=by
 have h2:=numV_le h
 delta m99 d99
 simp only[↓JD.sg_m,↓JD.sq_m,↓JD.sc_m,↓JD.bk_m,↓JD.lp_m,↓JD.cd_m,↓JD.lu_m,↓JD.ct_m,↓JD.ce_m,↓JL.r_m,↓JL.z_m,↓JD.se_m,onE_r,↓Tr.run,↓Tr.run_nd,↓Tr.run_c3,↓Tr.run_c2,↓Tr.run_nx,↓onS,bind_ite,Option.bind_some,Option.bind_none,obR,shl64 h,show (0:Int)≤(c.Conds.length:Int) from by omega,if_true]
 rw[show ((2 ^ c.Conds.length:Nat):Int)=(numV c:Int) from rfl]
 refine on_l (loop_coll (numV c) (fun i l=>(l,(i:Int))) (alG c) Sum.inl (fun i hi=>?_) (by (simp only[lt_irr,decide_false,Bool.false_eq_true,if_false];try rfl))) rfl
 have hl:=flatMap_len (alG_len c) i
 have h3:(((List.range i).flatMap (alG c)).length+1) * 2≤140737488355328:=by omega
 have h4:IntKind.wrap .u16 (i:Int)=(i:Int):=n16 (by omega)
 simp only[inL hi,decide_true,h3,h4,if_true,wr1 hi (by omega),Allowed_eq _ H,Option.bind_some,alG]
 cases allowedS c (i:Int)<;>simp
end Go.Av
