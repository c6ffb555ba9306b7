/- A part of the proof. -/
import Derived.Test.YtjibccpgeopfcaaGreatDoorPart4
import Derived.Lib.IndexLaws
set_option linter.unusedVariables false
set_option linter.unusedSimpArgs false
set_option maxRecDepth 100000
namespace Go.Av
open Go.RowKit Go.Base Go.Proofs Go.ChangeShapes Go.WideShapes
noncomputable def d82o0 (a0:List (List T118)) (a1:Int):JO Tryz.prog Tryz.f82 [(.d (eSl 1 (eSl 2 e118) a0)),(.fn 48 [(.ptr 0 0)])] (z82o0_0 a1) [] (q82o0 a0 a1) :=
 (.sq 1 [] [(0,[0,1],[0])] (fun(_:Unit)=>⟨[(0,(.d (eSl 1 (eSl 2 e118) a0))),(1,(.fn 48 [(.ptr 0 0)]))],(z82o0_0 a1),[],32⟩) (.nx ()) (fun _=>(.sc (fun(_:Unit)=>⟨[(1,(.fn 48 [(.ptr 0 0)]))],(z82o0_0 a1),[],272⟩) (.sq 1 [] [(0,[0,1,7,8],[0])] (fun(_:Unit)=>⟨[(0,(.d (eSl 1 (eSl 2 e118) a0))),(1,(.fn 48 [(.ptr 0 0)])),(7,(aI (a0.length:Int))),(8,(aI 0))],(z82o0_0 a1),[],80⟩) (.nx ()) (fun _=>(.bk (.lp (fun(s1:Int)=>⟨[(0,(.d (eSl 1 (eSl 2 e118) a0))),(1,(.fn 48 [(.ptr 0 0)])),(7,(aI (a0.length:Int))),(8,(aI s1))],(z82o0_0 a1),[],256⟩) (0:Int) (wk [(0,0)] []) fun s1=>(.sg [(4,⟨Bool,fun x=>[],fun x=>[(384,⟨(aB x),[0],[],(z82o0_0 a1),[]⟩)],[]⟩)] [(1,[1,4],[0]),(0,[0,1,7,8],[0]),(2,[1],[0])] (.ite (decide (s1 < (a0.length:Int))) (.exi (Bool) (if 0≤s1 then(if s1 < (a0.length:Int)then((m48o0 (a0.getD s1.toNat default) a1).bind fun r4_0=>some r4_0)else none)else none) (fun x4=>(.p (0≤s1) (.p (s1 < (a0.length:Int)) (.p (ObjL Tryz.prog 48 [(.d (eSl 2 e118 (a0.getD s1.toNat default))),(.ptr 0 0)] [(0,some (.cells [(.d (.int .u16 a1))]))] 384 ⟨(aB x4),[0],[],(z82o0_0 a1),[]⟩) (.fin 0))))) (by intro x4 h;obtain⟨h1,h⟩:=if_some h;obtain⟨h2,h⟩:=if_some h;obtain⟨r4_0,h3,h⟩:=Option.bind_eq_some_iff.1 h;cases h;exact⟨h1,h2,ok [(0,0)] [] [(0,0)] [] (po48o0 h3),trivial⟩) (fun x4 _=>(.ite x4 (.ret .ret ⟨[(1,(.fn 48 [(.ptr 0 0)])),(4,(aI s1))],(z82o0_0 a1),[],432⟩ (.inr (.inr (s1))) ⟨rfl,rfl,rfl,(rk [(0,0)] [] 432)⟩) (.ret .normal ⟨[(0,(.d (eSl 1 (eSl 2 e118) a0))),(1,(.fn 48 [(.ptr 0 0)])),(7,(aI (a0.length:Int))),(8,(aI (IntKind.wrap .i64 (s1+1))))],(z82o0_0 a1),[],432⟩ (.inl (IntKind.wrap .i64 (s1+1))) ⟨rfl,(wk [(0,0)] [])⟩)))) (.ret (.exit 0) _ (.inr (.inl ())) ⟨rfl,rfl,Weak.refl _⟩))))))) fun _=>(.sg [] [(1,[1,4],[0])] (.ret .ret ⟨[(1,(.fn 48 [(.ptr 0 0)])),(4,(aI (-1)))],(z82o0_0 a1),[],288⟩ (-1:Int) ⟨rfl,(rk [(0,0)] [] 432)⟩)))))
noncomputable def m82o0 (a0:List (List T118)) (a1:Int):Option (Int):=(d82o0 a0 a1).m
theorem po82o0 {a0:List (List T118)} {a1:Int} {r:Int} (h:m82o0 a0 a1=some r):ObjF Tryz.prog 82 [(.d (eSl 1 (eSl 2 e118) a0)),(.fn 48 [(.ptr 0 0)])] (z82o0_0 a1) [] (q82o0 a0 a1 r):=obj_jd (d82o0 a0 a1) Tryz.func82 h
noncomputable def q47o0 (a0:List (List T118)) (a1:Int) (y:Bool):OF:=⟨(aB y),[(0,(.cells [(.d (.int .u16 a1))]))],[]⟩
noncomputable def d47o0 (a0:List (List T118)) (a1:Int):JO Tryz.prog Tryz.f47 [(.d (eSl 1 (eSl 2 e118) a0)),(.fn 48 [(.ptr 0 0)])] [(0,(.cells [(.d (.int .u16 a1))]))] [] (q47o0 a0 a1) :=
 (.sg [(1,⟨Int,fun x=>[],fun x=>[(64,⟨(aI x),[0],[],[(0,(.cells [(.d (.int .u16 a1))]))],[]⟩)],[]⟩)] [(1,[1,4],[0])] (c3 (p:=fun x1=>ObjL Tryz.prog 82 [(.d (eSl 1 (eSl 2 e118) a0)),(.fn 48 [(.ptr 0 0)])] [(0,some (.cells [(.d (.int .u16 a1))]))] 64 ⟨(aI x1),[0],[],[(0,(.cells [(.d (.int .u16 a1))]))],[]⟩) (fun x1 (h1:m82o0 a0 a1=some _)=>ok [(0,0)] [] [(0,0)] [] (po82o0 h1)) fun x1=>(.ret .ret ⟨[(1,(.fn 48 [(.ptr 0 0)])),(4,(aB (decide (0≤x1))))],[(0,(.cells [(.d (.int .u16 a1))]))],[],112⟩ (decide (0≤x1)) ⟨rfl,(rk [(0,0)] [] 112)⟩)))
noncomputable def m47o0 (a0:List (List T118)) (a1:Int):Option (Bool):=(d47o0 a0 a1).m
theorem po47o0 {a0:List (List T118)} {a1:Int} {r:Bool} (h:m47o0 a0 a1=some r):ObjF Tryz.prog 47 [(.d (eSl 1 (eSl 2 e118) a0)),(.fn 48 [(.ptr 0 0)])] [(0,(.cells [(.d (.int .u16 a1))]))] [] (q47o0 a0 a1 r):=obj_jd (d47o0 a0 a1) Tryz.func47 h
noncomputable def d19 (a0:T27) (a1:Int):JF Tryz.prog Tryz.f19 [(e27 a0),(.int .u16 a1)] (fun(r:Bool)=>(.bool r)) :=
 (.sg [(4,⟨Bool,fun x=>[],fun x=>[(304,⟨(aB x),[32],[],[(32,(.cells [(.d (.int .u16 a1))]))],[]⟩)],[]⟩)] [(1,[4],[])] (.needG (decide ((a0.Conds.length:Int) < (16:Int))) (0≤(a0.Conds.length:Int)) inferInstance (.ite ((decide ((a0.Conds.length:Int) < (16:Int)))&&((Int.fdiv a1 (2 ^ (min (a0.Conds.length:Int).toNat (IntKind.bits .u16)))) != 0)) (.ret .ret ⟨[(4,(aB false))],[],[],272⟩ false ⟨rfl,_,Weak.refl _,dr⟩) (c3 (p:=fun x4=>ObjL Tryz.prog 47 [(.d (eSl 1 (eSl 2 e118) a0.Never)),(.fn 48 [(.ptr 32 0)])] [(32,some (.cells [(.d (.int .u16 a1))]))] 304 ⟨(aB x4),[32],[],[(32,(.cells [(.d (.int .u16 a1))]))],[]⟩) (fun x4 (h1:m47o0 a0.Never a1=some _)=>ok [(0,32)] [] [(32,0)] [] (po47o0 h1)) fun x4=>(.ret .ret ⟨[(4,(aB (!x4)))],[],[],352⟩ (!x4) ⟨rfl,_,Weak.refl _,dr⟩)))))
noncomputable def m19 (a0:T27) (a1:Int):Option (Bool):=(d19 a0 a1).m
theorem p19 {a0:T27} {a1:Int} {r:Bool} (h:m19 a0 a1=some r):PureAt Tryz.prog 19 [(e27 a0),(.int .u16 a1)] (.bool r):=pure_jd (d19 a0 a1) Tryz.func19 h
noncomputable def d45 (a0:List Int) (a1:Int):JF Tryz.prog Tryz.f45 [(eSl 1 dI a0),(dI a1)] (fun(r:Bool)=>(.bool r)) :=
 (.sg [(1,tm1 7 dI)] [(1,[4],[])] (c3 (@p75 a0 a1) fun x1=>(.ret .ret ⟨[(4,(aB (decide (0≤x1))))],[],[],112⟩ (decide (0≤x1)) ⟨rfl,_,Weak.refl _,dr⟩)))
noncomputable def m45 (a0:List Int) (a1:Int):Option (Bool):=(d45 a0 a1).m
theorem p45 {a0:List Int} {a1:Int} {r:Bool} (h:m45 a0 a1=some r):PureAt Tryz.prog 45 [(eSl 1 dI a0),(dI a1)] (.bool r):=pure_jd (d45 a0 a1) Tryz.func45 h
noncomputable def d18 (a0:T27) (a1 a2:Int):JF Tryz.prog Tryz.f18 [(e27 a0),(dI a1),(.int .u16 a2)] (fun(r:(List Int))=>(eSl 1 dI r)) :=
 (.sq 3 [(1,tm1 13 (eSl 1 dI))] [(0,[2,3,7,8],[16])] (fun(y1:(List Int))=>⟨[(2,(.d (.int .u16 a2))),(3,(.ptr 16 0)),(7,(.d (eSl 1 dI y1))),(8,aN)],[(16,(.cells (g27 a0)))],[],128⟩) (c3 (@p44 a0 a1) fun x1=>(.nx x1)) (fun y1=>(.sc (fun(y3:(List Int))=>⟨[(8,(.ap 1 y3.length (cF dI y3) (.tok 512 3)))],[],[512],592⟩) (.sq 1 [] [(0,[2,7,8,15,16,17],[])] (fun(_:Unit)=>⟨[(2,(.d (.int .u16 a2))),(7,(.d (eSl 1 dI y1))),(8,aN),(15,(.d (eSl 4 e58 a0.Transitions))),(16,(aI (a0.Transitions.length:Int))),(17,(aI 0))],[],[],192⟩) (.nx ()) (fun _=>(.bk (.lp (fun(s2:(List Int)×Int)=>⟨[(2,(.d (.int .u16 a2))),(7,(.d (eSl 1 dI y1))),(8,(.ap 1 s2.1.length (cF dI s2.1) (.tok 512 3))),(15,(.d (eSl 4 e58 a0.Transitions))),(16,(aI (a0.Transitions.length:Int))),(17,(aI s2.2))],[],[512],576⟩) ([],(0:Int)) (wk [] []) fun s2=>(.sg [(6,⟨Bool×Bool,fun x=>[(25,(.bool x.1)),(30,(.bool x.2))],fun x=>[],[]⟩)] [(0,[2,7,8,15,16,17],[]),(2,[8],[])] (.ite (decide (s2.2 < (a0.Transitions.length:Int))) (nd (0≤s2.2) (nd (s2.2 < (a0.Transitions.length:Int)) (.exi (Bool×Bool) ((m45 y1 (a0.Transitions.getD s2.2.toNat default).From).bind fun r6_0=>((if r6_0=true then m46 (a0.Transitions.getD s2.2.toNat default).When a2 else some default).bind fun r6_1=>some (r6_0,r6_1))) (fun x6=>(.p (PureAt Tryz.prog 45 [(eSl 1 dI y1),(dI (a0.Transitions.getD s2.2.toNat default).From)] (.bool x6.1)) (.g x6.1 (PureAt Tryz.prog 46 [(eSl 2 e118 (a0.Transitions.getD s2.2.toNat default).When),(.int .u16 a2)] (.bool x6.2)) (.fin 0)))) (by intro x6 h;obtain⟨r6_0,h1,h⟩:=Option.bind_eq_some_iff.1 h;obtain⟨r6_1,h2,h⟩:=Option.bind_eq_some_iff.1 h;cases h;exact⟨p45 h1,fun g=>p46 (by rw[if_pos g]at h2;exact h2),trivial⟩) (fun x6 _=>(.ite (x6.1&&x6.2) (nd ((s2.1.length+1) * 8≤140737488355328) (.ret .normal ⟨[(2,(.d (.int .u16 a2))),(7,(.d (eSl 1 dI y1))),(8,(.ap 1 (s2.1.length+1) (appF s2.1.length (cF dI s2.1) (litF [(dI s2.2)])) (.tok 896 3))),(15,(.d (eSl 4 e58 a0.Transitions))),(16,(aI (a0.Transitions.length:Int))),(17,(aI (IntKind.wrap .i64 (s2.2+1))))],[],[896,880],960⟩ (.inl ((s2.1++([s2.2]:List Int)),(IntKind.wrap .i64 (s2.2+1)))) ⟨rfl,(wh [] [(512,896)] ⟨dr,dr,⟨rfl,rfl,rfl,(de_app dr (de_lit rfl rfl))⟩,dr,dr,dr⟩)⟩)) (.ret .normal ⟨[(2,(.d (.int .u16 a2))),(7,(.d (eSl 1 dI y1))),(8,(.ap 1 s2.1.length (cF dI s2.1) (.tok 512 3))),(15,(.d (eSl 4 e58 a0.Transitions))),(16,(aI (a0.Transitions.length:Int))),(17,(aI (IntKind.wrap .i64 (s2.2+1))))],[],[512],880⟩ (.inl (s2.1,(IntKind.wrap .i64 (s2.2+1)))) ⟨rfl,(wk [] [(512,512)])⟩)))))) (.ret (.exit 0) _ (.inr (.inl s2.1)) ⟨rfl,rfl,Weak.refl _⟩))))))) fun y3=>(.sg [] [(1,[6],[])] (.ret .ret ⟨[(6,(.ap 1 y3.length (cF dI y3) (.tok 512 3)))],[],[512],624⟩ y3 ⟨rfl,_,Weak.refl _,dr⟩)))))
noncomputable def m18 (a0:T27) (a1 a2:Int):Option ((List Int)):=(d18 a0 a1 a2).m
theorem p18 {a0:T27} {a1:Int} {a2:Int} {r:(List Int)} (h:m18 a0 a1 a2=some r):PureAt Tryz.prog 18 [(e27 a0),(dI a1),(.int .u16 a2)] (eSl 1 dI r):=pure_jd (d18 a0 a1 a2) Tryz.func18 h
noncomputable def d80 (a0:T27) (a1 a2:Int):JF Tryz.prog Tryz.f80 [(e27 a0),(dI a1),(dI a2)] (fun(r:Int)=>(dI r)) :=
 (.sq 2 [(1,tm1 12 (eSl 1 dI))] [(0,[1,3,7],[16])] (fun(y1:(List Int))=>⟨[(1,(aI a1)),(3,(.ptr 16 0)),(7,(.d (eSl 1 dI y1)))],[(16,(.cells (g27 a0)))],[],128⟩) (.exi ((List Int)) ((m44 a0 a2).bind fun r1_0=>(if(0:Int)≤(1:Int)then(if 1≤(r1_0.length:Int)then some r1_0 else none)else none)) (fun x1=>(.p (PureAt Tryz.prog 44 [(e27 a0),(dI a2)] (eSl 1 dI x1)) (.p ((0:Int)≤(1:Int)) (.p (1≤(x1.length:Int)) (.fin 0))))) (by intro x1 h;obtain⟨r1_0,h1,h⟩:=Option.bind_eq_some_iff.1 h;obtain⟨h2,h⟩:=if_some h;obtain⟨h3,h⟩:=if_some h;cases h;exact⟨p44 h1,h2,h3,trivial⟩) (fun x1 _=>(.ret .normal ⟨[(1,(aI a1)),(3,(.ptr 16 0)),(7,(.d (.sl 1 (x1.length - (1:Int).toNat) (fun i=>cF dI x1 ((1:Int).toNat+i)))))],[(16,(.cells (g27 a0)))],[],128⟩ (.inl (subL x1 (1:Int).toNat (x1.length - (1:Int).toNat))) ⟨rfl,(wh [(16,16)] [] ⟨dr,⟨rfl,rfl⟩,de_sub⟩)⟩))) (fun y1=>(.sc (fun(_:Unit)=>⟨[],[],[],384⟩) (.sq 1 [(2,tm1 16 (eSl 1 dI))] [(0,[7,17,18,19],[])] (fun(y2:(List Int)×Int)=>⟨[(7,(.d (eSl 1 dI y1))),(17,(.d (eSl 1 dI y2.1))),(18,(aI y2.2)),(19,(aI 0))],[],[],224⟩) (.exi ((List Int)) ((m44 a0 a1).bind fun r2_0=>(if(0:Int)≤(1:Int)then(if 1≤(r2_0.length:Int)then some r2_0 else none)else none)) (fun x2=>(.p (PureAt Tryz.prog 44 [(e27 a0),(dI a1)] (eSl 1 dI x2)) (.p ((0:Int)≤(1:Int)) (.p (1≤(x2.length:Int)) (.fin 0))))) (by intro x2 h;obtain⟨r2_0,h1,h⟩:=Option.bind_eq_some_iff.1 h;obtain⟨h2,h⟩:=if_some h;obtain⟨h3,h⟩:=if_some h;cases h;exact⟨p44 h1,h2,h3,trivial⟩) (fun x2 _=>(.ret .normal ⟨[(7,(.d (eSl 1 dI y1))),(17,(.d (.sl 1 (x2.length - (1:Int).toNat) (fun i=>cF dI x2 ((1:Int).toNat+i))))),(18,(aI (((x2.length - (1:Int).toNat):Nat):Int))),(19,(aI 0))],[],[],224⟩ (.inl ((subL x2 (1:Int).toNat (x2.length - (1:Int).toNat)),(((x2.length - (1:Int).toNat):Nat):Int))) ⟨rfl,(wh [] [] ⟨dr,de_sub,dr,dr⟩)⟩))) (fun y2=>(.bk (.lp (fun(s3:Int)=>⟨[(7,(.d (eSl 1 dI y1))),(17,(.d (eSl 1 dI y2.1))),(18,(aI y2.2)),(19,(aI s3))],[],[],368⟩) (0:Int) (wk [] []) fun s3=>(.sg [(5,tm1 25 D.bool)] [(1,[6],[]),(0,[7,17,18,19],[]),(2,[],[])] (.ite (decide (s3 < y2.2)) (nd (0≤s3) (nd (s3 < (y2.1.length:Int)) (c3 (@p45 y1 (y2.1.getD s3.toNat default)) fun x5=>(.ite x5 (.ret .ret ⟨[(6,(aI (y2.1.getD s3.toNat default)))],[],[],512⟩ (.inr (.inr ((y2.1.getD s3.toNat default)))) ⟨rfl,rfl,rfl,_,Weak.refl _,dr⟩) (.ret .normal ⟨[(7,(.d (eSl 1 dI y1))),(17,(.d (eSl 1 dI y2.1))),(18,(aI y2.2)),(19,(aI (IntKind.wrap .i64 (s3+1))))],[],[],512⟩ (.inl (IntKind.wrap .i64 (s3+1))) ⟨rfl,(wk [] [])⟩))))) (.ret (.exit 0) _ (.inr (.inl ())) ⟨rfl,rfl,Weak.refl _⟩))))))) fun _=>(.sg [] [(1,[6],[])] (.ret .ret ⟨[(6,(aI (-1)))],[],[],400⟩ (-1:Int) ⟨rfl,_,Weak.refl _,dr⟩)))))
noncomputable def m80 (a0:T27) (a1 a2:Int):Option (Int):=(d80 a0 a1 a2).m
theorem p80 {a0:T27} {a1:Int} {a2:Int} {r:Int} (h:m80 a0 a1 a2=some r):PureAt Tryz.prog 80 [(e27 a0),(dI a1),(dI a2)] (dI r):=pure_jd (d80 a0 a1 a2) Tryz.func80 h
noncomputable abbrev z81o0_0 (a1:T27) (a2:Int) (a3:List Int) (s2:Int×Int×(List Int)×(List (List UInt8))) (y1:(List Int)×Int):Ob:=(.cells (g27 a1++([(aI a2),(.arr 1 1 a3.length),(.ap 1 (s2.2.2.2.length+(a1.States.getD (y1.1.getD s2.2.1.toNat default).toNat default).Exit.length) (appF s2.2.2.2.length (cF D.str s2.2.2.2) (cF D.str (a1.States.getD (y1.1.getD s2.2.1.toNat default).toNat default).Exit)) (.tok 1360 9))]:List AV)))
noncomputable abbrev z81o0_1 (a1:T27) (a2:Int) (a3:List Int) (a4:List (List UInt8)):Ob:=(.cells [(aS a1.Name),(.d (eSl 1 D.str a1.Conds)),(.d (eSl 1 (eSl 2 e118) a1.Never)),(.d (eSl 6 e56 a1.States)),(aI a1.Start),(.d (eSl 4 e58 a1.Transitions)),(aI a2),(.arr 1 1 a3.length),(.ap 1 a4.length (cF D.str a4) (.tok 0 9))])
noncomputable abbrev z81o0_2 (a1:T27) (a2:Int) (a3:List Int) (s2:Int×Int×(List Int)×(List (List UInt8))):Ob:=(.cells (g27 a1++([(aI a2),(.arr 1 1 a3.length),(.ap 1 s2.2.2.2.length (cF D.str s2.2.2.2) (.tok 0 9))]:List AV)))
noncomputable def q81o0 (a0:Int) (a1:T27) (a2:Int) (a3:List Int) (a4:List (List UInt8)) (y:(List Int)×(List (List UInt8))):OF:=⟨(.tup []),[(1,(.arr 1 a3.length (cF dI y.1))),(0,(.cells (g27 a1++([(aI a2),(.arr 1 1 a3.length),(.ap 1 y.2.length (cF D.str y.2) (.tok 0 9))]:List AV))))],[0]⟩
noncomputable def d81o0 (a0:Int) (a1:T27) (a2:Int) (a3:List Int) (a4:List (List UInt8)):JO Tryz.prog Tryz.f81 [(.ptr 0 0),(aI a0)] [(1,(.arr 1 a3.length (cF dI a3))),(0,(z81o0_1 a1 a2 a3 a4))] [0] (q81o0 a0 a1 a2 a3 a4) :=
 (.sq 2 [(1,tm1 17 (eSl 1 dI))] [(0,[0,1,4,17,18,19],[1,0])] (fun(y1:(List Int)×Int)=>⟨[(0,(.ptr 0 0)),(1,(aI a0)),(4,(aI (-1))),(17,(.d (eSl 1 dI y1.1))),(18,(aI y1.2)),(19,(aI 0))],[(1,(.arr 1 a3.length (cF dI a3))),(0,(.cells (g27 a1++([(aI a2),(.arr 1 1 a3.length),(.ap 1 a4.length (cF D.str a4) (.tok 0 9))]:List AV))))],[0],224⟩) (c3 (@p44 a1 a2) fun x1=>(.nx (x1,(x1.length:Int)))) (fun y1=>(.bk (.lp (fun(s2:Int×Int×(List Int)×(List (List UInt8)))=>⟨[(0,(.ptr 0 0)),(1,(aI a0)),(4,(aI s2.1)),(17,(.d (eSl 1 dI y1.1))),(18,(aI y1.2)),(19,(aI s2.2.1))],[(1,(.arr 1 a3.length (cF dI s2.2.2.1))),(0,(z81o0_2 a1 a2 a3 s2))],[0],976⟩) ((-1:Int),(0:Int),a3,a4) (ws (idn [0,1]) [(0,0)] ⟨⟨_,_,rfl,rfl,⟨rfl,(de_keep dr)⟩⟩,⟨_,_,rfl,rfl,⟨dr,dr,dr,dr,dr,dr,dr,⟨rfl,rfl,rfl⟩,⟨rfl,rfl,rfl,dr⟩,trivial⟩⟩⟩) fun s2=>(.sg [] [(1,[0],[0,1]),(0,[0,1,4,17,18,19],[1,0]),(2,[0],[0,1])] (.ite (decide (s2.2.1 < y1.2)) (nd (0≤s2.2.1) (nd (s2.2.1 < (y1.1.length:Int)) (.ite ((y1.1.getD s2.2.1.toNat default)==a0) (.ret .ret ⟨[(0,(.ptr 0 0))],[(0,(z81o0_2 a1 a2 a3 s2)),(1,(.arr 1 a3.length (cF dI s2.2.2.1)))],[0],1088⟩ (.inr ((s2.2.2.1,s2.2.2.2))) ⟨rfl,rfl,(rk (idn [0,1]) [(0,0)] 1088)⟩) (nd (0≤(y1.1.getD s2.2.1.toNat default)) (nd ((y1.1.getD s2.2.1.toNat default) < (a1.States.length:Int)) (nd ((s2.2.2.2.length+(a1.States.getD (y1.1.getD s2.2.1.toNat default).toNat default).Exit.length) * 16≤140737488355328) (.ite ((a1.States.getD (y1.1.getD s2.2.1.toNat default).toNat default).History&&(s2.1 != (-1:Int))) (nd (0≤(y1.1.getD s2.2.1.toNat default)) (nd ((y1.1.getD s2.2.1.toNat default) < (a3.length:Int)) (nd ((y1.1.getD s2.2.1.toNat default).toNat < a3.length) (.ret .normal ⟨[(0,(.ptr 0 0)),(1,(aI a0)),(4,(aI (y1.1.getD s2.2.1.toNat default))),(17,(.d (eSl 1 dI y1.1))),(18,(aI y1.2)),(19,(aI (IntKind.wrap .i64 (s2.2.1+1))))],[(1,(.arr 1 a3.length (fun k=>if k=(y1.1.getD s2.2.1.toNat default).toNat then(dI s2.1)else(cF dI s2.2.2.1) k))),(0,(z81o0_0 a1 a2 a3 s2 y1))],[1360],1728⟩ (.inl ((y1.1.getD s2.2.1.toNat default),(IntKind.wrap .i64 (s2.2.1+1)),((subL s2.2.2.1 0 a3.length).set (y1.1.getD s2.2.1.toNat default).toNat s2.1),(s2.2.2.2++(a1.States.getD (y1.1.getD s2.2.1.toNat default).toNat default).Exit))) ⟨rfl,(ws (idn [0,1]) [(0,1360)] ⟨⟨_,_,rfl,rfl,⟨rfl,(de_keep (de_set de_sub0))⟩⟩,⟨_,_,rfl,rfl,⟨dr,dr,dr,dr,dr,dr,dr,⟨rfl,rfl,rfl⟩,⟨rfl,rfl,rfl,(de_app dr dr)⟩,trivial⟩⟩⟩)⟩)))) (.ret .normal ⟨[(0,(.ptr 0 0)),(1,(aI a0)),(4,(aI (y1.1.getD s2.2.1.toNat default))),(17,(.d (eSl 1 dI y1.1))),(18,(aI y1.2)),(19,(aI (IntKind.wrap .i64 (s2.2.1+1))))],[(1,(.arr 1 a3.length (cF dI s2.2.2.1))),(0,(z81o0_0 a1 a2 a3 s2 y1))],[1360],1584⟩ (.inl ((y1.1.getD s2.2.1.toNat default),(IntKind.wrap .i64 (s2.2.1+1)),s2.2.2.1,(s2.2.2.2++(a1.States.getD (y1.1.getD s2.2.1.toNat default).toNat default).Exit))) ⟨rfl,(ws (idn [0,1]) [(0,1360)] ⟨⟨_,_,rfl,rfl,⟨rfl,dr⟩⟩,⟨_,_,rfl,rfl,⟨dr,dr,dr,dr,dr,dr,dr,⟨rfl,rfl,rfl⟩,⟨rfl,rfl,rfl,(de_app dr dr)⟩,trivial⟩⟩⟩)⟩)))))))) (.ret (.exit 0) ⟨[(0,(.ptr 0 0))],[(0,(z81o0_2 a1 a2 a3 s2)),(1,(.arr 1 a3.length (cF dI s2.2.2.1)))],[0],992⟩ (.inr ((s2.2.2.1,s2.2.2.2))) ⟨rfl,rfl,(rk (idn [0,1]) [(0,0)] 1088)⟩)))))))
noncomputable def m81o0 (a0:Int) (a1:T27) (a2:Int) (a3:List Int) (a4:List (List UInt8)):Option ((List Int)×(List (List UInt8))):=(d81o0 a0 a1 a2 a3 a4).m
theorem po81o0 {a0:Int} {a1:T27} {a2:Int} {a3:List Int} {a4:List (List UInt8)} {r:(List Int)×(List (List UInt8))} (h:m81o0 a0 a1 a2 a3 a4=some r):ObjF Tryz.prog 81 [(.ptr 0 0),(aI a0)] [(1,(.arr 1 a3.length (cF dI a3))),(0,(z81o0_1 a1 a2 a3 a4))] [0] (q81o0 a0 a1 a2 a3 a4 r):=obj_jd (d81o0 a0 a1 a2 a3 a4) Tryz.func81 h
noncomputable def E43 (r:T41×(List (List UInt8))×Int):D:=(.tup [(e41 r.1),(eSl 1 D.str r.2.1),(dI r.2.2)])
noncomputable def o43_0 (a0:T27) (a1:T41) (x:Unit):OT:=⟨(.ptr 657 0),[],[],[(656,(.arr 1 (a1.Memory.length:Int).toNat (fun i=>if i < a1.Memory.length then(cF dI a1.Memory) i else(fun _=>(dI 0)) i))),(657,(.cells (g27 a0++([(aI a1.Leaf),(.arr 656 1 (a1.Memory.length:Int).toNat),aN]:List AV))))],[]⟩
noncomputable def o43_1 (a0:T27) (a1:T41) (x:((List Int)×(List (List UInt8)))):OT:=⟨(.tup []),[657,656],[],[(656,(.arr 1 (a1.Memory.length:Int).toNat (cF dI x.1))),(657,(.cells (g27 a0++([(aI a1.Leaf),(.arr 656 1 (a1.Memory.length:Int).toNat),(.ap 1 x.2.length (cF D.str x.2) (.tok 832 9))]:List AV))))],[832]⟩
noncomputable def o43_2 (a0:T27) (a1:T41) (x:(Int×(List Int)×(List (List UInt8)))):OT:=⟨(.tup []),[657,656],[960],[(656,(.arr 1 (a1.Memory.length:Int).toNat (cF dI x.2.1))),(657,(.cells (g27 a0++([(aI x.1),(.arr 656 1 (a1.Memory.length:Int).toNat),(.ap 1 x.2.2.length (cF D.str x.2.2) (.tok 1088 9))]:List AV))))],[1088]⟩
noncomputable def d43 (a0:T27) (a1:T41) (a2:Int):JF Tryz.prog Tryz.f43 [(e27 a0),(e41 a1),(dI a2)] E43 :=
 (.sg [(1,tm1 14 dI),(4,tm1 21 D.bool),(9,⟨(List Int)×Bool,fun x=>[(42,(eSl 1 dI x.1)),(45,(.bool x.2))],fun x=>[],[]⟩),(11,⟨Unit,fun x=>[],fun x=>[(656,(o43_0 a0 a1 x))],[]⟩),(12,tm1 56 dI),(13,⟨((List Int)×(List (List UInt8))),fun x=>[],fun x=>[(832,(o43_1 a0 a1 x))],[]⟩),(15,⟨(Int×(List Int)×(List (List UInt8))),fun x=>[],fun x=>[(1088,(o43_2 a0 a1 x))],[]⟩)] [(1,[6,7,8],[48,656])] (c3 (@p20 a0) fun x1=>(.ite (x1 != 0) (.ret .ret ⟨[(6,(.ptr 48 0)),(7,aN),(8,(aI x1))],[(48,(.cells [(aI 0),aN]))],[],256⟩ ((⟨(0:Int),[]⟩:T41),[],x1) ⟨rfl,_,Weak.refl _,⟨⟨dr,de_nil,trivial⟩,de_nil,dr,trivial⟩⟩) (c3 (@p42 a0 a1) fun x4=>(.ite (!x4) (.ret .ret ⟨[(6,(.ptr 48 0)),(7,aN),(8,(aI 8))],[(48,(.cells [(aI 0),aN]))],[],304⟩ ((⟨(0:Int),[]⟩:T41),[],(8:Int)) ⟨rfl,_,Weak.refl _,⟨⟨dr,de_nil,trivial⟩,de_nil,dr,trivial⟩⟩) (.ite ((decide (a2 < 0)) || (decide ((a0.Transitions.length:Int)≤a2))) (.ret .ret ⟨[(6,(.ptr 48 0)),(7,aN),(8,(aI 2))],[(48,(.cells [(aI 0),aN]))],[],448⟩ ((⟨(0:Int),[]⟩:T41),[],(2:Int)) ⟨rfl,_,Weak.refl _,⟨⟨dr,de_nil,trivial⟩,de_nil,dr,trivial⟩⟩) (nd (0≤a2) (nd (a2 < (a0.Transitions.length:Int)) (.exi ((List Int)×Bool) ((m44 a0 a1.Leaf).bind fun r9_0=>((m45 r9_0 (a0.Transitions.getD a2.toNat default).From).bind fun r9_1=>some (r9_0,r9_1))) (fun x9=>(.p (PureAt Tryz.prog 44 [(e27 a0),(dI a1.Leaf)] (eSl 1 dI x9.1)) (.p (PureAt Tryz.prog 45 [(eSl 1 dI x9.1),(dI (a0.Transitions.getD a2.toNat default).From)] (.bool x9.2)) (.fin 0)))) (by intro x9 h;obtain⟨r9_0,h1,h⟩:=Option.bind_eq_some_iff.1 h;obtain⟨r9_1,h2,h⟩:=Option.bind_eq_some_iff.1 h;cases h;exact⟨p44 h1,p45 h2,trivial⟩) (fun x9 _=>(.ite (!x9.2) (.ret .ret ⟨[(6,(.ptr 48 0)),(7,aN),(8,(aI 9))],[(48,(.cells [(aI 0),aN]))],[],688⟩ ((⟨(0:Int),[]⟩:T41),[],(9:Int)) ⟨rfl,_,Weak.refl _,⟨⟨dr,de_nil,trivial⟩,de_nil,dr,trivial⟩⟩) (c3 (p:=fun x11=>ObjL Tryz.prog 39 [(.d (e27 a0)),(.d (e41 a1))] [] 656 (o43_0 a0 a1 x11)) (fun x11 (h1:m39o0 a0 a1=some _)=>ok [] [] [(656,112),(657,304)] [] (po39o0 h1)) fun x11=>(c3 (@p80 a0 (a0.Transitions.getD a2.toNat default).From (a0.Transitions.getD a2.toNat default).To) fun x12=>(c3 (p:=fun x13=>ObjL Tryz.prog 81 [(.ptr 657 0),(aI x12)] [(657,some (.cells (g27 a0++([(aI a1.Leaf),(.arr 656 1 (a1.Memory.length:Int).toNat),aN]:List AV)))),(656,some (.arr 1 (a1.Memory.length:Int).toNat (fun i=>if i < a1.Memory.length then(cF dI a1.Memory) i else(fun _=>(dI 0)) i)))] 832 (o43_1 a0 a1 x13)) (fun x13 (h1:m81o0 x12 a0 a1.Leaf (copyL (List.replicate (a1.Memory.length:Int).toNat (0:Int)) a1.Memory) []=some _)=>objL_of (po81o0 h1) [(0,657),(1,656)] [] [(657,0),(656,1)] [(832,0)] (by kernel_rfl) ⟨⟨rfl,rfl⟩,dr,trivial⟩ ⟨⟨_,_,rfl,rfl,⟨rfl,(de_copy (z:=1) (sz':=1) de_rep dr)⟩⟩,⟨_,_,rfl,rfl,⟨dr,dr,dr,dr,dr,dr,dr,⟨rfl,rfl,(len_of (sz:=1) (e:=dI) (f:=(fun i=>if i < a1.Memory.length then(cF dI a1.Memory) i else(fun _=>(dI 0)) i)) (l:=(copyL (List.replicate (a1.Memory.length:Int).toNat (0:Int)) a1.Memory)) (de_copy (z:=1) (sz':=1) de_rep dr))⟩,rfl,trivial⟩⟩⟩ (by kernel_rfl) trivial ⟨⟨_,_,rfl,rfl,⟨rfl,(de_len (Eq.symm (len_of (sz:=1) (e:=dI) (f:=(fun i=>if i < a1.Memory.length then(cF dI a1.Memory) i else(fun _=>(dI 0)) i)) (l:=(copyL (List.replicate (a1.Memory.length:Int).toNat (0:Int)) a1.Memory)) (de_copy (z:=1) (sz':=1) de_rep dr))))⟩⟩,⟨_,_,rfl,rfl,⟨dr,dr,dr,dr,dr,dr,dr,⟨rfl,rfl,(Eq.symm (len_of (sz:=1) (e:=dI) (f:=(fun i=>if i < a1.Memory.length then(cF dI a1.Memory) i else(fun _=>(dI 0)) i)) (l:=(copyL (List.replicate (a1.Memory.length:Int).toNat (0:Int)) a1.Memory)) (de_copy (z:=1) (sz':=1) de_rep dr)))⟩,⟨rfl,rfl,rfl,dr⟩,trivial⟩⟩⟩) fun x13=>(nd ((x13.2.length+(a0.Transitions.getD a2.toNat default).Actions.length) * 16≤140737488355328) (c3 (p:=fun x15=>ObjL Tryz.prog 41 [(.ptr 657 0),(aI (a0.Transitions.getD a2.toNat default).To),(aI x12)] [(657,some (.cells (g27 a0++([(aI a1.Leaf),(.arr 656 1 (a1.Memory.length:Int).toNat),(.ap 1 (x13.2.length+(a0.Transitions.getD a2.toNat default).Actions.length) (appF x13.2.length (cF D.str x13.2) (cF D.str (a0.Transitions.getD a2.toNat default).Actions)) (.tok 960 9))]:List AV)))),(656,some (.arr 1 (a1.Memory.length:Int).toNat (cF dI x13.1)))] 1088 (o43_2 a0 a1 x15)) (fun x15 (h1:m41o0 (a0.Transitions.getD a2.toNat default).To x12 a0 a1.Leaf (subL x13.1 0 (a1.Memory.length:Int).toNat) (x13.2++(a0.Transitions.getD a2.toNat default).Actions)=some _)=>objL_of (po41o0 h1) [(0,657),(1,656)] [(0,960)] [(657,0),(656,1)] [(1088,384)] (by kernel_rfl) ⟨⟨rfl,rfl⟩,dr,dr,trivial⟩ ⟨⟨_,_,rfl,rfl,⟨rfl,de_sub0⟩⟩,⟨_,_,rfl,rfl,⟨dr,dr,dr,dr,dr,dr,dr,⟨rfl,rfl,(len_of (sz:=1) (e:=dI) (f:=(cF dI x13.1)) (l:=(subL x13.1 0 (a1.Memory.length:Int).toNat)) de_sub0)⟩,⟨rfl,rfl,rfl,(de_app dr dr)⟩,trivial⟩⟩⟩ (by kernel_rfl) trivial ⟨⟨_,_,rfl,rfl,⟨rfl,(de_len (Eq.symm (len_of (sz:=1) (e:=dI) (f:=(cF dI x13.1)) (l:=(subL x13.1 0 (a1.Memory.length:Int).toNat)) de_sub0)))⟩⟩,⟨_,_,rfl,rfl,⟨dr,dr,dr,dr,dr,dr,dr,⟨rfl,rfl,(Eq.symm (len_of (sz:=1) (e:=dI) (f:=(cF dI x13.1)) (l:=(subL x13.1 0 (a1.Memory.length:Int).toNat)) de_sub0))⟩,⟨rfl,rfl,rfl,dr⟩,trivial⟩⟩⟩) fun x15=>(.ret .ret ⟨[(6,(.ptr 48 0)),(7,(.ap 1 x15.2.2.length (cF D.str x15.2.2) (.tok 1088 9))),(8,(aI 0))],[(48,(.cells [(aI x15.1),(.arr 656 1 (a1.Memory.length:Int).toNat)])),(656,(.arr 1 (a1.Memory.length:Int).toNat (cF dI x15.2.1)))],[1088],1280⟩ ((⟨x15.1,(subL x15.2.1 0 (a1.Memory.length:Int).toNat)⟩:T41),x15.2.2,(0:Int)) ⟨rfl,_,(weak_frz (st':=⟨[(6,(.ptr 48 0)),(7,(.ap 1 x15.2.2.length (cF D.str x15.2.2) (.tok 1088 9))),(8,(aI 0))],[(48,(.cells [(aI x15.1),(.d (eSl 1 dI (subL x15.2.1 0 (a1.Memory.length:Int).toNat)))]))],[1088],1280⟩) [(656,1,(a1.Memory.length:Int).toNat,(cF dI x15.2.1))] (by rfl) (by rfl) (by kernel_rfl) (by kernel_rfl) (by exact(rowIs_arr rfl)) (by exact .inr ⟨_,_,rfl,rfl,(.same (.arr (.head _) (Nat.le_refl _) de_sub0 .nil))⟩) (by exact⟨(.same .nil),(.same .nil),(.same .nil)⟩)),⟨dr,dr,dr,trivial⟩⟩)))))))))))))))))
noncomputable def m43 (a0:T27) (a1:T41) (a2:Int):Option (T41×(List (List UInt8))×Int):=(d43 a0 a1 a2).m
theorem p43 {a0:T27} {a1:T41} {a2:Int} {r:T41×(List (List UInt8))×Int} (h:m43 a0 a1 a2=some r):PureAt Tryz.prog 43 [(e27 a0),(e41 a1),(dI a2)] (E43 r):=pure_jd (d43 a0 a1 a2) Tryz.func43 h
noncomputable def E13 (r:T41×(List (List UInt8))×Int):D:=(.tup [(e41 r.1),(eSl 1 D.str r.2.1),(dI r.2.2)])
noncomputable def d13 (a0:T27) (a1:T41) (a2:Int):JF Tryz.prog Tryz.f13 [(e27 a0),(e41 a1),(.int .u16 a2)] E13 :=
 (.sg [(1,tm1 12 dI),(4,tm1 19 D.bool),(6,tm1 24 D.bool),(8,tm1 31 (eSl 1 dI)),(13,tm1 44 (fun(x:(T41×(List (List UInt8))×Int))=>(.tup [(e41 x.1),(eSl 1 D.str x.2.1),(dI x.2.2)])))] [(1,[6,7,8],[48])] (c3 (@p20 a0) fun x1=>(.ite (x1 != 0) (.ret .ret ⟨[(6,(.ptr 48 0)),(7,aN),(8,(aI x1))],[(48,(.cells [(aI 0),aN]))],[],256⟩ ((⟨(0:Int),[]⟩:T41),[],x1) ⟨rfl,_,Weak.refl _,⟨⟨dr,de_nil,trivial⟩,de_nil,dr,trivial⟩⟩) (c3 (@p42 a0 a1) fun x4=>(.ite (!x4) (.ret .ret ⟨[(6,(.ptr 48 0)),(7,aN),(8,(aI 8))],[(48,(.cells [(aI 0),aN]))],[],304⟩ ((⟨(0:Int),[]⟩:T41),[],(8:Int)) ⟨rfl,_,Weak.refl _,⟨⟨dr,de_nil,trivial⟩,de_nil,dr,trivial⟩⟩) (c3 (@p19 a0 a2) fun x6=>(.ite (!x6) (.ret .ret ⟨[(6,(.ptr 48 0)),(7,aN),(8,(aI 1))],[(48,(.cells [(aI 0),aN]))],[],368⟩ ((⟨(0:Int),[]⟩:T41),[],(1:Int)) ⟨rfl,_,Weak.refl _,⟨⟨dr,de_nil,trivial⟩,de_nil,dr,trivial⟩⟩) (c3 (@p18 a0 a1.Leaf a2) fun x8=>(.ite ((x8.length:Int)==(0:Int)) (.ret .ret ⟨[(6,(.ptr 48 0)),(7,aN),(8,(aI 6))],[(48,(.cells [(aI 0),aN]))],[],528⟩ ((⟨(0:Int),[]⟩:T41),[],(6:Int)) ⟨rfl,_,Weak.refl _,⟨⟨dr,de_nil,trivial⟩,de_nil,dr,trivial⟩⟩) (.ite ((x8.length:Int)==(1:Int)) (.exi ((T41×(List (List UInt8))×Int)) (if(0:Int)≤(0:Int)then(if 0 < (x8.length:Int)then((m43 a0 a1 (x8.getD (0:Int).toNat default)).bind fun r13_0=>some r13_0)else none)else none) (fun x13=>(.p ((0:Int)≤(0:Int)) (.p (0 < (x8.length:Int)) (.p (PureAt Tryz.prog 43 [(e27 a0),(e41 a1),(dI (x8.getD (0:Int).toNat default))] (.tup [(e41 x13.1),(eSl 1 D.str x13.2.1),(dI x13.2.2)])) (.fin 0))))) (by intro x13 h;obtain⟨h1,h⟩:=if_some h;obtain⟨h2,h⟩:=if_some h;obtain⟨r13_0,h3,h⟩:=Option.bind_eq_some_iff.1 h;cases h;exact⟨h1,h2,p43 h3,trivial⟩) (fun x13 _=>(.ret .ret ⟨[(6,(.ptr 48 0)),(7,(.d (eSl 1 D.str x13.2.1))),(8,(aI x13.2.2))],[(48,(.cells (g41 x13.1)))],[],688⟩ (x13.1,x13.2.1,x13.2.2) ⟨rfl,_,Weak.refl _,⟨dr,dr,dr,trivial⟩⟩))) (.ret .ret ⟨[(6,(.ptr 48 0)),(7,aN),(8,(aI 11))],[(48,(.cells [(aI 0),aN]))],[],560⟩ ((⟨(0:Int),[]⟩:T41),[],(11:Int)) ⟨rfl,_,Weak.refl _,⟨⟨dr,de_nil,trivial⟩,de_nil,dr,trivial⟩⟩)))))))))))
noncomputable def m13 (a0:T27) (a1:T41) (a2:Int):Option (T41×(List (List UInt8))×Int):=(d13 a0 a1 a2).m
theorem p13 {a0:T27} {a1:T41} {a2:Int} {r:T41×(List (List UInt8))×Int} (h:m13 a0 a1 a2=some r):PureAt Tryz.prog 13 [(e27 a0),(e41 a1),(.int .u16 a2)] (E13 r):=pure_jd (d13 a0 a1 a2) Tryz.func13 h
noncomputable def E15 (r:(List Int)×(List (List UInt8))×Int):D:=(.tup [(eSl 1 dI r.1),(eSl 1 D.str r.2.1),(dI r.2.2)])
noncomputable def o15_0 (x:(Int×(List (List UInt8))×Int×(List Int))):OT:=⟨(.tup [(.d (.agg [(dI x.2.2.1),(eSl 1 dI x.2.2.2)])),(.ap 1 x.2.1.length (cF D.str x.2.1) (.tok 96 9)),(aI x.1)]),[],[],[],[96]⟩
noncomputable def d15 (a0:T27) (a1:List Int):JF Tryz.prog Tryz.f15 [(e27 a0),(eSl 1 (D.int .u16) a1)] E15 :=
 (.sq 4 [(1,⟨(Int×(List (List UInt8))×Int×(List Int)),fun x=>[],fun x=>[(96,(o15_0 x))],[]⟩)] [(1,[4,5,6],[]),(0,[1,2,7,8,10],[16,176])] (fun(y1:(List (List UInt8))×(List Int)×Int×(List Int))=>⟨[(1,(.d (eSl 1 (D.int .u16) a1))),(2,(.ptr 16 0)),(7,(.ptr 176 0)),(8,(.ap 1 y1.1.length (cF D.str y1.1) (.tok 96 9))),(10,(.ap 1 y1.2.1.length (cF dI y1.2.1) (.tok 304 3)))],[(16,(.cells (g27 a0))),(176,(.cells [(aI y1.2.2.1),(.d (eSl 1 dI y1.2.2.2))]))],[96,304],336⟩) (c3 (p:=fun x1=>ObjL Tryz.prog 11 [(.d (e27 a0))] [] 96 (o15_0 x1)) (fun x1 (h1:m11o0 a0=some _)=>ok [] [] [] [(96,352)] (po11o0 h1)) fun x1=>(.ite (x1.1 != 0) (.ret .ret ⟨[(4,aN),(5,aN),(6,(aI x1.1))],[],[96],336⟩ (.inr (([],[],x1.1))) ⟨rfl,rfl,_,Weak.refl _,⟨de_nil,de_nil,dr,trivial⟩⟩) (.ret .normal ⟨[(1,(.d (eSl 1 (D.int .u16) a1))),(2,(.ptr 16 0)),(7,(.ptr 176 0)),(8,(.ap 1 x1.2.1.length (cF D.str x1.2.1) (.tok 96 9))),(10,(.ap 1 1 (litF [(dI x1.2.2.1)]) (.tok 304 3)))],[(16,(.cells (g27 a0))),(176,(.cells [(aI x1.2.2.1),(.d (eSl 1 dI x1.2.2.2))]))],[304,96],336⟩ (.inl (x1.2.1,([x1.2.2.1]:List Int),x1.2.2.1,x1.2.2.2)) ⟨rfl,(wh (idn [16,176]) (idn [96,304]) ⟨dr,⟨rfl,rfl⟩,⟨rfl,rfl⟩,⟨rfl,rfl,rfl,dr⟩,⟨rfl,rfl,rfl,(de_lit rfl rfl)⟩⟩)⟩))) (fun y1=>(.sc (fun(y3:(List (List UInt8))×(List Int))=>⟨[(8,(.ap 1 y3.1.length (cF D.str y3.1) (.tok 96 9))),(10,(.ap 1 y3.2.length (cF dI y3.2) (.tok 304 3)))],[],[96,304],880⟩) (.sq 1 [] [(0,[2,7,8,10,26,27,28],[16,176])] (fun(_:Unit)=>⟨[(2,(.ptr 16 0)),(7,(.ptr 176 0)),(8,(.ap 1 y1.1.length (cF D.str y1.1) (.tok 96 9))),(10,(.ap 1 y1.2.1.length (cF dI y1.2.1) (.tok 304 3))),(26,(.d (eSl 1 (D.int .u16) a1))),(27,(aI (a1.length:Int))),(28,(aI 0))],[(16,(.cells (g27 a0))),(176,(.cells [(aI y1.2.2.1),(.d (eSl 1 dI y1.2.2.2))]))],[96,304],384⟩) (.nx ()) (fun _=>(.bk (.lp (fun(s2:(List (List UInt8))×(List Int)×Int×Int×(List Int))=>⟨[(2,(.ptr 16 0)),(7,(.ptr 176 0)),(8,(.ap 1 s2.1.length (cF D.str s2.1) (.tok 96 9))),(10,(.ap 1 s2.2.1.length (cF dI s2.2.1) (.tok 304 3))),(26,(.d (eSl 1 (D.int .u16) a1))),(27,(aI (a1.length:Int))),(28,(aI s2.2.2.1))],[(16,(.cells (g27 a0))),(176,(.cells [(aI s2.2.2.2.1),(.d (eSl 1 dI s2.2.2.2.2))]))],[96,304],864⟩) (y1.1,y1.2.1,(0:Int),y1.2.2.1,y1.2.2.2) (wk (idn [16,176]) (idn [96,304])) fun s2=>(.sg [(9,tm1 36 (fun(x:(T41×(List (List UInt8))×Int))=>(.tup [(e41 x.1),(eSl 1 D.str x.2.1),(dI x.2.2)])))] [(1,[4,5,6],[]),(0,[2,7,8,10,26,27,28],[16,176]),(2,[8,10],[])] (.ite (decide (s2.2.2.1 < (a1.length:Int))) (nd (0≤s2.2.2.1) (nd (s2.2.2.1 < (a1.length:Int)) (c3 (@p13 a0 (⟨s2.2.2.2.1,s2.2.2.2.2⟩:T41) (a1.getD s2.2.2.1.toNat default)) fun x9=>(.ite (x9.2.2 != 0) (.ret .ret ⟨[(4,aN),(5,aN),(6,(aI x9.2.2))],[],[96,304],1216⟩ (.inr (.inr (([],[],x9.2.2)))) ⟨rfl,rfl,rfl,_,Weak.refl _,⟨de_nil,de_nil,dr,trivial⟩⟩) (nd ((s2.2.1.length+1) * 8≤140737488355328) (nd ((s2.1.length+x9.2.1.length) * 16≤140737488355328) (.ret .normal ⟨[(2,(.ptr 16 0)),(7,(.ptr 176 0)),(8,(.ap 1 (s2.1.length+x9.2.1.length) (appF s2.1.length (cF D.str s2.1) (cF D.str x9.2.1)) (.tok 1280 9))),(10,(.ap 1 (s2.2.1.length+1) (appF s2.2.1.length (cF dI s2.2.1) (litF [(dI x9.1.Leaf)])) (.tok 1216 3))),(26,(.d (eSl 1 (D.int .u16) a1))),(27,(aI (a1.length:Int))),(28,(aI (IntKind.wrap .i64 (s2.2.2.1+1))))],[(16,(.cells (g27 a0))),(176,(.cells (g41 x9.1)))],[1280,1216,1200],1344⟩ (.inl ((s2.1++x9.2.1),(s2.2.1++([x9.1.Leaf]:List Int)),(IntKind.wrap .i64 (s2.2.2.1+1)),x9.1.Leaf,x9.1.Memory)) ⟨rfl,(wh (idn [16,176]) [(96,1280),(304,1216)] ⟨⟨rfl,rfl⟩,⟨rfl,rfl⟩,⟨rfl,rfl,rfl,(de_app dr dr)⟩,⟨rfl,rfl,rfl,(de_app dr (de_lit rfl rfl))⟩,dr,dr,dr⟩)⟩))))))) (.ret (.exit 0) _ (.inr (.inl (s2.1,s2.2.1))) ⟨rfl,rfl,Weak.refl _⟩))))))) fun y3=>(.sg [] [(1,[4,5,6],[])] (.ret .ret ⟨[(4,(.ap 1 y3.2.length (cF dI y3.2) (.tok 304 3))),(5,(.ap 1 y3.1.length (cF D.str y3.1) (.tok 96 9))),(6,(aI 0))],[],[96,304],960⟩ (y3.2,y3.1,(0:Int)) ⟨rfl,_,Weak.refl _,⟨dr,dr,dr,trivial⟩⟩)))))
noncomputable def m15 (a0:T27) (a1:List Int):Option ((List Int)×(List (List UInt8))×Int):=(d15 a0 a1).m
theorem p15 {a0:T27} {a1:List Int} {r:(List Int)×(List (List UInt8))×Int} (h:m15 a0 a1=some r):PureAt Tryz.prog 15 [(e27 a0),(eSl 1 (D.int .u16) a1)] (E15 r):=pure_jd (d15 a0 a1) Tryz.func15 h
noncomputable def d25 (a0:T27) (a1:Int):JF Tryz.prog Tryz.f25 [(e27 a0),(dI a1)] (fun(r:(List UInt8))=>(.str r)) :=
 (.sg [] [(1,[4],[])] (.ite (decide (a1 < 0)) (.ret .ret ⟨[(4,(aS ([45]:List UInt8)))],[],[],96⟩ ([45]:List UInt8) ⟨rfl,_,Weak.refl _,dr⟩) (nd (0≤a1) (nd (a1 < (a0.States.length:Int)) (.ret .ret ⟨[(4,(aS (a0.States.getD a1.toNat default).Name))],[],[],192⟩ (a0.States.getD a1.toNat default).Name ⟨rfl,_,Weak.refl _,dr⟩)))))
noncomputable def m25 (a0:T27) (a1:Int):Option ((List UInt8)):=(d25 a0 a1).m
theorem p25 {a0:T27} {a1:Int} {r:(List UInt8)} (h:m25 a0 a1=some r):PureAt Tryz.prog 25 [(e27 a0),(dI a1)] (.str r):=pure_jd (d25 a0 a1) Tryz.func25 h
noncomputable def q22o0 (a0:List UInt8) (y:Unit):OF:=⟨(.tup [(aI (a0.length:Int)),.any]),[(176,(.vec 5 1 (bytesI a0).length (cF (D.int .u8) (bytesI a0)))),(0,(.cells [(.ptr 0 0),(.vec 176 1 (bytesI a0).length)]))],[]⟩
noncomputable def d22o0 (a0:List UInt8):JO Tryz.prog Tryz.f22 [(.ptr 0 0),(aS a0)] [(0,(.bld0 63))] [] (q22o0 a0) :=
 (.sg [(1,⟨Unit,fun x=>[],fun x=>[(64,⟨(.tup []),[0],[],[(0,(.cells [(.ptr 0 0),aN]))],[]⟩)],[]⟩),(2,⟨Unit,fun x=>[],fun x=>[],[177]⟩)] [(1,[0,4,5],[0,176])] (c3 (p:=fun x1=>ObjL Tryz.prog 55 [(.ptr 0 0)] [(0,some (.bld0 63))] 64 ⟨(.tup []),[0],[],[(0,(.cells [(.ptr 0 0),aN]))],[]⟩) (fun x1 (h1:mcc0=some _)=>ok [(0,0)] [] [(0,0)] [] (pocc0 h1)) fun x1=>(.exi (Unit) (if a0.length≤140737488355328 then some ()else none) (fun x2=>(.p (a0.length≤140737488355328) (.fin 0))) (by intro x2 h;obtain⟨h1,h⟩:=if_some h;cases h;exact⟨h1,trivial⟩) (fun x2 _=>(.ret .ret ⟨[(0,(.ptr 0 0)),(4,(aI (a0.length:Int))),(5,.any)],[(0,(.cells [(.ptr 0 0),(.vec 176 1 a0.length)])),(176,(.vec 5 1 a0.length (bytesF a0)))],[],304⟩ () ⟨rfl,(retO_of [(0,0),(176,176)] [] 304 rfl (by kernel_rfl) (by kernel_rfl) ⟨dr,trivial,trivial⟩ ⟨⟨_,_,rfl,rfl,⟨rfl,rfl,de_bytes⟩⟩,⟨_,_,rfl,rfl,⟨⟨rfl,rfl⟩,⟨rfl,rfl,(len_of (sz:=1) (e:=(D.int .u8)) (f:=(bytesF a0)) (l:=(bytesI a0)) de_bytes)⟩,trivial⟩⟩⟩)⟩)))))
noncomputable def m22o0 (a0:List UInt8):Option (Unit):=(d22o0 a0).m
theorem po22o0 {a0:List UInt8} {r:Unit} (h:m22o0 a0=some r):ObjF Tryz.prog 22 [(.ptr 0 0),(aS a0)] [(0,(.bld0 63))] [] (q22o0 a0 r):=obj_jd (d22o0 a0) Tryz.func22 h
noncomputable def q22o1 (a0:List UInt8) (a1:List Int) (y:Unit):OF:=⟨(.tup [(aI (a0.length:Int)),.any]),[(1,.gone),(176,(.vec 5 1 (a1++bytesI a0).length (cF (D.int .u8) (a1++bytesI a0)))),(0,(.cells [(.ptr 0 0),(.vec 176 1 (a1++bytesI a0).length)]))],[]⟩
noncomputable def o22o1_0 (a1:List Int) (x:Unit):OT:=⟨(.tup []),[0,1],[],[(1,(.vec 5 1 a1.length (cF (D.int .u8) a1))),(0,(.cells [(.ptr 0 0),(.vec 1 1 a1.length)]))],[]⟩
noncomputable def d22o1 (a0:List UInt8) (a1:List Int):JO Tryz.prog Tryz.f22 [(.ptr 0 0),(aS a0)] [(1,(.vec 5 1 a1.length (cF (D.int .u8) a1))),(0,(.cells [(.ptr 0 0),(.vec 1 1 a1.length)]))] [] (q22o1 a0 a1) :=
 (.sg [(1,⟨Unit,fun x=>[],fun x=>[(64,(o22o1_0 a1 x))],[]⟩),(2,⟨Unit,fun x=>[],fun x=>[],[177]⟩)] [(1,[0,4,5],[0,176])] (c3 (p:=fun x1=>ObjL Tryz.prog 55 [(.ptr 0 0)] [(0,some (.cells [(.ptr 0 0),(.vec 1 1 a1.length)])),(1,some (.vec 5 1 a1.length (cF (D.int .u8) a1)))] 64 (o22o1_0 a1 x1)) (fun x1 (h1:mcc1 a1=some _)=>ok (idn [0,1]) [] (idn [0,1]) [] (pocc1 h1)) fun x1=>(.exi (Unit) (if a1.length+a0.length≤140737488355328 then some ()else none) (fun x2=>(.p (a1.length+a0.length≤140737488355328) (.fin 0))) (by intro x2 h;obtain⟨h1,h⟩:=if_some h;cases h;exact⟨h1,trivial⟩) (fun x2 _=>(.ret .ret ⟨[(0,(.ptr 0 0)),(4,(aI (a0.length:Int))),(5,.any)],[(0,(.cells [(.ptr 0 0),(.vec 176 1 (a1.length+a0.length))])),(176,(.vec 5 1 (a1.length+a0.length) (appF a1.length (cF (D.int .u8) a1) (bytesF a0))))],[],304⟩ () ⟨rfl,(retO_gone [1] (retO_of [(0,0),(176,176)] [] 304 rfl (by kernel_rfl) (by kernel_rfl) ⟨dr,trivial,trivial⟩ ⟨⟨_,_,rfl,rfl,⟨rfl,rfl,(de_app dr de_bytes)⟩⟩,⟨_,_,rfl,rfl,⟨⟨rfl,rfl⟩,⟨rfl,rfl,(len_of (sz:=1) (e:=(D.int .u8)) (f:=(appF a1.length (cF (D.int .u8) a1) (bytesF a0))) (l:=(a1++bytesI a0)) (de_app dr de_bytes))⟩,trivial⟩⟩⟩))⟩)))))
noncomputable def m22o1 (a0:List UInt8) (a1:List Int):Option (Unit):=(d22o1 a0 a1).m
theorem po22o1 {a0:List UInt8} {a1:List Int} {r:Unit} (h:m22o1 a0 a1=some r):ObjF Tryz.prog 22 [(.ptr 0 0),(aS a0)] [(1,(.vec 5 1 a1.length (cF (D.int .u8) a1))),(0,(.cells [(.ptr 0 0),(.vec 1 1 a1.length)]))] [] (q22o1 a0 a1 r):=obj_jd (d22o1 a0 a1) Tryz.func22 h
noncomputable def q23o0 (a0:Int) (a1:List Int) (y:Unit):OF:=⟨.any,[(1,.gone),(176,(.vec 5 1 (a1++([a0]:List Int)).length (cF (D.int .u8) (a1++([a0]:List Int))))),(0,(.cells [(.ptr 0 0),(.vec 176 1 (a1++([a0]:List Int)).length)]))],[]⟩
noncomputable def o23o0_0 (a1:List Int) (x:Unit):OT:=⟨(.tup []),[0,1],[],[(1,(.vec 5 1 a1.length (cF (D.int .u8) a1))),(0,(.cells [(.ptr 0 0),(.vec 1 1 a1.length)]))],[]⟩
noncomputable def d23o0 (a0:Int) (a1:List Int):JO Tryz.prog Tryz.f23 [(.ptr 0 0),(.d (.int .u8 a0))] [(1,(.vec 5 1 a1.length (cF (D.int .u8) a1))),(0,(.cells [(.ptr 0 0),(.vec 1 1 a1.length)]))] [] (q23o0 a0 a1) :=
 (.sg [(1,⟨Unit,fun x=>[],fun x=>[(48,(o23o0_0 a1 x))],[]⟩),(2,⟨Unit,fun x=>[],fun x=>[],[177]⟩)] [(1,[0,4],[0,176])] (c3 (p:=fun x1=>ObjL Tryz.prog 55 [(.ptr 0 0)] [(0,some (.cells [(.ptr 0 0),(.vec 1 1 a1.length)])),(1,some (.vec 5 1 a1.length (cF (D.int .u8) a1)))] 48 (o23o0_0 a1 x1)) (fun x1 (h1:mcc1 a1=some _)=>ok (idn [0,1]) [] (idn [0,1]) [] (pocc1 h1)) fun x1=>(.exi (Unit) (if(a1.length+1) * 1≤140737488355328 then some ()else none) (fun x2=>(.p ((a1.length+1) * 1≤140737488355328) (.fin 0))) (by intro x2 h;obtain⟨h1,h⟩:=if_some h;cases h;exact⟨h1,trivial⟩) (fun x2 _=>(.ret .ret ⟨[(0,(.ptr 0 0)),(4,.any)],[(0,(.cells [(.ptr 0 0),(.vec 176 1 (a1.length+1))])),(176,(.vec 5 1 (a1.length+1) (appF a1.length (cF (D.int .u8) a1) (litF [(.int .u8 a0)]))))],[160],256⟩ () ⟨rfl,(retO_gone [1] (retO_of [(0,0),(176,176)] [] 256 rfl (by kernel_rfl) (by kernel_rfl) trivial ⟨⟨_,_,rfl,rfl,⟨rfl,rfl,(de_app dr (de_lit rfl rfl))⟩⟩,⟨_,_,rfl,rfl,⟨⟨rfl,rfl⟩,⟨rfl,rfl,(len_of (sz:=1) (e:=(D.int .u8)) (f:=(appF a1.length (cF (D.int .u8) a1) (litF [(.int .u8 a0)]))) (l:=(a1++([a0]:List Int))) (de_app dr (de_lit rfl rfl)))⟩,trivial⟩⟩⟩))⟩)))))
noncomputable def m23o0 (a0:Int) (a1:List Int):Option (Unit):=(d23o0 a0 a1).m
theorem po23o0 {a0:Int} {a1:List Int} {r:Unit} (h:m23o0 a0 a1=some r):ObjF Tryz.prog 23 [(.ptr 0 0),(.d (.int .u8 a0))] [(1,(.vec 5 1 a1.length (cF (D.int .u8) a1))),(0,(.cells [(.ptr 0 0),(.vec 1 1 a1.length)]))] [] (q23o0 a0 a1 r):=obj_jd (d23o0 a0 a1) Tryz.func23 h
noncomputable abbrev z21o0_0 (a1:List (List UInt8)):AV:=(.ap 1 a1.length (cF D.str a1) (.tok 0 9))
noncomputable def q21o0 (a0:List UInt8) (a1:List (List UInt8)) (y:(List Int)):OF:=⟨(.tup []),[(256,(.vec 5 1 y.length (cF (D.int .u8) y))),(0,(.cells [(.ptr 0 0),(.vec 256 1 y.length)]))],[0]⟩
noncomputable def o21o0_0 (a0:List UInt8) (x:Unit):OT:=⟨(.tup [(aI (a0.length:Int)),.any]),[0],[],[(32,(.vec 5 1 (bytesI a0).length (cF (D.int .u8) (bytesI a0)))),(0,(.cells [(.ptr 0 0),(.vec 32 1 (bytesI a0).length)]))],[]⟩
noncomputable def o21o0_1 (a1:List (List UInt8)) (s1:Int×(List Int)) (x:Unit):OT:=⟨(.tup [(aI ((([32]:List UInt8)++(a1.getD s1.1.toNat default)).length:Int)),.any]),[0,32],[],[(32,.gone),(336,(.vec 5 1 (s1.2++bytesI (([32]:List UInt8)++(a1.getD s1.1.toNat default))).length (cF (D.int .u8) (s1.2++bytesI (([32]:List UInt8)++(a1.getD s1.1.toNat default)))))),(0,(.cells [(.ptr 0 0),(.vec 336 1 (s1.2++bytesI (([32]:List UInt8)++(a1.getD s1.1.toNat default))).length)]))],[]⟩
noncomputable def o21o0_2 (y2:(List Int)) (x:Unit):OT:=⟨.any,[0,32],[],[(32,.gone),(256,(.vec 5 1 (y2++([(10:Int)]:List Int)).length (cF (D.int .u8) (y2++([(10:Int)]:List Int))))),(0,(.cells [(.ptr 0 0),(.vec 256 1 (y2++([(10:Int)]:List Int)).length)]))],[]⟩
noncomputable def d21o0 (a0:List UInt8) (a1:List (List UInt8)):JO Tryz.prog Tryz.f21 [(aS a0),(z21o0_0 a1),(.ptr 0 0)] [(0,(.bld0 63))] [0] (q21o0 a0 a1) :=
 (.sq 1 [(0,⟨Unit,fun x=>[],fun x=>[(32,(o21o0_0 a0 x))],[]⟩)] [(0,[1,2],[32,0])] (fun(_:Unit)=>⟨[(1,(z21o0_0 a1)),(2,(.ptr 0 0))],[(32,(.vec 5 1 (bytesI a0).length (cF (D.int .u8) (bytesI a0)))),(0,(.cells [(.ptr 0 0),(.vec 32 1 (bytesI a0).length)]))],[0],48⟩) (c3 (p:=fun x0=>ObjL Tryz.prog 22 [(.ptr 0 0),(aS a0)] [(0,some (.bld0 63))] 32 (o21o0_0 a0 x0)) (fun x0 (h1:m22o0 a0=some _)=>ok [(0,0)] [] [(0,0),(32,176)] [] (po22o0 h1)) fun x0=>(.nx ())) (fun _=>(.sc (fun(y2:(List Int))=>⟨[(1,(z21o0_0 a1)),(2,(.ptr 0 0))],[(32,(.vec 5 1 y2.length (cF (D.int .u8) y2))),(0,(.cells [(.ptr 0 0),(.vec 32 1 y2.length)]))],[0],256⟩) (.sq 1 [] [(0,[1,2,9,10,11],[32,0])] (fun(_:Unit)=>⟨[(1,(z21o0_0 a1)),(2,(.ptr 0 0)),(9,(z21o0_0 a1)),(10,(aI (a1.length:Int))),(11,(aI 0))],[(32,(.vec 5 1 (bytesI a0).length (cF (D.int .u8) (bytesI a0)))),(0,(.cells [(.ptr 0 0),(.vec 32 1 (bytesI a0).length)]))],[0],96⟩) (.nx ()) (fun _=>(.bk (.lp (fun(s1:Int×(List Int))=>⟨[(1,(z21o0_0 a1)),(2,(.ptr 0 0)),(9,(z21o0_0 a1)),(10,(aI (a1.length:Int))),(11,(aI s1.1))],[(32,(.vec 5 1 s1.2.length (cF (D.int .u8) s1.2))),(0,(.cells [(.ptr 0 0),(.vec 32 1 s1.2.length)]))],[0],240⟩) ((0:Int),(bytesI a0)) (wk (idn [0,32]) [(0,0)]) fun s1=>(.sg [(4,⟨Unit,fun x=>[],fun x=>[(336,(o21o0_1 a1 s1 x))],[]⟩)] [(0,[1,2,9,10,11],[0,336]),(2,[1,2],[32,0])] (.ite (decide (s1.1 < (a1.length:Int))) (nd (0≤s1.1) (nd (s1.1 < (a1.length:Int)) (.exi (Unit) (if([32]:List UInt8).length+(a1.getD s1.1.toNat default).length≤9223372036854775807 then((m22o1 (([32]:List UInt8)++(a1.getD s1.1.toNat default)) s1.2).bind fun r4_0=>some r4_0)else none) (fun x4=>(.p (([32]:List UInt8).length+(a1.getD s1.1.toNat default).length≤9223372036854775807) (.p (ObjL Tryz.prog 22 [(.ptr 0 0),(aS (([32]:List UInt8)++(a1.getD s1.1.toNat default)))] [(0,some (.cells [(.ptr 0 0),(.vec 32 1 s1.2.length)])),(32,some (.vec 5 1 s1.2.length (cF (D.int .u8) s1.2)))] 336 (o21o0_1 a1 s1 x4)) (.fin 0)))) (by intro x4 h;obtain⟨h1,h⟩:=if_some h;obtain⟨r4_0,h2,h⟩:=Option.bind_eq_some_iff.1 h;cases h;exact⟨h1,ok [(0,0),(1,32)] [] [(0,0),(32,1),(336,176)] [] (po22o1 h2),trivial⟩) (fun x4 _=>(.ret .normal ⟨[(1,(z21o0_0 a1)),(2,(.ptr 0 0)),(9,(z21o0_0 a1)),(10,(aI (a1.length:Int))),(11,(aI (IntKind.wrap .i64 (s1.1+1))))],[(0,(.cells [(.ptr 0 0),(.vec 336 1 (s1.2++bytesI (([32]:List UInt8)++(a1.getD s1.1.toNat default))).length)])),(336,(.vec 5 1 (s1.2++bytesI (([32]:List UInt8)++(a1.getD s1.1.toNat default))).length (cF (D.int .u8) (s1.2++bytesI (([32]:List UInt8)++(a1.getD s1.1.toNat default))))))],[0],384⟩ (.inl ((IntKind.wrap .i64 (s1.1+1)),(s1.2++bytesI (([32]:List UInt8)++(a1.getD s1.1.toNat default))))) ⟨rfl,(wk [(0,0),(32,336)] [(0,0)])⟩))))) (.ret (.exit 0) _ (.inr (.inl s1.2)) ⟨rfl,rfl,Weak.refl _⟩))))))) fun y2=>(.sg [(6,⟨Unit,fun x=>[],fun x=>[(256,(o21o0_2 y2 x))],[]⟩)] [(0,[1,2],[0,256])] (c3 (p:=fun x6=>ObjL Tryz.prog 23 [(.ptr 0 0),(.d (.int .u8 10))] [(0,some (.cells [(.ptr 0 0),(.vec 32 1 y2.length)])),(32,some (.vec 5 1 y2.length (cF (D.int .u8) y2)))] 256 (o21o0_2 y2 x6)) (fun x6 (h1:m23o0 (10:Int) y2=some _)=>ok [(0,0),(1,32)] [] [(0,0),(32,1),(256,176)] [] (po23o0 h1)) fun x6=>(.ret .normal ⟨[(1,(z21o0_0 a1)),(2,(.ptr 0 0))],[(0,(.cells [(.ptr 0 0),(.vec 256 1 (y2++([(10:Int)]:List Int)).length)])),(256,(.vec 5 1 (y2++([(10:Int)]:List Int)).length (cF (D.int .u8) (y2++([(10:Int)]:List Int)))))],[0],272⟩ (y2++([(10:Int)]:List Int)) ⟨rfl,(rk (idn [0,256]) [(0,0)] 272)⟩))))))
noncomputable def m21o0 (a0:List UInt8) (a1:List (List UInt8)):Option ((List Int)):=(d21o0 a0 a1).m
theorem po21o0 {a0:List UInt8} {a1:List (List UInt8)} {r:(List Int)} (h:m21o0 a0 a1=some r):ObjF Tryz.prog 21 [(aS a0),(z21o0_0 a1),(.ptr 0 0)] [(0,(.bld0 63))] [0] (q21o0 a0 a1 r):=obj_jd (d21o0 a0 a1) Tryz.func21 h
noncomputable abbrev z21o1_0 (a1:List (List UInt8)):AV:=(.ap 1 a1.length (cF D.str a1) (.tok 0 9))
noncomputable def q21o1 (a0:List UInt8) (a1:List (List UInt8)) (a2:List Int) (y:(List Int)):OF:=⟨(.tup []),[(1,.gone),(256,(.vec 5 1 y.length (cF (D.int .u8) y))),(0,(.cells [(.ptr 0 0),(.vec 256 1 y.length)]))],[0]⟩
noncomputable def o21o1_0 (a0:List UInt8) (a2:List Int) (x:Unit):OT:=⟨(.tup [(aI (a0.length:Int)),.any]),[0,1],[],[(1,.gone),(32,(.vec 5 1 (a2++bytesI a0).length (cF (D.int .u8) (a2++bytesI a0)))),(0,(.cells [(.ptr 0 0),(.vec 32 1 (a2++bytesI a0).length)]))],[]⟩
noncomputable def o21o1_1 (a1:List (List UInt8)) (s1:Int×(List Int)) (x:Unit):OT:=⟨(.tup [(aI ((([32]:List UInt8)++(a1.getD s1.1.toNat default)).length:Int)),.any]),[0,32],[],[(32,.gone),(336,(.vec 5 1 (s1.2++bytesI (([32]:List UInt8)++(a1.getD s1.1.toNat default))).length (cF (D.int .u8) (s1.2++bytesI (([32]:List UInt8)++(a1.getD s1.1.toNat default)))))),(0,(.cells [(.ptr 0 0),(.vec 336 1 (s1.2++bytesI (([32]:List UInt8)++(a1.getD s1.1.toNat default))).length)]))],[]⟩
noncomputable def o21o1_2 (y2:(List Int)) (x:Unit):OT:=⟨.any,[0,32],[],[(32,.gone),(256,(.vec 5 1 (y2++([(10:Int)]:List Int)).length (cF (D.int .u8) (y2++([(10:Int)]:List Int))))),(0,(.cells [(.ptr 0 0),(.vec 256 1 (y2++([(10:Int)]:List Int)).length)]))],[]⟩
noncomputable def d21o1 (a0:List UInt8) (a1:List (List UInt8)) (a2:List Int):JO Tryz.prog Tryz.f21 [(aS a0),(z21o1_0 a1),(.ptr 0 0)] [(1,(.vec 5 1 a2.length (cF (D.int .u8) a2))),(0,(.cells [(.ptr 0 0),(.vec 1 1 a2.length)]))] [0] (q21o1 a0 a1 a2) :=
 (.sq 1 [(0,⟨Unit,fun x=>[],fun x=>[(32,(o21o1_0 a0 a2 x))],[]⟩)] [(0,[1,2],[32,0])] (fun(_:Unit)=>⟨[(1,(z21o1_0 a1)),(2,(.ptr 0 0))],[(32,(.vec 5 1 (a2++bytesI a0).length (cF (D.int .u8) (a2++bytesI a0)))),(0,(.cells [(.ptr 0 0),(.vec 32 1 (a2++bytesI a0).length)]))],[0],48⟩) (c3 (p:=fun x0=>ObjL Tryz.prog 22 [(.ptr 0 0),(aS a0)] [(0,some (.cells [(.ptr 0 0),(.vec 1 1 a2.length)])),(1,some (.vec 5 1 a2.length (cF (D.int .u8) a2)))] 32 (o21o1_0 a0 a2 x0)) (fun x0 (h1:m22o1 a0 a2=some _)=>ok (idn [0,1]) [] [(0,0),(1,1),(32,176)] [] (po22o1 h1)) fun x0=>(.nx ())) (fun _=>(.sc (fun(y2:(List Int))=>⟨[(1,(z21o1_0 a1)),(2,(.ptr 0 0))],[(32,(.vec 5 1 y2.length (cF (D.int .u8) y2))),(0,(.cells [(.ptr 0 0),(.vec 32 1 y2.length)]))],[0],256⟩) (.sq 1 [] [(0,[1,2,9,10,11],[32,0])] (fun(_:Unit)=>⟨[(1,(z21o1_0 a1)),(2,(.ptr 0 0)),(9,(z21o1_0 a1)),(10,(aI (a1.length:Int))),(11,(aI 0))],[(32,(.vec 5 1 (a2++bytesI a0).length (cF (D.int .u8) (a2++bytesI a0)))),(0,(.cells [(.ptr 0 0),(.vec 32 1 (a2++bytesI a0).length)]))],[0],96⟩) (.nx ()) (fun _=>(.bk (.lp (fun(s1:Int×(List Int))=>⟨[(1,(z21o1_0 a1)),(2,(.ptr 0 0)),(9,(z21o1_0 a1)),(10,(aI (a1.length:Int))),(11,(aI s1.1))],[(32,(.vec 5 1 s1.2.length (cF (D.int .u8) s1.2))),(0,(.cells [(.ptr 0 0),(.vec 32 1 s1.2.length)]))],[0],240⟩) ((0:Int),(a2++bytesI a0)) (wk (idn [0,32]) [(0,0)]) fun s1=>(.sg [(4,⟨Unit,fun x=>[],fun x=>[(336,(o21o1_1 a1 s1 x))],[]⟩)] [(0,[1,2,9,10,11],[0,336]),(2,[1,2],[32,0])] (.ite (decide (s1.1 < (a1.length:Int))) (nd (0≤s1.1) (nd (s1.1 < (a1.length:Int)) (.exi (Unit) (if([32]:List UInt8).length+(a1.getD s1.1.toNat default).length≤9223372036854775807 then((m22o1 (([32]:List UInt8)++(a1.getD s1.1.toNat default)) s1.2).bind fun r4_0=>some r4_0)else none) (fun x4=>(.p (([32]:List UInt8).length+(a1.getD s1.1.toNat default).length≤9223372036854775807) (.p (ObjL Tryz.prog 22 [(.ptr 0 0),(aS (([32]:List UInt8)++(a1.getD s1.1.toNat default)))] [(0,some (.cells [(.ptr 0 0),(.vec 32 1 s1.2.length)])),(32,some (.vec 5 1 s1.2.length (cF (D.int .u8) s1.2)))] 336 (o21o1_1 a1 s1 x4)) (.fin 0)))) (by intro x4 h;obtain⟨h1,h⟩:=if_some h;obtain⟨r4_0,h2,h⟩:=Option.bind_eq_some_iff.1 h;cases h;exact⟨h1,ok [(0,0),(1,32)] [] [(0,0),(32,1),(336,176)] [] (po22o1 h2),trivial⟩) (fun x4 _=>(.ret .normal ⟨[(1,(z21o1_0 a1)),(2,(.ptr 0 0)),(9,(z21o1_0 a1)),(10,(aI (a1.length:Int))),(11,(aI (IntKind.wrap .i64 (s1.1+1))))],[(0,(.cells [(.ptr 0 0),(.vec 336 1 (s1.2++bytesI (([32]:List UInt8)++(a1.getD s1.1.toNat default))).length)])),(336,(.vec 5 1 (s1.2++bytesI (([32]:List UInt8)++(a1.getD s1.1.toNat default))).length (cF (D.int .u8) (s1.2++bytesI (([32]:List UInt8)++(a1.getD s1.1.toNat default))))))],[0],384⟩ (.inl ((IntKind.wrap .i64 (s1.1+1)),(s1.2++bytesI (([32]:List UInt8)++(a1.getD s1.1.toNat default))))) ⟨rfl,(wk [(0,0),(32,336)] [(0,0)])⟩))))) (.ret (.exit 0) _ (.inr (.inl s1.2)) ⟨rfl,rfl,Weak.refl _⟩))))))) fun y2=>(.sg [(6,⟨Unit,fun x=>[],fun x=>[(256,(o21o1_2 y2 x))],[]⟩)] [(0,[1,2],[0,256])] (c3 (p:=fun x6=>ObjL Tryz.prog 23 [(.ptr 0 0),(.d (.int .u8 10))] [(0,some (.cells [(.ptr 0 0),(.vec 32 1 y2.length)])),(32,some (.vec 5 1 y2.length (cF (D.int .u8) y2)))] 256 (o21o1_2 y2 x6)) (fun x6 (h1:m23o0 (10:Int) y2=some _)=>ok [(0,0),(1,32)] [] [(0,0),(32,1),(256,176)] [] (po23o0 h1)) fun x6=>(.ret .normal ⟨[(1,(z21o1_0 a1)),(2,(.ptr 0 0))],[(0,(.cells [(.ptr 0 0),(.vec 256 1 (y2++([(10:Int)]:List Int)).length)])),(256,(.vec 5 1 (y2++([(10:Int)]:List Int)).length (cF (D.int .u8) (y2++([(10:Int)]:List Int)))))],[0],272⟩ (y2++([(10:Int)]:List Int)) ⟨rfl,(retO_gone [1] (rk (idn [0,256]) [(0,0)] 272))⟩))))))
noncomputable def m21o1 (a0:List UInt8) (a1:List (List UInt8)) (a2:List Int):Option ((List Int)):=(d21o1 a0 a1 a2).m
theorem po21o1 {a0:List UInt8} {a1:List (List UInt8)} {a2:List Int} {r:(List Int)} (h:m21o1 a0 a1 a2=some r):ObjF Tryz.prog 21 [(aS a0),(z21o1_0 a1),(.ptr 0 0)] [(1,(.vec 5 1 a2.length (cF (D.int .u8) a2))),(0,(.cells [(.ptr 0 0),(.vec 1 1 a2.length)]))] [0] (q21o1 a0 a1 a2 r):=obj_jd (d21o1 a0 a1 a2) Tryz.func21 h
noncomputable def d26 (a0:T27) (a1:List T118):JF Tryz.prog Tryz.f26 [(e27 a0),(eSl 2 e118 a1)] (fun(r:(List (List UInt8)))=>(eSl 1 D.str r)) :=
 (.sq 2 [] [(0,[1,2,5],[16])] (fun(_:Unit)=>⟨[(1,(.d (eSl 2 e118 a1))),(2,(.ptr 16 0)),(5,aN)],[(16,(.cells (g27 a0)))],[],64⟩) (.nx ()) (fun _=>(.sc (fun(y2:(List (List UInt8)))=>⟨[(5,(.ap 1 y2.length (cF D.str y2) (.tok 432 9)))],[],[432],512⟩) (.sq 1 [] [(0,[2,5,9,10,11],[16])] (fun(_:Unit)=>⟨[(2,(.ptr 16 0)),(5,aN),(9,(.d (eSl 2 e118 a1))),(10,(aI (a1.length:Int))),(11,(aI 0))],[(16,(.cells (g27 a0)))],[],112⟩) (.nx ()) (fun _=>(.bk (.lp (fun(s1:(List (List UInt8))×Int)=>⟨[(2,(.ptr 16 0)),(5,(.ap 1 s1.1.length (cF D.str s1.1) (.tok 432 9))),(9,(.d (eSl 2 e118 a1))),(10,(aI (a1.length:Int))),(11,(aI s1.2))],[(16,(.cells (g27 a0)))],[432],496⟩) ([],(0:Int)) (wk [(16,16)] []) fun s1=>(.sg [] [(0,[2,5,9,10,11],[16]),(2,[5],[])] (.ite (decide (s1.2 < (a1.length:Int))) (nd (0≤s1.2) (nd (s1.2 < (a1.length:Int)) (nd (0≤(a1.getD s1.2.toNat default).Cond) (nd ((a1.getD s1.2.toNat default).Cond < (a0.Conds.length:Int)) (.ite (a1.getD s1.2.toNat default).Neg (nd (([33]:List UInt8).length+(a0.Conds.getD (a1.getD s1.2.toNat default).Cond.toNat default).length≤9223372036854775807) (nd ((s1.1.length+1) * 16≤140737488355328) (.ret .normal ⟨[(2,(.ptr 16 0)),(5,(.ap 1 (s1.1.length+1) (appF s1.1.length (cF D.str s1.1) (litF [(.str (([33]:List UInt8)++(a0.Conds.getD (a1.getD s1.2.toNat default).Cond.toNat default)))])) (.tok 816 9))),(9,(.d (eSl 2 e118 a1))),(10,(aI (a1.length:Int))),(11,(aI (IntKind.wrap .i64 (s1.2+1))))],[(16,(.cells (g27 a0)))],[816,800],880⟩ (.inl ((s1.1++([(([33]:List UInt8)++(a0.Conds.getD (a1.getD s1.2.toNat default).Cond.toNat default))]:List (List UInt8))),(IntKind.wrap .i64 (s1.2+1)))) ⟨rfl,(wh [(16,16)] [(432,816)] ⟨⟨rfl,rfl⟩,⟨rfl,rfl,rfl,(de_app dr (de_lit rfl rfl))⟩,dr,dr,dr⟩)⟩))) (nd ((s1.1.length+1) * 16≤140737488355328) (.ret .normal ⟨[(2,(.ptr 16 0)),(5,(.ap 1 (s1.1.length+1) (appF s1.1.length (cF D.str s1.1) (litF [(.str (a0.Conds.getD (a1.getD s1.2.toNat default).Cond.toNat default))])) (.tok 768 9))),(9,(.d (eSl 2 e118 a1))),(10,(aI (a1.length:Int))),(11,(aI (IntKind.wrap .i64 (s1.2+1))))],[(16,(.cells (g27 a0)))],[768,752],832⟩ (.inl ((s1.1++([(a0.Conds.getD (a1.getD s1.2.toNat default).Cond.toNat default)]:List (List UInt8))),(IntKind.wrap .i64 (s1.2+1)))) ⟨rfl,(wh [(16,16)] [(432,768)] ⟨⟨rfl,rfl⟩,⟨rfl,rfl,rfl,(de_app dr (de_lit rfl rfl))⟩,dr,dr,dr⟩)⟩))))))) (.ret (.exit 0) _ (.inr (.inl s1.1)) ⟨rfl,rfl,Weak.refl _⟩))))))) fun y2=>(.sg [] [(1,[4],[])] (.ret .ret ⟨[(4,(.ap 1 y2.length (cF D.str y2) (.tok 432 9)))],[],[432],544⟩ y2 ⟨rfl,_,Weak.refl _,dr⟩)))))
noncomputable def m26 (a0:T27) (a1:List T118):Option ((List (List UInt8))):=(d26 a0 a1).m
theorem p26 {a0:T27} {a1:List T118} {r:(List (List UInt8))} (h:m26 a0 a1=some r):PureAt Tryz.prog 26 [(e27 a0),(eSl 2 e118 a1)] (eSl 1 D.str r):=pure_jd (d26 a0 a1) Tryz.func26 h
noncomputable def q21o2 (a0:List UInt8) (a1:List (List UInt8)) (a2:List Int) (y:(List Int)):OF:=⟨(.tup []),[(1,.gone),(256,(.vec 5 1 y.length (cF (D.int .u8) y))),(0,(.cells [(.ptr 0 0),(.vec 256 1 y.length)]))],[]⟩
noncomputable def o21o2_0 (a0:List UInt8) (a2:List Int) (x:Unit):OT:=⟨(.tup [(aI (a0.length:Int)),.any]),[0,1],[],[(1,.gone),(32,(.vec 5 1 (a2++bytesI a0).length (cF (D.int .u8) (a2++bytesI a0)))),(0,(.cells [(.ptr 0 0),(.vec 32 1 (a2++bytesI a0).length)]))],[]⟩
noncomputable def o21o2_1 (a1:List (List UInt8)) (s1:Int×(List Int)) (x:Unit):OT:=⟨(.tup [(aI ((([32]:List UInt8)++(a1.getD s1.1.toNat default)).length:Int)),.any]),[0,32],[],[(32,.gone),(336,(.vec 5 1 (s1.2++bytesI (([32]:List UInt8)++(a1.getD s1.1.toNat default))).length (cF (D.int .u8) (s1.2++bytesI (([32]:List UInt8)++(a1.getD s1.1.toNat default)))))),(0,(.cells [(.ptr 0 0),(.vec 336 1 (s1.2++bytesI (([32]:List UInt8)++(a1.getD s1.1.toNat default))).length)]))],[]⟩
noncomputable def o21o2_2 (y2:(List Int)) (x:Unit):OT:=⟨.any,[0,32],[],[(32,.gone),(256,(.vec 5 1 (y2++([(10:Int)]:List Int)).length (cF (D.int .u8) (y2++([(10:Int)]:List Int))))),(0,(.cells [(.ptr 0 0),(.vec 256 1 (y2++([(10:Int)]:List Int)).length)]))],[]⟩
noncomputable def d21o2 (a0:List UInt8) (a1:List (List UInt8)) (a2:List Int):JO Tryz.prog Tryz.f21 [(aS a0),(.d (eSl 1 D.str a1)),(.ptr 0 0)] [(1,(.vec 5 1 a2.length (cF (D.int .u8) a2))),(0,(.cells [(.ptr 0 0),(.vec 1 1 a2.length)]))] [] (q21o2 a0 a1 a2) :=
 (.sq 1 [(0,⟨Unit,fun x=>[],fun x=>[(32,(o21o2_0 a0 a2 x))],[]⟩)] [(0,[1,2],[32,0])] (fun(_:Unit)=>⟨[(1,(.d (eSl 1 D.str a1))),(2,(.ptr 0 0))],[(32,(.vec 5 1 (a2++bytesI a0).length (cF (D.int .u8) (a2++bytesI a0)))),(0,(.cells [(.ptr 0 0),(.vec 32 1 (a2++bytesI a0).length)]))],[],48⟩) (c3 (p:=fun x0=>ObjL Tryz.prog 22 [(.ptr 0 0),(aS a0)] [(0,some (.cells [(.ptr 0 0),(.vec 1 1 a2.length)])),(1,some (.vec 5 1 a2.length (cF (D.int .u8) a2)))] 32 (o21o2_0 a0 a2 x0)) (fun x0 (h1:m22o1 a0 a2=some _)=>ok (idn [0,1]) [] [(0,0),(1,1),(32,176)] [] (po22o1 h1)) fun x0=>(.nx ())) (fun _=>(.sc (fun(y2:(List Int))=>⟨[(2,(.ptr 0 0))],[(32,(.vec 5 1 y2.length (cF (D.int .u8) y2))),(0,(.cells [(.ptr 0 0),(.vec 32 1 y2.length)]))],[],256⟩) (.sq 1 [] [(0,[2,9,10,11],[32,0])] (fun(_:Unit)=>⟨[(2,(.ptr 0 0)),(9,(.d (eSl 1 D.str a1))),(10,(aI (a1.length:Int))),(11,(aI 0))],[(32,(.vec 5 1 (a2++bytesI a0).length (cF (D.int .u8) (a2++bytesI a0)))),(0,(.cells [(.ptr 0 0),(.vec 32 1 (a2++bytesI a0).length)]))],[],96⟩) (.nx ()) (fun _=>(.bk (.lp (fun(s1:Int×(List Int))=>⟨[(2,(.ptr 0 0)),(9,(.d (eSl 1 D.str a1))),(10,(aI (a1.length:Int))),(11,(aI s1.1))],[(32,(.vec 5 1 s1.2.length (cF (D.int .u8) s1.2))),(0,(.cells [(.ptr 0 0),(.vec 32 1 s1.2.length)]))],[],240⟩) ((0:Int),(a2++bytesI a0)) (wk (idn [0,32]) []) fun s1=>(.sg [(4,⟨Unit,fun x=>[],fun x=>[(336,(o21o2_1 a1 s1 x))],[]⟩)] [(0,[2,9,10,11],[0,336]),(2,[2],[32,0])] (.ite (decide (s1.1 < (a1.length:Int))) (nd (0≤s1.1) (nd (s1.1 < (a1.length:Int)) (.exi (Unit) (if([32]:List UInt8).length+(a1.getD s1.1.toNat default).length≤9223372036854775807 then((m22o1 (([32]:List UInt8)++(a1.getD s1.1.toNat default)) s1.2).bind fun r4_0=>some r4_0)else none) (fun x4=>(.p (([32]:List UInt8).length+(a1.getD s1.1.toNat default).length≤9223372036854775807) (.p (ObjL Tryz.prog 22 [(.ptr 0 0),(aS (([32]:List UInt8)++(a1.getD s1.1.toNat default)))] [(0,some (.cells [(.ptr 0 0),(.vec 32 1 s1.2.length)])),(32,some (.vec 5 1 s1.2.length (cF (D.int .u8) s1.2)))] 336 (o21o2_1 a1 s1 x4)) (.fin 0)))) (by intro x4 h;obtain⟨h1,h⟩:=if_some h;obtain⟨r4_0,h2,h⟩:=Option.bind_eq_some_iff.1 h;cases h;exact⟨h1,ok [(0,0),(1,32)] [] [(0,0),(32,1),(336,176)] [] (po22o1 h2),trivial⟩) (fun x4 _=>(.ret .normal ⟨[(2,(.ptr 0 0)),(9,(.d (eSl 1 D.str a1))),(10,(aI (a1.length:Int))),(11,(aI (IntKind.wrap .i64 (s1.1+1))))],[(0,(.cells [(.ptr 0 0),(.vec 336 1 (s1.2++bytesI (([32]:List UInt8)++(a1.getD s1.1.toNat default))).length)])),(336,(.vec 5 1 (s1.2++bytesI (([32]:List UInt8)++(a1.getD s1.1.toNat default))).length (cF (D.int .u8) (s1.2++bytesI (([32]:List UInt8)++(a1.getD s1.1.toNat default))))))],[],384⟩ (.inl ((IntKind.wrap .i64 (s1.1+1)),(s1.2++bytesI (([32]:List UInt8)++(a1.getD s1.1.toNat default))))) ⟨rfl,(wk [(0,0),(32,336)] [])⟩))))) (.ret (.exit 0) _ (.inr (.inl s1.2)) ⟨rfl,rfl,Weak.refl _⟩))))))) fun y2=>(.sg [(6,⟨Unit,fun x=>[],fun x=>[(256,(o21o2_2 y2 x))],[]⟩)] [(0,[2],[0,256])] (c3 (p:=fun x6=>ObjL Tryz.prog 23 [(.ptr 0 0),(.d (.int .u8 10))] [(0,some (.cells [(.ptr 0 0),(.vec 32 1 y2.length)])),(32,some (.vec 5 1 y2.length (cF (D.int .u8) y2)))] 256 (o21o2_2 y2 x6)) (fun x6 (h1:m23o0 (10:Int) y2=some _)=>ok [(0,0),(1,32)] [] [(0,0),(32,1),(256,176)] [] (po23o0 h1)) fun x6=>(.ret .normal ⟨[(2,(.ptr 0 0))],[(0,(.cells [(.ptr 0 0),(.vec 256 1 (y2++([(10:Int)]:List Int)).length)])),(256,(.vec 5 1 (y2++([(10:Int)]:List Int)).length (cF (D.int .u8) (y2++([(10:Int)]:List Int)))))],[],272⟩ (y2++([(10:Int)]:List Int)) ⟨rfl,(retO_gone [1] (rk (idn [0,256]) [] 272))⟩))))))
noncomputable def m21o2 (a0:List UInt8) (a1:List (List UInt8)) (a2:List Int):Option ((List Int)):=(d21o2 a0 a1 a2).m
theorem po21o2 {a0:List UInt8} {a1:List (List UInt8)} {a2:List Int} {r:(List Int)} (h:m21o2 a0 a1 a2=some r):ObjF Tryz.prog 21 [(aS a0),(.d (eSl 1 D.str a1)),(.ptr 0 0)] [(1,(.vec 5 1 a2.length (cF (D.int .u8) a2))),(0,(.cells [(.ptr 0 0),(.vec 1 1 a2.length)]))] [] (q21o2 a0 a1 a2 r):=obj_jd (d21o2 a0 a1 a2) Tryz.func21 h
noncomputable def q24o0 (a0:List UInt8) (a1:List (List UInt8)) (a2:List Int) (y:(List Int)):OF:=⟨(.tup []),[(2,.gone),(0,(.cells [(.fn 21 [(.ptr 1 0)])])),(112,(.vec 5 1 y.length (cF (D.int .u8) y))),(1,(.cells [(.ptr 1 0),(.vec 112 1 y.length)]))],[]⟩
noncomputable def o24o0_0 (x:(List Int)):OT:=⟨(.tup []),[1,2],[],[(2,.gone),(112,(.vec 5 1 x.length (cF (D.int .u8) x))),(1,(.cells [(.ptr 1 0),(.vec 112 1 x.length)]))],[]⟩
noncomputable def d24o0 (a0:List UInt8) (a1:List (List UInt8)) (a2:List Int):JO Tryz.prog Tryz.f24 [(aS a0),(.d (eSl 1 D.str a1)),(.ptr 0 0)] [(0,(.cells [(.fn 21 [(.ptr 1 0)])])),(2,(.vec 5 1 a2.length (cF (D.int .u8) a2))),(1,(.cells [(.ptr 1 0),(.vec 2 1 a2.length)]))] [] (q24o0 a0 a1 a2) :=
 (.sg [(1,⟨(List Int),fun x=>[],fun x=>[(112,(o24o0_0 x))],[]⟩)] [(0,[2],[0,1,112,2])] (.ite (decide (0 < (a1.length:Int))) (c3 (p:=fun x1=>ObjL Tryz.prog 21 [(aS a0),(.d (eSl 1 D.str a1)),(.ptr 1 0)] [(1,some (.cells [(.ptr 1 0),(.vec 2 1 a2.length)])),(2,some (.vec 5 1 a2.length (cF (D.int .u8) a2)))] 112 (o24o0_0 x1)) (fun x1 (h1:m21o2 a0 a1 a2=some _)=>ok [(0,1),(1,2)] [] [(1,0),(2,1),(112,256)] [] (po21o2 h1)) fun x1=>(.ret .normal ⟨[(2,(.ptr 0 0))],[(0,(.cells [(.fn 21 [(.ptr 1 0)])])),(1,(.cells [(.ptr 1 0),(.vec 112 1 x1.length)])),(112,(.vec 5 1 x1.length (cF (D.int .u8) x1))),(2,.gone)],[],128⟩ x1 ⟨rfl,(retO_gone [2] (rk (idn [0,1,112]) [] 128))⟩)) (.ret .normal ⟨[(2,(.ptr 0 0))],[(0,(.cells [(.fn 21 [(.ptr 1 0)])])),(1,(.cells [(.ptr 1 0),(.vec 2 1 a2.length)])),(2,(.vec 5 1 a2.length (cF (D.int .u8) a2)))],[],64⟩ a2 ⟨rfl,(retO_gone [2] (rk [(0,0),(1,1),(112,2)] [] 128))⟩)))
noncomputable def m24o0 (a0:List UInt8) (a1:List (List UInt8)) (a2:List Int):Option ((List Int)):=(d24o0 a0 a1 a2).m
theorem po24o0 {a0:List UInt8} {a1:List (List UInt8)} {a2:List Int} {r:(List Int)} (h:m24o0 a0 a1 a2=some r):ObjF Tryz.prog 24 [(aS a0),(.d (eSl 1 D.str a1)),(.ptr 0 0)] [(0,(.cells [(.fn 21 [(.ptr 1 0)])])),(2,(.vec 5 1 a2.length (cF (D.int .u8) a2))),(1,(.cells [(.ptr 1 0),(.vec 2 1 a2.length)]))] [] (q24o0 a0 a1 a2 r):=obj_jd (d24o0 a0 a1 a2) Tryz.func24 h
noncomputable abbrev z7_0:Ob:=(.cells [(.fn 21 [(.ptr 144 0)])])
noncomputable abbrev z7_1:List (Nat×AV):=[(1,(.ptr 16 0)),(5,(.ptr 144 0)),(6,(.ptr 176 0)),(7,(.fn 24 [(.ptr 176 0)]))]
noncomputable abbrev z7_2 (a0:T27) (s6:Int×(List Int)):List (Nat×AV):=[(1,(.ptr 16 0)),(5,(.ptr 144 0)),(6,(.ptr 176 0)),(7,(.fn 24 [(.ptr 176 0)])),(59,(.d (eSl 6 e56 a0.States))),(60,(aI (a0.States.length:Int))),(61,(aI (IntKind.wrap .i64 (s6.1+1))))]
noncomputable abbrev z7_3 (a0:T27) (y1:(List Int)):List (Nat×Ob):=[(16,(.cells (g27 a0))),(368,(.vec 5 1 y1.length (cF (D.int .u8) y1))),(144,(.cells [(.ptr 144 0),(.vec 368 1 y1.length)])),(176,z7_0)]
noncomputable abbrev z7_4 (a0:T27) (y3:(List Int)):List (Nat×Ob):=[(16,(.cells (g27 a0))),(368,(.vec 5 1 y3.length (cF (D.int .u8) y3))),(144,(.cells [(.ptr 144 0),(.vec 368 1 y3.length)])),(176,z7_0)]
noncomputable abbrev z7_5 (a0:T27) (y5:(List Int)):List (Nat×Ob):=[(16,(.cells (g27 a0))),(368,(.vec 5 1 y5.length (cF (D.int .u8) y5))),(144,(.cells [(.ptr 144 0),(.vec 368 1 y5.length)])),(176,z7_0)]
noncomputable abbrev z7_6 (a0:T27) (y7:(List Int)):List (Nat×Ob):=[(16,(.cells (g27 a0))),(368,(.vec 5 1 y7.length (cF (D.int .u8) y7))),(144,(.cells [(.ptr 144 0),(.vec 368 1 y7.length)])),(176,z7_0)]
noncomputable def o7_0 (x:(List UInt8)×(List Int)):OT:=⟨(.tup []),[144],[352],[(368,(.vec 5 1 x.2.length (cF (D.int .u8) x.2))),(144,(.cells [(.ptr 144 0),(.vec 368 1 x.2.length)]))],[368]⟩
noncomputable def o7_1 (x:(List Int)):OT:=⟨(.tup []),[144,368],[704],[(368,.gone),(720,(.vec 5 1 x.length (cF (D.int .u8) x))),(144,(.cells [(.ptr 144 0),(.vec 720 1 x.length)]))],[720]⟩
noncomputable def o7_2 (x:(List (List UInt8))×(List Int)):OT:=⟨(.tup []),[144,368],[],[(368,.gone),(992,(.vec 5 1 x.2.length (cF (D.int .u8) x.2))),(144,(.cells [(.ptr 144 0),(.vec 992 1 x.2.length)]))],[]⟩
noncomputable def o7_3 (x:(List Int)):OT:=⟨(.tup []),[144,368],[1856],[(368,.gone),(1920,(.vec 5 1 x.length (cF (D.int .u8) x))),(144,(.cells [(.ptr 144 0),(.vec 1920 1 x.length)]))],[1920]⟩
noncomputable def o7_4 (x:(List Int)):OT:=⟨(.tup []),[176,144,1920],[],[(1920,.gone),(176,z7_0),(1984,(.vec 5 1 x.length (cF (D.int .u8) x))),(144,(.cells [(.ptr 144 0),(.vec 1984 1 x.length)]))],[]⟩
noncomputable def o7_5 (x:(List Int)):OT:=⟨(.tup []),[176,144,1984],[],[(1984,.gone),(176,z7_0),(2048,(.vec 5 1 x.length (cF (D.int .u8) x))),(144,(.cells [(.ptr 144 0),(.vec 2048 1 x.length)]))],[]⟩
noncomputable def o7_6 (x:(List Int)):OT:=⟨(.tup []),[144,368],[1760],[(368,.gone),(1856,(.vec 5 1 x.length (cF (D.int .u8) x))),(144,(.cells [(.ptr 144 0),(.vec 1856 1 x.length)]))],[1856]⟩
noncomputable def o7_7 (x:(List Int)):OT:=⟨(.tup []),[176,144,1856],[],[(1856,.gone),(176,z7_0),(1920,(.vec 5 1 x.length (cF (D.int .u8) x))),(144,(.cells [(.ptr 144 0),(.vec 1920 1 x.length)]))],[]⟩
noncomputable def o7_8 (x:(List UInt8)×(List UInt8)×(List Int)):OT:=⟨(.tup []),[144,368],[2272],[(368,.gone),(2288,(.vec 5 1 x.2.2.length (cF (D.int .u8) x.2.2))),(144,(.cells [(.ptr 144 0),(.vec 2288 1 x.2.2.length)]))],[2288]⟩
noncomputable def o7_9 (x:(List (List UInt8))×(List Int)):OT:=⟨(.tup []),[176,144,2288],[],[(2288,.gone),(176,z7_0),(2384,(.vec 5 1 x.2.length (cF (D.int .u8) x.2))),(144,(.cells [(.ptr 144 0),(.vec 2384 1 x.2.length)]))],[]⟩
noncomputable def o7_10 (x:(List Int)):OT:=⟨(.tup []),[176,144,2384],[],[(2384,.gone),(176,z7_0),(2448,(.vec 5 1 x.length (cF (D.int .u8) x))),(144,(.cells [(.ptr 144 0),(.vec 2448 1 x.length)]))],[]⟩
noncomputable def o7_11 (x:(List UInt8)):OT:=⟨(aS x),[144,368],[],[(368,.gone),(144,(.cells [(.ptr 144 0),.any]))],[]⟩
noncomputable def d7 (a0:T27):JF Tryz.prog Tryz.f7 [(e27 a0)] (fun(r:(List UInt8)×Int)=>(.tup [(.str r.1),(dI r.2)])) :=
 (.sq 6 [(1,tm1 18 dI),(7,⟨(List UInt8)×(List Int),fun x=>[(30,(.str x.1))],fun x=>[(368,(o7_0 x))],[]⟩)] [(1,[2,3],[]),(0,[1,5,6,7],[16,368,144,176])] (fun(y1:(List Int))=>⟨z7_1,(z7_3 a0 y1),[],384⟩) (c3 (@p20 a0) fun x1=>(.ite (x1 != 0) (.ret .ret ⟨[(2,(aS ([]:List UInt8))),(3,(aI x1))],[],[],192⟩ (.inr ((([]:List UInt8),x1))) ⟨rfl,rfl,_,Weak.refl _,⟨dr,dr,trivial⟩⟩) (.exi ((List UInt8)×(List Int)) ((m25 a0 a0.Start).bind fun r7_0=>((m21o0 ([67,72,65,82,84]:List UInt8) ([a0.Name,r7_0]:List (List UInt8))).bind fun r7_1=>some (r7_0,r7_1))) (fun x7=>(.p (PureAt Tryz.prog 25 [(e27 a0),(dI a0.Start)] (.str x7.1)) (.p (ObjL Tryz.prog 21 [(aS ([67,72,65,82,84]:List UInt8)),(.ap 1 2 (litF [(.str a0.Name),(.str x7.1)]) (.tok 352 9)),(.ptr 144 0)] [(144,some (.bld0 63))] 368 (o7_0 x7)) (.fin 0)))) (by intro x7 h;obtain⟨r7_0,h1,h⟩:=Option.bind_eq_some_iff.1 h;obtain⟨r7_1,h2,h⟩:=Option.bind_eq_some_iff.1 h;cases h;exact⟨p25 h1,objL_of (po21o0 h2) [(0,144)] [(0,352)] [(144,0),(368,256)] [(368,0)] (by kernel_rfl) ⟨dr,⟨rfl,rfl,rfl,(de_lit rfl rfl)⟩,⟨rfl,rfl⟩,trivial⟩ ⟨_,_,rfl,rfl,rfl⟩ (by kernel_rfl) trivial ⟨⟨_,_,rfl,rfl,⟨rfl,rfl,dr⟩⟩,⟨_,_,rfl,rfl,⟨⟨rfl,rfl⟩,⟨rfl,rfl,rfl⟩,trivial⟩⟩⟩,trivial⟩) (fun x7 _=>(.ret .normal ⟨z7_1,[(16,(.cells (g27 a0))),(368,(.vec 5 1 x7.2.length (cF (D.int .u8) x7.2))),(144,(.cells [(.ptr 144 0),(.vec 368 1 x7.2.length)])),(176,z7_0)],[368],384⟩ (.inl x7.2) ⟨rfl,(wk (idn [16,144,176,368]) [])⟩))))) (fun y1=>(.sc (fun(y3:(List Int))=>⟨z7_1,(z7_4 a0 y3),[],624⟩) (.sq 1 [] [(0,[1,5,6,7,34,35,36],[16,368,144,176])] (fun(_:Unit)=>⟨[(1,(.ptr 16 0)),(5,(.ptr 144 0)),(6,(.ptr 176 0)),(7,(.fn 24 [(.ptr 176 0)])),(34,(.d (eSl 1 D.str a0.Conds))),(35,(aI (a0.Conds.length:Int))),(36,(aI 0))],(z7_3 a0 y1),[],448⟩) (.nx ()) (fun _=>(.bk (.lp (fun(s2:Int×(List Int))=>⟨[(1,(.ptr 16 0)),(5,(.ptr 144 0)),(6,(.ptr 176 0)),(7,(.fn 24 [(.ptr 176 0)])),(34,(.d (eSl 1 D.str a0.Conds))),(35,(aI (a0.Conds.length:Int))),(36,(aI s2.1))],[(16,(.cells (g27 a0))),(368,(.vec 5 1 s2.2.length (cF (D.int .u8) s2.2))),(144,(.cells [(.ptr 144 0),(.vec 368 1 s2.2.length)])),(176,z7_0)],[],608⟩) ((0:Int),y1) (wk (idn [16,144,176,368]) []) fun s2=>(.sg [(11,⟨(List Int),fun x=>[],fun x=>[(720,(o7_1 x))],[]⟩)] [(0,[1,5,6,7,34,35,36],[16,144,720,176]),(2,[1,5,6,7],[16,368,144,176])] (.ite (decide (s2.1 < (a0.Conds.length:Int))) (nd (0≤s2.1) (nd (s2.1 < (a0.Conds.length:Int)) (c3 (p:=fun x11=>ObjL Tryz.prog 21 [(aS ([67,79,78,68,73,84,73,79,78]:List UInt8)),(.ap 1 1 (litF [(.str (a0.Conds.getD s2.1.toNat default))]) (.tok 704 9)),(.ptr 144 0)] [(144,some (.cells [(.ptr 144 0),(.vec 368 1 s2.2.length)])),(368,some (.vec 5 1 s2.2.length (cF (D.int .u8) s2.2)))] 720 (o7_1 x11)) (fun x11 (h1:m21o1 ([67,79,78,68,73,84,73,79,78]:List UInt8) ([(a0.Conds.getD s2.1.toNat default)]:List (List UInt8)) s2.2=some _)=>objL_of (po21o1 h1) [(0,144),(1,368)] [(0,704)] [(144,0),(368,1),(720,256)] [(720,0)] (by kernel_rfl) ⟨dr,⟨rfl,rfl,rfl,(de_lit rfl rfl)⟩,⟨rfl,rfl⟩,trivial⟩ ⟨⟨_,_,rfl,rfl,⟨rfl,rfl,dr⟩⟩,⟨_,_,rfl,rfl,⟨⟨rfl,rfl⟩,⟨rfl,rfl,rfl⟩,trivial⟩⟩⟩ (by kernel_rfl) trivial ⟨⟨_,_,rfl,rfl,trivial⟩,⟨_,_,rfl,rfl,⟨rfl,rfl,dr⟩⟩,⟨_,_,rfl,rfl,⟨⟨rfl,rfl⟩,⟨rfl,rfl,rfl⟩,trivial⟩⟩⟩) fun x11=>(.ret .normal ⟨[(1,(.ptr 16 0)),(5,(.ptr 144 0)),(6,(.ptr 176 0)),(7,(.fn 24 [(.ptr 176 0)])),(34,(.d (eSl 1 D.str a0.Conds))),(35,(aI (a0.Conds.length:Int))),(36,(aI (IntKind.wrap .i64 (s2.1+1))))],[(16,(.cells (g27 a0))),(144,(.cells [(.ptr 144 0),(.vec 720 1 x11.length)])),(720,(.vec 5 1 x11.length (cF (D.int .u8) x11))),(176,z7_0)],[720],768⟩ (.inl ((IntKind.wrap .i64 (s2.1+1)),x11)) ⟨rfl,(wk [(16,16),(144,144),(176,176),(368,720)] [])⟩)))) (.ret (.exit 0) _ (.inr (.inl s2.2)) ⟨rfl,rfl,Weak.refl _⟩))))))) fun y3=>(.sc (fun(y5:(List Int))=>⟨z7_1,(z7_5 a0 y5),[],880⟩) (.sq 1 [] [(0,[1,5,6,7,46,47,48],[16,368,144,176])] (fun(_:Unit)=>⟨[(1,(.ptr 16 0)),(5,(.ptr 144 0)),(6,(.ptr 176 0)),(7,(.fn 24 [(.ptr 176 0)])),(46,(.d (eSl 1 (eSl 2 e118) a0.Never))),(47,(aI (a0.Never.length:Int))),(48,(aI 0))],(z7_4 a0 y3),[],688⟩) (.nx ()) (fun _=>(.bk (.lp (fun(s4:Int×(List Int))=>⟨[(1,(.ptr 16 0)),(5,(.ptr 144 0)),(6,(.ptr 176 0)),(7,(.fn 24 [(.ptr 176 0)])),(46,(.d (eSl 1 (eSl 2 e118) a0.Never))),(47,(aI (a0.Never.length:Int))),(48,(aI s4.1))],[(16,(.cells (g27 a0))),(368,(.vec 5 1 s4.2.length (cF (D.int .u8) s4.2))),(144,(.cells [(.ptr 144 0),(.vec 368 1 s4.2.length)])),(176,z7_0)],[],864⟩) ((0:Int),y3) (wk (idn [16,144,176,368]) []) fun s4=>(.sg [(16,⟨(List (List UInt8))×(List Int),fun x=>[(55,(eSl 1 D.str x.1))],fun x=>[(992,(o7_2 x))],[]⟩)] [(0,[1,5,6,7,46,47,48],[16,144,992,176]),(4,[1,5,6,7],[16,368,144,176])] (.ite (decide (s4.1 < (a0.Never.length:Int))) (nd (0≤s4.1) (nd (s4.1 < (a0.Never.length:Int)) (.exi ((List (List UInt8))×(List Int)) ((m26 a0 (a0.Never.getD s4.1.toNat default)).bind fun r16_0=>((m21o2 ([78,69,86,69,82]:List UInt8) r16_0 s4.2).bind fun r16_1=>some (r16_0,r16_1))) (fun x16=>(.p (PureAt Tryz.prog 26 [(e27 a0),(eSl 2 e118 (a0.Never.getD s4.1.toNat default))] (eSl 1 D.str x16.1)) (.p (ObjL Tryz.prog 21 [(aS ([78,69,86,69,82]:List UInt8)),(.d (eSl 1 D.str x16.1)),(.ptr 144 0)] [(144,some (.cells [(.ptr 144 0),(.vec 368 1 s4.2.length)])),(368,some (.vec 5 1 s4.2.length (cF (D.int .u8) s4.2)))] 992 (o7_2 x16)) (.fin 0)))) (by intro x16 h;obtain⟨r16_0,h1,h⟩:=Option.bind_eq_some_iff.1 h;obtain⟨r16_1,h2,h⟩:=Option.bind_eq_some_iff.1 h;cases h;exact⟨p26 h1,ok [(0,144),(1,368)] [] [(144,0),(368,1),(992,256)] [] (po21o2 h2),trivial⟩) (fun x16 _=>(.ret .normal ⟨[(1,(.ptr 16 0)),(5,(.ptr 144 0)),(6,(.ptr 176 0)),(7,(.fn 24 [(.ptr 176 0)])),(46,(.d (eSl 1 (eSl 2 e118) a0.Never))),(47,(aI (a0.Never.length:Int))),(48,(aI (IntKind.wrap .i64 (s4.1+1))))],[(16,(.cells (g27 a0))),(144,(.cells [(.ptr 144 0),(.vec 992 1 x16.2.length)])),(992,(.vec 5 1 x16.2.length (cF (D.int .u8) x16.2))),(176,z7_0)],[],1040⟩ (.inl ((IntKind.wrap .i64 (s4.1+1)),x16.2)) ⟨rfl,(wk [(16,16),(144,144),(176,176),(368,992)] [])⟩))))) (.ret (.exit 2) _ (.inr (.inl s4.2)) ⟨rfl,rfl,Weak.refl _⟩))))))) fun y5=>(.sc (fun(y7:(List Int))=>⟨z7_1,(z7_6 a0 y7),[],1536⟩) (.sq 1 [] [(0,[1,5,6,7,59,60,61],[16,368,144,176])] (fun(_:Unit)=>⟨[(1,(.ptr 16 0)),(5,(.ptr 144 0)),(6,(.ptr 176 0)),(7,(.fn 24 [(.ptr 176 0)])),(59,(.d (eSl 6 e56 a0.States))),(60,(aI (a0.States.length:Int))),(61,(aI 0))],(z7_5 a0 y5),[],944⟩) (.nx ()) (fun _=>(.bk (.lp (fun(s6:Int×(List Int))=>⟨[(1,(.ptr 16 0)),(5,(.ptr 144 0)),(6,(.ptr 176 0)),(7,(.fn 24 [(.ptr 176 0)])),(59,(.d (eSl 6 e56 a0.States))),(60,(aI (a0.States.length:Int))),(61,(aI s6.1))],[(16,(.cells (g27 a0))),(368,(.vec 5 1 s6.2.length (cF (D.int .u8) s6.2))),(144,(.cells [(.ptr 144 0),(.vec 368 1 s6.2.length)])),(176,z7_0)],[],1520⟩) ((0:Int),y5) (wk (idn [16,144,176,368]) []) fun s6=>(.sg [(21,⟨(List UInt8)×(List UInt8),fun x=>[(70,(.str x.1)),(74,(.str x.2))],fun x=>[],[]⟩),(24,⟨(List Int),fun x=>[],fun x=>[(1920,(o7_3 x)),(1856,(o7_6 x))],[]⟩),(25,⟨(List Int),fun x=>[],fun x=>[(1984,(o7_4 x)),(1920,(o7_7 x))],[]⟩),(26,⟨(List Int),fun x=>[],fun x=>[(2048,(o7_5 x)),(1984,(o7_4 x))],[]⟩)] [(0,[1,5,6,7,59,60,61],[16,144,2048,176,1984]),(6,[1,5,6,7],[16,368,144,176])] (.ite (decide (s6.1 < (a0.States.length:Int))) (nd (0≤s6.1) (nd (s6.1 < (a0.States.length:Int)) (.exi ((List UInt8)×(List UInt8)) ((m25 a0 (a0.States.getD s6.1.toNat default).Parent).bind fun r21_0=>((m25 a0 (a0.States.getD s6.1.toNat default).Initial).bind fun r21_1=>some (r21_0,r21_1))) (fun x21=>(.p (PureAt Tryz.prog 25 [(e27 a0),(dI (a0.States.getD s6.1.toNat default).Parent)] (.str x21.1)) (.p (PureAt Tryz.prog 25 [(e27 a0),(dI (a0.States.getD s6.1.toNat default).Initial)] (.str x21.2)) (.fin 0)))) (by intro x21 h;obtain⟨r21_0,h1,h⟩:=Option.bind_eq_some_iff.1 h;obtain⟨r21_1,h2,h⟩:=Option.bind_eq_some_iff.1 h;cases h;exact⟨p25 h1,p25 h2,trivial⟩) (fun x21 _=>(.ite (a0.States.getD s6.1.toNat default).History (nd ((3+1) * 16≤140737488355328) (c3 (p:=fun x24=>ObjL Tryz.prog 21 [(aS ([83,84,65,84,69]:List UInt8)),(.ap 1 (3+1) (appF 3 (litF [(.str (a0.States.getD s6.1.toNat default).Name),(.str x21.1),(.str x21.2)]) (litF [(.str ([72,73,83,84,79,82,89]:List UInt8))])) (.tok 1856 9)),(.ptr 144 0)] [(144,some (.cells [(.ptr 144 0),(.vec 368 1 s6.2.length)])),(368,some (.vec 5 1 s6.2.length (cF (D.int .u8) s6.2)))] 1920 (o7_3 x24)) (fun x24 (h1:m21o1 ([83,84,65,84,69]:List UInt8) (([(a0.States.getD s6.1.toNat default).Name,x21.1,x21.2]:List (List UInt8))++([([72,73,83,84,79,82,89]:List UInt8)]:List (List UInt8))) s6.2=some _)=>objL_of (po21o1 h1) [(0,144),(1,368)] [(0,1856)] [(144,0),(368,1),(1920,256)] [(1920,0)] (by kernel_rfl) ⟨dr,⟨rfl,rfl,rfl,(de_app (de_lit rfl rfl) (de_lit rfl rfl))⟩,⟨rfl,rfl⟩,trivial⟩ ⟨⟨_,_,rfl,rfl,⟨rfl,rfl,dr⟩⟩,⟨_,_,rfl,rfl,⟨⟨rfl,rfl⟩,⟨rfl,rfl,rfl⟩,trivial⟩⟩⟩ (by kernel_rfl) trivial ⟨⟨_,_,rfl,rfl,trivial⟩,⟨_,_,rfl,rfl,⟨rfl,rfl,dr⟩⟩,⟨_,_,rfl,rfl,⟨⟨rfl,rfl⟩,⟨rfl,rfl,rfl⟩,trivial⟩⟩⟩) fun x24=>(c3 (p:=fun x25=>ObjL Tryz.prog 24 [(aS ([69,78,84,82,89]:List UInt8)),(.d (eSl 1 D.str (a0.States.getD s6.1.toNat default).Entry)),(.ptr 176 0)] [(176,some z7_0),(144,some (.cells [(.ptr 144 0),(.vec 1920 1 x24.length)])),(1920,some (.vec 5 1 x24.length (cF (D.int .u8) x24)))] 1984 (o7_4 x25)) (fun x25 (h1:m24o0 ([69,78,84,82,89]:List UInt8) (a0.States.getD s6.1.toNat default).Entry x24=some _)=>ok [(0,176),(1,144),(2,1920)] [] [(176,0),(144,1),(1920,2),(1984,112)] [] (po24o0 h1)) fun x25=>(c3 (p:=fun x26=>ObjL Tryz.prog 24 [(aS ([69,88,73,84]:List UInt8)),(.d (eSl 1 D.str (a0.States.getD s6.1.toNat default).Exit)),(.ptr 176 0)] [(176,some z7_0),(144,some (.cells [(.ptr 144 0),(.vec 1984 1 x25.length)])),(1984,some (.vec 5 1 x25.length (cF (D.int .u8) x25)))] 2048 (o7_5 x26)) (fun x26 (h1:m24o0 ([69,88,73,84]:List UInt8) (a0.States.getD s6.1.toNat default).Exit x25=some _)=>ok [(0,176),(1,144),(2,1984)] [] [(176,0),(144,1),(1984,2),(2048,112)] [] (po24o0 h1)) fun x26=>(.ret .normal ⟨(z7_2 a0 s6),[(16,(.cells (g27 a0))),(144,(.cells [(.ptr 144 0),(.vec 2048 1 x26.length)])),(2048,(.vec 5 1 x26.length (cF (D.int .u8) x26))),(176,z7_0),(1984,.gone)],[1920,1840],2096⟩ (.inl ((IntKind.wrap .i64 (s6.1+1)),x26)) ⟨rfl,(wk [(16,16),(144,144),(176,176),(368,2048)] [])⟩))))) (c3 (p:=fun x24=>ObjL Tryz.prog 21 [(aS ([83,84,65,84,69]:List UInt8)),(.ap 1 3 (litF [(.str (a0.States.getD s6.1.toNat default).Name),(.str x21.1),(.str x21.2)]) (.tok 1760 9)),(.ptr 144 0)] [(144,some (.cells [(.ptr 144 0),(.vec 368 1 s6.2.length)])),(368,some (.vec 5 1 s6.2.length (cF (D.int .u8) s6.2)))] 1856 (o7_6 x24)) (fun x24 (h1:m21o1 ([83,84,65,84,69]:List UInt8) ([(a0.States.getD s6.1.toNat default).Name,x21.1,x21.2]:List (List UInt8)) s6.2=some _)=>objL_of (po21o1 h1) [(0,144),(1,368)] [(0,1760)] [(144,0),(368,1),(1856,256)] [(1856,0)] (by kernel_rfl) ⟨dr,⟨rfl,rfl,rfl,(de_lit rfl rfl)⟩,⟨rfl,rfl⟩,trivial⟩ ⟨⟨_,_,rfl,rfl,⟨rfl,rfl,dr⟩⟩,⟨_,_,rfl,rfl,⟨⟨rfl,rfl⟩,⟨rfl,rfl,rfl⟩,trivial⟩⟩⟩ (by kernel_rfl) trivial ⟨⟨_,_,rfl,rfl,trivial⟩,⟨_,_,rfl,rfl,⟨rfl,rfl,dr⟩⟩,⟨_,_,rfl,rfl,⟨⟨rfl,rfl⟩,⟨rfl,rfl,rfl⟩,trivial⟩⟩⟩) fun x24=>(c3 (p:=fun x25=>ObjL Tryz.prog 24 [(aS ([69,78,84,82,89]:List UInt8)),(.d (eSl 1 D.str (a0.States.getD s6.1.toNat default).Entry)),(.ptr 176 0)] [(176,some z7_0),(144,some (.cells [(.ptr 144 0),(.vec 1856 1 x24.length)])),(1856,some (.vec 5 1 x24.length (cF (D.int .u8) x24)))] 1920 (o7_7 x25)) (fun x25 (h1:m24o0 ([69,78,84,82,89]:List UInt8) (a0.States.getD s6.1.toNat default).Entry x24=some _)=>ok [(0,176),(1,144),(2,1856)] [] [(176,0),(144,1),(1856,2),(1920,112)] [] (po24o0 h1)) fun x25=>(c3 (p:=fun x26=>ObjL Tryz.prog 24 [(aS ([69,88,73,84]:List UInt8)),(.d (eSl 1 D.str (a0.States.getD s6.1.toNat default).Exit)),(.ptr 176 0)] [(176,some z7_0),(144,some (.cells [(.ptr 144 0),(.vec 1920 1 x25.length)])),(1920,some (.vec 5 1 x25.length (cF (D.int .u8) x25)))] 1984 (o7_4 x26)) (fun x26 (h1:m24o0 ([69,88,73,84]:List UInt8) (a0.States.getD s6.1.toNat default).Exit x25=some _)=>ok [(0,176),(1,144),(2,1920)] [] [(176,0),(144,1),(1920,2),(1984,112)] [] (po24o0 h1)) fun x26=>(.ret .normal ⟨(z7_2 a0 s6),[(16,(.cells (g27 a0))),(144,(.cells [(.ptr 144 0),(.vec 1984 1 x26.length)])),(176,z7_0),(1984,(.vec 5 1 x26.length (cF (D.int .u8) x26)))],[1856],2032⟩ (.inl ((IntKind.wrap .i64 (s6.1+1)),x26)) ⟨rfl,(wk [(16,16),(144,144),(176,176),(368,1984)] [])⟩))))))))) (.ret (.exit 4) _ (.inr (.inl s6.2)) ⟨rfl,rfl,Weak.refl _⟩))))))) fun y7=>(.sc (fun(y9:(List Int))=>⟨[(5,(.ptr 144 0))],[(368,(.vec 5 1 y9.length (cF (D.int .u8) y9))),(144,(.cells [(.ptr 144 0),(.vec 368 1 y9.length)]))],[],2064⟩) (.sq 1 [] [(0,[1,5,6,7,94,95,96],[16,368,144,176])] (fun(_:Unit)=>⟨[(1,(.ptr 16 0)),(5,(.ptr 144 0)),(6,(.ptr 176 0)),(7,(.fn 24 [(.ptr 176 0)])),(94,(.d (eSl 4 e58 a0.Transitions))),(95,(aI (a0.Transitions.length:Int))),(96,(aI 0))],(z7_6 a0 y7),[],1600⟩) (.nx ()) (fun _=>(.bk (.lp (fun(s8:Int×(List Int))=>⟨[(1,(.ptr 16 0)),(5,(.ptr 144 0)),(6,(.ptr 176 0)),(7,(.fn 24 [(.ptr 176 0)])),(94,(.d (eSl 4 e58 a0.Transitions))),(95,(aI (a0.Transitions.length:Int))),(96,(aI s8.1))],[(16,(.cells (g27 a0))),(368,(.vec 5 1 s8.2.length (cF (D.int .u8) s8.2))),(144,(.cells [(.ptr 144 0),(.vec 368 1 s8.2.length)])),(176,z7_0)],[],2048⟩) ((0:Int),y7) (wk (idn [16,144,176,368]) []) fun s8=>(.sg [(31,⟨(List UInt8)×(List UInt8)×(List Int),fun x=>[(104,(.str x.1)),(108,(.str x.2.1))],fun x=>[(2288,(o7_8 x))],[]⟩),(32,⟨(List (List UInt8))×(List Int),fun x=>[(115,(eSl 1 D.str x.1))],fun x=>[(2384,(o7_9 x))],[]⟩),(33,⟨(List Int),fun x=>[],fun x=>[(2448,(o7_10 x))],[]⟩)] [(0,[1,5,6,7,94,95,96],[16,144,2448,176]),(8,[5],[368,144])] (.ite (decide (s8.1 < (a0.Transitions.length:Int))) (nd (0≤s8.1) (nd (s8.1 < (a0.Transitions.length:Int)) (.exi ((List UInt8)×(List UInt8)×(List Int)) ((m25 a0 (a0.Transitions.getD s8.1.toNat default).From).bind fun r31_0=>((m25 a0 (a0.Transitions.getD s8.1.toNat default).To).bind fun r31_1=>((m21o1 ([84,82,65,78,83,73,84,73,79,78]:List UInt8) ([r31_0,r31_1]:List (List UInt8)) s8.2).bind fun r31_2=>some (r31_0,r31_1,r31_2)))) (fun x31=>(.p (PureAt Tryz.prog 25 [(e27 a0),(dI (a0.Transitions.getD s8.1.toNat default).From)] (.str x31.1)) (.p (PureAt Tryz.prog 25 [(e27 a0),(dI (a0.Transitions.getD s8.1.toNat default).To)] (.str x31.2.1)) (.p (ObjL Tryz.prog 21 [(aS ([84,82,65,78,83,73,84,73,79,78]:List UInt8)),(.ap 1 2 (litF [(.str x31.1),(.str x31.2.1)]) (.tok 2272 9)),(.ptr 144 0)] [(144,some (.cells [(.ptr 144 0),(.vec 368 1 s8.2.length)])),(368,some (.vec 5 1 s8.2.length (cF (D.int .u8) s8.2)))] 2288 (o7_8 x31)) (.fin 0))))) (by intro x31 h;obtain⟨r31_0,h1,h⟩:=Option.bind_eq_some_iff.1 h;obtain⟨r31_1,h2,h⟩:=Option.bind_eq_some_iff.1 h;obtain⟨r31_2,h3,h⟩:=Option.bind_eq_some_iff.1 h;cases h;exact⟨p25 h1,p25 h2,objL_of (po21o1 h3) [(0,144),(1,368)] [(0,2272)] [(144,0),(368,1),(2288,256)] [(2288,0)] (by kernel_rfl) ⟨dr,⟨rfl,rfl,rfl,(de_lit rfl rfl)⟩,⟨rfl,rfl⟩,trivial⟩ ⟨⟨_,_,rfl,rfl,⟨rfl,rfl,dr⟩⟩,⟨_,_,rfl,rfl,⟨⟨rfl,rfl⟩,⟨rfl,rfl,rfl⟩,trivial⟩⟩⟩ (by kernel_rfl) trivial ⟨⟨_,_,rfl,rfl,trivial⟩,⟨_,_,rfl,rfl,⟨rfl,rfl,dr⟩⟩,⟨_,_,rfl,rfl,⟨⟨rfl,rfl⟩,⟨rfl,rfl,rfl⟩,trivial⟩⟩⟩,trivial⟩) (fun x31 _=>(.exi ((List (List UInt8))×(List Int)) ((m26 a0 (a0.Transitions.getD s8.1.toNat default).When).bind fun r32_0=>((m24o0 ([87,72,69,78]:List UInt8) r32_0 x31.2.2).bind fun r32_1=>some (r32_0,r32_1))) (fun x32=>(.p (PureAt Tryz.prog 26 [(e27 a0),(eSl 2 e118 (a0.Transitions.getD s8.1.toNat default).When)] (eSl 1 D.str x32.1)) (.p (ObjL Tryz.prog 24 [(aS ([87,72,69,78]:List UInt8)),(.d (eSl 1 D.str x32.1)),(.ptr 176 0)] [(176,some z7_0),(144,some (.cells [(.ptr 144 0),(.vec 2288 1 x31.2.2.length)])),(2288,some (.vec 5 1 x31.2.2.length (cF (D.int .u8) x31.2.2)))] 2384 (o7_9 x32)) (.fin 0)))) (by intro x32 h;obtain⟨r32_0,h1,h⟩:=Option.bind_eq_some_iff.1 h;obtain⟨r32_1,h2,h⟩:=Option.bind_eq_some_iff.1 h;cases h;exact⟨p26 h1,ok [(0,176),(1,144),(2,2288)] [] [(176,0),(144,1),(2288,2),(2384,112)] [] (po24o0 h2),trivial⟩) (fun x32 _=>(c3 (p:=fun x33=>ObjL Tryz.prog 24 [(aS ([68,79]:List UInt8)),(.d (eSl 1 D.str (a0.Transitions.getD s8.1.toNat default).Actions)),(.ptr 176 0)] [(176,some z7_0),(144,some (.cells [(.ptr 144 0),(.vec 2384 1 x32.2.length)])),(2384,some (.vec 5 1 x32.2.length (cF (D.int .u8) x32.2)))] 2448 (o7_10 x33)) (fun x33 (h1:m24o0 ([68,79]:List UInt8) (a0.Transitions.getD s8.1.toNat default).Actions x32.2=some _)=>ok [(0,176),(1,144),(2,2384)] [] [(176,0),(144,1),(2384,2),(2448,112)] [] (po24o0 h1)) fun x33=>(.ret .normal ⟨[(1,(.ptr 16 0)),(5,(.ptr 144 0)),(6,(.ptr 176 0)),(7,(.fn 24 [(.ptr 176 0)])),(94,(.d (eSl 4 e58 a0.Transitions))),(95,(aI (a0.Transitions.length:Int))),(96,(aI (IntKind.wrap .i64 (s8.1+1))))],[(16,(.cells (g27 a0))),(144,(.cells [(.ptr 144 0),(.vec 2448 1 x33.length)])),(2448,(.vec 5 1 x33.length (cF (D.int .u8) x33))),(176,z7_0)],[2288],2496⟩ (.inl ((IntKind.wrap .i64 (s8.1+1)),x33)) ⟨rfl,(wk [(16,16),(144,144),(176,176),(368,2448)] [])⟩)))))))) (.ret (.exit 6) _ (.inr (.inl s8.2)) ⟨rfl,rfl,Weak.refl _⟩))))))) fun y9=>(.sg [(35,⟨(List UInt8),fun x=>[],fun x=>[(2064,(o7_11 x))],[]⟩)] [(1,[2,3],[])] (c3 (p:=fun x35=>ObjL Tryz.prog 27 [(.ptr 144 0)] [(144,some (.cells [(.ptr 144 0),(.vec 368 1 y9.length)])),(368,some (.vec 5 1 y9.length (cF (D.int .u8) y9)))] 2064 (o7_11 x35)) (fun x35 (h1:mbs1 y9=some _)=>ok [(0,144),(1,368)] [] [(144,0),(368,1)] [] (pobs1 h1)) fun x35=>(.ret .ret ⟨[(2,(aS x35)),(3,(aI 0))],[],[],2112⟩ (x35,(0:Int)) ⟨rfl,_,Weak.refl _,⟨dr,dr,trivial⟩⟩)))))))))
noncomputable def m7 (a0:T27):Option ((List UInt8)×Int):=(d7 a0).m
theorem p7 {a0:T27} {r:(List UInt8)×Int} (h:m7 a0=some r):PureAt Tryz.prog 7 [(e27 a0)] (.tup [(.str r.1),(dI r.2)]):=pure_jd (d7 a0) Tryz.func7 h
noncomputable def d16 (a0 a1:List Int):JF Tryz.prog Tryz.f16 [(eSl 1 dI a0),(eSl 1 dI a1)] (fun(r:Bool)=>(.bool r)) :=
 (.sq 2 [] [(1,[4],[]),(0,[0,1],[])] (fun(_:Unit)=>⟨[(0,(.d (eSl 1 dI a0))),(1,(.d (eSl 1 dI a1)))],[],[],112⟩) (.ite ((a0.length:Int) != (a1.length:Int)) (.ret .ret ⟨[(4,(aB false))],[],[],128⟩ (.inr (false)) ⟨rfl,rfl,_,Weak.refl _,dr⟩) (.nx ())) (fun _=>(.sc (fun(_:Unit)=>⟨[],[],[],400⟩) (.sq 1 [] [(0,[0,1,12,13],[])] (fun(_:Unit)=>⟨[(0,(.d (eSl 1 dI a0))),(1,(.d (eSl 1 dI a1))),(12,(aI (a0.length:Int))),(13,(aI 0))],[],[],160⟩) (.nx ()) (fun _=>(.bk (.lp (fun(s1:Int)=>⟨[(0,(.d (eSl 1 dI a0))),(1,(.d (eSl 1 dI a1))),(12,(aI (a0.length:Int))),(13,(aI s1))],[],[],384⟩) (0:Int) (wk [] []) fun s1=>(.sg [] [(1,[4],[]),(0,[0,1,12,13],[]),(2,[],[])] (.ite (decide (s1 < (a0.length:Int))) (nd (0≤s1) (nd (s1 < (a0.length:Int)) (nd (0≤s1) (nd (s1 < (a1.length:Int)) (.ite ((a0.getD s1.toNat default) != (a1.getD s1.toNat default)) (.ret .ret ⟨[(4,(aB false))],[],[],592⟩ (.inr (.inr (false))) ⟨rfl,rfl,rfl,_,Weak.refl _,dr⟩) (.ret .normal ⟨[(0,(.d (eSl 1 dI a0))),(1,(.d (eSl 1 dI a1))),(12,(aI (a0.length:Int))),(13,(aI (IntKind.wrap .i64 (s1+1))))],[],[],608⟩ (.inl (IntKind.wrap .i64 (s1+1))) ⟨rfl,(wk [] [])⟩)))))) (.ret (.exit 0) _ (.inr (.inl ())) ⟨rfl,rfl,Weak.refl _⟩))))))) fun _=>(.sg [] [(1,[4],[])] (.ret .ret ⟨[(4,(aB true))],[],[],416⟩ true ⟨rfl,_,Weak.refl _,dr⟩)))))
noncomputable def m16 (a0 a1:List Int):Option (Bool):=(d16 a0 a1).m
theorem p16 {a0:List Int} {a1:List Int} {r:Bool} (h:m16 a0 a1=some r):PureAt Tryz.prog 16 [(eSl 1 dI a0),(eSl 1 dI a1)] (.bool r):=pure_jd (d16 a0 a1) Tryz.func16 h
noncomputable def d17 (a0 a1:List (List UInt8)):JF Tryz.prog Tryz.f17 [(eSl 1 D.str a0),(eSl 1 D.str a1)] (fun(r:Bool)=>(.bool r)) :=
 (.sq 2 [] [(1,[4],[]),(0,[0,1],[])] (fun(_:Unit)=>⟨[(0,(.d (eSl 1 D.str a0))),(1,(.d (eSl 1 D.str a1)))],[],[],112⟩) (.ite ((a0.length:Int) != (a1.length:Int)) (.ret .ret ⟨[(4,(aB false))],[],[],128⟩ (.inr (false)) ⟨rfl,rfl,_,Weak.refl _,dr⟩) (.nx ())) (fun _=>(.sc (fun(_:Unit)=>⟨[],[],[],400⟩) (.sq 1 [] [(0,[0,1,12,13],[])] (fun(_:Unit)=>⟨[(0,(.d (eSl 1 D.str a0))),(1,(.d (eSl 1 D.str a1))),(12,(aI (a0.length:Int))),(13,(aI 0))],[],[],160⟩) (.nx ()) (fun _=>(.bk (.lp (fun(s1:Int)=>⟨[(0,(.d (eSl 1 D.str a0))),(1,(.d (eSl 1 D.str a1))),(12,(aI (a0.length:Int))),(13,(aI s1))],[],[],384⟩) (0:Int) (wk [] []) fun s1=>(.sg [] [(1,[4],[]),(0,[0,1,12,13],[]),(2,[],[])] (.ite (decide (s1 < (a0.length:Int))) (nd (0≤s1) (nd (s1 < (a0.length:Int)) (nd (0≤s1) (nd (s1 < (a1.length:Int)) (.ite ((a0.getD s1.toNat default) != (a1.getD s1.toNat default)) (.ret .ret ⟨[(4,(aB false))],[],[],592⟩ (.inr (.inr (false))) ⟨rfl,rfl,rfl,_,Weak.refl _,dr⟩) (.ret .normal ⟨[(0,(.d (eSl 1 D.str a0))),(1,(.d (eSl 1 D.str a1))),(12,(aI (a0.length:Int))),(13,(aI (IntKind.wrap .i64 (s1+1))))],[],[],608⟩ (.inl (IntKind.wrap .i64 (s1+1))) ⟨rfl,(wk [] [])⟩)))))) (.ret (.exit 0) _ (.inr (.inl ())) ⟨rfl,rfl,Weak.refl _⟩))))))) fun _=>(.sg [] [(1,[4],[])] (.ret .ret ⟨[(4,(aB true))],[],[],416⟩ true ⟨rfl,_,Weak.refl _,dr⟩)))))
noncomputable def m17 (a0 a1:List (List UInt8)):Option (Bool):=(d17 a0 a1).m
theorem p17 {a0:List (List UInt8)} {a1:List (List UInt8)} {r:Bool} (h:m17 a0 a1=some r):PureAt Tryz.prog 17 [(eSl 1 D.str a0),(eSl 1 D.str a1)] (.bool r):=pure_jd (d17 a0 a1) Tryz.func17 h
noncomputable def d5:JF Tryz.prog Tryz.f5 [] (fun(r:Bool)=>(.bool r)) :=
 (.sg [(1,tm1 9 (fun(x:(T27×(List T80)))=>(.tup [(e27 x.1),(eSl 3 e80 x.2)]))),(2,tm1 15 (fun(x:((List Int)×(List (List UInt8))×Int))=>(.tup [(eSl 1 dI x.1),(eSl 1 D.str x.2.1),(dI x.2.2)]))),(3,tm1 21 (fun(x:((List UInt8)×Int))=>(.tup [(.str x.1),(dI x.2)]))),(4,⟨Bool×Bool×(List Int)×Bool×Bool,fun x=>[(30,(.bool x.1)),(35,(.bool x.2.1)),(51,(eSl 1 dI x.2.2.1)),(53,(.bool x.2.2.2.1)),(57,(.bool x.2.2.2.2))],fun x=>[],[]⟩)] [(1,[0],[])] (c3 (@p9 K0) fun x1=>(c2 (@p15 x1.1 ([(1:Int),(0:Int),(1:Int),(1:Int)]:List Int)) [(e27 x1.1),(.sl 1 4 (litF [(.int .u16 1),(.int .u16 0),(.int .u16 1),(.int .u16 1)]))] (dq ⟨dr,(de_lit rfl rfl),trivial⟩) fun x2=>(c3 (@p7 x1.1) fun x3=>(.exi (Bool×Bool×(List Int)×Bool×Bool) ((if((x1.2.length:Int)==(0:Int))=true then m16 x2.1 ([(0:Int),(2:Int),(3:Int),(0:Int),(3:Int)]:List Int)else some default).bind fun r4_0=>((if(((x1.2.length:Int)==(0:Int))&&r4_0)=true then m17 x2.2.1 ([([68,73,77]:List UInt8)]:List (List UInt8))else some default).bind fun r4_1=>((if(((((((x1.2.length:Int)==(0:Int))&&r4_0)&&r4_1)&&(x2.2.2==0))&&(x3.1==K0))&&(x3.2==0))=true then m18 x1.1 (2:Int) (0:Int)else some default).bind fun r4_2=>((if(((((((x1.2.length:Int)==(0:Int))&&r4_0)&&r4_1)&&(x2.2.2==0))&&(x3.1==K0))&&(x3.2==0))=true then m16 r4_2 ([(3:Int)]:List Int)else some default).bind fun r4_3=>((if((((((((x1.2.length:Int)==(0:Int))&&r4_0)&&r4_1)&&(x2.2.2==0))&&(x3.1==K0))&&(x3.2==0))&&r4_3)=true then m19 x1.1 (2:Int)else some default).bind fun r4_4=>some (r4_0,r4_1,r4_2,r4_3,r4_4)))))) (fun x4=>(.g ((x1.2.length:Int)==(0:Int)) (PureAt Tryz.prog 16 [(eSl 1 dI x2.1),(.sl 1 5 (litF [(dI 0),(dI 2),(dI 3),(dI 0),(dI 3)]))] (.bool x4.1)) (.g (((x1.2.length:Int)==(0:Int))&&x4.1) (PureAt Tryz.prog 17 [(eSl 1 D.str x2.2.1),(.sl 1 1 (litF [(.str ([68,73,77]:List UInt8))]))] (.bool x4.2.1)) (.g (((((((x1.2.length:Int)==(0:Int))&&x4.1)&&x4.2.1)&&(x2.2.2==0))&&(x3.1==K0))&&(x3.2==0)) (PureAt Tryz.prog 18 [(e27 x1.1),(dI 2),(.int .u16 0)] (eSl 1 dI x4.2.2.1)) (.g (((((((x1.2.length:Int)==(0:Int))&&x4.1)&&x4.2.1)&&(x2.2.2==0))&&(x3.1==K0))&&(x3.2==0)) (PureAt Tryz.prog 16 [(eSl 1 dI x4.2.2.1),(.sl 1 1 (litF [(dI 3)]))] (.bool x4.2.2.2.1)) (.g ((((((((x1.2.length:Int)==(0:Int))&&x4.1)&&x4.2.1)&&(x2.2.2==0))&&(x3.1==K0))&&(x3.2==0))&&x4.2.2.2.1) (PureAt Tryz.prog 19 [(e27 x1.1),(.int .u16 2)] (.bool x4.2.2.2.2)) (.fin 0))))))) (by intro x4 h;obtain⟨r4_0,h1,h⟩:=Option.bind_eq_some_iff.1 h;obtain⟨r4_1,h2,h⟩:=Option.bind_eq_some_iff.1 h;obtain⟨r4_2,h3,h⟩:=Option.bind_eq_some_iff.1 h;obtain⟨r4_3,h4,h⟩:=Option.bind_eq_some_iff.1 h;obtain⟨r4_4,h5,h⟩:=Option.bind_eq_some_iff.1 h;cases h;exact⟨fun g=>pure_de (p16 (by rw[if_pos g]at h1;exact h1)) ⟨dr,(de_lit rfl rfl),trivial⟩,fun g=>pure_de (p17 (by rw[if_pos g]at h2;exact h2)) ⟨dr,(de_lit rfl rfl),trivial⟩,fun g=>p18 (by rw[if_pos g]at h3;exact h3),fun g=>pure_de (p16 (by rw[if_pos g]at h4;exact h4)) ⟨dr,(de_lit rfl rfl),trivial⟩,fun g=>p19 (by rw[if_pos g]at h5;exact h5),trivial⟩) (fun x4 _=>(.ret .ret ⟨[(0,(aB (((((((((x1.2.length:Int)==(0:Int))&&x4.1)&&x4.2.1)&&(x2.2.2==0))&&(x3.1==K0))&&(x3.2==0))&&x4.2.2.2.1)&&(!x4.2.2.2.2))))],[],[160],1008⟩ (((((((((x1.2.length:Int)==(0:Int))&&x4.1)&&x4.2.1)&&(x2.2.2==0))&&(x3.1==K0))&&(x3.2==0))&&x4.2.2.2.1)&&(!x4.2.2.2.2)) ⟨rfl,_,Weak.refl _,dr⟩)))))))
noncomputable def m5:Option (Bool):=(d5 ).m
theorem p5 {r:Bool} (h:m5  = some r):PureAt Tryz.prog 5 [] (.bool r):=pure_jd (d5 ) Tryz.func5 h
noncomputable abbrev z6_0 (a0:T27):AV:=(.ap 1 (([]:List (List UInt8))++(subL a0.Conds 0 (if 6 < (a0.Conds.length:Int)then(6:Int)else(a0.Conds.length:Int)).toNat)).length (cF D.str (([]:List (List UInt8))++(subL a0.Conds 0 (if 6 < (a0.Conds.length:Int)then(6:Int)else(a0.Conds.length:Int)).toNat))) (.tok 240 9))
noncomputable abbrev z6_1:Ob:=(.cells [(aS ([]:List UInt8)),aN,aN,aN,(aI 0),aN])
noncomputable abbrev z6_2 (y2:(List (List T118))):AV:=(.ap 1 y2.length (cF (eSl 2 e118) y2) (.tok 752 54))
noncomputable abbrev z6_3 (y4:(List T56)):AV:=(.ap 6 y4.length (cF e56 y4) (.tok 1680 56))
noncomputable abbrev z6_4:List (Nat×AV):=[(1,(.ptr 16 0)),(2,(.ptr 32 0)),(3,(.ptr 272 0))]
noncomputable abbrev z6_5 (a0:T27):List (Nat×Ob):=[(16,(.cells (g27 a0))),(32,z6_1),(272,(.cells [(aS a0.Name),(z6_0 a0),aN,aN,(aI a0.Start),aN]))]
noncomputable def d6 (a0:T27):JF Tryz.prog Tryz.f6 [(e27 a0)] (fun(r:T27)=>(e27 r)) :=
 (.sq 2 [] [(0,[1,2,3],[16,32,272])] (fun(_:Unit)=>⟨z6_4,(z6_5 a0),[240],304⟩) (nd (0≤(if 6 < (a0.Conds.length:Int)then(6:Int)else(a0.Conds.length:Int))) (nd ((if 6 < (a0.Conds.length:Int)then(6:Int)else(a0.Conds.length:Int))≤(a0.Conds.length:Int)) (nd ((0+(if 6 < (a0.Conds.length:Int)then(6:Int)else(a0.Conds.length:Int)).toNat) * 16≤140737488355328) (.ret .normal ⟨z6_4,[(16,(.cells (g27 a0))),(32,z6_1),(272,(.cells [(aS a0.Name),(.ap 1 (0+(if 6 < (a0.Conds.length:Int)then(6:Int)else(a0.Conds.length:Int)).toNat) (appF 0 (litF []) (cF D.str a0.Conds)) (.tok 240 9)),aN,aN,(aI a0.Start),aN]))],[240],304⟩ (.inl ()) ⟨rfl,(ws (idn [16,32,272]) [(240,240)] ⟨⟨_,_,rfl,rfl,⟨dr,dr,dr,dr,dr,dr,trivial⟩⟩,⟨_,_,rfl,rfl,⟨dr,rfl,rfl,rfl,dr,rfl,trivial⟩⟩,⟨_,_,rfl,rfl,⟨dr,⟨rfl,rfl,rfl,(de_app (de_lit rfl rfl) de_sub0)⟩,rfl,rfl,dr,rfl,trivial⟩⟩⟩)⟩)))) (fun _=>(.sc (fun(y2:(List (List T118)))=>⟨z6_4,[(16,(.cells (g27 a0))),(32,z6_1),(272,(.cells [(aS a0.Name),(z6_0 a0),(z6_2 y2),aN,(aI a0.Start),aN]))],[240,752],992⟩) (.sq 1 [] [(0,[1,2,3,4],[16,32,272])] (fun(_:Unit)=>⟨[(1,(.ptr 16 0)),(2,(.ptr 32 0)),(3,(.ptr 272 0)),(4,(aI 0))],(z6_5 a0),[240],320⟩) (.nx ()) (fun _=>(.bk (.lp (fun(s1:Int×(List (List T118)))=>⟨[(1,(.ptr 16 0)),(2,(.ptr 32 0)),(3,(.ptr 272 0)),(4,(aI s1.1))],[(16,(.cells (g27 a0))),(32,z6_1),(272,(.cells [(aS a0.Name),(z6_0 a0),(.ap 1 s1.2.length (cF (eSl 2 e118) s1.2) (.tok 752 54)),aN,(aI a0.Start),aN]))],[240,752],848⟩) ((0:Int),[]) (wk (idn [16,32,272]) [(240,240)]) fun s1=>(.sg [] [(0,[1,2,3,4],[16,32,272]),(2,[1,2,3],[16,32,272])] (.ite ((decide (s1.1 < (a0.Never.length:Int)))&&(decide (s1.1 < 4))) (nd (0≤s1.1) (nd (s1.1 < (a0.Never.length:Int)) (nd (0≤s1.1) (nd (s1.1 < (a0.Never.length:Int)) (nd (0≤(if 6 < ((a0.Never.getD s1.1.toNat default).length:Int)then(6:Int)else((a0.Never.getD s1.1.toNat default).length:Int))) (nd ((if 6 < ((a0.Never.getD s1.1.toNat default).length:Int)then(6:Int)else((a0.Never.getD s1.1.toNat default).length:Int))≤((a0.Never.getD s1.1.toNat default).length:Int)) (nd ((0+(if 6 < ((a0.Never.getD s1.1.toNat default).length:Int)then(6:Int)else((a0.Never.getD s1.1.toNat default).length:Int)).toNat) * 16≤140737488355328) (nd ((s1.2.length+1) * 24≤140737488355328) (.ret .normal ⟨[(1,(.ptr 16 0)),(2,(.ptr 32 0)),(3,(.ptr 272 0)),(4,(aI (IntKind.wrap .i64 (s1.1+1))))],[(16,(.cells (g27 a0))),(32,z6_1),(272,(.cells [(aS a0.Name),(z6_0 a0),(.ap 1 (s1.2.length+1) (appF s1.2.length (cF (eSl 2 e118) s1.2) (litF [(.sl 2 (0+(if 6 < ((a0.Never.getD s1.1.toNat default).length:Int)then(6:Int)else((a0.Never.getD s1.1.toNat default).length:Int)).toNat) (appF 0 (litF []) (cF e118 (a0.Never.getD s1.1.toNat default))))])) (.tok 1280 54)),aN,(aI a0.Start),aN]))],[1280,1264,1248,240],1376⟩ (.inl ((IntKind.wrap .i64 (s1.1+1)),(s1.2++([(([]:List T118)++(subL (a0.Never.getD s1.1.toNat default) 0 (if 6 < ((a0.Never.getD s1.1.toNat default).length:Int)then(6:Int)else((a0.Never.getD s1.1.toNat default).length:Int)).toNat))]:List (List T118))))) ⟨rfl,(ws (idn [16,32,272]) [(240,240),(752,1280)] ⟨⟨_,_,rfl,rfl,⟨dr,dr,dr,dr,dr,dr,trivial⟩⟩,⟨_,_,rfl,rfl,⟨dr,rfl,rfl,rfl,dr,rfl,trivial⟩⟩,⟨_,_,rfl,rfl,⟨dr,⟨rfl,rfl,rfl,dr⟩,⟨rfl,rfl,rfl,(de_app dr (de_litD rfl ⟨(de_app (de_lit rfl rfl) de_sub0),trivial⟩))⟩,rfl,dr,rfl,trivial⟩⟩⟩)⟩))))))))) (.ret (.exit 0) _ (.inr (.inl s1.2)) ⟨rfl,rfl,Weak.refl _⟩))))))) fun y2=>(.sc (fun(y4:(List T56))=>⟨z6_4,[(16,(.cells (g27 a0))),(32,z6_1),(272,(.cells [(aS a0.Name),(z6_0 a0),(z6_2 y2),(z6_3 y4),(aI a0.Start),aN]))],[240,752,1680],1920⟩) (.sq 1 [] [(0,[1,2,3,5],[16,32,272])] (fun(_:Unit)=>⟨[(1,(.ptr 16 0)),(2,(.ptr 32 0)),(3,(.ptr 272 0)),(5,(aI 0))],[(16,(.cells (g27 a0))),(32,z6_1),(272,(.cells [(aS a0.Name),(z6_0 a0),(z6_2 y2),aN,(aI a0.Start),aN]))],[240,752],1008⟩) (.nx ()) (fun _=>(.bk (.lp (fun(s3:Int×(List T56))=>⟨[(1,(.ptr 16 0)),(2,(.ptr 32 0)),(3,(.ptr 272 0)),(5,(aI s3.1))],[(16,(.cells (g27 a0))),(32,z6_1),(272,(.cells [(aS a0.Name),(z6_0 a0),(z6_2 y2),(.ap 6 s3.2.length (cF e56 s3.2) (.tok 1680 56)),(aI a0.Start),aN]))],[240,752,1680],1776⟩) ((0:Int),[]) (wk (idn [16,32,272]) (idn [240,752])) fun s3=>(.sg [] [(0,[1,2,3,5],[16,32,272]),(4,[1,2,3],[16,32,272])] (.ite ((decide (s3.1 < (a0.States.length:Int)))&&(decide (s3.1 < 12))) (nd (0≤s3.1) (nd (s3.1 < (a0.States.length:Int)) (nd (0≤(if 9 < ((a0.States.getD s3.1.toNat default).Entry.length:Int)then(9:Int)else((a0.States.getD s3.1.toNat default).Entry.length:Int))) (nd ((if 9 < ((a0.States.getD s3.1.toNat default).Entry.length:Int)then(9:Int)else((a0.States.getD s3.1.toNat default).Entry.length:Int))≤((a0.States.getD s3.1.toNat default).Entry.length:Int)) (nd ((0+(if 9 < ((a0.States.getD s3.1.toNat default).Entry.length:Int)then(9:Int)else((a0.States.getD s3.1.toNat default).Entry.length:Int)).toNat) * 16≤140737488355328) (nd (0≤(if 9 < ((a0.States.getD s3.1.toNat default).Exit.length:Int)then(9:Int)else((a0.States.getD s3.1.toNat default).Exit.length:Int))) (nd ((if 9 < ((a0.States.getD s3.1.toNat default).Exit.length:Int)then(9:Int)else((a0.States.getD s3.1.toNat default).Exit.length:Int))≤((a0.States.getD s3.1.toNat default).Exit.length:Int)) (nd ((0+(if 9 < ((a0.States.getD s3.1.toNat default).Exit.length:Int)then(9:Int)else((a0.States.getD s3.1.toNat default).Exit.length:Int)).toNat) * 16≤140737488355328) (nd ((s3.2.length+1) * 88≤140737488355328) (.ret .normal ⟨[(1,(.ptr 16 0)),(2,(.ptr 32 0)),(3,(.ptr 272 0)),(5,(aI (IntKind.wrap .i64 (s3.1+1))))],[(16,(.cells (g27 a0))),(32,z6_1),(272,(.cells [(aS a0.Name),(z6_0 a0),(z6_2 y2),(.ap 6 (s3.2.length+1) (appF s3.2.length (cF e56 s3.2) (litF [(.agg [(.str (a0.States.getD s3.1.toNat default).Name),(dI (a0.States.getD s3.1.toNat default).Parent),(dI (a0.States.getD s3.1.toNat default).Initial),(.bool (a0.States.getD s3.1.toNat default).History),(.sl 1 (0+(if 9 < ((a0.States.getD s3.1.toNat default).Entry.length:Int)then(9:Int)else((a0.States.getD s3.1.toNat default).Entry.length:Int)).toNat) (appF 0 (litF []) (cF D.str (a0.States.getD s3.1.toNat default).Entry))),(.sl 1 (0+(if 9 < ((a0.States.getD s3.1.toNat default).Exit.length:Int)then(9:Int)else((a0.States.getD s3.1.toNat default).Exit.length:Int)).toNat) (appF 0 (litF []) (cF D.str (a0.States.getD s3.1.toNat default).Exit)))])])) (.tok 2448 56)),(aI a0.Start),aN]))],[2448,2432,2336,2160,240,752],2544⟩ (.inl ((IntKind.wrap .i64 (s3.1+1)),(s3.2++([(⟨(a0.States.getD s3.1.toNat default).Name,(a0.States.getD s3.1.toNat default).Parent,(a0.States.getD s3.1.toNat default).Initial,(a0.States.getD s3.1.toNat default).History,(([]:List (List UInt8))++(subL (a0.States.getD s3.1.toNat default).Entry 0 (if 9 < ((a0.States.getD s3.1.toNat default).Entry.length:Int)then(9:Int)else((a0.States.getD s3.1.toNat default).Entry.length:Int)).toNat)),(([]:List (List UInt8))++(subL (a0.States.getD s3.1.toNat default).Exit 0 (if 9 < ((a0.States.getD s3.1.toNat default).Exit.length:Int)then(9:Int)else((a0.States.getD s3.1.toNat default).Exit.length:Int)).toNat))⟩:T56)]:List T56)))) ⟨rfl,(ws (idn [16,32,272]) [(240,240),(752,752),(1680,2448)] ⟨⟨_,_,rfl,rfl,⟨dr,dr,dr,dr,dr,dr,trivial⟩⟩,⟨_,_,rfl,rfl,⟨dr,rfl,rfl,rfl,dr,rfl,trivial⟩⟩,⟨_,_,rfl,rfl,⟨dr,⟨rfl,rfl,rfl,dr⟩,⟨rfl,rfl,rfl,dr⟩,⟨rfl,rfl,rfl,(de_app dr (de_litD rfl ⟨(.inr ⟨dr,dr,dr,dr,(de_app (de_lit rfl rfl) de_sub0),(de_app (de_lit rfl rfl) de_sub0),trivial⟩),trivial⟩))⟩,dr,rfl,trivial⟩⟩⟩)⟩)))))))))) (.ret (.exit 2) _ (.inr (.inl s3.2)) ⟨rfl,rfl,Weak.refl _⟩))))))) fun y4=>(.sc (fun(y6:(List T58))=>⟨[(2,(.ptr 32 0)),(3,(.ptr 272 0))],[(32,z6_1),(272,(.cells [(aS a0.Name),(z6_0 a0),(z6_2 y2),(z6_3 y4),(aI a0.Start),(.ap 4 y6.length (cF e58 y6) (.tok 2608 58))]))],[240,752,1680,2608],2848⟩) (.sq 1 [] [(0,[1,2,3,7],[16,32,272])] (fun(_:Unit)=>⟨[(1,(.ptr 16 0)),(2,(.ptr 32 0)),(3,(.ptr 272 0)),(7,(aI 0))],[(16,(.cells (g27 a0))),(32,z6_1),(272,(.cells [(aS a0.Name),(z6_0 a0),(z6_2 y2),(z6_3 y4),(aI a0.Start),aN]))],[240,752,1680],1936⟩) (.nx ()) (fun _=>(.bk (.lp (fun(s5:Int×(List T58))=>⟨[(1,(.ptr 16 0)),(2,(.ptr 32 0)),(3,(.ptr 272 0)),(7,(aI s5.1))],[(16,(.cells (g27 a0))),(32,z6_1),(272,(.cells [(aS a0.Name),(z6_0 a0),(z6_2 y2),(z6_3 y4),(aI a0.Start),(.ap 4 s5.2.length (cF e58 s5.2) (.tok 2608 58))]))],[240,752,1680,2608],2704⟩) ((0:Int),[]) (wk (idn [16,32,272]) (idn [240,752,1680])) fun s5=>(.sg [] [(0,[1,2,3,7],[16,32,272]),(6,[2,3],[32,272])] (.ite ((decide (s5.1 < (a0.Transitions.length:Int)))&&(decide (s5.1 < 24))) (nd (0≤s5.1) (nd (s5.1 < (a0.Transitions.length:Int)) (nd (0≤(if 6 < ((a0.Transitions.getD s5.1.toNat default).When.length:Int)then(6:Int)else((a0.Transitions.getD s5.1.toNat default).When.length:Int))) (nd ((if 6 < ((a0.Transitions.getD s5.1.toNat default).When.length:Int)then(6:Int)else((a0.Transitions.getD s5.1.toNat default).When.length:Int))≤((a0.Transitions.getD s5.1.toNat default).When.length:Int)) (nd ((0+(if 6 < ((a0.Transitions.getD s5.1.toNat default).When.length:Int)then(6:Int)else((a0.Transitions.getD s5.1.toNat default).When.length:Int)).toNat) * 16≤140737488355328) (nd (0≤(if 9 < ((a0.Transitions.getD s5.1.toNat default).Actions.length:Int)then(9:Int)else((a0.Transitions.getD s5.1.toNat default).Actions.length:Int))) (nd ((if 9 < ((a0.Transitions.getD s5.1.toNat default).Actions.length:Int)then(9:Int)else((a0.Transitions.getD s5.1.toNat default).Actions.length:Int))≤((a0.Transitions.getD s5.1.toNat default).Actions.length:Int)) (nd ((0+(if 9 < ((a0.Transitions.getD s5.1.toNat default).Actions.length:Int)then(9:Int)else((a0.Transitions.getD s5.1.toNat default).Actions.length:Int)).toNat) * 16≤140737488355328) (nd ((s5.2.length+1) * 64≤140737488355328) (.ret .normal ⟨[(1,(.ptr 16 0)),(2,(.ptr 32 0)),(3,(.ptr 272 0)),(7,(aI (IntKind.wrap .i64 (s5.1+1))))],[(16,(.cells (g27 a0))),(32,z6_1),(272,(.cells [(aS a0.Name),(z6_0 a0),(z6_2 y2),(z6_3 y4),(aI a0.Start),(.ap 4 (s5.2.length+1) (appF s5.2.length (cF e58 s5.2) (litF [(.agg [(dI (a0.Transitions.getD s5.1.toNat default).From),(dI (a0.Transitions.getD s5.1.toNat default).To),(.sl 2 (0+(if 6 < ((a0.Transitions.getD s5.1.toNat default).When.length:Int)then(6:Int)else((a0.Transitions.getD s5.1.toNat default).When.length:Int)).toNat) (appF 0 (litF []) (cF e118 (a0.Transitions.getD s5.1.toNat default).When))),(.sl 1 (0+(if 9 < ((a0.Transitions.getD s5.1.toNat default).Actions.length:Int)then(9:Int)else((a0.Transitions.getD s5.1.toNat default).Actions.length:Int)).toNat) (appF 0 (litF []) (cF D.str (a0.Transitions.getD s5.1.toNat default).Actions)))])])) (.tok 3376 58))]))],[3376,3360,3264,3088,240,752,1680],3472⟩ (.inl ((IntKind.wrap .i64 (s5.1+1)),(s5.2++([(⟨(a0.Transitions.getD s5.1.toNat default).From,(a0.Transitions.getD s5.1.toNat default).To,(([]:List T118)++(subL (a0.Transitions.getD s5.1.toNat default).When 0 (if 6 < ((a0.Transitions.getD s5.1.toNat default).When.length:Int)then(6:Int)else((a0.Transitions.getD s5.1.toNat default).When.length:Int)).toNat)),(([]:List (List UInt8))++(subL (a0.Transitions.getD s5.1.toNat default).Actions 0 (if 9 < ((a0.Transitions.getD s5.1.toNat default).Actions.length:Int)then(9:Int)else((a0.Transitions.getD s5.1.toNat default).Actions.length:Int)).toNat))⟩:T58)]:List T58)))) ⟨rfl,(ws (idn [16,32,272]) [(240,240),(752,752),(1680,1680),(2608,3376)] ⟨⟨_,_,rfl,rfl,⟨dr,dr,dr,dr,dr,dr,trivial⟩⟩,⟨_,_,rfl,rfl,⟨dr,rfl,rfl,rfl,dr,rfl,trivial⟩⟩,⟨_,_,rfl,rfl,⟨dr,⟨rfl,rfl,rfl,dr⟩,⟨rfl,rfl,rfl,dr⟩,⟨rfl,rfl,rfl,dr⟩,dr,⟨rfl,rfl,rfl,(de_app dr (de_litD rfl ⟨(.inr ⟨dr,dr,(de_app (de_lit rfl rfl) de_sub0),(de_app (de_lit rfl rfl) de_sub0),trivial⟩),trivial⟩))⟩,trivial⟩⟩⟩)⟩)))))))))) (.ret (.exit 4) _ (.inr (.inl s5.2)) ⟨rfl,rfl,Weak.refl _⟩))))))) fun y6=>(.sg [] [(1,[2],[32])] (.ret .ret ⟨[(2,(.ptr 32 0))],[(32,(.cells [(aS a0.Name),(z6_0 a0),(z6_2 y2),(z6_3 y4),(aI a0.Start),(.ap 4 y6.length (cF e58 y6) (.tok 2608 58))]))],[240,752,1680,2608],2880⟩ (⟨a0.Name,(([]:List (List UInt8))++(subL a0.Conds 0 (if 6 < (a0.Conds.length:Int)then(6:Int)else(a0.Conds.length:Int)).toNat)),y2,y4,a0.Start,y6⟩:T27) ⟨rfl,_,Weak.refl _,⟨dr,dr,dr,dr,dr,dr,trivial⟩⟩)))))))
noncomputable def m6 (a0:T27):Option (T27):=(d6 a0).m
theorem p6 {a0:T27} {r:T27} (h:m6 a0=some r):PureAt Tryz.prog 6 [(e27 a0)] (e27 r):=pure_jd (d6 a0) Tryz.func6 h
noncomputable def d56 (a0:List UInt8) (a1:Int):JF Tryz.prog Tryz.f56 [(.str a0),(dI a1)] (fun(r:Bool)=>(.bool r)) :=
 (.sq 2 [] [(1,[4],[]),(0,[0],[])] (fun(_:Unit)=>⟨[(0,(aS a0))],[],[],336⟩) (.needG (!((decide ((a0.length:Int) < (1:Int))) || (decide (a1 < (a0.length:Int))))) ((0:Int)≤(0:Int)) inferInstance (.needG (!((decide ((a0.length:Int) < (1:Int))) || (decide (a1 < (a0.length:Int))))) (0 < (a0.length:Int)) inferInstance (.needG (!(((decide ((a0.length:Int) < (1:Int))) || (decide (a1 < (a0.length:Int)))) || (decide ((byteAt a0 (0:Int).toNat) < 65)))) ((0:Int)≤(0:Int)) inferInstance (.needG (!(((decide ((a0.length:Int) < (1:Int))) || (decide (a1 < (a0.length:Int)))) || (decide ((byteAt a0 (0:Int).toNat) < 65)))) (0 < (a0.length:Int)) inferInstance (.ite ((((decide ((a0.length:Int) < (1:Int))) || (decide (a1 < (a0.length:Int)))) || (decide ((byteAt a0 (0:Int).toNat) < 65))) || (decide (90 < (byteAt a0 (0:Int).toNat)))) (.ret .ret ⟨[(4,(aB false))],[],[],352⟩ (.inr (false)) ⟨rfl,rfl,_,Weak.refl _,dr⟩) (.nx ())))))) (fun _=>(.sc (fun(_:Unit)=>⟨[],[],[],880⟩) (.sq 1 [] [(0,[0,5],[])] (fun(_:Unit)=>⟨[(0,(aS a0)),(5,(aI 0))],[],[],352⟩) (.nx ()) (fun _=>(.bk (.lp (fun(s1:Int)=>⟨[(0,(aS a0)),(5,(aI s1))],[],[],816⟩) (0:Int) (wk [] []) fun s1=>(.sg [] [(1,[4],[]),(0,[0,5],[]),(2,[],[])] (.ite (decide (s1 < (a0.length:Int))) (nd (0≤s1) (nd (s1 < (a0.length:Int)) (.needG (!(decide ((byteAt a0 s1.toNat) < 65))) (0≤s1) inferInstance (.needG (!(decide ((byteAt a0 s1.toNat) < 65))) (s1 < (a0.length:Int)) inferInstance (.needG ((decide ((byteAt a0 s1.toNat) < 65)) || (decide (90 < (byteAt a0 s1.toNat)))) (0≤s1) inferInstance (.needG ((decide ((byteAt a0 s1.toNat) < 65)) || (decide (90 < (byteAt a0 s1.toNat)))) (s1 < (a0.length:Int)) inferInstance (.needG (((decide ((byteAt a0 s1.toNat) < 65)) || (decide (90 < (byteAt a0 s1.toNat))))&&(!(decide ((byteAt a0 s1.toNat) < 48)))) (0≤s1) inferInstance (.needG (((decide ((byteAt a0 s1.toNat) < 65)) || (decide (90 < (byteAt a0 s1.toNat))))&&(!(decide ((byteAt a0 s1.toNat) < 48)))) (s1 < (a0.length:Int)) inferInstance (.ite (((decide ((byteAt a0 s1.toNat) < 65)) || (decide (90 < (byteAt a0 s1.toNat))))&&((decide ((byteAt a0 s1.toNat) < 48)) || (decide (57 < (byteAt a0 s1.toNat))))) (.ret .ret ⟨[(4,(aB false))],[],[],1248⟩ (.inr (.inr (false))) ⟨rfl,rfl,rfl,_,Weak.refl _,dr⟩) (.ret .normal ⟨[(0,(aS a0)),(5,(aI (IntKind.wrap .i64 (s1+1))))],[],[],1280⟩ (.inl (IntKind.wrap .i64 (s1+1))) ⟨rfl,(wk [] [])⟩)))))))))) (.ret (.exit 0) _ (.inr (.inl ())) ⟨rfl,rfl,Weak.refl _⟩))))))) fun _=>(.sg [] [(1,[4],[])] (.ret .ret ⟨[(4,(aB true))],[],[],896⟩ true ⟨rfl,_,Weak.refl _,dr⟩)))))
noncomputable def m56 (a0:List UInt8) (a1:Int):Option (Bool):=(d56 a0 a1).m
theorem p56 {a0:List UInt8} {a1:Int} {r:Bool} (h:m56 a0 a1=some r):PureAt Tryz.prog 56 [(.str a0),(dI a1)] (.bool r):=pure_jd (d56 a0 a1) Tryz.func56 h
noncomputable def d57 (a0:T27) (a1:List T118):JF Tryz.prog Tryz.f57 [(e27 a0),(eSl 2 e118 a1)] (fun(r:Int)=>(dI r)) :=
 (.sq 1 [] [(0,[1,2],[16])] (fun(_:Unit)=>⟨[(1,(.d (eSl 2 e118 a1))),(2,(.ptr 16 0))],[(16,(.cells (g27 a0)))],[],48⟩) (.nx ()) (fun _=>(.sc (fun(_:Unit)=>⟨[],[],[],640⟩) (.sq 1 [] [(0,[1,2,7,8,9],[16])] (fun(_:Unit)=>⟨[(1,(.d (eSl 2 e118 a1))),(2,(.ptr 16 0)),(7,(.d (eSl 2 e118 a1))),(8,(aI (a1.length:Int))),(9,(aI 0))],[(16,(.cells (g27 a0)))],[],96⟩) (.nx ()) (fun _=>(.bk (.lp (fun(s1:Int)=>⟨[(1,(.d (eSl 2 e118 a1))),(2,(.ptr 16 0)),(7,(.d (eSl 2 e118 a1))),(8,(aI (a1.length:Int))),(9,(aI s1))],[(16,(.cells (g27 a0)))],[],624⟩) (0:Int) (wk [(16,16)] []) fun s1=>(.sg [] [(1,[4],[]),(0,[1,2,7,8,9],[16]),(2,[],[])] (.ite (decide (s1 < (a1.length:Int))) (nd (0≤s1) (nd (s1 < (a1.length:Int)) (.ite ((decide ((a1.getD s1.toNat default).Cond < 0)) || (decide ((a0.Conds.length:Int)≤(a1.getD s1.toNat default).Cond))) (.ret .ret ⟨[(4,(aI 2))],[],[],928⟩ (.inr (.inr ((2:Int)))) ⟨rfl,rfl,rfl,_,Weak.refl _,dr⟩) (.needG (decide (0 < s1)) (0≤(IntKind.wrap .i64 (s1 - 1))) inferInstance (.needG (decide (0 < s1)) ((IntKind.wrap .i64 (s1 - 1)) < (a1.length:Int)) inferInstance (.ite ((decide (0 < s1))&&(decide ((a1.getD s1.toNat default).Cond≤(a1.getD (IntKind.wrap .i64 (s1 - 1)).toNat default).Cond))) (.ret .ret ⟨[(4,(aI 9))],[],[],1136⟩ (.inr (.inr ((9:Int)))) ⟨rfl,rfl,rfl,_,Weak.refl _,dr⟩) (.ret .normal ⟨[(1,(.d (eSl 2 e118 a1))),(2,(.ptr 16 0)),(7,(.d (eSl 2 e118 a1))),(8,(aI (a1.length:Int))),(9,(aI (IntKind.wrap .i64 (s1+1))))],[(16,(.cells (g27 a0)))],[],1152⟩ (.inl (IntKind.wrap .i64 (s1+1))) ⟨rfl,(wk [(16,16)] [])⟩))))))) (.ret (.exit 0) _ (.inr (.inl ())) ⟨rfl,rfl,Weak.refl _⟩))))))) fun _=>(.sg [] [(1,[4],[])] (.ret .ret ⟨[(4,(aI 0))],[],[],656⟩ (0:Int) ⟨rfl,_,Weak.refl _,dr⟩)))))
noncomputable def m57 (a0:T27) (a1:List T118):Option (Int):=(d57 a0 a1).m
theorem p57 {a0:T27} {a1:List T118} {r:Int} (h:m57 a0 a1=some r):PureAt Tryz.prog 57 [(e27 a0),(eSl 2 e118 a1)] (dI r):=pure_jd (d57 a0 a1) Tryz.func57 h
noncomputable def d87 (a0:T27) (a1:Int):JF Tryz.prog Tryz.f87 [(e27 a0),(dI a1)] (fun(r:Bool)=>(.bool r)) :=
 (.sq 1 [] [(0,[1,2],[16])] (fun(_:Unit)=>⟨[(1,(aI a1)),(2,(.ptr 16 0))],[(16,(.cells (g27 a0)))],[],48⟩) (.nx ()) (fun _=>(.sc (fun(_:Unit)=>⟨[],[],[],304⟩) (.sq 1 [] [(0,[1,8,9,10],[])] (fun(_:Unit)=>⟨[(1,(aI a1)),(8,(.d (eSl 6 e56 a0.States))),(9,(aI (a0.States.length:Int))),(10,(aI 0))],[],[],112⟩) (.nx ()) (fun _=>(.bk (.lp (fun(s1:Int)=>⟨[(1,(aI a1)),(8,(.d (eSl 6 e56 a0.States))),(9,(aI (a0.States.length:Int))),(10,(aI s1))],[],[],288⟩) (0:Int) (wk [] []) fun s1=>(.sg [] [(1,[4],[]),(0,[1,8,9,10],[]),(2,[],[])] (.ite (decide (s1 < (a0.States.length:Int))) (nd (0≤s1) (nd (s1 < (a0.States.length:Int)) (.ite ((a0.States.getD s1.toNat default).Parent==a1) (.ret .ret ⟨[(4,(aB true))],[],[],448⟩ (.inr (.inr (true))) ⟨rfl,rfl,rfl,_,Weak.refl _,dr⟩) (.ret .normal ⟨[(1,(aI a1)),(8,(.d (eSl 6 e56 a0.States))),(9,(aI (a0.States.length:Int))),(10,(aI (IntKind.wrap .i64 (s1+1))))],[],[],464⟩ (.inl (IntKind.wrap .i64 (s1+1))) ⟨rfl,(wk [] [])⟩)))) (.ret (.exit 0) _ (.inr (.inl ())) ⟨rfl,rfl,Weak.refl _⟩))))))) fun _=>(.sg [] [(1,[4],[])] (.ret .ret ⟨[(4,(aB false))],[],[],320⟩ false ⟨rfl,_,Weak.refl _,dr⟩)))))
noncomputable def m87 (a0:T27) (a1:Int):Option (Bool):=(d87 a0 a1).m
theorem p87 {a0:T27} {a1:Int} {r:Bool} (h:m87 a0 a1=some r):PureAt Tryz.prog 87 [(e27 a0),(dI a1)] (.bool r):=pure_jd (d87 a0 a1) Tryz.func87 h
noncomputable def d88 (a0:T27) (a1 a2:Int):JF Tryz.prog Tryz.f88 [(e27 a0),(dI a1),(dI a2)] (fun(r:Bool)=>(.bool r)) :=
 (.sg [] [(1,[6],[])] (.needG ((decide (0≤a1))&&(decide (a1 < (a0.States.length:Int)))) (0≤a1) inferInstance (.needG ((decide (0≤a1))&&(decide (a1 < (a0.States.length:Int)))) (a1 < (a0.States.length:Int)) inferInstance (.ret .ret ⟨[(6,(aB (((decide (0≤a1))&&(decide (a1 < (a0.States.length:Int))))&&((a0.States.getD a1.toNat default).Parent==a2))))],[],[],368⟩ (((decide (0≤a1))&&(decide (a1 < (a0.States.length:Int))))&&((a0.States.getD a1.toNat default).Parent==a2)) ⟨rfl,_,Weak.refl _,dr⟩))))
noncomputable def m88 (a0:T27) (a1 a2:Int):Option (Bool):=(d88 a0 a1 a2).m
theorem p88 {a0:T27} {a1:Int} {a2:Int} {r:Bool} (h:m88 a0 a1 a2=some r):PureAt Tryz.prog 88 [(e27 a0),(dI a1),(dI a2)] (.bool r):=pure_jd (d88 a0 a1 a2) Tryz.func88 h
noncomputable def d59 (a0:List (List UInt8)):JF Tryz.prog Tryz.f59 [(eSl 1 D.str a0)] (fun(r:Int)=>(dI r)) :=
 (.sq 2 [] [(1,[2],[]),(0,[0],[])] (fun(_:Unit)=>⟨[(0,(.d (eSl 1 D.str a0)))],[],[],80⟩) (.ite (decide (8 < (a0.length:Int))) (.ret .ret ⟨[(2,(aI 3))],[],[],96⟩ (.inr ((3:Int))) ⟨rfl,rfl,_,Weak.refl _,dr⟩) (.nx ())) (fun _=>(.sc (fun(_:Unit)=>⟨[],[],[],288⟩) (.sq 1 [] [(0,[8,9,10],[])] (fun(_:Unit)=>⟨[(8,(.d (eSl 1 D.str a0))),(9,(aI (a0.length:Int))),(10,(aI 0))],[],[],128⟩) (.nx ()) (fun _=>(.bk (.lp (fun(s1:Int)=>⟨[(8,(.d (eSl 1 D.str a0))),(9,(aI (a0.length:Int))),(10,(aI s1))],[],[],272⟩) (0:Int) (wk [] []) fun s1=>(.sg [(6,tm1 15 D.bool)] [(1,[2],[]),(0,[8,9,10],[]),(2,[],[])] (.ite (decide (s1 < (a0.length:Int))) (nd (0≤s1) (nd (s1 < (a0.length:Int)) (c3 (@p56 (a0.getD s1.toNat default) (8:Int)) fun x6=>(.ite (!x6) (.ret .ret ⟨[(2,(aI 5))],[],[],400⟩ (.inr (.inr ((5:Int)))) ⟨rfl,rfl,rfl,_,Weak.refl _,dr⟩) (.ret .normal ⟨[(8,(.d (eSl 1 D.str a0))),(9,(aI (a0.length:Int))),(10,(aI (IntKind.wrap .i64 (s1+1))))],[],[],416⟩ (.inl (IntKind.wrap .i64 (s1+1))) ⟨rfl,(wk [] [])⟩))))) (.ret (.exit 0) _ (.inr (.inl ())) ⟨rfl,rfl,Weak.refl _⟩))))))) fun _=>(.sg [] [(1,[2],[])] (.ret .ret ⟨[(2,(aI 0))],[],[],304⟩ (0:Int) ⟨rfl,_,Weak.refl _,dr⟩)))))
noncomputable def m59 (a0:List (List UInt8)):Option (Int):=(d59 a0).m
theorem p59 {a0:List (List UInt8)} {r:Int} (h:m59 a0=some r):PureAt Tryz.prog 59 [(eSl 1 D.str a0)] (dI r):=pure_jd (d59 a0) Tryz.func59 h
noncomputable abbrev z58_0 (a0:T27) (a1:Int):List (Nat×Ob):=[(16,(.cells (g27 a0))),(128,(.cells [(aS (a0.States.getD a1.toNat default).Name),(aI (a0.States.getD a1.toNat default).Parent),(aI (a0.States.getD a1.toNat default).Initial),(aB (a0.States.getD a1.toNat default).History),(.d (eSl 1 D.str (a0.States.getD a1.toNat default).Entry)),(.d (eSl 1 D.str (a0.States.getD a1.toNat default).Exit))]))]
noncomputable def d58 (a0:T27) (a1:Int):JF Tryz.prog Tryz.f58 [(e27 a0),(dI a1)] (fun(r:Int)=>(dI r)) :=
 (.sq 3 [(2,tm1 16 D.bool)] [(1,[4],[]),(0,[1,2,5],[16,128])] (fun(_:Unit)=>⟨[(1,(aI a1)),(2,(.ptr 16 0)),(5,(.ptr 128 0))],(z58_0 a0 a1),[],224⟩) (nd (0≤a1) (nd (a1 < (a0.States.length:Int)) (c3 (@p56 (a0.States.getD a1.toNat default).Name (8:Int)) fun x2=>(.ite (!x2) (.ret .ret ⟨[(4,(aI 5))],[],[],240⟩ (.inr ((5:Int))) ⟨rfl,rfl,_,Weak.refl _,dr⟩) (.nx ()))))) (fun _=>(.sc (fun(_:Unit)=>⟨[(1,(aI a1)),(2,(.ptr 16 0)),(5,(.ptr 128 0))],(z58_0 a0 a1),[],528⟩) (.sq 1 [] [(0,[1,2,5,21,22,23],[16,128])] (fun(_:Unit)=>⟨[(1,(aI a1)),(2,(.ptr 16 0)),(5,(.ptr 128 0)),(21,(.d (eSl 6 e56 (subL a0.States 0 a1.toNat)))),(22,(aI (a1.toNat:Int))),(23,(aI 0))],(z58_0 a0 a1),[],320⟩) (nd (0≤a1) (nd (a1≤(a0.States.length:Int)) (.ret .normal ⟨[(1,(aI a1)),(2,(.ptr 16 0)),(5,(.ptr 128 0)),(21,(.d (.sl 6 a1.toNat (cF e56 a0.States)))),(22,(aI (a1.toNat:Int))),(23,(aI 0))],(z58_0 a0 a1),[],320⟩ (.inl ()) ⟨rfl,(wh (idn [16,128]) [] ⟨dr,⟨rfl,rfl⟩,⟨rfl,rfl⟩,de_sub0,dr,dr⟩)⟩))) (fun _=>(.bk (.lp (fun(s1:Int)=>⟨[(1,(aI a1)),(2,(.ptr 16 0)),(5,(.ptr 128 0)),(21,(.d (eSl 6 e56 (subL a0.States 0 a1.toNat)))),(22,(aI (a1.toNat:Int))),(23,(aI s1))],(z58_0 a0 a1),[],512⟩) (0:Int) (wk (idn [16,128]) []) fun s1=>(.sg [] [(1,[4],[]),(0,[1,2,5,21,22,23],[16,128]),(2,[1,2,5],[16,128])] (.ite (decide (s1 < (a1.toNat:Int))) (nd (0≤s1) (nd (s1 < ((subL a0.States 0 a1.toNat).length:Int)) (.ite (((subL a0.States 0 a1.toNat).getD s1.toNat default).Name==(a0.States.getD a1.toNat default).Name) (.ret .ret ⟨[(4,(aI 7))],[],[],688⟩ (.inr (.inr ((7:Int)))) ⟨rfl,rfl,rfl,_,Weak.refl _,dr⟩) (.ret .normal ⟨[(1,(aI a1)),(2,(.ptr 16 0)),(5,(.ptr 128 0)),(21,(.d (eSl 6 e56 (subL a0.States 0 a1.toNat)))),(22,(aI (a1.toNat:Int))),(23,(aI (IntKind.wrap .i64 (s1+1))))],(z58_0 a0 a1),[],704⟩ (.inl (IntKind.wrap .i64 (s1+1))) ⟨rfl,(wk (idn [16,128]) [])⟩)))) (.ret (.exit 0) _ (.inr (.inl ())) ⟨rfl,rfl,Weak.refl _⟩))))))) fun _=>(.sg [(12,⟨Bool×Bool×Bool,fun x=>[(44,(.bool x.1)),(50,(.bool x.2.1)),(56,(.bool x.2.2))],fun x=>[],[]⟩),(14,tm1 66 D.bool),(16,tm1 74 dI),(19,tm1 80 dI)] [(1,[4],[])] (.ite ((decide ((a0.States.getD a1.toNat default).Parent < (-1:Int))) || (decide (a1≤(a0.States.getD a1.toNat default).Parent))) (.ret .ret ⟨[(4,(aI 9))],[],[],688⟩ (9:Int) ⟨rfl,_,Weak.refl _,dr⟩) (.exi (Bool×Bool×Bool) ((m87 a0 a1).bind fun r12_0=>((if r12_0=true then m88 a0 (a0.States.getD a1.toNat default).Initial a1 else some default).bind fun r12_1=>((if(!(r12_0&&(!r12_1)))=true then m87 a0 a1 else some default).bind fun r12_2=>some (r12_0,r12_1,r12_2)))) (fun x12=>(.p (PureAt Tryz.prog 87 [(e27 a0),(dI a1)] (.bool x12.1)) (.g x12.1 (PureAt Tryz.prog 88 [(e27 a0),(dI (a0.States.getD a1.toNat default).Initial),(dI a1)] (.bool x12.2.1)) (.g (!(x12.1&&(!x12.2.1))) (PureAt Tryz.prog 87 [(e27 a0),(dI a1)] (.bool x12.2.2)) (.fin 0))))) (by intro x12 h;obtain⟨r12_0,h1,h⟩:=Option.bind_eq_some_iff.1 h;obtain⟨r12_1,h2,h⟩:=Option.bind_eq_some_iff.1 h;obtain⟨r12_2,h3,h⟩:=Option.bind_eq_some_iff.1 h;cases h;exact⟨p87 h1,fun g=>p88 (by rw[if_pos g]at h2;exact h2),fun g=>p87 (by rw[if_pos g]at h3;exact h3),trivial⟩) (fun x12 _=>(.ite ((x12.1&&(!x12.2.1)) || ((!x12.2.2)&&((a0.States.getD a1.toNat default).Initial != (-1:Int)))) (.ret .ret ⟨[(4,(aI 2))],[],[],1040⟩ (2:Int) ⟨rfl,_,Weak.refl _,dr⟩) (c3 (@p87 a0 a1) fun x14=>(.ite ((!x14)&&(a0.States.getD a1.toNat default).History) (.ret .ret ⟨[(4,(aI 17))],[],[],1168⟩ (17:Int) ⟨rfl,_,Weak.refl _,dr⟩) (c3 (@p59 (a0.States.getD a1.toNat default).Entry) fun x16=>(.ite (x16 != 0) (.ret .ret ⟨[(4,(aI x16))],[],[],1280⟩ x16 ⟨rfl,_,Weak.refl _,dr⟩) (c3 (@p59 (a0.States.getD a1.toNat default).Exit) fun x19=>(.ret .ret ⟨[(4,(aI x19))],[],[],1312⟩ x19 ⟨rfl,_,Weak.refl _,dr⟩))))))))))))))
noncomputable def m58 (a0:T27) (a1:Int):Option (Int):=(d58 a0 a1).m
theorem p58 {a0:T27} {a1:Int} {r:Int} (h:m58 a0 a1=some r):PureAt Tryz.prog 58 [(e27 a0),(dI a1)] (dI r):=pure_jd (d58 a0 a1) Tryz.func58 h
noncomputable abbrev z28_2 (a0:T27):AV:=(aI (a0.Conds.length:Int))
noncomputable abbrev z28_0 (a0:T27) (s1:Int):List (Nat×AV):=[(1,(.ptr 16 0)),(46,(.d (eSl 1 D.str a0.Conds))),(47,(z28_2 a0)),(48,(aI s1))]
noncomputable abbrev z28_1 (a0:T27) (s5:Int):List (Nat×AV):=[(1,(.ptr 16 0)),(112,(.d (eSl 4 e58 a0.Transitions))),(113,(aI (a0.Transitions.length:Int))),(114,(aI (IntKind.wrap .i64 (s5+1))))]
noncomputable def d28 (a0:T27):JF Tryz.prog Tryz.f28 [(e27 a0)] (fun(r:Int)=>(dI r)) :=
 (.sq 4 [(1,tm1 17 D.bool)] [(1,[2],[]),(0,[1],[16])] (fun(_:Unit)=>⟨[(1,(.ptr 16 0))],[(16,(.cells (g27 a0)))],[],528⟩) (c3 (@p56 a0.Name (8:Int)) fun x1=>(.ite (!x1) (.ret .ret ⟨[(2,(aI 5))],[],[],128⟩ (.inr ((5:Int))) ⟨rfl,rfl,_,Weak.refl _,dr⟩) (.ite ((a0.States.length:Int)==(0:Int)) (.ret .ret ⟨[(2,(aI 6))],[],[],192⟩ (.inr ((6:Int))) ⟨rfl,rfl,_,Weak.refl _,dr⟩) (.ite ((((decide (12 < (a0.Conds.length:Int))) || (decide (16 < (a0.Never.length:Int)))) || (decide (40 < (a0.States.length:Int)))) || (decide (120 < (a0.Transitions.length:Int)))) (.ret .ret ⟨[(2,(aI 3))],[],[],544⟩ (.inr ((3:Int))) ⟨rfl,rfl,_,Weak.refl _,dr⟩) (.nx ()))))) (fun _=>(.sc (fun(_:Unit)=>⟨[(1,(.ptr 16 0))],[(16,(.cells (g27 a0)))],[],1040⟩) (.sq 1 [] [(0,[1,46,47,48],[16])] (fun(_:Unit)=>⟨[(1,(.ptr 16 0)),(46,(.d (eSl 1 D.str a0.Conds))),(47,(z28_2 a0)),(48,(aI 0))],[(16,(.cells (g27 a0)))],[],592⟩) (.nx ()) (fun _=>(.bk (.lp (fun(s1:Int)=>⟨(z28_0 a0 s1),[(16,(.cells (g27 a0)))],[],1024⟩) (0:Int) (wk [(16,16)] []) fun s1=>(.sq 2 [] [(0,[1,46,47,48],[16]),(2,[1],[16])] (fun(_:Unit)=>⟨(z28_0 a0 s1),[(16,(.cells (g27 a0)))],[],1040⟩) (.ite (decide (s1 < (a0.Conds.length:Int))) (.nx ()) (.ret (.exit 0) _ (.inr (.inr (.inl ()))) ⟨rfl,rfl,rfl,Weak.refl _⟩)) (fun _=>(.sc (fun(_:Unit)=>⟨(z28_0 a0 s1),[(16,(.cells (g27 a0)))],[],1424⟩) (.bk (.sq 3 [(10,tm1 54 D.bool)] [(1,[2],[]),(0,[1,4,46,47,48,59,60,61],[16])] (fun(_:Unit)=>⟨[(1,(.ptr 16 0)),(4,(aS (a0.Conds.getD s1.toNat default))),(46,(.d (eSl 1 D.str a0.Conds))),(47,(z28_2 a0)),(48,(aI s1)),(59,(.d (eSl 1 D.str (subL a0.Conds 0 s1.toNat)))),(60,(aI (s1.toNat:Int))),(61,(aI 0))],[(16,(.cells (g27 a0)))],[],1264⟩) (nd (0≤s1) (nd (s1 < (a0.Conds.length:Int)) (c3 (@p56 (a0.Conds.getD s1.toNat default) (8:Int)) fun x10=>(.ite (!x10) (.ret .ret ⟨[(2,(aI 5))],[],[],1184⟩ (.inr (.inr (.inr (.inr ((5:Int)))))) ⟨rfl,rfl,rfl,rfl,rfl,_,Weak.refl _,dr⟩) (nd (0≤s1) (nd (s1≤(a0.Conds.length:Int)) (.ret .normal ⟨[(1,(.ptr 16 0)),(4,(aS (a0.Conds.getD s1.toNat default))),(46,(.d (eSl 1 D.str a0.Conds))),(47,(z28_2 a0)),(48,(aI s1)),(59,(.d (.sl 1 s1.toNat (cF D.str a0.Conds)))),(60,(aI (s1.toNat:Int))),(61,(aI 0))],[(16,(.cells (g27 a0)))],[],1264⟩ (.inl ()) ⟨rfl,(wh [(16,16)] [] ⟨⟨rfl,rfl⟩,dr,dr,dr,dr,de_sub0,dr,dr⟩)⟩))))))) (fun _=>(.bk (.lp (fun(s2:Int)=>⟨[(1,(.ptr 16 0)),(4,(aS (a0.Conds.getD s1.toNat default))),(46,(.d (eSl 1 D.str a0.Conds))),(47,(z28_2 a0)),(48,(aI s1)),(59,(.d (eSl 1 D.str (subL a0.Conds 0 s1.toNat)))),(60,(aI (s1.toNat:Int))),(61,(aI s2))],[(16,(.cells (g27 a0)))],[],1408⟩) (0:Int) (wk [(16,16)] []) fun s2=>(.sg [] [(1,[2],[]),(0,[1,4,46,47,48,59,60,61],[16]),(4,[1,46,47,48],[16])] (.ite (decide (s2 < (s1.toNat:Int))) (nd (0≤s2) (nd (s2 < ((subL a0.Conds 0 s1.toNat).length:Int)) (.ite ((a0.Conds.getD s1.toNat default)==((subL a0.Conds 0 s1.toNat).getD s2.toNat default)) (.ret .ret ⟨[(2,(aI 7))],[],[],1536⟩ (.inr (.inr (.inr (.inr ((7:Int)))))) ⟨rfl,rfl,rfl,rfl,rfl,_,Weak.refl _,dr⟩) (.ret .normal ⟨[(1,(.ptr 16 0)),(4,(aS (a0.Conds.getD s1.toNat default))),(46,(.d (eSl 1 D.str a0.Conds))),(47,(z28_2 a0)),(48,(aI s1)),(59,(.d (eSl 1 D.str (subL a0.Conds 0 s1.toNat)))),(60,(aI (s1.toNat:Int))),(61,(aI (IntKind.wrap .i64 (s2+1))))],[(16,(.cells (g27 a0)))],[],1552⟩ (.inl (IntKind.wrap .i64 (s2+1))) ⟨rfl,(wk [(16,16)] [])⟩)))) (.ret (.exit 2) _ (.inr (.inl ())) ⟨rfl,rfl,Weak.refl _⟩)))))))) fun _=>(.sg [] [(0,[1,46,47,48],[16])] (.ret .normal ⟨[(1,(.ptr 16 0)),(46,(.d (eSl 1 D.str a0.Conds))),(47,(z28_2 a0)),(48,(aI (IntKind.wrap .i64 (s1+1))))],[(16,(.cells (g27 a0)))],[],1456⟩ (.inl (IntKind.wrap .i64 (s1+1))) ⟨rfl,(wk [(16,16)] [])⟩))))))))) fun _=>(.sc (fun(_:Unit)=>⟨[(1,(.ptr 16 0))],[(16,(.cells (g27 a0)))],[],1360⟩) (.sq 1 [] [(0,[1,71,72,73],[16])] (fun(_:Unit)=>⟨[(1,(.ptr 16 0)),(71,(.d (eSl 1 (eSl 2 e118) a0.Never))),(72,(aI (a0.Never.length:Int))),(73,(aI 0))],[(16,(.cells (g27 a0)))],[],1104⟩) (.nx ()) (fun _=>(.bk (.lp (fun(s3:Int)=>⟨[(1,(.ptr 16 0)),(71,(.d (eSl 1 (eSl 2 e118) a0.Never))),(72,(aI (a0.Never.length:Int))),(73,(aI s3))],[(16,(.cells (g27 a0)))],[],1344⟩) (0:Int) (wk [(16,16)] []) fun s3=>(.sg [(24,tm1 82 dI)] [(1,[2],[]),(0,[1,71,72,73],[16]),(6,[1],[16])] (.ite (decide (s3 < (a0.Never.length:Int))) (nd (0≤s3) (nd (s3 < (a0.Never.length:Int)) (.ite (((a0.Never.getD s3.toNat default).length:Int)==(0:Int)) (.ret .ret ⟨[(2,(aI 1))],[],[],1472⟩ (.inr (.inr ((1:Int)))) ⟨rfl,rfl,rfl,_,Weak.refl _,dr⟩) (c3 (@p57 a0 (a0.Never.getD s3.toNat default)) fun x24=>(.ite (x24 != 0) (.ret .ret ⟨[(2,(aI x24))],[],[],1584⟩ (.inr (.inr (x24))) ⟨rfl,rfl,rfl,_,Weak.refl _,dr⟩) (.ret .normal ⟨[(1,(.ptr 16 0)),(71,(.d (eSl 1 (eSl 2 e118) a0.Never))),(72,(aI (a0.Never.length:Int))),(73,(aI (IntKind.wrap .i64 (s3+1))))],[(16,(.cells (g27 a0)))],[],1584⟩ (.inl (IntKind.wrap .i64 (s3+1))) ⟨rfl,(wk [(16,16)] [])⟩)))))) (.ret (.exit 4) _ (.inr (.inl ())) ⟨rfl,rfl,Weak.refl _⟩))))))) fun _=>(.sc (fun(_:Unit)=>⟨[(1,(.ptr 16 0))],[(16,(.cells (g27 a0)))],[],1616⟩) (.sq 1 [] [(0,[1,89,90],[16])] (fun(_:Unit)=>⟨[(1,(.ptr 16 0)),(89,(aI (a0.States.length:Int))),(90,(aI 0))],[(16,(.cells (g27 a0)))],[],1424⟩) (.nx ()) (fun _=>(.bk (.lp (fun(s4:Int)=>⟨[(1,(.ptr 16 0)),(89,(aI (a0.States.length:Int))),(90,(aI s4))],[(16,(.cells (g27 a0)))],[],1600⟩) (0:Int) (wk [(16,16)] []) fun s4=>(.sg [(31,tm1 95 dI)] [(1,[2],[]),(0,[1,89,90],[16]),(8,[1],[16])] (.ite (decide (s4 < (a0.States.length:Int))) (c3 (@p58 a0 s4) fun x31=>(.ite (x31 != 0) (.ret .ret ⟨[(2,(aI x31))],[],[],1776⟩ (.inr (.inr (x31))) ⟨rfl,rfl,rfl,_,Weak.refl _,dr⟩) (.ret .normal ⟨[(1,(.ptr 16 0)),(89,(aI (a0.States.length:Int))),(90,(aI (IntKind.wrap .i64 (s4+1))))],[(16,(.cells (g27 a0)))],[],1776⟩ (.inl (IntKind.wrap .i64 (s4+1))) ⟨rfl,(wk [(16,16)] [])⟩))) (.ret (.exit 6) _ (.inr (.inl ())) ⟨rfl,rfl,Weak.refl _⟩))))))) fun _=>(.sq 1 [] [(1,[2],[]),(0,[1],[16])] (fun(_:Unit)=>⟨[(1,(.ptr 16 0))],[(16,(.cells (g27 a0)))],[],1792⟩) (.ite ((decide (a0.Start < 0)) || (decide ((a0.States.length:Int)≤a0.Start))) (.ret .ret ⟨[(2,(aI 2))],[],[],1808⟩ (.inr ((2:Int))) ⟨rfl,rfl,_,Weak.refl _,dr⟩) (.nx ())) (fun _=>(.sc (fun(_:Unit)=>⟨[],[],[],2576⟩) (.sq 1 [] [(0,[1,112,113,114],[16])] (fun(_:Unit)=>⟨[(1,(.ptr 16 0)),(112,(.d (eSl 4 e58 a0.Transitions))),(113,(aI (a0.Transitions.length:Int))),(114,(aI 0))],[(16,(.cells (g27 a0)))],[],1856⟩) (.nx ()) (fun _=>(.bk (.lp (fun(s5:Int)=>⟨[(1,(.ptr 16 0)),(112,(.d (eSl 4 e58 a0.Transitions))),(113,(aI (a0.Transitions.length:Int))),(114,(aI s5))],[(16,(.cells (g27 a0)))],[],2560⟩) (0:Int) (wk [(16,16)] []) fun s5=>(.sg [(42,tm1 145 dI),(44,tm1 150 dI)] [(1,[2],[]),(0,[1,112,113,114],[16]),(10,[],[])] (.ite (decide (s5 < (a0.Transitions.length:Int))) (nd (0≤s5) (nd (s5 < (a0.Transitions.length:Int)) (.ite ((((decide ((a0.Transitions.getD s5.toNat default).From < 0)) || (decide ((a0.States.length:Int)≤(a0.Transitions.getD s5.toNat default).From))) || (decide ((a0.Transitions.getD s5.toNat default).To < 0))) || (decide ((a0.States.length:Int)≤(a0.Transitions.getD s5.toNat default).To))) (.ret .ret ⟨[(2,(aI 2))],[],[],3040⟩ (.inr (.inr ((2:Int)))) ⟨rfl,rfl,rfl,_,Weak.refl _,dr⟩) (c3 (@p57 a0 (a0.Transitions.getD s5.toNat default).When) fun x42=>(.ite (x42==0) (c3 (@p59 (a0.Transitions.getD s5.toNat default).Actions) fun x44=>(.ite (x44 != 0) (.ret .ret ⟨[(2,(aI x44))],[],[],3264⟩ (.inr (.inr (x44))) ⟨rfl,rfl,rfl,_,Weak.refl _,dr⟩) (.ret .normal ⟨(z28_1 a0 s5),[(16,(.cells (g27 a0)))],[],3264⟩ (.inl (IntKind.wrap .i64 (s5+1))) ⟨rfl,(wk [(16,16)] [])⟩))) (.ite (x42 != 0) (.ret .ret ⟨[(2,(aI x42))],[],[],3200⟩ (.inr (.inr (x42))) ⟨rfl,rfl,rfl,_,Weak.refl _,dr⟩) (.ret .normal ⟨(z28_1 a0 s5),[(16,(.cells (g27 a0)))],[],3200⟩ (.inl (IntKind.wrap .i64 (s5+1))) ⟨rfl,(wk [(16,16)] [])⟩))))))) (.ret (.exit 8) _ (.inr (.inl ())) ⟨rfl,rfl,Weak.refl _⟩))))))) fun _=>(.sg [] [(1,[2],[])] (.ret .ret ⟨[(2,(aI 0))],[],[],2592⟩ (0:Int) ⟨rfl,_,Weak.refl _,dr⟩))))))))))
noncomputable def m28 (a0:T27):Option (Int):=(d28 a0).m
theorem p28 {a0:T27} {r:Int} (h:m28 a0=some r):PureAt Tryz.prog 28 [(e27 a0)] (dI r):=pure_jd (d28 a0) Tryz.func28 h
noncomputable def d29 (a0:T27) (a1:Int):JF Tryz.prog Tryz.f29 [(e27 a0),(dI a1)] (fun(r:(List UInt8))=>(.str r)) :=
 (.sg [] [(1,[4],[])] (.ite (decide (a1 < 0)) (.ret .ret ⟨[(4,(aS ([45]:List UInt8)))],[],[],96⟩ ([45]:List UInt8) ⟨rfl,_,Weak.refl _,dr⟩) (nd (0≤a1) (nd (a1 < (a0.States.length:Int)) (.ret .ret ⟨[(4,(aS (a0.States.getD a1.toNat default).Name))],[],[],192⟩ (a0.States.getD a1.toNat default).Name ⟨rfl,_,Weak.refl _,dr⟩)))))
noncomputable def m29 (a0:T27) (a1:Int):Option ((List UInt8)):=(d29 a0 a1).m
theorem p29 {a0:T27} {a1:Int} {r:(List UInt8)} (h:m29 a0 a1=some r):PureAt Tryz.prog 29 [(e27 a0),(dI a1)] (.str r):=pure_jd (d29 a0 a1) Tryz.func29 h
noncomputable def d30 (a0:T27) (a1:List T118):JF Tryz.prog Tryz.f30 [(e27 a0),(eSl 2 e118 a1)] (fun(r:(List UInt8))=>(.str r)) :=
 (.sq 2 [] [(0,[1,2,5],[16])] (fun(_:Unit)=>⟨[(1,(.d (eSl 2 e118 a1))),(2,(.ptr 16 0)),(5,(aS ([]:List UInt8)))],[(16,(.cells (g27 a0)))],[],64⟩) (.nx ()) (fun _=>(.sc (fun(y2:(List UInt8))=>⟨[(5,(aS y2))],[],[],512⟩) (.sq 1 [] [(0,[2,5,8,9,10],[16])] (fun(_:Unit)=>⟨[(2,(.ptr 16 0)),(5,(aS ([]:List UInt8))),(8,(.d (eSl 2 e118 a1))),(9,(aI (a1.length:Int))),(10,(aI 0))],[(16,(.cells (g27 a0)))],[],112⟩) (.nx ()) (fun _=>(.bk (.lp (fun(s1:(List UInt8)×Int)=>⟨[(2,(.ptr 16 0)),(5,(aS s1.1)),(8,(.d (eSl 2 e118 a1))),(9,(aI (a1.length:Int))),(10,(aI s1.2))],[(16,(.cells (g27 a0)))],[],496⟩) (([]:List UInt8),(0:Int)) (wk [(16,16)] []) fun s1=>(.sg [] [(0,[2,5,8,9,10],[16]),(2,[5],[])] (.ite (decide (s1.2 < (a1.length:Int))) (nd (0≤s1.2) (nd (s1.2 < (a1.length:Int)) (nd (s1.1.length+([32]:List UInt8).length≤9223372036854775807) (.ite (a1.getD s1.2.toNat default).Neg (nd ((s1.1++([32]:List UInt8)).length+([33]:List UInt8).length≤9223372036854775807) (nd (0≤(a1.getD s1.2.toNat default).Cond) (nd ((a1.getD s1.2.toNat default).Cond < (a0.Conds.length:Int)) (nd (((s1.1++([32]:List UInt8))++([33]:List UInt8)).length+(a0.Conds.getD (a1.getD s1.2.toNat default).Cond.toNat default).length≤9223372036854775807) (.ret .normal ⟨[(2,(.ptr 16 0)),(5,(aS (((s1.1++([32]:List UInt8))++([33]:List UInt8))++(a0.Conds.getD (a1.getD s1.2.toNat default).Cond.toNat default)))),(8,(.d (eSl 2 e118 a1))),(9,(aI (a1.length:Int))),(10,(aI (IntKind.wrap .i64 (s1.2+1))))],[(16,(.cells (g27 a0)))],[],880⟩ (.inl ((((s1.1++([32]:List UInt8))++([33]:List UInt8))++(a0.Conds.getD (a1.getD s1.2.toNat default).Cond.toNat default)),(IntKind.wrap .i64 (s1.2+1)))) ⟨rfl,(wk [(16,16)] [])⟩))))) (nd (0≤(a1.getD s1.2.toNat default).Cond) (nd ((a1.getD s1.2.toNat default).Cond < (a0.Conds.length:Int)) (nd ((s1.1++([32]:List UInt8)).length+(a0.Conds.getD (a1.getD s1.2.toNat default).Cond.toNat default).length≤9223372036854775807) (.ret .normal ⟨[(2,(.ptr 16 0)),(5,(aS ((s1.1++([32]:List UInt8))++(a0.Conds.getD (a1.getD s1.2.toNat default).Cond.toNat default)))),(8,(.d (eSl 2 e118 a1))),(9,(aI (a1.length:Int))),(10,(aI (IntKind.wrap .i64 (s1.2+1))))],[(16,(.cells (g27 a0)))],[],832⟩ (.inl (((s1.1++([32]:List UInt8))++(a0.Conds.getD (a1.getD s1.2.toNat default).Cond.toNat default)),(IntKind.wrap .i64 (s1.2+1)))) ⟨rfl,(wk [(16,16)] [])⟩)))))))) (.ret (.exit 0) _ (.inr (.inl s1.1)) ⟨rfl,rfl,Weak.refl _⟩))))))) fun y2=>(.sg [] [(1,[4],[])] (.ret .ret ⟨[(4,(aS y2))],[],[],544⟩ y2 ⟨rfl,_,Weak.refl _,dr⟩)))))
noncomputable def m30 (a0:T27) (a1:List T118):Option ((List UInt8)):=(d30 a0 a1).m
theorem p30 {a0:T27} {a1:List T118} {r:(List UInt8)} (h:m30 a0 a1=some r):PureAt Tryz.prog 30 [(e27 a0),(eSl 2 e118 a1)] (.str r):=pure_jd (d30 a0 a1) Tryz.func30 h
noncomputable def d31 (a0:List UInt8) (a1:List (List UInt8)):JF Tryz.prog Tryz.f31 [(.str a0),(eSl 1 D.str a1)] (fun(r:(List UInt8))=>(.str r)) :=
 (.sq 2 [] [(1,[4],[]),(0,[0,1],[])] (fun(_:Unit)=>⟨[(0,(aS a0)),(1,(.d (eSl 1 D.str a1)))],[],[],80⟩) (.ite ((a1.length:Int)==(0:Int)) (.ret .ret ⟨[(4,(aS ([]:List UInt8)))],[],[],96⟩ (.inr (([]:List UInt8))) ⟨rfl,rfl,_,Weak.refl _,dr⟩) (.nx ())) (fun _=>(.sc (fun(y2:(List UInt8))=>⟨[(0,(aS y2))],[],[],320⟩) (.sq 1 [] [(0,[0,10,11,12],[])] (fun(_:Unit)=>⟨[(0,(aS a0)),(10,(.d (eSl 1 D.str a1))),(11,(aI (a1.length:Int))),(12,(aI 0))],[],[],128⟩) (.nx ()) (fun _=>(.bk (.lp (fun(s1:(List UInt8)×Int)=>⟨[(0,(aS s1.1)),(10,(.d (eSl 1 D.str a1))),(11,(aI (a1.length:Int))),(12,(aI s1.2))],[],[],304⟩) (a0,(0:Int)) (wk [] []) fun s1=>(.sg [] [(0,[0,10,11,12],[]),(2,[0],[])] (.ite (decide (s1.2 < (a1.length:Int))) (nd (0≤s1.2) (nd (s1.2 < (a1.length:Int)) (nd (s1.1.length+([32]:List UInt8).length≤9223372036854775807) (nd ((s1.1++([32]:List UInt8)).length+(a1.getD s1.2.toNat default).length≤9223372036854775807) (.ret .normal ⟨[(0,(aS ((s1.1++([32]:List UInt8))++(a1.getD s1.2.toNat default)))),(10,(.d (eSl 1 D.str a1))),(11,(aI (a1.length:Int))),(12,(aI (IntKind.wrap .i64 (s1.2+1))))],[],[],480⟩ (.inl (((s1.1++([32]:List UInt8))++(a1.getD s1.2.toNat default)),(IntKind.wrap .i64 (s1.2+1)))) ⟨rfl,(wk [] [])⟩))))) (.ret (.exit 0) _ (.inr (.inl s1.1)) ⟨rfl,rfl,Weak.refl _⟩))))))) fun y2=>(.sg [] [(1,[4],[])] (nd (y2.length+([10]:List UInt8).length≤9223372036854775807) (.ret .ret ⟨[(4,(aS (y2++([10]:List UInt8))))],[],[],368⟩ (y2++([10]:List UInt8)) ⟨rfl,_,Weak.refl _,dr⟩))))))
noncomputable def m31 (a0:List UInt8) (a1:List (List UInt8)):Option ((List UInt8)):=(d31 a0 a1).m
theorem p31 {a0:List UInt8} {a1:List (List UInt8)} {r:(List UInt8)} (h:m31 a0 a1=some r):PureAt Tryz.prog 31 [(.str a0),(eSl 1 D.str a1)] (.str r):=pure_jd (d31 a0 a1) Tryz.func31 h
noncomputable def d8 (a0:T27):JF Tryz.prog Tryz.f8 [(e27 a0)] (fun(r:(List UInt8)×Int)=>(.tup [(.str r.1),(dI r.2)])) :=
 (.sq 4 [(1,tm1 15 dI),(4,tm1 26 D.str)] [(1,[2,3],[]),(0,[1,5],[16])] (fun(y1:(List UInt8))=>⟨[(1,(.ptr 16 0)),(5,(aS y1))],[(16,(.cells (g27 a0)))],[],320⟩) (c3 (@p28 a0) fun x1=>(.ite (x1 != 0) (.ret .ret ⟨[(2,(aS ([]:List UInt8))),(3,(aI x1))],[],[],192⟩ (.inr ((([]:List UInt8),x1))) ⟨rfl,rfl,_,Weak.refl _,⟨dr,dr,trivial⟩⟩) (.exi ((List UInt8)) (if([67,72,65,82,84,32]:List UInt8).length+a0.Name.length≤9223372036854775807 then(if(([67,72,65,82,84,32]:List UInt8)++a0.Name).length+([32]:List UInt8).length≤9223372036854775807 then((m29 a0 a0.Start).bind fun r4_0=>(if((([67,72,65,82,84,32]:List UInt8)++a0.Name)++([32]:List UInt8)).length+r4_0.length≤9223372036854775807 then(if(((([67,72,65,82,84,32]:List UInt8)++a0.Name)++([32]:List UInt8))++r4_0).length+([10]:List UInt8).length≤9223372036854775807 then some r4_0 else none)else none))else none)else none) (fun x4=>(.p (([67,72,65,82,84,32]:List UInt8).length+a0.Name.length≤9223372036854775807) (.p ((([67,72,65,82,84,32]:List UInt8)++a0.Name).length+([32]:List UInt8).length≤9223372036854775807) (.p (PureAt Tryz.prog 29 [(e27 a0),(dI a0.Start)] (.str x4)) (.p (((([67,72,65,82,84,32]:List UInt8)++a0.Name)++([32]:List UInt8)).length+x4.length≤9223372036854775807) (.p ((((([67,72,65,82,84,32]:List UInt8)++a0.Name)++([32]:List UInt8))++x4).length+([10]:List UInt8).length≤9223372036854775807) (.fin 0))))))) (by intro x4 h;obtain⟨h1,h⟩:=if_some h;obtain⟨h2,h⟩:=if_some h;obtain⟨r4_0,h3,h⟩:=Option.bind_eq_some_iff.1 h;obtain⟨h4,h⟩:=if_some h;obtain⟨h5,h⟩:=if_some h;cases h;exact⟨h1,h2,p29 h3,h4,h5,trivial⟩) (fun x4 _=>(.nx ((((([67,72,65,82,84,32]:List UInt8)++a0.Name)++([32]:List UInt8))++x4)++([10]:List UInt8))))))) (fun y1=>(.sc (fun(y3:(List UInt8))=>⟨[(1,(.ptr 16 0)),(5,(aS y3))],[(16,(.cells (g27 a0)))],[],592⟩) (.sq 1 [] [(0,[1,5,30,31,32],[16])] (fun(_:Unit)=>⟨[(1,(.ptr 16 0)),(5,(aS y1)),(30,(.d (eSl 1 D.str a0.Conds))),(31,(aI (a0.Conds.length:Int))),(32,(aI 0))],[(16,(.cells (g27 a0)))],[],384⟩) (.nx ()) (fun _=>(.bk (.lp (fun(s2:(List UInt8)×Int)=>⟨[(1,(.ptr 16 0)),(5,(aS s2.1)),(30,(.d (eSl 1 D.str a0.Conds))),(31,(aI (a0.Conds.length:Int))),(32,(aI s2.2))],[(16,(.cells (g27 a0)))],[],576⟩) (y1,(0:Int)) (wk [(16,16)] []) fun s2=>(.sg [] [(0,[1,5,30,31,32],[16]),(2,[1,5],[16])] (.ite (decide (s2.2 < (a0.Conds.length:Int))) (nd (0≤s2.2) (nd (s2.2 < (a0.Conds.length:Int)) (nd (s2.1.length+([67,79,78,68,73,84,73,79,78,32]:List UInt8).length≤9223372036854775807) (nd ((s2.1++([67,79,78,68,73,84,73,79,78,32]:List UInt8)).length+(a0.Conds.getD s2.2.toNat default).length≤9223372036854775807) (nd (((s2.1++([67,79,78,68,73,84,73,79,78,32]:List UInt8))++(a0.Conds.getD s2.2.toNat default)).length+([10]:List UInt8).length≤9223372036854775807) (.ret .normal ⟨[(1,(.ptr 16 0)),(5,(aS (((s2.1++([67,79,78,68,73,84,73,79,78,32]:List UInt8))++(a0.Conds.getD s2.2.toNat default))++([10]:List UInt8)))),(30,(.d (eSl 1 D.str a0.Conds))),(31,(aI (a0.Conds.length:Int))),(32,(aI (IntKind.wrap .i64 (s2.2+1))))],[(16,(.cells (g27 a0)))],[],768⟩ (.inl ((((s2.1++([67,79,78,68,73,84,73,79,78,32]:List UInt8))++(a0.Conds.getD s2.2.toNat default))++([10]:List UInt8)),(IntKind.wrap .i64 (s2.2+1)))) ⟨rfl,(wk [(16,16)] [])⟩)))))) (.ret (.exit 0) _ (.inr (.inl s2.1)) ⟨rfl,rfl,Weak.refl _⟩))))))) fun y3=>(.sc (fun(y5:(List UInt8))=>⟨[(1,(.ptr 16 0)),(5,(aS y5))],[(16,(.cells (g27 a0)))],[],896⟩) (.sq 1 [] [(0,[1,5,43,44,45],[16])] (fun(_:Unit)=>⟨[(1,(.ptr 16 0)),(5,(aS y3)),(43,(.d (eSl 1 (eSl 2 e118) a0.Never))),(44,(aI (a0.Never.length:Int))),(45,(aI 0))],[(16,(.cells (g27 a0)))],[],656⟩) (.nx ()) (fun _=>(.bk (.lp (fun(s4:(List UInt8)×Int)=>⟨[(1,(.ptr 16 0)),(5,(aS s4.1)),(43,(.d (eSl 1 (eSl 2 e118) a0.Never))),(44,(aI (a0.Never.length:Int))),(45,(aI s4.2))],[(16,(.cells (g27 a0)))],[],880⟩) (y3,(0:Int)) (wk [(16,16)] []) fun s4=>(.sg [(13,tm1 53 D.str)] [(0,[1,5,43,44,45],[16]),(4,[1,5],[16])] (.ite (decide (s4.2 < (a0.Never.length:Int))) (nd (0≤s4.2) (nd (s4.2 < (a0.Never.length:Int)) (.exi ((List UInt8)) (if s4.1.length+([78,69,86,69,82]:List UInt8).length≤9223372036854775807 then((m30 a0 (a0.Never.getD s4.2.toNat default)).bind fun r13_0=>(if(s4.1++([78,69,86,69,82]:List UInt8)).length+r13_0.length≤9223372036854775807 then(if((s4.1++([78,69,86,69,82]:List UInt8))++r13_0).length+([10]:List UInt8).length≤9223372036854775807 then some r13_0 else none)else none))else none) (fun x13=>(.p (s4.1.length+([78,69,86,69,82]:List UInt8).length≤9223372036854775807) (.p (PureAt Tryz.prog 30 [(e27 a0),(eSl 2 e118 (a0.Never.getD s4.2.toNat default))] (.str x13)) (.p ((s4.1++([78,69,86,69,82]:List UInt8)).length+x13.length≤9223372036854775807) (.p (((s4.1++([78,69,86,69,82]:List UInt8))++x13).length+([10]:List UInt8).length≤9223372036854775807) (.fin 0)))))) (by intro x13 h;obtain⟨h1,h⟩:=if_some h;obtain⟨r13_0,h2,h⟩:=Option.bind_eq_some_iff.1 h;obtain⟨h3,h⟩:=if_some h;obtain⟨h4,h⟩:=if_some h;cases h;exact⟨h1,p30 h2,h3,h4,trivial⟩) (fun x13 _=>(.ret .normal ⟨[(1,(.ptr 16 0)),(5,(aS (((s4.1++([78,69,86,69,82]:List UInt8))++x13)++([10]:List UInt8)))),(43,(.d (eSl 1 (eSl 2 e118) a0.Never))),(44,(aI (a0.Never.length:Int))),(45,(aI (IntKind.wrap .i64 (s4.2+1))))],[(16,(.cells (g27 a0)))],[],1104⟩ (.inl ((((s4.1++([78,69,86,69,82]:List UInt8))++x13)++([10]:List UInt8)),(IntKind.wrap .i64 (s4.2+1)))) ⟨rfl,(wk [(16,16)] [])⟩))))) (.ret (.exit 2) _ (.inr (.inl s4.1)) ⟨rfl,rfl,Weak.refl _⟩))))))) fun y5=>(.sc (fun(y7:(List UInt8))=>⟨[(1,(.ptr 16 0)),(5,(aS y7))],[(16,(.cells (g27 a0)))],[],1632⟩) (.sq 1 [] [(0,[1,5,58,59,60],[16])] (fun(_:Unit)=>⟨[(1,(.ptr 16 0)),(5,(aS y5)),(58,(.d (eSl 6 e56 a0.States))),(59,(aI (a0.States.length:Int))),(60,(aI 0))],[(16,(.cells (g27 a0)))],[],960⟩) (.nx ()) (fun _=>(.bk (.lp (fun(s6:(List UInt8)×Int)=>⟨[(1,(.ptr 16 0)),(5,(aS s6.1)),(58,(.d (eSl 6 e56 a0.States))),(59,(aI (a0.States.length:Int))),(60,(aI s6.2))],[(16,(.cells (g27 a0)))],[],1616⟩) (y5,(0:Int)) (wk [(16,16)] []) fun s6=>(.sg [(18,⟨(List UInt8)×(List UInt8),fun x=>[(73,(.str x.1)),(79,(.str x.2))],fun x=>[],[]⟩),(21,⟨(List UInt8)×(List UInt8),fun x=>[(89,(.str x.1)),(93,(.str x.2))],fun x=>[],[]⟩)] [(0,[1,5,58,59,60],[16]),(6,[1,5],[16])] (.ite (decide (s6.2 < (a0.States.length:Int))) (nd (0≤s6.2) (nd (s6.2 < (a0.States.length:Int)) (.exi ((List UInt8)×(List UInt8)) (if s6.1.length+([83,84,65,84,69,32]:List UInt8).length≤9223372036854775807 then(if(s6.1++([83,84,65,84,69,32]:List UInt8)).length+(a0.States.getD s6.2.toNat default).Name.length≤9223372036854775807 then(if((s6.1++([83,84,65,84,69,32]:List UInt8))++(a0.States.getD s6.2.toNat default).Name).length+([32]:List UInt8).length≤9223372036854775807 then((m29 a0 (a0.States.getD s6.2.toNat default).Parent).bind fun r18_0=>(if(((s6.1++([83,84,65,84,69,32]:List UInt8))++(a0.States.getD s6.2.toNat default).Name)++([32]:List UInt8)).length+r18_0.length≤9223372036854775807 then(if((((s6.1++([83,84,65,84,69,32]:List UInt8))++(a0.States.getD s6.2.toNat default).Name)++([32]:List UInt8))++r18_0).length+([32]:List UInt8).length≤9223372036854775807 then((m29 a0 (a0.States.getD s6.2.toNat default).Initial).bind fun r18_1=>(if(((((s6.1++([83,84,65,84,69,32]:List UInt8))++(a0.States.getD s6.2.toNat default).Name)++([32]:List UInt8))++r18_0)++([32]:List UInt8)).length+r18_1.length≤9223372036854775807 then some (r18_0,r18_1)else none))else none)else none))else none)else none)else none) (fun x18=>(.p (s6.1.length+([83,84,65,84,69,32]:List UInt8).length≤9223372036854775807) (.p ((s6.1++([83,84,65,84,69,32]:List UInt8)).length+(a0.States.getD s6.2.toNat default).Name.length≤9223372036854775807) (.p (((s6.1++([83,84,65,84,69,32]:List UInt8))++(a0.States.getD s6.2.toNat default).Name).length+([32]:List UInt8).length≤9223372036854775807) (.p (PureAt Tryz.prog 29 [(e27 a0),(dI (a0.States.getD s6.2.toNat default).Parent)] (.str x18.1)) (.p ((((s6.1++([83,84,65,84,69,32]:List UInt8))++(a0.States.getD s6.2.toNat default).Name)++([32]:List UInt8)).length+x18.1.length≤9223372036854775807) (.p (((((s6.1++([83,84,65,84,69,32]:List UInt8))++(a0.States.getD s6.2.toNat default).Name)++([32]:List UInt8))++x18.1).length+([32]:List UInt8).length≤9223372036854775807) (.p (PureAt Tryz.prog 29 [(e27 a0),(dI (a0.States.getD s6.2.toNat default).Initial)] (.str x18.2)) (.p ((((((s6.1++([83,84,65,84,69,32]:List UInt8))++(a0.States.getD s6.2.toNat default).Name)++([32]:List UInt8))++x18.1)++([32]:List UInt8)).length+x18.2.length≤9223372036854775807) (.fin 0)))))))))) (by intro x18 h;obtain⟨h1,h⟩:=if_some h;obtain⟨h2,h⟩:=if_some h;obtain⟨h3,h⟩:=if_some h;obtain⟨r18_0,h4,h⟩:=Option.bind_eq_some_iff.1 h;obtain⟨h5,h⟩:=if_some h;obtain⟨h6,h⟩:=if_some h;obtain⟨r18_1,h7,h⟩:=Option.bind_eq_some_iff.1 h;obtain⟨h8,h⟩:=if_some h;cases h;exact⟨h1,h2,h3,p29 h4,h5,h6,p29 h7,h8,trivial⟩) (fun x18 _=>(.ite (a0.States.getD s6.2.toNat default).History (nd (((((((s6.1++([83,84,65,84,69,32]:List UInt8))++(a0.States.getD s6.2.toNat default).Name)++([32]:List UInt8))++x18.1)++([32]:List UInt8))++x18.2).length+([32,72,73,83,84,79,82,89]:List UInt8).length≤9223372036854775807) (.exi ((List UInt8)×(List UInt8)) (if(((((((s6.1++([83,84,65,84,69,32]:List UInt8))++(a0.States.getD s6.2.toNat default).Name)++([32]:List UInt8))++x18.1)++([32]:List UInt8))++x18.2)++([32,72,73,83,84,79,82,89]:List UInt8)).length+([10]:List UInt8).length≤9223372036854775807 then((m31 ([69,78,84,82,89]:List UInt8) (a0.States.getD s6.2.toNat default).Entry).bind fun r21_0=>(if((((((((s6.1++([83,84,65,84,69,32]:List UInt8))++(a0.States.getD s6.2.toNat default).Name)++([32]:List UInt8))++x18.1)++([32]:List UInt8))++x18.2)++([32,72,73,83,84,79,82,89]:List UInt8))++([10]:List UInt8)).length+r21_0.length≤9223372036854775807 then((m31 ([69,88,73,84]:List UInt8) (a0.States.getD s6.2.toNat default).Exit).bind fun r21_1=>(if(((((((((s6.1++([83,84,65,84,69,32]:List UInt8))++(a0.States.getD s6.2.toNat default).Name)++([32]:List UInt8))++x18.1)++([32]:List UInt8))++x18.2)++([32,72,73,83,84,79,82,89]:List UInt8))++([10]:List UInt8))++r21_0).length+r21_1.length≤9223372036854775807 then some (r21_0,r21_1)else none))else none))else none) (fun x21=>(.p ((((((((s6.1++([83,84,65,84,69,32]:List UInt8))++(a0.States.getD s6.2.toNat default).Name)++([32]:List UInt8))++x18.1)++([32]:List UInt8))++x18.2)++([32,72,73,83,84,79,82,89]:List UInt8)).length+([10]:List UInt8).length≤9223372036854775807) (.p (PureAt Tryz.prog 31 [(.str ([69,78,84,82,89]:List UInt8)),(eSl 1 D.str (a0.States.getD s6.2.toNat default).Entry)] (.str x21.1)) (.p (((((((((s6.1++([83,84,65,84,69,32]:List UInt8))++(a0.States.getD s6.2.toNat default).Name)++([32]:List UInt8))++x18.1)++([32]:List UInt8))++x18.2)++([32,72,73,83,84,79,82,89]:List UInt8))++([10]:List UInt8)).length+x21.1.length≤9223372036854775807) (.p (PureAt Tryz.prog 31 [(.str ([69,88,73,84]:List UInt8)),(eSl 1 D.str (a0.States.getD s6.2.toNat default).Exit)] (.str x21.2)) (.p ((((((((((s6.1++([83,84,65,84,69,32]:List UInt8))++(a0.States.getD s6.2.toNat default).Name)++([32]:List UInt8))++x18.1)++([32]:List UInt8))++x18.2)++([32,72,73,83,84,79,82,89]:List UInt8))++([10]:List UInt8))++x21.1).length+x21.2.length≤9223372036854775807) (.fin 0))))))) (by intro x21 h;obtain⟨h1,h⟩:=if_some h;obtain⟨r21_0,h2,h⟩:=Option.bind_eq_some_iff.1 h;obtain⟨h3,h⟩:=if_some h;obtain⟨r21_1,h4,h⟩:=Option.bind_eq_some_iff.1 h;obtain⟨h5,h⟩:=if_some h;cases h;exact⟨h1,p31 h2,h3,p31 h4,h5,trivial⟩) (fun x21 _=>(.ret .normal ⟨[(1,(.ptr 16 0)),(5,(aS ((((((((((s6.1++([83,84,65,84,69,32]:List UInt8))++(a0.States.getD s6.2.toNat default).Name)++([32]:List UInt8))++x18.1)++([32]:List UInt8))++x18.2)++([32,72,73,83,84,79,82,89]:List UInt8))++([10]:List UInt8))++x21.1)++x21.2))),(58,(.d (eSl 6 e56 a0.States))),(59,(aI (a0.States.length:Int))),(60,(aI (IntKind.wrap .i64 (s6.2+1))))],[(16,(.cells (g27 a0)))],[],2272⟩ (.inl (((((((((((s6.1++([83,84,65,84,69,32]:List UInt8))++(a0.States.getD s6.2.toNat default).Name)++([32]:List UInt8))++x18.1)++([32]:List UInt8))++x18.2)++([32,72,73,83,84,79,82,89]:List UInt8))++([10]:List UInt8))++x21.1)++x21.2),(IntKind.wrap .i64 (s6.2+1)))) ⟨rfl,(wk [(16,16)] [])⟩)))) (.exi ((List UInt8)×(List UInt8)) (if((((((s6.1++([83,84,65,84,69,32]:List UInt8))++(a0.States.getD s6.2.toNat default).Name)++([32]:List UInt8))++x18.1)++([32]:List UInt8))++x18.2).length+([10]:List UInt8).length≤9223372036854775807 then((m31 ([69,78,84,82,89]:List UInt8) (a0.States.getD s6.2.toNat default).Entry).bind fun r21_0=>(if(((((((s6.1++([83,84,65,84,69,32]:List UInt8))++(a0.States.getD s6.2.toNat default).Name)++([32]:List UInt8))++x18.1)++([32]:List UInt8))++x18.2)++([10]:List UInt8)).length+r21_0.length≤9223372036854775807 then((m31 ([69,88,73,84]:List UInt8) (a0.States.getD s6.2.toNat default).Exit).bind fun r21_1=>(if((((((((s6.1++([83,84,65,84,69,32]:List UInt8))++(a0.States.getD s6.2.toNat default).Name)++([32]:List UInt8))++x18.1)++([32]:List UInt8))++x18.2)++([10]:List UInt8))++r21_0).length+r21_1.length≤9223372036854775807 then some (r21_0,r21_1)else none))else none))else none) (fun x21=>(.p (((((((s6.1++([83,84,65,84,69,32]:List UInt8))++(a0.States.getD s6.2.toNat default).Name)++([32]:List UInt8))++x18.1)++([32]:List UInt8))++x18.2).length+([10]:List UInt8).length≤9223372036854775807) (.p (PureAt Tryz.prog 31 [(.str ([69,78,84,82,89]:List UInt8)),(eSl 1 D.str (a0.States.getD s6.2.toNat default).Entry)] (.str x21.1)) (.p ((((((((s6.1++([83,84,65,84,69,32]:List UInt8))++(a0.States.getD s6.2.toNat default).Name)++([32]:List UInt8))++x18.1)++([32]:List UInt8))++x18.2)++([10]:List UInt8)).length+x21.1.length≤9223372036854775807) (.p (PureAt Tryz.prog 31 [(.str ([69,88,73,84]:List UInt8)),(eSl 1 D.str (a0.States.getD s6.2.toNat default).Exit)] (.str x21.2)) (.p (((((((((s6.1++([83,84,65,84,69,32]:List UInt8))++(a0.States.getD s6.2.toNat default).Name)++([32]:List UInt8))++x18.1)++([32]:List UInt8))++x18.2)++([10]:List UInt8))++x21.1).length+x21.2.length≤9223372036854775807) (.fin 0))))))) (by intro x21 h;obtain⟨h1,h⟩:=if_some h;obtain⟨r21_0,h2,h⟩:=Option.bind_eq_some_iff.1 h;obtain⟨h3,h⟩:=if_some h;obtain⟨r21_1,h4,h⟩:=Option.bind_eq_some_iff.1 h;obtain⟨h5,h⟩:=if_some h;cases h;exact⟨h1,p31 h2,h3,p31 h4,h5,trivial⟩) (fun x21 _=>(.ret .normal ⟨[(1,(.ptr 16 0)),(5,(aS (((((((((s6.1++([83,84,65,84,69,32]:List UInt8))++(a0.States.getD s6.2.toNat default).Name)++([32]:List UInt8))++x18.1)++([32]:List UInt8))++x18.2)++([10]:List UInt8))++x21.1)++x21.2))),(58,(.d (eSl 6 e56 a0.States))),(59,(aI (a0.States.length:Int))),(60,(aI (IntKind.wrap .i64 (s6.2+1))))],[(16,(.cells (g27 a0)))],[],2224⟩ (.inl ((((((((((s6.1++([83,84,65,84,69,32]:List UInt8))++(a0.States.getD s6.2.toNat default).Name)++([32]:List UInt8))++x18.1)++([32]:List UInt8))++x18.2)++([10]:List UInt8))++x21.1)++x21.2),(IntKind.wrap .i64 (s6.2+1)))) ⟨rfl,(wk [(16,16)] [])⟩)))))))) (.ret (.exit 4) _ (.inr (.inl s6.1)) ⟨rfl,rfl,Weak.refl _⟩))))))) fun y7=>(.sc (fun(y9:(List UInt8))=>⟨[(5,(aS y9))],[],[],2368⟩) (.sq 1 [] [(0,[1,5,97,98,99],[16])] (fun(_:Unit)=>⟨[(1,(.ptr 16 0)),(5,(aS y7)),(97,(.d (eSl 4 e58 a0.Transitions))),(98,(aI (a0.Transitions.length:Int))),(99,(aI 0))],[(16,(.cells (g27 a0)))],[],1696⟩) (.nx ()) (fun _=>(.bk (.lp (fun(s8:(List UInt8)×Int)=>⟨[(1,(.ptr 16 0)),(5,(aS s8.1)),(97,(.d (eSl 4 e58 a0.Transitions))),(98,(aI (a0.Transitions.length:Int))),(99,(aI s8.2))],[(16,(.cells (g27 a0)))],[],2352⟩) (y7,(0:Int)) (wk [(16,16)] []) fun s8=>(.sg [(26,⟨(List UInt8)×(List UInt8),fun x=>[(108,(.str x.1)),(114,(.str x.2))],fun x=>[],[]⟩),(28,tm1 126 D.str),(29,tm1 132 D.str)] [(0,[1,5,97,98,99],[16]),(8,[5],[])] (.ite (decide (s8.2 < (a0.Transitions.length:Int))) (nd (0≤s8.2) (nd (s8.2 < (a0.Transitions.length:Int)) (.exi ((List UInt8)×(List UInt8)) (if s8.1.length+([84,82,65,78,83,73,84,73,79,78,32]:List UInt8).length≤9223372036854775807 then((m29 a0 (a0.Transitions.getD s8.2.toNat default).From).bind fun r26_0=>(if(s8.1++([84,82,65,78,83,73,84,73,79,78,32]:List UInt8)).length+r26_0.length≤9223372036854775807 then(if((s8.1++([84,82,65,78,83,73,84,73,79,78,32]:List UInt8))++r26_0).length+([32]:List UInt8).length≤9223372036854775807 then((m29 a0 (a0.Transitions.getD s8.2.toNat default).To).bind fun r26_1=>(if(((s8.1++([84,82,65,78,83,73,84,73,79,78,32]:List UInt8))++r26_0)++([32]:List UInt8)).length+r26_1.length≤9223372036854775807 then(if((((s8.1++([84,82,65,78,83,73,84,73,79,78,32]:List UInt8))++r26_0)++([32]:List UInt8))++r26_1).length+([10]:List UInt8).length≤9223372036854775807 then some (r26_0,r26_1)else none)else none))else none)else none))else none) (fun x26=>(.p (s8.1.length+([84,82,65,78,83,73,84,73,79,78,32]:List UInt8).length≤9223372036854775807) (.p (PureAt Tryz.prog 29 [(e27 a0),(dI (a0.Transitions.getD s8.2.toNat default).From)] (.str x26.1)) (.p ((s8.1++([84,82,65,78,83,73,84,73,79,78,32]:List UInt8)).length+x26.1.length≤9223372036854775807) (.p (((s8.1++([84,82,65,78,83,73,84,73,79,78,32]:List UInt8))++x26.1).length+([32]:List UInt8).length≤9223372036854775807) (.p (PureAt Tryz.prog 29 [(e27 a0),(dI (a0.Transitions.getD s8.2.toNat default).To)] (.str x26.2)) (.p ((((s8.1++([84,82,65,78,83,73,84,73,79,78,32]:List UInt8))++x26.1)++([32]:List UInt8)).length+x26.2.length≤9223372036854775807) (.p (((((s8.1++([84,82,65,78,83,73,84,73,79,78,32]:List UInt8))++x26.1)++([32]:List UInt8))++x26.2).length+([10]:List UInt8).length≤9223372036854775807) (.fin 0))))))))) (by intro x26 h;obtain⟨h1,h⟩:=if_some h;obtain⟨r26_0,h2,h⟩:=Option.bind_eq_some_iff.1 h;obtain⟨h3,h⟩:=if_some h;obtain⟨h4,h⟩:=if_some h;obtain⟨r26_1,h5,h⟩:=Option.bind_eq_some_iff.1 h;obtain⟨h6,h⟩:=if_some h;obtain⟨h7,h⟩:=if_some h;cases h;exact⟨h1,p29 h2,h3,h4,p29 h5,h6,h7,trivial⟩) (fun x26 _=>(.ite (decide (0 < ((a0.Transitions.getD s8.2.toNat default).When.length:Int))) (.exi ((List UInt8)) (if(((((s8.1++([84,82,65,78,83,73,84,73,79,78,32]:List UInt8))++x26.1)++([32]:List UInt8))++x26.2)++([10]:List UInt8)).length+([87,72,69,78]:List UInt8).length≤9223372036854775807 then((m30 a0 (a0.Transitions.getD s8.2.toNat default).When).bind fun r28_0=>(if((((((s8.1++([84,82,65,78,83,73,84,73,79,78,32]:List UInt8))++x26.1)++([32]:List UInt8))++x26.2)++([10]:List UInt8))++([87,72,69,78]:List UInt8)).length+r28_0.length≤9223372036854775807 then(if(((((((s8.1++([84,82,65,78,83,73,84,73,79,78,32]:List UInt8))++x26.1)++([32]:List UInt8))++x26.2)++([10]:List UInt8))++([87,72,69,78]:List UInt8))++r28_0).length+([10]:List UInt8).length≤9223372036854775807 then some r28_0 else none)else none))else none) (fun x28=>(.p ((((((s8.1++([84,82,65,78,83,73,84,73,79,78,32]:List UInt8))++x26.1)++([32]:List UInt8))++x26.2)++([10]:List UInt8)).length+([87,72,69,78]:List UInt8).length≤9223372036854775807) (.p (PureAt Tryz.prog 30 [(e27 a0),(eSl 2 e118 (a0.Transitions.getD s8.2.toNat default).When)] (.str x28)) (.p (((((((s8.1++([84,82,65,78,83,73,84,73,79,78,32]:List UInt8))++x26.1)++([32]:List UInt8))++x26.2)++([10]:List UInt8))++([87,72,69,78]:List UInt8)).length+x28.length≤9223372036854775807) (.p ((((((((s8.1++([84,82,65,78,83,73,84,73,79,78,32]:List UInt8))++x26.1)++([32]:List UInt8))++x26.2)++([10]:List UInt8))++([87,72,69,78]:List UInt8))++x28).length+([10]:List UInt8).length≤9223372036854775807) (.fin 0)))))) (by intro x28 h;obtain⟨h1,h⟩:=if_some h;obtain⟨r28_0,h2,h⟩:=Option.bind_eq_some_iff.1 h;obtain⟨h3,h⟩:=if_some h;obtain⟨h4,h⟩:=if_some h;cases h;exact⟨h1,p30 h2,h3,h4,trivial⟩) (fun x28 _=>(.exi ((List UInt8)) ((m31 ([68,79]:List UInt8) (a0.Transitions.getD s8.2.toNat default).Actions).bind fun r29_0=>(if((((((((s8.1++([84,82,65,78,83,73,84,73,79,78,32]:List UInt8))++x26.1)++([32]:List UInt8))++x26.2)++([10]:List UInt8))++([87,72,69,78]:List UInt8))++x28)++([10]:List UInt8)).length+r29_0.length≤9223372036854775807 then some r29_0 else none)) (fun x29=>(.p (PureAt Tryz.prog 31 [(.str ([68,79]:List UInt8)),(eSl 1 D.str (a0.Transitions.getD s8.2.toNat default).Actions)] (.str x29)) (.p (((((((((s8.1++([84,82,65,78,83,73,84,73,79,78,32]:List UInt8))++x26.1)++([32]:List UInt8))++x26.2)++([10]:List UInt8))++([87,72,69,78]:List UInt8))++x28)++([10]:List UInt8)).length+x29.length≤9223372036854775807) (.fin 0)))) (by intro x29 h;obtain⟨r29_0,h1,h⟩:=Option.bind_eq_some_iff.1 h;obtain⟨h2,h⟩:=if_some h;cases h;exact⟨p31 h1,h2,trivial⟩) (fun x29 _=>(.ret .normal ⟨[(1,(.ptr 16 0)),(5,(aS (((((((((s8.1++([84,82,65,78,83,73,84,73,79,78,32]:List UInt8))++x26.1)++([32]:List UInt8))++x26.2)++([10]:List UInt8))++([87,72,69,78]:List UInt8))++x28)++([10]:List UInt8))++x29))),(97,(.d (eSl 4 e58 a0.Transitions))),(98,(aI (a0.Transitions.length:Int))),(99,(aI (IntKind.wrap .i64 (s8.2+1))))],[(16,(.cells (g27 a0)))],[],3008⟩ (.inl ((((((((((s8.1++([84,82,65,78,83,73,84,73,79,78,32]:List UInt8))++x26.1)++([32]:List UInt8))++x26.2)++([10]:List UInt8))++([87,72,69,78]:List UInt8))++x28)++([10]:List UInt8))++x29),(IntKind.wrap .i64 (s8.2+1)))) ⟨rfl,(wk [(16,16)] [])⟩))))) (.exi ((List UInt8)) ((m31 ([68,79]:List UInt8) (a0.Transitions.getD s8.2.toNat default).Actions).bind fun r29_0=>(if(((((s8.1++([84,82,65,78,83,73,84,73,79,78,32]:List UInt8))++x26.1)++([32]:List UInt8))++x26.2)++([10]:List UInt8)).length+r29_0.length≤9223372036854775807 then some r29_0 else none)) (fun x29=>(.p (PureAt Tryz.prog 31 [(.str ([68,79]:List UInt8)),(eSl 1 D.str (a0.Transitions.getD s8.2.toNat default).Actions)] (.str x29)) (.p ((((((s8.1++([84,82,65,78,83,73,84,73,79,78,32]:List UInt8))++x26.1)++([32]:List UInt8))++x26.2)++([10]:List UInt8)).length+x29.length≤9223372036854775807) (.fin 0)))) (by intro x29 h;obtain⟨r29_0,h1,h⟩:=Option.bind_eq_some_iff.1 h;obtain⟨h2,h⟩:=if_some h;cases h;exact⟨p31 h1,h2,trivial⟩) (fun x29 _=>(.ret .normal ⟨[(1,(.ptr 16 0)),(5,(aS ((((((s8.1++([84,82,65,78,83,73,84,73,79,78,32]:List UInt8))++x26.1)++([32]:List UInt8))++x26.2)++([10]:List UInt8))++x29))),(97,(.d (eSl 4 e58 a0.Transitions))),(98,(aI (a0.Transitions.length:Int))),(99,(aI (IntKind.wrap .i64 (s8.2+1))))],[(16,(.cells (g27 a0)))],[],2864⟩ (.inl (((((((s8.1++([84,82,65,78,83,73,84,73,79,78,32]:List UInt8))++x26.1)++([32]:List UInt8))++x26.2)++([10]:List UInt8))++x29),(IntKind.wrap .i64 (s8.2+1)))) ⟨rfl,(wk [(16,16)] [])⟩)))))))) (.ret (.exit 6) _ (.inr (.inl s8.1)) ⟨rfl,rfl,Weak.refl _⟩))))))) fun y9=>(.sg [] [(1,[2,3],[])] (.ret .ret ⟨[(2,(aS y9)),(3,(aI 0))],[],[],2416⟩ (y9,(0:Int)) ⟨rfl,_,Weak.refl _,⟨dr,dr,trivial⟩⟩))))))))
noncomputable def m8 (a0:T27):Option ((List UInt8)×Int):=(d8 a0).m
theorem p8 {a0:T27} {r:(List UInt8)×Int} (h:m8 a0=some r):PureAt Tryz.prog 8 [(e27 a0)] (.tup [(.str r.1),(dI r.2)]):=pure_jd (d8 a0) Tryz.func8 h
noncomputable def d38 (a0 a1:List T118):JF Tryz.prog Tryz.f38 [(eSl 2 e118 a0),(eSl 2 e118 a1)] (fun(r:Bool)=>(.bool r)) :=
 (.sq 2 [] [(1,[4],[]),(0,[0,1],[])] (fun(_:Unit)=>⟨[(0,(.d (eSl 2 e118 a0))),(1,(.d (eSl 2 e118 a1)))],[],[],112⟩) (.ite ((a0.length:Int) != (a1.length:Int)) (.ret .ret ⟨[(4,(aB false))],[],[],128⟩ (.inr (false)) ⟨rfl,rfl,_,Weak.refl _,dr⟩) (.nx ())) (fun _=>(.sc (fun(_:Unit)=>⟨[],[],[],400⟩) (.sq 1 [] [(0,[0,1,12,13],[])] (fun(_:Unit)=>⟨[(0,(.d (eSl 2 e118 a0))),(1,(.d (eSl 2 e118 a1))),(12,(aI (a0.length:Int))),(13,(aI 0))],[],[],160⟩) (.nx ()) (fun _=>(.bk (.lp (fun(s1:Int)=>⟨[(0,(.d (eSl 2 e118 a0))),(1,(.d (eSl 2 e118 a1))),(12,(aI (a0.length:Int))),(13,(aI s1))],[],[],384⟩) (0:Int) (wk [] []) fun s1=>(.sg [] [(1,[4],[]),(0,[0,1,12,13],[]),(2,[],[])] (.ite (decide (s1 < (a0.length:Int))) (nd (0≤s1) (nd (s1 < (a0.length:Int)) (nd (0≤s1) (nd (s1 < (a1.length:Int)) (.ite (!(((a0.getD s1.toNat default).Cond==(a1.getD s1.toNat default).Cond)&&(((a0.getD s1.toNat default).Neg==(a1.getD s1.toNat default).Neg)&&true))) (.ret .ret ⟨[(4,(aB false))],[],[],592⟩ (.inr (.inr (false))) ⟨rfl,rfl,rfl,_,Weak.refl _,dr⟩) (.ret .normal ⟨[(0,(.d (eSl 2 e118 a0))),(1,(.d (eSl 2 e118 a1))),(12,(aI (a0.length:Int))),(13,(aI (IntKind.wrap .i64 (s1+1))))],[],[],608⟩ (.inl (IntKind.wrap .i64 (s1+1))) ⟨rfl,(wk [] [])⟩)))))) (.ret (.exit 0) _ (.inr (.inl ())) ⟨rfl,rfl,Weak.refl _⟩))))))) fun _=>(.sg [] [(1,[4],[])] (.ret .ret ⟨[(4,(aB true))],[],[],416⟩ true ⟨rfl,_,Weak.refl _,dr⟩)))))
noncomputable def m38 (a0 a1:List T118):Option (Bool):=(d38 a0 a1).m
theorem p38 {a0:List T118} {a1:List T118} {r:Bool} (h:m38 a0 a1=some r):PureAt Tryz.prog 38 [(eSl 2 e118 a0),(eSl 2 e118 a1)] (.bool r):=pure_jd (d38 a0 a1) Tryz.func38 h
noncomputable abbrev z10_0 (a0:T27) (a1:T27):List (Nat×Ob):=[(16,(.cells (g27 a0))),(32,(.cells (g27 a1)))]
noncomputable def d10 (a0 a1:T27):JF Tryz.prog Tryz.f10 [(e27 a0),(e27 a1)] (fun(r:Bool)=>(.bool r)) :=
 (.sq 2 [(1,tm1 29 D.bool)] [(1,[4],[]),(0,[2,3],[16,32])] (fun(_:Unit)=>⟨[(2,(.ptr 16 0)),(3,(.ptr 32 0))],(z10_0 a0 a1),[],816⟩) (.exi (Bool) ((if(!((a0.Name != a1.Name) || (a0.Start != a1.Start)))=true then m17 a0.Conds a1.Conds else some default).bind fun r1_0=>some r1_0) (fun x1=>(.g (!((a0.Name != a1.Name) || (a0.Start != a1.Start))) (PureAt Tryz.prog 17 [(eSl 1 D.str a0.Conds),(eSl 1 D.str a1.Conds)] (.bool x1)) (.fin 0))) (by intro x1 h;obtain⟨r1_0,h1,h⟩:=Option.bind_eq_some_iff.1 h;cases h;exact⟨fun g=>p17 (by rw[if_pos g]at h1;exact h1),trivial⟩) (fun x1 _=>(.ite ((((((a0.Name != a1.Name) || (a0.Start != a1.Start)) || (!x1)) || ((a0.Never.length:Int) != (a1.Never.length:Int))) || ((a0.States.length:Int) != (a1.States.length:Int))) || ((a0.Transitions.length:Int) != (a1.Transitions.length:Int))) (.ret .ret ⟨[(4,(aB false))],[],[],832⟩ (.inr (false)) ⟨rfl,rfl,_,Weak.refl _,dr⟩) (.nx ())))) (fun _=>(.sc (fun(_:Unit)=>⟨[(2,(.ptr 16 0)),(3,(.ptr 32 0))],(z10_0 a0 a1),[],1168⟩) (.sq 1 [] [(0,[2,3,61,62],[16,32])] (fun(_:Unit)=>⟨[(2,(.ptr 16 0)),(3,(.ptr 32 0)),(61,(aI (a0.Never.length:Int))),(62,(aI 0))],(z10_0 a0 a1),[],880⟩) (.nx ()) (fun _=>(.bk (.lp (fun(s1:Int)=>⟨[(2,(.ptr 16 0)),(3,(.ptr 32 0)),(61,(aI (a0.Never.length:Int))),(62,(aI s1))],(z10_0 a0 a1),[],1152⟩) (0:Int) (wk (idn [16,32]) []) fun s1=>(.sg [(6,tm1 75 D.bool)] [(1,[4],[]),(0,[2,3,61,62],[16,32]),(2,[2,3],[16,32])] (.ite (decide (s1 < (a0.Never.length:Int))) (.exi (Bool) (if 0≤s1 then(if s1 < (a0.Never.length:Int)then(if 0≤s1 then(if s1 < (a1.Never.length:Int)then((m38 (a0.Never.getD s1.toNat default) (a1.Never.getD s1.toNat default)).bind fun r6_0=>some r6_0)else none)else none)else none)else none) (fun x6=>(.p (0≤s1) (.p (s1 < (a0.Never.length:Int)) (.p (0≤s1) (.p (s1 < (a1.Never.length:Int)) (.p (PureAt Tryz.prog 38 [(eSl 2 e118 (a0.Never.getD s1.toNat default)),(eSl 2 e118 (a1.Never.getD s1.toNat default))] (.bool x6)) (.fin 0))))))) (by intro x6 h;obtain⟨h1,h⟩:=if_some h;obtain⟨h2,h⟩:=if_some h;obtain⟨h3,h⟩:=if_some h;obtain⟨h4,h⟩:=if_some h;obtain⟨r6_0,h5,h⟩:=Option.bind_eq_some_iff.1 h;cases h;exact⟨h1,h2,h3,h4,p38 h5,trivial⟩) (fun x6 _=>(.ite (!x6) (.ret .ret ⟨[(4,(aB false))],[],[],1408⟩ (.inr (.inr (false))) ⟨rfl,rfl,rfl,_,Weak.refl _,dr⟩) (.ret .normal ⟨[(2,(.ptr 16 0)),(3,(.ptr 32 0)),(61,(aI (a0.Never.length:Int))),(62,(aI (IntKind.wrap .i64 (s1+1))))],(z10_0 a0 a1),[],1424⟩ (.inl (IntKind.wrap .i64 (s1+1))) ⟨rfl,(wk (idn [16,32]) [])⟩)))) (.ret (.exit 0) _ (.inr (.inl ())) ⟨rfl,rfl,Weak.refl _⟩))))))) fun _=>(.sc (fun(_:Unit)=>⟨[(2,(.ptr 16 0)),(3,(.ptr 32 0))],(z10_0 a0 a1),[],2224⟩) (.sq 1 [] [(0,[2,3,80,81],[16,32])] (fun(_:Unit)=>⟨[(2,(.ptr 16 0)),(3,(.ptr 32 0)),(80,(aI (a0.States.length:Int))),(81,(aI 0))],(z10_0 a0 a1),[],1232⟩) (.nx ()) (fun _=>(.bk (.lp (fun(s2:Int)=>⟨[(2,(.ptr 16 0)),(3,(.ptr 32 0)),(80,(aI (a0.States.length:Int))),(81,(aI s2))],(z10_0 a0 a1),[],2208⟩) (0:Int) (wk (idn [16,32]) []) fun s2=>(.sg [(13,⟨Bool×Bool,fun x=>[(125,(.bool x.1)),(133,(.bool x.2))],fun x=>[],[]⟩)] [(1,[4],[]),(0,[2,3,80,81],[16,32]),(4,[2,3],[16,32])] (.ite (decide (s2 < (a0.States.length:Int))) (nd (0≤s2) (nd (s2 < (a0.States.length:Int)) (nd (0≤s2) (nd (s2 < (a1.States.length:Int)) (.exi (Bool×Bool) ((if(!(((((a0.States.getD s2.toNat default).Name != (a1.States.getD s2.toNat default).Name) || ((a0.States.getD s2.toNat default).Parent != (a1.States.getD s2.toNat default).Parent)) || ((a0.States.getD s2.toNat default).Initial != (a1.States.getD s2.toNat default).Initial)) || ((a0.States.getD s2.toNat default).History != (a1.States.getD s2.toNat default).History)))=true then m17 (a0.States.getD s2.toNat default).Entry (a1.States.getD s2.toNat default).Entry else some default).bind fun r13_0=>((if(!((((((a0.States.getD s2.toNat default).Name != (a1.States.getD s2.toNat default).Name) || ((a0.States.getD s2.toNat default).Parent != (a1.States.getD s2.toNat default).Parent)) || ((a0.States.getD s2.toNat default).Initial != (a1.States.getD s2.toNat default).Initial)) || ((a0.States.getD s2.toNat default).History != (a1.States.getD s2.toNat default).History)) || (!r13_0)))=true then m17 (a0.States.getD s2.toNat default).Exit (a1.States.getD s2.toNat default).Exit else some default).bind fun r13_1=>some (r13_0,r13_1))) (fun x13=>(.g (!(((((a0.States.getD s2.toNat default).Name != (a1.States.getD s2.toNat default).Name) || ((a0.States.getD s2.toNat default).Parent != (a1.States.getD s2.toNat default).Parent)) || ((a0.States.getD s2.toNat default).Initial != (a1.States.getD s2.toNat default).Initial)) || ((a0.States.getD s2.toNat default).History != (a1.States.getD s2.toNat default).History))) (PureAt Tryz.prog 17 [(eSl 1 D.str (a0.States.getD s2.toNat default).Entry),(eSl 1 D.str (a1.States.getD s2.toNat default).Entry)] (.bool x13.1)) (.g (!((((((a0.States.getD s2.toNat default).Name != (a1.States.getD s2.toNat default).Name) || ((a0.States.getD s2.toNat default).Parent != (a1.States.getD s2.toNat default).Parent)) || ((a0.States.getD s2.toNat default).Initial != (a1.States.getD s2.toNat default).Initial)) || ((a0.States.getD s2.toNat default).History != (a1.States.getD s2.toNat default).History)) || (!x13.1))) (PureAt Tryz.prog 17 [(eSl 1 D.str (a0.States.getD s2.toNat default).Exit),(eSl 1 D.str (a1.States.getD s2.toNat default).Exit)] (.bool x13.2)) (.fin 0)))) (by intro x13 h;obtain⟨r13_0,h1,h⟩:=Option.bind_eq_some_iff.1 h;obtain⟨r13_1,h2,h⟩:=Option.bind_eq_some_iff.1 h;cases h;exact⟨fun g=>p17 (by rw[if_pos g]at h1;exact h1),fun g=>p17 (by rw[if_pos g]at h2;exact h2),trivial⟩) (fun x13 _=>(.ite (((((((a0.States.getD s2.toNat default).Name != (a1.States.getD s2.toNat default).Name) || ((a0.States.getD s2.toNat default).Parent != (a1.States.getD s2.toNat default).Parent)) || ((a0.States.getD s2.toNat default).Initial != (a1.States.getD s2.toNat default).Initial)) || ((a0.States.getD s2.toNat default).History != (a1.States.getD s2.toNat default).History)) || (!x13.1)) || (!x13.2)) (.ret .ret ⟨[(4,(aB false))],[],[],3168⟩ (.inr (.inr (false))) ⟨rfl,rfl,rfl,_,Weak.refl _,dr⟩) (.ret .normal ⟨[(2,(.ptr 16 0)),(3,(.ptr 32 0)),(80,(aI (a0.States.length:Int))),(81,(aI (IntKind.wrap .i64 (s2+1))))],(z10_0 a0 a1),[],3184⟩ (.inl (IntKind.wrap .i64 (s2+1))) ⟨rfl,(wk (idn [16,32]) [])⟩)))))))) (.ret (.exit 2) _ (.inr (.inl ())) ⟨rfl,rfl,Weak.refl _⟩))))))) fun _=>(.sc (fun(_:Unit)=>⟨[],[],[],3056⟩) (.sq 1 [] [(0,[2,3,139,140],[16,32])] (fun(_:Unit)=>⟨[(2,(.ptr 16 0)),(3,(.ptr 32 0)),(139,(aI (a0.Transitions.length:Int))),(140,(aI 0))],(z10_0 a0 a1),[],2288⟩) (.nx ()) (fun _=>(.bk (.lp (fun(s3:Int)=>⟨[(2,(.ptr 16 0)),(3,(.ptr 32 0)),(139,(aI (a0.Transitions.length:Int))),(140,(aI s3))],(z10_0 a0 a1),[],3040⟩) (0:Int) (wk (idn [16,32]) []) fun s3=>(.sg [(20,⟨Bool×Bool,fun x=>[(170,(.bool x.1)),(178,(.bool x.2))],fun x=>[],[]⟩)] [(1,[4],[]),(0,[2,3,139,140],[16,32]),(6,[],[])] (.ite (decide (s3 < (a0.Transitions.length:Int))) (nd (0≤s3) (nd (s3 < (a0.Transitions.length:Int)) (nd (0≤s3) (nd (s3 < (a1.Transitions.length:Int)) (.exi (Bool×Bool) ((if(!(((a0.Transitions.getD s3.toNat default).From != (a1.Transitions.getD s3.toNat default).From) || ((a0.Transitions.getD s3.toNat default).To != (a1.Transitions.getD s3.toNat default).To)))=true then m38 (a0.Transitions.getD s3.toNat default).When (a1.Transitions.getD s3.toNat default).When else some default).bind fun r20_0=>((if(!((((a0.Transitions.getD s3.toNat default).From != (a1.Transitions.getD s3.toNat default).From) || ((a0.Transitions.getD s3.toNat default).To != (a1.Transitions.getD s3.toNat default).To)) || (!r20_0)))=true then m17 (a0.Transitions.getD s3.toNat default).Actions (a1.Transitions.getD s3.toNat default).Actions else some default).bind fun r20_1=>some (r20_0,r20_1))) (fun x20=>(.g (!(((a0.Transitions.getD s3.toNat default).From != (a1.Transitions.getD s3.toNat default).From) || ((a0.Transitions.getD s3.toNat default).To != (a1.Transitions.getD s3.toNat default).To))) (PureAt Tryz.prog 38 [(eSl 2 e118 (a0.Transitions.getD s3.toNat default).When),(eSl 2 e118 (a1.Transitions.getD s3.toNat default).When)] (.bool x20.1)) (.g (!((((a0.Transitions.getD s3.toNat default).From != (a1.Transitions.getD s3.toNat default).From) || ((a0.Transitions.getD s3.toNat default).To != (a1.Transitions.getD s3.toNat default).To)) || (!x20.1))) (PureAt Tryz.prog 17 [(eSl 1 D.str (a0.Transitions.getD s3.toNat default).Actions),(eSl 1 D.str (a1.Transitions.getD s3.toNat default).Actions)] (.bool x20.2)) (.fin 0)))) (by intro x20 h;obtain⟨r20_0,h1,h⟩:=Option.bind_eq_some_iff.1 h;obtain⟨r20_1,h2,h⟩:=Option.bind_eq_some_iff.1 h;cases h;exact⟨fun g=>p38 (by rw[if_pos g]at h1;exact h1),fun g=>p17 (by rw[if_pos g]at h2;exact h2),trivial⟩) (fun x20 _=>(.ite (((((a0.Transitions.getD s3.toNat default).From != (a1.Transitions.getD s3.toNat default).From) || ((a0.Transitions.getD s3.toNat default).To != (a1.Transitions.getD s3.toNat default).To)) || (!x20.1)) || (!x20.2)) (.ret .ret ⟨[(4,(aB false))],[],[],3776⟩ (.inr (.inr (false))) ⟨rfl,rfl,rfl,_,Weak.refl _,dr⟩) (.ret .normal ⟨[(2,(.ptr 16 0)),(3,(.ptr 32 0)),(139,(aI (a0.Transitions.length:Int))),(140,(aI (IntKind.wrap .i64 (s3+1))))],(z10_0 a0 a1),[],3792⟩ (.inl (IntKind.wrap .i64 (s3+1))) ⟨rfl,(wk (idn [16,32]) [])⟩)))))))) (.ret (.exit 4) _ (.inr (.inl ())) ⟨rfl,rfl,Weak.refl _⟩))))))) fun _=>(.sg [] [(1,[4],[])] (.ret .ret ⟨[(4,(aB true))],[],[],3072⟩ true ⟨rfl,_,Weak.refl _,dr⟩)))))))
noncomputable def m10 (a0 a1:T27):Option (Bool):=(d10 a0 a1).m
theorem p10 {a0:T27} {a1:T27} {r:Bool} (h:m10 a0 a1=some r):PureAt Tryz.prog 10 [(e27 a0),(e27 a1)] (.bool r):=pure_jd (d10 a0 a1) Tryz.func10 h
noncomputable def d3 (a0:T27):JF Tryz.prog Tryz.f3 [(e27 a0)] (fun(r:Bool)=>(.bool r)) :=
 (.sg [(1,tm1 9 D.bool),(3,tm1 12 e27),(4,tm1 15 (fun(x:((List UInt8)×Int))=>(.tup [(.str x.1),(dI x.2)]))),(5,tm1 20 (fun(x:((List UInt8)×Int))=>(.tup [(.str x.1),(dI x.2)]))),(10,tm1 35 (fun(x:(T27×(List T80)))=>(.tup [(e27 x.1),(eSl 3 e80 x.2)]))),(11,tm1 44 D.bool)] [(1,[2],[])] (c3 (@p5) fun x1=>(.ite (!x1) (.ret .ret ⟨[(2,(aB false))],[],[],96⟩ false ⟨rfl,_,Weak.refl _,dr⟩) (c3 (@p6 a0) fun x3=>(c3 (@p7 x3) fun x4=>(c3 (@p8 x3) fun x5=>(.ite ((x4.1 != x5.1) || (x4.2 != x5.2)) (.ret .ret ⟨[(2,(aB false))],[],[],496⟩ false ⟨rfl,_,Weak.refl _,dr⟩) (.ite (x4.2 != 0) (.ret .ret ⟨[(2,(aB true))],[],[],528⟩ true ⟨rfl,_,Weak.refl _,dr⟩) (c3 (@p9 x4.1) fun x10=>(.exi (Bool) ((if((x10.2.length:Int)==(0:Int))=true then m10 x10.1 x3 else some default).bind fun r11_0=>some r11_0) (fun x11=>(.g ((x10.2.length:Int)==(0:Int)) (PureAt Tryz.prog 10 [(e27 x10.1),(e27 x3)] (.bool x11)) (.fin 0))) (by intro x11 h;obtain⟨r11_0,h1,h⟩:=Option.bind_eq_some_iff.1 h;cases h;exact⟨fun g=>p10 (by rw[if_pos g]at h1;exact h1),trivial⟩) (fun x11 _=>(.ret .ret ⟨[(2,(aB (((x10.2.length:Int)==(0:Int))&&x11)))],[],[],784⟩ (((x10.2.length:Int)==(0:Int))&&x11) ⟨rfl,_,Weak.refl _,dr⟩))))))))))))
noncomputable def m3 (a0:T27):Option (Bool):=(d3 a0).m
theorem p3 {a0:T27} {r:Bool} (h:m3 a0=some r):PureAt Tryz.prog 3 [(e27 a0)] (.bool r):=pure_jd (d3 a0) Tryz.func3 h
end Go.Av
namespace Go.Av
def firstR {Y:Type} (f:Nat→Option Y) (n:Nat):Option Y:=(List.range n).findSome? f
theorem firstR_succ {Y:Type} {f:Nat→Option Y} {n:Nat}:firstR f (n+1)=match firstR f n with | some y=>some y | none=>f n:=by
 unfold firstR
 rw[List.range_succ,List.findSome?_append]
 cases (List.range n).findSome? f with
 | some y=>rfl
 | none=>simp
theorem firstR_none {Y:Type} {f:Nat→Option Y} {n:Nat}:firstR f n=none↔∀ i,i < n→f i=none:=by
 unfold firstR
 rw[List.findSome?_eq_none_iff]
 exact⟨fun h i hi=>h i (List.mem_range.2 hi),fun h i hi=>h i (List.mem_range.1 hi)⟩
theorem firstR_some {Y:Type} {f:Nat→Option Y} {n:Nat} {y:Y} (h:firstR f n=some y):∃ i,i < n∧f i=some y:=by
 unfold firstR at h
 obtain⟨i,hi,h⟩:=List.exists_of_findSome?_eq_some h
 exact⟨i,List.mem_range.1 hi,h⟩
theorem firstR_at {Y:Type} {f:Nat→Option Y} {n i:Nat} {y:Y} (hi:i < n) (h0:∀ j,j < i→f j=none) (h:f i=some y):firstR f n=some y:=by
 induction n with
 | zero=>omega
 | succ n ih =>
  rw[firstR_succ]
  by_cases hn:i < n
  ·rw[ih hn]
  ·obtain rfl:i=n:=by omega
   rw[firstR_none.2 h0,h]
def anyR (F:Nat→Bool) (n:Nat):Bool:=(List.range n).any F
theorem anyR_iff {F:Nat→Bool} {n:Nat}:anyR F n=true↔∃ i,i < n∧F i=true:=by
 simp only[anyR,List.any_eq_true,List.mem_range]
theorem anyR_false {F:Nat→Bool} {n:Nat}:anyR F n=false↔∀ i,i < n→F i=false:=by
 rw[← Bool.not_eq_true,anyR_iff]
 exact⟨fun h i hi=>by cases hf:F i with | false=>rfl | true=>exact absurd ⟨i,hi,hf⟩ h,fun h ⟨i,hi,hf⟩=>by rw[h i hi]at hf;cases hf⟩
theorem anyR_congr {F G:Nat→Bool} {n:Nat} (h:∀ i,i < n→F i=G i):anyR F n=anyR G n:=by
 rw[Bool.eq_iff_iff,anyR_iff,anyR_iff]
 exact⟨fun⟨i,hi,hf⟩=>⟨i,hi,by rw[← h i hi];exact hf⟩,fun⟨i,hi,hf⟩=>⟨i,hi,by rw[h i hi];exact hf⟩⟩
theorem firstR_any {Y:Type} {F:Nat→Bool} {g:Nat→Y} {n:Nat}:(firstR (fun i=>if F i=true then some (g i)else none) n).isSome=anyR F n:=by
 rw[Bool.eq_iff_iff,anyR_iff,Option.isSome_iff_ne_none,ne_eq,firstR_none]
 constructor
 ·intro h
  apply Classical.byContradiction
  intro hn
  exact h fun i hi=>by
   rw[if_neg]
   exact fun hf=>hn ⟨i,hi,hf⟩
 ·rintro⟨i,hi,hf⟩ h
  have:=h i hi
  rw[if_pos hf]at this;cases this
theorem firstR_const {Y:Type} {F:Nat→Bool} {y:Y} {n:Nat}:firstR (fun i=>if F i=true then some y else none) n=if anyR F n=true then some y else none:=by
 rw[← firstR_any (g:=fun _=>y)]
 cases h:firstR (fun i=>if F i=true then some y else none) n with
 | none=>rfl
 | some z =>
  obtain⟨i,_,h⟩:=firstR_some h
  split at h
  ·injection h with h;subst h;rfl
  ·cases h
def findR (F:Nat→Bool) (n:Nat):Int:=(firstR (fun i=>if F i=true then some (i:Int)else none) n).getD (-1)
theorem findR_any {F:Nat→Bool} {n:Nat}:decide (0≤findR F n)=anyR F n:=by
 rw[← firstR_any (g:=fun i=>(i:Int))]
 unfold findR
 cases h:firstR (fun i=>if F i=true then some (i:Int)else none) n with
 | none=>rfl
 | some y =>
  obtain⟨i,_,h⟩:=firstR_some h
  split at h
  ·injection h with h;subst h;simp
  ·cases h
def orK {R:Type} (o k:Option R):Option R:=match o with
 | some y=>some y
 | none=>k
theorem orK_some {R:Type} {y:R} {k:Option R}:orK (some y) k=some y:=rfl
theorem orK_none {R:Type} {k:Option R}:orK none k=k:=rfl
theorem orK_ite {R:Type} {p:Prop} [Decidable p] {a b k:Option R}:orK (if p then a else b) k=if p then orK a k else orK b k:=by split<;>rfl
theorem orK_getD {R:Type} {a:Option R} {d:R}:orK a (some d)=some (a.getD d):=by cases a<;>rfl
theorem orK_total {R:Type} {o k:Option R} (h:∃ y,k=some y):∃ y,orK o k=some y:=by
 cases o with
 | some y=>exact⟨y,rfl⟩
 | none=>exact h
theorem ite_total {R:Type} {p:Prop} [Decidable p] {y:R} {k:Option R} (h:∃ y,k=some y):∃ z,(if p then some y else k)=some z:=by
 split
 ·exact⟨y,rfl⟩
 ·exact h
def exB {S R:Type} (o:Option R) (s:S):Option (S⊕(Unit⊕R)):=match o with
 | some y=>some (.inr (.inr y))
 | none=>some (.inl s)
theorem exB_some {S R:Type} {y:R} {s:S}:exB (some y) s=some (.inr (.inr y)):=rfl
theorem exB_none {S R:Type} {s:S}:exB (none:Option R) s=some (.inl s):=rfl
theorem exB_ite {S R:Type} {p:Prop} [Decidable p] {a b:Option R} {s:S}:exB (if p then a else b) s=if p then exB a s else exB b s:=by split<;>rfl
theorem some_ite {α:Type} {p:Prop} [Decidable p] {a b:α}:some (if p then a else b)=if p then some a else some b:=by split<;>rfl
theorem loop_ex_from {R:Type} {b:Int→Option (Int⊕(Unit⊕R))} (n:Nat) (f:Nat→Option R) (hb:∀ i:Nat,i < n→b i=exB (f i) ((i:Int)+1)) (hd:b n=some (.inr (.inl ()))) :
  ∀ (k i0:Nat),i0+k=n→(∀ i,i < i0→f i=none)→loopO b i0=match firstR f n with | some y=>some (.inr y) | none=>some (.inl ())
 | 0,i0,hk,h0=>by
  obtain rfl:i0=n:=by omega
  rw[loopO_eq,hd,firstR_none.2 h0];rfl
 | k+1,i0,hk,h0=>by
  rw[loopO_eq,hb i0 (by omega)]
  cases hf:f i0 with
  | some y=>rw[firstR_at (by omega) h0 hf];rfl
  | none =>
   have:=loop_ex_from n f hb hd k (i0+1) (by omega) (fun i hi=>by
    by_cases h:i < i0
    ·exact h0 i h
    ·obtain rfl:i=i0:=by omega
     exact hf)
   rw[exB_none]
   simpa using this
theorem loop_ex {R:Type} {b:Int→Option (Int⊕(Unit⊕R))} {k:Unit→Option R} (n:Nat) (f:Nat→Option R) (hb:∀ i:Nat,i < n→b i=exB (f i) ((i:Int)+1)) (hd:b n=some (.inr (.inl ()))) :
  (loopO b 0).bind (onS k)=orK (firstR f n) (k ()):=by
 have:=loop_ex_from n f hb hd n 0 (by omega) (fun i hi=>by omega)
 rw[show ((0:Nat):Int)=0 from rfl]at this
 rw[this]
 cases firstR f n<;>rfl
theorem loop_ex0 {R:Type} {b:Int→Option (Int⊕(Unit⊕R))} (n:Nat) (f:Nat→Option R) (hb:∀ i:Nat,i < n→b i=exB (f i) ((i:Int)+1)) (hd:b n=some (.inr (.inl ()))) :
  loopO b 0=match firstR f n with | some y=>some (.inr y) | none=>some (.inl ()):=loop_ex_from n f hb hd n 0 (by omega) (fun i hi=>by omega)
theorem loop_or {R:Type} {b:Int→Option (Int⊕(Unit⊕R))} {k:Unit→Option R} (n:Nat) (f:Nat→Option R) (hb:∀ i:Nat,i < n→b i=exB (f i) ((i:Int)+1)) (hd:b n=some (.inr (.inl ()))) {z:Option R} (hk:k ()=z) :
  (loopO b 0).bind (onS k)=orK (firstR f n) z:=by rw[loop_ex n f hb hd,hk]
theorem loop_pass {R:Type} {b:Int→Option (Int⊕(Unit⊕R))} {k:Unit→Option R} (n:Nat) (hb:∀ i:Nat,i < n→b i=some (.inl ((i:Int)+1))) (hd:b n=some (.inr (.inl ()))) {z:Option R} (hk:k ()=z) :
  (loopO b 0).bind (onS k)=z:=by
 rw[loop_or n (fun _=>none) hb hd hk,firstR_none.2 fun _ _=>rfl];rfl
theorem ite_else {α:Type} {p:Prop} [Decidable p] {a b b':α} (h:b=b'):(if p then a else b)=if p then a else b':=by rw[h]
theorem bind_eq {α β:Type} {m m':Option α} {f:α→Option β} {z:Option β} (h:m=m') (h2:m'.bind f=z):m.bind f=z:=by rw[h];exact h2
theorem on_l {Y R:Type} {m:Option (Y⊕R)} {y:Y} {f:Y→Option R} {z:Option R} (h:m=some (.inl y)) (hf:f y=z):m.bind (onS f)=z:=by rw[h];exact hf
theorem flatMap_app {A:Type} (g:Nat→List A) (n:Nat):(List.range (n+1)).flatMap g=(List.range n).flatMap g++g n:=by rw[List.range_succ,List.flatMap_append];simp
theorem loop_coll {A St X:Type} {b:St→Option (St⊕X)} (n:Nat) (mk:Nat→List A→St) (g:Nat→List A) (out:List A→X)
  (hs:∀ i,i < n→b (mk i ((List.range i).flatMap g))=some (.inl (mk (i+1) ((List.range i).flatMap g++g i)))) (he:b (mk n ((List.range n).flatMap g))=some (.inr (out ((List.range n).flatMap g)))) :
  loopO b (mk 0 [])=some (out ((List.range n).flatMap g)):=by
 have key:∀ k i,i+k=n→loopO b (mk i ((List.range i).flatMap g))=some (out ((List.range n).flatMap g)):=by
  intro k
  induction k with
  | zero =>
   intro i hk
   obtain rfl:i=n:=by omega
   rw[loopO_eq,he];rfl
  | succ k ih =>
   intro i hk
   rw[loopO_eq,hs i (by omega),← flatMap_app]
   exact ih (i+1) (by omega)
 exact key n 0 (by omega)
theorem flatMap_len {A:Type} {g:Nat→List A} {m:Nat} (h:∀ i,(g i).length≤m):∀ n,((List.range n).flatMap g).length≤n * m
 | 0=>by simp
 | n+1=>by
  have:=flatMap_len h n
  have:=h n
  rw[flatMap_app,List.length_append,Nat.succ_mul];omega
theorem wr1 {i n:Nat} (h:i < n) (hn:n≤4611686018427387904):IntKind.wrap .i64 ((i:Int)+1)=(i:Int)+1:=w64 (by omega) (by omega)
theorem lt_irr {n:Nat}:¬ ((n:Int) < (n:Int)):=Int.lt_irrefl _
theorem subL_getD {α:Type} [Inhabited α] {l:List α} {k j:Nat} (h:j < k):(subL l 0 k).getD j default=l.getD j default:=by
 simp[subL,List.getD_eq_getElem?_getD,List.getElem?_range h]
theorem inL {i:Nat} {n:Nat} (h:i < n):((0:Int)≤(i:Int))=True∧((i:Int) < (n:Int))=True∧(decide ((i:Int) < (n:Int))=true)=True:=by
 refine⟨eq_true (by omega),eq_true (by omega),eq_true (by simpa using h)⟩
end Go.Av
set_option maxRecDepth 100000
namespace Go.Av.Ch
def odd1 (c:Int):Bool:=(decide (c < 65) || decide (90 < c))&&(decide (c < 48) || decide (57 < c))
def nm0 (s:List UInt8):Bool:=decide (s.length=0) || decide (8 < s.length) || decide (byteAt s 0 < 65) || decide (90 < byteAt s 0)
def nm (s:List UInt8):Bool:=!nm0 s&&!anyR (fun i=>odd1 (byteAt s i)) s.length
theorem nm_len {s:List UInt8} (h:nm s=true):0 < s.length∧s.length≤8:=by
 simp only[nm,nm0,Bool.and_eq_true,Bool.not_eq_true',Bool.or_eq_false_iff,decide_eq_false_iff_not]at h
 omega
theorem nm_loop {s:List UInt8} (hl:s.length≤8) {b:Int→Option (Int⊕(Unit⊕Bool))} (hb:∀ i:Nat,i < s.length→b i=exB (if odd1 (byteAt s i)=true then some false else none) ((i:Int)+1)) (hd:b s.length=some (.inr (.inl ()))) :
  (loopO b 0).bind (onS fun _=>some true)=some (!anyR (fun i=>odd1 (byteAt s i)) s.length):=by
 rw[loop_ex s.length _ hb hd,firstR_const]
 cases anyR (fun i=>odd1 (byteAt s i)) s.length<;>rfl
theorem nm_rname (s:List UInt8):m83 s 8=some (nm s):=by
 have e0:(((s.length:Int)==(0:Int)) || (decide ((8:Int) < (s.length:Int))))=(decide (s.length=0) || decide (8 < s.length)):=by
  rw[Bool.eq_iff_iff];simp only[Bool.or_eq_true,decide_eq_true_eq,beq_iff_eq];omega
 delta m83 d83
 simp only[↓JD.sg_m,↓JD.sq_m,↓JD.sc_m,↓JD.bk_m,↓JD.lp_m,↓JD.cd_m,↓JD.lu_m,↓JD.ct_m,↓JD.ce_m,↓JL.r_m,↓JL.z_m,↓JD.se_m,onE_r,↓Tr.run,↓Tr.run_nd,↓Tr.run_c3,↓Tr.run_c2,↓Tr.run_nx,↓onS,bind_ite,Option.bind_some,Option.bind_none,obR,e0,Int.toNat_zero,Int.le_refl,implies_true,if_true]
 cases h1:(decide (s.length=0) || decide (8 < s.length)) with
 | true=>simp only[Bool.true_or,Bool.not_true,Bool.false_eq_true,false_implies,if_true,nm,nm0,h1,Bool.false_and]
 | false =>
  have hl:s.length≤8∧0 < s.length:=by simp only[Bool.or_eq_false_iff,decide_eq_false_iff_not]at h1;omega
  have z2:(0:Int) < s.length:=by omega
  simp only[Bool.false_or,z2,implies_true,if_true,nm,nm0,h1]
  cases h2:(decide (byteAt s 0 < 65) || decide (90 < byteAt s 0)) with
  | true=>rfl
  | false =>
   simp only[Bool.false_eq_true,if_false,Bool.not_false,Bool.true_and]
   refine nm_loop hl.1 (fun i hi=>?_) ?_
   ·(simp only[exB_ite,exB_some,exB_none];simp only[inL hi,decide_true,Int.toNat_natCast,if_true,implies_true,wr1 hi (by omega)];try rfl)
   ·(simp only[lt_irr,decide_false,Bool.false_eq_true,if_false];try rfl)
theorem nm_r8name (s:List UInt8):m56 s 8=some (nm s):=by
 have e0:(decide ((s.length:Int) < (1:Int)) || (decide ((8:Int) < (s.length:Int))))=(decide (s.length=0) || decide (8 < s.length)):=by
  rw[Bool.eq_iff_iff];simp only[Bool.or_eq_true,decide_eq_true_eq];omega
 delta m56 d56
 simp only[↓JD.sg_m,↓JD.sq_m,↓JD.sc_m,↓JD.bk_m,↓JD.lp_m,↓JD.cd_m,↓JD.lu_m,↓JD.ct_m,↓JD.ce_m,↓JL.r_m,↓JL.z_m,↓JD.se_m,onE_r,↓Tr.run,↓Tr.run_nd,↓Tr.run_c3,↓Tr.run_c2,↓Tr.run_nx,↓onS,bind_ite,Option.bind_some,Option.bind_none,obR,e0,Int.toNat_zero,Int.le_refl,implies_true,if_true]
 cases h1:(decide (s.length=0) || decide (8 < s.length)) with
 | true=>simp only[Bool.true_or,Bool.not_true,Bool.false_eq_true,false_implies,if_true,nm,nm0,h1,Bool.false_and]
 | false =>
  have hl:s.length≤8∧0 < s.length:=by simp only[Bool.or_eq_false_iff,decide_eq_false_iff_not]at h1;omega
  have z2:(0:Int) < s.length:=by omega
  simp only[Bool.false_or,z2,implies_true,if_true,nm,nm0,h1]
  cases h2:(decide (byteAt s 0 < 65) || decide (90 < byteAt s 0)) with
  | true=>rfl
  | false =>
   simp only[Bool.false_eq_true,if_false,Bool.not_false,Bool.true_and]
   refine nm_loop hl.1 (fun i hi=>?_) ?_
   ·(simp only[exB_ite,exB_some,exB_none];simp only[inL hi,decide_true,Int.toNat_natCast,if_true,implies_true,wr1 hi (by omega)];try rfl)
   ·(simp only[lt_irr,decide_false,Bool.false_eq_true,if_false];try rfl)
theorem nm_name (s:List UInt8):m49 s=some (nm s):=by
 delta m49 d49
 simp only[↓JD.sg_m,↓JD.sq_m,↓JD.sc_m,↓JD.bk_m,↓JD.lp_m,↓JD.cd_m,↓JD.lu_m,↓JD.ct_m,↓JD.ce_m,↓JL.r_m,↓JL.z_m,↓JD.se_m,onE_r,↓Tr.run,↓Tr.run_nd,↓Tr.run_c3,↓Tr.run_c2,↓Tr.run_nx,↓onS,bind_ite,Option.bind_some,Option.bind_none,obR,nm_rname]
def hasK {α:Type} [BEq α] [Inhabited α] (l:List α) (k:Nat) (x:α):Bool:=anyR (fun i=>x==l.getD i default) k
theorem hasK_sub {α:Type} [BEq α] [Inhabited α] {l:List α} {k:Nat} {x:α}:hasK (subL l 0 k) k x=hasK l k x:=anyR_congr fun i hi=>by rw[subL_getD hi]
theorem hasK_iff {α:Type} [BEq α] [LawfulBEq α] [Inhabited α] {l:List α} {x:α}:hasK l l.length x=true↔x∈l:=by
 unfold hasK
 rw[anyR_iff]
 constructor
 ·rintro⟨i,hi,h⟩
  rw[eq_of_beq h];exact getD_mem hi
 ·intro h
  obtain⟨i,hi,h⟩:=List.getElem_of_mem h
  exact⟨i,hi,by simp[List.getD_eq_getElem?_getD,List.getElem?_eq_getElem hi,h]⟩
theorem idx_loop {n:Nat} {F:Nat→Bool} {b:Int→Option (Int⊕(Unit⊕Int))} (hb:∀ i:Nat,i < n→b i=exB (if F i=true then some (i:Int)else none) ((i:Int)+1)) (hd:b n=some (.inr (.inl ()))) :
  (loopO b 0).bind (onS fun _=>some (-1))=some (findR F n):=by
 rw[loop_ex n _ hb hd,orK_getD];rfl
theorem containsS_eq (l:List (List UInt8)) (x:List UInt8) (hl:l.length≤100000):m62 l x=some (hasK l l.length x):=by
 have e:m91 l x=some (findR (fun i=>x==l.getD i default) l.length):=by
  delta m91 d91
  simp only[↓JD.sg_m,↓JD.sq_m,↓JD.sc_m,↓JD.bk_m,↓JD.lp_m,↓JD.cd_m,↓JD.lu_m,↓JD.ct_m,↓JD.ce_m,↓JL.r_m,↓JL.z_m,↓JD.se_m,onE_r,↓Tr.run,↓Tr.run_nd,↓Tr.run_c3,↓Tr.run_c2,↓Tr.run_nx,↓onS,bind_ite,Option.bind_some,Option.bind_none,obR]
  refine idx_loop (fun i hi=>?_) ?_
  ·(simp only[exB_ite,exB_some,exB_none];simp only[inL hi,decide_true,Int.toNat_natCast,if_true,implies_true,wr1 hi (by omega)];try rfl)
  ·(simp only[lt_irr,decide_false,Bool.false_eq_true,if_false];try rfl)
 delta m62 d62
 simp only[↓JD.sg_m,↓JD.sq_m,↓JD.sc_m,↓JD.bk_m,↓JD.lp_m,↓JD.cd_m,↓JD.lu_m,↓JD.ct_m,↓JD.ce_m,↓JL.r_m,↓JL.z_m,↓JD.se_m,onE_r,↓Tr.run,↓Tr.run_nd,↓Tr.run_c3,↓Tr.run_c2,↓Tr.run_nx,↓onS,bind_ite,Option.bind_some,Option.bind_none,obR,e,findR_any,hasK]
def listedS (l:List (List UInt8)) (i:Nat):Int:=if(!nm (l.getD i default))=true then 5 else if hasK l i (l.getD i default)=true then 7 else 0
theorem listed_eq (l:List (List UInt8)) (i:Nat) (hi:i < l.length) (hl:l.length≤100000):m50 l i=some (listedS l i):=by
 have e:=containsS_eq (subL l 0 i) (l.getD i default) (by rw[subL_len];omega)
 rw[subL_len,hasK_sub]at e
 delta m50 d50
 simp only[↓JD.sg_m,↓JD.sq_m,↓JD.sc_m,↓JD.bk_m,↓JD.lp_m,↓JD.cd_m,↓JD.lu_m,↓JD.ct_m,↓JD.ce_m,↓JL.r_m,↓JL.z_m,↓JD.se_m,onE_r,↓Tr.run,↓Tr.run_nd,↓Tr.run_c3,↓Tr.run_c2,↓Tr.run_nx,↓onS,bind_ite,Option.bind_some,Option.bind_none,obR,inL hi,Int.toNat_natCast,if_true,nm_name,e,listedS,some_ite,show (i:Int)≤l.length by omega]
def litF (c:T27) (l:List T118) (i:Nat):Option Int :=
 if(decide ((l.getD i default).Cond < 0) || decide ((c.Conds.length:Int)≤(l.getD i default).Cond))=true then some 2
 else if(decide ((0:Int) < (i:Int))&&decide ((l.getD i default).Cond≤(l.getD ((i:Int) - 1).toNat default).Cond))=true then some 9 else none
def litS (c:T27) (l:List T118):Int:=(firstR (litF c l) l.length).getD 0
theorem literals_eq (c:T27) (l:List T118) (hl:l.length≤100000):m51 c l=some (litS c l):=by
 delta m51 d51
 simp only[↓JD.sg_m,↓JD.sq_m,↓JD.sc_m,↓JD.bk_m,↓JD.lp_m,↓JD.cd_m,↓JD.lu_m,↓JD.ct_m,↓JD.ce_m,↓JL.r_m,↓JL.z_m,↓JD.se_m,onE_r,↓Tr.run,↓Tr.run_nd,↓Tr.run_c3,↓Tr.run_c2,↓Tr.run_nx,↓onS,bind_ite,Option.bind_some,Option.bind_none,obR]
 rw[loop_ex l.length (litF c l) ?_ ?_,orK_getD];rfl
 ·intro i hi
  have w1:IntKind.wrap .i64 ((i:Int) - 1)=(i:Int) - 1:=w64 (by omega) (by omega)
  have h3:=eq_true (show decide ((0:Int) < i)=true→(0:Int)≤(i:Int) - 1 from fun h=>by simp only[decide_eq_true_eq]at h;omega)
  have h4:=eq_true (show decide ((0:Int) < i)=true→(i:Int) - 1 < l.length from fun h=>by omega)
  unfold litF
  (simp only[exB_ite,exB_some,exB_none];simp only[w1,h3,h4,inL hi,decide_true,Int.toNat_natCast,if_true,implies_true,wr1 hi (by omega)];try rfl)
 ·(simp only[lt_irr,decide_false,Bool.false_eq_true,if_false];try rfl)
theorem rliterals_eq (c:T27) (l:List T118) (hl:l.length≤100000):m57 c l=some (litS c l):=by
 delta m57 d57
 simp only[↓JD.sg_m,↓JD.sq_m,↓JD.sc_m,↓JD.bk_m,↓JD.lp_m,↓JD.cd_m,↓JD.lu_m,↓JD.ct_m,↓JD.ce_m,↓JL.r_m,↓JL.z_m,↓JD.se_m,onE_r,↓Tr.run,↓Tr.run_nd,↓Tr.run_c3,↓Tr.run_c2,↓Tr.run_nx,↓onS,bind_ite,Option.bind_some,Option.bind_none,obR]
 rw[loop_ex l.length (litF c l) ?_ ?_,orK_getD];rfl
 ·intro i hi
  have w1:IntKind.wrap .i64 ((i:Int) - 1)=(i:Int) - 1:=w64 (by omega) (by omega)
  have h3:=eq_true (show decide ((0:Int) < i)=true→(0:Int)≤(i:Int) - 1 from fun h=>by simp only[decide_eq_true_eq]at h;omega)
  have h4:=eq_true (show decide ((0:Int) < i)=true→(i:Int) - 1 < l.length from fun h=>by omega)
  unfold litF
  (simp only[exB_ite,exB_some,exB_none];simp only[w1,h3,h4,inL hi,decide_true,Int.toNat_natCast,if_true,implies_true,wr1 hi (by omega)];try rfl)
 ·(simp only[lt_irr,decide_false,Bool.false_eq_true,if_false];try rfl)
def actS (l:List (List UInt8)):Int:=if decide ((8:Int) < (l.length:Int))=true then 3 else if anyR (fun i=>!nm (l.getD i default)) l.length=true then 5 else 0
theorem actS_len {l:List (List UInt8)} (h:actS l=0):l.length≤8:=by
 unfold actS at h
 split at h
 ·cases h
 ·rename_i h1;simp only[decide_eq_true_eq]at h1;omega
theorem actions_eq (l:List (List UInt8)) (hl:l.length≤100000):m54 l=some (actS l):=by
 have e:m102o0 l=some (findR (fun i=>!nm (l.getD i default)) l.length):=by
  delta m102o0 d102o0
  simp only[↓JD.sg_m,↓JD.sq_m,↓JD.sc_m,↓JD.bk_m,↓JD.lp_m,↓JD.cd_m,↓JD.lu_m,↓JD.ct_m,↓JD.ce_m,↓JL.r_m,↓JL.z_m,↓JD.se_m,onE_r,↓Tr.run,↓Tr.run_nd,↓Tr.run_c3,↓Tr.run_c2,↓Tr.run_nx,↓onS,bind_ite,Option.bind_some,Option.bind_none,obR,m85o0,d85o0,nm_name]
  refine idx_loop (fun i hi=>?_) ?_
  ·(simp only[exB_ite,exB_some,exB_none];simp only[inL hi,decide_true,Int.toNat_natCast,if_true,implies_true,wr1 hi (by omega)];try rfl)
  ·(simp only[lt_irr,decide_false,Bool.false_eq_true,if_false];try rfl)
 delta m54 d54
 simp only[↓JD.sg_m,↓JD.sq_m,↓JD.sc_m,↓JD.bk_m,↓JD.lp_m,↓JD.cd_m,↓JD.lu_m,↓JD.ct_m,↓JD.ce_m,↓JL.r_m,↓JL.z_m,↓JD.se_m,onE_r,↓Tr.run,↓Tr.run_nd,↓Tr.run_c3,↓Tr.run_c2,↓Tr.run_nx,↓onS,bind_ite,Option.bind_some,Option.bind_none,obR,m84o0,d84o0,e,findR_any,actS,some_ite]
theorem ractions_eq (l:List (List UInt8)) (hl:l.length≤100000):m59 l=some (actS l):=by
 delta m59 d59
 simp only[↓JD.sg_m,↓JD.sq_m,↓JD.sc_m,↓JD.bk_m,↓JD.lp_m,↓JD.cd_m,↓JD.lu_m,↓JD.ct_m,↓JD.ce_m,↓JL.r_m,↓JL.z_m,↓JD.se_m,onE_r,↓Tr.run,↓Tr.run_nd,↓Tr.run_c3,↓Tr.run_c2,↓Tr.run_nx,↓onS,bind_ite,Option.bind_some,Option.bind_none,obR,nm_r8name]
 rw[loop_ex l.length (fun i=>if(!nm (l.getD i default))=true then some 5 else none) ?_ ?_,firstR_const]
 ·simp only[orK_ite,orK_some,orK_none,actS,some_ite]
 ·intro i hi
  (simp only[exB_ite,exB_some,exB_none];simp only[inL hi,decide_true,Int.toNat_natCast,if_true,implies_true,wr1 hi (by omega)];try rfl)
 ·(simp only[lt_irr,decide_false,Bool.false_eq_true,if_false];try rfl)
def comp (c:T27) (x:Int):Bool:=anyR (fun i=>(c.States.getD i default).Parent==x) c.States.length
theorem composite_eq (c:T27) (x:Int) (hl:c.States.length≤100000):m79 c x=some (comp c x):=by
 have e:m109o0 c.States x=some (findR (fun i=>(c.States.getD i default).Parent==x) c.States.length):=by
  delta m109o0 d109o0
  simp only[↓JD.sg_m,↓JD.sq_m,↓JD.sc_m,↓JD.bk_m,↓JD.lp_m,↓JD.cd_m,↓JD.lu_m,↓JD.ct_m,↓JD.ce_m,↓JL.r_m,↓JL.z_m,↓JD.se_m,onE_r,↓Tr.run,↓Tr.run_nd,↓Tr.run_c3,↓Tr.run_c2,↓Tr.run_nx,↓onS,bind_ite,Option.bind_some,Option.bind_none,obR,m101o0,d101o0]
  refine idx_loop (fun i hi=>?_) ?_
  ·(simp only[exB_ite,exB_some,exB_none];simp only[inL hi,decide_true,Int.toNat_natCast,if_true,implies_true,wr1 hi (by omega)];try rfl)
  ·(simp only[lt_irr,decide_false,Bool.false_eq_true,if_false];try rfl)
 delta m79 d79
 simp only[↓JD.sg_m,↓JD.sq_m,↓JD.sc_m,↓JD.bk_m,↓JD.lp_m,↓JD.cd_m,↓JD.lu_m,↓JD.ct_m,↓JD.ce_m,↓JL.r_m,↓JL.z_m,↓JD.se_m,onE_r,↓Tr.run,↓Tr.run_nd,↓Tr.run_c3,↓Tr.run_c2,↓Tr.run_nx,↓onS,bind_ite,Option.bind_some,Option.bind_none,obR,m100o0,d100o0,e,findR_any,comp]
theorem rcomposite_eq (c:T27) (x:Int) (hl:c.States.length≤100000):m87 c x=some (comp c x):=by
 delta m87 d87
 simp only[↓JD.sg_m,↓JD.sq_m,↓JD.sc_m,↓JD.bk_m,↓JD.lp_m,↓JD.cd_m,↓JD.lu_m,↓JD.ct_m,↓JD.ce_m,↓JL.r_m,↓JL.z_m,↓JD.se_m,onE_r,↓Tr.run,↓Tr.run_nd,↓Tr.run_c3,↓Tr.run_c2,↓Tr.run_nx,↓onS,bind_ite,Option.bind_some,Option.bind_none,obR]
 rw[loop_ex c.States.length (fun i=>if((c.States.getD i default).Parent==x)=true then some true else none) ?_ ?_,firstR_const,comp]
 ·cases anyR (fun i=>(c.States.getD i default).Parent==x) c.States.length<;>rfl
 ·intro i hi
  (simp only[exB_ite,exB_some,exB_none];simp only[inL hi,decide_true,Int.toNat_natCast,if_true,implies_true,wr1 hi (by omega)];try rfl)
 ·(simp only[lt_irr,decide_false,Bool.false_eq_true,if_false];try rfl)
def isS (c:T27) (x:Int):Bool:=decide ((0:Int)≤x)&&decide (x < (c.States.length:Int))
theorem is_eq (c:T27) (x:Int):m53 c x=some (isS c x):=rfl
theorem isS_iff {c:T27} {x:Int}:isS c x=true↔0≤x∧x < c.States.length:=by simp[isS]
def childS (c:T27) (x y:Int):Bool:=isS c x&&((c.States.getD x.toNat default).Parent==y)
theorem rchild_eq (c:T27) (x y:Int):m88 c x y=some (childS c x y):=by
 have h1:=eq_true (show (decide ((0:Int)≤x)&&decide (x < (c.States.length:Int)))=true→(0:Int)≤x from fun h=>(isS_iff (c:=c).1 h).1)
 have h2:=eq_true (show (decide ((0:Int)≤x)&&decide (x < (c.States.length:Int)))=true→x < (c.States.length:Int) from fun h=>(isS_iff (c:=c).1 h).2)
 delta m88 d88
 simp only[↓JD.sg_m,↓JD.sq_m,↓JD.sc_m,↓JD.bk_m,↓JD.lp_m,↓JD.cd_m,↓JD.lu_m,↓JD.ct_m,↓JD.ce_m,↓JL.r_m,↓JL.z_m,↓JD.se_m,onE_r,↓Tr.run,↓Tr.run_nd,↓Tr.run_c3,↓Tr.run_c2,↓Tr.run_nx,↓onS,bind_ite,Option.bind_some,Option.bind_none,obR,h1,h2,if_true,childS,isS]
end Go.Av.Ch
namespace Go.Av
theorem bs {α β:Type} {a:α} {f:α→Option β}:Option.bind (some a) f=f a:=Eq.mpr rfl rfl
theorem ol {Y R:Type} {f:Y→Option R} {y:Y}:onS f (.inl y)=f y:=Eq.mpr rfl rfl
theorem or_ {Y R:Type} {f:Y→Option R} {r:R}:onS f (.inr r)=some r:=Eq.mpr rfl rfl
theorem bind_id {α:Type} {m:Option α}:(Option.bind m fun r=>some r)=m:=by cases m<;>rfl
theorem loop_st {S X : Type} {b : S → Option (S ⊕ X)} (n : Nat) (st : Nat → S) (out : X) (hs : ∀ i, i < n → b (st i) = some (.inl (st (i + 1)))) (he : b (st n) = some (.inr out)) : loopO b (st 0) = some out := by
  have key : ∀ k i, i + k = n → loopO b (st i) = some out := by
    intro k
    induction k with
    | zero => intro i h; obtain rfl : i = n := by omega
              rw [loopO_eq, he]; rfl
    | succ k ih => intro i h; rw [loopO_eq, hs i (by omega)]; exact ih (i + 1) (by omega)
  exact key n 0 (by omega)
theorem loop_end {S Y R:Type} {b:S→Option (S⊕(Y⊕R))} {k:Y→Option R} {z:Option R} {s0:S} (I:Nat→S→Prop) (Q:Y→Prop) (m0:Nat) (h0:I m0 s0) (step:∀ m s,I m s→(∃ s',b s=some (.inl s')∧∃ m',m' < m∧I m' s')∨∃ y,b s=some (.inr (.inl y))∧Q y) (hk:∀ y,Q y→k y=z):(loopO b s0).bind (onS k)=z:=by
 obtain⟨x,h1,y,h2,h3⟩:=loop_inv I (fun(x:Y⊕R)=>∃ y,x=.inl y∧Q y) (fun m s hs=>by
  rcases step m s hs with h | ⟨y,h,hq⟩
  ·exact .inl h
  ·exact .inr ⟨_,h,y,rfl,hq⟩) m0 s0 h0
 subst h2
 rw[h1];exact hk y h3
end Go.Av
set_option maxRecDepth 100000
namespace Go.Av
def headB (p:List UInt8):List (List UInt8)→List (List UInt8)
 | []=>[p]
 | l :: r=>(p++l) :: r
def splitB (c:UInt8):List UInt8→List (List UInt8)
 | []=>[[]]
 | b :: s=>if b=c then[] :: splitB c s else headB [b] (splitB c s)
theorem splitB_cons {c b:UInt8} {s:List UInt8}:splitB c (b :: s)=if b=c then[] :: splitB c s else headB [b] (splitB c s):=rfl
theorem splitB_none {c:UInt8}:∀ {s:List UInt8},s.count c=0→splitB c s=[s]
 | [],_=>rfl
 | b :: s,h=>by
  rw[List.count_cons]at h
  have hb:¬ b=c:=fun e=>by subst e;simp at h
  rw[splitB_cons]
  rw[if_neg hb,splitB_none (by omega)]
  rfl
theorem splitB_at {c:UInt8}:∀ {s:List UInt8},s.count c≠0→∃ k:Nat,Lib.indexByte s c=(k:Int)∧k < s.length∧splitB c s=s.take k :: splitB c (s.drop (k+1))∧s.count c=(s.drop (k+1)).count c+1
 | [],h=>absurd rfl h
 | b :: s,h=>by
  by_cases hb:b=c
  ·subst hb
   refine⟨0,by simp[Lib.indexByte],by simp,by simp[splitB],by simp⟩
  ·have hc:s.count c≠0:=by rw[List.count_cons]at h;simpa [hb] using h
   obtain⟨k,h1,h2,h3,h4⟩:=splitB_at hc
   refine⟨k+1,?_,by simpa using h2,?_,?_⟩
   ·unfold Lib.indexByte
    rw[if_neg (by simpa using hb),h1,if_neg (by simp)]
    omega
   ·rw[splitB_cons,if_neg hb,h3]
    rfl
   ·rw[List.count_cons,if_neg (by simpa using hb),h4]
    rfl
theorem splitB_join {c:UInt8} {x y:List UInt8} (hx:c ∉ x):splitB c (x++c :: y)=x :: splitB c y:=by
 induction x with
 | nil=>simp[splitB]
 | cons b x ih =>
  have hb:¬ b=c:=fun e=>hx (by simp[e])
  rw[List.cons_append,splitB_cons,if_neg hb,ih fun h=>hx (List.mem_cons_of_mem _ h)]
  rfl
theorem M105 (a0 a1:List UInt8):m105 a0 a1=((Option.bind (Option.bind (m113 a0 a1) fun r=>some r) fun x1=>(some x1)):Option (Int)):=by kernel_rfl
theorem M89 (a0 a1:List UInt8) (a2 a3:Int):m89 a0 a1 a2 a3=((Option.bind (if(a3==0)=true then(some (.inr ([])))else(if(a1==([]:List UInt8))=true then(Option.bind (Option.bind (m103 a0 a3) fun r=>some r) fun x4=>(some (.inr (x4))))else(if(decide (a3 < 0))=true then(Option.bind (Option.bind (m104 a0 a1) fun r=>some r) fun x6=>(if(0≤(if(IntKind.wrap .i64 ((a0.length:Int)+(1:Int))) < (IntKind.wrap .i64 (x6+1))then(IntKind.wrap .i64 ((a0.length:Int)+(1:Int)))else(IntKind.wrap .i64 (x6+1))))then(if((if(IntKind.wrap .i64 ((a0.length:Int)+(1:Int))) < (IntKind.wrap .i64 (x6+1))then(IntKind.wrap .i64 ((a0.length:Int)+(1:Int)))else(IntKind.wrap .i64 (x6+1)))=(if(IntKind.wrap .i64 ((a0.length:Int)+(1:Int))) < (IntKind.wrap .i64 (x6+1))then(IntKind.wrap .i64 ((a0.length:Int)+(1:Int)))else(IntKind.wrap .i64 (x6+1))))then(if((if(IntKind.wrap .i64 ((a0.length:Int)+(1:Int))) < (IntKind.wrap .i64 (x6+1))then(IntKind.wrap .i64 ((a0.length:Int)+(1:Int)))else(IntKind.wrap .i64 (x6+1))) * 16≤140737488355328)then(if((if(IntKind.wrap .i64 ((a0.length:Int)+(1:Int))) < (IntKind.wrap .i64 (x6+1))then(IntKind.wrap .i64 ((a0.length:Int)+(1:Int)))else(IntKind.wrap .i64 (x6+1)))≤9223372036854775807)then(some (.inl ((IntKind.wrap .i64 ((if(IntKind.wrap .i64 ((a0.length:Int)+(1:Int))) < (IntKind.wrap .i64 (x6+1))then(IntKind.wrap .i64 ((a0.length:Int)+(1:Int)))else(IntKind.wrap .i64 (x6+1))) - 1)),(List.replicate (if(IntKind.wrap .i64 ((a0.length:Int)+(1:Int))) < (IntKind.wrap .i64 (x6+1))then(IntKind.wrap .i64 ((a0.length:Int)+(1:Int)))else(IntKind.wrap .i64 (x6+1))).toNat ([]:List UInt8)),(if(IntKind.wrap .i64 ((a0.length:Int)+(1:Int))) < (IntKind.wrap .i64 (x6+1))then(IntKind.wrap .i64 ((a0.length:Int)+(1:Int)))else(IntKind.wrap .i64 (x6+1))).toNat)))else none)else none)else none)else none))else(if(0≤(if(IntKind.wrap .i64 ((a0.length:Int)+(1:Int))) < a3 then(IntKind.wrap .i64 ((a0.length:Int)+(1:Int)))else a3))then(if((if(IntKind.wrap .i64 ((a0.length:Int)+(1:Int))) < a3 then(IntKind.wrap .i64 ((a0.length:Int)+(1:Int)))else a3)=(if(IntKind.wrap .i64 ((a0.length:Int)+(1:Int))) < a3 then(IntKind.wrap .i64 ((a0.length:Int)+(1:Int)))else a3))then(if((if(IntKind.wrap .i64 ((a0.length:Int)+(1:Int))) < a3 then(IntKind.wrap .i64 ((a0.length:Int)+(1:Int)))else a3) * 16≤140737488355328)then(if((if(IntKind.wrap .i64 ((a0.length:Int)+(1:Int))) < a3 then(IntKind.wrap .i64 ((a0.length:Int)+(1:Int)))else a3)≤9223372036854775807)then(some (.inl ((IntKind.wrap .i64 ((if(IntKind.wrap .i64 ((a0.length:Int)+(1:Int))) < a3 then(IntKind.wrap .i64 ((a0.length:Int)+(1:Int)))else a3) - 1)),(List.replicate (if(IntKind.wrap .i64 ((a0.length:Int)+(1:Int))) < a3 then(IntKind.wrap .i64 ((a0.length:Int)+(1:Int)))else a3).toNat ([]:List UInt8)),(if(IntKind.wrap .i64 ((a0.length:Int)+(1:Int))) < a3 then(IntKind.wrap .i64 ((a0.length:Int)+(1:Int)))else a3).toNat)))else none)else none)else none)else none)))) (onS fun(y1:Int×(List (List UInt8))×Nat)=>(Option.bind (loopO (fun(s2:(List UInt8)×(List (List UInt8))×Int)=>((if(decide (s2.2.2 < y1.1))=true then(Option.bind (Option.bind (m105 s2.1 a1) fun r=>some r) fun x12=>(if(decide (x12 < 0))=true then(some (.inr (.inl (s2.1,s2.2.1,s2.2.2))))else(if(0≤(IntKind.wrap .i64 (x12+a2)))then(if((IntKind.wrap .i64 (x12+a2))≤(s2.1.length:Int))then(if(0≤s2.2.2)then(if(s2.2.2 < (y1.2.2:Int))then(if(s2.2.2.toNat < y1.2.2)then(if(0≤(IntKind.wrap .i64 (x12+(a1.length:Int))))then(if((IntKind.wrap .i64 (x12+(a1.length:Int)))≤(s2.1.length:Int))then(some (.inl ((s2.1.drop (IntKind.wrap .i64 (x12+(a1.length:Int))).toNat),((subL s2.2.1 0 y1.2.2).set s2.2.2.toNat (s2.1.take (IntKind.wrap .i64 (x12+a2)).toNat)),(IntKind.wrap .i64 (s2.2.2+1)))))else none)else none)else none)else none)else none)else none)else none)))else(some (.inr (.inl (s2.1,s2.2.1,s2.2.2))))):Option (((List UInt8)×(List (List UInt8))×Int)⊕(((List UInt8)×(List (List UInt8))×Int)⊕((List (List UInt8))))))) (a0,y1.2.1,(0:Int))) (onS fun(y3:(List UInt8)×(List (List UInt8))×Int)=>(if(0≤y3.2.2)then(if(y3.2.2 < (y1.2.2:Int))then(if(y3.2.2.toNat < y1.2.2)then(if(0≤(IntKind.wrap .i64 (y3.2.2+1)))then(if((IntKind.wrap .i64 (y3.2.2+1))≤(y1.2.2:Int))then(some (((subL y3.2.1 0 y1.2.2).set y3.2.2.toNat y3.1).take (IntKind.wrap .i64 (y3.2.2+1)).toNat))else none)else none)else none)else none)else none))))):Option ((List (List UInt8)))):=by kernel_rfl
theorem M60 (a0 a1:List UInt8):m60 a0 a1=((Option.bind (Option.bind (m89 a0 a1 (0:Int) (-1:Int)) fun r=>some r) fun x1=>(some x1)):Option ((List (List UInt8)))):=by kernel_rfl
theorem Index_eq (s:List UInt8) (c:UInt8):m105 s [c]=some (Lib.indexByte s c):=by
 simp only[M105,bind_id]
 rfl
theorem genSplit_eq (s:List UInt8) (c:UInt8) (hs:s.length≤1000000):m89 s [c] 0 (-1)=some (splitB c s):=by
 have hcl:s.count c≤s.length:=List.count_le_length
 have hC:m104 s [c]=some ((s.count c:Nat):Int):=rfl
 have e1:((-1:Int)==0)=false:=rfl
 have e2:(([c]:List UInt8)==([]:List UInt8))=false:=rfl
 have e3:decide ((-1:Int) < 0)=true:=rfl
 have w1:IntKind.wrap .i64 ((s.length:Int)+1)=(s.length:Int)+1:=w64 (by omega) (by omega)
 have w2:IntKind.wrap .i64 (((s.count c:Nat):Int)+1)=((s.count c+1:Nat):Int):=w64 (by omega) (by omega)
 have w3:(if(s.length:Int)+1 < ((s.count c+1:Nat):Int)then(s.length:Int)+1 else((s.count c+1:Nat):Int))=((s.count c+1:Nat):Int):=if_neg (by omega)
 have w4:IntKind.wrap .i64 (((s.count c+1:Nat):Int) - 1)=((s.count c:Nat):Int):=by rw[w64 (by omega) (by omega)];omega
 have a1:((0:Int)≤((s.count c+1:Nat):Int))=True:=eq_true (by omega)
 have a2:(((s.count c+1:Nat):Int) * 16≤140737488355328)=True:=eq_true (by omega)
 have a3:(((s.count c+1:Nat):Int)≤9223372036854775807)=True:=eq_true (by omega)
 simp only[M89,bind_id]
 simp only[e1,e2,e3,hC,bs,ol,w1,w2,w3,w4,a1,a2,a3,Int.toNat_natCast,Bool.false_eq_true,if_false,if_true]
 generalize hN:s.count c=N at *
 refine loop_end (fun m st=>∃ (rest:List UInt8) (a:List (List UInt8)) (i:Nat),st=(rest,a,(i:Int))∧m=N - i∧i≤N∧a.length=N+1∧rest.count c=N - i∧rest.length≤s.length∧splitB c s=a.take i++splitB c rest)
  (fun y=>∃ (rest:List UInt8) (a:List (List UInt8)),y=(rest,a,(N:Int))∧a.length=N+1∧splitB c s=a.take N++[rest]) N ⟨s,_,0,rfl,rfl,by omega,by simp,by rw[hN];omega,Nat.le_refl _,by simp⟩ ?_ ?_
 ·rintro m st ⟨rest,a,i,rfl,rfl,hi,hl,hc,hr,he⟩
  rcases Nat.lt_or_eq_of_le hi with hlt | heq
  ·left
   obtain⟨k,k1,k2,k3,k4⟩:=splitB_at (c:=c) (s:=rest) (by omega)
   have hI:=Index_eq rest c
   rw[k1]at hI
   have b1:decide ((i:Int) < (N:Int))=true:=by simp;omega
   have b2:decide ((k:Int) < 0)=false:=by simp
   have b3:IntKind.wrap .i64 ((k:Int)+0)=(k:Int):=w64 (by omega) (by omega)
   have b4:IntKind.wrap .i64 ((k:Int)+(([c]:List UInt8).length:Int))=((k+1:Nat):Int):=by
    show IntKind.wrap .i64 ((k:Int)+((1:Nat):Int))=_
    rw[w64 (by omega) (by omega)];omega
   have b5:((0:Int)≤(k:Int))=True:=eq_true (by omega)
   have b6:((k:Int)≤(rest.length:Int))=True:=eq_true (by omega)
   have b7:((0:Int)≤(i:Int))=True:=eq_true (by omega)
   have b8:((i:Int) < ((N+1:Nat):Int))=True:=eq_true (by omega)
   have b9:(i < N+1)=True:=eq_true (by omega)
   have b10:((0:Int)≤((k+1:Nat):Int))=True:=eq_true (by omega)
   have b11:(((k+1:Nat):Int)≤(rest.length:Int))=True:=eq_true (by omega)
   have b12:IntKind.wrap .i64 ((i:Int)+1)=((i+1:Nat):Int):=w64 (by omega) (by omega)
   have b13:subL a 0 (N+1)=a:=subL_all hl
   refine⟨(rest.drop (k+1),a.set i (rest.take k),((i+1:Nat):Int)),?_,N - (i+1),by omega,_,_,i+1,rfl,rfl,by omega,by rw[List.length_set];exact hl,by omega,by rw[List.length_drop];omega,?_⟩
   ·simp only[b1,hI,bs,b2,b3,b4,b5,b6,b7,b8,b9,b10,b11,b12,b13,Int.toNat_natCast,Bool.false_eq_true,if_false,if_true]
   ·rw[he,k3,List.take_add_one,List.getElem?_set_self (by omega),List.take_set_of_le (Nat.le_refl _)]
    simp
  ·right
   subst heq
   have b1:decide ((i:Int) < (i:Int))=false:=by simp
   refine⟨_,by simp only[b1,Bool.false_eq_true,if_false],rest,a,rfl,hl,?_⟩
   rw[he,splitB_none (by omega)]
 ·rintro y ⟨rest,a,rfl,hl,he⟩
  have b1:((0:Int)≤(N:Int))=True:=eq_true (by omega)
  have b2:((N:Int) < ((N+1:Nat):Int))=True:=eq_true (by omega)
  have b3:(N < N+1)=True:=eq_true (by omega)
  have b4:IntKind.wrap .i64 ((N:Int)+1)=((N+1:Nat):Int):=w64 (by omega) (by omega)
  have b5:((0:Int)≤((N+1:Nat):Int))=True:=eq_true (by omega)
  have b6:(((N+1:Nat):Int)≤((N+1:Nat):Int))=True:=eq_true (by omega)
  have b7:subL a 0 (N+1)=a:=subL_all hl
  simp only[b1,b2,b3,b4,b5,b6,b7,Int.toNat_natCast,if_true]
  rw[he,List.take_add_one,List.getElem?_set_self (by omega),List.take_set_of_le (Nat.le_refl _)]
  rfl
theorem Split_eq (s:List UInt8) (c:UInt8) (hs:s.length≤1000000):m60 s [c]=some (splitB c s):=by
 simp only[M60,bind_id,genSplit_eq s c hs,bs]
end Go.Av
set_option maxRecDepth 100000
namespace Go.Av
def okB (b:UInt8):Bool:=decide (33≤b.toNat)&&decide (b.toNat≤126)&&!(b==35)
def okW (w:List UInt8):Prop:=0 < w.length∧∀ b∈w,okB b=true
def tailW (l:List (List UInt8)):List UInt8:=l.flatMap fun s=>32 :: s
def lineW:List (List UInt8)→List UInt8
 | []=>[]
 | w :: l=>w++tailW l
def fldAt:Nat→List (List UInt8)→List T85
 | _,[]=>[]
 | p,w :: l=>⟨w,(p:Int)+1⟩ :: fldAt (p+w.length+1) l
theorem fldAt_len:∀ (l:List (List UInt8)) (p:Nat),(fldAt p l).length=l.length
 | [],_=>rfl
 | w :: l,p=>by unfold fldAt;rw[List.length_cons,List.length_cons,fldAt_len l]
theorem byteAt_app {a:List UInt8} {q i:Nat} {s r:List UInt8} (h:a.drop q=s++r) (hi:i < s.length):q+i < a.length∧byteAt a (q+i)=((s.getD i 0).toNat:Int):=by
 have h1:(a.drop q)[i]?=some (s.getD i 0):=by
  rw[h,List.getElem?_append_left hi,List.getD_eq_getElem?_getD,List.getElem?_eq_getElem hi];rfl
 rw[List.getElem?_drop]at h1
 refine⟨?_,by unfold byteAt;rw[h1]⟩
 exact(List.getElem?_eq_some_iff.1 h1).1
theorem drop_len {a:List UInt8} {q:Nat} {s r:List UInt8} (h:a.drop q=s++r) (hq:q≤a.length):a.length=q+s.length+r.length:=by
 have:=congrArg List.length h
 rw[List.length_drop,List.length_append]at this
 omega
theorem drop_more {a:List UInt8} {q:Nat} {s r:List UInt8} (h:a.drop q=s++r):a.drop (q+s.length)=r:=by
 rw[← List.drop_drop,h,List.drop_left]
theorem take_word {a:List UInt8} {q:Nat} {s r:List UInt8} (h:a.drop q=s++r):(a.take (q+s.length)).drop q=s:=by
 rw[List.drop_take,h,Nat.add_sub_cancel_left,List.take_left]
theorem okW_byte {w:List UInt8} (h:okW w) {i:Nat} (hi:i < w.length):33≤(w.getD i 0).toNat∧(w.getD i 0).toNat≤126∧w.getD i 0≠35:=by
 have hm:w.getD i 0∈w:=by
  rw[List.getD_eq_getElem?_getD,List.getElem?_eq_getElem hi];exact List.getElem_mem hi
 have:=h.2 _ hm
 simp only[okB,Bool.and_eq_true,decide_eq_true_eq,Bool.not_eq_true',beq_eq_false_iff_ne,ne_eq]at this
 exact⟨this.1.1,this.1.2,this.2⟩
theorem fld_loop {X:Type} {a:List UInt8} {b:List T85×Int→Option ((List T85×Int)⊕X)} (out:List T85→X)
  (hend:∀ acc,b (acc,(a.length:Int))=some (.inr (out acc)))
  (hsp:∀ acc (q:Nat),q < a.length→byteAt a q=32→b (acc,(q:Int))=some (.inl (acc,((q+1:Nat):Int))))
  (hw:∀ acc (q:Nat) (s r:List UInt8),acc.length≤1000→a.drop q=s++r→okW s→(r=[]∨∃ t,r=32 :: t)→b (acc,(q:Int))=some (.inl (acc++[⟨s,(q:Int)+1⟩],((q+s.length:Nat):Int)))) :
  ∀ (l:List (List UInt8)) (q:Nat) (acc:List T85),(∀ s∈l,okW s)→q≤a.length→a.drop q=tailW l→acc.length+l.length≤1000→loopO b (acc,(q:Int))=some (out (acc++fldAt (q+1) l))
 | [],q,acc,hl,hq,hd,hn=>by
  have:a.length=q:=by
   have:=congrArg List.length hd
   rw[List.length_drop]at this
   simp only[tailW,List.flatMap_nil,List.length_nil]at this
   omega
  subst this
  rw[loopO_eq,hend]
  simp only[Option.bind_some,fldAt,List.append_nil]
 | s :: l,q,acc,hl,hq,hd,hn=>by
  have hd':a.drop q=[32]++(s++tailW l):=hd
  obtain⟨h1,h2⟩:=byteAt_app (i:=0) hd' (by simp)
  have hd2:a.drop (q+1)=s++tailW l:=drop_more hd'
  rw[Nat.add_zero]at h1 h2
  have h2:byteAt a q=32:=h2
  have hs:=hl s (by simp)
  have hr:tailW l=[]∨∃ t,tailW l=32 :: t:=by
   cases l with
   | nil=>exact .inl rfl
   | cons x l=>exact .inr ⟨_,rfl⟩
  rw[loopO_eq,hsp acc q h1 h2]
  simp only[Option.bind_some]
  rw[loopO_eq,hw acc (q+1) s (tailW l) (by simp at hn;omega) hd2 hs hr]
  simp only[Option.bind_some]
  have hd3:=drop_more hd2
  have hln:=drop_len hd2 (by omega)
  rw[fld_loop out hend hsp hw l (q+1+s.length) (acc++[(⟨s,((q+1:Nat):Int)+1⟩:T85)]) (fun t ht=>hl t (by simp[ht])) (by omega) hd3 (by simp at hn ⊢;omega)]
  simp only[fldAt,List.append_assoc,List.cons_append,List.nil_append]
theorem fld_line {X:Type} {a:List UInt8} {b:List T85×Int→Option ((List T85×Int)⊕X)} (out:List T85→X)
  (hend:∀ acc,b (acc,(a.length:Int))=some (.inr (out acc)))
  (hsp:∀ acc (q:Nat),q < a.length→byteAt a q=32→b (acc,(q:Int))=some (.inl (acc,((q+1:Nat):Int))))
  (hw:∀ acc (q:Nat) (s r:List UInt8),acc.length≤1000→a.drop q=s++r→okW s→(r=[]∨∃ t,r=32 :: t)→b (acc,(q:Int))=some (.inl (acc++[⟨s,(q:Int)+1⟩],((q+s.length:Nat):Int))))
  {l:List (List UInt8)} (hl:∀ s∈l,okW s) (ha:a=lineW l) (hn:l.length≤900):loopO b ([],(0:Int))=some (out (fldAt 0 l)):=by
 cases l with
 | nil =>
  have h0:a.length=0:=by rw[ha];rfl
  have:=hend []
  rw[h0]at this
  rw[loopO_eq]
  show Option.bind (b ([],((0:Nat):Int))) _=_
  rw[this];rfl
 | cons w l =>
  have hd:a.drop 0=w++tailW l:=by rw[ha];rfl
  have hr:tailW l=[]∨∃ t,tailW l=32 :: t:=by
   cases l with
   | nil=>exact .inl rfl
   | cons x l=>exact .inr ⟨_,rfl⟩
  rw[loopO_eq]
  show Option.bind (b ([],((0:Nat):Int))) _=_
  rw[hw [] 0 w (tailW l) (by simp) hd (hl w (by simp)) hr]
  simp only[Option.bind_some]
  have hd3:=drop_more hd
  have hln:=drop_len hd (by omega)
  rw[fld_loop out hend hsp hw l (0+w.length) _ (fun t ht=>hl t (by simp[ht])) (by omega) hd3 (by simp at hn ⊢;omega)]
  simp only[fldAt,List.nil_append,List.cons_append]
theorem word_loop {Y:Type} {a:List UInt8} {b:Int→Option (Int⊕(Int⊕Y))} {q:Nat} {s r:List UInt8} (hd:a.drop q=s++r) (hq:q≤a.length) (hs:okW s) (hr:r=[]∨∃ t,r=32 :: t)
  (hb:∀ i:Nat,i < a.length→byteAt a i≠32→b (i:Int)=some (.inl ((i+1:Nat):Int))) (he:∀ i:Nat,i=a.length∨(i < a.length∧byteAt a i=32)→b (i:Int)=some (.inr (.inl (i:Int)))) :
  loopO b (q:Int)=some (.inl ((q+s.length:Nat):Int)):=by
 have hl:=drop_len hd hq
 refine loop_st s.length (fun i=>((q+i:Nat):Int)) (Sum.inl ((q+s.length:Nat):Int)) (fun i hi=>?_) ?_
 ·obtain⟨h1,h2⟩:=byteAt_app hd hi
  have h3:=okW_byte hs hi
  exact hb (q+i) h1 (by rw[h2];omega)
 ·refine he _ ?_
  rcases hr with rfl | ⟨t,rfl⟩
  ·left;simp at hl;omega
  ·right
   have h4:=byteAt_app (i:=0) (s:=[32]) (r:=t) (drop_more hd) (by simp)
   rw[Nat.add_zero]at h4
   exact⟨h4.1,h4.2⟩
theorem line_bytes:∀ {l:List (List UInt8)},(∀ s∈l,okW s)→∀ b∈lineW l,32≤b.toNat∧b.toNat≤126∧b≠35:=by
 have ok1:∀ {b:UInt8},okB b=true→32≤b.toNat∧b.toNat≤126∧b≠35:=fun {b} h=>by
  simp only[okB,Bool.and_eq_true,decide_eq_true_eq,Bool.not_eq_true',beq_eq_false_iff_ne,ne_eq]at h
  exact⟨by omega,h.1.2,h.2⟩
 intro l hl b hb
 cases l with
 | nil=>cases hb
 | cons w l =>
  rcases List.mem_append.1 hb with hb | hb
  ·exact ok1 ((hl w (by simp)).2 b hb)
  ·unfold tailW at hb
   obtain⟨s,hs,hb⟩:=List.mem_flatMap.1 hb
   rcases List.mem_cons.1 hb with rfl | hb
   ·exact⟨by decide,by decide,by decide⟩
   ·exact ok1 ((hl s (by simp[hs])).2 b hb)
theorem M106 (a0 a1:List UInt8):m106 a0 a1=((Option.bind (Option.bind (m113 a0 a1) fun r=>some r) fun x1=>(if(decide (0≤x1))=true then(if(0≤x1)then(if(x1≤(a0.length:Int))then(if(0≤(IntKind.wrap .i64 (x1+(a1.length:Int))))then(if((IntKind.wrap .i64 (x1+(a1.length:Int)))≤(a0.length:Int))then(some ((a0.take x1.toNat),(a0.drop (IntKind.wrap .i64 (x1+(a1.length:Int))).toNat),true))else none)else none)else none)else none)else(some (a0,([]:List UInt8),false)))):Option ((List UInt8)×(List UInt8)×Bool)):=by kernel_rfl
theorem M90 (a0 a1:List UInt8):m90 a0 a1=((Option.bind (Option.bind (m106 a0 a1) fun r=>some r) fun x1=>(some (x1.1,x1.2.1,x1.2.2))):Option ((List UInt8)×(List UInt8)×Bool)):=by kernel_rfl
theorem Cut_none {a:List UInt8} {c:UInt8} (h:c ∉ a):m90 a [c]=some (a,[],false):=by
 have h1:m113 a [c]=some (Lib.indexByte a c):=rfl
 have h2:Lib.indexByte a c = -1:=by
  have h3:=Lib.indexByte_ge a c
  by_cases h4:0≤Lib.indexByte a c
  ·exfalso
   have:=(Lib.indexByte_some (l:=a) (c:=c) (o:=(Lib.indexByte a c).toNat) (by omega)).1
   exact h (List.mem_of_getElem? this)
  ·omega
 rw[h2]at h1
 simp only[M90,M106,bind_id,h1,bs,show decide ((0:Int) ≤ -1)=false from rfl,Bool.false_eq_true,if_false]
theorem M61 (a0:List UInt8):m61 a0=((Option.bind (if(decide (200 < (a0.length:Int)))=true then(some (.inr (([],(201:Int),(3:Int)))))else(some (.inl ()))) (onS fun(_:Unit)=>(Option.bind (Option.bind (some (.inl ())) (onS fun(_:Unit)=>(loopO (fun(s1:Int)=>((if(decide (s1 < (a0.length:Int)))=true then(if(0≤s1)then(if(s1 < (a0.length:Int))then(if(!(decide ((byteAt a0 s1.toNat) < 32)))=true→(0≤s1)then(if(!(decide ((byteAt a0 s1.toNat) < 32)))=true→(s1 < (a0.length:Int))then(if((decide ((byteAt a0 s1.toNat) < 32)) || (decide (126 < (byteAt a0 s1.toNat))))=true then(some (.inr (.inr (([],(IntKind.wrap .i64 (s1+1)),(4:Int))))))else(some (.inl (IntKind.wrap .i64 (s1+1)))))else none)else none)else none)else none)else(some (.inr (.inl ())))):Option ((Int)⊕((Unit)⊕((List T85)×Int×Int))))) (0:Int)))) (onS fun(_:Unit)=>(Option.bind (Option.bind (Option.bind (m90 a0 ([35]:List UInt8)) fun r=>some r) fun x9=>(some (.inl x9.1))) (onS fun(y2:(List UInt8))=>(Option.bind (Option.bind (some (.inl ())) (onS fun(_:Unit)=>(loopO (fun(s3:(List T85)×Int)=>((Option.bind (if(decide (s3.2 < (y2.length:Int)))=true then(some (.inl ()))else(some (.inr (.inr (.inl s3.1))))) (onS fun(_:Unit)=>(Option.bind (if(0≤s3.2)then(if(s3.2 < (y2.length:Int))then(if((byteAt y2 s3.2.toNat)==32)=true then(some (.inr (.inl (s3.1,(IntKind.wrap .i64 (s3.2+1))))))else(some (.inl ())))else none)else none) (onS fun(_:Unit)=>(Option.bind (loopO (fun(s4:Int)=>((if(decide (s4 < (y2.length:Int)))=true→(0≤s4)then(if(decide (s4 < (y2.length:Int)))=true→(s4 < (y2.length:Int))then(if((decide (s4 < (y2.length:Int)))&&((byteAt y2 s4.toNat) != 32))=true then(some (.inl (IntKind.wrap .i64 (s4+1))))else(some (.inr (.inl s4))))else none)else none):Option ((Int)⊕((Int)⊕(((List T85)×Int)⊕(((List T85))⊕((List T85)×Int×Int))))))) s3.2) (onS fun(y5:Int)=>(if(0≤s3.2)then(if(s3.2≤y5)then(if(y5≤(y2.length:Int))then(if((s3.1.length+1) * 24≤140737488355328)then(some (.inl ((s3.1++([(⟨((y2.take y5.toNat).drop s3.2.toNat),(IntKind.wrap .i64 (s3.2+1))⟩:T85)]:List T85)),y5)))else none)else none)else none)else none))))))):Option (((List T85)×Int)⊕(((List T85))⊕((List T85)×Int×Int))))) ([],(0:Int))))) (onS fun(y6:(List T85))=>(some (y6,(0:Int),(0:Int))))))))))):Option ((List T85)×Int×Int)):=by kernel_rfl
theorem rSplit_eq {l:List (List UInt8)} (hl:∀ s∈l,okW s) (hn:l.length≤900) (ha:(lineW l).length≤200):m61 (lineW l)=some (fldAt 0 l,0,0):=by
 obtain⟨a,e⟩:∃ a,a=lineW l:=⟨_,rfl⟩
 have hb:=line_bytes hl
 rw[← e]at ha hb ⊢
 have q1:=Cut_none (a:=a) (c:=35) (fun h=>(hb _ h).2.2 rfl)
 have c0:decide ((200:Int) < (a.length:Int))=false:=by simp;omega
 simp only[M61,bind_id,c0,Bool.false_eq_true,if_false,bs,ol]
 generalize m90=F at q1 ⊢
 refine loop_pass a.length (fun i hi=>?_) (by simp only[lt_irr,decide_false,Bool.false_eq_true,if_false]) ?_
 ·have hm:byteAt a i=((a.getD i 0).toNat:Int):=by unfold byteAt;rw[List.getD_eq_getElem?_getD,List.getElem?_eq_getElem hi];rfl
  have h2:=hb (a.getD i 0) (by rw[List.getD_eq_getElem?_getD,List.getElem?_eq_getElem hi];exact List.getElem_mem hi)
  have d1:decide (byteAt a i < 32)=false:=by rw[hm,decide_eq_false_iff_not];omega
  have d2:decide (126 < byteAt a i)=false:=by rw[hm,decide_eq_false_iff_not];omega
  simp only[inL hi,decide_true,Int.toNat_natCast,if_true,d1,d2,Bool.or_self,Bool.not_false,imp_self,true_implies,Bool.false_eq_true,if_false,wr1 hi (by omega)]
 ·simp only[q1,bs,ol]
  refine on_l (fld_line (a:=a) Sum.inl (fun acc=>?_) (fun acc q hq h32=>?_) (fun acc q s r hacc hd hs hr=>?_) hl e hn) rfl
  ·simp only[lt_irr,decide_false,Bool.false_eq_true,if_false,bs,or_]
  ·have w1:IntKind.wrap .i64 ((q:Int)+1)=((q+1:Nat):Int):=by rw[w64 (by omega) (by omega)];omega
   simp only[inL hq,decide_true,if_true,bs,ol,or_,Int.toNat_natCast,h32,beq_self_eq_true,w1]
  ·have hp:=hs.1
   obtain⟨h1,h2⟩:=byteAt_app hd hp
   rw[Nat.add_zero]at h1 h2
   have h3:=okW_byte hs hp
   have d1:(byteAt a q==32)=false:=by rw[h2,beq_eq_false_iff_ne];omega
   have hln:=drop_len hd (by omega)
   have w1:IntKind.wrap .i64 ((q:Int)+1)=((q+1:Nat):Int):=by rw[w64 (by omega) (by omega)];omega
   have wl:=fun {b:Int→Option (Int⊕(Int⊕((List T85×Int)⊕((List T85)⊕(List T85×Int×Int)))))} h4 h5=>word_loop (b:=b) hd (by omega) hs hr h4 h5
   simp only[inL h1,decide_true,if_true,bs,ol,or_,Int.toNat_natCast,d1,Bool.false_eq_true,if_false]
   refine bind_eq (wl (fun i hi h6=>?_) (fun i hi=>?_)) ?_
   ·have d2:(byteAt a i != 32)=true:=by simpa using h6
    have w2:IntKind.wrap .i64 ((i:Int)+1)=((i+1:Nat):Int):=by rw[w64 (by omega) (by omega)];omega
    simp only[inL hi,true_implies,if_true,Int.toNat_natCast,d2,decide_true,Bool.and_self,w2]
   ·rcases hi with rfl | ⟨hi,h6⟩
    ·simp only[lt_irr,decide_false,Bool.false_and,Bool.false_eq_true,if_false,false_implies,if_true]
    ·have d2:(byteAt a i != 32)=false:=by rw[h6];rfl
     simp only[inL hi,true_implies,if_true,Int.toNat_natCast,d2,decide_true,Bool.and_false,Bool.false_eq_true,if_false]
   ·have c1:((0:Int)≤(q:Int))=True:=eq_true (by omega)
    have c2:((q:Int)≤((q+s.length:Nat):Int))=True:=eq_true (by omega)
    have c3:(((q+s.length:Nat):Int)≤(a.length:Int))=True:=eq_true (by omega)
    have c4:((acc.length+1) * 24≤140737488355328)=True:=eq_true (by omega)
    have w3:IntKind.wrap .i64 ((q:Int)+1)=(q:Int)+1:=w64 (by omega) (by omega)
    simp only[bs,ol,c1,c2,c3,c4,if_true,Int.toNat_natCast,take_word hd,w3]
end Go.Av
set_option maxRecDepth 100000
namespace Go.Av
structure OkR (l:List (List UInt8)):Prop where
 words:∀ s∈l,okW s
 pos:0 < l.length
 few:l.length≤900
 len:(lineW l).length≤200
def textR (rs:List (List (List UInt8))):List UInt8:=rs.flatMap fun l=>lineW l++[10]
def linesR (rs:List (List (List UInt8))) (n:Nat):List T83:=(List.range n).flatMap fun i:Nat=>[⟨(i:Int)+1,fldAt 0 (rs.getD i [])⟩]
theorem linesR_len (rs:List (List (List UInt8))) (n:Nat):(linesR rs n).length=n:=by
 unfold linesR
 rw[← List.map_eq_flatMap];simp
theorem linesR_app (rs:List (List (List UInt8))) (n:Nat):linesR rs (n+1)=linesR rs n++[⟨(n:Int)+1,fldAt 0 (rs.getD n [])⟩]:=flatMap_app _ _
theorem linesR_getD {rs:List (List (List UInt8))} {n i:Nat} (h:i < n):(linesR rs n).getD i default=⟨(i:Int)+1,fldAt 0 (rs.getD i [])⟩:=by
 unfold linesR
 rw[← List.map_eq_flatMap,List.getD_eq_getElem?_getD,List.getElem?_map,List.getElem?_range h];rfl
theorem split_text:∀ (rs:List (List (List UInt8))),(∀ l∈rs,OkR l)→splitB 10 (textR rs)=rs.map lineW++[[]]
 | [],_=>rfl
 | l :: rs,h=>by
  have hn:(10:UInt8) ∉ lineW l:=fun hm=>by
   have:=(line_bytes (h l (by simp)).words _ hm).1
   exact absurd this (by decide)
  have e:textR (l :: rs)=lineW l++10 :: textR rs:=by
   unfold textR
   rw[List.flatMap_cons,List.append_assoc];rfl
  rw[e,splitB_join hn,split_text rs (fun k hk=>h k (by simp[hk]))];rfl
theorem textR_len:∀ (rs:List (List (List UInt8))),(∀ l∈rs,OkR l)→(textR rs).length≤201 * rs.length
 | [],_=>by simp[textR]
 | l :: rs,h=>by
  have h1:=(h l (by simp)).len
  have h2:=textR_len rs (fun k hk=>h k (by simp[hk]))
  have e:textR (l :: rs)=lineW l++10 :: textR rs:=by
   unfold textR
   rw[List.flatMap_cons,List.append_assoc];rfl
  rw[e,List.length_append,List.length_cons,List.length_cons];omega
theorem M32o0 (a0:List UInt8):m32o0 a0=((Option.bind (if(decide (262144 < (a0.length:Int)))=true then(some (.inr ((([(⟨(1:Int),(1:Int),(3:Int)⟩:T80)]:List T80),[]))))else(some (.inl ()))) (onS fun(_:Unit)=>(Option.bind (Option.bind (Option.bind (Option.bind (m60 a0 ([10]:List UInt8)) fun r=>some r) fun x5=>(some (.inl (x5,(x5.length:Int))))) (onS fun(y1:(List (List UInt8))×Int)=>(loopO (fun(s2:(List T83)×(List T80)×Int)=>((if(decide (s2.2.2 < y1.2))=true then(if(0≤s2.2.2)then(if(s2.2.2 < (y1.1.length:Int))then(Option.bind (Option.bind (m61 (y1.1.getD s2.2.2.toNat default)) fun r=>some r) fun x8=>(if(x8.2.2 != 0)=true then(if(decide ((s2.2.1.length:Int) < (50:Int)))=true then(if((s2.2.1.length+1) * 24≤140737488355328)then(some (.inl (s2.1,(s2.2.1++([(⟨(IntKind.wrap .i64 (s2.2.2+1)),x8.2.1,x8.2.2⟩:T80)]:List T80)),(IntKind.wrap .i64 (s2.2.2+1)))))else none)else(some (.inl (s2.1,s2.2.1,(IntKind.wrap .i64 (s2.2.2+1))))))else(if(decide (0 < (x8.1.length:Int)))=true then(if((s2.1.length+1) * 32≤140737488355328)then(some (.inl ((s2.1++([(⟨(IntKind.wrap .i64 (s2.2.2+1)),x8.1⟩:T83)]:List T83)),s2.2.1,(IntKind.wrap .i64 (s2.2.2+1)))))else none)else(some (.inl (s2.1,s2.2.1,(IntKind.wrap .i64 (s2.2.2+1))))))))else none)else none)else(some (.inr (.inl (s2.1,s2.2.1))))):Option (((List T83)×(List T80)×Int)⊕(((List T83)×(List T80))⊕((List T80)×(List T83)))))) ([],[],(0:Int))))) (onS fun(y3:(List T83)×(List T80))=>(some (y3.2,y3.1)))))):Option ((List T80)×(List T83))):=by kernel_rfl
theorem Read_eq {rs:List (List (List UInt8))} (h:∀ l∈rs,OkR l) (hn:rs.length≤1000):m32o0 (textR rs)=some ([],linesR rs rs.length):=by
 have ht:=textR_len rs h
 have q1:=Split_eq (textR rs) 10 (by omega)
 rw[split_text rs h]at q1
 have q2:∀ i,i < rs.length→m61 (lineW (rs.getD i []))=some (fldAt 0 (rs.getD i []),0,0):=fun i hi=>by
  have hm:rs.getD i []∈rs:=by
   rw[List.getD_eq_getElem?_getD,List.getElem?_eq_getElem hi];exact List.getElem_mem hi
  have:=h _ hm
  exact rSplit_eq this.words this.few this.len
 have q3:m61 []=some ([],0,0):=rSplit_eq (l:=[]) (fun s hs=>by cases hs) (by simp) (by simp[lineW])
 have c0:decide ((262144:Int) < ((textR rs).length:Int))=false:=by rw[decide_eq_false_iff_not];omega
 obtain⟨L,hL⟩:∃ L,L=rs.map lineW++[[]]:=⟨_,rfl⟩
 have hLl:L.length=rs.length+1:=by rw[hL];simp
 have g1:∀ i,i < rs.length→L.getD i default=lineW (rs.getD i []):=fun i hi=>by
  rw[hL,List.getD_eq_getElem?_getD,List.getElem?_append_left (by simpa using hi),List.getElem?_map,List.getElem?_eq_getElem hi,List.getD_eq_getElem?_getD,List.getElem?_eq_getElem hi];rfl
 have g2:L.getD rs.length default=[]:=by
  rw[hL,List.getD_eq_getElem?_getD,List.getElem?_append_right (by simp)];simp
 rw[← hL]at q1
 simp only[M32o0,bind_id,c0,Bool.false_eq_true,if_false,bs,ol,q1]
 generalize m61=F at q2 q3 ⊢
 refine on_l (y:=(linesR rs rs.length,([]:List T80))) ?_ rfl
 let st:Nat→List T83×List T80×Int:=fun i=>(linesR rs (min i rs.length),[],(i:Int))
 have e0:(([]:List T83),([]:List T80),(0:Int))=st 0:=by
  show _=(linesR rs (min 0 rs.length),_,_)
  rw[Nat.zero_min];rfl
 rw[e0]
 refine loop_st (rs.length+1) st (Sum.inl (linesR rs rs.length,[])) (fun i hi=>?_) ?_
 ·have i1:decide ((i:Int) < (L.length:Int))=true:=by rw[decide_eq_true_eq];omega
  have i2:((0:Int)≤(i:Int))=True:=eq_true (by omega)
  have i3:((i:Int) < (L.length:Int))=True:=eq_true (by omega)
  have w1:IntKind.wrap .i64 ((i:Int)+1)=(i:Int)+1:=w64 (by omega) (by omega)
  have n0:((0:Int) != 0)=false:=rfl
  by_cases hr:i < rs.length
  ·have hm:rs.getD i []∈rs:=by
    rw[List.getD_eq_getElem?_getD,List.getElem?_eq_getElem hr];exact List.getElem_mem hr
   have hp:=(h _ hm).pos
   have d:=q2 i hr
   have m1:min i rs.length=i:=by omega
   have m2:min (i+1) rs.length=i+1:=by omega
   have c1:decide ((0:Int) < ((fldAt 0 (rs.getD i [])).length:Int))=true:=by rw[fldAt_len,decide_eq_true_eq];omega
   have c2:(((linesR rs i).length+1) * 32≤140737488355328)=True:=eq_true (by rw[linesR_len];omega)
   show _=some (Sum.inl (linesR rs (min (i+1) rs.length),([]:List T80),((i+1:Nat):Int)))
   rw[m2,linesR_app]
   show (if decide ((i:Int) < (L.length:Int))=true then _ else _)=_
   simp only[st,m1,i1,i2,i3,if_true,Int.toNat_natCast,g1 i hr,d,bs,n0,Bool.false_eq_true,if_false,c1,c2,w1]
   rfl
  ·obtain rfl:i=rs.length:=by omega
   have m1:min rs.length rs.length=rs.length:=by omega
   have m2:min (rs.length+1) rs.length=rs.length:=by omega
   have c1:decide ((0:Int) < ((([]:List T85)).length:Int))=false:=rfl
   show _=some (Sum.inl (linesR rs (min (rs.length+1) rs.length),([]:List T80),((rs.length+1:Nat):Int)))
   rw[m2]
   show (if decide ((rs.length:Int) < (L.length:Int))=true then _ else _)=_
   simp only[st,m1,i1,i2,i3,if_true,Int.toNat_natCast,g2,q3,bs,n0,Bool.false_eq_true,if_false,c1,w1]
   rfl
 ·have i1:decide (((rs.length+1:Nat):Int) < (L.length:Int))=false:=by rw[decide_eq_false_iff_not];omega
  have m2:min (rs.length+1) rs.length=rs.length:=by omega
  show (if decide (((rs.length+1:Nat):Int) < (L.length:Int))=true then _ else _)=_
  simp only[st,m2,i1,Bool.false_eq_true,if_false]
end Go.Av
set_option maxRecDepth 100000
namespace Go.Av.Ch
structure Fit (c:T27):Prop where
 conds:c.Conds.length≤1000
 never:c.Never.length≤1000
 lits:∀ l∈c.Never,l.length≤1000
 states:c.States.length≤1000
 entry:∀ s∈c.States,s.Entry.length≤1000
 exit_:∀ s∈c.States,s.Exit.length≤1000
 trans:c.Transitions.length≤1000
 when_:∀ t∈c.Transitions,t.When.length≤1000
 acts:∀ t∈c.Transitions,t.Actions.length≤1000
def namesS (c:T27):List (List UInt8):=(List.range c.States.length).flatMap fun i=>[(c.States.getD i default).Name]
theorem namesS_map (c:T27):namesS c=(List.range c.States.length).map fun i=>(c.States.getD i default).Name:=(List.map_eq_flatMap ..).symm
theorem namesS_len (c:T27):(namesS c).length=c.States.length:=by rw[namesS_map];simp
theorem namesS_getD (c:T27) {i:Nat} (h:i < c.States.length):(namesS c).getD i default=(c.States.getD i default).Name:=by
 rw[namesS_map,List.getD_eq_getElem?_getD,List.getElem?_map,List.getElem?_range h];rfl
def stateT (c:T27) (i:Nat):Int :=
 if(decide ((c.States.getD i default).Parent < (-1:Int)) || decide ((i:Int)≤(c.States.getD i default).Parent))=true then 9
 else if((comp c i&&!childS c (c.States.getD i default).Initial i) || (!comp c i&&((c.States.getD i default).Initial != (-1:Int))))=true then 2
 else if(!comp c i&&(c.States.getD i default).History)=true then 17
 else if(actS (c.States.getD i default).Entry != 0)=true then actS (c.States.getD i default).Entry
 else actS (c.States.getD i default).Exit
def stateS (c:T27) (i:Nat):Int:=if(listedS (namesS c) i != 0)=true then listedS (namesS c) i else stateT c i
theorem state_eq (c:T27) (H:Fit c) (i:Nat) (hi:i < c.States.length):m52 c (namesS c) i=some (stateS c i):=by
 have hs:=H.states
 have he:=H.entry _ (getD_mem hi)
 have hx:=H.exit_ _ (getD_mem hi)
 have e1:=listed_eq (namesS c) i (by rw[namesS_len];exact hi) (by rw[namesS_len];omega)
 delta m52 d52
 simp only[↓JD.sg_m,↓JD.sq_m,↓JD.sc_m,↓JD.bk_m,↓JD.lp_m,↓JD.cd_m,↓JD.lu_m,↓JD.ct_m,↓JD.ce_m,↓JL.r_m,↓JL.z_m,↓JD.se_m,onE_r,↓Tr.run,↓Tr.run_nd,↓Tr.run_c3,↓Tr.run_c2,↓Tr.run_nx,↓onS,bind_ite,Option.bind_some,Option.bind_none,obR,inL hi,e1,Int.toNat_natCast,if_true,composite_eq c _ (Nat.le_trans hs (by omega)),is_eq,actions_eq _ (Nat.le_trans he (by omega)),actions_eq _ (Nat.le_trans hx (by omega)),stateS,stateT,some_ite]
 refine ite_else (ite_else ?_)
 cases hc:comp c i with
 | false=>simp only[Bool.false_and,Bool.not_false,Bool.true_and,Bool.false_or,Bool.false_eq_true,if_false,false_implies,if_true]
 | true =>
  have g1:=eq_true (show (!!isS c (c.States.getD i default).Initial)=true→(0:Int)≤(c.States.getD i default).Initial from fun h=>by simp only[Bool.not_not]at h;exact(isS_iff.1 h).1)
  have g2:=eq_true (show (!!isS c (c.States.getD i default).Initial)=true→(c.States.getD i default).Initial < (c.States.length:Int) from fun h=>by simp only[Bool.not_not]at h;exact(isS_iff.1 h).2)
  simp only[if_true,Option.bind_some,g1,g2,childS,bne,Bool.not_and,Bool.true_and,Bool.not_true,Bool.false_and,Bool.or_false,Bool.false_eq_true,if_false]
theorem rstate_eq (c:T27) (H:Fit c) (i:Nat) (hi:i < c.States.length):m58 c i=some (stateS c i):=by
 have hs:=H.states
 have he:=H.entry _ (getD_mem hi)
 have hx:=H.exit_ _ (getD_mem hi)
 have hl:listedS (namesS c) i=if(!nm (c.States.getD i default).Name)=true then 5 else if anyR (fun j=>(c.States.getD j default).Name==(c.States.getD i default).Name) i=true then 7 else 0:=by
  unfold listedS hasK
  rw[namesS_getD c hi,anyR_congr (G:=fun j=>(c.States.getD j default).Name==(c.States.getD i default).Name)]
  intro j hj
  rw[namesS_getD c (by omega),Bool.eq_iff_iff,beq_iff_eq,beq_iff_eq]
  exact⟨Eq.symm,Eq.symm⟩
 have hx2:m58 c i=some (if(!nm (c.States.getD i default).Name)=true then 5 else if anyR (fun j=>(c.States.getD j default).Name==(c.States.getD i default).Name) i=true then 7 else stateT c i):=by
  delta m58 d58
  simp only[↓JD.sg_m,↓JD.sq_m,↓JD.sc_m,↓JD.bk_m,↓JD.lp_m,↓JD.cd_m,↓JD.lu_m,↓JD.ct_m,↓JD.ce_m,↓JL.r_m,↓JL.z_m,↓JD.se_m,onE_r,↓Tr.run,↓Tr.run_nd,↓Tr.run_c3,↓Tr.run_c2,↓Tr.run_nx,↓onS,bind_ite,Option.bind_some,Option.bind_none,obR,inL hi,nm_r8name,Int.toNat_natCast,if_true,rcomposite_eq c _ (Nat.le_trans hs (by omega)),rchild_eq,ractions_eq _ (Nat.le_trans he (by omega)),ractions_eq _ (Nat.le_trans hx (by omega)),some_ite,show (i:Int)≤c.States.length by omega]
  refine ite_else ?_
  rw[loop_ex i (fun j=>if((c.States.getD j default).Name==(c.States.getD i default).Name)=true then some 7 else none) ?_ ?_,firstR_const]
  ·simp only[orK_ite,orK_some,orK_none,stateT,some_ite]
   refine ite_else (ite_else ?_)
   cases hc:comp c i with
   | false=>simp only[Bool.false_and,Bool.not_false,Bool.true_and,Bool.false_or,Bool.false_eq_true,if_false,Option.bind_some,if_true]
   | true =>
    cases hd:childS c (c.States.getD i default).Initial i<;>simp only[Bool.true_and,Bool.true_or,Bool.not_true,Bool.not_false,Bool.false_and,Bool.or_false,Bool.false_eq_true,if_false,Option.bind_some,if_true]
  ·intro j hj
   have j3:((j:Int) < (((subL c.States 0 i).length:Nat):Int)):=by rw[subL_len];omega
   simp only[exB_ite,exB_some,exB_none]
   simp only[inL hj,decide_true,j3,Int.toNat_natCast,if_true,subL_getD hj,wr1 hj (by omega)]
  ·(simp only[lt_irr,decide_false,Bool.false_eq_true,if_false];try rfl)
 rw[hx2]
 unfold stateS
 rw[hl]
 split
 ·rfl
 ·split<;>rfl
def condF (c:T27) (i:Nat):Option Int:=if(listedS c.Conds i != 0)=true then some (listedS c.Conds i)else none
def nevF (c:T27) (i:Nat):Option Int:=if(((c.Never.getD i default).length:Int)==0)=true then some 1 else if(litS c (c.Never.getD i default) != 0)=true then some (litS c (c.Never.getD i default))else none
def stF (c:T27) (i:Nat):Option Int:=if(stateS c i != 0)=true then some (stateS c i)else none
def trF (c:T27) (i:Nat):Option Int :=
 if((!isS c (c.Transitions.getD i default).From) || (!isS c (c.Transitions.getD i default).To))=true then some 2
 else if(litS c (c.Transitions.getD i default).When != 0)=true then some (litS c (c.Transitions.getD i default).When)
 else if(actS (c.Transitions.getD i default).Actions != 0)=true then some (actS (c.Transitions.getD i default).Actions)else none
def checkM (c:T27):Option Int :=
 if(!nm c.Name)=true then some 5
 else if((c.States.length:Int)==0)=true then some 6
 else if((((decide ((12:Int) < (c.Conds.length:Int))) || (decide ((16:Int) < (c.Never.length:Int)))) || (decide ((40:Int) < (c.States.length:Int)))) || (decide ((120:Int) < (c.Transitions.length:Int))))=true then some 3
 else orK (firstR (condF c) c.Conds.length) (orK (firstR (nevF c) c.Never.length) (orK (firstR (stF c) c.States.length) (if(!isS c c.Start)=true then some 2 else orK (firstR (trF c) c.Transitions.length) (some 0))))
theorem checkM_some (c:T27):∃ e,checkM c=some e:=ite_total (ite_total (ite_total (orK_total (orK_total (orK_total (ite_total (orK_total ⟨0,rfl⟩)))))))
theorem Check_eq (c:T27) (H:Fit c):m20 c=checkM c:=by
 have hcl:=H.conds
 have hnl:=H.never
 have hsl:=H.states
 have htl:=H.trans
 delta m20 d20
 simp only[↓JD.sg_m,↓JD.sq_m,↓JD.sc_m,↓JD.bk_m,↓JD.lp_m,↓JD.cd_m,↓JD.lu_m,↓JD.ct_m,↓JD.ce_m,↓JL.r_m,↓JL.z_m,↓JD.se_m,onE_r,↓Tr.run,↓Tr.run_nd,↓Tr.run_c3,↓Tr.run_c2,↓Tr.run_nx,↓onS,bind_ite,Option.bind_some,Option.bind_none,obR,nm_name,is_eq,checkM]
 refine ite_else (ite_else (ite_else (loop_or _ (condF c) (fun i hi=>?_) (by (simp only[lt_irr,decide_false,Bool.false_eq_true,if_false];try rfl)) (loop_or _ (nevF c) (fun i hi=>?_) (by (simp only[lt_irr,decide_false,Bool.false_eq_true,if_false];try rfl)) (on_l (loop_coll c.States.length (fun i l=>(l,(i:Int))) (fun i=>[(c.States.getD i default).Name]) Sum.inl (fun i hi=>?_) (by (simp only[lt_irr,decide_false,Bool.false_eq_true,if_false];try rfl))) (loop_or _ (stF c) (fun i hi=>?_) (by (simp only[lt_irr,decide_false,Bool.false_eq_true,if_false];try rfl)) (ite_else (loop_or _ (trF c) (fun i hi=>?_) (by (simp only[lt_irr,decide_false,Bool.false_eq_true,if_false];try rfl)) rfl))))))))
 ·unfold condF
  (simp only[exB_ite,exB_some,exB_none];simp only[listed_eq c.Conds i hi (by omega),Option.bind_some,inL hi,decide_true,Int.toNat_natCast,if_true,implies_true,wr1 hi (by omega)];try rfl)
 ·have hl:=H.lits _ (getD_mem hi)
  unfold nevF
  (simp only[exB_ite,exB_some,exB_none];simp only[literals_eq c _ (Nat.le_trans hl (by omega)),Option.bind_some,inL hi,decide_true,Int.toNat_natCast,if_true,implies_true,wr1 hi (by omega)];try rfl)
 ·have hl:=flatMap_len (g:=fun i=>[(c.States.getD i default).Name]) (m:=1) (fun i=>by simp) i
  have h3:(((List.range i).flatMap fun i=>[(c.States.getD i default).Name]).length+1) * 16≤140737488355328:=by omega
  simp only[inL hi,h3,Int.toNat_natCast,if_true,wr1 hi (by omega)];rfl
 ·unfold stF
  have e:=state_eq c H i hi
  unfold namesS at e
  (simp only[exB_ite,exB_some,exB_none];simp only[e,Option.bind_some,inL hi,decide_true,Int.toNat_natCast,if_true,implies_true,wr1 hi (by omega)];try rfl)
 ·have hw:=H.when_ _ (getD_mem hi)
  have ha:=H.acts _ (getD_mem hi)
  unfold trF
  simp only[exB_ite,exB_some,exB_none]
  simp only[inL hi,is_eq,literals_eq c _ (Nat.le_trans hw (by omega)),actions_eq _ (Nat.le_trans ha (by omega)),Option.bind_some,decide_true,Int.toNat_natCast,if_true,wr1 hi (by omega)]
  cases isS c (c.Transitions.getD i default).From<;>simp only[Bool.not_true,Bool.not_false,Bool.false_eq_true,Bool.true_or,Bool.false_or,if_true,if_false,Option.bind_some]
theorem rCheck_eq (c:T27) (H:Fit c):m28 c=checkM c:=by
 have hcl:=H.conds
 have hnl:=H.never
 have hsl:=H.states
 have htl:=H.trans
 have isn:∀ x y:Int,((((decide (x < (0:Int))) || (decide ((c.States.length:Int)≤x))) || (decide (y < (0:Int)))) || (decide ((c.States.length:Int)≤y)))=((!isS c x) || (!isS c y)):=fun x y=>by
  rw[Bool.eq_iff_iff]
  simp only[isS,Bool.or_eq_true,decide_eq_true_eq,Bool.not_eq_true',Bool.and_eq_false_iff,decide_eq_false_iff_not]
  omega
 have st:((decide (c.Start < (0:Int))) || (decide ((c.States.length:Int)≤c.Start)))=!isS c c.Start:=by
  rw[Bool.eq_iff_iff]
  simp only[isS,Bool.or_eq_true,decide_eq_true_eq,Bool.not_eq_true',Bool.and_eq_false_iff,decide_eq_false_iff_not]
  omega
 delta m28 d28
 simp only[↓JD.sg_m,↓JD.sq_m,↓JD.sc_m,↓JD.bk_m,↓JD.lp_m,↓JD.cd_m,↓JD.lu_m,↓JD.ct_m,↓JD.ce_m,↓JL.r_m,↓JL.z_m,↓JD.se_m,onE_r,↓Tr.run,↓Tr.run_nd,↓Tr.run_c3,↓Tr.run_c2,↓Tr.run_nx,↓onS,bind_ite,Option.bind_some,Option.bind_none,obR,nm_r8name,st,checkM]
 refine ite_else (ite_else (ite_else (loop_or _ (condF c) (fun i hi=>?_) (by (simp only[lt_irr,decide_false,Bool.false_eq_true,if_false];try rfl)) (loop_or _ (nevF c) (fun i hi=>?_) (by (simp only[lt_irr,decide_false,Bool.false_eq_true,if_false];try rfl)) (loop_or _ (stF c) (fun i hi=>?_) (by (simp only[lt_irr,decide_false,Bool.false_eq_true,if_false];try rfl)) (ite_else (loop_or _ (trF c) (fun i hi=>?_) (by (simp only[lt_irr,decide_false,Bool.false_eq_true,if_false];try rfl)) rfl)))))))
 ·unfold condF listedS hasK
  simp only[inL hi,decide_true,nm_r8name,Option.bind_some,Int.toNat_natCast,if_true,wr1 hi (by omega),show (i:Int)≤c.Conds.length by omega]
  cases nm (c.Conds.getD i default) with
  | false=>rfl
  | true =>
   simp only[Bool.not_true,Bool.false_eq_true,if_false,Option.bind_some,onS_l]
   rw[loop_ex0 i (fun j=>if(c.Conds.getD i default==c.Conds.getD j default)=true then some (.inr (.inr 7))else none) ?_ ?_,firstR_const]
   ·cases anyR (fun j=>c.Conds.getD i default==c.Conds.getD j default) i<;>rfl
   ·intro j hj
    have j3:((j:Int) < (((subL c.Conds 0 i).length:Nat):Int)):=by rw[subL_len];omega
    simp only[exB_ite,exB_some,exB_none]
    simp only[inL hj,decide_true,j3,Int.toNat_natCast,if_true,subL_getD hj,wr1 hj (by omega)]
   ·(simp only[lt_irr,decide_false,Bool.false_eq_true,if_false];try rfl)
 ·have hl:=H.lits _ (getD_mem hi)
  unfold nevF
  (simp only[exB_ite,exB_some,exB_none];simp only[rliterals_eq c _ (Nat.le_trans hl (by omega)),Option.bind_some,inL hi,decide_true,Int.toNat_natCast,if_true,implies_true,wr1 hi (by omega)];try rfl)
 ·unfold stF
  (simp only[exB_ite,exB_some,exB_none];simp only[rstate_eq c H i hi,Option.bind_some,inL hi,decide_true,Int.toNat_natCast,if_true,implies_true,wr1 hi (by omega)];try rfl)
 ·have hw:=H.when_ _ (getD_mem hi)
  have ha:=H.acts _ (getD_mem hi)
  unfold trF
  simp only[exB_ite,exB_some,exB_none]
  simp only[isn,inL hi,rliterals_eq c _ (Nat.le_trans hw (by omega)),ractions_eq _ (Nat.le_trans ha (by omega)),Option.bind_some,decide_true,Int.toNat_natCast,if_true,wr1 hi (by omega)]
  refine ite_else ?_
  by_cases h0:litS c (c.Transitions.getD i default).When=0
  ·simp only[h0,bne_self_eq_false,beq_self_eq_true,Bool.false_eq_true,if_true,if_false,Option.bind_some]
  ·have h1:(litS c (c.Transitions.getD i default).When==0)=false:=by simpa using h0
   simp only[bne,h1,Bool.not_false,Bool.false_eq_true,if_true,if_false,Option.bind_some]
end Go.Av.Ch
set_option maxRecDepth 100000
namespace Go.Av.Ch
abbrev stA (c:T27) (x:Int):T56:=c.States.getD x.toNat default
structure Good (c:T27):Prop where
 ne:0 < c.States.length
 cap:c.States.length≤40
 parent:∀ x,isS c x=true → -1≤(stA c x).Parent∧(stA c x).Parent < x
 init:∀ x,isS c x=true→comp c x=true→childS c (stA c x).Initial x=true
 leafI:∀ x,isS c x=true→comp c x=false→(stA c x).Initial = -1∧(stA c x).History=false
 start:isS c c.Start=true
 tr:∀ i,i < c.Transitions.length→isS c (c.Transitions.getD i default).From=true∧isS c (c.Transitions.getD i default).To=true
 entry:∀ x,isS c x=true→(stA c x).Entry.length≤8
 exit_:∀ x,isS c x=true→(stA c x).Exit.length≤8
 acts:∀ i,i < c.Transitions.length→(c.Transitions.getD i default).Actions.length≤8
theorem orK_ok {R:Type} {a b:Option R} {z:R} (h:orK a b=some z) (hn:a≠some z):a=none∧b=some z:=by
 cases a with
 | none=>exact⟨rfl,h⟩
 | some y=>exact absurd h hn
theorem ite_err {p:Prop} [Decidable p] {e z:Int} {k:Option Int} (h:(if p then some e else k)=some z) (he:e≠z):¬ p∧k=some z:=by
 split at h
 ·injection h with h;exact absurd h he
 ·rename_i hp;exact⟨hp,h⟩
theorem good_of {c:T27} (h:checkM c=some 0):Good c:=by
 unfold checkM at h
 obtain⟨-,h⟩:=ite_err h (by decide)
 obtain⟨h1,h⟩:=ite_err h (by decide)
 obtain⟨hcap,h⟩:=ite_err h (by decide)
 have n1:firstR (condF c) c.Conds.length≠some 0:=fun e=>by
  obtain⟨i,_,e⟩:=firstR_some e
  unfold condF at e
  split at e
  ·rename_i hh;injection e with e;rw[e]at hh;simp at hh
  ·cases e
 obtain⟨-,h⟩:=orK_ok h n1
 have n2:firstR (nevF c) c.Never.length≠some 0:=fun e=>by
  obtain⟨i,_,e⟩:=firstR_some e
  unfold nevF at e
  split at e
  ·cases e
  ·split at e
   ·rename_i hh;injection e with e;rw[e]at hh;simp at hh
   ·cases e
 obtain⟨-,h⟩:=orK_ok h n2
 have n3:firstR (stF c) c.States.length≠some 0:=fun e=>by
  obtain⟨i,_,e⟩:=firstR_some e
  unfold stF at e
  split at e
  ·rename_i hh;injection e with e;rw[e]at hh;simp at hh
  ·cases e
 obtain⟨hst,h⟩:=orK_ok h n3
 obtain⟨hs,h⟩:=ite_err h (by decide)
 have n4:firstR (trF c) c.Transitions.length≠some 0:=fun e=>by
  obtain⟨i,_,e⟩:=firstR_some e
  unfold trF at e
  split at e
  ·cases e
  ·split at e
   ·rename_i hh;injection e with e;rw[e]at hh;simp at hh
   ·split at e
    ·rename_i hh;injection e with e;rw[e]at hh;simp at hh
    ·cases e
 obtain⟨htr,-⟩:=orK_ok h n4
 have st:∀ i,i < c.States.length→stateT c i=0:=fun i hi=>by
  have:=firstR_none.1 hst i hi
  unfold stF at this
  split at this
  ·cases this
  ·rename_i hh
   have hh:stateS c i=0:=by simpa using hh
   unfold stateS at hh
   split at hh
   ·rename_i h2;rw[hh]at h2;simp at h2
   ·exact hh
 have key:∀ x,isS c x=true→x=(x.toNat:Int)∧x.toNat < c.States.length:=fun x hx=>by have:=isS_iff.1 hx;omega
 have rows:∀ x,isS c x=true→(-1≤(stA c x).Parent∧(stA c x).Parent < x)∧(comp c x=true→childS c (stA c x).Initial x=true)∧(comp c x=false→(stA c x).Initial = -1∧(stA c x).History=false)∧(stA c x).Entry.length≤8∧(stA c x).Exit.length≤8:=fun x hx=>by
  obtain⟨e,hlt⟩:=key x hx
  have h:=st _ hlt
  unfold stateT at h
  rw[← e]at h
  split at h
  ·cases h
  rename_i a1
  split at h
  ·cases h
  rename_i a2
  split at h
  ·cases h
  rename_i a3
  split at h
  ·rename_i a4;rw[h]at a4;simp at a4
  rename_i a4
  simp only[Bool.or_eq_true,decide_eq_true_eq,not_or,Int.not_lt,Int.not_le]at a1
  refine⟨⟨a1.1,a1.2⟩,fun hc=>?_,fun hc=>?_,actS_len (by simpa using a4),actS_len h⟩
  ·rw[hc]at a2
   simpa using a2
  ·rw[hc]at a2 a3
   exact⟨by simpa using a2,by simpa using a3⟩
 have trs:∀ i,i < c.Transitions.length→(isS c (c.Transitions.getD i default).From=true∧isS c (c.Transitions.getD i default).To=true)∧(c.Transitions.getD i default).Actions.length≤8:=fun i hi=>by
  have:=firstR_none.1 htr i hi
  unfold trF at this
  split at this
  ·cases this
  rename_i a1
  split at this
  ·cases this
  split at this
  ·cases this
  rename_i a3
  exact⟨by simpa using a1,actS_len (by simpa using a3)⟩
 refine⟨?_,by simp only[Bool.or_eq_true,decide_eq_true_eq,not_or,Int.not_lt]at hcap;omega,fun x hx=>(rows x hx).1,fun x hx=>(rows x hx).2.1,fun x hx=>(rows x hx).2.2.1,by simpa using hs,fun i hi=>(trs i hi).1,fun x hx=>(rows x hx).2.2.2.1,fun x hx=>(rows x hx).2.2.2.2,fun i hi=>(trs i hi).2⟩
 have:¬ ((c.States.length:Int)=0):=by simpa using h1
 omega
def memBad (c:T27) (i m:Int):Bool:=(m != (-1:Int))&&(!isS c m || !(stA c i).History || ((stA c m).Parent != i))
structure MemOk (c:T27) (m:List Int):Prop where
 len:m.length=c.States.length
 ok:∀ i:Nat,i < m.length→memBad c i (m.getD i default)=false
theorem MemOk.none {c:T27} {m:List Int} (h:MemOk c m) {x:Int} (hx:isS c x=true) (hh:(stA c x).History=false):m.getD x.toNat default = -1:=by
 have hi:=isS_iff.1 hx
 have:=h.ok x.toNat (by rw[h.len];omega)
 unfold memBad at this
 rw[Int.toNat_of_nonneg hi.1,hh]at this
 simpa using this
theorem MemOk.set {c:T27} {m:List Int} (h:MemOk c m) {x v:Int} (hv:v = -1∨((stA c x).History=true∧childS c v x=true)) (hx:isS c x=true):MemOk c (m.set x.toNat v):=by
 have hi:=isS_iff.1 hx
 refine⟨by rw[List.length_set];exact h.len,fun i hl=>?_⟩
 rw[List.length_set]at hl
 by_cases he:x.toNat=i
 ·subst he
  rw[List.getD_eq_getElem?_getD,List.getElem?_set_self hl,Option.getD_some,Int.toNat_of_nonneg hi.1]
  unfold memBad
  rcases hv with rfl | ⟨h1,h2⟩
  ·rfl
  ·unfold childS at h2
   simp only[Bool.and_eq_true,beq_iff_eq]at h2
   rw[h1,h2.1,h2.2];simp
 ·rw[List.getD_eq_getElem?_getD,List.getElem?_set_ne he,← List.getD_eq_getElem?_getD]
  exact h.ok i hl
end Go.Av.Ch
set_option maxRecDepth 100000
namespace Go.Av.Ch
structure Chk (c:T27):Prop where
 name:nm c.Name=true
 pos:0 < c.States.length
 conds:c.Conds.length≤12
 never:c.Never.length≤16
 states:c.States.length≤40
 trans:c.Transitions.length≤120
 cond:∀ i,i < c.Conds.length→condF c i=none
 nev:∀ i,i < c.Never.length→nevF c i=none
 st:∀ i,i < c.States.length→stF c i=none
 start:isS c c.Start=true
 tr:∀ i,i < c.Transitions.length→trF c i=none
theorem chk_of {c:T27} (h:checkM c=some 0):Chk c:=by
 unfold checkM at h
 obtain⟨hn,h⟩:=ite_err h (by decide)
 obtain⟨h1,h⟩:=ite_err h (by decide)
 obtain⟨hcap,h⟩:=ite_err h (by decide)
 have n1:firstR (condF c) c.Conds.length≠some 0:=fun e=>by
  obtain⟨i,_,e⟩:=firstR_some e
  unfold condF at e
  split at e
  ·rename_i hh;injection e with e;rw[e]at hh;simp at hh
  ·cases e
 obtain⟨hcd,h⟩:=orK_ok h n1
 have n2:firstR (nevF c) c.Never.length≠some 0:=fun e=>by
  obtain⟨i,_,e⟩:=firstR_some e
  unfold nevF at e
  split at e
  ·cases e
  ·split at e
   ·rename_i hh;injection e with e;rw[e]at hh;simp at hh
   ·cases e
 obtain⟨hnv,h⟩:=orK_ok h n2
 have n3:firstR (stF c) c.States.length≠some 0:=fun e=>by
  obtain⟨i,_,e⟩:=firstR_some e
  unfold stF at e
  split at e
  ·rename_i hh;injection e with e;rw[e]at hh;simp at hh
  ·cases e
 obtain⟨hst,h⟩:=orK_ok h n3
 obtain⟨hs,h⟩:=ite_err h (by decide)
 have n4:firstR (trF c) c.Transitions.length≠some 0:=fun e=>by
  obtain⟨i,_,e⟩:=firstR_some e
  unfold trF at e
  split at e
  ·cases e
  ·split at e
   ·rename_i hh;injection e with e;rw[e]at hh;simp at hh
   ·split at e
    ·rename_i hh;injection e with e;rw[e]at hh;simp at hh
    ·cases e
 obtain⟨htr,-⟩:=orK_ok h n4
 simp only[Bool.or_eq_true,decide_eq_true_eq,not_or,Int.not_lt]at hcap
 have h1:¬ ((c.States.length:Int)=0):=by simpa using h1
 exact⟨by simpa using hn,by omega,by omega,by omega,by omega,by omega,firstR_none.1 hcd,firstR_none.1 hnv,firstR_none.1 hst,by simpa using hs,firstR_none.1 htr⟩
def NmL (l:List (List UInt8)):Prop:=∀ a∈l,nm a=true
theorem NmL.nil:NmL []:=fun a h=>by cases h
theorem act_iff {l:List (List UInt8)}:actS l=0↔l.length≤8∧NmL l:=by
 unfold actS
 constructor
 ·intro h
  split at h
  ·cases h
  rename_i h1
  split at h
  ·cases h
  rename_i h2
  have h2:=Bool.eq_false_iff.2 h2
  refine⟨by simp only[decide_eq_true_eq]at h1;omega,fun a ha=>?_⟩
  obtain⟨i,hi,rfl⟩:=List.getElem_of_mem ha
  have:=anyR_false.1 h2 i hi
  simpa [List.getD_eq_getElem?_getD,List.getElem?_eq_getElem hi] using this
 ·rintro⟨h1,h2⟩
  rw[if_neg (by simp;omega),if_neg]
  rw[Bool.not_eq_true,anyR_false]
  intro i hi
  rw[h2 _ (getD_mem hi)];rfl
def InC (c:T27) (l:List T118):Prop:=∀ x∈l,0≤x.Cond∧x.Cond < (c.Conds.length:Int)
theorem lit_in {c:T27} {l:List T118} (h:litS c l=0):InC c l:=fun x hx=>by
 unfold litS at h
 obtain⟨i,hi,rfl⟩:=List.getElem_of_mem hx
 have h2:firstR (litF c l) l.length=none:=by
  cases hf:firstR (litF c l) l.length with
  | none=>rfl
  | some y =>
   exfalso
   rw[hf]at h
   obtain⟨j,_,hj⟩:=firstR_some hf
   have h:y=0:=h
   subst h
   unfold litF at hj
   split at hj
   ·injection hj with hj;cases hj
   ·split at hj
    ·injection hj with hj;cases hj
    ·cases hj
 have h3:=firstR_none.1 h2 i hi
 have e:l.getD i default=l[i]:=by simp[List.getD_eq_getElem?_getD,List.getElem?_eq_getElem hi]
 unfold litF at h3
 rw[e]at h3
 split at h3
 ·cases h3
 ·rename_i h4
  simp only[Bool.or_eq_true,decide_eq_true_eq,not_or]at h4
  omega
theorem Chk.condN {c:T27} (K:Chk c) {i:Nat} (hi:i < c.Conds.length):nm (c.Conds.getD i default)=true:=by
 have h:=K.cond i hi
 unfold condF at h
 split at h
 ·cases h
 ·rename_i h1
  have h1:listedS c.Conds i=0:=by simpa using h1
  unfold listedS at h1
  split at h1
  ·cases h1
  ·rename_i h2;simpa using h2
theorem Chk.nevL {c:T27} (K:Chk c) {i:Nat} (hi:i < c.Never.length):0 < (c.Never.getD i default).length∧litS c (c.Never.getD i default)=0:=by
 have h:=K.nev i hi
 unfold nevF at h
 split at h
 ·cases h
 rename_i h0
 split at h
 ·cases h
 ·rename_i h1
  have h0:¬ (((c.Never.getD i default).length:Int)=0):=by simpa using h0
  exact⟨by omega,by simpa using h1⟩
theorem Chk.state {c:T27} (K:Chk c) {i:Nat} (hi:i < c.States.length):listedS (namesS c) i=0∧stateT c i=0:=by
 have h:=K.st i hi
 unfold stF at h
 split at h
 ·cases h
 ·rename_i h1
  have h1:stateS c i=0:=by simpa using h1
  unfold stateS at h1
  split at h1
  ·rename_i h2;rw[h1]at h2;simp at h2
  ·rename_i h2
   exact⟨by simpa using h2,h1⟩
theorem Chk.stateN {c:T27} (K:Chk c) {i:Nat} (hi:i < c.States.length):nm (c.States.getD i default).Name=true:=by
 have h:=(K.state hi).1
 unfold listedS at h
 rw[namesS_getD c hi]at h
 split at h
 ·cases h
 ·rename_i h1;simpa using h1
theorem Chk.acts {c:T27} (K:Chk c) {i:Nat} (hi:i < c.States.length):((c.States.getD i default).Entry.length≤8∧NmL (c.States.getD i default).Entry)∧(c.States.getD i default).Exit.length≤8∧NmL (c.States.getD i default).Exit:=by
 have h:=(K.state hi).2
 unfold stateT at h
 split at h
 ·cases h
 split at h
 ·cases h
 split at h
 ·cases h
 split at h
 ·rename_i a4;rw[h]at a4;simp at a4
 rename_i a4
 exact⟨act_iff.1 (by simpa using a4),act_iff.1 h⟩
theorem Chk.transL {c:T27} (K:Chk c) {i:Nat} (hi:i < c.Transitions.length):(isS c (c.Transitions.getD i default).From=true∧isS c (c.Transitions.getD i default).To=true)∧litS c (c.Transitions.getD i default).When=0∧(c.Transitions.getD i default).Actions.length≤8∧NmL (c.Transitions.getD i default).Actions:=by
 have h:=K.tr i hi
 unfold trF at h
 split at h
 ·cases h
 rename_i h1
 split at h
 ·cases h
 rename_i h2
 split at h
 ·cases h
 rename_i h3
 exact⟨by simpa using h1,by simpa using h2,act_iff.1 (by simpa using h3)⟩
def orS (c:T27) (x:Int):Prop:=x < 0∨isS c x=true
theorem Chk.links {c:T27} (h:checkM c=some 0) {i:Nat} (hi:i < c.States.length):orS c (c.States.getD i default).Parent∧orS c (c.States.getD i default).Initial:=by
 have G:=good_of h
 have hx:isS c (i:Int)=true:=isS_iff.2 (by omega)
 have e:stA c (i:Int)=c.States.getD i default:=by unfold stA;rw[Int.toNat_natCast]
 have p:=G.parent _ hx
 rw[e]at p
 refine⟨?_,?_⟩
 ·by_cases h0:(c.States.getD i default).Parent < 0
  ·exact .inl h0
  ·exact .inr (isS_iff.2 (by omega))
 ·cases hc:comp c (i:Int) with
  | true =>
   have:=G.init _ hx hc
   rw[e]at this
   unfold childS at this
   simp only[Bool.and_eq_true]at this
   exact .inr this.1
  | false =>
   have h2:=((chk_of h).state hi).2
   unfold stateT at h2
   split at h2
   ·cases h2
   split at h2
   ·cases h2
   rename_i h3
   rw[hc]at h3
   simp only[Bool.false_and,Bool.not_false,Bool.true_and,Bool.false_or,bne_iff_ne,ne_eq,Decidable.not_not]at h3
   left;rw[h3];decide
theorem getD_flat {α β:Type} [Inhabited α] (f:α→List β):∀ (l:List α),(List.range l.length).flatMap (fun j=>f (l.getD j default))=l.flatMap f
 | []=>rfl
 | x :: l=>by
  rw[List.length_cons,List.range_succ_eq_map,List.flatMap_cons,List.flatMap_cons,List.flatMap_map]
  congr 1
  exact getD_flat f l
end Go.Av.Ch
set_option maxRecDepth 100000
namespace Go.Av.Ch
def recS (w:List UInt8) (l:List (List UInt8)):List UInt8:=w++(l.flatMap fun s=>32 :: s)++[10]
def optS (w:List UInt8) (l:List (List UInt8)):List UInt8:=if decide (0 < (l.length:Int))=true then recS w l else[]
def nameS (c:T27) (i:Int):List UInt8:=if decide (i < 0)=true then[45]else(c.States.getD i.toNat default).Name
def wordS (c:T27) (x:T118):List UInt8:=if x.Neg=true then([33]:List UInt8)++c.Conds.getD x.Cond.toNat default else c.Conds.getD x.Cond.toNat default
def wordsS (c:T27) (l:List T118):List (List UInt8):=l.flatMap fun x=>[wordS c x]
def stTx (c:T27) (s:T56):List UInt8:=recS [83,84,65,84,69] (if s.History=true then([s.Name,nameS c s.Parent,nameS c s.Initial]:List (List UInt8))++[[72,73,83,84,79,82,89]]else[s.Name,nameS c s.Parent,nameS c s.Initial])++optS [69,78,84,82,89] s.Entry++optS [69,88,73,84] s.Exit
def trTx (c:T27) (t:T58):List UInt8:=recS [84,82,65,78,83,73,84,73,79,78] [nameS c t.From,nameS c t.To]++optS [87,72,69,78] (wordsS c t.When)++optS [68,79] t.Actions
def hdTx (c:T27):List UInt8:=recS [67,72,65,82,84] [c.Name,nameS c c.Start]
def cdTx (s:List UInt8):List UInt8:=recS [67,79,78,68,73,84,73,79,78] [s]
def nvTx (c:T27) (l:List T118):List UInt8:=recS [78,69,86,69,82] (wordsS c l)
def textS (c:T27):List UInt8:=hdTx c++c.Conds.flatMap cdTx++c.Never.flatMap (nvTx c)++c.States.flatMap (stTx c)++c.Transitions.flatMap (trTx c)
def textM (c:T27):Option (List UInt8×Int):=(checkM c).bind fun e=>if(e != 0)=true then some ([],e)else some (textS c,0)
def Sh (l:List (List UInt8)):Prop:=∀ s∈l,s.length≤16
theorem recS_len {w:List UInt8} {l:List (List UInt8)} (h:Sh l):(recS w l).length≤w.length+17 * l.length+1:=by
 have:(l.flatMap fun s=>32 :: s).length≤17 * l.length:=by
  clear w
  induction l with
  | nil=>simp
  | cons s l ih =>
   have h1:=h s (by simp)
   have h2:=ih fun t ht=>h t (by simp[ht])
   rw[List.flatMap_cons,List.length_append,List.length_cons,List.length_cons]
   omega
 unfold recS
 simp only[List.length_append,List.length_cons,List.length_nil]
 omega
theorem optS_len {w:List UInt8} {l:List (List UInt8)} (h:Sh l):(optS w l).length≤w.length+17 * l.length+1:=by
 unfold optS
 split
 ·exact recS_len h
 ·simp
theorem nm_sh {l:List (List UInt8)} (h:NmL l):Sh l:=fun s hs=>by have:=nm_len (h s hs);omega
theorem nameS_len {c:T27} (K:Chk c) {i:Int} (h:orS c i):(nameS c i).length≤16:=by
 unfold nameS
 split
 ·simp
 ·rename_i h1
  simp only[decide_eq_true_eq]at h1
  rcases h with h | h
  ·omega
  ·have:=isS_iff.1 h
   have:=nm_len (K.stateN (i:=i.toNat) (by omega))
   omega
theorem wordS_len {c:T27} (K:Chk c) {x:T118} (h:0≤x.Cond∧x.Cond < (c.Conds.length:Int)):(c.Conds.getD x.Cond.toNat default).length≤8∧(wordS c x).length≤16:=by
 have h1:=nm_len (K.condN (i:=x.Cond.toNat) (by omega))
 refine⟨h1.2,?_⟩
 unfold wordS
 split
 ·simp only[List.length_append,List.length_cons,List.length_nil];omega
 ·omega
theorem wordsS_sh {c:T27} (K:Chk c) {l:List T118} (h:InC c l):Sh (wordsS c l)∧(wordsS c l).length=l.length:=by
 unfold wordsS
 rw[← List.map_eq_flatMap]
 refine⟨fun s hs=>?_,by simp⟩
 obtain⟨x,hx,rfl⟩:=List.mem_map.1 hs
 exact(wordS_len K (h x hx)).2
theorem bI_app (a b:List UInt8):bytesI (a++b)=bytesI a++bytesI b:=by simp[bytesI]
theorem bI_len (a:List UInt8):(bytesI a).length=a.length:=by simp[bytesI]
theorem bI_nl:bytesI [10]=([10]:List Int):=rfl
theorem M22o0 (a0:List UInt8):m22o0 a0=((Option.bind (Option.bind (mcc0) fun r=>some r) fun x1=>(Option.bind ((if a0.length≤140737488355328 then some ()else none)) fun(x2:(Unit))=>(some ()))):Option (Unit)):=by kernel_rfl
theorem M22o1 (a0:List UInt8) (a1:List Int):m22o1 a0 a1=((Option.bind (Option.bind (mcc1 a1) fun r=>some r) fun x1=>(Option.bind ((if a1.length+a0.length≤140737488355328 then some ()else none)) fun(x2:(Unit))=>(some ()))):Option (Unit)):=by kernel_rfl
theorem M23o0 (a0:Int) (a1:List Int):m23o0 a0 a1=((Option.bind (Option.bind (mcc1 a1) fun r=>some r) fun x1=>(Option.bind ((if(a1.length+1) * 1≤140737488355328 then some ()else none)) fun(x2:(Unit))=>(some ()))):Option (Unit)):=by kernel_rfl
theorem ws0 {a:List UInt8} (h:a.length≤1000000000):m22o0 a=some ():=by
 have c:(a.length≤140737488355328)=True:=eq_true (by omega)
 simp only[M22o0,mcc0,bind_id,bs,c,if_true]
theorem ws1 {a:List UInt8} {b:List Int} (h:b.length+a.length≤1000000000):m22o1 a b=some ():=by
 have c:(b.length+a.length≤140737488355328)=True:=eq_true (by omega)
 simp only[M22o1,mcc1,bind_id,bs,c,if_true]
theorem wb0 {a:Int} {b:List Int} (h:b.length≤1000000000):m23o0 a b=some ():=by
 have c:((b.length+1) * 1≤140737488355328)=True:=eq_true (by omega)
 simp only[M23o0,mcc1,bind_id,bs,c,if_true]
theorem loop_txt {X:Type} {b:Int×List Int→Option ((Int×List Int)⊕X)} (n:Nat) (p:List UInt8) (g:Nat→List UInt8) (out:List Int→X)
  (hs:∀ i,i < n→b ((i:Int),bytesI (p++(List.range i).flatMap g))=some (.inl (((i+1:Nat):Int),bytesI (p++(List.range i).flatMap g++g i)))) (he:∀ x,b ((n:Int),x)=some (.inr (out x))) :
  loopO b ((0:Int),bytesI p)=some (out (bytesI (p++(List.range n).flatMap g))):=by
 have key:∀ k i,i+k=n→loopO b ((i:Int),bytesI (p++(List.range i).flatMap g))=some (out (bytesI (p++(List.range n).flatMap g))):=by
  intro k
  induction k with
  | zero =>
   intro i hk
   obtain rfl:i=n:=by omega
   rw[loopO_eq,he];rfl
  | succ k ih =>
   intro i hk
   rw[loopO_eq,hs i (by omega),List.append_assoc,← flatMap_app]
   exact ih (i+1) (by omega)
 have:=key n 0 (by omega)
 simpa using this
theorem pre_len (p:List UInt8) {g:Nat→List UInt8} {n m:Nat} (hg:∀ i,i < n→(g i).length≤m):∀ i,i≤n→(p++(List.range i).flatMap g).length≤p.length+i * m
 | 0,_=>by simp
 | i+1,hi=>by
  have h1:=pre_len p hg i (by omega)
  have h2:=hg i (by omega)
  rw[flatMap_app,← List.append_assoc,List.length_append,Nat.succ_mul]
  omega
theorem M21o0 (a0:List UInt8) (a1:List (List UInt8)):m21o0 a0 a1=((Option.bind (Option.bind (Option.bind (m22o0 a0) fun r=>some r) fun x0=>(some (.inl ()))) (onS fun(_:Unit)=>(Option.bind (Option.bind (some (.inl ())) (onS fun(_:Unit)=>(loopO (fun(s1:Int×(List Int))=>((if(decide (s1.1 < (a1.length:Int)))=true then(if(0≤s1.1)then(if(s1.1 < (a1.length:Int))then(Option.bind ((if([32]:List UInt8).length+(a1.getD s1.1.toNat default).length≤9223372036854775807 then((m22o1 (([32]:List UInt8)++(a1.getD s1.1.toNat default)) s1.2).bind fun r4_0=>some r4_0)else none)) fun(x4:(Unit))=>(some (.inl ((IntKind.wrap .i64 (s1.1+1)),(s1.2++bytesI (([32]:List UInt8)++(a1.getD s1.1.toNat default)))))))else none)else none)else(some (.inr (.inl s1.2)))):Option ((Int×(List Int))⊕(((List Int))⊕((List Int)))))) ((0:Int),(bytesI a0))))) (onS fun(y2:(List Int))=>(Option.bind (Option.bind (m23o0 (10:Int) y2) fun r=>some r) fun x6=>(some (y2++([(10:Int)]:List Int)))))))):Option ((List Int))):=by kernel_rfl
theorem M21o1 (a0:List UInt8) (a1:List (List UInt8)) (a2:List Int):m21o1 a0 a1 a2=((Option.bind (Option.bind (Option.bind (m22o1 a0 a2) fun r=>some r) fun x0=>(some (.inl ()))) (onS fun(_:Unit)=>(Option.bind (Option.bind (some (.inl ())) (onS fun(_:Unit)=>(loopO (fun(s1:Int×(List Int))=>((if(decide (s1.1 < (a1.length:Int)))=true then(if(0≤s1.1)then(if(s1.1 < (a1.length:Int))then(Option.bind ((if([32]:List UInt8).length+(a1.getD s1.1.toNat default).length≤9223372036854775807 then((m22o1 (([32]:List UInt8)++(a1.getD s1.1.toNat default)) s1.2).bind fun r4_0=>some r4_0)else none)) fun(x4:(Unit))=>(some (.inl ((IntKind.wrap .i64 (s1.1+1)),(s1.2++bytesI (([32]:List UInt8)++(a1.getD s1.1.toNat default)))))))else none)else none)else(some (.inr (.inl s1.2)))):Option ((Int×(List Int))⊕(((List Int))⊕((List Int)))))) ((0:Int),(a2++bytesI a0))))) (onS fun(y2:(List Int))=>(Option.bind (Option.bind (m23o0 (10:Int) y2) fun r=>some r) fun x6=>(some (y2++([(10:Int)]:List Int)))))))):Option ((List Int))):=by kernel_rfl
theorem M21o2 (a0:List UInt8) (a1:List (List UInt8)) (a2:List Int):m21o2 a0 a1 a2=((Option.bind (Option.bind (Option.bind (m22o1 a0 a2) fun r=>some r) fun x0=>(some (.inl ()))) (onS fun(_:Unit)=>(Option.bind (Option.bind (some (.inl ())) (onS fun(_:Unit)=>(loopO (fun(s1:Int×(List Int))=>((if(decide (s1.1 < (a1.length:Int)))=true then(if(0≤s1.1)then(if(s1.1 < (a1.length:Int))then(Option.bind ((if([32]:List UInt8).length+(a1.getD s1.1.toNat default).length≤9223372036854775807 then((m22o1 (([32]:List UInt8)++(a1.getD s1.1.toNat default)) s1.2).bind fun r4_0=>some r4_0)else none)) fun(x4:(Unit))=>(some (.inl ((IntKind.wrap .i64 (s1.1+1)),(s1.2++bytesI (([32]:List UInt8)++(a1.getD s1.1.toNat default)))))))else none)else none)else(some (.inr (.inl s1.2)))):Option ((Int×(List Int))⊕(((List Int))⊕((List Int)))))) ((0:Int),(a2++bytesI a0))))) (onS fun(y2:(List Int))=>(Option.bind (Option.bind (m23o0 (10:Int) y2) fun r=>some r) fun x6=>(some (y2++([(10:Int)]:List Int)))))))):Option ((List Int))):=by kernel_rfl
theorem M24o0 (a0:List UInt8) (a1:List (List UInt8)) (a2:List Int):m24o0 a0 a1 a2=((if(decide (0 < (a1.length:Int)))=true then(Option.bind (Option.bind (m21o2 a0 a1 a2) fun r=>some r) fun x1=>(some x1))else(some a2)):Option ((List Int))):=by kernel_rfl
theorem sp_len {l:List (List UInt8)} (h:Sh l) {i:Nat} (hi:i < l.length):(([32]:List UInt8)++l.getD i default).length≤17:=by
 have:=h _ (getD_mem hi)
 simp only[List.length_append,List.length_cons,List.length_nil];omega
theorem rec_flat (w:List UInt8) (l:List (List UInt8)):w++(List.range l.length).flatMap (fun i=>([32]:List UInt8)++l.getD i default)++[10]=recS w l:=by
 rw[getD_flat (fun s=>([32]:List UInt8)++s) l];rfl
theorem wr0_eq {w:List UInt8} {l:List (List UInt8)} (h:Sh l) (hw:w.length≤100) (hl:l.length≤1000):m21o0 w l=some (bytesI (recS w l)):=by
 have q0:=ws0 (a:=w) (by omega)
 have q1:=fun(a:List UInt8) (b:List Int) h=>ws1 (a:=a) (b:=b) h
 have q2:=fun(b:List Int) h=>wb0 (a:=10) (b:=b) h
 simp only[M21o0,bind_id,q0,bs,ol]
 generalize m22o1=F1 at q1 ⊢
 generalize m23o0=F2 at q2 ⊢
 refine on_l (loop_txt l.length w (fun i=>([32]:List UInt8)++l.getD i default) Sum.inl (fun i hi=>?_) (fun x=>by simp only[lt_irr,decide_false,Bool.false_eq_true,if_false])) ?_
 ·have hs:=sp_len h hi
  have hp:=pre_len w (g:=fun i=>([32]:List UInt8)++l.getD i default) (n:=l.length) (m:=17) (fun i hi=>sp_len h hi) i (by omega)
  have c1:(([32]:List UInt8).length+(l.getD i default).length≤9223372036854775807)=True:=eq_true (by rw[List.length_append]at hs;omega)
  have c2:=q1 (([32]:List UInt8)++l.getD i default) (bytesI (w++(List.range i).flatMap fun i=>([32]:List UInt8)++l.getD i default)) (by rw[bI_len];omega)
  have w1:IntKind.wrap .i64 ((i:Int)+1)=((i+1:Nat):Int):=by rw[w64 (by omega) (by omega)];omega
  simp only[inL hi,decide_true,Int.toNat_natCast,if_true,c1,c2,w1,bs]
  rw[bI_app _ (([32]:List UInt8)++l.getD i default)]
 ·have hp:=pre_len w (g:=fun i=>([32]:List UInt8)++l.getD i default) (n:=l.length) (m:=17) (fun i hi=>sp_len h hi) l.length (by omega)
  have c2:=q2 (bytesI (w++(List.range l.length).flatMap fun i=>([32]:List UInt8)++l.getD i default)) (by rw[bI_len];omega)
  simp only[c2,bs]
  rw[← rec_flat w l,bI_app _ [10]];rfl
theorem wr_tail {p w:List UInt8} {l:List (List UInt8)} (h:Sh l) (hl:l.length≤1000) (hp0:p.length≤100000000) (hw:w.length≤100) {b:Int×List Int→Option ((Int×List Int)⊕(List Int⊕List Int))} {k:List Int→Option (List Int)}
  (hb:∀ i,i < l.length→(bytesI ((p++w)++(List.range i).flatMap fun i=>([32]:List UInt8)++l.getD i default)).length≤200000000→b ((i:Int),bytesI ((p++w)++(List.range i).flatMap fun i=>([32]:List UInt8)++l.getD i default))=some (.inl (((i+1:Nat):Int),bytesI ((p++w)++((List.range i).flatMap fun i=>([32]:List UInt8)++l.getD i default)++(([32]:List UInt8)++l.getD i default)))))
  (he:∀ x,b ((l.length:Int),x)=some (.inr (.inl x))) (hk:∀ x:List Int,x.length≤200000000→k x=some (x++[10])):(loopO b ((0:Int),bytesI p++bytesI w)).bind (onS k)=some (bytesI (p++recS w l)):=by
 have hp:=fun i hi=>pre_len (p++w) (g:=fun i=>([32]:List UInt8)++l.getD i default) (n:=l.length) (m:=17) (fun i hi=>sp_len h hi) i hi
 rw[← bI_app]
 refine on_l (loop_txt l.length (p++w) (fun i=>([32]:List UInt8)++l.getD i default) Sum.inl (fun i hi=>hb i hi ?_) he) ?_
 ·have:=hp i (by omega)
  rw[List.length_append]at this
  simp only[List.length_append]at this
  rw[bI_len,List.length_append,List.length_append]
  omega
 ·rw[hk _ (by
   have:=hp l.length (Nat.le_refl _)
   simp only[List.length_append]at this
   rw[bI_len,List.length_append,List.length_append]
   omega),← rec_flat w l,← bI_nl,← bI_app]
  simp only[List.append_assoc]
theorem wr1_eq {p w:List UInt8} {l:List (List UInt8)} (h:Sh l) (hl:l.length≤1000) (hp0:p.length≤100000000) (hw:w.length≤100):m21o1 w l (bytesI p)=some (bytesI (p++recS w l)):=by
 have q0:=ws1 (a:=w) (b:=bytesI p) (by rw[bI_len];omega)
 have q1:=fun(a:List UInt8) (b:List Int) h=>ws1 (a:=a) (b:=b) h
 have q2:=fun(b:List Int) h=>wb0 (a:=10) (b:=b) h
 simp only[M21o1,bind_id,q0,bs,ol]
 generalize m22o1=F1 at q1 ⊢
 generalize m23o0=F2 at q2 ⊢
 refine wr_tail h hl hp0 hw (fun i hi hb=>?_) (fun x=>by simp only[lt_irr,decide_false,Bool.false_eq_true,if_false]) (fun x hx=>by simp only[q2 x (by omega),bs])
 have hs:=sp_len h hi
 have c1:(([32]:List UInt8).length+(l.getD i default).length≤9223372036854775807)=True:=eq_true (by rw[List.length_append]at hs;omega)
 have c2:=q1 (([32]:List UInt8)++l.getD i default) _ (show (bytesI ((p++w)++(List.range i).flatMap fun i=>([32]:List UInt8)++l.getD i default)).length+_≤1000000000 by omega)
 have w1:IntKind.wrap .i64 ((i:Int)+1)=((i+1:Nat):Int):=by rw[w64 (by omega) (by omega)];omega
 simp only[inL hi,decide_true,Int.toNat_natCast,if_true,c1,c2,w1,bs]
 rw[bI_app _ (([32]:List UInt8)++l.getD i default)]
theorem wr2_eq {p w:List UInt8} {l:List (List UInt8)} (h:Sh l) (hl:l.length≤1000) (hp0:p.length≤100000000) (hw:w.length≤100):m21o2 w l (bytesI p)=some (bytesI (p++recS w l)):=by
 have q0:=ws1 (a:=w) (b:=bytesI p) (by rw[bI_len];omega)
 have q1:=fun(a:List UInt8) (b:List Int) h=>ws1 (a:=a) (b:=b) h
 have q2:=fun(b:List Int) h=>wb0 (a:=10) (b:=b) h
 simp only[M21o2,bind_id,q0,bs,ol]
 generalize m22o1=F1 at q1 ⊢
 generalize m23o0=F2 at q2 ⊢
 refine wr_tail h hl hp0 hw (fun i hi hb=>?_) (fun x=>by simp only[lt_irr,decide_false,Bool.false_eq_true,if_false]) (fun x hx=>by simp only[q2 x (by omega),bs])
 have hs:=sp_len h hi
 have c1:(([32]:List UInt8).length+(l.getD i default).length≤9223372036854775807)=True:=eq_true (by rw[List.length_append]at hs;omega)
 have c2:=q1 (([32]:List UInt8)++l.getD i default) _ (show (bytesI ((p++w)++(List.range i).flatMap fun i=>([32]:List UInt8)++l.getD i default)).length+_≤1000000000 by omega)
 have w1:IntKind.wrap .i64 ((i:Int)+1)=((i+1:Nat):Int):=by rw[w64 (by omega) (by omega)];omega
 simp only[inL hi,decide_true,Int.toNat_natCast,if_true,c1,c2,w1,bs]
 rw[bI_app _ (([32]:List UInt8)++l.getD i default)]
theorem so_eq {p w:List UInt8} {l:List (List UInt8)} (h:Sh l) (hl:l.length≤1000) (hp0:p.length≤100000000) (hw:w.length≤100):m24o0 w l (bytesI p)=some (bytesI (p++optS w l)):=by
 have q:=wr2_eq (p:=p) h hl hp0 hw
 simp only[M24o0,bind_id,q,bs]
 unfold optS
 split
 ·rfl
 ·rw[List.append_nil]
theorem M25 (a0:T27) (a1:Int):m25 a0 a1=((if(decide (a1 < 0))=true then(some ([45]:List UInt8))else(if(0≤a1)then(if(a1 < (a0.States.length:Int))then(some (a0.States.getD a1.toNat default).Name)else none)else none)):Option ((List UInt8))):=by kernel_rfl
theorem nameOf_eq {c:T27} {i:Int} (h:orS c i):m25 c i=some (nameS c i):=by
 simp only[M25]
 unfold nameS
 by_cases h1:decide (i < 0)=true
 ·rw[if_pos h1,if_pos h1]
 ·rw[if_neg h1,if_neg h1]
  simp only[decide_eq_true_eq]at h1
  rcases h with h | h
  ·omega
  ·have:=isS_iff.1 h
   rw[if_pos (by omega),if_pos (by omega)]
theorem M26 (a0:T27) (a1:List T118):m26 a0 a1=((Option.bind (some (.inl ())) (onS fun(_:Unit)=>(Option.bind (Option.bind (some (.inl ())) (onS fun(_:Unit)=>(loopO (fun(s1:(List (List UInt8))×Int)=>((if(decide (s1.2 < (a1.length:Int)))=true then(if(0≤s1.2)then(if(s1.2 < (a1.length:Int))then(if(0≤(a1.getD s1.2.toNat default).Cond)then(if((a1.getD s1.2.toNat default).Cond < (a0.Conds.length:Int))then(if(a1.getD s1.2.toNat default).Neg=true then(if(([33]:List UInt8).length+(a0.Conds.getD (a1.getD s1.2.toNat default).Cond.toNat default).length≤9223372036854775807)then(if((s1.1.length+1) * 16≤140737488355328)then(some (.inl ((s1.1++([(([33]:List UInt8)++(a0.Conds.getD (a1.getD s1.2.toNat default).Cond.toNat default))]:List (List UInt8))),(IntKind.wrap .i64 (s1.2+1)))))else none)else none)else(if((s1.1.length+1) * 16≤140737488355328)then(some (.inl ((s1.1++([(a0.Conds.getD (a1.getD s1.2.toNat default).Cond.toNat default)]:List (List UInt8))),(IntKind.wrap .i64 (s1.2+1)))))else none))else none)else none)else none)else none)else(some (.inr (.inl s1.1)))):Option (((List (List UInt8))×Int)⊕(((List (List UInt8)))⊕((List (List UInt8))))))) ([],(0:Int))))) (onS fun(y2:(List (List UInt8)))=>(some y2))))):Option ((List (List UInt8)))):=by kernel_rfl
theorem words_eq {c:T27} (K:Chk c) {l:List T118} (h:InC c l) (hl:l.length≤1000):m26 c l=some (wordsS c l):=by
 simp only[M26,bind_id,bs,ol]
 have e:wordsS c l=(List.range l.length).flatMap fun i=>[wordS c (l.getD i default)]:=(getD_flat (fun x=>[wordS c x]) l).symm
 rw[e]
 refine on_l (loop_coll l.length (fun i k=>((k,(i:Int)):List (List UInt8)×Int)) (fun i=>[wordS c (l.getD i default)]) Sum.inl (fun i hi=>?_) (by simp only[lt_irr,decide_false,Bool.false_eq_true,if_false])) rfl
 have hx:=h _ (getD_mem hi)
 have hn:=(wordS_len K hx).1
 have hgl:=flatMap_len (g:=fun i=>[wordS c (l.getD i default)]) (m:=1) (fun j=>by simp) i
 have c1:(0≤(l.getD i default).Cond)=True:=eq_true hx.1
 have c2:((l.getD i default).Cond < (c.Conds.length:Int))=True:=eq_true hx.2
 have c3:(([33]:List UInt8).length+(c.Conds.getD (l.getD i default).Cond.toNat default).length≤9223372036854775807)=True:=eq_true (by show 1+_≤_;omega)
 have c4:((((List.range i).flatMap fun i=>[wordS c (l.getD i default)]).length+1) * 16≤140737488355328)=True:=eq_true (by omega)
 have w1:IntKind.wrap .i64 ((i:Int)+1)=((i+1:Nat):Int):=by rw[w64 (by omega) (by omega)];omega
 simp only[inL hi,decide_true,Int.toNat_natCast,if_true,c1,c2,c3,c4,w1]
 have e2:wordS c (l.getD i default)=if(l.getD i default).Neg=true then([33]:List UInt8)++c.Conds.getD (l.getD i default).Cond.toNat default else c.Conds.getD (l.getD i default).Cond.toNat default:=rfl
 cases hn:(l.getD i default).Neg with
 | true=>rw[hn,if_pos rfl]at e2;simp only[if_true,e2]
 | false=>rw[hn,if_neg (by decide)]at e2;simp only[Bool.false_eq_true,if_false,e2]
end Go.Av.Ch
