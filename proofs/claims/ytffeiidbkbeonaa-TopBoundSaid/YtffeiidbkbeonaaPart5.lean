/- A part of the proof. -/
import Derived.Test.YtffeiidbkbeonaaPart4
import Derived.Lib.IndexLaws
import Derived.Handed
set_option linter.unusedVariables false
set_option linter.unusedSimpArgs false
set_option maxRecDepth 100000
namespace Go.Av
open Go.RowKit Go.Base Go.Proofs Go.ChangeShapes Go.WideShapes
noncomputable def d6 (a0:List T39) (a1:List T54) (a2 a3:List UInt8):JF Try.prog Try.f6 [(eSl 2 e39 a0),(eSl 7 e54 a1),(.str a2),(.str a3)] (fun(r:T31×Int)=>(.tup [(e31 r.1),(dI r.2)])) :=
 (.or (.sq 8 [(1,⟨Int,fun x=>[],fun x=>[(112,⟨(.tup [.any,(aI x)]),[],[],[],[]⟩)],[]⟩),(4,⟨Unit,fun x=>[],fun x=>[],[]⟩)] [(1,[8,9],[16])] (fun(y:Empty)=>y.elim) (c3 (p:=fun x1=>ObjL Try.prog 17 [(.d (eSl 2 e39 a0)),(.d (eSl 7 e54 a1)),(aS a2),(aS a3)] [] 112 ⟨(.tup [.any,(aI x1)]),[],[],[],[]⟩) (fun x1 (h1:m17o1 a0 a1 a2 a3=some _)=>ok [] [] [] [] (po17o1 h1)) fun x1=>(.ite (x1 != 0) (.ret .ret ⟨[(8,(.ptr 16 0)),(9,(aI x1))],[(16,(.cells [aN,(aI 0),aN]))],[],304⟩ (.inr (((⟨[],(0:Int),[]⟩:T31),x1))) ⟨rfl,rfl,_,Weak.refl _,⟨⟨de_nil,dr,de_nil,trivial⟩,dr,trivial⟩⟩) (.exi (Unit) none (fun x4=>.no) (by intro x4 h;cases h) (fun x4 i=>match i with  | _=>.bad)))) (fun y=>.nv)) (.sq 8 [(1,⟨(Nat×(List UInt8→Bool)×(List UInt8→T52)),fun x=>[],fun x=>[(112,(o6_0 x))],[]⟩),(4,⟨(Nat×(List UInt8→Bool)×(List UInt8→T69))×(Nat×(List UInt8→Bool)×(List UInt8→T52)),fun x=>[],fun x=>[(288,(o6_1 x))],[]⟩),(9,tm1 50 (eSl 1 D.str))] [(1,[8,9],[16]),(0,[0,8,10,12,13,15,16],[16,112,288,416,544])] (fun(y1:(List (List UInt8))×Nat×(List UInt8→Bool)×(List UInt8→T52)×Nat×(List UInt8→Bool)×(List UInt8→T69)×(List UInt8)×Int×Int×Int)=>⟨[(0,(.d (eSl 2 e39 a0))),(8,(.ptr 16 0)),(10,(.mp 112)),(12,(.mp 288)),(13,(.ptr 416 0)),(15,(.ptr 544 0)),(16,(.d (eSl 1 D.str y1.1)))],(z6_2 y1),[],640⟩) (c3 (p:=fun x1=>ObjL Try.prog 17 [(.d (eSl 2 e39 a0)),(.d (eSl 7 e54 a1)),(aS a2),(aS a3)] [] 112 (o6_0 x1)) (fun x1 (h1:m17o2 a0 a1 a2 a3=some _)=>objL_of (po17o2 h1) [] [] [(112,176)] [] (by kernel_rfl) ⟨dr,dr,dr,dr,trivial⟩ trivial (by kernel_rfl) ⟨rfl,dr,trivial⟩ ⟨_,_,rfl,rfl,⟨rfl,rfl,rfl,rfl,rfl,fun _=>rfl⟩⟩) fun x1=>(.ite ((0:Int) != (0:Int)) (.ret .ret ⟨[(8,(.ptr 16 0)),(9,(aI 0))],[(16,(.cells [aN,(aI 0),aN]))],[],304⟩ (.inr (((⟨[],(0:Int),[]⟩:T31),(0:Int)))) ⟨rfl,rfl,_,Weak.refl _,⟨⟨de_nil,dr,de_nil,trivial⟩,dr,trivial⟩⟩) (.exi ((Nat×(List UInt8→Bool)×(List UInt8→T69))×(Nat×(List UInt8→Bool)×(List UInt8→T52))) ((m18o1 a0 a2 x1.1 x1.2.1 x1.2.2).bind fun r4_0=>some (r4_0,x1)) (fun x4=>(.p (ObjL Try.prog 18 [(.d (eSl 2 e39 a0)),(.mp 112),(aS a2)] [(112,some (.gm Try.prog 9 52 x1.1 x1.2.1 (cG e52 x1.2.2)))] 288 (o6_1 x4)) (.fin 0))) (by intro x4 h;obtain⟨r4_0,h1,h⟩:=Option.bind_eq_some_iff.1 h;cases h;exact⟨objL_of (po18o1 h1) [(0,112)] [] [(112,0),(288,32)] [] (by kernel_rfl) ⟨dr,rfl,dr,trivial⟩ ⟨_,_,rfl,rfl,⟨rfl,rfl,rfl,rfl,rfl,(fun _=>rfl)⟩⟩ (by kernel_rfl) rfl ⟨⟨_,_,rfl,rfl,⟨rfl,rfl,rfl,rfl,rfl,fun _=>rfl⟩⟩,⟨_,_,rfl,rfl,⟨rfl,rfl,rfl,rfl,rfl,fun _=>rfl⟩⟩⟩,trivial⟩) (fun x4 _=>(.need (Try.prog=Try.prog) (.isTrue rfl) (nd (a3.length≤maxLen) (.ite (!(x4.1.2.1 a3)) (.ret .ret ⟨[(8,(.ptr 16 0)),(9,(aI 10))],[(16,(.cells [aN,(aI 0),aN]))],[],544⟩ (.inr (((⟨[],(0:Int),[]⟩:T31),(10:Int)))) ⟨rfl,rfl,_,Weak.refl _,⟨⟨de_nil,dr,de_nil,trivial⟩,dr,trivial⟩⟩) (c3 (@p19 a0 a2) fun x9=>(.nx (x9,x4.2.1,x4.2.2.1,x4.2.2.2,x4.1.1,x4.1.2.1,x4.1.2.2,(x4.1.2.2 a3).Ref,(x4.1.2.2 a3).Length,(x4.1.2.2 a3).Hops,(x4.1.2.2 a3).Length)))))))))) (fun y1=>(.sc (fun(y3:(List T69))=>⟨[(0,(.d (eSl 2 e39 a0))),(8,(.ptr 16 0)),(10,(.mp 112)),(12,(.mp 288)),(13,(.ptr 416 0)),(15,(.ptr 544 0)),(16,(.d (eSl 1 D.str y1.1)))],[(688,(.vec 49 4 ([]:List T49).length (cF e49 ([]:List T49)))),(689,(.vec 69 3 ([]:List T69).length (cF e69 ([]:List T69)))),(16,z6_0),(112,(.gm Try.prog 9 52 y1.2.1 y1.2.2.1 (cG e52 y1.2.2.2.1))),(288,(.gm Try.prog 9 69 y1.2.2.2.2.1 y1.2.2.2.2.2.1 (cG e69 y1.2.2.2.2.2.2.1))),(416,(z6_1 y1)),(690,(.vec 49 4 ([]:List T49).length (cF e49 ([]:List T49)))),(691,(.vec 69 3 y3.length (cF e69 y3))),(544,(.cells [(.vec 690 4 ([]:List T49).length),(aI y1.2.2.2.2.2.2.2.2.2.2),(.vec 691 3 y3.length)]))],[],948⟩) (.sq 1 [] [(0,[0,8,10,12,13,15,16,51,52,53],[16,112,288,416,544])] (fun(_:Unit)=>⟨[(0,(.d (eSl 2 e39 a0))),(8,(.ptr 16 0)),(10,(.mp 112)),(12,(.mp 288)),(13,(.ptr 416 0)),(15,(.ptr 544 0)),(16,(.d (eSl 1 D.str y1.1))),(51,(.d (eSl 1 D.str y1.1))),(52,(aI (y1.1.length:Int))),(53,(aI 0))],(z6_2 y1),[],688⟩) (.nx ()) (fun _=>(.bk (.lp (fun(s2:Int×(List T69))=>⟨[(0,(.d (eSl 2 e39 a0))),(8,(.ptr 16 0)),(10,(.mp 112)),(12,(.mp 288)),(13,(.ptr 416 0)),(15,(.ptr 544 0)),(16,(.d (eSl 1 D.str y1.1))),(51,(.d (eSl 1 D.str y1.1))),(52,(aI (y1.1.length:Int))),(53,(aI s2.1))],[(688,(.vec 49 4 ([]:List T49).length (cF e49 ([]:List T49)))),(689,(.vec 69 3 ([]:List T69).length (cF e69 ([]:List T69)))),(16,z6_0),(112,(.gm Try.prog 9 52 y1.2.1 y1.2.2.1 (cG e52 y1.2.2.2.1))),(288,(.gm Try.prog 9 69 y1.2.2.2.2.1 y1.2.2.2.2.2.1 (cG e69 y1.2.2.2.2.2.2.1))),(416,(z6_1 y1)),(690,(.vec 49 4 ([]:List T49).length (cF e49 ([]:List T49)))),(691,(.vec 69 3 s2.2.length (cF e69 s2.2))),(544,(.cells [(.vec 690 4 ([]:List T49).length),(aI y1.2.2.2.2.2.2.2.2.2.2),(.vec 691 3 s2.2.length)]))],[],932⟩) ((0:Int),([]:List T69)) (Weak.trans (weak_vec (st:=_) (st':=⟨[(0,(.d (eSl 2 e39 a0))),(8,(.ptr 16 0)),(10,(.mp 112)),(12,(.mp 288)),(13,(.ptr 416 0)),(15,(.ptr 544 0)),(16,(.d (eSl 1 D.str y1.1))),(51,(.d (eSl 1 D.str y1.1))),(52,(aI (y1.1.length:Int))),(53,(aI 0))],[(688,(.vec 49 4 0 (fun _=>.bad))),(689,(.vec 69 3 0 (fun _=>.bad))),(690,(.vec 49 4 0 (fun _=>.bad))),(691,(.vec 69 3 0 (fun _=>.bad))),(16,(.cells [(.vec 688 4 0),(aI 0),(.vec 689 3 0)])),(112,(.gm Try.prog 9 52 y1.2.1 y1.2.2.1 (cG e52 y1.2.2.2.1))),(288,(.gm Try.prog 9 69 y1.2.2.2.2.1 y1.2.2.2.2.2.1 (cG e69 y1.2.2.2.2.2.2.1))),(416,(z6_1 y1)),(544,(.cells [(.vec 690 4 0),(aI y1.2.2.2.2.2.2.2.2.2.2),(.vec 691 3 0)]))],[],692⟩) [(688,49,4,fun _=>.bad),(689,69,3,fun _=>.bad),(690,49,4,fun _=>.bad),(691,69,3,fun _=>.bad)] [(16,(.cells [(.vec 688 4 0),(aI 0),(.vec 689 3 0)])),(112,(.gm Try.prog 9 52 y1.2.1 y1.2.2.1 (cG e52 y1.2.2.2.1))),(288,(.gm Try.prog 9 69 y1.2.2.2.2.1 y1.2.2.2.2.2.1 (cG e69 y1.2.2.2.2.2.2.1))),(416,(z6_1 y1)),(544,(.cells [(.vec 690 4 0),(aI y1.2.2.2.2.2.2.2.2.2.2),(.vec 691 3 0)]))] rfl rfl (Nat.le_of_ble_eq_true rfl) (by kernel_rfl) (by kernel_rfl) (by kernel_rfl) (by exact⟨.inr ⟨_,_,rfl,rfl,(.vec (.head _) (.same (.vec (.tail _ (.head _)) .nil)))⟩,.inl rfl,.inl rfl,.inl rfl,.inr ⟨_,_,rfl,rfl,(.vec (.tail _ (.tail _ (.head _))) (.same (.vec (.tail _ (.tail _ (.tail _ (.head _)))) .nil)))⟩⟩) (by exact⟨(.same .nil),(.same .nil),(.same .nil),(.same .nil),(.same .nil),(.same .nil),(.same .nil),(.same .nil),(.same .nil),(.same .nil)⟩)) (by exact(ws (idn [16,112,288,416,544,688,689,690,691]) [] ⟨⟨_,_,rfl,rfl,⟨rfl,rfl,de_nil⟩⟩,⟨_,_,rfl,rfl,⟨rfl,rfl,de_nil⟩⟩,⟨_,_,rfl,rfl,⟨⟨rfl,rfl,(len_of (sz:=4) (e:=e49) (f:=(fun _=>.bad)) (l:=([]:List T49)) de_nil)⟩,dr,⟨rfl,rfl,(len_of (sz:=3) (e:=e69) (f:=(fun _=>.bad)) (l:=([]:List T69)) de_nil)⟩,trivial⟩⟩,⟨_,_,rfl,rfl,⟨rfl,rfl,rfl,rfl,rfl,(fun _=>rfl)⟩⟩,⟨_,_,rfl,rfl,⟨rfl,rfl,rfl,rfl,rfl,(fun _=>rfl)⟩⟩,⟨_,_,rfl,rfl,⟨dr,dr,dr,trivial⟩⟩,⟨_,_,rfl,rfl,⟨rfl,rfl,de_nil⟩⟩,⟨_,_,rfl,rfl,⟨rfl,rfl,de_nil⟩⟩,⟨_,_,rfl,rfl,⟨⟨rfl,rfl,(len_of (sz:=4) (e:=e49) (f:=(fun _=>.bad)) (l:=([]:List T49)) de_nil)⟩,dr,⟨rfl,rfl,(len_of (sz:=3) (e:=e69) (f:=(fun _=>.bad)) (l:=([]:List T69)) de_nil)⟩,trivial⟩⟩⟩))) fun s2=>(.sg [(13,⟨Unit,fun x=>[],fun x=>[],[853,1093]⟩)] [(0,[0,8,10,12,13,15,16,51,52,53],[16,688,689,112,288,416,544,690,1092]),(2,[0,8,10,12,13,15,16],[688,689,16,112,288,416,690,691,544])] (.ite (decide (s2.1 < (y1.1.length:Int))) (nd (0≤s2.1) (nd (s2.1 < (y1.1.length:Int)) (.exi (Unit) (if(y1.1.getD s2.1.toNat default).length≤maxLen then(if(s2.2.length+1) * 32≤140737488355328 then some ()else none)else none) (fun x13=>(.p (Try.prog=Try.prog) (.p ((y1.1.getD s2.1.toNat default).length≤maxLen) (.p ((s2.2.length+1) * 32≤140737488355328) (.fin 0))))) (by intro x13 h;obtain⟨h2,h⟩:=if_some h;obtain⟨h3,h⟩:=if_some h;cases h;exact⟨rfl,h2,h3,trivial⟩) (fun x13 _=>(.ret .normal ⟨[(0,(.d (eSl 2 e39 a0))),(8,(.ptr 16 0)),(10,(.mp 112)),(12,(.mp 288)),(13,(.ptr 416 0)),(15,(.ptr 544 0)),(16,(.d (eSl 1 D.str y1.1))),(51,(.d (eSl 1 D.str y1.1))),(52,(aI (y1.1.length:Int))),(53,(aI (IntKind.wrap .i64 (s2.1+1))))],[(16,z6_0),(688,(.vec 49 4 ([]:List T49).length (cF e49 ([]:List T49)))),(689,(.vec 69 3 ([]:List T69).length (cF e69 ([]:List T69)))),(112,(.gm Try.prog 9 52 y1.2.1 y1.2.2.1 (cG e52 y1.2.2.2.1))),(288,(.gm Try.prog 9 69 y1.2.2.2.2.1 y1.2.2.2.2.2.1 (cG e69 y1.2.2.2.2.2.2.1))),(416,(z6_1 y1)),(544,(.cells [(.vec 690 4 ([]:List T49).length),(aI y1.2.2.2.2.2.2.2.2.2.2),(.vec 1092 3 (s2.2.length+1))])),(690,(.vec 49 4 ([]:List T49).length (cF e49 ([]:List T49)))),(1092,(.vec 69 3 (s2.2.length+1) (appF s2.2.length (cF e69 s2.2) (litF [(.agg [(.str (y1.2.2.2.2.2.2.1 (y1.1.getD s2.1.toNat default)).Ref),(dI (y1.2.2.2.2.2.2.1 (y1.1.getD s2.1.toNat default)).Length),(dI (y1.2.2.2.2.2.2.1 (y1.1.getD s2.1.toNat default)).Hops)])]))))],[1076],1172⟩ (.inl ((IntKind.wrap .i64 (s2.1+1)),(s2.2++([(y1.2.2.2.2.2.2.1 (y1.1.getD s2.1.toNat default))]:List T69)))) ⟨rfl,(ws [(16,16),(112,112),(288,288),(416,416),(544,544),(688,688),(689,689),(690,690),(691,1092)] [] ⟨⟨_,_,rfl,rfl,⟨rfl,rfl,dr⟩⟩,⟨_,_,rfl,rfl,⟨rfl,rfl,dr⟩⟩,⟨_,_,rfl,rfl,⟨⟨rfl,rfl,rfl⟩,dr,⟨rfl,rfl,rfl⟩,trivial⟩⟩,⟨_,_,rfl,rfl,⟨rfl,rfl,rfl,rfl,rfl,(fun _=>rfl)⟩⟩,⟨_,_,rfl,rfl,⟨rfl,rfl,rfl,rfl,rfl,(fun _=>rfl)⟩⟩,⟨_,_,rfl,rfl,⟨dr,dr,dr,trivial⟩⟩,⟨_,_,rfl,rfl,⟨rfl,rfl,dr⟩⟩,⟨_,_,rfl,rfl,⟨rfl,rfl,(de_app dr (de_lit rfl rfl))⟩⟩,⟨_,_,rfl,rfl,⟨⟨rfl,rfl,rfl⟩,dr,⟨rfl,rfl,(len_of (sz:=3) (e:=e69) (f:=(appF s2.2.length (cF e69 s2.2) (litF [(.agg [(.str (y1.2.2.2.2.2.2.1 (y1.1.getD s2.1.toNat default)).Ref),(dI (y1.2.2.2.2.2.2.1 (y1.1.getD s2.1.toNat default)).Length),(dI (y1.2.2.2.2.2.2.1 (y1.1.getD s2.1.toNat default)).Hops)])]))) (l:=(s2.2++([(y1.2.2.2.2.2.2.1 (y1.1.getD s2.1.toNat default))]:List T69))) (de_app dr (de_lit rfl rfl)))⟩,trivial⟩⟩⟩)⟩))))) (.ret (.exit 0) _ (.inr (.inl s2.2)) ⟨rfl,rfl,Weak.refl _⟩))))))) fun y3=>(.sc (fun(y5:(List T49))=>⟨[(8,(.ptr 16 0)),(15,(.ptr 544 0))],[(688,(.vec 49 4 ([]:List T49).length (cF e49 ([]:List T49)))),(689,(.vec 69 3 ([]:List T69).length (cF e69 ([]:List T69)))),(16,z6_0),(690,(.vec 49 4 y5.length (cF e49 y5))),(691,(.vec 69 3 y3.length (cF e69 y3))),(544,(.cells [(.vec 690 4 y5.length),(aI y1.2.2.2.2.2.2.2.2.2.2),(.vec 691 3 y3.length)]))],[],1252⟩) (.sq 1 [] [(0,[0,8,10,12,15,16,19],[688,689,16,112,288,690,691,544,964])] (fun(_:Unit)=>⟨[(0,(.d (eSl 2 e39 a0))),(8,(.ptr 16 0)),(10,(.mp 112)),(12,(.mp 288)),(15,(.ptr 544 0)),(16,(.d (eSl 1 D.str y1.1))),(19,(.ptr 964 0))],[(688,(.vec 49 4 ([]:List T49).length (cF e49 ([]:List T49)))),(689,(.vec 69 3 ([]:List T69).length (cF e69 ([]:List T69)))),(16,z6_0),(112,(.gm Try.prog 9 52 y1.2.1 y1.2.2.1 (cG e52 y1.2.2.2.1))),(288,(.gm Try.prog 9 69 y1.2.2.2.2.1 y1.2.2.2.2.2.1 (cG e69 y1.2.2.2.2.2.2.1))),(690,(.vec 49 4 ([]:List T49).length (cF e49 ([]:List T49)))),(691,(.vec 69 3 y3.length (cF e69 y3))),(544,(.cells [(.vec 690 4 ([]:List T49).length),(aI y1.2.2.2.2.2.2.2.2.2.2),(.vec 691 3 y3.length)])),(964,(z6_1 y1))],[],996⟩) (.nx ()) (fun _=>(.bk (.lp (fun(s4:(List T49)×(List UInt8)×Int×Int)=>⟨[(0,(.d (eSl 2 e39 a0))),(8,(.ptr 16 0)),(10,(.mp 112)),(12,(.mp 288)),(15,(.ptr 544 0)),(16,(.d (eSl 1 D.str y1.1))),(19,(.ptr 964 0))],[(688,(.vec 49 4 ([]:List T49).length (cF e49 ([]:List T49)))),(689,(.vec 69 3 ([]:List T69).length (cF e69 ([]:List T69)))),(16,z6_0),(112,(.gm Try.prog 9 52 y1.2.1 y1.2.2.1 (cG e52 y1.2.2.2.1))),(288,(.gm Try.prog 9 69 y1.2.2.2.2.1 y1.2.2.2.2.2.1 (cG e69 y1.2.2.2.2.2.2.1))),(690,(.vec 49 4 s4.1.length (cF e49 s4.1))),(691,(.vec 69 3 y3.length (cF e69 y3))),(544,(.cells [(.vec 690 4 s4.1.length),(aI y1.2.2.2.2.2.2.2.2.2.2),(.vec 691 3 y3.length)])),(964,(.cells [(aS s4.2.1),(aI s4.2.2.1),(aI s4.2.2.2)]))],[],1204⟩) (([]:List T49),y1.2.2.2.2.2.2.2.1,y1.2.2.2.2.2.2.2.2.1,y1.2.2.2.2.2.2.2.2.2.1) (ws (idn [16,112,288,544,964,688,689,690,691]) [] ⟨⟨_,_,rfl,rfl,⟨rfl,rfl,dr⟩⟩,⟨_,_,rfl,rfl,⟨rfl,rfl,dr⟩⟩,⟨_,_,rfl,rfl,⟨⟨rfl,rfl,rfl⟩,dr,⟨rfl,rfl,rfl⟩,trivial⟩⟩,⟨_,_,rfl,rfl,⟨rfl,rfl,rfl,rfl,rfl,(fun _=>rfl)⟩⟩,⟨_,_,rfl,rfl,⟨rfl,rfl,rfl,rfl,rfl,(fun _=>rfl)⟩⟩,⟨_,_,rfl,rfl,⟨rfl,rfl,dr⟩⟩,⟨_,_,rfl,rfl,⟨rfl,rfl,dr⟩⟩,⟨_,_,rfl,rfl,⟨⟨rfl,rfl,rfl⟩,dr,⟨rfl,rfl,rfl⟩,trivial⟩⟩,⟨_,_,rfl,rfl,⟨dr,dr,dr,trivial⟩⟩⟩) fun s4=>(.sg [(17,⟨((List UInt8)×Int×Int×(List T49)),fun x=>[],fun x=>[(1332,(o6_2 y1 y3 x))],[]⟩)] [(0,[0,8,10,12,15,16,19],[16,688,689,112,288,544,1332,691,1380]),(4,[8,15],[688,689,16,690,691,544])] (.ite (decide (0 < s4.2.2.2)) (c3 (p:=fun x17=>ObjL Try.prog 20 [(.d (eSl 2 e39 a0)),(.mp 112),(.mp 288),(.d (eSl 1 D.str y1.1)),(.d (.agg [(.str s4.2.1),(dI s4.2.2.1),(dI s4.2.2.2)])),(.ptr 544 0)] [(112,some (.gm Try.prog 9 52 y1.2.1 y1.2.2.1 (cG e52 y1.2.2.2.1))),(288,some (.gm Try.prog 9 69 y1.2.2.2.2.1 y1.2.2.2.2.2.1 (cG e69 y1.2.2.2.2.2.2.1))),(544,some (.cells [(.vec 690 4 s4.1.length),(aI y1.2.2.2.2.2.2.2.2.2.2),(.vec 691 3 y3.length)])),(690,some (.vec 49 4 s4.1.length (cF e49 s4.1))),(691,some (.vec 69 3 y3.length (cF e69 y3)))] 1332 (o6_2 y1 y3 x17)) (fun x17 (h1:m20o0 a0 y1.1 (⟨s4.2.1,s4.2.2.1,s4.2.2.2⟩:T69) y1.2.1 y1.2.2.1 y1.2.2.2.1 y1.2.2.2.2.1 y1.2.2.2.2.2.1 y1.2.2.2.2.2.2.1 s4.1 y1.2.2.2.2.2.2.2.2.2.2 y3=some _)=>objL_of (po20o0 h1) [(0,112),(1,288),(2,544),(3,690),(4,691)] [] [(112,0),(288,1),(544,2),(690,3),(691,4),(1332,1856)] [] (by kernel_rfl) ⟨dr,rfl,rfl,dr,dr,⟨rfl,rfl⟩,trivial⟩ ⟨⟨_,_,rfl,rfl,⟨rfl,rfl,rfl,rfl,rfl,(fun _=>rfl)⟩⟩,⟨_,_,rfl,rfl,⟨rfl,rfl,rfl,rfl,rfl,(fun _=>rfl)⟩⟩,⟨_,_,rfl,rfl,⟨rfl,rfl,dr⟩⟩,⟨_,_,rfl,rfl,⟨rfl,rfl,dr⟩⟩,⟨_,_,rfl,rfl,⟨⟨rfl,rfl,rfl⟩,dr,⟨rfl,rfl,rfl⟩,trivial⟩⟩⟩ (by kernel_rfl) dr ⟨⟨_,_,rfl,rfl,trivial⟩,⟨_,_,rfl,rfl,⟨rfl,rfl,rfl,rfl,rfl,fun _=>rfl⟩⟩,⟨_,_,rfl,rfl,⟨rfl,rfl,rfl,rfl,rfl,fun _=>rfl⟩⟩,⟨_,_,rfl,rfl,⟨rfl,rfl,dr⟩⟩,⟨_,_,rfl,rfl,⟨rfl,rfl,dr⟩⟩,⟨_,_,rfl,rfl,⟨⟨rfl,rfl,rfl⟩,dr,⟨rfl,rfl,rfl⟩,trivial⟩⟩⟩) fun x17=>(.ret .normal ⟨[(0,(.d (eSl 2 e39 a0))),(8,(.ptr 16 0)),(10,(.mp 112)),(12,(.mp 288)),(15,(.ptr 544 0)),(16,(.d (eSl 1 D.str y1.1))),(19,(.ptr 1380 0))],[(16,z6_0),(688,(.vec 49 4 ([]:List T49).length (cF e49 ([]:List T49)))),(689,(.vec 69 3 ([]:List T69).length (cF e69 ([]:List T69)))),(112,(.gm Try.prog 9 52 y1.2.1 y1.2.2.1 (cG e52 y1.2.2.2.1))),(288,(.gm Try.prog 9 69 y1.2.2.2.2.1 y1.2.2.2.2.2.1 (cG e69 y1.2.2.2.2.2.2.1))),(544,(.cells [(.vec 1332 4 x17.2.2.2.length),(aI y1.2.2.2.2.2.2.2.2.2.2),(.vec 691 3 y3.length)])),(1332,(.vec 49 4 x17.2.2.2.length (cF e49 x17.2.2.2))),(691,(.vec 69 3 y3.length (cF e69 y3))),(1380,(.cells [(aS x17.1),(aI x17.2.1),(aI x17.2.2.1)]))],[],1412⟩ (.inl (x17.2.2.2,x17.1,x17.2.1,x17.2.2.1)) ⟨rfl,(ws [(16,16),(112,112),(288,288),(544,544),(964,1380),(688,688),(689,689),(690,1332),(691,691)] [] ⟨⟨_,_,rfl,rfl,⟨rfl,rfl,dr⟩⟩,⟨_,_,rfl,rfl,⟨rfl,rfl,dr⟩⟩,⟨_,_,rfl,rfl,⟨⟨rfl,rfl,rfl⟩,dr,⟨rfl,rfl,rfl⟩,trivial⟩⟩,⟨_,_,rfl,rfl,⟨rfl,rfl,rfl,rfl,rfl,(fun _=>rfl)⟩⟩,⟨_,_,rfl,rfl,⟨rfl,rfl,rfl,rfl,rfl,(fun _=>rfl)⟩⟩,⟨_,_,rfl,rfl,⟨rfl,rfl,dr⟩⟩,⟨_,_,rfl,rfl,⟨rfl,rfl,dr⟩⟩,⟨_,_,rfl,rfl,⟨⟨rfl,rfl,rfl⟩,dr,⟨rfl,rfl,rfl⟩,trivial⟩⟩,⟨_,_,rfl,rfl,⟨dr,dr,dr,trivial⟩⟩⟩)⟩)) (.ret (.exit 2) _ (.inr (.inl s4.1)) ⟨rfl,rfl,Weak.refl _⟩))))))) fun y5=>(.sg [(20,⟨(List T49),fun x=>[],fun x=>[(1284,⟨(.tup []),[690],[],[(690,(.vec 49 4 y5.length (cF e49 x)))],[]⟩)],[]⟩)] [(1,[8,9],[16,690,691])] (c3 (p:=fun x20=>ObjL Try.prog 21 [(.vec 690 4 y5.length)] [(690,some (.vec 49 4 y5.length (cF e49 y5)))] 1284 ⟨(.tup []),[690],[],[(690,(.vec 49 4 y5.length (cF e49 x20)))],[]⟩) (fun x20 (h1:m21o0 y5=some _)=>ok [(0,690)] [] [(690,0)] [] (po21o0 h1)) fun x20=>(.ret .ret ⟨[(8,(.ptr 16 0)),(9,(aI 0))],[(16,(.cells [(.vec 690 4 y5.length),(aI y1.2.2.2.2.2.2.2.2.2.2),(.vec 691 3 y3.length)])),(690,(.vec 49 4 y5.length (cF e49 x20))),(691,(.vec 69 3 y3.length (cF e69 y3)))],[],1348⟩ ((⟨(subL x20 0 y5.length),y1.2.2.2.2.2.2.2.2.2.2,y3⟩:T31),(0:Int)) ⟨rfl,_,(weak_frz (st':=⟨[(8,(.ptr 16 0)),(9,(aI 0))],[(16,(.cells [(.d (eSl 4 e49 (subL x20 0 y5.length))),(aI y1.2.2.2.2.2.2.2.2.2.2),(.d (eSl 3 e69 y3))]))],[],1348⟩) [(690,4,y5.length,(cF e49 x20)),(691,3,y3.length,(cF e69 y3))] (by rfl) (by rfl) (by kernel_rfl) (by kernel_rfl) (by exact⟨(rowIs_vec (e:=49) rfl),(rowIs_vec (e:=69) rfl)⟩) (by exact .inr ⟨_,_,rfl,rfl,(.vec (.head _) de_sub0 (.same (.vec (.tail _ (.head _)) dr .nil)))⟩) (by exact⟨(.same .nil),(.same .nil)⟩)),⟨dr,dr,trivial⟩⟩))))))))
noncomputable def m6 (a0:List T39) (a1:List T54) (a2 a3:List UInt8):Option (T31×Int):=(d6 a0 a1 a2 a3).m
theorem p6 {a0:List T39} {a1:List T54} {a2:List UInt8} {a3:List UInt8} {r:T31×Int} (h:m6 a0 a1 a2 a3=some r):PureAt Try.prog 6 [(eSl 2 e39 a0),(eSl 7 e54 a1),(.str a2),(.str a3)] (.tup [(e31 r.1),(dI r.2)]):=pure_jd (d6 a0 a1 a2 a3) Try.func6 h
noncomputable def d8 (a0:List T39) (a1:List UInt8):JF Try.prog Try.f8 [(eSl 2 e39 a0),(.str a1)] (fun(r:(List T49)×Int)=>(.tup [(eSl 4 e49 r.1),(dI r.2)])) :=
 (.sg [(1,tm1 8 dI),(4,tm1 14 (eSl 4 e49))] [(1,[4,5],[])] (c3 (@p24 a0) fun x1=>(.ite (x1 != 0) (.ret .ret ⟨[(4,aN),(5,(aI x1))],[],[],176⟩ ([],x1) ⟨rfl,_,Weak.refl _,⟨de_nil,dr,trivial⟩⟩) (c3 (@p25 a0 a1) fun x4=>(.ret .ret ⟨[(4,(.d (eSl 4 e49 x4))),(5,(aI 0))],[],[],208⟩ (x4,(0:Int)) ⟨rfl,_,Weak.refl _,⟨dr,dr,trivial⟩⟩)))))
noncomputable def m8 (a0:List T39) (a1:List UInt8):Option ((List T49)×Int):=(d8 a0 a1).m
theorem p8 {a0:List T39} {a1:List UInt8} {r:(List T49)×Int} (h:m8 a0 a1=some r):PureAt Try.prog 8 [(eSl 2 e39 a0),(.str a1)] (.tup [(eSl 4 e49 r.1),(dI r.2)]):=pure_jd (d8 a0 a1) Try.func8 h
noncomputable def q27o0 (a0:T54) (a1:List UInt8) (y:Bool):OF:=⟨(aB y),[(0,(.cells [(aS a1)]))],[]⟩
noncomputable def d27o0 (a0:T54) (a1:List UInt8):JO Try.prog Try.f27 [(.d (e54 a0)),(.ptr 0 0)] [(0,(.cells [(aS a1)]))] [] (q27o0 a0 a1) :=
 (.sg [(1,tm1 5 D.str)] [(1,[1,3],[0])] (c3 (@p28 a0) fun x1=>(.ret .ret ⟨[(1,(.ptr 0 0)),(3,(aB (x1==a1)))],[(0,(.cells [(aS a1)]))],[],128⟩ (x1==a1) ⟨rfl,(rk [(0,0)] [] 128)⟩)))
noncomputable def m27o0 (a0:T54) (a1:List UInt8):Option (Bool):=(d27o0 a0 a1).m
theorem po27o0 {a0:T54} {a1:List UInt8} {r:Bool} (h:m27o0 a0 a1=some r):ObjF Try.prog 27 [(.d (e54 a0)),(.ptr 0 0)] [(0,(.cells [(aS a1)]))] [] (q27o0 a0 a1 r):=obj_jd (d27o0 a0 a1) Try.func27 h
noncomputable def q26o0 (a0:List T54) (a1:List UInt8) (y:Int):OF:=⟨(aI y),[(0,(.cells [(aS a1)]))],[]⟩
noncomputable def d26o0 (a0:List T54) (a1:List UInt8):JO Try.prog Try.f26 [(.d (eSl 7 e54 a0)),(.fn 27 [(.ptr 0 0)])] [(0,(.cells [(aS a1)]))] [] (q26o0 a0 a1) :=
 (.sq 1 [] [(0,[0,1],[0])] (fun(_:Unit)=>⟨[(0,(.d (eSl 7 e54 a0))),(1,(.fn 27 [(.ptr 0 0)]))],[(0,(.cells [(aS a1)]))],[],32⟩) (.nx ()) (fun _=>(.sc (fun(_:Unit)=>⟨[(1,(.fn 27 [(.ptr 0 0)]))],[(0,(.cells [(aS a1)]))],[],272⟩) (.sq 1 [] [(0,[0,1,7,8],[0])] (fun(_:Unit)=>⟨[(0,(.d (eSl 7 e54 a0))),(1,(.fn 27 [(.ptr 0 0)])),(7,(aI (a0.length:Int))),(8,(aI 0))],[(0,(.cells [(aS a1)]))],[],80⟩) (.nx ()) (fun _=>(.bk (.lp (fun(s1:Int)=>⟨[(0,(.d (eSl 7 e54 a0))),(1,(.fn 27 [(.ptr 0 0)])),(7,(aI (a0.length:Int))),(8,(aI s1))],[(0,(.cells [(aS a1)]))],[],256⟩) (0:Int) (wk [(0,0)] []) fun s1=>(.sg [(4,⟨Bool,fun x=>[],fun x=>[(384,⟨(aB x),[0],[],[(0,(.cells [(aS a1)]))],[]⟩)],[]⟩)] [(1,[1,4],[0]),(0,[0,1,7,8],[0]),(2,[1],[0])] (.ite (decide (s1 < (a0.length:Int))) (.exi (Bool) (if 0≤s1 then(if s1 < (a0.length:Int)then((m27o0 (a0.getD s1.toNat default) a1).bind fun r4_0=>some r4_0)else none)else none) (fun x4=>(.p (0≤s1) (.p (s1 < (a0.length:Int)) (.p (ObjL Try.prog 27 [(.d (.agg [(.str (a0.getD s1.toNat default).Ident),(.str (a0.getD s1.toNat default).Region),(.int .u8 (a0.getD s1.toNat default).Kind),(dI (a0.getD s1.toNat default).Pos.Lat),(dI (a0.getD s1.toNat default).Pos.Lon),(dI (a0.getD s1.toNat default).Elev),(dI (a0.getD s1.toNat default).Range)])),(.ptr 0 0)] [(0,some (.cells [(aS a1)]))] 384 ⟨(aB x4),[0],[],[(0,(.cells [(aS a1)]))],[]⟩) (.fin 0))))) (by intro x4 h;obtain⟨h1,h⟩:=if_some h;obtain⟨h2,h⟩:=if_some h;obtain⟨r4_0,h3,h⟩:=Option.bind_eq_some_iff.1 h;cases h;exact⟨h1,h2,ok [(0,0)] [] [(0,0)] [] (po27o0 h3),trivial⟩) (fun x4 _=>(.ite x4 (.ret .ret ⟨[(1,(.fn 27 [(.ptr 0 0)])),(4,(aI s1))],[(0,(.cells [(aS a1)]))],[],432⟩ (.inr (.inr (s1))) ⟨rfl,rfl,rfl,(rk [(0,0)] [] 432)⟩) (.ret .normal ⟨[(0,(.d (eSl 7 e54 a0))),(1,(.fn 27 [(.ptr 0 0)])),(7,(aI (a0.length:Int))),(8,(aI (IntKind.wrap .i64 (s1+1))))],[(0,(.cells [(aS a1)]))],[],432⟩ (.inl (IntKind.wrap .i64 (s1+1))) ⟨rfl,(wk [(0,0)] [])⟩)))) (.ret (.exit 0) _ (.inr (.inl ())) ⟨rfl,rfl,Weak.refl _⟩))))))) fun _=>(.sg [] [(1,[1,4],[0])] (.ret .ret ⟨[(1,(.fn 27 [(.ptr 0 0)])),(4,(aI (-1)))],[(0,(.cells [(aS a1)]))],[],288⟩ (-1:Int) ⟨rfl,(rk [(0,0)] [] 432)⟩)))))
noncomputable def m26o0 (a0:List T54) (a1:List UInt8):Option (Int):=(d26o0 a0 a1).m
theorem po26o0 {a0:List T54} {a1:List UInt8} {r:Int} (h:m26o0 a0 a1=some r):ObjF Try.prog 26 [(.d (eSl 7 e54 a0)),(.fn 27 [(.ptr 0 0)])] [(0,(.cells [(aS a1)]))] [] (q26o0 a0 a1 r):=obj_jd (d26o0 a0 a1) Try.func26 h
noncomputable def d9 (a0:List T54) (a1:List UInt8):JF Try.prog Try.f9 [(eSl 7 e54 a0),(.str a1)] (fun(r:T54×Bool)=>(.tup [(e54 r.1),(.bool r.2)])) :=
 (.sg [(1,⟨Int,fun x=>[],fun x=>[(96,⟨(aI x),[16],[],[(16,(.cells [(aS a1)]))],[]⟩)],[]⟩)] [(1,[4,5],[32])] (c3 (p:=fun x1=>ObjL Try.prog 26 [(.d (eSl 7 e54 a0)),(.fn 27 [(.ptr 16 0)])] [(16,some (.cells [(aS a1)]))] 96 ⟨(aI x1),[16],[],[(16,(.cells [(aS a1)]))],[]⟩) (fun x1 (h1:m26o0 a0 a1=some _)=>ok [(0,16)] [] [(16,0)] [] (po26o0 h1)) fun x1=>(.ite (decide (x1 < 0)) (.ret .ret ⟨[(4,(.ptr 32 0)),(5,(aB false))],[(32,(.cells [(aS ([]:List UInt8)),(aS ([]:List UInt8)),(.d (.int .u8 0)),(aI 0),(aI 0),(aI 0),(aI 0)]))],[],208⟩ ((⟨([]:List UInt8),([]:List UInt8),(0:Int),(⟨(0:Int),(0:Int)⟩:T52),(0:Int),(0:Int)⟩:T54),false) ⟨rfl,_,Weak.refl _,⟨dr,dr,trivial⟩⟩) (nd (0≤x1) (nd (x1 < (a0.length:Int)) (.ret .ret ⟨[(4,(.ptr 32 0)),(5,(aB true))],[(32,(.cells [(aS (a0.getD x1.toNat default).Ident),(aS (a0.getD x1.toNat default).Region),(.d (.int .u8 (a0.getD x1.toNat default).Kind)),(aI (a0.getD x1.toNat default).Pos.Lat),(aI (a0.getD x1.toNat default).Pos.Lon),(aI (a0.getD x1.toNat default).Elev),(aI (a0.getD x1.toNat default).Range)]))],[],256⟩ ((a0.getD x1.toNat default),true) ⟨rfl,_,Weak.refl _,⟨dr,dr,trivial⟩⟩))))))
noncomputable def m9 (a0:List T54) (a1:List UInt8):Option (T54×Bool):=(d9 a0 a1).m
theorem p9 {a0:List T54} {a1:List UInt8} {r:T54×Bool} (h:m9 a0 a1=some r):PureAt Try.prog 9 [(eSl 7 e54 a0),(.str a1)] (.tup [(e54 r.1),(.bool r.2)]):=pure_jd (d9 a0 a1) Try.func9 h
noncomputable def d13 (a0:List T69) (a1:List UInt8):JF Try.prog Try.f13 [(eSl 3 e69 a0),(.str a1)] (fun(r:Int)=>(dI r)) :=
 (.sq 1 [] [(0,[0,1],[])] (fun(_:Unit)=>⟨[(0,(.d (eSl 3 e69 a0))),(1,(aS a1))],[],[],32⟩) (.nx ()) (fun _=>(.sc (fun(_:Unit)=>⟨[],[],[],304⟩) (.sq 1 [] [(0,[1,7,8,9],[])] (fun(_:Unit)=>⟨[(1,(aS a1)),(7,(.d (eSl 3 e69 a0))),(8,(aI (a0.length:Int))),(9,(aI 0))],[],[],80⟩) (.nx ()) (fun _=>(.bk (.lp (fun(s1:Int)=>⟨[(1,(aS a1)),(7,(.d (eSl 3 e69 a0))),(8,(aI (a0.length:Int))),(9,(aI s1))],[],[],288⟩) (0:Int) (wk [] []) fun s1=>(.sg [] [(1,[4],[]),(0,[1,7,8,9],[]),(2,[],[])] (.ite (decide (s1 < (a0.length:Int))) (nd (0≤s1) (nd (s1 < (a0.length:Int)) (.ite ((a0.getD s1.toNat default).Ref==a1) (.ret .ret ⟨[(4,(aI s1))],[],[],496⟩ (.inr (.inr (s1))) ⟨rfl,rfl,rfl,_,Weak.refl _,dr⟩) (.ret .normal ⟨[(1,(aS a1)),(7,(.d (eSl 3 e69 a0))),(8,(aI (a0.length:Int))),(9,(aI (IntKind.wrap .i64 (s1+1))))],[],[],496⟩ (.inl (IntKind.wrap .i64 (s1+1))) ⟨rfl,(wk [] [])⟩)))) (.ret (.exit 0) _ (.inr (.inl ())) ⟨rfl,rfl,Weak.refl _⟩))))))) fun _=>(.sg [] [(1,[4],[])] (.ret .ret ⟨[(4,(aI (-1)))],[],[],320⟩ (-1:Int) ⟨rfl,_,Weak.refl _,dr⟩)))))
noncomputable def m13 (a0:List T69) (a1:List UInt8):Option (Int):=(d13 a0 a1).m
theorem p13 {a0:List T69} {a1:List UInt8} {r:Int} (h:m13 a0 a1=some r):PureAt Try.prog 13 [(eSl 3 e69 a0),(.str a1)] (dI r):=pure_jd (d13 a0 a1) Try.func13 h
noncomputable abbrev z4_0 (y1:(List Int)×Nat×(List T49)×Int×(List T69)×Int):Ob:=(.cells [(.d (eSl 4 e49 y1.2.2.1)),(aI y1.2.2.2.1),(.d (eSl 3 e69 y1.2.2.2.2.1))])
noncomputable abbrev z4_1 (a0:List T39) (a1:List T54) (s2:(List Int)×Int×(List T72)) (y1:(List Int)×Nat×(List T49)×Int×(List T69)×Int):List (Nat×AV):=[(0,(.d (eSl 2 e39 a0))),(1,(.d (eSl 7 e54 a1))),(5,(.ptr 16 0)),(7,(.ptr 240 0)),(9,(.ptr 384 0)),(10,(.arr 464 1 y1.2.1)),(63,(.d (eSl 3 e69 y1.2.2.2.2.1))),(64,(aI (y1.2.2.2.2.1.length:Int))),(65,(aI s2.2.1))]
noncomputable abbrev z4_2 (s2:(List Int)×Int×(List T72)) (y1:(List Int)×Nat×(List T49)×Int×(List T69)×Int):Ob:=(.cells [(aS (y1.2.2.2.2.1.getD s2.2.1.toNat default).Ref),(aI (y1.2.2.2.2.1.getD s2.2.1.toNat default).Length),(aI (y1.2.2.2.2.1.getD s2.2.1.toNat default).Hops)])
noncomputable abbrev z4_3 (y1:(List Int)×Nat×(List T49)×Int×(List T69)×Int) (y6:(List Int)×(List T72)):Ob:=(.cells [(aI y1.2.2.2.2.2),(.vec 560 3 y6.2.length)])
noncomputable abbrev z4_4 (a0:List T39) (a1:List T54) (y1:(List Int)×Nat×(List T49)×Int×(List T69)×Int):List (Nat×AV):=[(0,(.d (eSl 2 e39 a0))),(1,(.d (eSl 7 e54 a1))),(5,(.ptr 16 0)),(7,(.ptr 240 0)),(9,(.ptr 384 0)),(10,(.arr 464 1 y1.2.1)),(63,(.d (eSl 3 e69 y1.2.2.2.2.1))),(64,(aI (y1.2.2.2.2.1.length:Int))),(65,(aI 0))]
noncomputable def o4_0 (y6:(List Int)×(List T72)) (x:(Int×(List Int)×(List Int))):OT:=⟨(.tup [(.d (eSl 1 dI x.2.2)),(.d (eSl 1 dI x.2.1)),(aI x.1)]),[560],[],[(560,(.vec 72 3 y6.2.length (cF e72 y6.2)))],[]⟩
noncomputable def o4_1 (y10:(List T72)) (x:(Int×(List Int)×(List Int))):OT:=⟨(.tup [(.d (eSl 1 dI x.2.2)),(.d (eSl 1 dI x.2.1)),(aI x.1)]),[560],[],[(560,(.vec 72 3 y10.length (cF e72 y10)))],[]⟩
noncomputable def d4 (a0:List T39) (a1:List T54) (a2:T63):JF Try.prog Try.f4 [(eSl 2 e39 a0),(eSl 7 e54 a1),(e63 a2)] (fun(r:Bool)=>(.bool r)) :=
 (.sq 6 [(1,tm1 36 D.bool),(3,tm1 45 (fun(x:(T31×Int))=>(.tup [(e31 x.1),(dI x.2)])))] [(1,[6],[]),(0,[0,1,5,7,9,10],[464,16,240,384])] (fun(y1:(List Int)×Nat×(List T49)×Int×(List T69)×Int)=>⟨[(0,(.d (eSl 2 e39 a0))),(1,(.d (eSl 7 e54 a1))),(5,(.ptr 16 0)),(7,(.ptr 240 0)),(9,(.ptr 384 0)),(10,(.arr 464 1 y1.2.1))],[(464,(.arr 1 y1.2.1 (cF dI y1.1))),(16,(.cells (g63 a2))),(240,(z4_0 y1)),(384,(.cells [(aI y1.2.2.2.2.2),aN]))],[],496⟩) (c3 (@p12) fun x1=>(.ite (!x1) (.ret .ret ⟨[(6,(aB false))],[],[],96⟩ (.inr (false)) ⟨rfl,rfl,_,Weak.refl _,dr⟩) (c3 (@p6 a0 a1 a2.From a2.To) fun x3=>(.ite (x3.2 != 0) (.ret .ret ⟨[(6,(aB ((x3.1.Labels.length:Int)==(0:Int))))],[],[],400⟩ (.inr (((x3.1.Labels.length:Int)==(0:Int)))) ⟨rfl,rfl,_,Weak.refl _,dr⟩) (nd (0≤(x3.1.Labels.length:Int)) (nd ((x3.1.Labels.length:Int)=(x3.1.Labels.length:Int)) (nd ((x3.1.Labels.length:Int) * 8≤140737488355328) (nd ((x3.1.Labels.length:Int)≤9223372036854775807) (.ret .normal ⟨[(0,(.d (eSl 2 e39 a0))),(1,(.d (eSl 7 e54 a1))),(5,(.ptr 16 0)),(7,(.ptr 240 0)),(9,(.ptr 384 0)),(10,(.arr 464 1 (x3.1.Labels.length:Int).toNat))],[(464,(.arr 1 (x3.1.Labels.length:Int).toNat (fun _=>(dI 0)))),(16,(.cells (g63 a2))),(240,(.cells (g31 x3.1))),(384,(.cells [(aI (x3.1.Labels.length:Int)),aN]))],[],496⟩ (.inl ((List.replicate (x3.1.Labels.length:Int).toNat (0:Int)),(x3.1.Labels.length:Int).toNat,x3.1.Hops,x3.1.Length,x3.1.Labels,(x3.1.Labels.length:Int))) ⟨rfl,(ws (idn [16,240,384,464]) [] ⟨⟨_,_,rfl,rfl,⟨rfl,(de_keep de_rep)⟩⟩,⟨_,_,rfl,rfl,⟨dr,dr,dr,trivial⟩⟩,⟨_,_,rfl,rfl,⟨dr,dr,dr,trivial⟩⟩,⟨_,_,rfl,rfl,⟨dr,rfl,trivial⟩⟩⟩)⟩))))))))) (fun y1=>(.sc (fun(y6:(List Int)×(List T72))=>⟨[(5,(.ptr 16 0)),(7,(.ptr 240 0)),(9,(.ptr 384 0)),(10,(.arr 464 1 y1.2.1))],[(464,(.arr 1 y1.2.1 (cF dI y6.1))),(16,(.cells (g63 a2))),(240,(z4_0 y1)),(560,(.vec 72 3 y6.2.length (cF e72 y6.2))),(384,(z4_3 y1 y6))],[],1905⟩) (.sq 1 [] [(0,[0,1,5,7,9,10,63,64,65],[464,16,240,384])] (fun(_:Unit)=>⟨(z4_4 a0 a1 y1),[(464,(.arr 1 y1.2.1 (cF dI y1.1))),(16,(.cells (g63 a2))),(240,(z4_0 y1)),(384,(.cells [(aI y1.2.2.2.2.2),aN]))],[],560⟩) (.nx ()) (fun _=>(.bk (.lp (fun(s2:(List Int)×Int×(List T72))=>⟨(z4_1 a0 a1 s2 y1),[(464,(.arr 1 y1.2.1 (cF dI s2.1))),(16,(.cells (g63 a2))),(240,(z4_0 y1)),(560,(.vec 72 3 s2.2.2.length (cF e72 s2.2.2))),(384,(.cells [(aI y1.2.2.2.2.2),(.vec 560 3 s2.2.2.length)]))],[],1889⟩) (y1.1,(0:Int),([]:List T72)) (Weak.trans (weak_vec (st:=_) (st':=⟨(z4_4 a0 a1 y1),[(560,(.vec 72 3 0 (fun _=>.bad))),(16,(.cells (g63 a2))),(240,(z4_0 y1)),(384,(.cells [(aI y1.2.2.2.2.2),(.vec 560 3 0)])),(464,(.arr 1 y1.2.1 (cF dI y1.1)))],[],561⟩) [(560,72,3,fun _=>.bad)] [(16,(.cells (g63 a2))),(240,(z4_0 y1)),(384,(.cells [(aI y1.2.2.2.2.2),(.vec 560 3 0)])),(464,(.arr 1 y1.2.1 (cF dI y1.1)))] rfl rfl (Nat.le_of_ble_eq_true rfl) (by kernel_rfl) (by kernel_rfl) (by kernel_rfl) (by exact⟨.inl rfl,.inl rfl,.inr ⟨_,_,rfl,rfl,(.same (.vec (.head _) .nil))⟩,.inl rfl⟩) (by exact⟨(.same .nil),(.same .nil),(.same .nil),(.same .nil),(.same .nil),(.same .nil),(.same .nil),(.same .nil),(.same .nil)⟩)) (by exact(ws (idn [16,240,384,464,560]) [] ⟨⟨_,_,rfl,rfl,⟨rfl,dr⟩⟩,⟨_,_,rfl,rfl,⟨dr,dr,dr,trivial⟩⟩,⟨_,_,rfl,rfl,⟨dr,dr,dr,trivial⟩⟩,⟨_,_,rfl,rfl,⟨rfl,rfl,de_nil⟩⟩,⟨_,_,rfl,rfl,⟨dr,⟨rfl,rfl,(len_of (sz:=3) (e:=e72) (f:=(fun _=>.bad)) (l:=([]:List T72)) de_nil)⟩,trivial⟩⟩⟩))) fun s2=>(.sq 2 [] [(0,[0,1,5,7,9,10,63,64,65],[464,16,240,560,384]),(2,[5,7,9,10],[464,16,240,560,384])] (fun(_:Unit)=>⟨(z4_1 a0 a1 s2 y1),[(464,(.arr 1 y1.2.1 (cF dI s2.1))),(16,(.cells (g63 a2))),(240,(z4_0 y1)),(560,(.vec 72 3 s2.2.2.length (cF e72 s2.2.2))),(384,(.cells [(aI y1.2.2.2.2.2),(.vec 560 3 s2.2.2.length)]))],[],1905⟩) (.ite (decide (s2.2.1 < (y1.2.2.2.2.1.length:Int))) (.nx ()) (.ret (.exit 0) _ (.inr (.inr (.inl (s2.1,s2.2.2)))) ⟨rfl,rfl,rfl,Weak.refl _⟩)) (fun _=>(.sc (fun(y5:(List T72))=>⟨(z4_1 a0 a1 s2 y1),[(464,(.arr 1 y1.2.1 (fun k=>if k=s2.2.1.toNat then(dI (y1.2.2.2.2.1.getD s2.2.1.toNat default).Length)else(cF dI s2.1) k))),(16,(.cells (g63 a2))),(240,(z4_0 y1)),(560,(.vec 72 3 y5.length (cF e72 y5))),(384,(.cells [(aI y1.2.2.2.2.2),(.vec 560 3 y5.length)]))],[],3185⟩) (.bk (.sq 5 [(12,tm1 79 (fun(x:((List T49)×Int))=>(.tup [(eSl 4 e49 x.1),(dI x.2)])))] [(1,[6],[]),(0,[0,1,5,7,9,10,11,12,63,64,65,84,85,86],[464,16,240,560,384,1953])] (fun(y3:(List T49)×Int)=>⟨[(0,(.d (eSl 2 e39 a0))),(1,(.d (eSl 7 e54 a1))),(5,(.ptr 16 0)),(7,(.ptr 240 0)),(9,(.ptr 384 0)),(10,(.arr 464 1 y1.2.1)),(11,(aI s2.2.1)),(12,(.ptr 1953 0)),(63,(.d (eSl 3 e69 y1.2.2.2.2.1))),(64,(aI (y1.2.2.2.2.1.length:Int))),(65,(aI s2.2.1)),(84,(.d (eSl 4 e49 y3.1))),(85,(aI y3.2)),(86,(aI 0))],[(464,(.arr 1 y1.2.1 (fun k=>if k=s2.2.1.toNat then(dI (y1.2.2.2.2.1.getD s2.2.1.toNat default).Length)else(cF dI s2.1) k))),(16,(.cells (g63 a2))),(240,(z4_0 y1)),(560,(.vec 72 3 s2.2.2.length (cF e72 s2.2.2))),(384,(.cells [(aI y1.2.2.2.2.2),(.vec 560 3 s2.2.2.length)])),(1953,(z4_2 s2 y1))],[],2321⟩) (nd (0≤s2.2.1) (nd (s2.2.1 < (y1.2.2.2.2.1.length:Int)) (nd (0≤s2.2.1) (nd (s2.2.1 < (y1.2.1:Int)) (nd (s2.2.1.toNat < y1.2.1) (c3 (@p8 a0 (y1.2.2.2.2.1.getD s2.2.1.toNat default).Ref) fun x12=>(.ite (x12.2 != 0) (.ret .ret ⟨[(6,(aB false))],[],[],2289⟩ (.inr (.inr (.inr (.inr (false))))) ⟨rfl,rfl,rfl,rfl,rfl,_,Weak.refl _,dr⟩) (.nx (x12.1,(x12.1.length:Int)))))))))) (fun y3=>(.bk (.lp (fun(s4:Int×(List T72))=>⟨[(0,(.d (eSl 2 e39 a0))),(1,(.d (eSl 7 e54 a1))),(5,(.ptr 16 0)),(7,(.ptr 240 0)),(9,(.ptr 384 0)),(10,(.arr 464 1 y1.2.1)),(11,(aI s2.2.1)),(12,(.ptr 1953 0)),(63,(.d (eSl 3 e69 y1.2.2.2.2.1))),(64,(aI (y1.2.2.2.2.1.length:Int))),(65,(aI s2.2.1)),(84,(.d (eSl 4 e49 y3.1))),(85,(aI y3.2)),(86,(aI s4.1))],[(464,(.arr 1 y1.2.1 (fun k=>if k=s2.2.1.toNat then(dI (y1.2.2.2.2.1.getD s2.2.1.toNat default).Length)else(cF dI s2.1) k))),(16,(.cells (g63 a2))),(240,(z4_0 y1)),(560,(.vec 72 3 s4.2.length (cF e72 s4.2))),(384,(.cells [(aI y1.2.2.2.2.2),(.vec 560 3 s4.2.length)])),(1953,(z4_2 s2 y1))],[],3169⟩) ((0:Int),s2.2.2) (wk (idn [16,240,384,464,1953,560]) []) fun s4=>(.sg [(18,tm1 94 (fun(x:(T54×Bool))=>(.tup [(e54 x.1),(.bool x.2)]))),(19,tm1 101 (fun(x:(T54×Bool))=>(.tup [(e54 x.1),(.bool x.2)]))),(20,tm1 109 (fun(x:(Int×Int))=>(.tup [(dI x.1),(dI x.2)]))),(23,⟨Int,fun x=>[(121,(dI x))],fun x=>[],[1762,2610,3090,3938]⟩)] [(1,[6],[]),(0,[0,1,5,7,9,10,11,12,63,64,65,84,85,86],[16,240,384,3937,464,1953]),(4,[0,1,5,7,9,10,63,64,65],[464,16,240,560,384])] (.ite (decide (s4.1 < y3.2)) (nd (0≤s4.1) (nd (s4.1 < (y3.1.length:Int)) (c3 (@p9 a1 (y1.2.2.2.2.1.getD s2.2.1.toNat default).Ref) fun x18=>(c3 (@p9 a1 (y3.1.getD s4.1.toNat default).To) fun x19=>(c3 (@p10 x18.1.Pos x19.1.Pos) fun x20=>(.ite (x20.2 != 0) (.ret .ret ⟨[(6,(aB false))],[],[],3777⟩ (.inr (.inr (.inr (.inr (false))))) ⟨rfl,rfl,rfl,rfl,rfl,_,Weak.refl _,dr⟩) (.exi (Int) ((m13 y1.2.2.2.2.1 (y3.1.getD s4.1.toNat default).To).bind fun r23_0=>(if(s4.2.length+1) * 24≤140737488355328 then some r23_0 else none)) (fun x23=>(.p (PureAt Try.prog 13 [(eSl 3 e69 y1.2.2.2.2.1),(.str (y3.1.getD s4.1.toNat default).To)] (dI x23)) (.p ((s4.2.length+1) * 24≤140737488355328) (.fin 0)))) (by intro x23 h;obtain⟨r23_0,h1,h⟩:=Option.bind_eq_some_iff.1 h;obtain⟨h2,h⟩:=if_some h;cases h;exact⟨p13 h1,h2,trivial⟩) (fun x23 _=>(.ret .normal ⟨[(0,(.d (eSl 2 e39 a0))),(1,(.d (eSl 7 e54 a1))),(5,(.ptr 16 0)),(7,(.ptr 240 0)),(9,(.ptr 384 0)),(10,(.arr 464 1 y1.2.1)),(11,(aI s2.2.1)),(12,(.ptr 1953 0)),(63,(.d (eSl 3 e69 y1.2.2.2.2.1))),(64,(aI (y1.2.2.2.2.1.length:Int))),(65,(aI s2.2.1)),(84,(.d (eSl 4 e49 y3.1))),(85,(aI y3.2)),(86,(aI (IntKind.wrap .i64 (s4.1+1))))],[(16,(.cells (g63 a2))),(240,(z4_0 y1)),(384,(.cells [(aI y1.2.2.2.2.2),(.vec 3937 3 (s4.2.length+1))])),(3937,(.vec 72 3 (s4.2.length+1) (appF s4.2.length (cF e72 s4.2) (litF [(.agg [(dI s2.2.1),(dI x23),(dI x20.1)])])))),(464,(.arr 1 y1.2.1 (fun k=>if k=s2.2.1.toNat then(dI (y1.2.2.2.2.1.getD s2.2.1.toNat default).Length)else(cF dI s2.1) k))),(1953,(z4_2 s2 y1))],[3921],4017⟩ (.inl ((IntKind.wrap .i64 (s4.1+1)),(s4.2++([(⟨s2.2.1,x23,x20.1⟩:T72)]:List T72)))) ⟨rfl,(ws [(16,16),(240,240),(384,384),(464,464),(1953,1953),(560,3937)] [] ⟨⟨_,_,rfl,rfl,⟨rfl,dr⟩⟩,⟨_,_,rfl,rfl,⟨dr,dr,dr,trivial⟩⟩,⟨_,_,rfl,rfl,⟨dr,dr,dr,trivial⟩⟩,⟨_,_,rfl,rfl,⟨rfl,rfl,(de_app dr (de_lit rfl rfl))⟩⟩,⟨_,_,rfl,rfl,⟨dr,⟨rfl,rfl,(len_of (sz:=3) (e:=e72) (f:=(appF s4.2.length (cF e72 s4.2) (litF [(.agg [(dI s2.2.1),(dI x23),(dI x20.1)])]))) (l:=(s4.2++([(⟨s2.2.1,x23,x20.1⟩:T72)]:List T72))) (de_app dr (de_lit rfl rfl)))⟩,trivial⟩⟩,⟨_,_,rfl,rfl,⟨dr,dr,dr,trivial⟩⟩⟩)⟩))))))))) (.ret (.exit 2) _ (.inr (.inl s4.2)) ⟨rfl,rfl,Weak.refl _⟩)))))))) fun y5=>(.sg [] [(0,[0,1,5,7,9,10,63,64,65],[464,16,240,560,384])] (.ret .normal ⟨[(0,(.d (eSl 2 e39 a0))),(1,(.d (eSl 7 e54 a1))),(5,(.ptr 16 0)),(7,(.ptr 240 0)),(9,(.ptr 384 0)),(10,(.arr 464 1 y1.2.1)),(63,(.d (eSl 3 e69 y1.2.2.2.2.1))),(64,(aI (y1.2.2.2.2.1.length:Int))),(65,(aI (IntKind.wrap .i64 (s2.2.1+1))))],[(464,(.arr 1 y1.2.1 (fun k=>if k=s2.2.1.toNat then(dI (y1.2.2.2.2.1.getD s2.2.1.toNat default).Length)else(cF dI s2.1) k))),(16,(.cells (g63 a2))),(240,(z4_0 y1)),(560,(.vec 72 3 y5.length (cF e72 y5))),(384,(.cells [(aI y1.2.2.2.2.2),(.vec 560 3 y5.length)]))],[],3217⟩ (.inl (((subL s2.1 0 y1.2.1).set s2.2.1.toNat (y1.2.2.2.2.1.getD s2.2.1.toNat default).Length),(IntKind.wrap .i64 (s2.2.1+1)),y5)) ⟨rfl,(ws (idn [16,240,384,464,560]) [] ⟨⟨_,_,rfl,rfl,⟨rfl,(de_keep (de_set de_sub0))⟩⟩,⟨_,_,rfl,rfl,⟨dr,dr,dr,trivial⟩⟩,⟨_,_,rfl,rfl,⟨dr,dr,dr,trivial⟩⟩,⟨_,_,rfl,rfl,⟨rfl,rfl,dr⟩⟩,⟨_,_,rfl,rfl,⟨dr,⟨rfl,rfl,rfl⟩,trivial⟩⟩⟩)⟩))))))))) fun y6=>(.sq 3 [(26,⟨Int×Int,fun x=>[(133,(dI x.1)),(138,(dI x.2))],fun x=>[],[]⟩),(27,⟨(Int×(List Int)×(List Int)),fun x=>[],fun x=>[(2145,(o4_0 y6 x))],[]⟩)] [(1,[6],[]),(0,[5,7,9,10,23,24,26],[464,16,240,560,384])] (fun(y7:Int×Int×(List Int))=>⟨[(5,(.ptr 16 0)),(7,(.ptr 240 0)),(9,(.ptr 384 0)),(10,(.arr 464 1 y1.2.1)),(23,(aI y7.1)),(24,(aI y7.2.1)),(26,(.d (eSl 1 dI y7.2.2)))],[(464,(.arr 1 y1.2.1 (cF dI y6.1))),(16,(.cells (g63 a2))),(240,(z4_0 y1)),(560,(.vec 72 3 y6.2.length (cF e72 y6.2))),(384,(z4_3 y1 y6))],[],2417⟩) (.exi (Int×Int) ((m13 y1.2.2.2.2.1 a2.From).bind fun r26_0=>((m13 y1.2.2.2.2.1 a2.To).bind fun r26_1=>some (r26_0,r26_1))) (fun x26=>(.p (PureAt Try.prog 13 [(eSl 3 e69 y1.2.2.2.2.1),(.str a2.From)] (dI x26.1)) (.p (PureAt Try.prog 13 [(eSl 3 e69 y1.2.2.2.2.1),(.str a2.To)] (dI x26.2)) (.fin 0)))) (by intro x26 h;obtain⟨r26_0,h1,h⟩:=Option.bind_eq_some_iff.1 h;obtain⟨r26_1,h2,h⟩:=Option.bind_eq_some_iff.1 h;cases h;exact⟨p13 h1,p13 h2,trivial⟩) (fun x26 _=>(c3 (p:=fun x27=>ObjL Try.prog 14 [(.agg [(aI y1.2.2.2.2.2),(.vec 560 3 y6.2.length)]),(aI x26.1),(aI x26.2)] [(560,some (.vec 72 3 y6.2.length (cF e72 y6.2)))] 2145 (o4_0 y6 x27)) (fun x27 (h1:m14o0 y1.2.2.2.2.2 y6.2 x26.1 x26.2=some _)=>ok [(0,560)] [] [(560,0)] [] (po14o0 h1)) fun x27=>(.ite ((x27.1 != 0) || ((x27.2.1.length:Int) != y1.2.2.2.2.2)) (.ret .ret ⟨[(6,(aB false))],[],[],2433⟩ (.inr (false)) ⟨rfl,rfl,_,Weak.refl _,dr⟩) (.nx (x26.1,x26.2,x27.2.1)))))) (fun y7=>(.sc (fun(_:Unit)=>⟨[(5,(.ptr 16 0)),(7,(.ptr 240 0)),(9,(.ptr 384 0)),(10,(.arr 464 1 y1.2.1)),(23,(aI y7.1)),(24,(aI y7.2.1))],[(464,(.arr 1 y1.2.1 (cF dI y6.1))),(16,(.cells (g63 a2))),(240,(z4_0 y1)),(560,(.vec 72 3 y6.2.length (cF e72 y6.2))),(384,(z4_3 y1 y6))],[],2705⟩) (.sq 1 [] [(0,[5,7,9,10,23,24,26,157,158],[464,16,240,560,384])] (fun(_:Unit)=>⟨[(5,(.ptr 16 0)),(7,(.ptr 240 0)),(9,(.ptr 384 0)),(10,(.arr 464 1 y1.2.1)),(23,(aI y7.1)),(24,(aI y7.2.1)),(26,(.d (eSl 1 dI y7.2.2))),(157,(aI (y7.2.2.length:Int))),(158,(aI 0))],[(464,(.arr 1 y1.2.1 (cF dI y6.1))),(16,(.cells (g63 a2))),(240,(z4_0 y1)),(560,(.vec 72 3 y6.2.length (cF e72 y6.2))),(384,(z4_3 y1 y6))],[],2465⟩) (.nx ()) (fun _=>(.bk (.lp (fun(s8:Int)=>⟨[(5,(.ptr 16 0)),(7,(.ptr 240 0)),(9,(.ptr 384 0)),(10,(.arr 464 1 y1.2.1)),(23,(aI y7.1)),(24,(aI y7.2.1)),(26,(.d (eSl 1 dI y7.2.2))),(157,(aI (y7.2.2.length:Int))),(158,(aI s8))],[(464,(.arr 1 y1.2.1 (cF dI y6.1))),(16,(.cells (g63 a2))),(240,(z4_0 y1)),(560,(.vec 72 3 y6.2.length (cF e72 y6.2))),(384,(z4_3 y1 y6))],[],2689⟩) (0:Int) (wk (idn [16,240,384,464,560]) []) fun s8=>(.sg [] [(1,[6],[]),(0,[5,7,9,10,23,24,26,157,158],[464,16,240,560,384]),(6,[5,7,9,10,23,24],[464,16,240,560,384])] (.ite (decide (s8 < (y7.2.2.length:Int))) (nd (0≤s8) (nd (s8 < (y7.2.2.length:Int)) (nd (0≤s8) (nd (s8 < (y1.2.1:Int)) (nd (s8.toNat < y1.2.1) (.ite ((y7.2.2.getD s8.toNat default) != (y6.1.getD s8.toNat default)) (.ret .ret ⟨[(6,(aB false))],[],[],2897⟩ (.inr (.inr (false))) ⟨rfl,rfl,rfl,_,Weak.refl _,dr⟩) (.ret .normal ⟨[(5,(.ptr 16 0)),(7,(.ptr 240 0)),(9,(.ptr 384 0)),(10,(.arr 464 1 y1.2.1)),(23,(aI y7.1)),(24,(aI y7.2.1)),(26,(.d (eSl 1 dI y7.2.2))),(157,(aI (y7.2.2.length:Int))),(158,(aI (IntKind.wrap .i64 (s8+1))))],[(464,(.arr 1 y1.2.1 (cF dI y6.1))),(16,(.cells (g63 a2))),(240,(z4_0 y1)),(560,(.vec 72 3 y6.2.length (cF e72 y6.2))),(384,(z4_3 y1 y6))],[],2913⟩ (.inl (IntKind.wrap .i64 (s8+1))) ⟨rfl,(wk (idn [16,240,384,464,560]) [])⟩))))))) (.ret (.exit 4) _ (.inr (.inl ())) ⟨rfl,rfl,Weak.refl _⟩))))))) fun _=>(.sq 1 [(36,tm1 176 (fun(x:(Int×Int))=>(.tup [(dI x.1),(dI x.2)])))] [(1,[6],[]),(0,[5,7,9,23,24],[16,240,560,384])] (fun(_:Unit)=>⟨[(5,(.ptr 16 0)),(7,(.ptr 240 0)),(9,(.ptr 384 0)),(23,(aI y7.1)),(24,(aI y7.2.1))],[(16,(.cells (g63 a2))),(240,(z4_0 y1)),(560,(.vec 72 3 y6.2.length (cF e72 y6.2))),(384,(z4_3 y1 y6))],[],2993⟩) (.exi ((Int×Int)) (if y1.2.1=y1.2.1 then((m15 (⟨y1.2.2.2.2.2,y6.2⟩:T66) y7.1 y7.2.1 (subL y6.1 0 y1.2.1)).bind fun r36_0=>some r36_0)else none) (fun x36=>(.p (y1.2.1=y1.2.1) (.p (PureAt Try.prog 15 [(.agg [(dI y1.2.2.2.2.2),(eSl 3 e72 y6.2)]),(dI y7.1),(dI y7.2.1),(.sl 1 y1.2.1 (cF dI y6.1))] (.tup [(dI x36.1),(dI x36.2)])) (.fin 0)))) (by intro x36 h;obtain⟨h1,h⟩:=if_some h;obtain⟨r36_0,h2,h⟩:=Option.bind_eq_some_iff.1 h;cases h;exact⟨h1,pure_de (p15 h2) ⟨dr,dr,dr,de_sub0,trivial⟩,trivial⟩) (fun x36 _=>(.ite ((x36.2 != 0) || (x36.1 != y1.2.2.2.1)) (.ret .ret ⟨[(6,(aB false))],[],[],3009⟩ (.inr (false)) ⟨rfl,rfl,_,Weak.refl _,dr⟩) (.nx ())))) (fun _=>(.sc (fun(y10:(List T72))=>⟨[(7,(.ptr 240 0)),(9,(.ptr 384 0)),(23,(aI y7.1)),(24,(aI y7.2.1))],[(240,(z4_0 y1)),(560,(.vec 72 3 y10.length (cF e72 y10))),(384,(.cells [(aI y1.2.2.2.2.2),(.vec 560 3 y10.length)]))],[],3489⟩) (.sq 1 [] [(0,[5,7,9,23,24,189,190],[16,240,560,384])] (fun(_:Unit)=>⟨[(5,(.ptr 16 0)),(7,(.ptr 240 0)),(9,(.ptr 384 0)),(23,(aI y7.1)),(24,(aI y7.2.1)),(189,(aI (y6.2.length:Int))),(190,(aI 0))],[(16,(.cells (g63 a2))),(240,(z4_0 y1)),(560,(.vec 72 3 y6.2.length (cF e72 y6.2))),(384,(z4_3 y1 y6))],[],3057⟩) (.nx ()) (fun _=>(.bk (.lp (fun(s9:Int×(List T72))=>⟨[(5,(.ptr 16 0)),(7,(.ptr 240 0)),(9,(.ptr 384 0)),(23,(aI y7.1)),(24,(aI y7.2.1)),(189,(aI (y6.2.length:Int))),(190,(aI s9.1))],[(16,(.cells (g63 a2))),(240,(z4_0 y1)),(560,(.vec 72 3 s9.2.length (cF e72 s9.2))),(384,(.cells [(aI y1.2.2.2.2.2),(.vec 560 3 s9.2.length)]))],[],3473⟩) ((0:Int),y6.2) (wk (idn [16,240,384,560]) []) fun s9=>(.sg [] [(0,[5,7,9,23,24,189,190],[16,240,560,384]),(8,[7,9,23,24],[240,560,384])] (.ite (decide (s9.1 < (y6.2.length:Int))) (.ite (decide (s9.1 < (a2.More.length:Int))) (nd (0≤s9.1) (nd (s9.1 < (s9.2.length:Int)) (nd (s9.1.toNat < s9.2.length) (nd (0≤s9.1) (nd (s9.1 < (a2.More.length:Int)) (nd (0≤s9.1) (nd (s9.1 < (s9.2.length:Int)) (nd (s9.1.toNat < s9.2.length) (.ret .normal ⟨[(5,(.ptr 16 0)),(7,(.ptr 240 0)),(9,(.ptr 384 0)),(23,(aI y7.1)),(24,(aI y7.2.1)),(189,(aI (y6.2.length:Int))),(190,(aI (IntKind.wrap .i64 (s9.1+1))))],[(16,(.cells (g63 a2))),(240,(z4_0 y1)),(560,(.vec 72 3 s9.2.length (fun k=>if k=s9.1.toNat then(.agg [(dI (s9.2.getD s9.1.toNat default).From),(dI (s9.2.getD s9.1.toNat default).To),(dI (IntKind.wrap .i64 ((s9.2.getD s9.1.toNat default).Cost+(IntKind.wrap .i64 ((a2.More.getD s9.1.toNat default))))))])else(cF e72 s9.2) k))),(384,(.cells [(aI y1.2.2.2.2.2),(.vec 560 3 s9.2.length)]))],[],3889⟩ (.inl ((IntKind.wrap .i64 (s9.1+1)),(s9.2.set s9.1.toNat (⟨(s9.2.getD s9.1.toNat default).From,(s9.2.getD s9.1.toNat default).To,(IntKind.wrap .i64 ((s9.2.getD s9.1.toNat default).Cost+(IntKind.wrap .i64 ((a2.More.getD s9.1.toNat default)))))⟩:T72)))) ⟨rfl,(ws (idn [16,240,384,560]) [] ⟨⟨_,_,rfl,rfl,⟨dr,dr,dr,trivial⟩⟩,⟨_,_,rfl,rfl,⟨dr,dr,dr,trivial⟩⟩,⟨_,_,rfl,rfl,⟨rfl,rfl,(de_set (e:=e72) (x:=(⟨(s9.2.getD s9.1.toNat default).From,(s9.2.getD s9.1.toNat default).To,(IntKind.wrap .i64 ((s9.2.getD s9.1.toNat default).Cost+(IntKind.wrap .i64 ((a2.More.getD s9.1.toNat default)))))⟩:T72)) dr)⟩⟩,⟨_,_,rfl,rfl,⟨dr,⟨rfl,rfl,(len_of (sz:=3) (e:=e72) (f:=(fun k=>if k=s9.1.toNat then(.agg [(dI (s9.2.getD s9.1.toNat default).From),(dI (s9.2.getD s9.1.toNat default).To),(dI (IntKind.wrap .i64 ((s9.2.getD s9.1.toNat default).Cost+(IntKind.wrap .i64 ((a2.More.getD s9.1.toNat default))))))])else(cF e72 s9.2) k)) (l:=(s9.2.set s9.1.toNat (⟨(s9.2.getD s9.1.toNat default).From,(s9.2.getD s9.1.toNat default).To,(IntKind.wrap .i64 ((s9.2.getD s9.1.toNat default).Cost+(IntKind.wrap .i64 ((a2.More.getD s9.1.toNat default)))))⟩:T72))) (de_set (e:=e72) (x:=(⟨(s9.2.getD s9.1.toNat default).From,(s9.2.getD s9.1.toNat default).To,(IntKind.wrap .i64 ((s9.2.getD s9.1.toNat default).Cost+(IntKind.wrap .i64 ((a2.More.getD s9.1.toNat default)))))⟩:T72)) dr))⟩,trivial⟩⟩⟩)⟩))))))))) (.ret .normal ⟨[(5,(.ptr 16 0)),(7,(.ptr 240 0)),(9,(.ptr 384 0)),(23,(aI y7.1)),(24,(aI y7.2.1)),(189,(aI (y6.2.length:Int))),(190,(aI (IntKind.wrap .i64 (s9.1+1))))],[(16,(.cells (g63 a2))),(240,(z4_0 y1)),(560,(.vec 72 3 s9.2.length (cF e72 s9.2))),(384,(.cells [(aI y1.2.2.2.2.2),(.vec 560 3 s9.2.length)]))],[],3633⟩ (.inl ((IntKind.wrap .i64 (s9.1+1)),s9.2)) ⟨rfl,(wk (idn [16,240,384,560]) [])⟩)) (.ret (.exit 6) _ (.inr (.inl s9.2)) ⟨rfl,rfl,Weak.refl _⟩))))))) fun y10=>(.sg [(45,⟨(Int×(List Int)×(List Int)),fun x=>[],fun x=>[(3537,(o4_1 y10 x))],[]⟩),(46,tm1 227 (fun(x:(Int×Int))=>(.tup [(dI x.1),(dI x.2)])))] [(1,[6],[])] (c3 (p:=fun x45=>ObjL Try.prog 14 [(.agg [(aI y1.2.2.2.2.2),(.vec 560 3 y10.length)]),(aI y7.1),(aI y7.2.1)] [(560,some (.vec 72 3 y10.length (cF e72 y10)))] 3537 (o4_1 y10 x45)) (fun x45 (h1:m14o0 y1.2.2.2.2.2 y10 y7.1 y7.2.1=some _)=>ok [(0,560)] [] [(560,0)] [] (po14o0 h1)) fun x45=>(c3 (@p16 (⟨y1.2.2.2.2.2,y10⟩:T66) y7.1 y7.2.1 x45.2.2) fun x46=>(.ret .ret ⟨[(6,(aB (((x45.1==0)&&(x46.2==0))&&(decide (y1.2.2.2.1≤x46.1)))))],[],[],4033⟩ (((x45.1==0)&&(x46.2==0))&&(decide (y1.2.2.2.1≤x46.1))) ⟨rfl,_,Weak.refl _,dr⟩)))))))))))))
noncomputable def m4 (a0:List T39) (a1:List T54) (a2:T63):Option (Bool):=(d4 a0 a1 a2).m
theorem p4 {a0:List T39} {a1:List T54} {a2:T63} {r:Bool} (h:m4 a0 a1 a2=some r):PureAt Try.prog 4 [(eSl 2 e39 a0),(eSl 7 e54 a1),(e63 a2)] (.bool r):=pure_jd (d4 a0 a1 a2) Try.func4 h
end Go.Av
namespace Go.Av
def firstR {Y:Type} (f:Nat→Option Y) (n:Nat):Option Y:=(List.range n).findSome? f
theorem firstR_succ {Y:Type} {f:Nat→Option Y} {n:Nat}:firstR f (n+1)=match firstR f n with | some y=>some y | none=>f n:=by
 unfold firstR
 rw[List.range_succ,List.findSome?_append]
 cases (List.range n).findSome? f with
 | some y=>rfl
 | none=>simp
theorem firstR_none {Y:Type} {f:Nat→Option Y} {n:Nat}:firstR f n=none↔∀ i,i < n→f i=none:=by
 unfold firstR
 rw[List.findSome?_eq_none_iff]
 exact⟨fun h i hi=>h i (List.mem_range.2 hi),fun h i hi=>h i (List.mem_range.1 hi)⟩
theorem firstR_some {Y:Type} {f:Nat→Option Y} {n:Nat} {y:Y} (h:firstR f n=some y):∃ i,i < n∧f i=some y:=by
 unfold firstR at h
 obtain⟨i,hi,h⟩:=List.exists_of_findSome?_eq_some h
 exact⟨i,List.mem_range.1 hi,h⟩
theorem firstR_at {Y:Type} {f:Nat→Option Y} {n i:Nat} {y:Y} (hi:i < n) (h0:∀ j,j < i→f j=none) (h:f i=some y):firstR f n=some y:=by
 induction n with
 | zero=>omega
 | succ n ih =>
  rw[firstR_succ]
  by_cases hn:i < n
  ·rw[ih hn]
  ·obtain rfl:i=n:=by omega
   rw[firstR_none.2 h0,h]
def anyR (F:Nat→Bool) (n:Nat):Bool:=(List.range n).any F
theorem anyR_iff {F:Nat→Bool} {n:Nat}:anyR F n=true↔∃ i,i < n∧F i=true:=by
 simp only[anyR,List.any_eq_true,List.mem_range]
theorem anyR_false {F:Nat→Bool} {n:Nat}:anyR F n=false↔∀ i,i < n→F i=false:=by
 rw[← Bool.not_eq_true,anyR_iff]
 exact⟨fun h i hi=>by cases hf:F i with | false=>rfl | true=>exact absurd ⟨i,hi,hf⟩ h,fun h ⟨i,hi,hf⟩=>by rw[h i hi]at hf;cases hf⟩
theorem firstR_any {Y:Type} {F:Nat→Bool} {g:Nat→Y} {n:Nat}:(firstR (fun i=>if F i=true then some (g i)else none) n).isSome=anyR F n:=by
 rw[Bool.eq_iff_iff,anyR_iff,Option.isSome_iff_ne_none,ne_eq,firstR_none]
 constructor
 ·intro h
  apply Classical.byContradiction
  intro hn
  exact h fun i hi=>by
   rw[if_neg]
   exact fun hf=>hn ⟨i,hi,hf⟩
 ·rintro⟨i,hi,hf⟩ h
  have:=h i hi
  rw[if_pos hf]at this;cases this
theorem firstR_const {Y:Type} {F:Nat→Bool} {y:Y} {n:Nat}:firstR (fun i=>if F i=true then some y else none) n=if anyR F n=true then some y else none:=by
 rw[← firstR_any (g:=fun _=>y)]
 cases h:firstR (fun i=>if F i=true then some y else none) n with
 | none=>rfl
 | some z =>
  obtain⟨i,_,h⟩:=firstR_some h
  split at h
  ·injection h with h;subst h;rfl
  ·cases h
def findR (F:Nat→Bool) (n:Nat):Int:=(firstR (fun i=>if F i=true then some (i:Int)else none) n).getD (-1)
def orK {R:Type} (o k:Option R):Option R:=match o with
 | some y=>some y
 | none=>k
theorem orK_getD {R:Type} {a:Option R} {d:R}:orK a (some d)=some (a.getD d):=by cases a<;>rfl
def exB {S R:Type} (o:Option R) (s:S):Option (S⊕(Unit⊕R)):=match o with
 | some y=>some (.inr (.inr y))
 | none=>some (.inl s)
theorem exB_some {S R:Type} {y:R} {s:S}:exB (some y) s=some (.inr (.inr y)):=rfl
theorem exB_none {S R:Type} {s:S}:exB (none:Option R) s=some (.inl s):=rfl
theorem exB_ite {S R:Type} {p:Prop} [Decidable p] {a b:Option R} {s:S}:exB (if p then a else b) s=if p then exB a s else exB b s:=by split<;>rfl
theorem loop_ex_from {R:Type} {b:Int→Option (Int⊕(Unit⊕R))} (n:Nat) (f:Nat→Option R) (hb:∀ i:Nat,i < n→b i=exB (f i) ((i:Int)+1)) (hd:b n=some (.inr (.inl ()))) :
  ∀ (k i0:Nat),i0+k=n→(∀ i,i < i0→f i=none)→loopO b i0=match firstR f n with | some y=>some (.inr y) | none=>some (.inl ())
 | 0,i0,hk,h0=>by
  obtain rfl:i0=n:=by omega
  rw[loopO_eq,hd,firstR_none.2 h0];rfl
 | k+1,i0,hk,h0=>by
  rw[loopO_eq,hb i0 (by omega)]
  cases hf:f i0 with
  | some y=>rw[firstR_at (by omega) h0 hf];rfl
  | none =>
   have:=loop_ex_from n f hb hd k (i0+1) (by omega) (fun i hi=>by
    by_cases h:i < i0
    ·exact h0 i h
    ·obtain rfl:i=i0:=by omega
     exact hf)
   rw[exB_none]
   simpa using this
theorem loop_ex {R:Type} {b:Int→Option (Int⊕(Unit⊕R))} {k:Unit→Option R} (n:Nat) (f:Nat→Option R) (hb:∀ i:Nat,i < n→b i=exB (f i) ((i:Int)+1)) (hd:b n=some (.inr (.inl ()))) :
  (loopO b 0).bind (onS k)=orK (firstR f n) (k ()):=by
 have:=loop_ex_from n f hb hd n 0 (by omega) (fun i hi=>by omega)
 rw[show ((0:Nat):Int)=0 from rfl]at this
 rw[this]
 cases firstR f n<;>rfl
theorem loop_ex0 {R:Type} {b:Int→Option (Int⊕(Unit⊕R))} (n:Nat) (f:Nat→Option R) (hb:∀ i:Nat,i < n→b i=exB (f i) ((i:Int)+1)) (hd:b n=some (.inr (.inl ()))) :
  loopO b 0=match firstR f n with | some y=>some (.inr y) | none=>some (.inl ()):=loop_ex_from n f hb hd n 0 (by omega) (fun i hi=>by omega)
theorem loop_or {R:Type} {b:Int→Option (Int⊕(Unit⊕R))} {k:Unit→Option R} (n:Nat) (f:Nat→Option R) (hb:∀ i:Nat,i < n→b i=exB (f i) ((i:Int)+1)) (hd:b n=some (.inr (.inl ()))) {z:Option R} (hk:k ()=z) :
  (loopO b 0).bind (onS k)=orK (firstR f n) z:=by rw[loop_ex n f hb hd,hk]
theorem loop_pass {R:Type} {b:Int→Option (Int⊕(Unit⊕R))} {k:Unit→Option R} (n:Nat) (hb:∀ i:Nat,i < n→b i=some (.inl ((i:Int)+1))) (hd:b n=some (.inr (.inl ()))) {z:Option R} (hk:k ()=z) :
  (loopO b 0).bind (onS k)=z:=by
 rw[loop_or n (fun _=>none) hb hd hk,firstR_none.2 fun _ _=>rfl];rfl
theorem bind_to {α β:Type} {m:Option α} {x:α} {f:α→Option β} {z:Option β} (h:m=some x) (hf:f x=z):m.bind f=z:=by rw[h];exact hf
theorem bind_eq {α β:Type} {m m':Option α} {f:α→Option β} {z:Option β} (h:m=m') (h2:m'.bind f=z):m.bind f=z:=by rw[h];exact h2
theorem on_l {Y R:Type} {m:Option (Y⊕R)} {y:Y} {f:Y→Option R} {z:Option R} (h:m=some (.inl y)) (hf:f y=z):m.bind (onS f)=z:=by rw[h];exact hf
theorem loop_fold {S St X:Type} {b:St→Option (St⊕X)} (n:Nat) (mk:Nat→S→St) (g:Nat→S→S) (P:Nat→S→Prop) (out:S→X) (s0:S) (h0:P 0 s0)
  (hs:∀ i s,i < n→P i s→b (mk i s)=some (.inl (mk (i+1) (g i s)))∧P (i+1) (g i s)) (he:∀ s,P n s→b (mk n s)=some (.inr (out s))) :
  loopO b (mk 0 s0)=some (out ((List.range n).foldl (fun s i=>g i s) s0))∧P n ((List.range n).foldl (fun s i=>g i s) s0):=by
 have key:∀ k i s,i+k=n→P i s→loopO b (mk i s)=some (out ((List.range' i k).foldl (fun s i=>g i s) s))∧P n ((List.range' i k).foldl (fun s i=>g i s) s):=by
  intro k
  induction k with
  | zero =>
   intro i s hk hp
   obtain rfl:i=n:=by omega
   refine⟨?_,hp⟩
   rw[loopO_eq,he s hp];rfl
  | succ k ih =>
   intro i s hk hp
   obtain⟨h1,h2⟩:=hs i s (by omega) hp
   rw[loopO_eq,h1,List.range'_succ]
   exact ih (i+1) (g i s) (by omega) h2
 rw[List.range_eq_range']
 exact key n 0 s0 (by omega) h0
theorem flatMap_app {A:Type} (g:Nat→List A) (n:Nat):(List.range (n+1)).flatMap g=(List.range n).flatMap g++g n:=by rw[List.range_succ,List.flatMap_append];simp
theorem loop_coll {A St X:Type} {b:St→Option (St⊕X)} (n:Nat) (mk:Nat→List A→St) (g:Nat→List A) (out:List A→X)
  (hs:∀ i,i < n→b (mk i ((List.range i).flatMap g))=some (.inl (mk (i+1) ((List.range i).flatMap g++g i)))) (he:b (mk n ((List.range n).flatMap g))=some (.inr (out ((List.range n).flatMap g)))) :
  loopO b (mk 0 [])=some (out ((List.range n).flatMap g)):=by
 have key:∀ k i,i+k=n→loopO b (mk i ((List.range i).flatMap g))=some (out ((List.range n).flatMap g)):=by
  intro k
  induction k with
  | zero =>
   intro i hk
   obtain rfl:i=n:=by omega
   rw[loopO_eq,he];rfl
  | succ k ih =>
   intro i hk
   rw[loopO_eq,hs i (by omega),← flatMap_app]
   exact ih (i+1) (by omega)
 exact key n 0 (by omega)
theorem flatMap_len {A:Type} {g:Nat→List A} {m:Nat} (h:∀ i,(g i).length≤m):∀ n,((List.range n).flatMap g).length≤n * m
 | 0=>by simp
 | n+1=>by
  have:=flatMap_len h n
  have:=h n
  rw[flatMap_app,List.length_append,Nat.succ_mul];omega
theorem wr1 {i n:Nat} (h:i < n) (hn:n≤4611686018427387904):IntKind.wrap .i64 ((i:Int)+1)=(i:Int)+1:=w64 (by omega) (by omega)
theorem lt_irr {n:Nat}:¬ ((n:Int) < (n:Int)):=Int.lt_irrefl _
theorem inL {i:Nat} {n:Nat} (h:i < n):((0:Int)≤(i:Int))=True∧((i:Int) < (n:Int))=True∧(decide ((i:Int) < (n:Int))=true)=True:=by
 refine⟨eq_true (by omega),eq_true (by omega),eq_true (by simpa using h)⟩
end Go.Av
set_option maxRecDepth 100000
namespace Go.Av.Air
theorem loop_meas {S X:Type} {b:S→Option (S⊕X)} (I:S→Prop) (μ:S→Nat) (Q:X→Prop) (hb:∀ s,I s→(∃ s',b s=some (.inl s')∧I s'∧μ s' < μ s)∨(∃ x,b s=some (.inr x)∧Q x)):∀ s,I s→∃ x,loopO b s=some x∧Q x:=by
 have key:∀ n s,μ s < n→I s→∃ x,loopO b s=some x∧Q x:=by
  intro n
  induction n with
  | zero=>intro s h;omega
  | succ n ih =>
   intro s hn hi
   rw[loopO_eq]
   rcases hb s hi with⟨s',h1,h2,h3⟩ | ⟨x,h1,h2⟩
   ·rw[h1];exact ih s' (by omega) h2
   ·rw[h1];exact⟨x,rfl,h2⟩
 exact fun s hi=>key (μ s+1) s (by omega) hi
theorem ex_bind {α β:Type} {m:Option α} {f:α→Option β} {Q:β→Prop} {P:α→Prop} (h:∃ x,m=some x∧P x) (k:∀ x,P x→∃ y,f x=some y∧Q y):∃ y,m.bind f=some y∧Q y:=by
 obtain⟨x,h1,h2⟩:=h
 rw[h1];exact k x h2
def Tot {α:Type} (m:Option α):Prop:=∃ x,m=some x
theorem Tot.bind {α β:Type} {m:Option α} {f:α→Option β} (h:Tot m) (k:∀ x,Tot (f x)):Tot (m.bind f):=by
 obtain⟨x,rfl⟩:=h;exact k x
theorem Tot.on {Y R:Type} {m:Option (Y⊕R)} {f:Y→Option R} (h:Tot m) (k:∀ y,Tot (f y)):Tot (m.bind (onS f)):=by
 obtain⟨x,rfl⟩:=h
 cases x with
 | inl y=>exact k y
 | inr r=>exact⟨r,rfl⟩
theorem Tot.some {α:Type} {x:α}:Tot (some x):=⟨x,rfl⟩
theorem Tot.ite {α:Type} {p:Prop} [Decidable p] {a b:Option α} (h:Tot a) (k:Tot b):Tot (if p then a else b):=by split;exact h;exact k
theorem Tot.pos {α:Type} {p:Prop} [Decidable p] {a b:Option α} (hp:p) (h:Tot a):Tot (if p then a else b):=by rw[if_pos hp];exact h
theorem M29 (a0:T52):m29 a0=((some ((((decide ((-32400000:Int)≤a0.Lat))&&(decide (a0.Lat≤32400000)))&&(decide ((-64800000:Int) < a0.Lon)))&&(decide (a0.Lon≤64800000)))):Option (Bool)):=by kernel_rfl
theorem M57 (a0:Int):m57 a0=((if((129600000:Int)≠0)then(if(decide ((Int.tmod a0 (129600000:Int)) < 0))=true then(some (IntKind.wrap .i64 ((Int.tmod a0 (129600000:Int))+129600000)))else(some (Int.tmod a0 (129600000:Int))))else none):Option (Int)):=by kernel_rfl
theorem M69 (a0 a1:Int):m69 a0 a1=((Option.bind (((m57 a0).bind fun r1_0=>((m57 a1).bind fun r1_1=>((m57 (IntKind.wrap .i64 (r1_0+r1_1))).bind fun r1_2=>some (r1_0,r1_1,r1_2))))) fun(x1:(Int×Int×Int))=>(some x1.2.2)):Option (Int)):=by kernel_rfl
theorem M94 (a0 a1:Int):m94 a0 a1=((if((0:Int)≤(31:Int))then(some (Int.fdiv (IntKind.wrap .i64 ((IntKind.wrap .i64 (a0 * a1))+1073741824)) (2 ^ (min (31:Int).toNat (IntKind.bits .i64)))))else none):Option (Int)):=by kernel_rfl
theorem M95 (a0 a1:Int):m95 a0 a1=((if((2:Int)≠0)then(if(a1≠0)then(some (IntKind.wrap .i64 (Int.tdiv (IntKind.wrap .i64 (a0+(IntKind.wrap .i64 (Int.tdiv a1 (2:Int))))) a1)))else none)else none):Option (Int)):=by kernel_rfl
theorem M85 (a0:Int):m85 a0=((Option.bind (if((64800000:Int)≠0)then(Option.bind (Option.bind (m94 (IntKind.wrap .i64 (Int.tdiv (IntKind.wrap .i64 ((IntKind.wrap .i64 (a0 * (6746518852:Int)))+32400000)) (64800000:Int))) (IntKind.wrap .i64 (Int.tdiv (IntKind.wrap .i64 ((IntKind.wrap .i64 (a0 * (6746518852:Int)))+32400000)) (64800000:Int)))) fun r=>some r) fun x2=>(some (.inl x2)))else none) (onS fun(y1:Int)=>(Option.bind (Option.bind (some (.inl ())) (onS fun(_:Unit)=>(loopO (fun(s2:Int×Int)=>((if(decide (s2.2 < 5))=true then(if(0≤s2.2)then(if(s2.2 < 5)then(if(decide (0 < s2.2))=true then(Option.bind (Option.bind (m94 y1 s2.1) fun r=>some r) fun x9=>(Option.bind (Option.bind (m95 x9 ([(110:Int),(72:Int),(42:Int),(20:Int),(6:Int)].getD s2.2.toNat 0)) fun r=>some r) fun x10=>(some (.inl ((IntKind.wrap .i64 ((2147483648:Int) - x10)),(IntKind.wrap .i64 (s2.2+1)))))))else(Option.bind (Option.bind (m95 y1 ([(110:Int),(72:Int),(42:Int),(20:Int),(6:Int)].getD s2.2.toNat 0)) fun r=>some r) fun x10=>(some (.inl ((IntKind.wrap .i64 ((2147483648:Int) - x10)),(IntKind.wrap .i64 (s2.2+1)))))))else none)else none)else(some (.inr (.inl s2.1)))):Option ((Int×Int)⊕((Int)⊕(Int))))) ((2147483648:Int),(0:Int))))) (onS fun(y3:Int)=>(Option.bind (((m94 (IntKind.wrap .i64 (Int.tdiv (IntKind.wrap .i64 ((IntKind.wrap .i64 (a0 * (6746518852:Int)))+32400000)) (64800000:Int))) y3).bind fun r12_0=>(if(2:Int)≠0 then some r12_0 else none))) fun(x12:(Int))=>(some (IntKind.wrap .i64 (Int.tdiv (IntKind.wrap .i64 (x12+1)) (2:Int))))))))):Option (Int)):=by kernel_rfl
theorem M86 (a0:Int):m86 a0=((Option.bind (if((64800000:Int)≠0)then(Option.bind (Option.bind (m94 (IntKind.wrap .i64 (Int.tdiv (IntKind.wrap .i64 ((IntKind.wrap .i64 (a0 * (6746518852:Int)))+32400000)) (64800000:Int))) (IntKind.wrap .i64 (Int.tdiv (IntKind.wrap .i64 ((IntKind.wrap .i64 (a0 * (6746518852:Int)))+32400000)) (64800000:Int)))) fun r=>some r) fun x2=>(some (.inl x2)))else none) (onS fun(y1:Int)=>(Option.bind (Option.bind (some (.inl ())) (onS fun(_:Unit)=>(loopO (fun(s2:Int×Int)=>((if(decide (s2.2 < 5))=true then(if(0≤s2.2)then(if(s2.2 < 5)then(if(decide (0 < s2.2))=true then(Option.bind (Option.bind (m94 y1 s2.1) fun r=>some r) fun x9=>(Option.bind (Option.bind (m95 x9 ([(90:Int),(56:Int),(30:Int),(12:Int),(2:Int)].getD s2.2.toNat 0)) fun r=>some r) fun x10=>(some (.inl ((IntKind.wrap .i64 ((2147483648:Int) - x10)),(IntKind.wrap .i64 (s2.2+1)))))))else(Option.bind (Option.bind (m95 y1 ([(90:Int),(56:Int),(30:Int),(12:Int),(2:Int)].getD s2.2.toNat 0)) fun r=>some r) fun x10=>(some (.inl ((IntKind.wrap .i64 ((2147483648:Int) - x10)),(IntKind.wrap .i64 (s2.2+1)))))))else none)else none)else(some (.inr (.inl s2.1)))):Option ((Int×Int)⊕((Int)⊕(Int))))) ((2147483648:Int),(0:Int))))) (onS fun(y3:Int)=>(if((2:Int)≠0)then(some (IntKind.wrap .i64 (Int.tdiv (IntKind.wrap .i64 (y3+1)) (2:Int))))else none))))):Option (Int)):=by kernel_rfl
theorem M70 (a0:Int):m70 a0=((if(decide (a0≤16200000))=true then(Option.bind (Option.bind (m85 a0) fun r=>some r) fun x2=>(some x2))else(Option.bind (Option.bind (m86 (IntKind.wrap .i64 ((32400000:Int) - a0))) fun r=>some r) fun x3=>(some x3))):Option (Int)):=by kernel_rfl
theorem M53 (a0:Int):m53 a0=((Option.bind (Option.bind (m57 a0) fun r=>some r) fun x1=>(if(decide (x1≤32400000))=true then(Option.bind (Option.bind (m70 x1) fun r=>some r) fun x4=>(some x4))else(if(decide (x1≤64800000))=true then(Option.bind (Option.bind (m70 (IntKind.wrap .i64 ((64800000:Int) - x1))) fun r=>some r) fun x6=>(some x6))else(if(decide (x1≤97200000))=true then(Option.bind (Option.bind (m70 (IntKind.wrap .i64 (x1 - 64800000))) fun r=>some r) fun x8=>(some (IntKind.wrap .i64 (0 - x8))))else(Option.bind (Option.bind (m70 (IntKind.wrap .i64 ((129600000:Int) - x1))) fun r=>some r) fun x2=>(some (IntKind.wrap .i64 (0 - x2)))))))):Option (Int)):=by kernel_rfl
theorem M52 (a0:Int):m52 a0=((Option.bind (((m69 a0 (32400000:Int)).bind fun r1_0=>((m53 r1_0).bind fun r1_1=>some (r1_0,r1_1)))) fun(x1:(Int×Int))=>(some x1.2)):Option (Int)):=by kernel_rfl
theorem M31 (a0:Int):m31 a0=((if((0:Int)≤(30:Int))then(some (Int.fdiv (IntKind.wrap .i64 (a0+536870912)) (2 ^ (min (30:Int).toNat (IntKind.bits .i64)))))else none):Option (Int)):=by kernel_rfl
theorem M30 (a0:T52):m30 a0=((Option.bind (Option.bind (m52 a0.Lat) fun r=>some r) fun x1=>(Option.bind (((m52 a0.Lon).bind fun r2_0=>((m31 (IntKind.wrap .i64 (x1 * r2_0))).bind fun r2_1=>((m53 a0.Lon).bind fun r2_2=>((m31 (IntKind.wrap .i64 (x1 * r2_2))).bind fun r2_3=>((m53 a0.Lat).bind fun r2_4=>some (r2_0,r2_1,r2_2,r2_3,r2_4))))))) fun(x2:(Int×Int×Int×Int×Int))=>(some (⟨x2.2.1,x2.2.2.2.1,x2.2.2.2.2⟩:T100)))):Option (T100)):=by kernel_rfl
theorem M32 (a0:Int):m32 a0=((if(a0==(-9223372036854775808:Int))=true then(some (9223372036854775807:Int))else(if(decide (a0 < 0))=true then(some (IntKind.wrap .i64 (0 - a0)))else(some a0))):Option (Int)):=by kernel_rfl
theorem M58 (a0:Int):m58 a0=((if(decide (4294967296≤a0))=true then(if((0:Int)≤(32:Int))then(if(decide (65536≤(Int.fdiv a0 (2 ^ (min (32:Int).toNat (IntKind.bits .u64))))))=true then(if((0:Int)≤(16:Int))then(if(decide (256≤(Int.fdiv (Int.fdiv a0 (2 ^ (min (32:Int).toNat (IntKind.bits .u64)))) (2 ^ (min (16:Int).toNat (IntKind.bits .u64))))))=true then(if((0:Int)≤(8:Int))then(if(0≤(IntKind.wrap .u8 ((Int.fdiv (Int.fdiv (Int.fdiv a0 (2 ^ (min (32:Int).toNat (IntKind.bits .u64)))) (2 ^ (min (16:Int).toNat (IntKind.bits .u64)))) (2 ^ (min (8:Int).toNat (IntKind.bits .u64)))))))then(if((IntKind.wrap .u8 ((Int.fdiv (Int.fdiv (Int.fdiv a0 (2 ^ (min (32:Int).toNat (IntKind.bits .u64)))) (2 ^ (min (16:Int).toNat (IntKind.bits .u64)))) (2 ^ (min (8:Int).toNat (IntKind.bits .u64)))))) < (K0.length:Int))then(some (IntKind.wrap .i64 ((IntKind.wrap .i64 ((IntKind.wrap .i64 ((32:Int)+(16:Int)))+8))+(IntKind.wrap .i64 ((byteAt K0 (IntKind.wrap .u8 ((Int.fdiv (Int.fdiv (Int.fdiv a0 (2 ^ (min (32:Int).toNat (IntKind.bits .u64)))) (2 ^ (min (16:Int).toNat (IntKind.bits .u64)))) (2 ^ (min (8:Int).toNat (IntKind.bits .u64)))))).toNat))))))else none)else none)else none)else(if(0≤(IntKind.wrap .u8 ((Int.fdiv (Int.fdiv a0 (2 ^ (min (32:Int).toNat (IntKind.bits .u64)))) (2 ^ (min (16:Int).toNat (IntKind.bits .u64)))))))then(if((IntKind.wrap .u8 ((Int.fdiv (Int.fdiv a0 (2 ^ (min (32:Int).toNat (IntKind.bits .u64)))) (2 ^ (min (16:Int).toNat (IntKind.bits .u64)))))) < (K0.length:Int))then(some (IntKind.wrap .i64 ((IntKind.wrap .i64 ((32:Int)+(16:Int)))+(IntKind.wrap .i64 ((byteAt K0 (IntKind.wrap .u8 ((Int.fdiv (Int.fdiv a0 (2 ^ (min (32:Int).toNat (IntKind.bits .u64)))) (2 ^ (min (16:Int).toNat (IntKind.bits .u64)))))).toNat))))))else none)else none))else none)else(if(decide (256≤(Int.fdiv a0 (2 ^ (min (32:Int).toNat (IntKind.bits .u64))))))=true then(if((0:Int)≤(8:Int))then(if(0≤(IntKind.wrap .u8 ((Int.fdiv (Int.fdiv a0 (2 ^ (min (32:Int).toNat (IntKind.bits .u64)))) (2 ^ (min (8:Int).toNat (IntKind.bits .u64)))))))then(if((IntKind.wrap .u8 ((Int.fdiv (Int.fdiv a0 (2 ^ (min (32:Int).toNat (IntKind.bits .u64)))) (2 ^ (min (8:Int).toNat (IntKind.bits .u64)))))) < (K0.length:Int))then(some (IntKind.wrap .i64 ((IntKind.wrap .i64 ((32:Int)+(8:Int)))+(IntKind.wrap .i64 ((byteAt K0 (IntKind.wrap .u8 ((Int.fdiv (Int.fdiv a0 (2 ^ (min (32:Int).toNat (IntKind.bits .u64)))) (2 ^ (min (8:Int).toNat (IntKind.bits .u64)))))).toNat))))))else none)else none)else none)else(if(0≤(IntKind.wrap .u8 ((Int.fdiv a0 (2 ^ (min (32:Int).toNat (IntKind.bits .u64)))))))then(if((IntKind.wrap .u8 ((Int.fdiv a0 (2 ^ (min (32:Int).toNat (IntKind.bits .u64)))))) < (K0.length:Int))then(some (IntKind.wrap .i64 ((32:Int)+(IntKind.wrap .i64 ((byteAt K0 (IntKind.wrap .u8 ((Int.fdiv a0 (2 ^ (min (32:Int).toNat (IntKind.bits .u64)))))).toNat))))))else none)else none)))else none)else(if(decide (65536≤a0))=true then(if((0:Int)≤(16:Int))then(if(decide (256≤(Int.fdiv a0 (2 ^ (min (16:Int).toNat (IntKind.bits .u64))))))=true then(if((0:Int)≤(8:Int))then(if(0≤(IntKind.wrap .u8 ((Int.fdiv (Int.fdiv a0 (2 ^ (min (16:Int).toNat (IntKind.bits .u64)))) (2 ^ (min (8:Int).toNat (IntKind.bits .u64)))))))then(if((IntKind.wrap .u8 ((Int.fdiv (Int.fdiv a0 (2 ^ (min (16:Int).toNat (IntKind.bits .u64)))) (2 ^ (min (8:Int).toNat (IntKind.bits .u64)))))) < (K0.length:Int))then(some (IntKind.wrap .i64 ((IntKind.wrap .i64 ((IntKind.wrap .i64 ((0:Int)+(16:Int)))+8))+(IntKind.wrap .i64 ((byteAt K0 (IntKind.wrap .u8 ((Int.fdiv (Int.fdiv a0 (2 ^ (min (16:Int).toNat (IntKind.bits .u64)))) (2 ^ (min (8:Int).toNat (IntKind.bits .u64)))))).toNat))))))else none)else none)else none)else(if(0≤(IntKind.wrap .u8 ((Int.fdiv a0 (2 ^ (min (16:Int).toNat (IntKind.bits .u64)))))))then(if((IntKind.wrap .u8 ((Int.fdiv a0 (2 ^ (min (16:Int).toNat (IntKind.bits .u64)))))) < (K0.length:Int))then(some (IntKind.wrap .i64 ((IntKind.wrap .i64 ((0:Int)+(16:Int)))+(IntKind.wrap .i64 ((byteAt K0 (IntKind.wrap .u8 ((Int.fdiv a0 (2 ^ (min (16:Int).toNat (IntKind.bits .u64)))))).toNat))))))else none)else none))else none)else(if(decide (256≤a0))=true then(if((0:Int)≤(8:Int))then(if(0≤(IntKind.wrap .u8 ((Int.fdiv a0 (2 ^ (min (8:Int).toNat (IntKind.bits .u64)))))))then(if((IntKind.wrap .u8 ((Int.fdiv a0 (2 ^ (min (8:Int).toNat (IntKind.bits .u64)))))) < (K0.length:Int))then(some (IntKind.wrap .i64 ((IntKind.wrap .i64 ((0:Int)+(8:Int)))+(IntKind.wrap .i64 ((byteAt K0 (IntKind.wrap .u8 ((Int.fdiv a0 (2 ^ (min (8:Int).toNat (IntKind.bits .u64)))))).toNat))))))else none)else none)else none)else(if(0≤(IntKind.wrap .u8 (a0)))then(if((IntKind.wrap .u8 (a0)) < (K0.length:Int))then(some (IntKind.wrap .i64 ((0:Int)+(IntKind.wrap .i64 ((byteAt K0 (IntKind.wrap .u8 (a0)).toNat))))))else none)else none)))):Option (Int)):=by kernel_rfl
theorem M34 (a0:Int):m34 a0=((Option.bind (if(decide (a0≤0))=true then(some (.inr ((0:Int))))else(Option.bind (((m58 (IntKind.wrap .u64 (a0))).bind fun r3_0=>(if(2:Int)≠0 then(if 0≤(IntKind.wrap .i64 (Int.tdiv (IntKind.wrap .i64 (r3_0+1)) (2:Int)))then some r3_0 else none)else none))) fun(x3:(Int))=>(some (.inl (IntKind.wrap .i64 ((1:Int) * 2 ^ (min (IntKind.wrap .i64 (Int.tdiv (IntKind.wrap .i64 (x3+1)) (2:Int))).toNat (IntKind.bits .i64)))))))) (onS fun(y1:Int)=>(loopO (fun(s2:Int)=>((if(s2≠0)then(if((2:Int)≠0)then(if(decide (s2≤(IntKind.wrap .i64 (Int.tdiv (IntKind.wrap .i64 (s2+(IntKind.wrap .i64 (Int.tdiv a0 s2)))) (2:Int)))))=true then(some (.inr (s2)))else(some (.inl (IntKind.wrap .i64 (Int.tdiv (IntKind.wrap .i64 (s2+(IntKind.wrap .i64 (Int.tdiv a0 s2)))) (2:Int))))))else none)else none):Option ((Int)⊕(Int)))) y1))):Option (Int)):=by kernel_rfl
theorem M35 (a0 a1:T100):m35 a0 a1=((Option.bind (Option.bind (m31 (IntKind.wrap .i64 ((IntKind.wrap .i64 ((IntKind.wrap .i64 (a0.e0 * a1.e0))+(IntKind.wrap .i64 (a0.e1 * a1.e1))))+(IntKind.wrap .i64 (a0.e2 * a1.e2))))) fun r=>some r) fun x1=>(some x1)):Option (Int)):=by kernel_rfl
theorem M54 (a0:Int):m54 a0=((some ((decide (2147483647 < a0)) || (decide (a0 < (-2147483647:Int))))):Option (Bool)):=by kernel_rfl
theorem M56o0 (a0 a1 a2:Int):m56o0 a0 a1 a2=((Option.bind (((m53 a0).bind fun r1_0=>((m52 a0).bind fun r1_1=>some (r1_0,r1_1)))) fun(x1:(Int×Int))=>(some (decide ((IntKind.wrap .i64 (x1.1 * a1))≤(IntKind.wrap .i64 (x1.2 * a2)))))):Option (Bool)):=by kernel_rfl
theorem M72o0 (a0 a1 a2:Int):m72o0 a0 a1 a2=((Option.bind (Option.bind (m56o0 (IntKind.wrap .i64 (a0+1)) a1 a2) fun r=>some r) fun x1=>(some (!x1))):Option (Bool)):=by kernel_rfl
theorem M71o0 (a0 a1 a2:Int):m71o0 a0 a1 a2=((Option.bind (some (.inl ())) (onS fun(_:Unit)=>(Option.bind (loopO (fun(s1:Int×Int)=>((if(decide (s1.1 < s1.2))=true then(if((0:Int)≤(1:Int))then(Option.bind (Option.bind (m72o0 (IntKind.wrap .i64 ((Int.fdiv (IntKind.wrap .u64 ((IntKind.wrap .i64 (s1.1+s1.2)))) (2 ^ (min (1:Int).toNat (IntKind.bits .u64)))))) a1 a2) fun r=>some r) fun x4=>(if(!x4)=true then(some (.inl ((IntKind.wrap .i64 ((IntKind.wrap .i64 ((Int.fdiv (IntKind.wrap .u64 ((IntKind.wrap .i64 (s1.1+s1.2)))) (2 ^ (min (1:Int).toNat (IntKind.bits .u64))))))+1)),s1.2)))else(some (.inl (s1.1,(IntKind.wrap .i64 ((Int.fdiv (IntKind.wrap .u64 ((IntKind.wrap .i64 (s1.1+s1.2)))) (2 ^ (min (1:Int).toNat (IntKind.bits .u64)))))))))))else none)else(some (.inr (.inl s1.1)))):Option ((Int×Int)⊕((Int)⊕(Int))))) ((0:Int),a0)) (onS fun(y2:Int)=>(some y2))))):Option (Int)):=by kernel_rfl
theorem M55o0 (a0 a1 a2:Int):m55o0 a0 a1 a2=((Option.bind (Option.bind (m71o0 a0 a1 a2) fun r=>some r) fun x1=>(some x1)):Option (Int)):=by kernel_rfl
theorem M33 (a0 a1:Int):m33 a0 a1=((Option.bind (((m54 a0).bind fun r1_0=>((if(!r1_0)=true then m54 a1 else some default).bind fun r1_1=>some (r1_0,r1_1)))) fun(x1:(Bool×Bool))=>(if(x1.1 || x1.2)=true then(some ((0:Int),(2:Int)))else(if((a1==0)&&(a0==0))=true then(some ((0:Int),(1:Int)))else(Option.bind (((m32 a1).bind fun r5_0=>((m32 a0).bind fun r5_1=>some (r5_0,r5_1)))) fun(x5:(Int×Int))=>(Option.bind (((m55o0 (16200000:Int) (if x5.1 < x5.2 then x5.2 else x5.1) (if x5.2 < x5.1 then x5.2 else x5.1)).bind fun r7_0=>some (r7_0,x5.1,x5.2))) fun(x7:(Int×Int×Int))=>(if(decide (x5.1 < x5.2))=true then(if((decide (0≤a1))&&(decide (0≤a0)))=true then(some ((IntKind.wrap .i64 ((32400000:Int) - x7.1)),(0:Int)))else(if(decide (0≤a0))=true then(some ((IntKind.wrap .i64 ((64800000:Int) - (IntKind.wrap .i64 ((32400000:Int) - x7.1)))),(0:Int)))else(if(decide (a1 < 0))=true then(some ((IntKind.wrap .i64 ((64800000:Int)+(IntKind.wrap .i64 ((32400000:Int) - x7.1)))),(0:Int)))else(Option.bind (Option.bind (m57 (IntKind.wrap .i64 (0 - (IntKind.wrap .i64 ((32400000:Int) - x7.1))))) fun r=>some r) fun x16=>(some (x16,(0:Int)))))))else(if((decide (0≤a1))&&(decide (0≤a0)))=true then(some (x7.1,(0:Int)))else(if(decide (0≤a0))=true then(some ((IntKind.wrap .i64 ((64800000:Int) - x7.1)),(0:Int)))else(if(decide (a1 < 0))=true then(some ((IntKind.wrap .i64 ((64800000:Int)+x7.1)),(0:Int)))else(Option.bind (Option.bind (m57 (IntKind.wrap .i64 (0 - x7.1))) fun r=>some r) fun x16=>(some (x16,(0:Int))))))))))))):Option (Int×Int)):=by kernel_rfl
theorem M10 (a0 a1:T52):m10 a0 a1=((Option.bind (Option.bind (((m29 a0).bind fun r1_0=>((if(!(!r1_0))=true then m29 a1 else some default).bind fun r1_1=>some (r1_0,r1_1)))) fun(x1:(Bool×Bool))=>(if((!x1.1) || (!x1.2))=true then(some (.inr (((0:Int),(1:Int)))))else(Option.bind (((m30 a0).bind fun r3_0=>((m30 a1).bind fun r3_1=>some (r3_0,r3_1)))) fun(x3:(T100×T100))=>(some (.inl (x3.1.e0,x3.1.e1,x3.1.e2,x3.2.e0,x3.2.e1,x3.2.e2)))))) (onS fun(y1:Int×Int×Int×Int×Int×Int)=>(Option.bind (Option.bind (some (.inl ())) (onS fun(_:Unit)=>(Option.bind (Option.bind (some (.inl ())) (onS fun(_:Unit)=>(Option.bind (some (.inl ())) (onS fun(_:Unit)=>(if((3:Int)≠0)then(if((3:Int)≠0)then(Option.bind (((m32 (IntKind.wrap .i64 ((IntKind.wrap .i64 (y1.2.1 * y1.2.2.2.2.2)) - (IntKind.wrap .i64 (y1.2.2.1 * y1.2.2.2.2.1))))).bind fun r9_0=>((m31 r9_0).bind fun r9_1=>some (r9_0,r9_1)))) fun(x9:(Int×Int))=>(some (.inl (IntKind.wrap .i64 ((0:Int)+(IntKind.wrap .i64 (x9.2 * x9.2)))))))else none)else none))))) (onS fun(y2:Int)=>(Option.bind (Option.bind (some (.inl ())) (onS fun(_:Unit)=>(Option.bind (some (.inl ())) (onS fun(_:Unit)=>(if((3:Int)≠0)then(if((3:Int)≠0)then(Option.bind (((m32 (IntKind.wrap .i64 ((IntKind.wrap .i64 (y1.2.2.1 * y1.2.2.2.1)) - (IntKind.wrap .i64 (y1.1 * y1.2.2.2.2.2))))).bind fun r9_0=>((m31 r9_0).bind fun r9_1=>some (r9_0,r9_1)))) fun(x9:(Int×Int))=>(some (.inl (IntKind.wrap .i64 (y2+(IntKind.wrap .i64 (x9.2 * x9.2)))))))else none)else none))))) (onS fun(y3:Int)=>(Option.bind (Option.bind (some (.inl ())) (onS fun(_:Unit)=>(Option.bind (some (.inl ())) (onS fun(_:Unit)=>(if((3:Int)≠0)then(if((3:Int)≠0)then(Option.bind (((m32 (IntKind.wrap .i64 ((IntKind.wrap .i64 (y1.1 * y1.2.2.2.2.1)) - (IntKind.wrap .i64 (y1.2.1 * y1.2.2.2.1))))).bind fun r9_0=>((m31 r9_0).bind fun r9_1=>some (r9_0,r9_1)))) fun(x9:(Int×Int))=>(some (.inl (IntKind.wrap .i64 (y3+(IntKind.wrap .i64 (x9.2 * x9.2)))))))else none)else none))))) (onS fun(y4:Int)=>(Option.bind (Option.bind (some (.inl ())) (onS fun(_:Unit)=>(Option.bind (some (.inr (.inr (.inl y4)))) onE))) onE))))))))) (onS fun(y5:Int)=>(Option.bind (((m34 y5).bind fun r12_0=>((m35 (⟨y1.1,y1.2.1,y1.2.2.1⟩:T100) (⟨y1.2.2.2.1,y1.2.2.2.2.1,y1.2.2.2.2.2⟩:T100)).bind fun r12_1=>((m33 r12_0 r12_1).bind fun r12_2=>some (r12_0,r12_1,r12_2))))) fun(x12:(Int×Int×(Int×Int)))=>(some (x12.2.2.1,(0:Int)))))))):Option (Int×Int)):=by kernel_rfl
theorem norm_t (a:Int):Tot (m57 a):=by rw[M57];exact .pos (by decide) (.ite .some .some)
theorem turn_t (a b:Int):Tot (m69 a b):=by
 rw[M69]
 exact .bind ((norm_t a).bind fun x=>(norm_t b).bind fun y=>(norm_t _).bind fun z=>.some) fun _=>.some
theorem mul_t (a b:Int):Tot (m94 a b):=by rw[M94];exact .pos (by decide) .some
theorem div_t (a b:Int) (h:b≠0):Tot (m95 a b):=by rw[M95];exact .pos (by decide) (.pos h .some)
theorem round_t (a:Int):Tot (m31 a):=by rw[M31];exact .pos (by decide) .some
theorem tab_ne {l:List Int} (hl:∀ x∈l,x≠0) {i:Nat} (hi:i < l.length):l.getD i 0≠0:=by
 rw[List.getD_eq_getElem?_getD,List.getElem?_eq_getElem hi];exact hl _ (List.getElem_mem hi)
theorem five_loop {X:Type} {b:Int×Int→Option ((Int×Int)⊕X)} (hb:∀ (r:Int) (i:Nat),i < 5→∃ r',b (r,(i:Int))=some (.inl (r',((i+1:Nat):Int)))) (he:∀ r,Tot (b (r,5))∧∀ s,b (r,5)≠some (.inl s)) (r0:Int):Tot (loopO b (r0,0)):=by
 obtain⟨x,h,_⟩:=loop_meas (b:=b) (fun s=>∃ i:Nat,i≤5∧s.2=i) (fun s=>(5 - s.2).toNat) (fun _=>True) (fun s ⟨i,hi,hs⟩=>by
  obtain⟨r,j⟩:=s
  simp only at hs
  subst hs
  by_cases h5:i < 5
  ·obtain⟨r',hr⟩:=hb r i h5
   exact .inl ⟨_,hr,⟨i+1,by omega,rfl⟩,by first | omega | (simp only;omega)⟩
  ·obtain rfl:i=5:=by omega
   obtain⟨⟨x,hx⟩,hn⟩:=he r
   cases x with
   | inl s=>exact absurd hx (hn s)
   | inr x=>exact .inr ⟨x,hx,trivial⟩) (r0,0) ⟨0,by omega,rfl⟩
 exact⟨x,h⟩
theorem wr5 {i:Nat} (h:i < 5):IntKind.wrap .i64 ((i:Int)+1)=((i+1:Nat):Int):=by rw[w64 (by omega) (by omega)];omega
theorem sine_t (a:Int):Tot (m85 a):=by
 rw[M85]
 refine .on (.pos (by decide) (.bind ((mul_t _ _).bind fun _=>.some) fun _=>.some)) fun y1=>.on (.on .some fun _=>?_) fun y3=>(.bind ((mul_t _ _).bind fun _=>.pos (by decide) .some) fun _=>.some)
 refine five_loop (fun r i hi=>?_) (fun r=>⟨?_,fun s=>?_⟩) _
 ·simp only[Int.toNat_natCast]
  rw[if_pos (decide_eq_true (by omega)),if_pos (by omega),if_pos (by omega)]
  have hne:([(110:Int),(72:Int),(42:Int),(20:Int),(6:Int)].getD i 0)≠0:=tab_ne (by decide) (by simpa using hi)
  split
  ·obtain⟨x,hx⟩:=mul_t y1 r
   obtain⟨x2,hx2⟩:=div_t x _ hne
   simp only[hx,hx2,Option.bind_some,wr5 hi]
   exact⟨_,rfl⟩
  ·obtain⟨x2,hx2⟩:=div_t y1 _ hne
   simp only[hx2,Option.bind_some,wr5 hi]
   exact⟨_,rfl⟩
 ·rw[if_neg (by simp)];exact .some
 ·rw[if_neg (by simp)];intro h;cases h
theorem cosine_t (a:Int):Tot (m86 a):=by
 rw[M86]
 refine .on (.pos (by decide) (.bind ((mul_t _ _).bind fun _=>.some) fun _=>.some)) fun y1=>.on (.on .some fun _=>?_) fun y3=>(.pos (by decide) .some)
 refine five_loop (fun r i hi=>?_) (fun r=>⟨?_,fun s=>?_⟩) _
 ·simp only[Int.toNat_natCast]
  rw[if_pos (decide_eq_true (by omega)),if_pos (by omega),if_pos (by omega)]
  have hne:([(90:Int),(56:Int),(30:Int),(12:Int),(2:Int)].getD i 0)≠0:=tab_ne (by decide) (by simpa using hi)
  split
  ·obtain⟨x,hx⟩:=mul_t y1 r
   obtain⟨x2,hx2⟩:=div_t x _ hne
   simp only[hx,hx2,Option.bind_some,wr5 hi]
   exact⟨_,rfl⟩
  ·obtain⟨x2,hx2⟩:=div_t y1 _ hne
   simp only[hx2,Option.bind_some,wr5 hi]
   exact⟨_,rfl⟩
 ·rw[if_neg (by simp)];exact .some
 ·rw[if_neg (by simp)];intro h;cases h
theorem quarter_t (a:Int):Tot (m70 a):=by
 rw[M70]
 exact .ite (((sine_t _).bind fun _=>.some).bind fun _=>.some) (((cosine_t _).bind fun _=>.some).bind fun _=>.some)
theorem sin_t (a:Int):Tot (m53 a):=by
 rw[M53]
 have q:=fun a=>((quarter_t a).bind fun r=>(Tot.some (x:=r)))
 exact .bind ((norm_t _).bind fun _=>.some) fun x=>.ite ((q _).bind fun _=>.some) (.ite ((q _).bind fun _=>.some) (.ite ((q _).bind fun _=>.some) ((q _).bind fun _=>.some)))
theorem cos_t (a:Int):Tot (m52 a):=by
 rw[M52]
 exact .bind ((turn_t _ _).bind fun _=>(sin_t _).bind fun _=>.some) fun _=>.some
theorem of_t (p:T52):Tot (m30 p):=by
 rw[M30]
 exact .bind ((cos_t _).bind fun _=>.some) fun x=>.bind ((cos_t _).bind fun _=>(round_t _).bind fun _=>(sin_t _).bind fun _=>(round_t _).bind fun _=>(sin_t _).bind fun _=>.some) fun _=>.some
theorem abs_t (a:Int):Tot (m32 a):=by
 rw[M32];exact .ite .some (.ite .some .some)
theorem dot_t (a b):Tot (m35 a b):=by
 rw[M35];exact .bind ((round_t _).bind fun _=>.some) fun _=>.some
theorem K0_ok:K0.length=256∧∀ i,i < 256→K0.getD i 0≤8∧(0 < i→1≤K0.getD i 0):=by
 have h:K0.length=256∧((List.range 256).all fun i=>decide (K0.getD i 0≤8)&&(decide (i=0) || decide (1≤K0.getD i 0)))=true:=by decide +kernel
 refine⟨h.1,fun i hi=>?_⟩
 have:=List.all_eq_true.1 h.2 i (List.mem_range.2 hi)
 simp only[Bool.and_eq_true,Bool.or_eq_true,decide_eq_true_eq]at this
 exact⟨this.1,fun h0=>this.2.resolve_left (by omega)⟩
theorem u8_range (x:Int):0≤IntKind.wrap .u8 x∧IntKind.wrap .u8 x < 256:=by
 rw[IntKind.wrap_u8];omega
theorem byteK {x:Int} (h:0≤x∧x < 256):0≤byteAt K0 x.toNat∧byteAt K0 x.toNat≤8∧(0 < x→1≤byteAt K0 x.toNat):=by
 obtain⟨h1,h2⟩:=K0_ok
 have hi:x.toNat < 256:=by omega
 have e:byteAt K0 x.toNat=((K0.getD x.toNat 0).toNat:Int):=by
  unfold byteAt
  rw[List.getD_eq_getElem?_getD,List.getElem?_eq_getElem (by omega)]
  rfl
 obtain⟨k1,k2⟩:=h2 _ hi
 rw[e]
 have k1':(K0.getD x.toNat 0).toNat≤8:=k1
 refine⟨by omega,by omega,fun h0=>?_⟩
 have k2':1≤(K0.getD x.toNat 0).toNat:=k2 (by omega)
 omega
theorem leafL (X c cw:Int) (h:cw=c) (h0:0≤c) (h1:c≤56):∃ r,(if 0≤IntKind.wrap .u8 X then(if IntKind.wrap .u8 X < (K0.length:Int)then some (IntKind.wrap .i64 (cw+IntKind.wrap .i64 (byteAt K0 (IntKind.wrap .u8 X).toNat)))else none)else none)=some r∧c≤r∧r≤c+8∧(0 < IntKind.wrap .u8 X→c+1≤r):=by
 have hu:=u8_range X
 obtain⟨b0,b1,b2⟩:=byteK hu
 have hk:=K0_ok.1
 subst h
 rw[if_pos hu.1,if_pos (by omega),w64 (x:=byteAt _ _) (by omega) (by omega),w64 (by omega) (by omega)]
 exact⟨_,rfl,by omega,by omega,fun h=>by have:=b2 h;omega⟩
theorem len64_ok {a:Int} (h1:1≤a) (h2:a < 18446744073709551616):∃ r,m58 a=some r∧(1≤r∧r≤64):=by
 have L:∀ (X c cw:Int),cw=c→8≤c→c≤56→∃ r,(if 0≤IntKind.wrap .u8 X then(if IntKind.wrap .u8 X < (K0.length:Int)then some (IntKind.wrap .i64 (cw+IntKind.wrap .i64 (byteAt K0 (IntKind.wrap .u8 X).toNat)))else none)else none)=some r∧(1≤r∧r≤64):=fun X c cw e g1 g2=>by
  obtain⟨r,q1,q2,q3,_⟩:=leafL X c cw e (by omega) g2
  exact⟨r,q1,by omega,by omega⟩
 rw[M58]
 split
 ·rw[if_pos (by decide)]
  split
  ·rw[if_pos (by decide)]
   split
   ·rw[if_pos (by decide)];exact L _ 56 _ (by decide) (by decide) (by decide)
   ·exact L _ 48 _ (by decide) (by decide) (by decide)
  ·split
   ·rw[if_pos (by decide)];exact L _ 40 _ (by decide) (by decide) (by decide)
   ·exact L _ 32 _ (by decide) (by decide) (by decide)
 ·split
  ·rw[if_pos (by decide)]
   split
   ·rw[if_pos (by decide)];exact L _ 24 _ (by decide) (by decide) (by decide)
   ·exact L _ 16 _ (by decide) (by decide) (by decide)
  ·split
   ·rw[if_pos (by decide)];exact L _ 8 _ (by decide) (by decide) (by decide)
   ·rename_i _ _ h
    simp only[decide_eq_true_eq,Int.not_le]at h
    obtain⟨r,q1,q2,q3,q4⟩:=leafL a 0 0 rfl (by decide) (by decide)
    have e:IntKind.wrap .u8 a=a:=by rw[IntKind.wrap_u8];omega
    rw[e]at q1 q4 ⊢
    exact⟨r,q1,by have:=q4 (by omega);omega,by omega⟩
theorem pow_k {k:Int} (h1:1≤k) (h2:k≤32):∃ x,IntKind.wrap .i64 ((1:Int) * 2 ^ (min k.toNat (IntKind.bits .i64)))=x∧2≤x∧x≤4294967296:=by
 obtain⟨n,rfl⟩:∃ n:Nat,k=n:=⟨k.toNat,by omega⟩
 have hn:1≤n∧n≤32:=by omega
 have e:min ((n:Int).toNat) (IntKind.bits .i64)=n:=by
  show min n 64=n
  omega
 rw[e,Int.one_mul]
 have p1:(2:Nat) ^ 1≤2 ^ n:=Nat.pow_le_pow_right (by omega) hn.1
 have p2:(2:Nat) ^ n≤2 ^ 32:=Nat.pow_le_pow_right (by omega) hn.2
 have c:((2:Int) ^ n)=((2 ^ n:Nat):Int):=by simp
 rw[c]
 have p2':(2:Nat) ^ n≤4294967296:=p2
 have p1':2≤(2:Nat) ^ n:=p1
 rw[w64 (by omega) (by omega)]
 exact⟨_,rfl,by omega,by omega⟩
theorem sqrt_ok {n:Int} (hn:n≤9223372036854775807):∃ r,m34 n=some r∧0≤r:=by
 rw[M34]
 by_cases h0:n≤0
 ·rw[if_pos (decide_eq_true h0)];exact⟨0,rfl,Int.le_refl _⟩
 ·rw[if_neg (by simpa using h0)]
  have wu:IntKind.wrap .u64 n=n:=by rw[IntKind.wrap_u64];omega
  obtain⟨r,hr,r1,r2⟩:=len64_ok (a:=n) (by omega) (by omega)
  rw[wu,hr]
  have e1:IntKind.wrap .i64 (r+1)=r+1:=w64 (by omega) (by omega)
  have e2:Int.tdiv (r+1) 2=(r+1) / 2:=Int.tdiv_eq_ediv_of_nonneg (by omega)
  have e3:IntKind.wrap .i64 ((r+1) / 2)=(r+1) / 2:=w64 (by omega) (by omega)
  simp only[e1,e2,e3,Option.bind_some]
  obtain⟨x0,hx,x1,x2⟩:=pow_k (k:=(r+1) / 2) (by omega) (by omega)
  rw[if_pos (by decide),if_pos (by omega)]
  simp only[Option.bind_some,e1,e2,e3,hx,onS]
  have key:=loop_meas (S:=Int) (X:=Int) (b:=fun s2:Int=>((if(s2≠0)then(if((2:Int)≠0)then(if(decide (s2≤(IntKind.wrap .i64 (Int.tdiv (IntKind.wrap .i64 (s2+(IntKind.wrap .i64 (Int.tdiv n s2)))) (2:Int)))))=true then(some (.inr (s2)))else(some (.inl (IntKind.wrap .i64 (Int.tdiv (IntKind.wrap .i64 (s2+(IntKind.wrap .i64 (Int.tdiv n s2)))) (2:Int))))))else none)else none):Option ((Int)⊕(Int))))
   (fun x=>1≤x∧x≤4294967296∧(x=1→n≤8)) (fun x=>x.toNat) (fun r=>0≤r) (fun x ⟨i1,i2,i3⟩=>by
    have t1:Int.tdiv n x=n / x:=Int.tdiv_eq_ediv_of_nonneg (by omega)
    have q0:0≤n / x:=Int.ediv_nonneg (by omega) (by omega)
    have q1:n / x≤n:=Int.ediv_le_self _ (by omega)
    have q2:2≤x→n / x≤n / 2:=fun h2=>by
     have:2 * (n / x)≤x * (n / x):=Int.mul_le_mul_of_nonneg_right h2 q0
     have:=Int.mul_ediv_self_le (x:=n) (k:=x) (by omega)
     omega
    have q3:x=1→n / x=n:=fun e=>by rw[e];exact Int.ediv_one n
    have qb:n / x≤4611686018427387904:=by
     by_cases h2:2≤x
     ·have:=q2 h2;omega
     ·have:n≤8:=i3 (by omega)
      omega
    have e4:IntKind.wrap .i64 (n / x)=n / x:=w64 (by omega) (by omega)
    have e5:IntKind.wrap .i64 (x+n / x)=x+n / x:=w64 (by omega) (by omega)
    have e6:Int.tdiv (x+n / x) 2=(x+n / x) / 2:=Int.tdiv_eq_ediv_of_nonneg (by omega)
    have e7:IntKind.wrap .i64 ((x+n / x) / 2)=(x+n / x) / 2:=w64 (by omega) (by omega)
    have big:x=2→n / x≤1→n≤8:=fun e h=>by subst e;omega
    have big3:x=3→n / x=0→n≤8:=fun e h=>by subst e;omega
    simp only[t1,e4,e5,e6,e7]
    rw[if_pos (by omega),if_pos (by decide)]
    split
    ·exact .inr ⟨x,rfl,by omega⟩
    ·rename_i hlt
     simp only[decide_eq_true_eq,Int.not_le]at hlt
     refine .inl ⟨_,rfl,⟨?_,by omega,fun e=>?_⟩,by omega⟩
     ·by_cases h1:x=1
      ·have:=q3 h1;omega
      ·omega
     ·by_cases h1:x=1
      ·omega
      ·by_cases h2:x=2
       ·exact big h2 (by omega)
       ·exact big3 (by omega) (by omega)) x0 ⟨by omega,x2,fun e=>by omega⟩
  exact key
theorem at1_t (a b c:Int):Tot (m56o0 a b c):=by
 rw[M56o0];exact .bind ((sin_t _).bind fun _=>(cos_t _).bind fun _=>.some) fun _=>.some
theorem gr1_t (a b c:Int):Tot (m72o0 a b c):=by
 rw[M72o0];exact .bind ((at1_t _ _ _).bind fun _=>.some) fun _=>.some
theorem search_ok {n:Int} (h0:0≤n) (h1:n≤1000000000) (a b:Int):∃ r,m71o0 n a b=some r∧0≤r∧r≤n:=by
 rw[M71o0]
 have mid:∀ x y:Int,0≤x→x < y→y≤n→IntKind.wrap .i64 (Int.fdiv (IntKind.wrap .u64 (IntKind.wrap .i64 (x+y))) (2 ^ (min (1:Int).toNat (IntKind.bits .u64))))=(x+y) / 2:=fun x y g1 g2 g3=>by
  have e1:IntKind.wrap .i64 (x+y)=x+y:=w64 (by omega) (by omega)
  have e2:IntKind.wrap .u64 (x+y)=x+y:=by rw[IntKind.wrap_u64];omega
  have e3:(2:Int) ^ (min (1:Int).toNat (IntKind.bits .u64))=2:=by decide
  have e4:Int.fdiv (x+y) 2=(x+y) / 2:=Int.fdiv_eq_ediv_of_nonneg _ (by omega)
  rw[e1,e2,e3,e4]
  exact w64 (by omega) (by omega)
 refine ex_bind (P:=fun z=>match z with | .inl _=>True | .inr _=>False) ⟨.inl (),rfl,trivial⟩ fun z hz=>?_
 cases z with
 | inr r=>exact hz.elim
 | inl u =>
  refine ex_bind (P:=fun z:Int⊕Int=>match z with | .inl y=>0≤y∧y≤n | .inr _=>False) (loop_meas (fun s:Int×Int=>0≤s.1∧s.1≤s.2∧s.2≤n) (fun s=>(s.2 - s.1).toNat) (fun z:Int⊕Int=>match z with | .inl y=>0≤y∧y≤n | .inr _=>False) (fun s ⟨i1,i2,i3⟩=>?_) (0,n) ⟨Int.le_refl _,h0,Int.le_refl _⟩) fun z hz=>?_
  ·obtain⟨x,y⟩:=s
   simp only at i1 i2 i3 ⊢
   by_cases hxy:x < y
   ·rw[if_pos (decide_eq_true hxy),if_pos (by decide)]
    have hm:=mid x y i1 hxy i3
    simp only[hm]
    obtain⟨t,ht⟩:=gr1_t ((x+y) / 2) a b
    rw[ht]
    simp only[Option.bind_some]
    split
    ·have e:IntKind.wrap .i64 ((x+y) / 2+1)=(x+y) / 2+1:=w64 (by omega) (by omega)
     rw[e]
     exact .inl ⟨_,rfl,⟨by first | omega | (simp only;omega),by first | omega | (simp only;omega),i3⟩,by first | omega | (simp only;omega)⟩
    ·exact .inl ⟨_,rfl,⟨i1,by first | omega | (simp only;omega),by first | omega | (simp only;omega)⟩,by first | omega | (simp only;omega)⟩
   ·rw[if_neg (by simpa using hxy)]
    exact .inr ⟨_,rfl,i1,by first | omega | (simp only;omega)⟩
  ·cases z with
   | inl y=>exact⟨y,rfl,hz⟩
   | inr r=>exact hz.elim
theorem greatest_ok {n:Int} (h0:0≤n) (h1:n≤1000000000) (a b:Int):∃ r,m55o0 n a b=some r∧0≤r∧r≤n:=by
 rw[M55o0]
 obtain⟨r,h,k⟩:=search_ok h0 h1 a b
 rw[h];exact⟨r,rfl,k⟩
theorem atan_ok {y x:Int} (hy:0≤y):∃ r:Int×Int,m33 y x=some r∧0≤r.1∧r.1≤64800000:=by
 rw[M33,M54]
 simp only[Option.bind_some]
 obtain⟨z,hz⟩:∃ z,(if(!(decide (2147483647 < y) || decide (y < (-2147483647:Int))))=true then m54 x else some default)=some z:=by
  split
  ·rw[M54];exact⟨_,rfl⟩
  ·exact⟨_,rfl⟩
 rw[hz]
 simp only[Option.bind_some]
 split
 ·exact⟨_,rfl,by decide,by decide⟩
 split
 ·exact⟨_,rfl,by decide,by decide⟩
 obtain⟨m1,e1⟩:=abs_t x
 obtain⟨m2,e2⟩:=abs_t y
 simp only[e1,e2,Option.bind_some]
 obtain⟨q,e3,q0,q1⟩:=greatest_ok (n:=16200000) (by decide) (by decide) (if m1 < m2 then m2 else m1) (if m2 < m1 then m2 else m1)
 simp only[e3,Option.bind_some]
 have w1:IntKind.wrap .i64 (32400000 - q)=32400000 - q:=w64 (by omega) (by omega)
 have w2:IntKind.wrap .i64 (64800000 - (32400000 - q))=64800000 - (32400000 - q):=w64 (by omega) (by omega)
 have w3:IntKind.wrap .i64 (64800000 - q)=64800000 - q:=w64 (by omega) (by omega)
 have dy:decide (0≤y)=true:=decide_eq_true hy
 simp only[w1,w2,w3,dy,Bool.and_true,if_true]
 split
 ·split
  ·exact⟨_,rfl,by first | omega | (simp only;omega),by first | omega | (simp only;omega)⟩
  ·exact⟨_,rfl,by first | omega | (simp only;omega),by first | omega | (simp only;omega)⟩
 ·split
  ·exact⟨_,rfl,by first | omega | (simp only;omega),by first | omega | (simp only;omega)⟩
  ·exact⟨_,rfl,by first | omega | (simp only;omega),by first | omega | (simp only;omega)⟩
def validB (p:T52):Bool:=(((decide ((-32400000:Int)≤p.Lat))&&(decide (p.Lat≤32400000)))&&(decide ((-64800000:Int) < p.Lon)))&&(decide (p.Lon≤64800000))
theorem wrap_le (x:Int):IntKind.wrap .i64 x≤9223372036854775807:=by
 rw[IntKind.wrap_i64];omega
theorem dist_ok (p q:T52):∃ d e,m10 p q=some (d,e)∧(e=0↔(validB p=true∧validB q=true))∧0≤d∧d≤64800000:=by
 rw[M10,M29]
 show ∃ d e,_∧_
 simp only[Option.bind_some]
 have hv:∀ z,(if(!(!(validB p)))=true then m29 q else some default)=some z→((!validB p) || (!z))=((!validB p) || (!validB q)):=fun z hz=>by
  cases hp:validB p with
  | false=>rfl
  | true =>
   rw[hp]at hz
   simp only[Bool.not_true,Bool.not_false,if_true]at hz
   rw[M29]at hz
   injection hz with hz
   rw[← hz];rfl
 obtain⟨z,hz⟩:∃ z,(if(!(!(validB p)))=true then m29 q else some default)=some z:=by
  split
  ·rw[M29];exact⟨_,rfl⟩
  ·exact⟨_,rfl⟩
 have hz':=hv z hz
 unfold validB at hz
 rw[hz]
 simp only[Option.bind_some]
 have fold:(((((decide ((-32400000:Int)≤p.Lat))&&(decide (p.Lat≤32400000)))&&(decide ((-64800000:Int) < p.Lon)))&&(decide (p.Lon≤64800000))))=validB p:=rfl
 rw[fold,hz']
 by_cases hb:((!validB p) || (!validB q))=true
 ·rw[if_pos hb]
  refine⟨0,1,rfl,⟨fun h=>absurd h (by decide),fun h=>?_⟩,by decide,by decide⟩
  rw[h.1,h.2]at hb;cases hb
 ·rw[if_neg hb]
  have hpq:validB p=true∧validB q=true:=by
   cases hp:validB p<;>cases hq:validB q<;>rw[hp,hq]at hb<;>first | exact⟨rfl,rfl⟩ | exact absurd rfl hb
  obtain⟨v1,e1⟩:=of_t p
  obtain⟨v2,e2⟩:=of_t q
  simp only[e1,e2,Option.bind_some,onS]
  have step:∀ x:Int,∃ n,(m32 x).bind (fun r9_0=>(m31 r9_0).bind fun r9_1=>some (r9_0,r9_1))=some n:=fun x=>by
   obtain⟨a,ha⟩:=abs_t x
   obtain⟨b,hb⟩:=round_t a
   rw[ha];simp only[Option.bind_some,hb];exact⟨_,rfl⟩
  obtain⟨n1,s1⟩:=step (IntKind.wrap .i64 (IntKind.wrap .i64 (v1.e1 * v2.e2) - IntKind.wrap .i64 (v1.e2 * v2.e1)))
  obtain⟨n2,s2⟩:=step (IntKind.wrap .i64 (IntKind.wrap .i64 (v1.e2 * v2.e0) - IntKind.wrap .i64 (v1.e0 * v2.e2)))
  obtain⟨n3,s3⟩:=step (IntKind.wrap .i64 (IntKind.wrap .i64 (v1.e0 * v2.e1) - IntKind.wrap .i64 (v1.e1 * v2.e0)))
  have n33:(3:Int)≠0:=by decide
  simp only[ne_eq,n33,not_false_eq_true,if_true,s1,s2,s3,Option.bind_some,onE]
  obtain⟨r,hr,r0⟩:=sqrt_ok (n:=IntKind.wrap .i64 (IntKind.wrap .i64 (IntKind.wrap .i64 (0+IntKind.wrap .i64 (n1.2 * n1.2))+IntKind.wrap .i64 (n2.2 * n2.2))+IntKind.wrap .i64 (n3.2 * n3.2))) (wrap_le _)
  obtain⟨c,hc⟩:=dot_t (⟨v1.e0,v1.e1,v1.e2⟩:T100) ⟨v2.e0,v2.e1,v2.e2⟩
  obtain⟨t,ht,t0,t1⟩:=atan_ok (y:=r) (x:=c) r0
  simp only[hr,hc,ht,Option.bind_some,onS]
  exact⟨t.1,0,rfl,⟨fun _=>hpq,fun _=>rfl⟩,t0,t1⟩
end Go.Av.Air
set_option maxRecDepth 100000
namespace Go.Av.Air
theorem M48 (a0:List UInt8) (a1:Int):m48 a0 a1=((Option.bind (if(!(((a0.length:Int)==(0:Int)) || (decide (a1 < (a0.length:Int)))))=true→((0:Int)≤(0:Int))then(if(!(((a0.length:Int)==(0:Int)) || (decide (a1 < (a0.length:Int)))))=true→(0 < (a0.length:Int))then(if(!((((a0.length:Int)==(0:Int)) || (decide (a1 < (a0.length:Int)))) || (decide ((byteAt a0 (0:Int).toNat) < 65))))=true→((0:Int)≤(0:Int))then(if(!((((a0.length:Int)==(0:Int)) || (decide (a1 < (a0.length:Int)))) || (decide ((byteAt a0 (0:Int).toNat) < 65))))=true→(0 < (a0.length:Int))then(if(((((a0.length:Int)==(0:Int)) || (decide (a1 < (a0.length:Int)))) || (decide ((byteAt a0 (0:Int).toNat) < 65))) || (decide (90 < (byteAt a0 (0:Int).toNat))))=true then(some (.inr (false)))else(some (.inl ())))else none)else none)else none)else none) (onS fun(_:Unit)=>(Option.bind (Option.bind (some (.inl ())) (onS fun(_:Unit)=>(loopO (fun(s1:Int)=>((if(decide (s1 < (a0.length:Int)))=true then(if(0≤s1)then(if(s1 < (a0.length:Int))then(if(!(decide ((byteAt a0 s1.toNat) < 65)))=true→(0≤s1)then(if(!(decide ((byteAt a0 s1.toNat) < 65)))=true→(s1 < (a0.length:Int))then(if((decide ((byteAt a0 s1.toNat) < 65)) || (decide (90 < (byteAt a0 s1.toNat))))=true→(0≤s1)then(if((decide ((byteAt a0 s1.toNat) < 65)) || (decide (90 < (byteAt a0 s1.toNat))))=true→(s1 < (a0.length:Int))then(if(((decide ((byteAt a0 s1.toNat) < 65)) || (decide (90 < (byteAt a0 s1.toNat))))&&(!(decide ((byteAt a0 s1.toNat) < 48))))=true→(0≤s1)then(if(((decide ((byteAt a0 s1.toNat) < 65)) || (decide (90 < (byteAt a0 s1.toNat))))&&(!(decide ((byteAt a0 s1.toNat) < 48))))=true→(s1 < (a0.length:Int))then(if(((decide ((byteAt a0 s1.toNat) < 65)) || (decide (90 < (byteAt a0 s1.toNat))))&&((decide ((byteAt a0 s1.toNat) < 48)) || (decide (57 < (byteAt a0 s1.toNat)))))=true then(some (.inr (.inr (false))))else(some (.inl (IntKind.wrap .i64 (s1+1)))))else none)else none)else none)else none)else none)else none)else none)else none)else(some (.inr (.inl ())))):Option ((Int)⊕((Unit)⊕(Bool))))) (0:Int)))) (onS fun(_:Unit)=>(some true))))):Option (Bool)):=by kernel_rfl
theorem M83 (a0 a1:List UInt8):m83 a0 a1=((Option.bind (Option.bind (m93 a0 a1) fun r=>some r) fun x1=>(some (x1.1,x1.2.1,x1.2.2))):Option ((List UInt8)×(List UInt8)×Bool)):=by kernel_rfl
theorem M93 (a0 a1:List UInt8):m93 a0 a1=((Option.bind (Option.bind (m97 a0 a1) fun r=>some r) fun x1=>(if(decide (0≤x1))=true then(if(0≤x1)then(if(x1≤(a0.length:Int))then(if(0≤(IntKind.wrap .i64 (x1+(a1.length:Int))))then(if((IntKind.wrap .i64 (x1+(a1.length:Int)))≤(a0.length:Int))then(some ((a0.take x1.toNat),(a0.drop (IntKind.wrap .i64 (x1+(a1.length:Int))).toNat),true))else none)else none)else none)else none)else(some (a0,([]:List UInt8),false)))):Option ((List UInt8)×(List UInt8)×Bool)):=by kernel_rfl
theorem M84 (a0:List UInt8):m84 a0=((Option.bind (if((a0.length:Int) != (2:Int))=true then(some (.inr (false)))else(some (.inl ()))) (onS fun(_:Unit)=>(Option.bind (Option.bind (some (.inl ())) (onS fun(_:Unit)=>(loopO (fun(s1:Int)=>((if(decide (s1 < (a0.length:Int)))=true then(if(0≤s1)then(if(s1 < (a0.length:Int))then(if(!(decide ((byteAt a0 s1.toNat) < 65)))=true→(0≤s1)then(if(!(decide ((byteAt a0 s1.toNat) < 65)))=true→(s1 < (a0.length:Int))then(if((decide ((byteAt a0 s1.toNat) < 65)) || (decide (90 < (byteAt a0 s1.toNat))))=true→(0≤s1)then(if((decide ((byteAt a0 s1.toNat) < 65)) || (decide (90 < (byteAt a0 s1.toNat))))=true→(s1 < (a0.length:Int))then(if(((decide ((byteAt a0 s1.toNat) < 65)) || (decide (90 < (byteAt a0 s1.toNat))))&&(!(decide ((byteAt a0 s1.toNat) < 48))))=true→(0≤s1)then(if(((decide ((byteAt a0 s1.toNat) < 65)) || (decide (90 < (byteAt a0 s1.toNat))))&&(!(decide ((byteAt a0 s1.toNat) < 48))))=true→(s1 < (a0.length:Int))then(if(((decide ((byteAt a0 s1.toNat) < 65)) || (decide (90 < (byteAt a0 s1.toNat))))&&((decide ((byteAt a0 s1.toNat) < 48)) || (decide (57 < (byteAt a0 s1.toNat)))))=true then(some (.inr (.inr (false))))else(some (.inl (IntKind.wrap .i64 (s1+1)))))else none)else none)else none)else none)else none)else none)else none)else none)else(some (.inr (.inl ())))):Option ((Int)⊕((Unit)⊕(Bool))))) (0:Int)))) (onS fun(_:Unit)=>(some true))))):Option (Bool)):=by kernel_rfl
theorem M67 (a0:List UInt8):m67 a0=((Option.bind (Option.bind (m83 a0 ([47]:List UInt8)) fun r=>some r) fun x1=>(if(!x1.2.2)=true then(some (([]:List UInt8),([]:List UInt8),(4:Int)))else(Option.bind (((m48 x1.1 (6:Int)).bind fun r4_0=>((if(!(!r4_0))=true then m48 x1.2.1 (6:Int)else some default).bind fun r4_1=>((if((!(!r4_0))&&(!r4_1))=true then m84 x1.2.1 else some default).bind fun r4_2=>some (r4_0,r4_1,r4_2))))) fun(x4:(Bool×Bool×Bool))=>(if((!x4.1) || ((!x4.2.1)&&(!x4.2.2)))=true then(some (([]:List UInt8),([]:List UInt8),(5:Int)))else(some (x1.1,x1.2.1,(0:Int))))))):Option ((List UInt8)×(List UInt8)×Int)):=by kernel_rfl
theorem M51o0 (a0:T45) (a1:List UInt8):m51o0 a0 a1=((some ()):Option (Unit)):=by kernel_rfl
theorem M50o0 (a0:List T45) (a1:List UInt8):m50o0 a0 a1=((Option.bind (some (.inl ())) (onS fun(_:Unit)=>(Option.bind (Option.bind (some (.inl ())) (onS fun(_:Unit)=>(loopO (fun(s1:Int)=>((if(decide (s1 < (a0.length:Int)))=true then(Option.bind ((if 0≤s1 then(if s1 < (a0.length:Int)then((m51o0 (a0.getD s1.toNat default) a1).bind fun r4_0=>some r4_0)else none)else none)) fun(x4:(Unit))=>(if((a0.getD s1.toNat default).Ref==a1)=true then(some (.inr (.inr (s1))))else(some (.inl (IntKind.wrap .i64 (s1+1))))))else(some (.inr (.inl ())))):Option ((Int)⊕((Unit)⊕(Int))))) (0:Int)))) (onS fun(_:Unit)=>(some (-1:Int)))))):Option (Int)):=by kernel_rfl
theorem M23 (a0:T39) (a1:List UInt8):m23 a0 a1=((Option.bind (Option.bind (m50o0 a0.Points a1) fun r=>some r) fun x1=>(some x1)):Option (Int)):=by kernel_rfl
theorem M68:m68  = ((some (⟨(-200000:Int),(6000000:Int)⟩:T43)):Option (T43)):=by kernel_rfl
theorem M49 (a0:T39) (a1:Int):m49 a0 a1=((if(0≤a1)then(if(a1 < (a0.Points.length:Int))then(Option.bind (Option.bind (m67 (a0.Points.getD a1.toNat default).Ref) fun r=>some r) fun x2=>(if(x2.2.2 != 0)=true then(some (5:Int))else(Option.bind (Option.bind (m23 a0 (a0.Points.getD a1.toNat default).Ref) fun r=>some r) fun x5=>(if(decide (x5 < a1))=true then(some (7:Int))else(if(a1==(IntKind.wrap .i64 ((a0.Points.length:Int) - (1:Int))))=true then(Option.bind (Option.bind (m68) fun r=>some r) fun x8=>(if((!(((a0.Points.getD a1.toNat default).Alt.Lo==x8.Lo)&&(((a0.Points.getD a1.toNat default).Alt.Hi==x8.Hi)&&true))) || ((a0.Points.getD a1.toNat default).Dir != 0))=true then(some (1:Int))else(some (0:Int))))else(if(((decide ((a0.Points.getD a1.toNat default).Alt.Lo < (-200000:Int))) || (decide ((a0.Points.getD a1.toNat default).Alt.Hi < (a0.Points.getD a1.toNat default).Alt.Lo))) || (decide (6000000 < (a0.Points.getD a1.toNat default).Alt.Hi)))=true then(some (2:Int))else(if(decide (2 < (a0.Points.getD a1.toNat default).Dir))=true then(some (17:Int))else(some (0:Int)))))))))else none)else none):Option (Int)):=by kernel_rfl
theorem M22 (a0:T39):m22 a0=((Option.bind (Option.bind (Option.bind (m48 a0.Name (8:Int)) fun r=>some r) fun x1=>(if(!x1)=true then(some (.inr ((5:Int))))else(if(decide ((a0.Points.length:Int) < (2:Int)))=true then(some (.inr ((1:Int))))else(if(decide (40 < (a0.Points.length:Int)))=true then(some (.inr ((3:Int))))else(some (.inl ())))))) (onS fun(_:Unit)=>(Option.bind (Option.bind (some (.inl ())) (onS fun(_:Unit)=>(loopO (fun(s1:Int)=>((if(decide (s1 < (a0.Points.length:Int)))=true then(Option.bind (Option.bind (m49 a0 s1) fun r=>some r) fun x10=>(if(x10 != 0)=true then(some (.inr (.inr (x10))))else(some (.inl (IntKind.wrap .i64 (s1+1))))))else(some (.inr (.inl ())))):Option ((Int)⊕((Unit)⊕(Int))))) (0:Int)))) (onS fun(_:Unit)=>(some (0:Int)))))):Option (Int)):=by kernel_rfl
theorem M24 (a0:List T39):m24 a0=((Option.bind (if(decide (60 < (a0.length:Int)))=true then(some (.inr ((3:Int))))else(some (.inl ()))) (onS fun(_:Unit)=>(Option.bind (Option.bind (some (.inl ())) (onS fun(_:Unit)=>(loopO (fun(s1:Int)=>((if(decide (s1 < (a0.length:Int)))=true then(if(0≤s1)then(if(s1 < (a0.length:Int))then(Option.bind (Option.bind (m22 (a0.getD s1.toNat default)) fun r=>some r) fun x6=>(if(x6 != 0)=true then(some (.inr (.inr (x6))))else(some (.inl (IntKind.wrap .i64 (s1+1))))))else none)else none)else(some (.inr (.inl ())))):Option ((Int)⊕((Unit)⊕(Int))))) (0:Int)))) (onS fun(_:Unit)=>(some (0:Int)))))):Option (Int)):=by kernel_rfl
theorem M25 (a0:List T39) (a1:List UInt8):m25 a0 a1=((Option.bind (some (.inl ())) (onS fun(_:Unit)=>(Option.bind (Option.bind (some (.inl ())) (onS fun(_:Unit)=>(loopO (fun(s1:(List T49)×Int)=>((if(decide (s1.2 < (a0.length:Int)))=true then(if(0≤s1.2)then(if(s1.2 < (a0.length:Int))then(Option.bind (Option.bind (m23 (a0.getD s1.2.toNat default) a1) fun r=>some r) fun x5=>(if(decide (x5 < 0))=true then(some (.inl (s1.1,(IntKind.wrap .i64 (s1.2+1)))))else(if(decide ((IntKind.wrap .i64 (x5+1)) < ((a0.getD s1.2.toNat default).Points.length:Int)))=true→(0≤x5)then(if(decide ((IntKind.wrap .i64 (x5+1)) < ((a0.getD s1.2.toNat default).Points.length:Int)))=true→(x5 < ((a0.getD s1.2.toNat default).Points.length:Int))then(if((decide ((IntKind.wrap .i64 (x5+1)) < ((a0.getD s1.2.toNat default).Points.length:Int)))&&(((a0.getD s1.2.toNat default).Points.getD x5.toNat default).Dir != 2))=true then(if(0≤(IntKind.wrap .i64 (x5+1)))then(if((IntKind.wrap .i64 (x5+1)) < ((a0.getD s1.2.toNat default).Points.length:Int))then(if(0≤x5)then(if(x5 < ((a0.getD s1.2.toNat default).Points.length:Int))then(if((s1.1.length+1) * 48≤140737488355328)then(if(decide (0 < x5))=true→(0≤(IntKind.wrap .i64 (x5 - 1)))then(if(decide (0 < x5))=true→((IntKind.wrap .i64 (x5 - 1)) < ((a0.getD s1.2.toNat default).Points.length:Int))then(if((decide (0 < x5))&&(((a0.getD s1.2.toNat default).Points.getD (IntKind.wrap .i64 (x5 - 1)).toNat default).Dir != 1))=true then(if(0≤(IntKind.wrap .i64 (x5 - 1)))then(if((IntKind.wrap .i64 (x5 - 1)) < ((a0.getD s1.2.toNat default).Points.length:Int))then(if(0≤(IntKind.wrap .i64 (x5 - 1)))then(if((IntKind.wrap .i64 (x5 - 1)) < ((a0.getD s1.2.toNat default).Points.length:Int))then(if(((s1.1.length+1)+1) * 48≤140737488355328)then(some (.inl (((s1.1++([(⟨(a0.getD s1.2.toNat default).Name,((a0.getD s1.2.toNat default).Points.getD (IntKind.wrap .i64 (x5+1)).toNat default).Ref,((a0.getD s1.2.toNat default).Points.getD x5.toNat default).Alt⟩:T49)]:List T49))++([(⟨(a0.getD s1.2.toNat default).Name,((a0.getD s1.2.toNat default).Points.getD (IntKind.wrap .i64 (x5 - 1)).toNat default).Ref,((a0.getD s1.2.toNat default).Points.getD (IntKind.wrap .i64 (x5 - 1)).toNat default).Alt⟩:T49)]:List T49)),(IntKind.wrap .i64 (s1.2+1)))))else none)else none)else none)else none)else none)else(some (.inl ((s1.1++([(⟨(a0.getD s1.2.toNat default).Name,((a0.getD s1.2.toNat default).Points.getD (IntKind.wrap .i64 (x5+1)).toNat default).Ref,((a0.getD s1.2.toNat default).Points.getD x5.toNat default).Alt⟩:T49)]:List T49)),(IntKind.wrap .i64 (s1.2+1))))))else none)else none)else none)else none)else none)else none)else none)else(if(decide (0 < x5))=true→(0≤(IntKind.wrap .i64 (x5 - 1)))then(if(decide (0 < x5))=true→((IntKind.wrap .i64 (x5 - 1)) < ((a0.getD s1.2.toNat default).Points.length:Int))then(if((decide (0 < x5))&&(((a0.getD s1.2.toNat default).Points.getD (IntKind.wrap .i64 (x5 - 1)).toNat default).Dir != 1))=true then(if(0≤(IntKind.wrap .i64 (x5 - 1)))then(if((IntKind.wrap .i64 (x5 - 1)) < ((a0.getD s1.2.toNat default).Points.length:Int))then(if(0≤(IntKind.wrap .i64 (x5 - 1)))then(if((IntKind.wrap .i64 (x5 - 1)) < ((a0.getD s1.2.toNat default).Points.length:Int))then(if((s1.1.length+1) * 48≤140737488355328)then(some (.inl ((s1.1++([(⟨(a0.getD s1.2.toNat default).Name,((a0.getD s1.2.toNat default).Points.getD (IntKind.wrap .i64 (x5 - 1)).toNat default).Ref,((a0.getD s1.2.toNat default).Points.getD (IntKind.wrap .i64 (x5 - 1)).toNat default).Alt⟩:T49)]:List T49)),(IntKind.wrap .i64 (s1.2+1)))))else none)else none)else none)else none)else none)else(some (.inl (s1.1,(IntKind.wrap .i64 (s1.2+1))))))else none)else none))else none)else none)))else none)else none)else(some (.inr (.inl s1.1)))):Option (((List T49)×Int)⊕(((List T49))⊕((List T49)))))) ([],(0:Int))))) (onS fun(y2:(List T49))=>(some y2))))):Option ((List T49))):=by kernel_rfl
theorem M8 (a0:List T39) (a1:List UInt8):m8 a0 a1=((Option.bind (Option.bind (m24 a0) fun r=>some r) fun x1=>(if(x1 != 0)=true then(some ([],x1))else(Option.bind (Option.bind (m25 a0 a1) fun r=>some r) fun x4=>(some (x4,(0:Int)))))):Option ((List T49)×Int)):=by kernel_rfl
theorem cnt_loop {X:Type} {b:Int→Option (Int⊕X)} (n:Nat) (hb:∀ i:Nat,i < n→(b i=some (.inl ((i:Int)+1)))∨∃ x,b i=some (.inr x)) (he:∃ x,b n=some (.inr x)):Tot (loopO b 0):=by
 obtain⟨x,h,_⟩:=loop_meas (b:=b) (fun s=>∃ i:Nat,i≤n∧s=i) (fun s=>(n - s).toNat) (fun _=>True) (fun s ⟨i,hi,hs⟩=>by
  subst hs
  by_cases h5:i < n
  ·rcases hb i h5 with h | ⟨x,h⟩
   ·exact .inl ⟨_,h,⟨i+1,by omega,by omega⟩,by omega⟩
   ·exact .inr ⟨x,h,trivial⟩
  ·obtain rfl:i=n:=by omega
   obtain⟨x,hx⟩:=he
   exact .inr ⟨x,hx,trivial⟩) 0 ⟨0,by omega,rfl⟩
 exact⟨x,h⟩
theorem name_t {s:List UInt8} {n:Int} (hn:n≤100):Tot (m48 s n):=by
 rw[M48]
 cases h1:(((s.length:Int)==(0:Int)) || (decide (n < (s.length:Int)))) with
 | true =>
  simp only[h1,Bool.true_or,Bool.not_true,Bool.false_eq_true,false_implies,if_true]
  exact⟨_,rfl⟩
 | false =>
  have hl:0 < s.length∧s.length≤100:=by
   simp only[Bool.or_eq_false_iff,beq_eq_false_iff_ne,decide_eq_false_iff_not]at h1
   omega
  have z2:(0:Int) < s.length:=by omega
  simp only[h1,Int.le_refl,z2,implies_true,if_true,Int.toNat_zero,Bool.false_or]
  split
  ·exact⟨_,rfl⟩
  ·simp only[Option.bind_some,onS]
   refine Tot.on (cnt_loop s.length (fun i hi=>?_) ?_) fun _=>.some
   ·simp only[inL hi,decide_true,Int.toNat_natCast,if_true,implies_true,wr1 hi (by omega)]
    split
    ·exact .inr ⟨_,rfl⟩
    ·exact .inl rfl
   ·simp only[lt_irr,decide_false,Bool.false_eq_true,if_false]
    exact⟨_,rfl⟩
theorem short_t {s:List UInt8}:Tot (m84 s):=by
 rw[M84]
 by_cases h:((s.length:Int) != (2:Int))=true
 ·rw[if_pos h];exact⟨_,rfl⟩
 ·rw[if_neg h]
  have hl:s.length=2:=by simp at h;omega
  simp only[Option.bind_some,onS]
  refine Tot.on (cnt_loop s.length (fun i hi=>?_) ?_) fun _=>.some
  ·simp only[inL hi,decide_true,Int.toNat_natCast,if_true,implies_true,wr1 hi (by omega)]
   split
   ·exact .inr ⟨_,rfl⟩
   ·exact .inl rfl
  ·simp only[lt_irr,decide_false,Bool.false_eq_true,if_false]
   exact⟨_,rfl⟩
theorem cut_t {s:List UInt8} (h:s.length≤maxLen):Tot (m83 s [47]):=by
 rw[M83]
 refine .bind (.bind ?_ fun _=>.some) fun _=>.some
 rw[M93]
 have e:m97 s [47]=some (Lib.indexByte s 47):=rfl
 rw[e]
 simp only[Option.bind_some]
 split
 ·rename_i h0
  have h0:=of_decide_eq_true h0
  obtain⟨k,hk⟩:∃ k:Nat,Lib.indexByte s 47=k:=⟨(Lib.indexByte s 47).toNat,by omega⟩
  have hlt:k < s.length:=by
   obtain⟨h1,_⟩:=Lib.indexByte_some hk
   exact(List.getElem?_eq_some_iff.1 h1).1
  have hm:maxLen=9223372036854775807:=rfl
  have e1:([47]:List UInt8).length=1:=rfl
  rw[hk,e1]
  have e2:IntKind.wrap .i64 ((k:Int)+((1:Nat):Int))=(k:Int)+1:=w64 (by omega) (by omega)
  rw[e2,if_pos (by omega),if_pos (by omega),if_pos (by omega),if_pos (by omega)]
  exact .some
 ·exact .some
theorem split_t {s:List UInt8} (h:s.length≤maxLen):Tot (m67 s):=by
 rw[M67]
 refine .bind ((cut_t h).bind fun _=>.some) fun x=>.ite .some (.bind ?_ fun _=>.ite .some .some)
 exact .bind (name_t (by decide)) fun _=>.bind (.ite (name_t (by decide)) .some) fun _=>.bind (.ite short_t .some) fun _=>.some
def rf (a:T39) (i:Nat):List UInt8:=(a.Points.getD i default).Ref
def ixA (a:T39) (r:List UInt8):Int:=findR (fun i=>rf a i==r) a.Points.length
theorem findR_cases {F:Nat→Bool} {n:Nat}:(findR F n = -1∧∀ i,i < n→F i=false)∨∃ i:Nat,i < n∧findR F n=i∧F i=true∧∀ j,j < i→F j=false:=by
 unfold findR
 cases h:firstR (fun i=>if F i=true then some (i:Int)else none) n with
 | none =>
  refine .inl ⟨rfl,fun i hi=>?_⟩
  have:=firstR_none.1 h i hi
  split at this
  ·cases this
  ·rename_i hf;simpa using hf
 | some y =>
  obtain⟨i,hi,hy⟩:=firstR_some h
  split at hy
  ·rename_i hf
   injection hy with hy
   -- the first of them
   have key:∀ m,m≤n→(∃ j,j < m∧F j=true)→∃ j,j < m∧F j=true∧∀ k,k < j→F k=false:=by
    intro m
    induction m with
    | zero=>rintro _ ⟨j,hj,_⟩;omega
    | succ m ih =>
     intro hm hex
     by_cases hj:∃ j,j < m∧F j=true
     ·obtain⟨j,h1,h2,h3⟩:=ih (by omega) hj
      exact⟨j,by omega,h2,h3⟩
     ·obtain⟨j,h1,h2⟩:=hex
      have:j=m:=by
       by_cases hlt:j < m
       ·exact absurd ⟨j,hlt,h2⟩ hj
       ·omega
      subst this
      exact⟨j,by omega,h2,fun k hk=>by
       cases hF:F k with
       | false=>rfl
       | true=>exact absurd ⟨k,hk,hF⟩ hj⟩
   obtain⟨j,j1,j2,j3⟩:=key n (Nat.le_refl _) ⟨i,hi,hf⟩
   have:=firstR_at (f:=fun i=>if F i=true then some (i:Int)else none) j1 (fun k hk=>by simp only[j3 k hk,Bool.false_eq_true,if_false]) (by simp only[j2,if_true]:(if F j=true then some (j:Int)else none)=some (j:Int))
   rw[this]at h
   injection h with h
   exact .inr ⟨j,j1,by show y=(j:Int);exact h.symm,j2,j3⟩
  ·cases hy
theorem index_eq (a:T39) (r:List UInt8) (hl:a.Points.length≤4611686018427387904):m23 a r=some (ixA a r):=by
 rw[M23,M50o0]
 simp only[Option.bind_some,onS]
 have key:=loop_ex (k:=fun _=>some (-1:Int)) (b:=fun(s1:Int)=>((if(decide (s1 < (a.Points.length:Int)))=true then(Option.bind ((if 0≤s1 then(if s1 < (a.Points.length:Int)then((m51o0 (a.Points.getD s1.toNat default) r).bind fun r4_0=>some r4_0)else none)else none)) fun(x4:(Unit))=>(if((a.Points.getD s1.toNat default).Ref==r)=true then(some (.inr (.inr (s1))))else(some (.inl (IntKind.wrap .i64 (s1+1))))))else(some (.inr (.inl ())))):Option ((Int)⊕((Unit)⊕(Int))))) a.Points.length (fun i=>if(rf a i==r)=true then some (i:Int)else none) (fun i hi=>by
  have e:m51o0 (a.Points.getD i default) r=some ():=by rw[M51o0]
  simp only[exB_ite,exB_some,exB_none]
  simp only[inL hi,decide_true,Int.toNat_natCast,if_true,e,Option.bind_some,wr1 hi hl,rf]
  rfl) (by simp only[lt_irr,decide_false,Bool.false_eq_true,if_false])
 rw[key]
 unfold ixA findR
 cases firstR (fun i=>if(rf a i==r)=true then some (i:Int)else none) a.Points.length<;>rfl
structure At (a:T39) (r:List UInt8) (i:Nat):Prop where
 lt:i < a.Points.length
 ref:rf a i=r
 fst:∀ j,j < i→rf a j≠r
theorem ixA_cases (a:T39) (r:List UInt8):(ixA a r = -1∧∀ i,i < a.Points.length→rf a i≠r)∨∃ i:Nat,ixA a r=i∧At a r i:=by
 rcases findR_cases (F:=fun i=>rf a i==r) (n:=a.Points.length) with⟨h1,h2⟩ | ⟨i,h1,h2,h3,h4⟩
 ·exact .inl ⟨h1,fun i hi=>by simpa using h2 i hi⟩
 ·exact .inr ⟨i,h2,h1,by simpa using h3,fun j hj=>by simpa using h4 j hj⟩
def okA (a:T39):Prop:=∀ i,i < a.Points.length→(rf a i).length≤maxLen
structure Wf (a:T39):Prop where
 two:2≤a.Points.length
 few:a.Points.length≤40
 inj:∀ i j,i < a.Points.length→j < a.Points.length→rf a i=rf a j→i=j
theorem err_loop {n:Nat} {b:Int→Option (Int⊕(Unit⊕Int))} (f:Nat→Int) (hb:∀ i,i < n→b (i:Int)=if(f i != 0)=true then some (.inr (.inr (f i)))else some (.inl ((i:Int)+1))) (hd:b n=some (.inr (.inl ()))):∃ e,(loopO b 0).bind (onS fun _=>some (0:Int))=some e∧(e=0↔∀ i,i < n→f i=0):=by
 rw[loop_ex n (fun i=>if(f i != 0)=true then some (f i)else none) (fun i hi=>by rw[hb i hi,exB_ite,exB_some,exB_none]) hd,orK_getD]
 refine⟨_,rfl,?_⟩
 cases h:firstR (fun i=>if(f i != 0)=true then some (f i)else none) n with
 | none =>
  refine⟨fun _ i hi=>?_,fun _=>rfl⟩
  have:=firstR_none.1 h i hi
  split at this
  ·cases this
  ·rename_i hf;simpa using hf
 | some y =>
  obtain⟨i,hi,hy⟩:=firstR_some h
  split at hy
  ·rename_i hf
   injection hy with hy
   subst hy
   have hne:f i≠0:=by simpa using hf
   exact⟨fun h=>absurd h hne,fun h=>absurd (h i hi) hne⟩
  ·cases hy
theorem point_ok {a:T39} (ha:okA a) (hl:a.Points.length≤40) {i:Nat} (hi:i < a.Points.length):∃ e,m49 a i=some e∧(e=0→(i:Int)≤ixA a (rf a i)):=by
 rw[M49]
 rw[if_pos (by omega),if_pos (by omega)]
 obtain⟨z,hz⟩:=split_t (ha i hi)
 have hz':m67 (a.Points.getD ((i:Int)).toNat default).Ref=some z:=hz
 have hx:m23 a (a.Points.getD ((i:Int)).toNat default).Ref=some (ixA a (rf a i)):=index_eq a _ (by omega)
 simp only[hz',hx,Option.bind_some]
 split
 ·exact⟨_,rfl,fun h=>absurd h (by decide)⟩
 split
 ·exact⟨_,rfl,fun h=>absurd h (by decide)⟩
 rename_i hlt
 have hge:(i:Int)≤ixA a (rf a i):=by simpa using hlt
 split
 ·rw[M68]
  simp only[Option.bind_some]
  split<;>exact⟨_,rfl,fun _=>hge⟩
 split
 ·exact⟨_,rfl,fun _=>hge⟩
 split<;>exact⟨_,rfl,fun _=>hge⟩
theorem Check_ok {a:T39} (ha:okA a):∃ e,m22 a=some e∧(e=0→Wf a):=by
 rw[M22]
 obtain⟨z,hz⟩:=name_t (s:=a.Name) (n:=8) (by decide)
 rw[hz]
 simp only[Option.bind_some]
 split
 ·exact⟨_,rfl,fun h=>absurd h (by decide)⟩
 split
 ·exact⟨_,rfl,fun h=>absurd h (by decide)⟩
 rename_i h2
 split
 ·exact⟨_,rfl,fun h=>absurd h (by decide)⟩
 rename_i h40
 simp only[decide_eq_true_eq,Int.not_lt]at h2 h40
 simp only[Option.bind_some,onS]
 obtain⟨e,he,k⟩:=err_loop (n:=a.Points.length) (f:=fun i=>(m49 a i).getD 0) (b:=fun(s1:Int)=>((if(decide (s1 < (a.Points.length:Int)))=true then(Option.bind (Option.bind (m49 a s1) fun r=>some r) fun x10=>(if(x10 != 0)=true then(some (.inr (.inr (x10))))else(some (.inl (IntKind.wrap .i64 (s1+1))))))else(some (.inr (.inl ())))):Option ((Int)⊕((Unit)⊕(Int))))) (fun i hi=>by
  obtain⟨e,he,_⟩:=point_ok ha (by omega) hi
  simp only[inL hi,decide_true,if_true,he,Option.bind_some,Option.getD_some,wr1 hi (by omega)]) (by simp only[lt_irr,decide_false,Bool.false_eq_true,if_false])
 refine⟨e,he,fun h0=>⟨by omega,by omega,fun i j hi hj hij=>?_⟩⟩
 have all:=k.1 h0
 have ge:∀ i,i < a.Points.length→(i:Int)≤ixA a (rf a i):=fun i hi=>by
  obtain⟨e,he,kk⟩:=point_ok ha (by omega) hi
  have:=all i hi
  rw[he]at this
  exact kk this
 have gi:=ge i hi
 have gj:=ge j hj
 rw[← hij]at gj
 rcases ixA_cases a (rf a i) with⟨h1,h2⟩ | ⟨m,h1,hm⟩
 ·exact absurd rfl (h2 i hi)
 ·rw[h1]at gi gj
  have mi:m=i:=by
   by_cases hh:i < m
   ·exact absurd rfl (hm.fst i hh)
   ·omega
  have mj:m=j:=by
   by_cases hh:j < m
   ·exact absurd hij.symm (hm.fst j hh)
   ·omega
  omega
structure WfL (l:List T39):Prop where
 few:l.length≤60
 all:∀ i,i < l.length→Wf (l.getD i default)
theorem check_ok {l:List T39} (hl:∀ i,i < l.length→okA (l.getD i default)):∃ e,m24 l=some e∧(e=0→WfL l):=by
 rw[M24]
 split
 ·exact⟨_,rfl,fun h=>absurd h (by decide)⟩
 rename_i h60
 simp only[decide_eq_true_eq,Int.not_lt]at h60
 simp only[Option.bind_some,onS]
 obtain⟨e,he,k⟩:=err_loop (n:=l.length) (f:=fun i=>(m22 (l.getD i default)).getD 0) (b:=fun(s1:Int)=>((if(decide (s1 < (l.length:Int)))=true then(if(0≤s1)then(if(s1 < (l.length:Int))then(Option.bind (Option.bind (m22 (l.getD s1.toNat default)) fun r=>some r) fun x6=>(if(x6 != 0)=true then(some (.inr (.inr (x6))))else(some (.inl (IntKind.wrap .i64 (s1+1))))))else none)else none)else(some (.inr (.inl ())))):Option ((Int)⊕((Unit)⊕(Int))))) (fun i hi=>by
  obtain⟨e,he,_⟩:=Check_ok (hl i hi)
  simp only[inL hi,decide_true,if_true,Int.toNat_natCast,he,Option.bind_some,Option.getD_some,wr1 hi (by omega)]) (by simp only[lt_irr,decide_false,Bool.false_eq_true,if_false])
 refine⟨e,he,fun h0=>⟨by omega,fun i hi=>?_⟩⟩
 obtain⟨e,he,kk⟩:=Check_ok (hl i hi)
 have:=k.1 h0 i hi
 rw[he]at this
 exact kk this
end Go.Av.Air
set_option maxRecDepth 100000
namespace Go.Av.Air
def pt (a:T39) (i:Nat):T45:=a.Points.getD i default
def fwd (a:T39) (i:Nat):Bool:=decide (i+1 < a.Points.length)&&((pt a i).Dir != 2)
def bwd (a:T39) (i:Nat):Bool:=decide (0 < i)&&((pt a (i - 1)).Dir != 1)
def hopF (a:T39) (i:Nat):T49:=⟨a.Name,rf a (i+1),(pt a i).Alt⟩
def hopB (a:T39) (i:Nat):T49:=⟨a.Name,rf a (i - 1),(pt a (i - 1)).Alt⟩
def hopsI (a:T39) (i:Nat):List T49:=(if fwd a i=true then[hopF a i]else[])++(if bwd a i=true then[hopB a i]else[])
def hopsA (a:T39) (r:List UInt8):List T49:=if ixA a r < 0 then[]else hopsI a (ixA a r).toNat
def hopsL (l:List T39) (r:List UInt8):List T49:=(List.range l.length).flatMap fun k=>hopsA (l.getD k default) r
theorem hopsA_len (a:T39) (r:List UInt8):(hopsA a r).length≤2:=by
 unfold hopsA hopsI
 split
 ·simp
 ·split<;>split<;>simp
set_option maxHeartbeats 800000 in
theorem hops_round {a:T39} {r:List UInt8} (W:Wf a) {acc:List T49} (hacc:acc.length≤1000) {j:Int} :
  (Option.bind (Option.bind (m23 a r) fun r=>some r) fun x5=>(if(decide (x5 < 0))=true then(some (.inl (acc,j)))else(if(decide ((IntKind.wrap .i64 (x5+1)) < (a.Points.length:Int)))=true→(0≤x5)then(if(decide ((IntKind.wrap .i64 (x5+1)) < (a.Points.length:Int)))=true→(x5 < (a.Points.length:Int))then(if((decide ((IntKind.wrap .i64 (x5+1)) < (a.Points.length:Int)))&&((a.Points.getD x5.toNat default).Dir != 2))=true then(if(0≤(IntKind.wrap .i64 (x5+1)))then(if((IntKind.wrap .i64 (x5+1)) < (a.Points.length:Int))then(if(0≤x5)then(if(x5 < (a.Points.length:Int))then(if((acc.length+1) * 48≤140737488355328)then(if(decide (0 < x5))=true→(0≤(IntKind.wrap .i64 (x5 - 1)))then(if(decide (0 < x5))=true→((IntKind.wrap .i64 (x5 - 1)) < (a.Points.length:Int))then(if((decide (0 < x5))&&((a.Points.getD (IntKind.wrap .i64 (x5 - 1)).toNat default).Dir != 1))=true then(if(0≤(IntKind.wrap .i64 (x5 - 1)))then(if((IntKind.wrap .i64 (x5 - 1)) < (a.Points.length:Int))then(if(0≤(IntKind.wrap .i64 (x5 - 1)))then(if((IntKind.wrap .i64 (x5 - 1)) < (a.Points.length:Int))then(if(((acc.length+1)+1) * 48≤140737488355328)then(some (.inl (((acc++([(⟨a.Name,(a.Points.getD (IntKind.wrap .i64 (x5+1)).toNat default).Ref,(a.Points.getD x5.toNat default).Alt⟩:T49)]:List T49))++([(⟨a.Name,(a.Points.getD (IntKind.wrap .i64 (x5 - 1)).toNat default).Ref,(a.Points.getD (IntKind.wrap .i64 (x5 - 1)).toNat default).Alt⟩:T49)]:List T49)),j)))else none)else none)else none)else none)else none)else(some (.inl ((acc++([(⟨a.Name,(a.Points.getD (IntKind.wrap .i64 (x5+1)).toNat default).Ref,(a.Points.getD x5.toNat default).Alt⟩:T49)]:List T49)),j))))else none)else none)else none)else none)else none)else none)else none)else(if(decide (0 < x5))=true→(0≤(IntKind.wrap .i64 (x5 - 1)))then(if(decide (0 < x5))=true→((IntKind.wrap .i64 (x5 - 1)) < (a.Points.length:Int))then(if((decide (0 < x5))&&((a.Points.getD (IntKind.wrap .i64 (x5 - 1)).toNat default).Dir != 1))=true then(if(0≤(IntKind.wrap .i64 (x5 - 1)))then(if((IntKind.wrap .i64 (x5 - 1)) < (a.Points.length:Int))then(if(0≤(IntKind.wrap .i64 (x5 - 1)))then(if((IntKind.wrap .i64 (x5 - 1)) < (a.Points.length:Int))then(if((acc.length+1) * 48≤140737488355328)then(some (.inl ((acc++([(⟨a.Name,(a.Points.getD (IntKind.wrap .i64 (x5 - 1)).toNat default).Ref,(a.Points.getD (IntKind.wrap .i64 (x5 - 1)).toNat default).Alt⟩:T49)]:List T49)),j)))else none)else none)else none)else none)else none)else(some (.inl (acc,j))))else none)else none))else none)else none)):Option (((List T49)×Int)⊕(((List T49))⊕((List T49)))))=some (.inl (acc++hopsA a r,j)):=by
 have h40:=W.few
 rw[index_eq a r (by omega)]
 simp only[Option.bind_some]
 rcases ixA_cases a r with⟨h1,h2⟩ | ⟨k,h1,hk⟩
 ·rw[h1,if_pos (by decide)]
  unfold hopsA
  rw[h1,if_pos (by decide),List.append_nil]
 ·have hlt:=hk.lt
  have e1:IntKind.wrap .i64 ((k:Int)+1)=(k:Int)+1:=w64 (by omega) (by omega)
  have e2:IntKind.wrap .i64 ((k:Int) - 1)=(k:Int) - 1:=w64 (by omega) (by omega)
  have t1:((k:Int)+1).toNat=k+1:=by omega
  have t2:((k:Int) - 1).toNat=k - 1:=by omega
  have c1:decide ((k:Int)+1 < (a.Points.length:Int))=decide (k+1 < a.Points.length):=by simp only[decide_eq_decide];omega
  have c2:decide ((0:Int) < (k:Int))=decide (0 < k):=by simp only[decide_eq_decide];omega
  have g0:¬ (decide ((k:Int) < 0)=true):=by simp
  have p1:(acc.length+1) * 48≤140737488355328:=Nat.le_trans (Nat.mul_le_mul_right 48 (show acc.length+1≤1002 by omega)) (by decide)
  have p2:((acc.length+1)+1) * 48≤140737488355328:=Nat.le_trans (Nat.mul_le_mul_right 48 (show acc.length+1+1≤1002 by omega)) (by decide)
  have q1:(0:Int)≤(k:Int):=by omega
  have q2:(k:Int) < (a.Points.length:Int):=by omega
  have hA:hopsA a r=hopsI a k:=by
   unfold hopsA
   rw[h1,if_neg (by omega),Int.toNat_natCast]
  rw[h1,hA]
  simp only[e1,e2,t1,t2,c1,c2,if_neg g0,Int.toNat_natCast,q1,q2,implies_true,if_true,p1,p2]
  unfold hopsI fwd bwd hopF hopB rf pt
  by_cases f1:(decide (k+1 < a.Points.length)&&((a.Points.getD k default).Dir != 2))=true
  ·rw[if_pos f1,if_pos f1]
   have f2:k+1 < a.Points.length:=by simp only[Bool.and_eq_true,decide_eq_true_eq]at f1;exact f1.1
   rw[if_pos (by omega),if_pos (by omega)]
   by_cases b1:(decide (0 < k)&&((a.Points.getD (k - 1) default).Dir != 1))=true
   ·have b2:0 < k:=by simp only[Bool.and_eq_true,decide_eq_true_eq]at b1;exact b1.1
    have z1:(0:Int)≤(k:Int) - 1:=by omega
    have z2:(k:Int) - 1 < (a.Points.length:Int):=by omega
    simp only[z1,z2,implies_true,if_true,b1,List.append_assoc]
   ·have z1:decide (0 < k)=true→(0:Int)≤(k:Int) - 1:=fun h=>by have:=of_decide_eq_true h;omega
    have z2:decide (0 < k)=true→(k:Int) - 1 < (a.Points.length:Int):=fun h=>by omega
    rw[if_pos z1,if_pos z2,if_neg b1,if_neg b1,List.append_nil]
  ·rw[if_neg f1,if_neg f1,List.nil_append]
   by_cases b1:(decide (0 < k)&&((a.Points.getD (k - 1) default).Dir != 1))=true
   ·have b2:0 < k:=by simp only[Bool.and_eq_true,decide_eq_true_eq]at b1;exact b1.1
    have z1:(0:Int)≤(k:Int) - 1:=by omega
    have z2:(k:Int) - 1 < (a.Points.length:Int):=by omega
    simp only[z1,z2,implies_true,if_true,b1]
   ·have z1:decide (0 < k)=true→(0:Int)≤(k:Int) - 1:=fun h=>by have:=of_decide_eq_true h;omega
    have z2:decide (0 < k)=true→(k:Int) - 1 < (a.Points.length:Int):=fun h=>by omega
    rw[if_pos z1,if_pos z2,if_neg b1,if_neg b1,List.append_nil]
theorem hops_eq {l:List T39} (W:WfL l) (r:List UInt8):m25 l r=some (hopsL l r):=by
 have h60:=W.few
 rw[M25]
 simp only[Option.bind_some,onS]
 refine on_l (y:=hopsL l r) (loop_coll l.length (fun i acc=>(acc,(i:Int))) (fun k=>hopsA (l.getD k default) r) (fun acc=>(Sum.inl acc:(List T49)⊕(List T49))) (fun i hi=>?_) ?_) rfl
 ·simp only[inL hi,decide_true,if_true,Int.toNat_natCast,wr1 hi (by omega)]
  have hl:=flatMap_len (g:=fun k=>hopsA (l.getD k default) r) (m:=2) (fun i=>hopsA_len _ _) i
  exact hops_round (W.all i hi) (by omega)
 ·simp only[lt_irr,decide_false,Bool.false_eq_true,if_false]
theorem hopsL_len {l:List T39} (W:WfL l) (r:List UInt8):(hopsL l r).length≤120:=by
 have h60:=W.few
 have hl:=flatMap_len (g:=fun k=>hopsA (l.getD k default) r) (m:=2) (fun i=>hopsA_len _ _) l.length
 unfold hopsL
 omega
def Adj (l:List T39) (u v:List UInt8):Prop:=∃ k i,k < l.length∧i+1 < (l.getD k default).Points.length∧((u=rf (l.getD k default) i∧v=rf (l.getD k default) (i+1))∨(v=rf (l.getD k default) i∧u=rf (l.getD k default) (i+1)))
theorem hops_adj {l:List T39} {u:List UInt8} {h:T49} (hh:h∈hopsL l u):Adj l u h.To:=by
 unfold hopsL at hh
 obtain⟨k,hk,hh⟩:=List.mem_flatMap.1 hh
 have hk:=List.mem_range.1 hk
 unfold hopsA at hh
 split at hh
 ·cases hh
 ·rename_i hge
  rcases ixA_cases (l.getD k default) u with⟨h1,_⟩ | ⟨i,h1,hi⟩
  ·rw[h1]at hge;exact absurd (by decide) hge
  ·rw[h1,Int.toNat_natCast]at hh
   unfold hopsI at hh
   rcases List.mem_append.1 hh with hh | hh
   ·split at hh
    ·rename_i hf
     simp only[List.mem_singleton]at hh
     subst hh
     unfold fwd at hf
     simp only[Bool.and_eq_true,decide_eq_true_eq]at hf
     exact⟨k,i,hk,hf.1,.inl ⟨hi.ref.symm,rfl⟩⟩
    ·cases hh
   ·split at hh
    ·rename_i hf
     simp only[List.mem_singleton]at hh
     subst hh
     unfold bwd at hf
     simp only[Bool.and_eq_true,decide_eq_true_eq]at hf
     have:=hi.lt
     exact⟨k,i - 1,hk,by omega,.inr ⟨rfl,by rw[show i - 1+1=i by omega];exact hi.ref.symm⟩⟩
    ·cases hh
end Go.Av.Air
set_option maxRecDepth 100000
namespace Go.Av.Air
theorem M28 (a0:T54):m28 a0=((if(a0.Ident.length+([47]:List UInt8).length≤9223372036854775807)then(if((a0.Ident++([47]:List UInt8)).length+a0.Region.length≤9223372036854775807)then(some ((a0.Ident++([47]:List UInt8))++a0.Region))else none)else none):Option ((List UInt8))):=by kernel_rfl
theorem M27o0 (a0:T54) (a1:List UInt8):m27o0 a0 a1=((Option.bind (Option.bind (m28 a0) fun r=>some r) fun x1=>(some (x1==a1))):Option (Bool)):=by kernel_rfl
theorem M26o0 (a0:List T54) (a1:List UInt8):m26o0 a0 a1=((Option.bind (some (.inl ())) (onS fun(_:Unit)=>(Option.bind (Option.bind (some (.inl ())) (onS fun(_:Unit)=>(loopO (fun(s1:Int)=>((if(decide (s1 < (a0.length:Int)))=true then(Option.bind ((if 0≤s1 then(if s1 < (a0.length:Int)then((m27o0 (a0.getD s1.toNat default) a1).bind fun r4_0=>some r4_0)else none)else none)) fun(x4:(Bool))=>(if x4=true then(some (.inr (.inr (s1))))else(some (.inl (IntKind.wrap .i64 (s1+1))))))else(some (.inr (.inl ())))):Option ((Int)⊕((Unit)⊕(Int))))) (0:Int)))) (onS fun(_:Unit)=>(some (-1:Int)))))):Option (Int)):=by kernel_rfl
theorem M9 (a0:List T54) (a1:List UInt8):m9 a0 a1=((Option.bind (Option.bind (m26o0 a0 a1) fun r=>some r) fun x1=>(if(decide (x1 < 0))=true then(some ((⟨([]:List UInt8),([]:List UInt8),(0:Int),(⟨(0:Int),(0:Int)⟩:T52),(0:Int),(0:Int)⟩:T54),false))else(if(0≤x1)then(if(x1 < (a0.length:Int))then(some ((a0.getD x1.toNat default),true))else none)else none))):Option (T54×Bool)):=by kernel_rfl
theorem M17o1 (a0:List T39) (a1:List T54) (a2 a3:List UInt8):m17o1 a0 a1 a2 a3=((Option.bind (Option.bind (Option.bind (m24 a0) fun r=>some r) fun x1=>(if(x1 != 0)=true then(some (.inr (x1)))else(if(decide (400 < (a1.length:Int)))=true then(some (.inr ((3:Int))))else(some (.inl ()))))) (onS fun(_:Unit)=>(Option.bind (Option.bind (some (.inl ())) (onS fun(_:Unit)=>(loopO (fun(s1:Int×Nat×(List UInt8→Bool)×(List UInt8→T52))=>((if(decide (s1.1 < (a1.length:Int)))=true then(if(0≤s1.1)then(if(s1.1 < (a1.length:Int))then(Option.bind (Option.bind (m28 (a1.getD s1.1.toNat default)) fun r=>some r) fun x10=>(if(x10.length≤maxLen)then(if(!(s1.2.2.1 x10))=true then(if(x10.length≤maxLen)then(if(s1.2.1 < maxLen)then(some (.inl ((IntKind.wrap .i64 (s1.1+1)),(if s1.2.2.1 x10=true then s1.2.1 else s1.2.1+1),(fun q=>q==x10 || s1.2.2.1 q),(fun q=>if q=x10 then(a1.getD s1.1.toNat default).Pos else s1.2.2.2 q))))else none)else none)else(some (.inl ((IntKind.wrap .i64 (s1.1+1)),s1.2.1,s1.2.2.1,s1.2.2.2))))else none))else none)else none)else(some (.inr (.inl (s1.2.1,s1.2.2.1,s1.2.2.2))))):Option ((Int×Nat×(List UInt8→Bool)×(List UInt8→T52))⊕((Nat×(List UInt8→Bool)×(List UInt8→T52))⊕(Int))))) ((0:Int),0,(fun _=>false),(fun _=>(⟨(0:Int),(0:Int)⟩:T52)))))) (onS fun(y2:Nat×(List UInt8→Bool)×(List UInt8→T52))=>(Option.bind (Option.bind ((some ())) fun(x15:(Unit))=>(some (.inl ()))) (onS fun(_:Unit)=>(Option.bind (Option.bind (some (.inl ())) (onS fun(_:Unit)=>(loopO (fun(s3:(List (List UInt8))×Int)=>((Option.bind (if(decide (s3.2 < (a0.length:Int)))=true then(some (.inl ()))else(some (.inr (.inr (.inl s3.1))))) (onS fun(_:Unit)=>(Option.bind (Option.bind (if(0≤s3.2)then(if(s3.2 < (a0.length:Int))then(some (.inl ()))else none)else none) (onS fun(_:Unit)=>(loopO (fun(s4:(List (List UInt8))×Int)=>((if(decide (s4.2 < ((a0.getD s3.2.toNat default).Points.length:Int)))=true then(if(0≤s4.2)then(if(s4.2 < ((a0.getD s3.2.toNat default).Points.length:Int))then(Option.bind ((if(s4.1.length+1) * 16≤140737488355328 then some ()else none)) fun(x22:(Unit))=>(some (.inl ((s4.1++([((a0.getD s3.2.toNat default).Points.getD s4.2.toNat default).Ref]:List (List UInt8))),(IntKind.wrap .i64 (s4.2+1))))))else none)else none)else(some (.inr (.inl s4.1)))):Option (((List (List UInt8))×Int)⊕(((List (List UInt8)))⊕(((List (List UInt8))×Int)⊕(((List (List UInt8)))⊕(Int))))))) (s3.1,(0:Int))))) (onS fun(y5:(List (List UInt8)))=>(some (.inl (y5,(IntKind.wrap .i64 (s3.2+1))))))))):Option (((List (List UInt8))×Int)⊕(((List (List UInt8)))⊕(Int))))) (([a2,a3]:List (List UInt8)),(0:Int))))) (onS fun(y6:(List (List UInt8)))=>(Option.bind (Option.bind (some (.inl ())) (onS fun(_:Unit)=>(loopO (fun(s7:Int)=>((if(decide (s7 < (y6.length:Int)))=true then(if(0≤s7)then(if(s7 < (y6.length:Int))then(if(s7.toNat < y6.length)then(if((y6.getD s7.toNat default).length≤maxLen)then(if(!(y2.2.1 (y6.getD s7.toNat default)))=true then(some (.inr (.inr ((6:Int)))))else(some (.inl (IntKind.wrap .i64 (s7+1)))))else none)else none)else none)else none)else(some (.inr (.inl ())))):Option ((Int)⊕((Unit)⊕(Int))))) (0:Int)))) (onS fun(_:Unit)=>(Option.bind (Option.bind (some (.inl ())) (onS fun(_:Unit)=>(loopO (fun(s8:Int)=>((Option.bind (if(decide (s8 < (a0.length:Int)))=true then(some (.inl ()))else(some (.inr (.inr (.inl ()))))) (onS fun(_:Unit)=>(Option.bind (Option.bind (if(0≤s8)then(if(s8 < (a0.length:Int))then(some (.inl ()))else none)else none) (onS fun(_:Unit)=>(loopO (fun(s9:Int)=>((if(decide (s9 < ((a0.getD s8.toNat default).Points.length:Int)))=true then(Option.bind ((if 0≤(IntKind.wrap .i64 (s9 - 1))then(if(IntKind.wrap .i64 (s9 - 1)) < ((a0.getD s8.toNat default).Points.length:Int)then(if((a0.getD s8.toNat default).Points.getD (IntKind.wrap .i64 (s9 - 1)).toNat default).Ref.length≤maxLen then(if 0≤s9 then(if s9 < ((a0.getD s8.toNat default).Points.length:Int)then(if((a0.getD s8.toNat default).Points.getD s9.toNat default).Ref.length≤maxLen then((m10 (y2.2.2 ((a0.getD s8.toNat default).Points.getD (IntKind.wrap .i64 (s9 - 1)).toNat default).Ref) (y2.2.2 ((a0.getD s8.toNat default).Points.getD s9.toNat default).Ref)).bind fun r38_0=>some r38_0)else none)else none)else none)else none)else none)else none)) fun(x38:((Int×Int)))=>(if(x38.2 != 0)=true then(some (.inr (.inr (.inr (.inr (x38.2))))))else(some (.inl (IntKind.wrap .i64 (s9+1))))))else(some (.inr (.inl ())))):Option ((Int)⊕((Unit)⊕((Int)⊕((Unit)⊕(Int))))))) (1:Int)))) (onS fun(_:Unit)=>(some (.inl (IntKind.wrap .i64 (s8+1)))))))):Option ((Int)⊕((Unit)⊕(Int))))) (0:Int)))) (onS fun(_:Unit)=>none)))))))))))):Option (Int)):=by kernel_rfl
theorem M17o2 (a0:List T39) (a1:List T54) (a2 a3:List UInt8):m17o2 a0 a1 a2 a3=((Option.bind (Option.bind (Option.bind (m24 a0) fun r=>some r) fun x1=>(if(x1 != 0)=true then none else(if(decide (400 < (a1.length:Int)))=true then none else(some (.inl ()))))) (onS fun(_:Unit)=>(Option.bind (Option.bind (some (.inl ())) (onS fun(_:Unit)=>(loopO (fun(s1:Int×Nat×(List UInt8→Bool)×(List UInt8→T52))=>((if(decide (s1.1 < (a1.length:Int)))=true then(if(0≤s1.1)then(if(s1.1 < (a1.length:Int))then(Option.bind (Option.bind (m28 (a1.getD s1.1.toNat default)) fun r=>some r) fun x10=>(if(x10.length≤maxLen)then(if(!(s1.2.2.1 x10))=true then(if(x10.length≤maxLen)then(if(s1.2.1 < maxLen)then(some (.inl ((IntKind.wrap .i64 (s1.1+1)),(if s1.2.2.1 x10=true then s1.2.1 else s1.2.1+1),(fun q=>q==x10 || s1.2.2.1 q),(fun q=>if q=x10 then(a1.getD s1.1.toNat default).Pos else s1.2.2.2 q))))else none)else none)else(some (.inl ((IntKind.wrap .i64 (s1.1+1)),s1.2.1,s1.2.2.1,s1.2.2.2))))else none))else none)else none)else(some (.inr (.inl (s1.2.1,s1.2.2.1,s1.2.2.2))))):Option ((Int×Nat×(List UInt8→Bool)×(List UInt8→T52))⊕((Nat×(List UInt8→Bool)×(List UInt8→T52))⊕(Nat×(List UInt8→Bool)×(List UInt8→T52)))))) ((0:Int),0,(fun _=>false),(fun _=>(⟨(0:Int),(0:Int)⟩:T52)))))) (onS fun(y2:Nat×(List UInt8→Bool)×(List UInt8→T52))=>(Option.bind (Option.bind ((some ())) fun(x15:(Unit))=>(some (.inl ()))) (onS fun(_:Unit)=>(Option.bind (Option.bind (some (.inl ())) (onS fun(_:Unit)=>(loopO (fun(s3:(List (List UInt8))×Int)=>((Option.bind (if(decide (s3.2 < (a0.length:Int)))=true then(some (.inl ()))else(some (.inr (.inr (.inl s3.1))))) (onS fun(_:Unit)=>(Option.bind (Option.bind (if(0≤s3.2)then(if(s3.2 < (a0.length:Int))then(some (.inl ()))else none)else none) (onS fun(_:Unit)=>(loopO (fun(s4:(List (List UInt8))×Int)=>((if(decide (s4.2 < ((a0.getD s3.2.toNat default).Points.length:Int)))=true then(if(0≤s4.2)then(if(s4.2 < ((a0.getD s3.2.toNat default).Points.length:Int))then(Option.bind ((if(s4.1.length+1) * 16≤140737488355328 then some ()else none)) fun(x22:(Unit))=>(some (.inl ((s4.1++([((a0.getD s3.2.toNat default).Points.getD s4.2.toNat default).Ref]:List (List UInt8))),(IntKind.wrap .i64 (s4.2+1))))))else none)else none)else(some (.inr (.inl s4.1)))):Option (((List (List UInt8))×Int)⊕(((List (List UInt8)))⊕(((List (List UInt8))×Int)⊕(((List (List UInt8)))⊕(Nat×(List UInt8→Bool)×(List UInt8→T52)))))))) (s3.1,(0:Int))))) (onS fun(y5:(List (List UInt8)))=>(some (.inl (y5,(IntKind.wrap .i64 (s3.2+1))))))))):Option (((List (List UInt8))×Int)⊕(((List (List UInt8)))⊕(Nat×(List UInt8→Bool)×(List UInt8→T52)))))) (([a2,a3]:List (List UInt8)),(0:Int))))) (onS fun(y6:(List (List UInt8)))=>(Option.bind (Option.bind (some (.inl ())) (onS fun(_:Unit)=>(loopO (fun(s7:Int)=>((if(decide (s7 < (y6.length:Int)))=true then(if(0≤s7)then(if(s7 < (y6.length:Int))then(if(s7.toNat < y6.length)then(if((y6.getD s7.toNat default).length≤maxLen)then(if(!(y2.2.1 (y6.getD s7.toNat default)))=true then none else(some (.inl (IntKind.wrap .i64 (s7+1)))))else none)else none)else none)else none)else(some (.inr (.inl ())))):Option ((Int)⊕((Unit)⊕(Nat×(List UInt8→Bool)×(List UInt8→T52)))))) (0:Int)))) (onS fun(_:Unit)=>(Option.bind (Option.bind (some (.inl ())) (onS fun(_:Unit)=>(loopO (fun(s8:Int)=>((Option.bind (if(decide (s8 < (a0.length:Int)))=true then(some (.inl ()))else(some (.inr (.inr (.inl ()))))) (onS fun(_:Unit)=>(Option.bind (Option.bind (if(0≤s8)then(if(s8 < (a0.length:Int))then(some (.inl ()))else none)else none) (onS fun(_:Unit)=>(loopO (fun(s9:Int)=>((if(decide (s9 < ((a0.getD s8.toNat default).Points.length:Int)))=true then(Option.bind ((if 0≤(IntKind.wrap .i64 (s9 - 1))then(if(IntKind.wrap .i64 (s9 - 1)) < ((a0.getD s8.toNat default).Points.length:Int)then(if((a0.getD s8.toNat default).Points.getD (IntKind.wrap .i64 (s9 - 1)).toNat default).Ref.length≤maxLen then(if 0≤s9 then(if s9 < ((a0.getD s8.toNat default).Points.length:Int)then(if((a0.getD s8.toNat default).Points.getD s9.toNat default).Ref.length≤maxLen then((m10 (y2.2.2 ((a0.getD s8.toNat default).Points.getD (IntKind.wrap .i64 (s9 - 1)).toNat default).Ref) (y2.2.2 ((a0.getD s8.toNat default).Points.getD s9.toNat default).Ref)).bind fun r38_0=>some r38_0)else none)else none)else none)else none)else none)else none)) fun(x38:((Int×Int)))=>(if(x38.2 != 0)=true then none else(some (.inl (IntKind.wrap .i64 (s9+1))))))else(some (.inr (.inl ())))):Option ((Int)⊕((Unit)⊕((Int)⊕((Unit)⊕(Nat×(List UInt8→Bool)×(List UInt8→T52)))))))) (1:Int)))) (onS fun(_:Unit)=>(some (.inl (IntKind.wrap .i64 (s8+1)))))))):Option ((Int)⊕((Unit)⊕(Nat×(List UInt8→Bool)×(List UInt8→T52)))))) (0:Int)))) (onS fun(_:Unit)=>(some (y2.1,y2.2.1,y2.2.2)))))))))))))):Option (Nat×(List UInt8→Bool)×(List UInt8→T52))):=by kernel_rfl
theorem M37o1 (a0 a1:List UInt8) (a2:Nat) (a3:(List UInt8→Bool)) (a4:(List UInt8→T52)):m37o1 a0 a1 a2 a3 a4=((Option.bind ((if a0.length≤maxLen then(if a1.length≤maxLen then((m10 (a4 a0) (a4 a1)).bind fun r1_0=>some r1_0)else none)else none)) fun(x1:((Int×Int)))=>(some x1.1)):Option (Int)):=by kernel_rfl
def fx (l:List T54) (i:Nat):T54:=l.getD i default
def refF (f:T54):List UInt8:=(f.Ident++([47]:List UInt8))++f.Region
def okF (l:List T54):Prop:=∀ i,i < l.length→(fx l i).Ident.length≤140737488355328∧(fx l i).Region.length≤140737488355328
theorem refF_len {f:T54} (h:f.Ident.length≤140737488355328∧f.Region.length≤140737488355328):(refF f).length≤maxLen:=by
 have hm:maxLen=9223372036854775807:=rfl
 unfold refF
 simp only[List.length_append,List.length_singleton]
 omega
theorem ref_eq {f:T54} (h:f.Ident.length≤140737488355328∧f.Region.length≤140737488355328):m28 f=some (refF f):=by
 rw[M28,if_pos (by simp only[List.length_singleton];omega),if_pos (by simp only[List.length_append,List.length_singleton];omega)]
 rfl
def atH (l:List T54) (n:Nat) (r:List UInt8):Bool:=anyR (fun i=>refF (fx l i)==r) n
def atF (l:List T54) (n:Nat) (r:List UInt8):T52:=(firstR (fun i=>if(refF (fx l i)==r)=true then some (fx l i).Pos else none) n).getD ⟨0,0⟩
theorem atH_succ {l:List T54} {n:Nat} {r:List UInt8}:atH l (n+1) r=(atH l n r || (refF (fx l n)==r)):=by
 unfold atH anyR
 rw[List.range_succ,List.any_append]
 simp
theorem atF_succ {l:List T54} {n:Nat} {r:List UInt8}:atF l (n+1) r=if atH l n r=true then atF l n r else if(refF (fx l n)==r)=true then(fx l n).Pos else⟨0,0⟩:=by
 unfold atF
 rw[firstR_succ]
 have hs:=firstR_any (F:=fun i=>refF (fx l i)==r) (g:=fun i=>(fx l i).Pos) (n:=n)
 cases h:firstR (fun i=>if(refF (fx l i)==r)=true then some (fx l i).Pos else none) n with
 | some y =>
  rw[h]at hs
  have:atH l n r=true:=hs.symm
  rw[this,if_pos rfl]
 | none =>
  rw[h]at hs
  have:atH l n r=false:=hs.symm
  rw[this]
  simp only[Bool.false_eq_true,if_false]
  split<;>rfl
theorem atF_none {l:List T54} {n:Nat} {r:List UInt8} (h:atH l n r=false):atF l n r=⟨0,0⟩:=by
 have hs:=firstR_any (F:=fun i=>refF (fx l i)==r) (g:=fun i=>(fx l i).Pos) (n:=n)
 unfold atF
 cases h2:firstR (fun i=>if(refF (fx l i)==r)=true then some (fx l i).Pos else none) n with
 | none=>rfl
 | some y =>
  rw[h2]at hs
  have:atH l n r=true:=hs.symm
  rw[this]at h;cases h
theorem find_eq {l:List T54} (hl:okF l) (hn:l.length≤400) {r:List UInt8} (h:atH l l.length r=true):∃ f,m9 l r=some (f,true)∧f.Pos=atF l l.length r:=by
 rw[M9,M26o0]
 have key:=loop_ex (k:=fun _=>some (-1:Int)) (b:=fun(s1:Int)=>((if(decide (s1 < (l.length:Int)))=true then(Option.bind ((if 0≤s1 then(if s1 < (l.length:Int)then((m27o0 (l.getD s1.toNat default) r).bind fun r4_0=>some r4_0)else none)else none)) fun(x4:(Bool))=>(if x4=true then(some (.inr (.inr (s1))))else(some (.inl (IntKind.wrap .i64 (s1+1))))))else(some (.inr (.inl ())))):Option ((Int)⊕((Unit)⊕(Int))))) l.length (fun i=>if(refF (fx l i)==r)=true then some (i:Int)else none) (fun i hi=>by
  have e:m27o0 (l.getD i default) r=some (refF (fx l i)==r):=by
   rw[M27o0]
   have:m28 (l.getD i default)=some (refF (fx l i)):=ref_eq (hl i hi)
   rw[this];rfl
  simp only[exB_ite,exB_some,exB_none]
  simp only[inL hi,decide_true,Int.toNat_natCast,if_true,e,Option.bind_some,wr1 hi (by omega)]) (by simp only[lt_irr,decide_false,Bool.false_eq_true,if_false])
 simp only[Option.bind_some,onS]
 rw[key]
 have e1:orK (firstR (fun i=>if(refF (fx l i)==r)=true then some (i:Int)else none) l.length) (some (-1:Int))=some (findR (fun i=>refF (fx l i)==r) l.length):=orK_getD
 rw[e1]
 simp only[Option.bind_some]
 rcases findR_cases (F:=fun i=>refF (fx l i)==r) (n:=l.length) with⟨h1,h2⟩ | ⟨i,h1,h2,h3,h4⟩
 ·have:=anyR_iff.1 h
  obtain⟨j,hj,hF⟩:=this
  rw[h2 j hj]at hF;cases hF
 ·rw[h2,if_neg (by simp),if_pos (by omega),if_pos (by omega),Int.toNat_natCast]
  refine⟨_,rfl,?_⟩
  unfold atF
  rw[firstR_at h1 (fun j hj=>by simp only[h4 j hj,Bool.false_eq_true,if_false]) (by simp only[h3,if_true]:(if(refF (fx l i)==r)=true then some (fx l i).Pos else none)=some (fx l i).Pos)]
  rfl
abbrev AtS:=Nat×(List UInt8→Bool)×(List UInt8→T52)
def atG (l:List T54) (i:Nat) (s:AtS):AtS:=if(!(s.2.1 (refF (fx l i))))=true then((if s.2.1 (refF (fx l i))=true then s.1 else s.1+1),(fun q=>q==refF (fx l i) || s.2.1 q),(fun q=>if q=refF (fx l i)then(fx l i).Pos else s.2.2 q))else s
def AtI (l:List T54) (i:Nat) (s:AtS):Prop:=s.1≤i∧s.2.1=atH l i∧s.2.2=atF l i
theorem atG_step {l:List T54} {i:Nat} {s:AtS} (h:AtI l i s):AtI l (i+1) (atG l i s):=by
 obtain⟨h1,h2,h3⟩:=h
 unfold atG
 cases hc:s.2.1 (refF (fx l i)) with
 | true =>
  simp only[Bool.not_true,Bool.false_eq_true,if_false]
  rw[h2]at hc
  refine⟨by omega,?_,?_⟩
  ·rw[h2];funext q
   rw[atH_succ]
   by_cases e:refF (fx l i)=q
   ·subst e;rw[hc];rfl
   ·rw[show (refF (fx l i)==q)=false by simpa using e,Bool.or_false]
  ·rw[h3];funext q
   rw[atF_succ]
   by_cases e:refF (fx l i)=q
   ·subst e;rw[if_pos hc]
   ·by_cases hq:atH l i q=true
    ·rw[if_pos hq]
    ·rw[if_neg hq,if_neg (by simpa using e),atF_none (by simpa using hq)]
 | false =>
  simp only[Bool.not_false,if_true,Bool.false_eq_true,if_false]
  rw[h2]at hc
  refine⟨by show s.1+1≤i+1;omega,?_,?_⟩
  ·funext q
   rw[atH_succ,h2,Bool.or_comm]
   have e:(q==refF (fx l i))=(refF (fx l i)==q):=by rw[Bool.eq_iff_iff,beq_iff_eq,beq_iff_eq];exact⟨fun h=>h.symm,fun h=>h.symm⟩
   show (q==refF (fx l i) || atH l i q)=_
   rw[e]
  ·funext q
   show (if q=refF (fx l i)then(fx l i).Pos else s.2.2 q)=_
   rw[atF_succ,h3]
   by_cases e:q=refF (fx l i)
   ·subst e;rw[if_pos rfl,if_neg (by rw[hc];decide),if_pos (by simp)]
   ·rw[if_neg e]
    by_cases hq:atH l i q=true
    ·rw[if_pos hq]
    ·rw[if_neg hq,if_neg (by simpa using fun h=>e h.symm),atF_none (by simpa using hq)]
theorem at_zero (l:List T54):AtI l 0 (0,(fun _=>false),(fun _=>(⟨(0:Int),(0:Int)⟩:T52))):=⟨Nat.le_refl _,rfl,rfl⟩
def refsL (l:List T39):List (List UInt8):=(List.range l.length).flatMap fun k=>(List.range (l.getD k default).Points.length).map fun i=>rf (l.getD k default) i
structure Atl (l:List T39) (fs:List T54) (u v:List UInt8):Prop where
 wf:WfL l
 few:fs.length≤400
 fr:atH fs fs.length u=true
 to:atH fs fs.length v=true
 all:∀ k i,k < l.length→i < (l.getD k default).Points.length→atH fs fs.length (rf (l.getD k default) i)=true
 val:∀ k i,k < l.length→i+1 < (l.getD k default).Points.length→validB (atF fs fs.length (rf (l.getD k default) i))=true∧validB (atF fs fs.length (rf (l.getD k default) (i+1)))=true
end Go.Av.Air
set_option maxRecDepth 100000
namespace Go.Av.Air
noncomputable def distD (p q:T52):Int:=((m10 p q).getD (0,0)).1
noncomputable def distE (p q:T52):Int:=((m10 p q).getD (0,0)).2
theorem dist_eq (p q:T52):m10 p q=some (distD p q,distE p q):=by
 obtain⟨d,e,h,_⟩:=dist_ok p q
 unfold distD distE
 rw[h];rfl
theorem distD_range (p q:T52):0≤distD p q∧distD p q≤64800000:=by
 obtain⟨d,e,h,_,h2⟩:=dist_ok p q
 unfold distD
 rw[h];exact h2
theorem distE_iff (p q:T52):distE p q=0↔(validB p=true∧validB q=true):=by
 obtain⟨d,e,h,h1,_⟩:=dist_ok p q
 unfold distE
 rw[h];exact h1
theorem at_loop {X:Type} {fs:List T54} (hf:okF fs) (h4:fs.length≤400) {b:(Int×AtS)→Option ((Int×AtS)⊕(AtS⊕X))}
  (hb:∀ (i:Nat) (s:AtS),i < fs.length→s.1≤400→b ((i:Int),s)=some (.inl (((i+1:Nat):Int),atG fs i s))) (he:∀ s,b ((fs.length:Int),s)=some (.inr (.inl s))) :
  ∃ s,loopO b ((0:Int),(0,(fun _=>false),(fun _=>(⟨(0:Int),(0:Int)⟩:T52))))=some (.inl s)∧AtI fs fs.length s:=by
 have:=loop_fold (b:=b) fs.length (fun i s=>((i:Int),s)) (atG fs) (fun i s=>AtI fs i s) (fun s=>(Sum.inl s:AtS⊕X)) _ (at_zero fs)
  (fun i s hi hs=>⟨hb i s hi (by have:=hs.1;omega),atG_step hs⟩) (fun s hs=>he s)
 exact⟨_,this⟩
theorem at_round {fs:List T54} (hf:okF fs) (h4:fs.length≤400) {i:Nat} (hi:i < fs.length) (s:AtS) (hs:s.1≤400) {Z:Type} :
  (if(0≤(i:Int))then(if((i:Int) < (fs.length:Int))then(Option.bind (Option.bind (m28 (fs.getD i default)) fun r=>some r) fun x10=>(if(x10.length≤maxLen)then(if(!(s.2.1 x10))=true then(if(x10.length≤maxLen)then(if(s.1 < maxLen)then(some (.inl (((i:Int)+1),(if s.2.1 x10=true then s.1 else s.1+1),(fun q=>q==x10 || s.2.1 q),(fun q=>if q=x10 then(fs.getD i default).Pos else s.2.2 q))))else none)else none)else(some (.inl (((i:Int)+1),s.1,s.2.1,s.2.2))))else none))else none)else none:Option ((Int×AtS)⊕Z))=some (.inl (((i+1:Nat):Int),atG fs i s)):=by
 have hr:m28 (fs.getD i default)=some (refF (fx fs i)):=ref_eq (hf i hi)
 have hl:=refF_len (hf i hi)
 have hm:s.1 < maxLen:=by have:maxLen=9223372036854775807:=rfl;omega
 rw[if_pos (by omega),if_pos (by omega),hr]
 simp only[Option.bind_some,hl,hm,if_true]
 unfold atG
 split<;>rfl
theorem refs_round {a:T39} (W:Wf a) {acc:List (List UInt8)} (hacc:acc.length≤5000) {X:Type} {b:(List (List UInt8)×Int)→Option ((List (List UInt8)×Int)⊕(List (List UInt8)⊕X))}
  (hb:∀ (x:List (List UInt8)) (i:Nat),i < a.Points.length→x.length≤6000→b (x,(i:Int))=some (.inl (x++[rf a i],(i:Int)+1))) (he:∀ x,b (x,(a.Points.length:Int))=some (.inr (.inl x))) :
  loopO b (acc,0)=some (.inl (acc++(List.range a.Points.length).map fun i=>rf a i)):=by
 have h40:=W.few
 have key:∀ k i,i+k=a.Points.length→loopO b (acc++(List.range i).map (fun i=>rf a i),(i:Int))=some (.inl (acc++(List.range a.Points.length).map fun i=>rf a i)):=by
  intro k
  induction k with
  | zero =>
   intro i hk
   obtain rfl:i=a.Points.length:=by omega
   rw[loopO_eq,he];rfl
  | succ k ih =>
   intro i hk
   rw[loopO_eq,hb _ i (by omega) (by simp only[List.length_append,List.length_map,List.length_range];omega)]
   have:=ih (i+1) (by omega)
   rw[List.range_succ,List.map_append,← List.append_assoc]at this
   exact this
 have:=key a.Points.length 0 (by omega)
 simpa using this
def refsK (l:List T39) (k:Nat):List (List UInt8):=(List.range (l.getD k default).Points.length).map fun i=>rf (l.getD k default) i
theorem refsL_eq (l:List T39):refsL l=(List.range l.length).flatMap (refsK l):=rfl
theorem refsK_len {l:List T39} (W:WfL l) {k:Nat} (hk:k < l.length):(refsK l k).length≤40:=by
 unfold refsK
 rw[List.length_map,List.length_range]
 exact(W.all k hk).few
theorem refs_len {l:List T39} (W:WfL l):∀ n,n≤l.length→((List.range n).flatMap (refsK l)).length≤n * 40
 | 0,_=>by simp
 | n+1,h=>by
  have h1:=refs_len W n (by omega)
  have h2:=refsK_len W (k:=n) (by omega)
  rw[flatMap_app,List.length_append,Nat.succ_mul];omega
theorem refs_loop {l:List T39} (W:WfL l) {u v:List UInt8} {X:Type} {b:(List (List UInt8)×Int)→Option ((List (List UInt8)×Int)⊕(List (List UInt8)⊕X))}
  (hb:∀ (x:List (List UInt8)) (k:Nat),k < l.length→x.length≤5000→b (x,(k:Int))=some (.inl (x++refsK l k,(k:Int)+1))) (he:∀ x,b (x,(l.length:Int))=some (.inr (.inl x))) :
  loopO b ([u,v],0)=some (.inl ([u,v]++refsL l)):=by
 have h60:=W.few
 have key:∀ k i,i+k=l.length→loopO b ([u,v]++(List.range i).flatMap (refsK l),(i:Int))=some (.inl ([u,v]++refsL l)):=by
  intro k
  induction k with
  | zero =>
   intro i hk
   obtain rfl:i=l.length:=by omega
   rw[loopO_eq,he];rfl
  | succ k ih =>
   intro i hk
   have hl:=refs_len W i (by omega)
   rw[loopO_eq,hb _ i (by omega) (by simp only[List.length_append,List.length_cons,List.length_nil];omega)]
   have:=ih (i+1) (by omega)
   rw[flatMap_app,← List.append_assoc]at this
   exact this
 have:=key l.length 0 (by omega)
 simpa using this
theorem mem_refs {l:List T39} {r:List UInt8}:r∈refsL l↔∃ k i,k < l.length∧i < (l.getD k default).Points.length∧r=rf (l.getD k default) i:=by
 unfold refsL
 simp only[List.mem_flatMap,List.mem_range,List.mem_map]
 constructor
 ·rintro⟨k,hk,i,hi,rfl⟩;exact⟨k,i,hk,hi,rfl⟩
 ·rintro⟨k,i,hk,hi,rfl⟩;exact⟨k,hk,i,hi,rfl⟩
theorem loop_one {R:Type} {b:Int→Option (Int⊕(Unit⊕R))} (n:Nat) (hn:1≤n) (f:Nat→Option R) (hb:∀ i:Nat,1≤i→i < n→b i=exB (f i) ((i:Int)+1)) (hd:b n=some (.inr (.inl ()))) :
  (∃ i y,1≤i∧i < n∧f i=some y∧loopO b 1=some (.inr y))∨((∀ i,1≤i→i < n→f i=none)∧loopO b 1=some (.inl ())):=by
 have key:∀ k i,1≤i→i+k=n→(∃ j y,i≤j∧j < n∧f j=some y∧loopO b (i:Int)=some (.inr y))∨((∀ j,i≤j→j < n→f j=none)∧loopO b (i:Int)=some (.inl ())):=by
  intro k
  induction k with
  | zero =>
   intro i h1 hk
   obtain rfl:i=n:=by omega
   exact .inr ⟨fun j h1 h2=>by omega,by rw[loopO_eq,hd];rfl⟩
  | succ k ih =>
   intro i h1 hk
   rw[loopO_eq,hb i h1 (by omega)]
   cases hf:f i with
   | some y=>exact .inl ⟨i,y,Nat.le_refl _,by omega,hf,rfl⟩
   | none =>
    rw[exB_none]
    rcases ih (i+1) (by omega) (by omega) with⟨j,y,q1,q2,q3,q4⟩ | ⟨q1,q2⟩
    ·exact .inl ⟨j,y,by omega,q2,q3,q4⟩
    ·exact .inr ⟨fun j j1 j2=>by
      by_cases e:j=i
      ·rw[e];exact hf
      ·exact q1 j (by omega) j2,q2⟩
 rcases key (n - 1) 1 (Nat.le_refl _) (by omega) with⟨j,y,q1,q2,q3,q4⟩ | ⟨q1,q2⟩
 ·exact .inl ⟨j,y,q1,q2,q3,q4⟩
 ·exact .inr ⟨q1,q2⟩
end Go.Av.Air
set_option maxRecDepth 100000
namespace Go.Av.Air
structure OkD (l:List T39) (fs:List T54):Prop where
 a:∀ k,k < l.length→okA (l.getD k default)
 f:okF fs
noncomputable abbrev atB (X:Type) (fs:List T54):Int×AtS→Option ((Int×AtS)⊕(AtS⊕X)):=fun s1=>(if(decide (s1.1 < (fs.length:Int)))=true then(if(0≤s1.1)then(if(s1.1 < (fs.length:Int))then(Option.bind (Option.bind (m28 (fs.getD s1.1.toNat default)) fun r=>some r) fun x10=>(if(x10.length≤maxLen)then(if(!(s1.2.2.1 x10))=true then(if(x10.length≤maxLen)then(if(s1.2.1 < maxLen)then(some (.inl ((IntKind.wrap .i64 (s1.1+1)),(if s1.2.2.1 x10=true then s1.2.1 else s1.2.1+1),(fun q=>q==x10 || s1.2.2.1 q),(fun q=>if q=x10 then(fs.getD s1.1.toNat default).Pos else s1.2.2.2 q))))else none)else none)else(some (.inl ((IntKind.wrap .i64 (s1.1+1)),s1.2.1,s1.2.2.1,s1.2.2.2))))else none))else none)else none)else(some (.inr (.inl (s1.2.1,s1.2.2.1,s1.2.2.2)))))
theorem atB_loop {X:Type} {fs:List T54} (hf:okF fs) (h4:fs.length≤400):∃ s,loopO (atB X fs) ((0:Int),(0,(fun _=>false),(fun _=>(⟨(0:Int),(0:Int)⟩:T52))))=some (.inl s)∧AtI fs fs.length s :=
 at_loop (b:=atB X fs) hf h4 (fun i s hi hs=>by
  simp only[atB,inL hi,decide_true,if_true,Int.toNat_natCast,wr1 hi (show fs.length≤4611686018427387904 by omega)]
  have:=at_round hf h4 hi s hs (Z:=AtS⊕X)
  simp only[inL hi,if_true]at this
  exact this) (fun s=>by simp only[atB,lt_irr,decide_false,Bool.false_eq_true,if_false])
theorem p16 {n:Nat} (h:n≤6000):(n+1) * 16≤140737488355328:=Nat.le_trans (Nat.mul_le_mul_right 16 (show n+1≤6001 by omega)) (by decide)
noncomputable abbrev refI (X:Type) (a:T39):(List (List UInt8)×Int)→Option ((List (List UInt8)×Int)⊕(List (List UInt8)⊕((List (List UInt8)×Int)⊕(List (List UInt8)⊕X)))):=fun s4=>(if(decide (s4.2 < (a.Points.length:Int)))=true then(if(0≤s4.2)then(if(s4.2 < (a.Points.length:Int))then(Option.bind ((if(s4.1.length+1) * 16≤140737488355328 then some ()else none)) fun(x22:(Unit))=>(some (.inl ((s4.1++([(a.Points.getD s4.2.toNat default).Ref]:List (List UInt8))),(IntKind.wrap .i64 (s4.2+1))))))else none)else none)else(some (.inr (.inl s4.1))))
noncomputable abbrev refO (X:Type) (l:List T39):(List (List UInt8)×Int)→Option ((List (List UInt8)×Int)⊕(List (List UInt8)⊕X)):=fun s3=>(Option.bind (if(decide (s3.2 < (l.length:Int)))=true then(some (.inl ()))else(some (.inr (.inr (.inl s3.1))))) (onS fun(_:Unit)=>(Option.bind (Option.bind (if(0≤s3.2)then(if(s3.2 < (l.length:Int))then(some (.inl ()))else none)else none) (onS fun(_:Unit)=>(loopO (refI X (l.getD s3.2.toNat default)) (s3.1,(0:Int))))) (onS fun(y5:(List (List UInt8)))=>(some (.inl (y5,(IntKind.wrap .i64 (s3.2+1)))))))))
theorem refO_loop {X:Type} {l:List T39} (W:WfL l) {u v:List UInt8}:loopO (refO X l) ([u,v],0)=some (.inl ([u,v]++refsL l)):=by
 have h60:=W.few
 refine refs_loop (b:=refO X l) W (fun x k hk hx=>?_) (fun x=>by simp only[refO,lt_irr,decide_false,Bool.false_eq_true,if_false,Option.bind_some,onS])
 have R:=refs_round (W.all k hk) (acc:=x) hx (b:=refI X (l.getD k default)) (fun y i hi hy=>by
  have h40:=(W.all k hk).few
  simp only[refI,inL hi,decide_true,if_true,Int.toNat_natCast,wr1 hi (show (l.getD k default).Points.length≤4611686018427387904 by omega),p16 hy,Option.bind_some]
  rfl) (fun y=>by simp only[refI,lt_irr,decide_false,Bool.false_eq_true,if_false])
 simp only[refO,inL hk,decide_true,if_true,Int.toNat_natCast,Option.bind_some,onS,R,wr1 hk (show l.length≤4611686018427387904 by omega)]
 rfl
theorem pre_round {i:Nat} {n:Nat} (h1:1≤i) (h2:i < n) (hn:n≤40):IntKind.wrap .i64 ((i:Int) - 1)=(i:Int) - 1∧((i:Int) - 1).toNat=i - 1∧(0:Int)≤(i:Int) - 1∧(i:Int) - 1 < (n:Int)∧(0:Int)≤(i:Int)∧(i:Int) < (n:Int)∧IntKind.wrap .i64 ((i:Int)+1)=(i:Int)+1 :=
 ⟨w64 (by omega) (by omega),by omega,by omega,by omega,by omega,by omega,w64 (by omega) (by omega)⟩
theorem mem_getD {α:Type} [Inhabited α] {l:List α} {x:α} (h:x∈l):∃ i,i < l.length∧l.getD i default=x:=by
 obtain⟨i,hi,e⟩:=List.mem_iff_getElem.1 h
 exact⟨i,hi,by rw[List.getD_eq_getElem?_getD,List.getElem?_eq_getElem hi];exact e⟩
abbrev pB (R:Type) (z:Option (Int⊕(Unit⊕R))) (h:List UInt8→Bool) (r:List (List UInt8)):Int→Option (Int⊕(Unit⊕R)):=fun s7=>(if(decide (s7 < (r.length:Int)))=true then(if(0≤s7)then(if(s7 < (r.length:Int))then(if(s7.toNat < r.length)then(if((r.getD s7.toNat default).length≤maxLen)then(if(!(h (r.getD s7.toNat default)))=true then z else(some (.inl (IntKind.wrap .i64 (s7+1)))))else none)else none)else none)else none)else(some (.inr (.inl ()))))
theorem pB_at {R:Type} {z:Option (Int⊕(Unit⊕R))} {h:List UInt8→Bool} {r:List (List UInt8)} (hl:r.length≤6000) (hm:∀ j,j < r.length→(r.getD j default).length≤maxLen) {i:Nat} (hi:i < r.length):pB R z h r (i:Int)=if(!(h (r.getD i default)))=true then z else some (.inl ((i:Int)+1)):=by
 simp only[pB,inL hi,decide_true,if_true,Int.toNat_natCast,hi,hm i hi,wr1 hi (show r.length≤4611686018427387904 by omega)]
theorem pB_end {R:Type} {z:Option (Int⊕(Unit⊕R))} {h:List UInt8→Bool} {r:List (List UInt8)}:pB R z h r (r.length:Int)=some (.inr (.inl ())):=by
 simp only[pB,lt_irr,decide_false,Bool.false_eq_true,if_false]
theorem pB_pass {R:Type} {z:Option (Int⊕(Unit⊕R))} {h:List UInt8→Bool} {r:List (List UInt8)} (hl:r.length≤6000) (hm:∀ j,j < r.length→(r.getD j default).length≤maxLen) (ha:∀ j,j < r.length→h (r.getD j default)=true):loopO (pB R z h r) 0=some (.inl ()):=by
 have:=loop_ex0 (b:=pB R z h r) r.length (fun _=>none) (fun i hi=>by rw[pB_at hl hm hi,ha i hi];rfl) pB_end
 rw[this,firstR_none.2 fun _ _=>rfl]
theorem pB_err {h:List UInt8→Bool} {r:List (List UInt8)} (hl:r.length≤6000) (hm:∀ j,j < r.length→(r.getD j default).length≤maxLen) (ha:¬ ∀ j,j < r.length→h (r.getD j default)=true):loopO (pB Int (some (.inr (.inr 6))) h r) 0=some (.inr 6):=by
 have:=loop_ex0 (b:=pB Int (some (.inr (.inr 6))) h r) r.length (fun i=>if(!(h (r.getD i default)))=true then some 6 else none) (fun i hi=>by rw[pB_at hl hm hi,exB_ite,exB_some,exB_none]) pB_end
 rw[this]
 have hx:anyR (fun i=>!(h (r.getD i default))) r.length=true:=by
  cases hc:anyR (fun i=>!(h (r.getD i default))) r.length with
  | true=>rfl
  | false=>exact absurd (fun j hj=>by have:=anyR_false.1 hc j hj;simpa using this) ha
 rw[firstR_const (y:=(6:Int)),hx]
 rfl
noncomputable abbrev vI (X:Type) (z:Int→Option (Int⊕(Unit⊕X))) (F:List UInt8→T52) (a:T39):Int→Option (Int⊕(Unit⊕X)):=fun s9=>(if(decide (s9 < (a.Points.length:Int)))=true then(Option.bind ((if 0≤(IntKind.wrap .i64 (s9 - 1))then(if(IntKind.wrap .i64 (s9 - 1)) < (a.Points.length:Int)then(if(a.Points.getD (IntKind.wrap .i64 (s9 - 1)).toNat default).Ref.length≤maxLen then(if 0≤s9 then(if s9 < (a.Points.length:Int)then(if(a.Points.getD s9.toNat default).Ref.length≤maxLen then((m10 (F (a.Points.getD (IntKind.wrap .i64 (s9 - 1)).toNat default).Ref) (F (a.Points.getD s9.toNat default).Ref)).bind fun r38_0=>some r38_0)else none)else none)else none)else none)else none)else none)) fun(x38:((Int×Int)))=>(if(x38.2 != 0)=true then z x38.2 else(some (.inl (IntKind.wrap .i64 (s9+1))))))else(some (.inr (.inl ()))))
theorem vI_at {X:Type} {z:Int→Option (Int⊕(Unit⊕X))} {F:List UInt8→T52} {a:T39} (ha:okA a) (W:Wf a) {i:Nat} (h1:1≤i) (hi:i < a.Points.length):vI X z F a (i:Int)=if(distE (F (rf a (i - 1))) (F (rf a i)) != 0)=true then z (distE (F (rf a (i - 1))) (F (rf a i)))else some (.inl ((i:Int)+1)):=by
 obtain⟨e1,e2,e3,e4,e5,e6,e7⟩:=pre_round h1 hi W.few
 have l1:(a.Points.getD (i - 1) default).Ref.length≤maxLen:=ha (i - 1) (by omega)
 have l2:(a.Points.getD i default).Ref.length≤maxLen:=ha i hi
 simp only[vI,inL hi,decide_true,if_true,Int.toNat_natCast,e1,e2,e3,e4,e7,l1,l2,dist_eq,Option.bind_some]
 rfl
theorem vI_end {X:Type} {z:Int→Option (Int⊕(Unit⊕X))} {F:List UInt8→T52} {a:T39}:vI X z F a (a.Points.length:Int)=some (.inr (.inl ())):=by
 simp only[vI,lt_irr,decide_false,Bool.false_eq_true,if_false]
def gdA (F:List UInt8→T52) (a:T39):Prop:=∀ i,1≤i→i < a.Points.length→distE (F (rf a (i - 1))) (F (rf a i))=0
theorem vI_pass {X:Type} {z:Int→Option (Int⊕(Unit⊕X))} {F:List UInt8→T52} {a:T39} (ha:okA a) (W:Wf a) (g:gdA F a):loopO (vI X z F a) 1=some (.inl ()):=by
 rcases loop_one (b:=vI X z F a) a.Points.length (by have:=W.two;omega) (fun _=>none) (fun i h1 hi=>by rw[vI_at ha W h1 hi,g i h1 hi];rfl) vI_end with⟨i,y,_,_,h,_⟩ | ⟨_,h⟩
 ·cases h
 ·exact h
theorem vI_err {X:Type} {w:Int→X} {F:List UInt8→T52} {a:T39} (ha:okA a) (W:Wf a) (g:¬ gdA F a):∃ e,e≠0∧loopO (vI X (fun e=>some (.inr (.inr (w e)))) F a) 1=some (.inr (w e)):=by
 rcases loop_one (b:=vI X (fun e=>some (.inr (.inr (w e)))) F a) a.Points.length (by have:=W.two;omega) (fun i=>if(distE (F (rf a (i - 1))) (F (rf a i)) != 0)=true then some (w (distE (F (rf a (i - 1))) (F (rf a i))))else none) (fun i h1 hi=>by rw[vI_at ha W h1 hi,exB_ite,exB_some,exB_none]) vI_end with⟨i,y,_,_,h,k⟩ | ⟨h,_⟩
 ·split at h
  ·rename_i hne
   injection h with h
   rw[← h]at k
   exact⟨_,by simpa using hne,k⟩
  ·cases h
 ·refine absurd (fun i h1 hi=>?_) g
  have:=h i h1 hi
  split at this
  ·cases this
  ·rename_i hh;simpa using hh
theorem loop_try {R:Type} {b:Int→Option (Int⊕(Unit⊕R))} (n:Nat) (P:R→Prop) (hb:∀ i:Nat,i < n→b i=some (.inl ((i:Int)+1))∨∃ y,P y∧b i=some (.inr (.inr y))) (hd:b n=some (.inr (.inl ()))):(loopO b 0=some (.inl ())∧∀ i:Nat,i < n→b i=some (.inl ((i:Int)+1)))∨∃ y,P y∧loopO b 0=some (.inr y):=by
 have key:∀ k i,i+k=n→(loopO b (i:Int)=some (.inl ())∧∀ j:Nat,i≤j→j < n→b j=some (.inl ((j:Int)+1)))∨∃ y,P y∧loopO b (i:Int)=some (.inr y):=by
  intro k
  induction k with
  | zero =>
   intro i hk
   obtain rfl:i=n:=by omega
   exact .inl ⟨by rw[loopO_eq,hd];rfl,fun j h1 h2=>by omega⟩
  | succ k ih =>
   intro i hk
   rcases hb i (by omega) with h | ⟨y,h1,h2⟩
   ·rcases ih (i+1) (by omega) with⟨q1,q2⟩ | ⟨y,q1,q2⟩
    ·refine .inl ⟨by rw[loopO_eq,h];exact q1,fun j h1 h2=>?_⟩
     by_cases e:j=i
     ·rw[e];exact h
     ·exact q2 j (by omega) h2
    ·exact .inr ⟨y,q1,by rw[loopO_eq,h];exact q2⟩
   ·exact .inr ⟨y,h1,by rw[loopO_eq,h2];rfl⟩
 rcases key n 0 (by omega) with⟨q1,q2⟩ | h
 ·exact .inl ⟨q1,fun i hi=>q2 i (Nat.zero_le _) hi⟩
 ·exact .inr h
noncomputable abbrev vO (R:Type) (z:Int→Option (Int⊕(Unit⊕(Int⊕(Unit⊕R))))) (F:List UInt8→T52) (l:List T39):Int→Option (Int⊕(Unit⊕R)):=fun s8=>(Option.bind (if(decide (s8 < (l.length:Int)))=true then(some (.inl ()))else(some (.inr (.inr (.inl ()))))) (onS fun(_:Unit)=>(Option.bind (Option.bind (if(0≤s8)then(if(s8 < (l.length:Int))then(some (.inl ()))else none)else none) (onS fun(_:Unit)=>(loopO (vI (Int⊕(Unit⊕R)) z F (l.getD s8.toNat default)) (1:Int)))) (onS fun(_:Unit)=>(some (.inl (IntKind.wrap .i64 (s8+1))))))))
def gdL (F:List UInt8→T52) (l:List T39):Prop:=∀ k,k < l.length→gdA F (l.getD k default)
theorem vO_end {R:Type} {z:Int→Option (Int⊕(Unit⊕(Int⊕(Unit⊕R))))} {F:List UInt8→T52} {l:List T39}:vO R z F l (l.length:Int)=some (.inr (.inl ())):=by
 simp only[vO,lt_irr,decide_false,Bool.false_eq_true,if_false,Option.bind_some,onS]
theorem vO_pass {R:Type} {z:Int→Option (Int⊕(Unit⊕(Int⊕(Unit⊕R))))} {F:List UInt8→T52} {l:List T39} (W:WfL l) (ha:∀ k,k < l.length→okA (l.getD k default)) (g:gdL F l):loopO (vO R z F l) 0=some (.inl ()):=by
 have h60:=W.few
 have:=loop_ex0 (b:=vO R z F l) l.length (fun _=>none) (fun k hk=>by
  have:=vI_pass (X:=Int⊕(Unit⊕R)) (z:=z) (ha k hk) (W.all k hk) (g k hk)
  simp only[vO,inL hk,decide_true,if_true,Int.toNat_natCast,Option.bind_some,onS,this,wr1 hk (show l.length≤4611686018427387904 by omega),exB_none]) vO_end
 rw[this,firstR_none.2 fun _ _=>rfl]
theorem vO_err {F:List UInt8→T52} {l:List T39} (W:WfL l) (ha:∀ k,k < l.length→okA (l.getD k default)) (g:¬ gdL F l):∃ e:Int,e≠0∧loopO (vO Int (fun e=>some (.inr (.inr (.inr (.inr e))))) F l) 0=some (.inr e):=by
 have h60:=W.few
 have rd:∀ k,k < l.length→(gdA F (l.getD k default)∧vO Int (fun e=>some (.inr (.inr (.inr (.inr e))))) F l (k:Int)=some (.inl ((k:Int)+1)))∨(¬ gdA F (l.getD k default)∧∃ e:Int,e≠0∧vO Int (fun e=>some (.inr (.inr (.inr (.inr e))))) F l (k:Int)=some (.inr (.inr e))):=fun k hk=>by
  by_cases gk:gdA F (l.getD k default)
  ·refine .inl ⟨gk,?_⟩
   have:=vI_pass (X:=Int⊕(Unit⊕Int)) (z:=fun e=>some (.inr (.inr (.inr (.inr e))))) (ha k hk) (W.all k hk) gk
   simp only[vO,inL hk,decide_true,if_true,Int.toNat_natCast,Option.bind_some,onS,this,wr1 hk (show l.length≤4611686018427387904 by omega)]
  ·refine .inr ⟨gk,?_⟩
   obtain⟨e,he,h⟩:=vI_err (X:=Int⊕(Unit⊕Int)) (w:=fun e=>.inr (.inr e)) (ha k hk) (W.all k hk) gk
   refine⟨e,he,?_⟩
   simp only[vO,inL hk,decide_true,if_true,Int.toNat_natCast,Option.bind_some,onS,h]
 rcases loop_try (b:=vO Int (fun e=>some (.inr (.inr (.inr (.inr e))))) F l) l.length (fun e=>e≠0) (fun k hk=>(rd k hk).elim (fun h=>.inl h.2) (fun h=>.inr h.2)) vO_end with⟨_,h⟩ | h
 ·refine absurd (fun k hk=>?_) g
  rcases rd k hk with⟨q,_⟩ | ⟨_,e,_,q⟩
  ·exact q
  ·rw[h k hk]at q;injection q with q;cases q
 ·exact h
theorem open_cases {l:List T39} {fs:List T54} (H:OkD l fs) {u v:List UInt8} (hu:u.length≤maxLen) (hv:v.length≤maxLen) :
  (∃ e,m17o1 l fs u v=some e∧e≠0)∨(m17o1 l fs u v=none∧Atl l fs u v∧∃ n,m17o2 l fs u v=some (n,atH fs fs.length,atF fs fs.length)):=by
 obtain⟨c,hc,cW⟩:=check_ok H.a
 rw[M17o1,M17o2,hc]
 simp only[Option.bind_some]
 by_cases c0:c=0
 case neg =>
  left
  rw[if_pos (by simpa using c0)]
  exact⟨c,rfl,c0⟩
 have W:=cW c0
 have h60:=W.few
 have cn:¬ ((c != 0)=true):=by simpa using c0
 rw[if_neg cn,if_neg cn]
 by_cases h4:fs.length≤400
 case neg =>
  left
  rw[if_pos (decide_eq_true (by omega))]
  exact⟨3,rfl,by decide⟩
 have hn4:¬ (decide ((400:Int) < (fs.length:Int))=true):=by simp;omega
 rw[if_neg hn4,if_neg hn4]
 simp only[Option.bind_some,onS]
 -- the atlas
 have A1:=atB_loop (X:=Int) H.f h4
 have A2:=atB_loop (X:=AtS) H.f h4
 obtain⟨s1,L1,I1⟩:=A1
 obtain⟨s2,L2,I2⟩:=A2
 rw[L1,L2]
 simp only[Option.bind_some,onS]
 rw[refO_loop (X:=Int) W,refO_loop (X:=AtS) W]
 simp only[Option.bind_some,onS]
 obtain⟨n1,h1,F1⟩:=s1
 obtain⟨n2,h2,F2⟩:=s2
 obtain⟨_,e1,e2⟩:=I1
 obtain⟨_,e3,e4⟩:=I2
 simp only at e1 e2 e3 e4
 subst e1;subst e2;subst e3;subst e4
 have rl:([u,v]++refsL l).length≤6000:=by
  have:=refs_len W l.length (Nat.le_refl _)
  rw[refsL_eq]
  simp only[List.length_append,List.length_cons,List.length_nil]
  omega
 have rm:∀ j,j < ([u,v]++refsL l).length→(([u,v]++refsL l).getD j default).length≤maxLen:=fun j hj=>by
  have hm:=getD_mem (l:=[u,v]++refsL l) hj
  rcases List.mem_append.1 hm with hm | hm
  ·simp only[List.mem_cons,List.not_mem_nil,or_false]at hm
   rcases hm with h | h
   ·rw[h];exact hu
   ·rw[h];exact hv
  ·obtain⟨k,i,hk,hi,h⟩:=mem_refs.1 hm
   rw[h];exact H.a k hk i hi
 by_cases hall:∀ j,j < ([u,v]++refsL l).length→atH fs fs.length (([u,v]++refsL l).getD j default)=true
 case neg =>
  left
  have:=pB_err (h:=atH fs fs.length) rl rm hall
  rw[this]
  exact⟨6,rfl,by decide⟩
 rw[pB_pass (R:=Int) (z:=some (.inr (.inr 6))) rl rm hall,pB_pass (R:=AtS) (z:=none) rl rm hall]
 simp only[Option.bind_some,onS]
 by_cases hg:gdL (atF fs fs.length) l
 case neg =>
  left
  obtain⟨e,he,h⟩:=vO_err W H.a hg
  rw[h]
  exact⟨e,rfl,he⟩
 right
 rw[vO_pass (R:=Int) (z:=fun e=>some (.inr (.inr (.inr (.inr e))))) W H.a hg,vO_pass (R:=AtS) (z:=fun _=>none) W H.a hg]
 refine⟨rfl,⟨W,h4,?_,?_,?_,?_⟩,n2,rfl⟩
 ·exact hall 0 (by simp)
 ·exact hall 1 (by simp)
 ·intro k i hk hi
  obtain⟨j,hj,h⟩:=mem_getD (List.mem_append_right [u,v] (mem_refs.2 ⟨k,i,hk,hi,rfl⟩))
  have:=hall j hj
  rw[h]at this;exact this
 ·intro k i hk hi
  have:=hg k hk (i+1) (by omega) hi
  rw[Nat.add_sub_cancel]at this
  exact(distE_iff _ _).1 this
end Go.Av.Air
set_option maxRecDepth 100000
namespace Go.Av.Air
theorem M46 (a0 a1:T69):m46 a0 a1=((some ((decide (a0.Length < a1.Length)) || ((a0.Length==a1.Length)&&(decide (a0.Hops < a1.Hops))))):Option (Bool)):=by kernel_rfl
theorem less_eq:∀ (x y:List UInt8),Op.bytesLess x y=decide (x < y)
 | [],[]=>by simp[Op.bytesLess]
 | _ :: _,[]=>by simp[Op.bytesLess]
 | [],_ :: _=>by simp[Op.bytesLess]
 | a :: x,b :: y=>by
  rw[Bool.eq_iff_iff,decide_eq_true_eq,List.cons_lt_cons_iff]
  simp only[Op.bytesLess,less_eq x y,Bool.or_eq_true,Bool.and_eq_true,decide_eq_true_eq,beq_iff_eq]
theorem str_tri (a b:List UInt8):a < b∨a=b∨b < a:=by
 by_cases h1:a < b
 ·exact .inl h1
 ·by_cases h2:b < a
  ·exact .inr (.inr h2)
  ·exact .inr (.inl (List.le_antisymm (List.not_lt.1 h2) (List.not_lt.1 h1)))
def ltP (a b:T69):Prop:=a.Length < b.Length∨(a.Length=b.Length∧(a.Hops < b.Hops∨(a.Hops=b.Hops∧a.Ref < b.Ref)))
theorem ltP_irr (a:T69):¬ ltP a a:=by
 rintro(h | ⟨_,h | ⟨_,h⟩⟩)
 ·omega
 ·omega
 ·exact List.lt_irrefl _ h
theorem ltP_trans {a b c:T69} (h:ltP a b) (k:ltP b c):ltP a c:=by
 unfold ltP at *
 rcases h with h | ⟨h1,h2 | ⟨h2,h3⟩⟩<;>rcases k with k | ⟨k1,k2 | ⟨k2,k3⟩⟩
 ·exact .inl (by omega)
 ·exact .inl (by omega)
 ·exact .inl (by omega)
 ·exact .inl (by omega)
 ·exact .inr ⟨by omega,.inl (by omega)⟩
 ·exact .inr ⟨by omega,.inl (by omega)⟩
 ·exact .inl (by omega)
 ·exact .inr ⟨by omega,.inl (by omega)⟩
 ·exact .inr ⟨by omega,.inr ⟨by omega,List.lt_trans h3 k3⟩⟩
theorem ltP_tri {a b:T69} (h:¬ ltP a b) (k:¬ ltP b a):a.Ref=b.Ref:=by
 unfold ltP at h k
 rcases str_tri a.Ref b.Ref with e | e | e
 ·exfalso
  by_cases h1:a.Length=b.Length
  ·by_cases h2:a.Hops=b.Hops
   ·exact h (.inr ⟨h1,.inr ⟨h2,e⟩⟩)
   ·by_cases h3:a.Hops < b.Hops
    ·exact h (.inr ⟨h1,.inl h3⟩)
    ·exact k (.inr ⟨h1.symm,.inl (by omega)⟩)
  ·by_cases h3:a.Length < b.Length
   ·exact h (.inl h3)
   ·exact k (.inl (by omega))
 ·exact e
 ·exfalso
  by_cases h1:a.Length=b.Length
  ·by_cases h2:a.Hops=b.Hops
   ·exact k (.inr ⟨h1.symm,.inr ⟨h2.symm,e⟩⟩)
   ·by_cases h3:a.Hops < b.Hops
    ·exact h (.inr ⟨h1,.inl h3⟩)
    ·exact k (.inr ⟨h1.symm,.inl (by omega)⟩)
  ·by_cases h3:a.Length < b.Length
   ·exact h (.inl h3)
   ·exact k (.inl (by omega))
abbrev Best:=Bool×(List UInt8)×Int×Int
def lab (s:Best):T69:=⟨s.2.1,s.2.2.1,s.2.2.2⟩
def unl (x:T69):Best:=(false,x.Ref,x.Length,x.Hops)
noncomputable abbrev lsB (F:List UInt8→T69):List UInt8→Best→Option Best:=fun(k2:List UInt8) (s2:Bool×(List UInt8)×Int×Int)=>Option.bind ((Option.bind (some (.inl ())) (onS fun(_:Unit)=>(Option.bind (((if(!s2.1)=true then m46 (F k2) (⟨s2.2.1,s2.2.2.1,s2.2.2.2⟩:T69)else some default).bind fun r9_0=>some r9_0)) fun(x9:(Bool))=>(if((s2.1 || x9) || ((((F k2).Length==s2.2.2.1)&&((F k2).Hops==s2.2.2.2))&&(Op.bytesLess (F k2).Ref s2.2.1)))=true then(some (.inl (false,(F k2).Ref,(F k2).Length,(F k2).Hops)))else(some (.inl (s2.1,s2.2.1,s2.2.2.1,s2.2.2.2))))))):Option ((Bool×(List UInt8)×Int×Int)⊕Empty)) onN
open Classical in
theorem lsB_eq (F:List UInt8→T69) (k:List UInt8) (s:Best):lsB F k s=some (if s.1=true∨ltP (F k) (lab s)then unl (F k)else s):=by
 obtain⟨f,r,n,h⟩:=s
 simp only[lsB,M46,less_eq]
 cases f with
 | true=>simp[onS,onN,unl]
 | false =>
  simp only[Bool.not_false,if_true,Option.bind_some,onS,Bool.false_or]
  have e:(((decide ((F k).Length < n) || (((F k).Length==n)&&(decide ((F k).Hops < h)))) || ((((F k).Length==n)&&((F k).Hops==h))&&decide ((F k).Ref < r)))=true)=ltP (F k) (lab (false,r,n,h)):=by
   unfold ltP lab
   simp only[Bool.or_eq_true,Bool.and_eq_true,decide_eq_true_eq,beq_iff_eq,eq_iff_iff]
   constructor
   ·rintro((q | ⟨q1,q2⟩) | ⟨⟨q1,q2⟩,q3⟩)
    ·exact .inl q
    ·exact .inr ⟨q1,.inl q2⟩
    ·exact .inr ⟨q1,.inr ⟨q2,q3⟩⟩
   ·rintro(q | ⟨q1,q2 | ⟨q2,q3⟩⟩)
    ·exact .inl (.inl q)
    ·exact .inl (.inr ⟨q1,q2⟩)
    ·exact .inr ⟨⟨q1,q2⟩,q3⟩
  by_cases hl:ltP (F k) (lab (false,r,n,h))
  ·rw[if_pos (e.symm ▸ hl),if_pos (.inr hl)];rfl
  ·rw[if_neg (fun q=>hl (e ▸ q)),if_neg (by rintro(q | q);cases q;exact hl q)];rfl
theorem ltP_co {a c:T69} (b:T69) (h:ltP a c):ltP a b∨ltP b c:=by
 by_cases h1:ltP a b
 ·exact .inl h1
 ·by_cases h2:ltP b a
  ·exact .inr (ltP_trans h2 h)
  ·right
   have hr:=ltP_tri h1 h2
   have hl:a.Length=b.Length:=by
    by_cases e:a.Length=b.Length
    ·exact e
    ·by_cases g:a.Length < b.Length
     ·exact absurd (.inl g) h1
     ·exact absurd (.inl (show b.Length < a.Length by omega)) h2
   have hh:a.Hops=b.Hops:=by
    by_cases e:a.Hops=b.Hops
    ·exact e
    ·by_cases g:a.Hops < b.Hops
     ·exact absurd (.inr ⟨hl,.inl g⟩) h1
     ·exact absurd (.inr ⟨hl.symm,.inl (show b.Hops < a.Hops by omega)⟩) h2
   unfold ltP at h ⊢
   rw[← hr,← hl,← hh];exact h
theorem least_from (F:List UInt8→T69):∀ (l:List (List UInt8)) (x:T69),∃ y,l.foldlM (fun s k=>lsB F k s) (unl x)=some (unl y)∧(y=x∨∃ k∈l,y=F k)∧¬ ltP x y∧∀ k∈l,¬ ltP (F k) y
 | [],x=>⟨x,rfl,.inl rfl,ltP_irr x,fun k hk=>by cases hk⟩
 | k :: l,x=>by
  rw[List.foldlM_cons,lsB_eq]
  have hx:lab (unl x)=x:=rfl
  by_cases h:ltP (F k) x
  ·rw[if_pos (.inr (by rw[hx];exact h))]
   obtain⟨y,h1,h2,h3,h4⟩:=least_from F l (F k)
   refine⟨y,h1,.inr ?_,fun g=>h3 (ltP_trans h g),fun j hj=>?_⟩
   ·rcases h2 with h2 | ⟨j,hj,h2⟩
    ·exact⟨k,by simp,h2⟩
    ·exact⟨j,by simp[hj],h2⟩
   ·rcases List.mem_cons.1 hj with rfl | hj
    ·exact h3
    ·exact h4 j hj
  ·rw[if_neg (by rintro(q | q);cases q;exact h q)]
   obtain⟨y,h1,h2,h3,h4⟩:=least_from F l x
   refine⟨y,h1,?_,h3,fun j hj=>?_⟩
   ·rcases h2 with h2 | ⟨j,hj,h2⟩
    ·exact .inl h2
    ·exact .inr ⟨j,by simp[hj],h2⟩
   ·rcases List.mem_cons.1 hj with rfl | hj
    ·intro g
     rcases ltP_co x g with q | q
     ·exact h q
     ·exact h3 q
    ·exact h4 j hj
theorem least_range {n:Nat} {h:List UInt8→Bool} {F:List UInt8→T69} {l:List (List UInt8)} (hl:EnumL n h l) (hn:0 < n) (hF:∀ k∈l,(F k).Ref=k) (s0:Best) (h0:s0.1=true) :
  ∃ m,m∈l∧rangeM n h (lsB F) s0=some (unl (F m))∧∀ k∈l,¬ ltP (F k) (F m):=by
 have one:∀ l',EnumL n h l'→∃ m,m∈l'∧l'.foldlM (fun s k=>lsB F k s) s0=some (unl (F m))∧∀ k∈l',¬ ltP (F k) (F m):=fun l' hl'=>by
  cases l' with
  | nil=>have:=hl'.2.1;simp at this;omega
  | cons k t =>
   rw[List.foldlM_cons,lsB_eq,if_pos (.inl h0)]
   obtain⟨y,h1,h2,h3,h4⟩:=least_from F t (F k)
   rcases h2 with rfl | ⟨j,hj,rfl⟩
   ·exact⟨k,by simp,h1,fun j hj=>by
     rcases List.mem_cons.1 hj with rfl | hj
     ·exact h3
     ·exact h4 j hj⟩
   ·exact⟨j,by simp[hj],h1,fun i hi=>by
     rcases List.mem_cons.1 hi with rfl | hi
     ·exact h3
     ·exact h4 i hi⟩
 obtain⟨m,hm,h1,h2⟩:=one l hl
 refine⟨m,hm,rangeM_of hl fun l' hl'=>?_,h2⟩
 obtain⟨m',hm',h1',h2'⟩:=one l' hl'
 have a1:m'∈l:=(hl.2.2 m').2 ((hl'.2.2 m').1 hm')
 have a2:m∈l':=(hl'.2.2 m).2 ((hl.2.2 m).1 hm)
 have:=ltP_tri (h2' m a2) (h2 m' a1)
 rw[hF m hm,hF m' a1]at this
 rw[h1',this]
end Go.Av.Air
set_option maxRecDepth 100000
namespace Go.Av.Air
theorem enum_has {n:Nat} {h:List UInt8→Bool} {l:List (List UInt8)} (H:EnumL n h l) {s:List UInt8} (hs:s.length≤maxLen):h s=true↔s∈l:=⟨fun g=>(H.2.2 s).2 ⟨hs,g⟩,fun g=>((H.2.2 s).1 g).2⟩
theorem enum_nil:EnumL 0 (fun _=>false) []:=⟨List.nodup_nil,rfl,fun s=>by simp⟩
theorem enum_new {n:Nat} {h:List UInt8→Bool} {l:List (List UInt8)} (H:EnumL n h l) {s:List UInt8} (hs:s.length≤maxLen) (hn:s ∉ l):EnumL (if h s=true then n else n+1) (fun q=>q==s || h q) (s :: l):=by
 have e:h s=false:=by
  cases hh:h s with
  | false=>rfl
  | true=>exact absurd ((enum_has H hs).1 hh) hn
 rw[e]
 refine⟨List.nodup_cons.2 ⟨hn,H.1⟩,by simp[H.2.1],fun q=>?_⟩
 simp only[List.mem_cons,Bool.or_eq_true,beq_iff_eq]
 constructor
 ·rintro(rfl | g)
  ·exact⟨hs,.inl rfl⟩
  ·exact⟨((H.2.2 q).1 g).1,.inr ((H.2.2 q).1 g).2⟩
 ·rintro⟨g1,g2 | g2⟩
  ·exact .inl g2
  ·exact .inr ((H.2.2 q).2 ⟨g1,g2⟩)
theorem enum_old {n:Nat} {h:List UInt8→Bool} {l:List (List UInt8)} (H:EnumL n h l) {s:List UInt8} (hs:s∈l):EnumL (if h s=true then n else n+1) (fun q=>q==s || h q) l:=by
 have hh:=((H.2.2 s).1 hs).2
 rw[if_pos hh]
 refine⟨H.1,H.2.1,fun q=>?_⟩
 simp only[Bool.or_eq_true,beq_iff_eq]
 constructor
 ·exact fun g=>⟨((H.2.2 q).1 g).1,.inr ((H.2.2 q).1 g).2⟩
 ·rintro⟨g1,rfl | g2⟩
  ·exact hs
  ·exact(H.2.2 q).2 ⟨g1,g2⟩
theorem enum_del {n:Nat} {h:List UInt8→Bool} {l:List (List UInt8)} (H:EnumL n h l) {s:List UInt8} (hs:s∈l):EnumL (if h s=true then n - 1 else n) (fun q=>!(q==s)&&h q) (l.erase s):=by
 have hh:=((H.2.2 s).1 hs).2
 rw[if_pos hh]
 refine⟨H.1.erase s,by rw[List.length_erase_of_mem hs,H.2.1],fun q=>?_⟩
 rw[H.1.mem_erase_iff]
 simp only[Bool.and_eq_true,Bool.not_eq_true',beq_eq_false_iff_ne]
 constructor
 ·rintro⟨g1,g2⟩
  exact⟨((H.2.2 q).1 g2).1,g1,((H.2.2 q).1 g2).2⟩
 ·rintro⟨g1,g2,g3⟩
  exact⟨g2,(H.2.2 q).2 ⟨g1,g3⟩⟩
noncomputable def lenP (P:List UInt8→T52) (u v:List UInt8):Int:=distD (P u) (P v)
theorem lenP_range (P:List UInt8→T52) (u v:List UInt8):0≤lenP P u v∧lenP P u v≤64800000:=distD_range _ _
def le2 (x:T69) (n h:Int):Prop:=x.Length < n∨(x.Length=n∧x.Hops≤h)
def tgt (l:List T39) (u:List UInt8) (i:Nat):List UInt8:=((hopsL l u).getD i default).To
structure Inv (l:List T39) (P:List UInt8→T52) (fr:List UInt8) (X:List UInt8→Nat→Prop) (D O:List (List UInt8)) (dF oF:List UInt8→T69):Prop where
 dis:∀ k∈D,k ∉ O
 key:∀ k,k∈D∨k∈O→k=fr∨k∈refsL l
 dgood:∀ k∈D,(dF k).Ref=k∧0≤(dF k).Hops∧(dF k).Hops < D.length∧0≤(dF k).Length∧(dF k).Length≤(dF k).Hops * 64800000
 ogood:∀ k∈O,(oF k).Ref=k∧0≤(oF k).Hops∧(oF k).Hops≤D.length∧0≤(oF k).Length∧(oF k).Length≤(oF k).Hops * 64800000
 mono:∀ d∈D,∀ o∈O,¬ ltP (oF o) (dF d)
 fe:∀ u∈D,∀ i,i < (hopsL l u).length→X u i→(tgt l u i∈D∧le2 (dF (tgt l u i)) ((dF u).Length+lenP P u (tgt l u i)) ((dF u).Hops+1))∨(tgt l u i∈O∧le2 (oF (tgt l u i)) ((dF u).Length+lenP P u (tgt l u i)) ((dF u).Hops+1))
 tight:∀ k x,((k∈D∧x=dF k)∨(k∈O∧x=oF k))→(k=fr∧x.Length=0∧x.Hops=0)∨∃ u,u∈D∧(∃ h,h∈hopsL l u∧h.To=k)∧x.Length=(dF u).Length+lenP P u k∧x.Hops=(dF u).Hops+1
 start:(D=[]∧O=[fr]∧oF fr=⟨fr,0,0⟩)∨(fr∈D∧dF fr=⟨fr,0,0⟩)
end Go.Av.Air
set_option maxRecDepth 100000
namespace Go.Av.Air
variable {l:List T39} {P:List UInt8→T52} {fr:List UInt8} {D O:List (List UInt8)} {dF oF:List UInt8→T69}
theorem mem_er {O:List (List UInt8)} (hn:O.Nodup) {m k:List UInt8}:k∈O.erase m↔k≠m∧k∈O:=hn.mem_erase_iff
theorem Inv.pop (H:Inv l P fr (fun _ _=>True) D O dF oF) (hn:O.Nodup) {m:List UInt8} (hm:m∈O) (hl:∀ k∈O,¬ ltP (oF k) (oF m)) {dF' oF':List UInt8→T69} (em:dF' m=oF m) (eq:∀ k,k≠m→dF' k=dF k) (eo:∀ k,k≠m→oF' k=oF k) :
  Inv l P fr (fun u i=>u=m→i < 0) (m :: D) (O.erase m) dF' oF':=by
 have mD:m ∉ D:=fun h=>H.dis m h hm
 have dD:∀ k∈D,k≠m:=fun k hk e=>mD (e ▸ hk)
 have eD:∀ k∈D,dF' k=dF k:=fun k hk=>eq k (dD k hk)
 have eO:∀ k∈O.erase m,oF' k=oF k:=fun k hk=>eo k ((mem_er hn).1 hk).1
 refine⟨?_,?_,?_,?_,?_,?_,?_,?_⟩
 ·intro k hk hko
  obtain⟨h1,h2⟩:=(mem_er hn).1 hko
  rcases List.mem_cons.1 hk with rfl | hk
  ·exact h1 rfl
  ·exact H.dis k hk h2
 ·intro k hk
  rcases hk with hk | hk
  ·rcases List.mem_cons.1 hk with rfl | hk
   ·exact H.key k (.inr hm)
   ·exact H.key k (.inl hk)
  ·exact H.key k (.inr ((mem_er hn).1 hk).2)
 ·intro k hk
  rcases List.mem_cons.1 hk with rfl | hk
  ·rw[em]
   obtain⟨g1,g2,g3,g4,g5⟩:=H.ogood k hm
   exact⟨g1,g2,by simp only[List.length_cons];omega,g4,g5⟩
  ·rw[eD k hk]
   obtain⟨g1,g2,g3,g4,g5⟩:=H.dgood k hk
   exact⟨g1,g2,by simp only[List.length_cons];omega,g4,g5⟩
 ·intro k hk
  rw[eO k hk]
  obtain⟨g1,g2,g3,g4,g5⟩:=H.ogood k ((mem_er hn).1 hk).2
  exact⟨g1,g2,by simp only[List.length_cons];omega,g4,g5⟩
 ·intro d hd o ho
  rw[eO o ho]
  rcases List.mem_cons.1 hd with rfl | hd
  ·rw[em];exact hl o ((mem_er hn).1 ho).2
  ·rw[eD d hd];exact H.mono d hd o ((mem_er hn).1 ho).2
 ·intro u hu i hi hx
  rcases List.mem_cons.1 hu with rfl | hu
  ·exact absurd (hx rfl) (Nat.not_lt_zero i)
  ·rw[eD u hu]
   rcases H.fe u hu i hi trivial with⟨g1,g2⟩ | ⟨g1,g2⟩
   ·exact .inl ⟨List.mem_cons_of_mem _ g1,by rw[eD _ g1];exact g2⟩
   ·by_cases e:tgt l u i=m
    ·exact .inl ⟨by rw[e];simp,by rw[e]at g2 ⊢;rw[em];exact g2⟩
    ·have:tgt l u i∈O.erase m:=(mem_er hn).2 ⟨e,g1⟩
     exact .inr ⟨this,by rw[eO _ this];exact g2⟩
 ·intro k x hk
  have hk':(k∈D∧x=dF k)∨(k∈O∧x=oF k):=by
   rcases hk with⟨hk,rfl⟩ | ⟨hk,rfl⟩
   ·rcases List.mem_cons.1 hk with rfl | hk
    ·exact .inr ⟨hm,em⟩
    ·exact .inl ⟨hk,eD k hk⟩
   ·exact .inr ⟨((mem_er hn).1 hk).2,eO k hk⟩
  rcases H.tight k x hk' with h | ⟨u,hu,h1,h2,h3⟩
  ·exact .inl h
  ·exact .inr ⟨u,List.mem_cons_of_mem _ hu,h1,by rw[eD u hu];exact h2,by rw[eD u hu];exact h3⟩
 ·rcases H.start with⟨h1,h2,h3⟩ | ⟨h1,h2⟩
  ·right
   rw[h2]at hm
   simp only[List.mem_singleton]at hm
   subst hm
   exact⟨by simp,em.trans h3⟩
  ·exact .inr ⟨List.mem_cons_of_mem _ h1,(eD fr h1).trans h2⟩
end Go.Av.Air
set_option maxRecDepth 100000
namespace Go.Av.Air
variable {l:List T39} {P:List UInt8→T52} {fr:List UInt8} {D O:List (List UInt8)} {dF oF:List UInt8→T69}
theorem nodup_le {α:Type} [DecidableEq α]:∀ {l m:List α},l.Nodup→(∀ x∈l,x∈m)→l.length≤m.length
 | [],m,_,_=>Nat.zero_le _
 | a :: l,m,hn,hs=>by
  have h1:=List.nodup_cons.1 hn
  have:=nodup_le (l:=l) (m:=m.erase a) h1.2 (fun x hx=>(List.mem_erase_of_ne (fun(e:x=a)=>h1.1 (e ▸ hx))).2 (hs x (by simp[hx])))
  rw[List.length_erase_of_mem (hs a (by simp))]at this
  have hp:0 < m.length:=List.length_pos_of_mem (hs a (by simp))
  simp only[List.length_cons];omega
theorem Inv.relD {m:List UInt8} {j:Nat} (H:Inv l P fr (fun u i=>u=m→i < j) D O dF oF) (hm:m∈D) (mx:∀ d∈D,¬ ltP (dF m) (dF d)) (ht:tgt l m j∈D):Inv l P fr (fun u i=>u=m→i < j+1) D O dF oF:=by
 refine { H with fe:=fun u hu i hi hx=>?_ }
 by_cases e:u=m∧i=j
 ·obtain⟨rfl,rfl⟩:=e
  refine .inl ⟨ht,?_⟩
  have h1:=mx _ ht
  have h2:=(lenP_range P u (tgt l u i)).1
  unfold ltP at h1
  unfold le2
  by_cases q:(dF (tgt l u i)).Length < (dF u).Length
  ·left;omega
  ·have q2:(dF (tgt l u i)).Length=(dF u).Length:=by
    by_cases q3:(dF u).Length < (dF (tgt l u i)).Length
    ·exact absurd (.inl q3) h1
    ·omega
   have q4:(dF (tgt l u i)).Hops≤(dF u).Hops:=by
    by_cases q5:(dF u).Hops < (dF (tgt l u i)).Hops
    ·exact absurd (.inr ⟨q2.symm,.inl q5⟩) h1
    ·omega
   by_cases q6:lenP P u (tgt l u i)=0
   ·right;omega
   ·left;omega
 ·exact H.fe u hu i hi fun eu=>by
   have:=hx eu
   have:i≠j:=fun ei=>e ⟨eu,ei⟩
   omega
theorem Inv.relK {m:List UInt8} {j:Nat} (H:Inv l P fr (fun u i=>u=m→i < j) D O dF oF) (ht:tgt l m j∈O) (hk:le2 (oF (tgt l m j)) ((dF m).Length+lenP P m (tgt l m j)) ((dF m).Hops+1)):Inv l P fr (fun u i=>u=m→i < j+1) D O dF oF:=by
 refine { H with fe:=fun u hu i hi hx=>?_ }
 by_cases e:u=m∧i=j
 ·obtain⟨rfl,rfl⟩:=e
  exact .inr ⟨ht,hk⟩
 ·exact H.fe u hu i hi fun eu=>by
   have:=hx eu
   have:i≠j:=fun ei=>e ⟨eu,ei⟩
   omega
theorem tgt_refs {m:List UInt8} {j:Nat} (hj:j < (hopsL l m).length):tgt l m j∈refsL l∧(hopsL l m).getD j default∈hopsL l m:=by
 have hh:(hopsL l m).getD j default∈hopsL l m:=getD_mem hj
 refine⟨?_,hh⟩
 obtain⟨k,i,hk,hi,h⟩:=hops_adj hh
 unfold tgt
 rcases h with⟨_,h⟩ | ⟨h,_⟩
 ·rw[h];exact mem_refs.2 ⟨k,i+1,hk,hi,rfl⟩
 ·rw[h];exact mem_refs.2 ⟨k,i,hk,by omega,rfl⟩
theorem Inv.relN {m:List UInt8} {j:Nat} (H:Inv l P fr (fun u i=>u=m→i < j) D O dF oF) (hj:j < (hopsL l m).length) (hm:m∈D) (mx:∀ d∈D,¬ ltP (dF m) (dF d)) {t:List UInt8} (et:tgt l m j=t) (ht:t ∉ D)
  {c:T69} (hc:c=⟨t,(dF m).Length+lenP P m t,(dF m).Hops+1⟩) (hl:t∈O→c.Length < (oF t).Length∨(c.Length=(oF t).Length∧c.Hops < (oF t).Hops)) {O':List (List UInt8)} (hO:∀ k,k∈O'↔k=t∨k∈O) {oF':List UInt8→T69} (eT:oF' t=c) (eO:∀ k,k≠t→oF' k=oF k) :
  Inv l P fr (fun u i=>u=m→i < j+1) D O' dF oF':=by
 have hr:=lenP_range P m t
 obtain⟨g1,g2,g3,g4,g5⟩:=H.dgood m hm
 have cL:c.Length=(dF m).Length+lenP P m t:=by rw[hc]
 have cH:c.Hops=(dF m).Hops+1:=by rw[hc]
 have cR:c.Ref=t:=by rw[hc]
 refine⟨?_,?_,H.dgood,?_,?_,?_,?_,?_⟩
 ·intro k hk hko
  rcases (hO k).1 hko with rfl | h
  ·exact ht hk
  ·exact H.dis k hk h
 ·intro k hk
  rcases hk with hk | hk
  ·exact H.key k (.inl hk)
  ·rcases (hO k).1 hk with rfl | h
   ·right;rw[← et];exact(tgt_refs hj).1
   ·exact H.key k (.inr h)
 ·intro k hk
  by_cases e:k=t
  ·subst e
   rw[eT]
   exact⟨cR,by omega,by omega,by omega,by omega⟩
  ·rw[eO k e]
   exact H.ogood k (((hO k).1 hk).resolve_left e)
 ·intro d hd o ho
  by_cases e:o=t
  ·subst e
   rw[eT]
   have h1:=mx d hd
   intro h2
   apply h1
   unfold ltP at h2 ⊢
   rw[cL,cH]at h2
   rcases h2 with h2 | ⟨h2,h3⟩
   ·left;omega
   ·by_cases z:lenP P m o=0
    ·right
     refine⟨by omega,.inl ?_⟩
     rcases h3 with h3 | ⟨h3,_⟩<;>omega
    ·left;omega
  ·rw[eO o e]
   exact H.mono d hd o (((hO o).1 ho).resolve_left e)
 ·intro u hu i hi hx
  have old:(u=m→i < j)→(tgt l u i∈D∧le2 (dF (tgt l u i)) ((dF u).Length+lenP P u (tgt l u i)) ((dF u).Hops+1))∨(tgt l u i∈O'∧le2 (oF' (tgt l u i)) ((dF u).Length+lenP P u (tgt l u i)) ((dF u).Hops+1)):=fun hx=>by
   rcases H.fe u hu i hi hx with h | ⟨h1,h2⟩
   ·exact .inl h
   ·refine .inr ⟨(hO _).2 (.inr h1),?_⟩
    by_cases e:tgt l u i=t
    ·rw[e]at h1 h2 ⊢
     rw[eT]
     have:=hl h1
     unfold le2 at *
     omega
    ·rw[eO _ e];exact h2
  by_cases e:u=m∧i=j
  ·obtain⟨rfl,rfl⟩:=e
   rw[et]
   refine .inr ⟨(hO t).2 (.inl rfl),?_⟩
   rw[eT]
   unfold le2
   right;exact⟨cL,by omega⟩
  ·exact old fun eu=>by
    have:=hx eu
    have:i≠j:=fun ei=>e ⟨eu,ei⟩
    omega
 ·intro k x hk
  rcases hk with hk | ⟨hk,rfl⟩
  ·exact H.tight k x (.inl hk)
  ·by_cases e:k=t
   ·subst e
    right
    rw[eT]
    exact⟨m,hm,⟨_,(tgt_refs hj).2,et⟩,cL,cH⟩
   ·exact H.tight k _ (.inr ⟨((hO k).1 hk).resolve_left e,eO k e⟩)
 ·rcases H.start with⟨h1,_⟩ | h
  ·rw[h1]at hm;cases hm
  ·exact .inr h
end Go.Av.Air
set_option maxRecDepth 100000
namespace Go.Av.Air
theorem M18o1 (a0:List T39) (a1:List UInt8) (a2:Nat) (a3:(List UInt8→Bool)) (a4:(List UInt8→T52)):m18o1 a0 a1 a2 a3 a4=((Option.bind (if(a1.length≤maxLen)then(if(0 < maxLen)then(some (.inl ()))else none)else none) (onS fun(_:Unit)=>(Option.bind (loopO (fun(s1:Nat×(List UInt8→Bool)×(List UInt8→T69)×Nat×(List UInt8→Bool)×(List UInt8→T69))=>((Option.bind (if(decide (0 < ((s1.2.2.2.1:Nat):Int)))=true then(some (.inl ()))else(some (.inr (.inr (.inl (s1.1,s1.2.1,s1.2.2.1)))))) (onS fun(_:Unit)=>(Option.bind (some (.inl ())) (onS fun(_:Unit)=>(Option.bind (Option.bind (rangeM s1.2.2.2.1 s1.2.2.2.2.1 (fun(k2:List UInt8) (s2:Bool×(List UInt8)×Int×Int)=>Option.bind ((Option.bind (some (.inl ())) (onS fun(_:Unit)=>(Option.bind (((if(!s2.1)=true then m46 (s1.2.2.2.2.2 k2) (⟨s2.2.1,s2.2.2.1,s2.2.2.2⟩:T69)else some default).bind fun r9_0=>some r9_0)) fun(x9:(Bool))=>(if((s2.1 || x9) || ((((s1.2.2.2.2.2 k2).Length==s2.2.2.1)&&((s1.2.2.2.2.2 k2).Hops==s2.2.2.2))&&(Op.bytesLess (s1.2.2.2.2.2 k2).Ref s2.2.1)))=true then(some (.inl (false,(s1.2.2.2.2.2 k2).Ref,(s1.2.2.2.2.2 k2).Length,(s1.2.2.2.2.2 k2).Hops)))else(some (.inl (s2.1,s2.2.1,s2.2.2.1,s2.2.2.2))))))):Option ((Bool×(List UInt8)×Int×Int)⊕Empty)) onN) (true,([]:List UInt8),(0:Int),(0:Int))) fun(y3:Bool×(List UInt8)×Int×Int)=>(some (.inl (y3.2.1,y3.2.2.1,y3.2.2.2)))) (onS fun(y4:(List UInt8)×Int×Int)=>(Option.bind (if(y4.1.length≤maxLen)then(if(y4.1.length≤maxLen)then(if(s1.1 < maxLen)then(Option.bind (Option.bind (m25 a0 y4.1) fun r=>some r) fun x13=>(some (.inl (x13,(x13.length:Int)))))else none)else none)else none) (onS fun(y5:(List T49)×Int)=>(loopO (fun(s6:Int×Nat×(List UInt8→Bool)×(List UInt8→T69))=>((if(decide (s6.1 < y5.2))=true then(if(0≤s6.1)then(if(s6.1 < (y5.1.length:Int))then(if((y5.1.getD s6.1.toNat default).To.length≤maxLen)then(if((fun q=>q==y4.1 || s1.2.1 q) (y5.1.getD s6.1.toNat default).To)=true then(some (.inl ((IntKind.wrap .i64 (s6.1+1)),s6.2.1,s6.2.2.1,s6.2.2.2)))else(Option.bind (Option.bind (m37o1 y4.1 (y5.1.getD s6.1.toNat default).To a2 a3 a4) fun r=>some r) fun x18=>(if((y5.1.getD s6.1.toNat default).To.length≤maxLen)then(Option.bind (((if(!(!(s6.2.2.1 (y5.1.getD s6.1.toNat default).To)))=true then m46 (⟨(y5.1.getD s6.1.toNat default).To,(IntKind.wrap .i64 (y4.2.1+x18)),(IntKind.wrap .i64 (y4.2.2+1))⟩:T69) (s6.2.2.2 (y5.1.getD s6.1.toNat default).To)else some default).bind fun r20_0=>some r20_0)) fun(x20:(Bool))=>(if((!(s6.2.2.1 (y5.1.getD s6.1.toNat default).To)) || x20)=true then(if((y5.1.getD s6.1.toNat default).To.length≤maxLen)then(if(s6.2.1 < maxLen)then(some (.inl ((IntKind.wrap .i64 (s6.1+1)),(if s6.2.2.1 (y5.1.getD s6.1.toNat default).To=true then s6.2.1 else s6.2.1+1),(fun q=>q==(y5.1.getD s6.1.toNat default).To || s6.2.2.1 q),(fun q=>if q=(y5.1.getD s6.1.toNat default).To then(⟨(y5.1.getD s6.1.toNat default).To,(IntKind.wrap .i64 (y4.2.1+x18)),(IntKind.wrap .i64 (y4.2.2+1))⟩:T69)else s6.2.2.2 q))))else none)else none)else(some (.inl ((IntKind.wrap .i64 (s6.1+1)),s6.2.1,s6.2.2.1,s6.2.2.2)))))else none)))else none)else none)else none)else(some (.inr (.inl ((if s1.2.1 y4.1=true then s1.1 else s1.1+1),(fun q=>q==y4.1 || s1.2.1 q),(fun q=>if q=y4.1 then(⟨y4.1,y4.2.1,y4.2.2⟩:T69)else s1.2.2.1 q),s6.2.1,s6.2.2.1,s6.2.2.2))))):Option ((Int×Nat×(List UInt8→Bool)×(List UInt8→T69))⊕((Nat×(List UInt8→Bool)×(List UInt8→T69)×Nat×(List UInt8→Bool)×(List UInt8→T69))⊕((Nat×(List UInt8→Bool)×(List UInt8→T69))⊕(Nat×(List UInt8→Bool)×(List UInt8→T69))))))) ((0:Int),(if s1.2.2.2.2.1 y4.1=true then s1.2.2.2.1 - 1 else s1.2.2.2.1),(fun q=>!(q==y4.1)&&s1.2.2.2.2.1 q),(fun q=>if q=y4.1 then(⟨([]:List UInt8),(0:Int),(0:Int)⟩:T69)else s1.2.2.2.2.2 q))))))))))):Option ((Nat×(List UInt8→Bool)×(List UInt8→T69)×Nat×(List UInt8→Bool)×(List UInt8→T69))⊕((Nat×(List UInt8→Bool)×(List UInt8→T69))⊕(Nat×(List UInt8→Bool)×(List UInt8→T69)))))) (0,(fun _=>false),(fun _=>(⟨([]:List UInt8),(0:Int),(0:Int)⟩:T69)),(if(fun _=>false) a1=true then 0 else 0+1),(fun q=>q==a1 || (fun _=>false) q),(fun q=>if q=a1 then(⟨a1,(0:Int),(0:Int)⟩:T69)else(fun _=>(⟨([]:List UInt8),(0:Int),(0:Int)⟩:T69)) q))) (onS fun(y7:Nat×(List UInt8→Bool)×(List UInt8→T69))=>(some (y7.1,y7.2.1,y7.2.2)))))):Option (Nat×(List UInt8→Bool)×(List UInt8→T69))):=by kernel_rfl
abbrev LbO:=Nat×(List UInt8→Bool)×(List UInt8→T69)
abbrev LbS:=Nat×(List UInt8→Bool)×(List UInt8→T69)×LbO
noncomputable abbrev rlB (Z:Type) (hs:List T49) (hl:Int) (m:List UInt8) (mL mH:Int) (an:Nat) (ah:List UInt8→Bool) (aF:List UInt8→T52) (dn:Nat) (dh:List UInt8→Bool) (dF:List UInt8→T69):Int×LbO→Option ((Int×LbO)⊕(LbS⊕Z)):=(fun(s6:Int×Nat×(List UInt8→Bool)×(List UInt8→T69))=>((if(decide (s6.1 < hl))=true then(if(0≤s6.1)then(if(s6.1 < (hs.length:Int))then(if((hs.getD s6.1.toNat default).To.length≤maxLen)then(if(dh (hs.getD s6.1.toNat default).To)=true then(some (.inl ((IntKind.wrap .i64 (s6.1+1)),s6.2.1,s6.2.2.1,s6.2.2.2)))else(Option.bind (Option.bind (m37o1 m (hs.getD s6.1.toNat default).To an ah aF) fun r=>some r) fun x18=>(if((hs.getD s6.1.toNat default).To.length≤maxLen)then(Option.bind (((if(!(!(s6.2.2.1 (hs.getD s6.1.toNat default).To)))=true then m46 (⟨(hs.getD s6.1.toNat default).To,(IntKind.wrap .i64 (mL+x18)),(IntKind.wrap .i64 (mH+1))⟩:T69) (s6.2.2.2 (hs.getD s6.1.toNat default).To)else some default).bind fun r20_0=>some r20_0)) fun(x20:(Bool))=>(if((!(s6.2.2.1 (hs.getD s6.1.toNat default).To)) || x20)=true then(if((hs.getD s6.1.toNat default).To.length≤maxLen)then(if(s6.2.1 < maxLen)then(some (.inl ((IntKind.wrap .i64 (s6.1+1)),(if s6.2.2.1 (hs.getD s6.1.toNat default).To=true then s6.2.1 else s6.2.1+1),(fun q=>q==(hs.getD s6.1.toNat default).To || s6.2.2.1 q),(fun q=>if q=(hs.getD s6.1.toNat default).To then(⟨(hs.getD s6.1.toNat default).To,(IntKind.wrap .i64 (mL+x18)),(IntKind.wrap .i64 (mH+1))⟩:T69)else s6.2.2.2 q))))else none)else none)else(some (.inl ((IntKind.wrap .i64 (s6.1+1)),s6.2.1,s6.2.2.1,s6.2.2.2)))))else none)))else none)else none)else none)else(some (.inr (.inl (dn,dh,dF,s6.2.1,s6.2.2.1,s6.2.2.2)))))))
noncomputable abbrev lbB (a0:List T39) (a2:Nat) (a3:List UInt8→Bool) (a4:List UInt8→T52):LbS→Option (LbS⊕(LbO⊕LbO)):=(fun(s1:Nat×(List UInt8→Bool)×(List UInt8→T69)×Nat×(List UInt8→Bool)×(List UInt8→T69))=>((Option.bind (if(decide (0 < ((s1.2.2.2.1:Nat):Int)))=true then(some (.inl ()))else(some (.inr (.inr (.inl (s1.1,s1.2.1,s1.2.2.1)))))) (onS fun(_:Unit)=>(Option.bind (some (.inl ())) (onS fun(_:Unit)=>(Option.bind (Option.bind (rangeM s1.2.2.2.1 s1.2.2.2.2.1 (fun(k2:List UInt8) (s2:Bool×(List UInt8)×Int×Int)=>Option.bind ((Option.bind (some (.inl ())) (onS fun(_:Unit)=>(Option.bind (((if(!s2.1)=true then m46 (s1.2.2.2.2.2 k2) (⟨s2.2.1,s2.2.2.1,s2.2.2.2⟩:T69)else some default).bind fun r9_0=>some r9_0)) fun(x9:(Bool))=>(if((s2.1 || x9) || ((((s1.2.2.2.2.2 k2).Length==s2.2.2.1)&&((s1.2.2.2.2.2 k2).Hops==s2.2.2.2))&&(Op.bytesLess (s1.2.2.2.2.2 k2).Ref s2.2.1)))=true then(some (.inl (false,(s1.2.2.2.2.2 k2).Ref,(s1.2.2.2.2.2 k2).Length,(s1.2.2.2.2.2 k2).Hops)))else(some (.inl (s2.1,s2.2.1,s2.2.2.1,s2.2.2.2))))))):Option ((Bool×(List UInt8)×Int×Int)⊕Empty)) onN) (true,([]:List UInt8),(0:Int),(0:Int))) fun(y3:Bool×(List UInt8)×Int×Int)=>(some (.inl (y3.2.1,y3.2.2.1,y3.2.2.2)))) (onS fun(y4:(List UInt8)×Int×Int)=>(Option.bind (if(y4.1.length≤maxLen)then(if(y4.1.length≤maxLen)then(if(s1.1 < maxLen)then(Option.bind (Option.bind (m25 a0 y4.1) fun r=>some r) fun x13=>(some (.inl (x13,(x13.length:Int)))))else none)else none)else none) (onS fun(y5:(List T49)×Int)=>(loopO (rlB (LbO⊕LbO) y5.1 y5.2 y4.1 y4.2.1 y4.2.2 a2 a3 a4 (if s1.2.1 y4.1=true then s1.1 else s1.1+1) (fun q=>q==y4.1 || s1.2.1 q) (fun q=>if q=y4.1 then(⟨y4.1,y4.2.1,y4.2.2⟩:T69)else s1.2.2.1 q)) ((0:Int),(if s1.2.2.2.2.1 y4.1=true then s1.2.2.2.1 - 1 else s1.2.2.2.1),(fun q=>!(q==y4.1)&&s1.2.2.2.2.1 q),(fun q=>if q=y4.1 then(⟨([]:List UInt8),(0:Int),(0:Int)⟩:T69)else s1.2.2.2.2.2 q))))))))))):Option ((Nat×(List UInt8→Bool)×(List UInt8→T69)×Nat×(List UInt8→Bool)×(List UInt8→T69))⊕((Nat×(List UInt8→Bool)×(List UInt8→T69))⊕(Nat×(List UInt8→Bool)×(List UInt8→T69))))))
variable {l:List T39} {P:List UInt8→T52} {fr:List UInt8} {D O:List (List UInt8)} {dF oF:List UInt8→T69}
theorem length_eq {u v:List UInt8} (hu:u.length≤maxLen) (hv:v.length≤maxLen) (n:Nat) (h:List UInt8→Bool) (P:List UInt8→T52):m37o1 u v n h P=some (lenP P u v):=by
 rw[M37o1,if_pos hu,if_pos hv,dist_eq]
 rfl
theorem refsL_len {l:List T39} (W:WfL l):(refsL l).length≤2400:=by
 have h60:=W.few
 have:=refs_len W l.length (Nat.le_refl _)
 rw[refsL_eq];omega
theorem keys_len {l:List T39} (W:WfL l) {fr:List UInt8} {D:List (List UInt8)} (hn:D.Nodup) (hk:∀ k∈D,k=fr∨k∈refsL l):D.length≤2401:=by
 have h:=refsL_len W
 have:=nodup_le (l:=D) (m:=fr :: refsL l) hn (fun x hx=>by rcases hk x hx with h | h<;>simp[h])
 simp only[List.length_cons]at this
 omega
structure Nm (l:List T39) (fr:List UInt8):Prop where
 wf:WfL l
 fr:fr.length≤maxLen
 rf:∀ r∈refsL l,r.length≤maxLen
theorem Nm.key {l:List T39} {fr:List UInt8} (H:Nm l fr) {k:List UInt8} (h:k=fr∨k∈refsL l):k.length≤maxLen:=by
 rcases h with h | h
 ·rw[h];exact H.fr
 ·exact H.rf k h
theorem rl_round {Z:Type} (N:Nm l fr) {m:List UInt8} {an:Nat} {ah:List UInt8→Bool} {dn n:Nat} {dh h:List UInt8→Bool} {j:Nat} (ED:EnumL dn dh D) (EO:EnumL n h O) (H:Inv l P fr (fun u i=>u=m→i < j) D O dF oF) (hm:m∈D) (mx:∀ d∈D,¬ ltP (dF m) (dF d)) (hj:j < (hopsL l m).length) :
  ∃ O' n' h' oF',rlB Z (hopsL l m) ((hopsL l m).length:Int) m (dF m).Length (dF m).Hops an ah P dn dh dF ((j:Int),n,h,oF)=some (.inl (((j+1:Nat):Int),n',h',oF'))∧EnumL n' h' O'∧Inv l P fr (fun u i=>u=m→i < j+1) D O' dF oF':=by
 have kD:=keys_len N.wf ED.1 (fun k hk=>H.key k (.inl hk))
 have kO:=keys_len N.wf EO.1 (fun k hk=>H.key k (.inr hk))
 have hn:n < maxLen:=by have h1:=EO.2.1;have:maxLen=9223372036854775807:=rfl;omega
 have hlen:=hopsL_len N.wf m
 obtain⟨t,ht⟩:∃ t,tgt l m j=t:=⟨_,rfl⟩
 have ht':((hopsL l m).getD j default).To=t:=ht
 have tr:=(tgt_refs hj).1
 rw[ht]at tr
 have tl:t.length≤maxLen:=N.rf t tr
 have ml:m.length≤maxLen:=N.key (H.key m (.inl hm))
 obtain⟨g1,g2,g3,g4,g5⟩:=H.dgood m hm
 have hr:=lenP_range P m t
 have w1:IntKind.wrap .i64 ((j:Int)+1)=((j+1:Nat):Int):=by rw[wr1 hj (by omega)];omega
 have w2:IntKind.wrap .i64 ((dF m).Length+lenP P m t)=(dF m).Length+lenP P m t:=w64 (by omega) (by omega)
 have w3:IntKind.wrap .i64 ((dF m).Hops+1)=(dF m).Hops+1:=w64 (by omega) (by omega)
 simp only[rlB,inL hj,decide_true,if_true,Int.toNat_natCast,ht',tl,hn,w1,length_eq ml tl,Option.bind_some,w2,w3]
 by_cases hD:t∈D
 ·rw[if_pos ((enum_has ED tl).2 hD)]
  exact⟨O,n,h,oF,rfl,EO,H.relD hm mx (by rw[ht];exact hD)⟩
 rw[if_neg (fun e=>hD ((enum_has ED tl).1 e))]
 have new:(t∈O→(dF m).Length+lenP P m t < (oF t).Length∨((dF m).Length+lenP P m t=(oF t).Length∧(dF m).Hops+1 < (oF t).Hops))→∃ O',EnumL (if h t=true then n else n+1) (fun q=>q==t || h q) O'∧Inv l P fr (fun u i=>u=m→i < j+1) D O' dF (fun q=>if q=t then(⟨t,(dF m).Length+lenP P m t,(dF m).Hops+1⟩:T69)else oF q):=fun hl=>by
  by_cases hO:t∈O
  ·exact⟨O,enum_old EO hO,H.relN hj hm mx ht hD rfl hl (fun k=>⟨.inr,fun q=>q.elim (fun e=>e ▸ hO) id⟩) (if_pos rfl) (fun k hk=>if_neg hk)⟩
  ·exact⟨t :: O,enum_new EO tl hO,H.relN hj hm mx ht hD rfl hl (fun k=>List.mem_cons) (if_pos rfl) (fun k hk=>if_neg hk)⟩
 cases hh:h t with
 | false =>
  have hO:t ∉ O:=fun e=>by rw[(enum_has EO tl).2 e]at hh;cases hh
  simp only[Bool.not_false,Bool.not_true,Bool.false_eq_true,if_false,Option.bind_some,Bool.true_or,if_true]
  obtain⟨O',e1,e2⟩:=new (fun e=>absurd e hO)
  rw[hh]at e1
  exact⟨O',_,_,_,rfl,e1,e2⟩
 | true =>
  have hO:t∈O:=(enum_has EO tl).1 hh
  simp only[Bool.not_false,Bool.not_true,if_true,M46,Option.bind_some,Bool.false_or,Bool.or_eq_true,Bool.and_eq_true,decide_eq_true_eq,beq_iff_eq]
  by_cases hc:(dF m).Length+lenP P m t < (oF t).Length∨((dF m).Length+lenP P m t=(oF t).Length∧(dF m).Hops+1 < (oF t).Hops)
  ·rw[if_pos hc]
   obtain⟨O',e1,e2⟩:=new (fun _=>hc)
   rw[hh]at e1
   exact⟨O',_,_,_,rfl,e1,e2⟩
  ·rw[if_neg hc]
   refine⟨O,n,h,oF,rfl,EO,H.relK (by rw[ht];exact hO) ?_⟩
   rw[ht]
   unfold le2
   omega
theorem rl_loop {Z:Type} (N:Nm l fr) {m:List UInt8} {an:Nat} {ah:List UInt8→Bool} {dn n:Nat} {dh h:List UInt8→Bool} (ED:EnumL dn dh D) (EO:EnumL n h O) (H:Inv l P fr (fun u i=>u=m→i < 0) D O dF oF) (hm:m∈D) (mx:∀ d∈D,¬ ltP (dF m) (dF d)) :
  ∃ x:LbS⊕Z,loopO (rlB Z (hopsL l m) ((hopsL l m).length:Int) m (dF m).Length (dF m).Hops an ah P dn dh dF) ((0:Int),n,h,oF)=some x∧∃ n' h' oF' O',x=.inl (dn,dh,dF,n',h',oF')∧EnumL n' h' O'∧Inv l P fr (fun _ _=>True) D O' dF oF':=by
 have hlen:=hopsL_len N.wf m
 refine loop_meas (b:=rlB Z (hopsL l m) ((hopsL l m).length:Int) m (dF m).Length (dF m).Hops an ah P dn dh dF) (fun s=>∃ j n h oF O,s=(((j:Nat):Int),n,h,oF)∧j≤(hopsL l m).length∧EnumL n h O∧Inv l P fr (fun u i=>u=m→i < j) D O dF oF) (fun s=>((hopsL l m).length - s.1).toNat)
  (fun x=>∃ n' h' oF' O',x=.inl (dn,dh,dF,n',h',oF')∧EnumL n' h' O'∧Inv l P fr (fun _ _=>True) D O' dF oF') (fun s hs=>?_) _ ⟨0,n,h,oF,O,rfl,by omega,EO,H⟩
 obtain⟨j,n,h,oF,O,rfl,hj,EO,H⟩:=hs
 by_cases hlt:j < (hopsL l m).length
 ·obtain⟨O',n',h',oF',e,E',H'⟩:=rl_round (Z:=Z) N (an:=an) (ah:=ah) ED EO H hm mx hlt
  exact .inl ⟨_,e,⟨j+1,n',h',oF',O',rfl,hlt,E',H'⟩,by simp only;omega⟩
 ·obtain rfl:j=(hopsL l m).length:=by omega
  refine .inr ⟨.inl (dn,dh,dF,n,h,oF),?_,n,h,oF,O,rfl,EO,{ H with fe:=fun u hu i hi _=>H.fe u hu i hi fun e=>by rw[e]at hi;exact hi }⟩
  simp only[rlB,lt_irr,decide_false,Bool.false_eq_true,if_false]
theorem lb_round (N:Nm l fr) {dn n:Nat} {dh h:List UInt8→Bool} {an:Nat} {ah:List UInt8→Bool} (ED:EnumL dn dh D) (EO:EnumL n h O) (H:Inv l P fr (fun _ _=>True) D O dF oF) (hn:0 < n) :
  ∃ s',lbB l an ah P (dn,dh,dF,n,h,oF)=some (.inl s')∧∃ D' O' dh' dF' n' h' oF',s'=(dn+1,dh',dF',n',h',oF')∧EnumL (dn+1) dh' D'∧EnumL n' h' O'∧Inv l P fr (fun _ _=>True) D' O' dF' oF':=by
 obtain⟨m,hm,h1,h2⟩:=least_range EO hn (fun k hk=>(H.ogood k hk).1) (true,([]:List UInt8),(0:Int),(0:Int)) rfl
 have hR:=(H.ogood m hm).1
 have mD:m ∉ D:=fun e=>H.dis m e hm
 have ml:m.length≤maxLen:=N.key (H.key m (.inr hm))
 have kD:=keys_len N.wf ED.1 (fun k hk=>H.key k (.inl hk))
 have hd:dn < maxLen:=by have h1:=ED.2.1;have:maxLen=9223372036854775807:=rfl;omega
 have hdh:dh m=false:=by
  cases hh:dh m with
  | false=>rfl
  | true=>exact absurd ((enum_has ED ml).1 hh) mD
 have hoh:h m=true:=(enum_has EO ml).2 hm
 have em:(⟨m,(oF m).Length,(oF m).Hops⟩:T69)=oF m:=by
  have:oF m=⟨(oF m).Ref,(oF m).Length,(oF m).Hops⟩:=rfl
  rw[hR]at this;exact this.symm
 obtain⟨dF',hdF'⟩:∃ f:List UInt8→T69,f=fun q=>if q=m then(⟨m,(oF m).Length,(oF m).Hops⟩:T69)else dF q:=⟨_,rfl⟩
 have d1:dF' m=oF m:=by rw[hdF',← em];exact if_pos rfl
 have d2:∀ k,k≠m→dF' k=dF k:=fun k hk=>by rw[hdF'];exact if_neg hk
 have H2:=H.pop EO.1 hm h2 (dF':=dF') (oF':=fun q=>if q=m then(⟨([]:List UInt8),(0:Int),(0:Int)⟩:T69)else oF q) d1 d2 (fun k hk=>if_neg hk)
 have ED2:=enum_new ED ml mD
 have EO2:=enum_del EO hm
 have mx:∀ d∈m :: D,¬ ltP (dF' m) (dF' d):=fun d hd=>by
  rw[d1]
  rcases List.mem_cons.1 hd with rfl | hd
  ·rw[d1];exact ltP_irr _
  ·rw[d2 d (fun e=>mD (e ▸ hd))];exact H.mono d hd m hm
 obtain⟨x,e1,n',h',oF',O',rfl,e2,e3⟩:=rl_loop (Z:=LbO⊕LbO) N (an:=an) (ah:=ah) ED2 EO2 H2 (by simp) mx
 have hdn:(if dh m=true then dn else dn+1)=dn+1:=by rw[hdh];rfl
 rw[hdn]at ED2
 refine⟨_,?_,m :: D,O',_,dF',n',h',oF',rfl,ED2,e2,e3⟩
 refine on_l (y:=()) (if_pos (by simpa using hn)) (on_l (y:=()) rfl (on_l (y:=(m,(oF m).Length,(oF m).Hops)) (bind_to (x:=unl (oF m)) h1 (by rw[unl,hR])) (on_l (y:=(hopsL l m,((hopsL l m).length:Int))) ?_ ?_)))
 ·rw[if_pos ml,if_pos ml,if_pos hd]
  exact bind_to (bind_to (hops_eq N.wf m) rfl) rfl
 ·rw[d1,hdF']at e1
  exact e1.trans (by rw[hdn,hdF'])
theorem lb_loop (N:Nm l fr) {an:Nat} {ah:List UInt8→Bool} {dn n:Nat} {dh h:List UInt8→Bool} (ED:EnumL dn dh D) (EO:EnumL n h O) (H:Inv l P fr (fun _ _=>True) D O dF oF) :
  ∃ x,loopO (lbB l an ah P) (dn,dh,dF,n,h,oF)=some x∧∃ dn dh dF D oF,x=.inl (dn,dh,dF)∧EnumL dn dh D∧Inv l P fr (fun _ _=>True) D [] dF oF:=by
 refine loop_meas (b:=lbB l an ah P) (fun s=>∃ dn dh dF n h oF D O,s=(dn,dh,dF,n,h,oF)∧EnumL dn dh D∧EnumL n h O∧Inv l P fr (fun _ _=>True) D O dF oF) (fun s=>2402 - s.1)
  (fun x=>∃ dn dh dF D oF,x=.inl (dn,dh,dF)∧EnumL dn dh D∧Inv l P fr (fun _ _=>True) D [] dF oF) (fun s hs=>?_) _ ⟨dn,dh,dF,n,h,oF,D,O,rfl,ED,EO,H⟩
 obtain⟨dn,dh,dF,n,h,oF,D,O,rfl,ED,EO,H⟩:=hs
 have kD:=keys_len N.wf ED.1 (fun k hk=>H.key k (.inl hk))
 by_cases hn:0 < n
 ·obtain⟨s',e,D',O',dh',dF',n',h',oF',rfl,e1,e2,e3⟩:=lb_round N (an:=an) (ah:=ah) ED EO H hn
  refine .inl ⟨_,e,⟨_,_,_,_,_,_,D',O',rfl,e1,e2,e3⟩,?_⟩
  have:=ED.2.1
  show 2402 - (dn+1) < 2402 - dn
  omega
 ·have e0:O=[]:=List.length_eq_zero_iff.1 (by have:=EO.2.1;omega)
  subst e0
  refine .inr ⟨.inl (dn,dh,dF),?_,dn,dh,dF,D,oF,rfl,ED,H⟩
  have hn0:n=0:=by omega
  subst hn0
  rfl
structure Lab (l:List T39) (P:List UInt8→T52) (fr:List UInt8) (D:List (List UInt8)) (F:List UInt8→T69):Prop where
 key:∀ k∈D,k=fr∨k∈refsL l
 good:∀ k∈D,(F k).Ref=k∧0≤(F k).Hops∧(F k).Hops≤2401∧0≤(F k).Length∧(F k).Length≤(F k).Hops * 64800000
 fe:∀ u∈D,∀ h∈hopsL l u,h.To∈D∧(F h.To).Length≤(F u).Length+lenP P u h.To
 tight:∀ k∈D,(k=fr∧(F k).Length=0∧(F k).Hops=0)∨∃ u,u∈D∧(∃ h,h∈hopsL l u∧h.To=k)∧(F k).Length=(F u).Length+lenP P u k∧(F k).Hops=(F u).Hops+1
 st:fr∈D
 zero:F fr=⟨fr,0,0⟩
theorem labels_eq (N:Nm l fr) (P:List UInt8→T52) (an:Nat) (ah:List UInt8→Bool):∃ n h F D,m18o1 l fr an ah P=some (n,h,F)∧EnumL n h D∧Lab l P fr D F:=by
 obtain⟨o0,ho0⟩:∃ f:List UInt8→T69,f=fun q=>if q=fr then(⟨fr,(0:Int),(0:Int)⟩:T69)else(⟨([]:List UInt8),(0:Int),(0:Int)⟩:T69):=⟨_,rfl⟩
 have o1:o0 fr=⟨fr,0,0⟩:=by rw[ho0];exact if_pos rfl
 have I0:Inv l P fr (fun _ _=>True) [] [fr] (fun _=>(⟨([]:List UInt8),(0:Int),(0:Int)⟩:T69)) o0:=by
  refine⟨fun k hk=>(by cases hk),fun k hk=>?_,fun k hk=>(by cases hk),fun k hk=>?_,fun d hd=>(by cases hd),fun u hu=>(by cases hu),fun k x hk=>?_,.inl ⟨rfl,rfl,o1⟩⟩
  ·rcases hk with hk | hk
   ·cases hk
   ·exact .inl (List.mem_singleton.1 hk)
  ·rw[List.mem_singleton.1 hk,o1]
   exact⟨rfl,by simp,by simp,by simp,by simp⟩
  ·rcases hk with⟨hk,_⟩ | ⟨hk,rfl⟩
   ·cases hk
   ·rw[List.mem_singleton.1 hk,o1]
    exact .inl ⟨rfl,rfl,rfl⟩
 obtain⟨x,e,dn,dh,dF,D,oF,rfl,ED,H⟩:=lb_loop N (an:=an) (ah:=ah) enum_nil (enum_new enum_nil N.fr (by simp)) I0
 rw[ho0]at e
 have kD:=keys_len N.wf ED.1 (fun k hk=>H.key k (.inl hk))
 refine⟨dn,dh,dF,D,?_,ED,⟨fun k hk=>H.key k (.inl hk),fun k hk=>?_,fun u hu h hh=>?_,fun k hk=>?_,?_,?_⟩⟩
 ·rw[M18o1]
  refine on_l (y:=()) ?_ (on_l e rfl)
  rw[if_pos N.fr,if_pos (by decide)]
 ·obtain⟨g1,g2,g3,g4,g5⟩:=H.dgood k hk
  exact⟨g1,g2,by omega,g4,g5⟩
 ·obtain⟨i,hi,e⟩:=mem_getD hh
  have ht:tgt l u i=h.To:=by unfold tgt;rw[e]
  rcases H.fe u hu i hi trivial with⟨h1,h2⟩ | ⟨h1,h2⟩
  ·rw[ht]at h1 h2
   refine⟨h1,?_⟩
   unfold le2 at h2
   omega
  ·cases h1
 ·rcases H.tight k _ (.inl ⟨hk,rfl⟩) with h | h
  ·exact .inl h
  ·exact .inr h
 ·rcases H.start with⟨_,h,_⟩ | ⟨h,_⟩
  ·cases h
  ·exact h
 ·rcases H.start with⟨_,h,_⟩ | ⟨_,h⟩
  ·cases h
  ·exact h
end Go.Av.Air
set_option maxRecDepth 100000
namespace Go.Av.Air
theorem M19 (a0:List T39) (a1:List UInt8):m19 a0 a1=((Option.bind (if(a1.length≤maxLen)then(if(0 < maxLen)then(Option.bind ((some ())) fun(x2:(Unit))=>(some (.inl ())))else none)else none) (onS fun(_:Unit)=>(Option.bind (Option.bind (some (.inl ())) (onS fun(_:Unit)=>(loopO (fun(s1:(List (List UInt8))×Int×Nat×(List UInt8→Bool)×(List UInt8→Bool))=>((Option.bind (if(decide (s1.2.1 < (s1.1.length:Int)))=true then(some (.inl ()))else(some (.inr (.inr (.inl s1.1))))) (onS fun(_:Unit)=>(Option.bind (Option.bind (Option.bind ((if 0≤s1.2.1 then(if s1.2.1 < (s1.1.length:Int)then(if s1.2.1.toNat < s1.1.length then((m25 a0 (s1.1.getD s1.2.1.toNat default)).bind fun r6_0=>some r6_0)else none)else none)else none)) fun(x6:((List T49)))=>(some (.inl (x6,(x6.length:Int))))) (onS fun(y2:(List T49)×Int)=>(loopO (fun(s3:(List (List UInt8))×Int×Nat×(List UInt8→Bool)×(List UInt8→Bool))=>((if(decide (s3.2.1 < y2.2))=true then(if(0≤s3.2.1)then(if(s3.2.1 < (y2.1.length:Int))then(if((y2.1.getD s3.2.1.toNat default).To.length≤maxLen)then(if(!(s3.2.2.2.2 (y2.1.getD s3.2.1.toNat default).To))=true then(if((y2.1.getD s3.2.1.toNat default).To.length≤maxLen)then(if(s3.2.2.1 < maxLen)then(Option.bind ((if(s3.1.length+1) * 16≤140737488355328 then some ()else none)) fun(x11:(Unit))=>(some (.inl ((s3.1++([(y2.1.getD s3.2.1.toNat default).To]:List (List UInt8))),(IntKind.wrap .i64 (s3.2.1+1)),(if s3.2.2.2.1 (y2.1.getD s3.2.1.toNat default).To=true then s3.2.2.1 else s3.2.2.1+1),(fun q=>q==(y2.1.getD s3.2.1.toNat default).To || s3.2.2.2.1 q),(fun q=>if q=(y2.1.getD s3.2.1.toNat default).To then true else s3.2.2.2.2 q)))))else none)else none)else(some (.inl (s3.1,(IntKind.wrap .i64 (s3.2.1+1)),s3.2.2.1,s3.2.2.2.1,s3.2.2.2.2))))else none)else none)else none)else(some (.inr (.inl (s3.1,s3.2.2.1,s3.2.2.2.1,s3.2.2.2.2))))):Option (((List (List UInt8))×Int×Nat×(List UInt8→Bool)×(List UInt8→Bool))⊕(((List (List UInt8))×Nat×(List UInt8→Bool)×(List UInt8→Bool))⊕(((List (List UInt8))×Int×Nat×(List UInt8→Bool)×(List UInt8→Bool))⊕(((List (List UInt8)))⊕((List (List UInt8))))))))) (s1.1,(0:Int),s1.2.2.1,s1.2.2.2.1,s1.2.2.2.2)))) (onS fun(y4:(List (List UInt8))×Nat×(List UInt8→Bool)×(List UInt8→Bool))=>(some (.inl (y4.1,(IntKind.wrap .i64 (s1.2.1+1)),y4.2.1,y4.2.2.1,y4.2.2.2))))))):Option (((List (List UInt8))×Int×Nat×(List UInt8→Bool)×(List UInt8→Bool))⊕(((List (List UInt8)))⊕((List (List UInt8))))))) (([a1]:List (List UInt8)),(0:Int),(if(fun _=>false) a1=true then 0 else 0+1),(fun q=>q==a1 || (fun _=>false) q),(fun q=>if q=a1 then true else(fun _=>false) q))))) (onS fun(y5:(List (List UInt8)))=>(Option.bind (Option.bind (msrts y5) fun r=>some r) fun x13=>(some (sortS y5))))))):Option ((List (List UInt8)))):=by kernel_rfl
noncomputable abbrev lo19_1 (y2:(List T49)×Int):((List (List UInt8))×Int×Nat×(List UInt8→Bool)×(List UInt8→Bool))→Option (((List (List UInt8))×Int×Nat×(List UInt8→Bool)×(List UInt8→Bool))⊕(((List (List UInt8))×Nat×(List UInt8→Bool)×(List UInt8→Bool))⊕(((List (List UInt8))×Int×Nat×(List UInt8→Bool)×(List UInt8→Bool))⊕(((List (List UInt8)))⊕((List (List UInt8))))))):=(fun(s3:(List (List UInt8))×Int×Nat×(List UInt8→Bool)×(List UInt8→Bool))=>((if(decide (s3.2.1 < y2.2))=true then(if(0≤s3.2.1)then(if(s3.2.1 < (y2.1.length:Int))then(if((y2.1.getD s3.2.1.toNat default).To.length≤maxLen)then(if(!(s3.2.2.2.2 (y2.1.getD s3.2.1.toNat default).To))=true then(if((y2.1.getD s3.2.1.toNat default).To.length≤maxLen)then(if(s3.2.2.1 < maxLen)then(Option.bind ((if(s3.1.length+1) * 16≤140737488355328 then some ()else none)) fun(x11:(Unit))=>(some (.inl ((s3.1++([(y2.1.getD s3.2.1.toNat default).To]:List (List UInt8))),(IntKind.wrap .i64 (s3.2.1+1)),(if s3.2.2.2.1 (y2.1.getD s3.2.1.toNat default).To=true then s3.2.2.1 else s3.2.2.1+1),(fun q=>q==(y2.1.getD s3.2.1.toNat default).To || s3.2.2.2.1 q),(fun q=>if q=(y2.1.getD s3.2.1.toNat default).To then true else s3.2.2.2.2 q)))))else none)else none)else(some (.inl (s3.1,(IntKind.wrap .i64 (s3.2.1+1)),s3.2.2.1,s3.2.2.2.1,s3.2.2.2.2))))else none)else none)else none)else(some (.inr (.inl (s3.1,s3.2.2.1,s3.2.2.2.1,s3.2.2.2.2))))):Option (((List (List UInt8))×Int×Nat×(List UInt8→Bool)×(List UInt8→Bool))⊕(((List (List UInt8))×Nat×(List UInt8→Bool)×(List UInt8→Bool))⊕(((List (List UInt8))×Int×Nat×(List UInt8→Bool)×(List UInt8→Bool))⊕(((List (List UInt8)))⊕((List (List UInt8)))))))))
noncomputable abbrev lo19_2 (a0:List T39):((List (List UInt8))×Int×Nat×(List UInt8→Bool)×(List UInt8→Bool))→Option (((List (List UInt8))×Int×Nat×(List UInt8→Bool)×(List UInt8→Bool))⊕(((List (List UInt8)))⊕((List (List UInt8))))):=(fun(s1:(List (List UInt8))×Int×Nat×(List UInt8→Bool)×(List UInt8→Bool))=>((Option.bind (if(decide (s1.2.1 < (s1.1.length:Int)))=true then(some (.inl ()))else(some (.inr (.inr (.inl s1.1))))) (onS fun(_:Unit)=>(Option.bind (Option.bind (Option.bind ((if 0≤s1.2.1 then(if s1.2.1 < (s1.1.length:Int)then(if s1.2.1.toNat < s1.1.length then((m25 a0 (s1.1.getD s1.2.1.toNat default)).bind fun r6_0=>some r6_0)else none)else none)else none)) fun(x6:((List T49)))=>(some (.inl (x6,(x6.length:Int))))) (onS fun(y2:(List T49)×Int)=>(loopO (lo19_1 y2) (s1.1,(0:Int),s1.2.2.1,s1.2.2.2.1,s1.2.2.2.2)))) (onS fun(y4:(List (List UInt8))×Nat×(List UInt8→Bool)×(List UInt8→Bool))=>(some (.inl (y4.1,(IntKind.wrap .i64 (s1.2.1+1)),y4.2.1,y4.2.2.1,y4.2.2.2))))))):Option (((List (List UInt8))×Int×Nat×(List UInt8→Bool)×(List UInt8→Bool))⊕(((List (List UInt8)))⊕((List (List UInt8)))))))
theorem A19 (a0:List T39) (a1:List UInt8):m19 a0 a1=((Option.bind (if(a1.length≤maxLen)then(if(0 < maxLen)then(Option.bind ((some ())) fun(x2:(Unit))=>(some (.inl ())))else none)else none) (onS fun(_:Unit)=>(Option.bind (Option.bind (some (.inl ())) (onS fun(_:Unit)=>(loopO (lo19_2 a0) (([a1]:List (List UInt8)),(0:Int),(if(fun _=>false) a1=true then 0 else 0+1),(fun q=>q==a1 || (fun _=>false) q),(fun q=>if q=a1 then true else(fun _=>false) q))))) (onS fun(y5:(List (List UInt8)))=>(Option.bind (Option.bind (msrts y5) fun r=>some r) fun x13=>(some (sortS y5))))))):Option ((List (List UInt8)))):=M19 _ _
variable {l:List T39} {P:List UInt8→T52} {fr:List UInt8} {D:List (List UInt8)} {F:List UInt8→T69}
structure RqI (l:List T39) (fr:List UInt8) (D:List (List UInt8)) (i j:Nat) (Q:List (List UInt8)) (n:Nat) (sf:List UInt8→Bool):Prop where
 nd:Q.Nodup
 sub:∀ x∈Q,x∈D
 st:fr∈Q
 cn:n≤Q.length
 hs:∀ q,sf q=true↔q∈Q
 le:i≤Q.length
 cl:∀ k,k < i→∀ h∈hopsL l (Q.getD k default),h.To∈Q
 cj:i < Q.length→∀ k,k < j→tgt l (Q.getD i default) k∈Q
theorem getD_app {α:Type} [Inhabited α] {a b:List α} {k:Nat} (h:k < a.length):(a++b).getD k default=a.getD k default:=by
 rw[List.getD_eq_getElem?_getD,List.getD_eq_getElem?_getD,List.getElem?_append_left h]
theorem rq_round (N:Nm l fr) (L:Lab l P fr D F) {i j n:Nat} {Q:List (List UInt8)} {h sf:List UInt8→Bool} (H:RqI l fr D i j Q n sf) (hi:i < Q.length) (hj:j < (hopsL l (Q.getD i default)).length) (hD:D.length≤2401) :
  ∃ R n' h' sf',lo19_1 (hopsL l (Q.getD i default),((hopsL l (Q.getD i default)).length:Int)) (Q,(j:Int),n,h,sf)=some (.inl (Q++R,((j+1:Nat):Int),n',h',sf'))∧RqI l fr D i (j+1) (Q++R) n' sf':=by
 have hlen:=hopsL_len N.wf (Q.getD i default)
 have hQ:=nodup_le H.nd H.sub
 have hn:n < maxLen:=by have h1:=H.cn;have:maxLen=9223372036854775807:=rfl;omega
 obtain⟨u,hu⟩:∃ u,Q.getD i default=u:=⟨_,rfl⟩
 rw[hu]at hj hlen ⊢
 obtain⟨t,ht⟩:∃ t,tgt l u j=t:=⟨_,rfl⟩
 have ht':((hopsL l u).getD j default).To=t:=ht
 have tr:=tgt_refs hj
 rw[ht]at tr
 have tl:t.length≤maxLen:=N.rf t tr.1
 have w1:IntKind.wrap .i64 ((j:Int)+1)=((j+1:Nat):Int):=by rw[wr1 hj (by omega)];omega
 have uD:u∈D:=H.sub u (by rw[← hu];exact getD_mem hi)
 have tD:t∈D:=by have:=(L.fe u uD _ tr.2).1;rw[ht']at this;exact this
 have p16:(Q.length+1) * 16≤140737488355328:=Nat.le_trans (Nat.mul_le_mul_right 16 (show Q.length+1≤2402 by omega)) (by decide)
 simp only[lo19_1,inL hj,decide_true,if_true,Int.toNat_natCast,ht',tl,hn,w1,p16,Option.bind_some]
 by_cases hs:sf t=true
 ·rw[hs]
  simp only[Bool.not_true,Bool.false_eq_true,if_false]
  refine⟨[],n,h,sf,by rw[List.append_nil],?_⟩
  rw[List.append_nil]
  refine { H with cj:=fun hi k hk=>?_ }
  by_cases e:k=j
  ·rw[e,hu,ht];exact(H.hs t).1 hs
  ·exact H.cj hi k (by omega)
 ·have hf:sf t=false:=by simpa using hs
  have tQ:t ∉ Q:=fun e=>hs ((H.hs t).2 e)
  rw[hf]
  simp only[Bool.not_false,if_true]
  refine⟨[t],_,_,_,rfl,?_⟩
  have mq:∀ x,x∈Q++[t]↔x∈Q∨x=t:=fun x=>by rw[List.mem_append,List.mem_singleton]
  refine⟨?_,?_,?_,?_,?_,?_,?_,?_⟩
  ·rw[List.nodup_append]
   exact⟨H.nd,by simp,fun a ha b hb e=>by rw[List.mem_singleton.1 hb]at e;exact tQ (e ▸ ha)⟩
  ·intro x hx
   rcases (mq x).1 hx with hx | rfl
   ·exact H.sub x hx
   ·exact tD
  ·exact(mq _).2 (.inl H.st)
  ·rw[List.length_append,List.length_singleton]
   have:=H.cn
   split<;>omega
  ·intro q
   rw[mq]
   by_cases e:q=t
   ·rw[if_pos e];exact⟨fun _=>.inr e,fun _=>rfl⟩
   ·rw[if_neg e,H.hs q];exact⟨.inl,fun h=>h.resolve_right e⟩
  ·rw[List.length_append];have:=H.le;omega
  ·intro k hk g hg
   rw[getD_app (by omega)]at hg
   exact(mq _).2 (.inl (H.cl k hk g hg))
  ·intro _ k hk
   rw[getD_app hi]
   by_cases e:k=j
   ·rw[e,hu,ht];exact(mq _).2 (.inr rfl)
   ·exact(mq _).2 (.inl (H.cj hi k (by omega)))
theorem rq_loop (N:Nm l fr) (L:Lab l P fr D F) {i n:Nat} {Q:List (List UInt8)} {h sf:List UInt8→Bool} (H:RqI l fr D i 0 Q n sf) (hi:i < Q.length) (hD:D.length≤2401) :
  ∃ x,loopO (lo19_1 (hopsL l (Q.getD i default),((hopsL l (Q.getD i default)).length:Int))) (Q,0,n,h,sf)=some x∧∃ Q' n' h' sf',x=.inl (Q',n',h',sf')∧RqI l fr D (i+1) 0 Q' n' sf':=by
 obtain⟨u,hu⟩:∃ u,Q.getD i default=u:=⟨_,rfl⟩
 rw[hu]
 have hlen:=hopsL_len N.wf u
 refine loop_meas (b:=lo19_1 (hopsL l u,((hopsL l u).length:Int))) (fun s=>∃ Q j n h sf,s=(Q,((j:Nat):Int),n,h,sf)∧j≤(hopsL l u).length∧i < Q.length∧Q.getD i default=u∧RqI l fr D i j Q n sf) (fun s=>((hopsL l u).length - s.2.1).toNat)
  (fun x=>∃ Q' n' h' sf',x=.inl (Q',n',h',sf')∧RqI l fr D (i+1) 0 Q' n' sf') (fun s hs=>?_) _ ⟨Q,0,n,h,sf,rfl,by omega,hi,hu,H⟩
 obtain⟨Q,j,n,h,sf,rfl,hj,hi,hu,H⟩:=hs
 by_cases hlt:j < (hopsL l u).length
 ·have key:=rq_round N L (h:=h) H hi (by rw[hu];exact hlt) hD
  rw[hu]at key
  obtain⟨R,n',h',sf',e,H'⟩:=key
  exact .inl ⟨_,e,⟨Q++R,j+1,n',h',sf',rfl,hlt,by rw[List.length_append];omega,by rw[getD_app hi];exact hu,H'⟩,by simp only;omega⟩
 ·obtain rfl:j=(hopsL l u).length:=by omega
  refine .inr ⟨.inl (Q,n,h,sf),?_,Q,n,h,sf,rfl,⟨H.nd,H.sub,H.st,H.cn,H.hs,by omega,fun k hk g hg=>?_,fun _ k hk=>absurd hk (Nat.not_lt_zero k)⟩⟩
  ·simp only[lo19_1,lt_irr,decide_false,Bool.false_eq_true,if_false]
  ·by_cases e:k=i
   ·rw[e,hu]at hg
    obtain⟨z,hz,ez⟩:=mem_getD hg
    have:=H.cj hi z hz
    rw[hu]at this
    unfold tgt at this
    rw[ez]at this;exact this
   ·exact H.cl k (by omega) g hg
theorem ro_loop (N:Nm l fr) (L:Lab l P fr D F) (hD:D.length≤2401) {i n:Nat} {Q:List (List UInt8)} {h sf:List UInt8→Bool} (H:RqI l fr D i 0 Q n sf) :
  ∃ x,loopO (lo19_2 l) (Q,(i:Int),n,h,sf)=some x∧∃ Q' n' sf',x=.inl Q'∧RqI l fr D Q'.length 0 Q' n' sf':=by
 refine loop_meas (b:=lo19_2 l) (fun s=>∃ Q i n h sf,s=(Q,((i:Nat):Int),n,h,sf)∧RqI l fr D i 0 Q n sf) (fun s=>(2402 - s.2.1).toNat)
  (fun x=>∃ Q' n' sf',x=.inl Q'∧RqI l fr D Q'.length 0 Q' n' sf') (fun s hs=>?_) _ ⟨Q,i,n,h,sf,rfl,H⟩
 obtain⟨Q,i,n,h,sf,rfl,H⟩:=hs
 have hQ:=nodup_le H.nd H.sub
 have hi:=H.le
 by_cases hlt:i < Q.length
 ·obtain⟨x,e,Q',n',h',sf',rfl,H'⟩:=rq_loop N L (h:=h) H hlt hD
  refine .inl ⟨(Q',((i+1:Nat):Int),n',h',sf'),?_,⟨Q',i+1,n',h',sf',rfl,H'⟩,by simp only;omega⟩
  have w1:IntKind.wrap .i64 ((i:Int)+1)=((i+1:Nat):Int):=by rw[wr1 hlt (by omega)];omega
  have hc:m25 l (Q.getD i default)=some (hopsL l (Q.getD i default)):=hops_eq N.wf _
  refine on_l (y:=()) (if_pos (decide_eq_true (by show (i:Int) < (Q.length:Int);omega))) (on_l (y:=(Q',n',h',sf')) (on_l (y:=(hopsL l (Q.getD i default),((hopsL l (Q.getD i default)).length:Int))) ?_ e) ?_)
  ·simp only[Int.toNat_natCast]
   rw[if_pos (by omega),if_pos (by omega),if_pos (by omega)]
   exact bind_to (bind_to hc rfl) rfl
  ·simp only[w1]
 ·obtain rfl:i=Q.length:=by omega
  refine .inr ⟨.inl Q,?_,Q,n,sf,rfl,H⟩
  simp only[lo19_2,lt_irr,decide_false,Bool.false_eq_true,if_false,Option.bind_some,onS]
theorem reach_eq (N:Nm l fr) (L:Lab l P fr D F) (hn:D.Nodup):∃ R,m19 l fr=some R∧R.Nodup∧R.Pairwise (·≤·)∧∀ x,x∈R↔x∈D:=by
 have hD:=keys_len N.wf hn L.key
 have H0:RqI l fr D 0 0 [fr] (if(fun _=>false) fr=true then 0 else 0+1) (fun q=>if q=fr then true else(fun _=>false) q):=by
  refine⟨by simp,fun x hx=>?_,by simp,by simp,fun q=>?_,by omega,fun k hk=>absurd hk (Nat.not_lt_zero k),fun _ k hk=>absurd hk (Nat.not_lt_zero k)⟩
  ·rw[List.mem_singleton.1 hx];exact L.st
  ·rw[List.mem_singleton];by_cases e:q=fr
   ·rw[if_pos e];exact⟨fun _=>e,fun _=>rfl⟩
   ·rw[if_neg e];exact⟨fun h=>(by cases h),fun h=>absurd h e⟩
 obtain⟨x,e,Q,n,sf,rfl,H⟩:=ro_loop N L hD (h:=fun q=>q==fr || (fun _=>false) q) H0
 have hQ:=nodup_le H.nd H.sub
 have hm:msrts Q=some ():=by unfold msrts;rw[if_pos (by omega)]
 refine⟨sortS Q,?_,?_,?_,fun x=>?_⟩
 ·rw[A19]
  refine on_l (y:=()) ?_ (on_l (on_l (y:=()) rfl e) (bind_to (bind_to hm rfl) rfl))
  rw[if_pos N.fr,if_pos (by decide)];rfl
 ·exact(sortS_perm Q).nodup_iff.2 H.nd
 ·have:=List.pairwise_mergeSort (le:=fun x y:List UInt8=>decide (x≤y)) (fun a b c h1 h2=>by simp only[decide_eq_true_eq]at *;exact List.le_trans h1 h2) (fun a b=>by
   simp only[Bool.or_eq_true,decide_eq_true_eq];exact List.le_total a b) Q
  exact this.imp fun h=>by simpa using h
 ·rw[(sortS_perm Q).mem_iff]
  refine⟨H.sub x,?_⟩
  have cl:∀ u∈Q,∀ h∈hopsL l u,h.To∈Q:=fun u hu h hh=>by
   obtain⟨k,hk,rfl⟩:=mem_getD hu
   exact H.cl k hk h hh
  have key:∀ n:Nat,∀ x∈D,(F x).Hops=n→x∈Q:=by
   intro n
   induction n with
   | zero =>
    intro x hx h0
    rcases L.tight x hx with⟨h,_⟩ | ⟨u,hu,_,_,h⟩
    ·rw[h];exact H.st
    ·have:=(L.good u hu).2.1;omega
   | succ n ih =>
    intro x hx h0
    rcases L.tight x hx with⟨h,_⟩ | ⟨u,hu,⟨g,hg,rfl⟩,_,h⟩
    ·rw[h];exact H.st
    ·exact cl u (ih u hu (by omega)) g hg
  intro hx
  have h0:=(L.good x hx).2.1
  exact key (F x).Hops.toNat x hx (by omega)
end Go.Av.Air
namespace Go.Av
theorem bs {α β:Type} {a:α} {f:α→Option β}:Option.bind (some a) f=f a:=Eq.mpr rfl rfl
theorem oe {R:Type} {r:R}:onE (.inr r)=some r:=Eq.mpr rfl rfl
theorem loop_st {S X : Type} {b : S → Option (S ⊕ X)} (n : Nat) (st : Nat → S) (out : X) (hs : ∀ i, i < n → b (st i) = some (.inl (st (i + 1)))) (he : b (st n) = some (.inr out)) : loopO b (st 0) = some out := by
  have key : ∀ k i, i + k = n → loopO b (st i) = some out := by
    intro k
    induction k with
    | zero => intro i h; obtain rfl : i = n := by omega
              rw [loopO_eq, he]; rfl
    | succ k ih => intro i h; rw [loopO_eq, hs i (by omega)]; exact ih (i + 1) (by omega)
  exact key n 0 (by omega)
end Go.Av
set_option maxRecDepth 100000
namespace Go.Av.Air
theorem M21o0 (a0:List T49):m21o0 a0=((Option.bind (some (.inl ())) (onS fun(_:Unit)=>(loopO (fun(s1:(List T49)×Int×Int)=>((if(decide (s1.2.1 < s1.2.2))=true then(if(0≤s1.2.2)then(if(s1.2.2 < (a0.length:Int))then(if(s1.2.2.toNat < a0.length)then(if(0≤s1.2.1)then(if(s1.2.1 < (a0.length:Int))then(if(s1.2.1.toNat < a0.length)then(if(0≤s1.2.1)then(if(s1.2.1 < (a0.length:Int))then(if(s1.2.1.toNat < a0.length)then(if(0≤s1.2.2)then(if(s1.2.2 < (a0.length:Int))then(if(s1.2.2.toNat < a0.length)then(some (.inl ((((subL s1.1 0 a0.length).set s1.2.1.toNat (s1.1.getD s1.2.2.toNat default)).set s1.2.2.toNat (s1.1.getD s1.2.1.toNat default)),(IntKind.wrap .i64 (s1.2.1+1)),(IntKind.wrap .i64 (s1.2.2 - 1)))))else none)else none)else none)else none)else none)else none)else none)else none)else none)else none)else none)else none)else(some (.inr (s1.1)))):Option (((List T49)×Int×Int)⊕((List T49))))) (a0,(0:Int),(IntKind.wrap .i64 ((a0.length:Int) - (1:Int))))))):Option ((List T49))):=by kernel_rfl
noncomputable abbrev lo21o0_1 (a0:List T49):((List T49)×Int×Int)→Option (((List T49)×Int×Int)⊕((List T49))):=(fun(s1:(List T49)×Int×Int)=>((if(decide (s1.2.1 < s1.2.2))=true then(if(0≤s1.2.2)then(if(s1.2.2 < (a0.length:Int))then(if(s1.2.2.toNat < a0.length)then(if(0≤s1.2.1)then(if(s1.2.1 < (a0.length:Int))then(if(s1.2.1.toNat < a0.length)then(if(0≤s1.2.1)then(if(s1.2.1 < (a0.length:Int))then(if(s1.2.1.toNat < a0.length)then(if(0≤s1.2.2)then(if(s1.2.2 < (a0.length:Int))then(if(s1.2.2.toNat < a0.length)then(some (.inl ((((subL s1.1 0 a0.length).set s1.2.1.toNat (s1.1.getD s1.2.2.toNat default)).set s1.2.2.toNat (s1.1.getD s1.2.1.toNat default)),(IntKind.wrap .i64 (s1.2.1+1)),(IntKind.wrap .i64 (s1.2.2 - 1)))))else none)else none)else none)else none)else none)else none)else none)else none)else none)else none)else none)else none)else(some (.inr (s1.1)))):Option (((List T49)×Int×Int)⊕((List T49)))))
theorem A21o0 (a0:List T49):m21o0 a0=((Option.bind (some (.inl ())) (onS fun(_:Unit)=>(loopO (lo21o0_1 a0) (a0,(0:Int),(IntKind.wrap .i64 ((a0.length:Int) - (1:Int))))))):Option ((List T49))):=M21o0 _
theorem M20o0 (a0:List T39) (a1:List (List UInt8)) (a2:T69) (a3:Nat) (a4:(List UInt8→Bool)) (a5:(List UInt8→T52)) (a6:Nat) (a7:(List UInt8→Bool)) (a8:(List UInt8→T69)) (a9:List T49) (a10:Int) (a11:List T69):m20o0 a0 a1 a2 a3 a4 a5 a6 a7 a8 a9 a10 a11=((Option.bind (some (.inl ())) (onS fun(_:Unit)=>(Option.bind (Option.bind (some (.inl ())) (onS fun(_:Unit)=>(loopO (fun(s1:Int)=>((Option.bind (if(decide (s1 < (a1.length:Int)))=true then(some (.inl ()))else(some (.inr (.inr (.inl ()))))) (onS fun(_:Unit)=>(Option.bind (Option.bind (if(0≤s1)then(if(s1 < (a1.length:Int))then(if((a1.getD s1.toNat default).length≤maxLen)then(Option.bind (((if(!((a8 (a1.getD s1.toNat default)).Hops != (IntKind.wrap .i64 (a2.Hops - 1))))=true then m37o1 (a1.getD s1.toNat default) a2.Ref a3 a4 a5 else some default).bind fun r5_0=>some r5_0)) fun(x5:(Int))=>(if(((a8 (a1.getD s1.toNat default)).Hops != (IntKind.wrap .i64 (a2.Hops - 1))) || ((IntKind.wrap .i64 ((a8 (a1.getD s1.toNat default)).Length+x5)) != a2.Length))=true then(some (.inr (.inl ())))else(Option.bind (Option.bind (m25 a0 (a1.getD s1.toNat default)) fun r=>some r) fun x6=>(some (.inl (x6,(x6.length:Int)))))))else none)else none)else none) (onS fun(y2:(List T49)×Int)=>(loopO (fun(s3:Int)=>((if(decide (s3 < y2.2))=true then(if(0≤s3)then(if(s3 < (y2.1.length:Int))then(if((y2.1.getD s3.toNat default).To==a2.Ref)=true then(Option.bind ((if(a9.length+1) * 48≤140737488355328 then some ()else none)) fun(x10:(Unit))=>(some (.inr (.inr (.inr (.inr (((a8 (a1.getD s1.toNat default)).Ref,(a8 (a1.getD s1.toNat default)).Length,(a8 (a1.getD s1.toNat default)).Hops,(a9++([(y2.1.getD s3.toNat default)]:List T49))))))))))else(some (.inl (IntKind.wrap .i64 (s3+1)))))else none)else none)else(some (.inr (.inl ())))):Option ((Int)⊕((Unit)⊕((Int)⊕((Unit)⊕((List UInt8)×Int×Int×(List T49)))))))) (0:Int)))) (onS fun(_:Unit)=>(some (.inl (IntKind.wrap .i64 (s1+1)))))))):Option ((Int)⊕((Unit)⊕((List UInt8)×Int×Int×(List T49)))))) (0:Int)))) (onS fun(_:Unit)=>(some (([]:List UInt8),(0:Int),(0:Int),a9)))))):Option ((List UInt8)×Int×Int×(List T49))):=by kernel_rfl
noncomputable abbrev lo20o0_1 (y2:(List T49)×Int) (a2:T69) (a9:List T49) (a8:(List UInt8→T69)) (a1:List (List UInt8)) (s1:Int):(Int)→Option ((Int)⊕((Unit)⊕((Int)⊕((Unit)⊕((List UInt8)×Int×Int×(List T49)))))):=(fun(s3:Int)=>((if(decide (s3 < y2.2))=true then(if(0≤s3)then(if(s3 < (y2.1.length:Int))then(if((y2.1.getD s3.toNat default).To==a2.Ref)=true then(Option.bind ((if(a9.length+1) * 48≤140737488355328 then some ()else none)) fun(x10:(Unit))=>(some (.inr (.inr (.inr (.inr (((a8 (a1.getD s1.toNat default)).Ref,(a8 (a1.getD s1.toNat default)).Length,(a8 (a1.getD s1.toNat default)).Hops,(a9++([(y2.1.getD s3.toNat default)]:List T49))))))))))else(some (.inl (IntKind.wrap .i64 (s3+1)))))else none)else none)else(some (.inr (.inl ())))):Option ((Int)⊕((Unit)⊕((Int)⊕((Unit)⊕((List UInt8)×Int×Int×(List T49))))))))
noncomputable abbrev lo20o0_2 (a1:List (List UInt8)) (a8:(List UInt8→T69)) (a2:T69) (a3:Nat) (a4:(List UInt8→Bool)) (a5:(List UInt8→T52)) (a0:List T39) (a9:List T49):(Int)→Option ((Int)⊕((Unit)⊕((List UInt8)×Int×Int×(List T49)))):=(fun(s1:Int)=>((Option.bind (if(decide (s1 < (a1.length:Int)))=true then(some (.inl ()))else(some (.inr (.inr (.inl ()))))) (onS fun(_:Unit)=>(Option.bind (Option.bind (if(0≤s1)then(if(s1 < (a1.length:Int))then(if((a1.getD s1.toNat default).length≤maxLen)then(Option.bind (((if(!((a8 (a1.getD s1.toNat default)).Hops != (IntKind.wrap .i64 (a2.Hops - 1))))=true then m37o1 (a1.getD s1.toNat default) a2.Ref a3 a4 a5 else some default).bind fun r5_0=>some r5_0)) fun(x5:(Int))=>(if(((a8 (a1.getD s1.toNat default)).Hops != (IntKind.wrap .i64 (a2.Hops - 1))) || ((IntKind.wrap .i64 ((a8 (a1.getD s1.toNat default)).Length+x5)) != a2.Length))=true then(some (.inr (.inl ())))else(Option.bind (Option.bind (m25 a0 (a1.getD s1.toNat default)) fun r=>some r) fun x6=>(some (.inl (x6,(x6.length:Int)))))))else none)else none)else none) (onS fun(y2:(List T49)×Int)=>(loopO (lo20o0_1 y2 a2 a9 a8 a1 s1) (0:Int)))) (onS fun(_:Unit)=>(some (.inl (IntKind.wrap .i64 (s1+1)))))))):Option ((Int)⊕((Unit)⊕((List UInt8)×Int×Int×(List T49))))))
theorem A20o0 (a0:List T39) (a1:List (List UInt8)) (a2:T69) (a3:Nat) (a4:(List UInt8→Bool)) (a5:(List UInt8→T52)) (a6:Nat) (a7:(List UInt8→Bool)) (a8:(List UInt8→T69)) (a9:List T49) (a10:Int) (a11:List T69):m20o0 a0 a1 a2 a3 a4 a5 a6 a7 a8 a9 a10 a11=((Option.bind (some (.inl ())) (onS fun(_:Unit)=>(Option.bind (Option.bind (some (.inl ())) (onS fun(_:Unit)=>(loopO (lo20o0_2 a1 a8 a2 a3 a4 a5 a0 a9) (0:Int)))) (onS fun(_:Unit)=>(some (([]:List UInt8),(0:Int),(0:Int),a9)))))):Option ((List UInt8)×Int×Int×(List T49))):=M20o0 _ _ _ _ _ _ _ _ _ _ _ _
theorem M6 (a0:List T39) (a1:List T54) (a2 a3:List UInt8):m6 a0 a1 a2 a3=((orJ (Option.bind (Option.bind (Option.bind (m17o1 a0 a1 a2 a3) fun r=>some r) fun x1=>(if(x1 != 0)=true then(some (.inr (((⟨[],(0:Int),[]⟩:T31),x1))))else(Option.bind (none) fun(x4:(Unit))=>none))) (onS fun(y:Empty)=>none)) (Option.bind (Option.bind (Option.bind (m17o2 a0 a1 a2 a3) fun r=>some r) fun x1=>(if((0:Int) != (0:Int))=true then(some (.inr (((⟨[],(0:Int),[]⟩:T31),(0:Int)))))else(Option.bind (((m18o1 a0 a2 x1.1 x1.2.1 x1.2.2).bind fun r4_0=>some (r4_0,x1))) fun(x4:((Nat×(List UInt8→Bool)×(List UInt8→T69))×(Nat×(List UInt8→Bool)×(List UInt8→T52))))=>(if(a3.length≤maxLen)then(if(!(x4.1.2.1 a3))=true then(some (.inr (((⟨[],(0:Int),[]⟩:T31),(10:Int)))))else(Option.bind (Option.bind (m19 a0 a2) fun r=>some r) fun x9=>(some (.inl (x9,x4.2.1,x4.2.2.1,x4.2.2.2,x4.1.1,x4.1.2.1,x4.1.2.2,(x4.1.2.2 a3).Ref,(x4.1.2.2 a3).Length,(x4.1.2.2 a3).Hops,(x4.1.2.2 a3).Length)))))else none)))) (onS fun(y1:(List (List UInt8))×Nat×(List UInt8→Bool)×(List UInt8→T52)×Nat×(List UInt8→Bool)×(List UInt8→T69)×(List UInt8)×Int×Int×Int)=>(Option.bind (Option.bind (some (.inl ())) (onS fun(_:Unit)=>(loopO (fun(s2:Int×(List T69))=>((if(decide (s2.1 < (y1.1.length:Int)))=true then(if(0≤s2.1)then(if(s2.1 < (y1.1.length:Int))then(Option.bind ((if(y1.1.getD s2.1.toNat default).length≤maxLen then(if(s2.2.length+1) * 32≤140737488355328 then some ()else none)else none)) fun(x13:(Unit))=>(some (.inl ((IntKind.wrap .i64 (s2.1+1)),(s2.2++([(y1.2.2.2.2.2.2.1 (y1.1.getD s2.1.toNat default))]:List T69))))))else none)else none)else(some (.inr (.inl s2.2)))):Option ((Int×(List T69))⊕(((List T69))⊕(T31×Int))))) ((0:Int),([]:List T69))))) (onS fun(y3:(List T69))=>(Option.bind (Option.bind (some (.inl ())) (onS fun(_:Unit)=>(loopO (fun(s4:(List T49)×(List UInt8)×Int×Int)=>((if(decide (0 < s4.2.2.2))=true then(Option.bind (Option.bind (m20o0 a0 y1.1 (⟨s4.2.1,s4.2.2.1,s4.2.2.2⟩:T69) y1.2.1 y1.2.2.1 y1.2.2.2.1 y1.2.2.2.2.1 y1.2.2.2.2.2.1 y1.2.2.2.2.2.2.1 s4.1 y1.2.2.2.2.2.2.2.2.2.2 y3) fun r=>some r) fun x17=>(some (.inl (x17.2.2.2,x17.1,x17.2.1,x17.2.2.1))))else(some (.inr (.inl s4.1)))):Option (((List T49)×(List UInt8)×Int×Int)⊕(((List T49))⊕(T31×Int))))) (([]:List T49),y1.2.2.2.2.2.2.2.1,y1.2.2.2.2.2.2.2.2.1,y1.2.2.2.2.2.2.2.2.2.1)))) (onS fun(y5:(List T49))=>(Option.bind (Option.bind (m21o0 y5) fun r=>some r) fun x20=>(some ((⟨(subL x20 0 y5.length),y1.2.2.2.2.2.2.2.2.2.2,y3⟩:T31),(0:Int))))))))))):Option (T31×Int)):=by kernel_rfl
noncomputable abbrev lo6_1 (a0:List T39) (y1:(List (List UInt8))×Nat×(List UInt8→Bool)×(List UInt8→T52)×Nat×(List UInt8→Bool)×(List UInt8→T69)×(List UInt8)×Int×Int×Int) (y3:(List T69)):((List T49)×(List UInt8)×Int×Int)→Option (((List T49)×(List UInt8)×Int×Int)⊕(((List T49))⊕(T31×Int))):=(fun(s4:(List T49)×(List UInt8)×Int×Int)=>((if(decide (0 < s4.2.2.2))=true then(Option.bind (Option.bind (m20o0 a0 y1.1 (⟨s4.2.1,s4.2.2.1,s4.2.2.2⟩:T69) y1.2.1 y1.2.2.1 y1.2.2.2.1 y1.2.2.2.2.1 y1.2.2.2.2.2.1 y1.2.2.2.2.2.2.1 s4.1 y1.2.2.2.2.2.2.2.2.2.2 y3) fun r=>some r) fun x17=>(some (.inl (x17.2.2.2,x17.1,x17.2.1,x17.2.2.1))))else(some (.inr (.inl s4.1)))):Option (((List T49)×(List UInt8)×Int×Int)⊕(((List T49))⊕(T31×Int)))))
noncomputable abbrev lo6_2 (y1:(List (List UInt8))×Nat×(List UInt8→Bool)×(List UInt8→T52)×Nat×(List UInt8→Bool)×(List UInt8→T69)×(List UInt8)×Int×Int×Int):(Int×(List T69))→Option ((Int×(List T69))⊕(((List T69))⊕(T31×Int))):=(fun(s2:Int×(List T69))=>((if(decide (s2.1 < (y1.1.length:Int)))=true then(if(0≤s2.1)then(if(s2.1 < (y1.1.length:Int))then(Option.bind ((if(y1.1.getD s2.1.toNat default).length≤maxLen then(if(s2.2.length+1) * 32≤140737488355328 then some ()else none)else none)) fun(x13:(Unit))=>(some (.inl ((IntKind.wrap .i64 (s2.1+1)),(s2.2++([(y1.2.2.2.2.2.2.1 (y1.1.getD s2.1.toNat default))]:List T69))))))else none)else none)else(some (.inr (.inl s2.2)))):Option ((Int×(List T69))⊕(((List T69))⊕(T31×Int)))))
theorem A6 (a0:List T39) (a1:List T54) (a2 a3:List UInt8):m6 a0 a1 a2 a3=((orJ (Option.bind (Option.bind (Option.bind (m17o1 a0 a1 a2 a3) fun r=>some r) fun x1=>(if(x1 != 0)=true then(some (.inr (((⟨[],(0:Int),[]⟩:T31),x1))))else(Option.bind (none) fun(x4:(Unit))=>none))) (onS fun(y:Empty)=>none)) (Option.bind (Option.bind (Option.bind (m17o2 a0 a1 a2 a3) fun r=>some r) fun x1=>(if((0:Int) != (0:Int))=true then(some (.inr (((⟨[],(0:Int),[]⟩:T31),(0:Int)))))else(Option.bind (((m18o1 a0 a2 x1.1 x1.2.1 x1.2.2).bind fun r4_0=>some (r4_0,x1))) fun(x4:((Nat×(List UInt8→Bool)×(List UInt8→T69))×(Nat×(List UInt8→Bool)×(List UInt8→T52))))=>(if(a3.length≤maxLen)then(if(!(x4.1.2.1 a3))=true then(some (.inr (((⟨[],(0:Int),[]⟩:T31),(10:Int)))))else(Option.bind (Option.bind (m19 a0 a2) fun r=>some r) fun x9=>(some (.inl (x9,x4.2.1,x4.2.2.1,x4.2.2.2,x4.1.1,x4.1.2.1,x4.1.2.2,(x4.1.2.2 a3).Ref,(x4.1.2.2 a3).Length,(x4.1.2.2 a3).Hops,(x4.1.2.2 a3).Length)))))else none)))) (onS fun(y1:(List (List UInt8))×Nat×(List UInt8→Bool)×(List UInt8→T52)×Nat×(List UInt8→Bool)×(List UInt8→T69)×(List UInt8)×Int×Int×Int)=>(Option.bind (Option.bind (some (.inl ())) (onS fun(_:Unit)=>(loopO (lo6_2 y1) ((0:Int),([]:List T69))))) (onS fun(y3:(List T69))=>(Option.bind (Option.bind (some (.inl ())) (onS fun(_:Unit)=>(loopO (lo6_1 a0 y1 y3) (([]:List T49),y1.2.2.2.2.2.2.2.1,y1.2.2.2.2.2.2.2.2.1,y1.2.2.2.2.2.2.2.2.2.1)))) (onS fun(y5:(List T49))=>(Option.bind (Option.bind (m21o0 y5) fun r=>some r) fun x20=>(some ((⟨(subL x20 0 y5.length),y1.2.2.2.2.2.2.2.2.2.2,y3⟩:T31),(0:Int))))))))))):Option (T31×Int)):=M6 _ _ _ _
theorem list_eq_iff {α:Type} [Inhabited α] {a b:List α} (h:a.length=b.length):a=b↔∀ i,i < a.length→a.getD i default=b.getD i default:=by
 constructor
 ·intro e i _;rw[e]
 ·intro k
  apply List.ext_getElem h
  intro i h1 h2
  have:=k i h1
  simpa [List.getD_eq_getElem?_getD,List.getElem?_eq_getElem h1,List.getElem?_eq_getElem h2] using this
def xsR {α:Type} [Inhabited α] (l:List α) (i:Nat):List α:=(List.range l.length).map fun k=>if k < i∨l.length - 1 - i < k then l.getD (l.length - 1 - k) default else l.getD k default
theorem xsR_len {α:Type} [Inhabited α] (l:List α) (i:Nat):(xsR l i).length=l.length:=by simp[xsR]
theorem xsR_at {α:Type} [Inhabited α] {l:List α} {i k:Nat} (hk:k < l.length):(xsR l i).getD k default=if k < i∨l.length - 1 - i < k then l.getD (l.length - 1 - k) default else l.getD k default:=by
 simp[xsR,List.getD_eq_getElem?_getD,hk]
theorem getD_setL {α:Type} [Inhabited α] {l:List α} {i k:Nat} {a:α} (hi:i < l.length):(l.set i a).getD k default=if k=i then a else l.getD k default:=by
 simp only[List.getD_eq_getElem?_getD,List.getElem?_set]
 by_cases h:i=k
 ·subst h;simp[hi]
 ·have:¬ k=i:=fun e=>h e.symm
  simp[h,this]
theorem xsR_0 {α:Type} [Inhabited α] (l:List α):xsR l 0=l:=by
 rw[list_eq_iff (xsR_len l 0)]
 intro i hi
 rw[xsR_len]at hi
 rw[xsR_at hi,if_neg (by omega)]
theorem xsR_step {α:Type} [Inhabited α] {l:List α} {i:Nat} (h:2 * i+1 < l.length):((xsR l i).set i ((xsR l i).getD (l.length - 1 - i) default)).set (l.length - 1 - i) ((xsR l i).getD i default)=xsR l (i+1):=by
 have hn:=xsR_len l i
 rw[list_eq_iff (by simp only[List.length_set,xsR_len])]
 intro k hk
 simp only[List.length_set,xsR_len]at hk
 rw[getD_setL (by simp only[List.length_set];omega),getD_setL (by omega),xsR_at hk,xsR_at hk,xsR_at (show i < l.length by omega),xsR_at (show l.length - 1 - i < l.length by omega)]
 by_cases h1:k=l.length - 1 - i
 ·subst h1
  rw[if_pos rfl,if_neg (by omega),if_pos (by omega)]
  congr 1;omega
 ·rw[if_neg h1]
  by_cases h2:k=i
  ·subst h2
   rw[if_pos rfl,if_neg (by omega),if_pos (by omega)]
  ·rw[if_neg h2]
   by_cases h3:k < i∨l.length - 1 - i < k
   ·rw[if_pos h3,if_pos (by omega)]
   ·rw[if_neg h3,if_neg (by omega)]
theorem xsR_end {α:Type} [Inhabited α] {l:List α} {i:Nat} (h1:l.length≤2 * i+1) (h2:2 * i≤l.length):xsR l i=l.reverse:=by
 rw[list_eq_iff (by rw[xsR_len];simp)]
 intro k hk
 rw[xsR_len]at hk
 rw[xsR_at hk]
 have e:l.reverse.getD k default=l.getD (l.length - 1 - k) default:=by
  simp[List.getD_eq_getElem?_getD,List.getElem?_reverse hk]
 rw[e]
 by_cases h:k < i∨l.length - 1 - i < k
 ·rw[if_pos h]
 ·rw[if_neg h]
  congr 1;omega
theorem rev_eq (l:List T49) (hl:l.length≤1000000):m21o0 l=some l.reverse:=by
 rw[A21o0]
 refine on_l (y:=()) rfl ?_
 by_cases h0:l.length=0
 ·have:l=[]:=List.length_eq_zero_iff.1 h0
  subst this
  rfl
 have w0:IntKind.wrap .i64 ((l.length:Int) - 1)=(l.length:Int) - 1:=w64 (by omega) (by omega)
 rw[w0]
 rw[show ((l,(0:Int),(l.length:Int) - 1):List T49×Int×Int)=(xsR l 0,((0:Nat):Int),(l.length:Int) - 1 - ((0:Nat):Int)) from by rw[xsR_0];simp]
 refine loop_st (l.length / 2) (fun i=>(xsR l i,(i:Int),(l.length:Int) - 1 - (i:Int))) l.reverse (fun i hi=>?_) ?_
 ·have h1:2 * i+1 < l.length:=by omega
  have j0:((l.length:Int) - 1 - (i:Int))=((l.length - 1 - i:Nat):Int):=by omega
  have hs:subL (xsR l i) 0 l.length=xsR l i:=subL_all (xsR_len l i)
  have c1:decide ((i:Int) < ((l.length - 1 - i:Nat):Int))=true:=by simp;omega
  have c2:=inL (show i < l.length by omega)
  have c3:=inL (show l.length - 1 - i < l.length by omega)
  have c4:(i < l.length)=True:=eq_true (by omega)
  have c5:(l.length - 1 - i < l.length)=True:=eq_true (by omega)
  have w1:IntKind.wrap .i64 ((i:Int)+1)=((i+1:Nat):Int):=by rw[w64 (by omega) (by omega)];omega
  have w2:IntKind.wrap .i64 (((l.length - 1 - i:Nat):Int) - 1)=(l.length:Int) - 1 - ((i+1:Nat):Int):=by rw[w64 (by omega) (by omega)];omega
  simp only[lo21o0_1,j0,c1,c2,c3,c4,c5,if_true,Int.toNat_natCast,hs,w1,w2,xsR_step h1]
 ·have c1:decide (((l.length / 2:Nat):Int) < (l.length:Int) - 1 - ((l.length / 2:Nat):Int))=false:=by simp;omega
  simp only[lo21o0_1,c1,Bool.false_eq_true,if_false,xsR_end (l:=l) (i:=l.length / 2) (by omega) (by omega)]
variable {l:List T39} {P:List UInt8→T52} {fr:List UInt8} {D:List (List UInt8)} {F:List UInt8→T69}
def Ahead (l:List T39) (P:List UInt8→T52) (F:List UInt8→T69) (k u:List UInt8) (g:T49):Prop:=g∈hopsL l u∧g.To=k∧(F k).Length=(F u).Length+lenP P u k∧(F k).Hops=(F u).Hops+1
theorem bk_inner (N:Nm l fr) {R:List (List UInt8)} {k u:List UInt8} {i:Nat} (hu:R.getD i default=u) {acc:List T49} (ha:acc.length≤3000) (hr:(F u).Ref=u) (hk:(F k).Ref=k) :
  (∃ g,g∈hopsL l u∧g.To=k∧(loopO (lo20o0_1 (hopsL l u,((hopsL l u).length:Int)) (F k) acc F R (i:Int)) 0).bind (onS fun _=>some (.inl (IntKind.wrap .i64 ((i:Int)+1))))=some (.inr (.inr (u,(F u).Length,(F u).Hops,acc++[g]))))
  ∨ ((∀ g,g∈hopsL l u→g.To≠k)∧(loopO (lo20o0_1 (hopsL l u,((hopsL l u).length:Int)) (F k) acc F R (i:Int)) 0).bind (onS fun _=>some (.inl (IntKind.wrap .i64 ((i:Int)+1))))=some (.inl (IntKind.wrap .i64 ((i:Int)+1)))):=by
 have hlen:=hopsL_len N.wf u
 have p48:(acc.length+1) * 48≤140737488355328:=Nat.le_trans (Nat.mul_le_mul_right 48 (show acc.length+1≤3001 by omega)) (by decide)
 have key:=loop_ex (k:=fun _=>some (.inl (IntKind.wrap .i64 ((i:Int)+1)))) (b:=lo20o0_1 (hopsL l u,((hopsL l u).length:Int)) (F k) acc F R (i:Int)) (hopsL l u).length
  (fun j=>if(((hopsL l u).getD j default).To==k)=true then some (.inr (.inr (u,(F u).Length,(F u).Hops,acc++[(hopsL l u).getD j default])))else none) (fun j hj=>by
   simp only[exB_ite,exB_some,exB_none]
   simp only[lo20o0_1,inL hj,decide_true,Int.toNat_natCast,if_true,p48,Option.bind_some,wr1 hj (by omega),hu,hr,hk]) (by simp only[lo20o0_1,lt_irr,decide_false,Bool.false_eq_true,if_false])
 rw[key]
 cases hf:firstR (fun j=>if(((hopsL l u).getD j default).To==k)=true then some ((.inr (.inr (u,(F u).Length,(F u).Hops,acc++[(hopsL l u).getD j default]))):Int⊕(Unit⊕(List UInt8×Int×Int×List T49)))else none) (hopsL l u).length with
 | none =>
  refine .inr ⟨fun g hg e=>?_,rfl⟩
  obtain⟨j,hj,rfl⟩:=mem_getD hg
  have:=firstR_none.1 hf j hj
  rw[if_pos (by simpa using e)]at this
  cases this
 | some y =>
  obtain⟨j,hj,hy⟩:=firstR_some hf
  split at hy
  ·rename_i he
   have hy:=Option.some.inj hy
   subst hy
   exact .inl ⟨_,getD_mem hj,by simpa using he,rfl⟩
  ·cases hy
theorem back_eq (N:Nm l fr) (L:Lab l P fr D F) {R:List (List UInt8)} (hR:∀ x,x∈R↔x∈D) (hn:R.length≤2401) {k:List UInt8} (hk:k∈D) (h0:0 < (F k).Hops) (an:Nat) (ah:List UInt8→Bool) (dn:Nat) (dh:List UInt8→Bool) {acc:List T49} (ha:acc.length≤3000) (wl:Int) (wL:List T69) :
  ∃ u g,u∈D∧Ahead l P F k u g∧m20o0 l R (F k) an ah P dn dh F acc wl wL=some (u,(F u).Length,(F u).Hops,acc++[g]):=by
 obtain⟨gk1,gk2,gk3,gk4,gk5⟩:=L.good k hk
 have kl:k.length≤maxLen:=N.key (L.key k hk)
 have wh:IntKind.wrap .i64 ((F k).Hops - 1)=(F k).Hops - 1:=w64 (by omega) (by omega)
 obtain⟨x,e,u,g,rfl,hu,hA⟩:=loop_meas (b:=lo20o0_2 R F (F k) an ah P l acc) (fun s=>∃ i:Nat,s=i∧i≤R.length∧∀ j,j < i→∀ g,¬ Ahead l P F k (R.getD j default) g) (fun s=>(R.length - s).toNat)
  (fun x=>∃ u g,x=.inr (u,(F u).Length,(F u).Hops,acc++[g])∧u∈D∧Ahead l P F k u g) (fun s hs=>by
  obtain⟨i,rfl,hi,hno⟩:=hs
  by_cases hlt:i < R.length
  ·obtain⟨u,hu⟩:∃ u,R.getD i default=u:=⟨_,rfl⟩
   have uD:u∈D:=(hR u).1 (by rw[← hu];exact getD_mem hlt)
   obtain⟨gu1,gu2,gu3,gu4,gu5⟩:=L.good u uD
   have ul:u.length≤maxLen:=N.key (L.key u uD)
   have hr:=lenP_range P u k
   have w1:IntKind.wrap .i64 ((i:Int)+1)=((i+1:Nat):Int):=by rw[wr1 hlt (by omega)];omega
   have w2:IntKind.wrap .i64 ((F u).Length+lenP P u k)=(F u).Length+lenP P u k:=w64 (by omega) (by omega)
   have next:(∀ g,¬ Ahead l P F k u g)→∃ i':Nat,(((i+1:Nat):Int))=i'∧i'≤R.length∧∀ j,j < i'→∀ g,¬ Ahead l P F k (R.getD j default) g:=fun hn=>⟨i+1,rfl,hlt,fun j hj g=>by
    by_cases ej:j=i
    ·rw[ej,hu];exact hn g
    ·exact hno j (by omega) g⟩
   by_cases hH:(F u).Hops=(F k).Hops - 1∧(F u).Length+lenP P u k=(F k).Length
   ·have c1:((F u).Hops != (F k).Hops - 1)=false:=by simpa using hH.1
    have c2:((F u).Length+lenP P u k != (F k).Length)=false:=by simpa using hH.2
    have pre:lo20o0_2 R F (F k) an ah P l acc (i:Int)=(loopO (lo20o0_1 (hopsL l u,((hopsL l u).length:Int)) (F k) acc F R (i:Int)) 0).bind (onS fun _=>some (.inl (IntKind.wrap .i64 ((i:Int)+1)))):=by
     simp only[lo20o0_2,inL hlt,decide_true,if_true,Option.bind_some,onS,Int.toNat_natCast,hu,ul,wh,c1,Bool.not_false,gk1,length_eq ul kl,w2,c2,Bool.or_false,Bool.false_eq_true,if_false,hops_eq N.wf]
    rcases bk_inner (l:=l) N (R:=R) (k:=k) hu ha gu1 gk1 with⟨g,g1,g2,g3⟩ | ⟨g1,g2⟩
    ·exact .inr ⟨_,pre.trans g3,u,g,rfl,uD,g1,g2,hH.2.symm,by omega⟩
    ·rw[w1]at g2 pre
     exact .inl ⟨_,pre.trans g2,next (fun g hg=>g1 g hg.1 hg.2.1),by omega⟩
   ·refine .inl ⟨((i+1:Nat):Int),?_,next (fun g hg=>hH ⟨by have:=hg.2.2.2;omega,hg.2.2.1.symm⟩),by omega⟩
    by_cases h1:(F u).Hops=(F k).Hops - 1
    ·have c1:((F u).Hops != (F k).Hops - 1)=false:=by simpa using h1
     have c2:((F u).Length+lenP P u k != (F k).Length)=true:=by simpa using fun e=>hH ⟨h1,e⟩
     simp only[lo20o0_2,inL hlt,decide_true,if_true,Option.bind_some,onS,Int.toNat_natCast,hu,ul,wh,c1,Bool.not_false,gk1,length_eq ul kl,w2,c2,Bool.or_true,w1]
    ·have c1:((F u).Hops != (F k).Hops - 1)=true:=by simpa using h1
     simp only[lo20o0_2,inL hlt,decide_true,if_true,Option.bind_some,onS,Int.toNat_natCast,hu,ul,wh,c1,Bool.not_true,Bool.false_eq_true,if_false,Bool.true_or,w1]
  ·obtain rfl:i=R.length:=by omega
   exfalso
   rcases L.tight k hk with⟨_,_,h⟩ | ⟨u,hu,⟨g,hg,hgk⟩,h1,h2⟩
   ·omega
   ·obtain⟨j,hj,ej⟩:=mem_getD ((hR u).2 hu)
    exact hno j hj g (by rw[ej];exact⟨hg,hgk,h1,h2⟩)) 0 ⟨0,rfl,by omega,fun j hj=>absurd hj (Nat.not_lt_zero j)⟩
 refine⟨u,g,hu,hA,?_⟩
 rw[A20o0]
 simp only[Option.bind_some,onS,e]
def Walk (l:List T39) (P:List UInt8→T52):List UInt8→List T49→List UInt8→Int→Prop
 | u,[],v,n=>u=v∧n=0
 | u,h :: hs,v,n=>h∈hopsL l u∧Walk l P h.To hs v (n - lenP P u h.To)
theorem walk_back {k:List UInt8} {acc:List T49} {v:List UInt8} {n:Int} (W:Walk l P k acc.reverse v n) {u:List UInt8} {g:T49} (hg:g∈hopsL l u) (hk:g.To=k):Walk l P u (acc++[g]).reverse v (n+lenP P u k):=by
 rw[List.reverse_append]
 refine⟨hg,?_⟩
 subst hk
 have:n+lenP P u g.To - lenP P u g.To=n:=by omega
 rw[this];exact W
end Go.Av.Air
set_option maxRecDepth 100000
namespace Go.Av.Air
variable {l:List T39} {P:List UInt8→T52} {fr:List UInt8} {D:List (List UInt8)} {F:List UInt8→T69}
theorem flat_map {α β:Type} [Inhabited α] (R:List α) (f:α→β):(List.range R.length).flatMap (fun i=>[f (R.getD i default)])=R.map f:=by
 rw[List.flatMap_def,show (fun i=>[f (R.getD i default)])=(fun x=>[x]) ∘ (fun i=>f (R.getD i default)) from rfl,← List.map_map,← List.flatMap_def]
 rw[show ((List.range R.length).map fun i=>f (R.getD i default)).flatMap (fun x=>[x])=(List.range R.length).map fun i=>f (R.getD i default) from List.flatMap_singleton' _]
 apply List.ext_getElem?
 intro i
 simp only[List.getElem?_map]
 by_cases h:i < R.length
 ·simp[List.getElem?_range h,List.getD_eq_getElem?_getD,h]
 ·rw[List.getElem?_eq_none (by simpa using h),List.getElem?_eq_none (by omega)];rfl
abbrev Y1:=(List (List UInt8))×Nat×(List UInt8→Bool)×(List UInt8→T52)×Nat×(List UInt8→Bool)×(List UInt8→T69)×(List UInt8)×Int×Int×Int
theorem lb_list (N:Nm l fr) (L:Lab l P fr D F) {R:List (List UInt8)} (hR:∀ x,x∈R↔x∈D) (hn:R.length≤2401) {y:Y1} (y1:y.1=R) (y2:y.2.2.2.2.2.2.1=F):loopO (lo6_2 y) (0,[])=some (.inl (R.map F)):=by
 rw[← flat_map R F]
 refine loop_coll R.length (fun i acc=>((i:Int),acc)) (fun i=>[F (R.getD i default)]) (fun acc=>Sum.inl acc) (fun i hi=>?_) ?_
 ·have kl:(R.getD i default).length≤maxLen:=N.key (L.key _ ((hR _).1 (getD_mem hi)))
  have hl:=flatMap_len (g:=fun i=>[F (R.getD i default)]) (m:=1) (fun i=>Nat.le_refl _) i
  have p32:(((List.range i).flatMap fun i=>[F (R.getD i default)]).length+1) * 32≤140737488355328:=Nat.le_trans (Nat.mul_le_mul_right 32 (show ((List.range i).flatMap fun i=>[F (R.getD i default)]).length+1≤2402 by omega)) (by decide)
  have w1:IntKind.wrap .i64 ((i:Int)+1)=((i+1:Nat):Int):=by rw[wr1 hi (by omega)];omega
  simp only[lo6_2,y1,y2,inL hi,decide_true,if_true,Int.toNat_natCast,kl,p32,Option.bind_some,w1]
 ·simp only[lo6_2,y1,lt_irr,decide_false,Bool.false_eq_true,if_false]
theorem way_loop (N:Nm l fr) (L:Lab l P fr D F) {R:List (List UInt8)} (hR:∀ x,x∈R↔x∈D) (hn:R.length≤2401) {v:List UInt8} (hv:v∈D) {y:Y1} (y1:y.1=R) (y2:y.2.2.2.2.2.2.1=F) (y3:y.2.2.2.1=P) (y4:y.2.2.2.2.2.2.2.1=v) (wL:List T69) :
  ∃ x,loopO (lo6_1 l y wL) ([],v,(F v).Length,(F v).Hops)=some x∧∃ hs,x=.inl hs∧hs.length≤2401∧Walk l P fr hs.reverse v (F v).Length:=by
 refine loop_meas (b:=lo6_1 l y wL) (fun s=>∃ acc k,s=(acc,k,(F k).Length,(F k).Hops)∧k∈D∧(acc.length:Int)+(F k).Hops=(F v).Hops∧Walk l P k acc.reverse v ((F v).Length - (F k).Length)) (fun s=>s.2.2.2.toNat)
  (fun x=>∃ hs,x=.inl hs∧hs.length≤2401∧Walk l P fr hs.reverse v (F v).Length) (fun s hs=>?_) _ ⟨[],v,rfl,hv,by simp,⟨rfl,by omega⟩⟩
 obtain⟨acc,k,rfl,hk,hl,W⟩:=hs
 obtain⟨g1,g2,g3,g4,g5⟩:=L.good k hk
 have gv:=(L.good v hv).2.2.1
 by_cases h0:0 < (F k).Hops
 ·obtain⟨u,g,hu,⟨a1,a2,a3,a4⟩,e⟩:=back_eq N L hR hn hk h0 y.2.1 y.2.2.1 y.2.2.2.2.1 y.2.2.2.2.2.1 (acc:=acc) (by omega) y.2.2.2.2.2.2.2.2.2.2 wL
  have ek:(⟨k,(F k).Length,(F k).Hops⟩:T69)=F k:=by
   have:F k=⟨(F k).Ref,(F k).Length,(F k).Hops⟩:=rfl
   rw[g1]at this;exact this.symm
  refine .inl ⟨(acc++[g],u,(F u).Length,(F u).Hops),?_,⟨acc++[g],u,rfl,hu,?_,?_⟩,?_⟩
  ·simp only[lo6_1,y1,y2,y3,ek,decide_eq_true h0,if_true,e,Option.bind_some]
  ·rw[List.length_append,List.length_singleton];omega
  ·have:=walk_back W a1 a2
   have e2:(F v).Length - (F k).Length+lenP P u k=(F v).Length - (F u).Length:=by omega
   rw[e2]at this;exact this
  ·have:=(L.good u hu).2.1
   show (F u).Hops.toNat < (F k).Hops.toNat
   omega
 ·refine .inr ⟨.inl acc,?_,acc,rfl,by omega,?_⟩
  ·have:decide (0 < (F k).Hops)=false:=decide_eq_false h0
   simp only[lo6_1,this,Bool.false_eq_true,if_false]
  ·rcases L.tight k hk with⟨rfl,h1,_⟩ | ⟨u,hu,_,_,h⟩
   ·rw[h1]at W;simpa using W
   ·have:=(L.good u hu).2.1;omega
theorem shortest_cases {fs:List T54} (H:OkD l fs) {u v:List UInt8} (hu:u.length≤maxLen) (hv:v.length≤maxLen) :
  (∃ e,m6 l fs u v=some (⟨[],0,[]⟩,e)∧e≠0∧¬ (m17o1 l fs u v=none)) ∨
  (m17o1 l fs u v=none∧Atl l fs u v∧Nm l u∧∃ (D:List (List UInt8)) (F:List UInt8→T69) (R:List (List UInt8)),Lab l (atF fs fs.length) u D F∧R.Nodup∧R.Pairwise (·≤·)∧(∀ x,x∈R↔x∈D)∧R.length≤2401 ∧
   ((v ∉ D∧m6 l fs u v=some (⟨[],0,[]⟩,10))∨(v∈D∧∃ hs,Walk l (atF fs fs.length) u hs v (F v).Length∧hs.length≤2401∧m6 l fs u v=some (⟨hs,(F v).Length,R.map F⟩,0)))):=by
 rcases open_cases H hu hv with⟨e,he,h0⟩ | ⟨ho,A,n,h2⟩
 ·left
  refine⟨e,?_,h0,by rw[he];exact fun h=>by cases h⟩
  rw[A6,he]
  have c:(e != 0)=true:=by simpa using h0
  simp only[Option.bind_some,c,if_true,onS,orJ]
 ·right
  have N:Nm l u:=⟨A.wf,hu,fun r hr=>by
   obtain⟨k,i,hk,hi,rfl⟩:=mem_refs.1 hr
   exact H.a k hk i hi⟩
  obtain⟨dn,dh,F,D,e1,ED,L⟩:=labels_eq N (atF fs fs.length) n (atH fs fs.length)
  obtain⟨R,e2,hRn,hRs,hR⟩:=reach_eq N L ED.1
  have hn:R.length≤2401:=Nat.le_trans (nodup_le hRn fun x hx=>(hR x).1 hx) (keys_len N.wf ED.1 L.key)
  refine⟨ho,A,N,D,F,R,L,hRn,hRs,hR,hn,?_⟩
  by_cases hD:v∈D
  case neg =>
   refine .inl ⟨hD,?_⟩
   have hh:dh v=false:=by
    cases hh:dh v with
    | false=>rfl
    | true=>exact absurd ((enum_has ED hv).1 hh) hD
   rw[A6,ho,h2]
   simp only[Option.bind_none,orJ,Option.bind_some,bne_self_eq_false,Bool.false_eq_true,if_false,e1,hv,if_true,hh,Bool.not_false,onS]
  refine .inr ⟨hD,?_⟩
  have hh:dh v=true:=(enum_has ED hv).2 hD
  have gR:=(L.good v hD).1
  obtain⟨y,hy⟩:∃ y:Y1,y=(R,n,atH fs fs.length,atF fs fs.length,dn,dh,F,v,(F v).Length,(F v).Hops,(F v).Length):=⟨_,rfl⟩
  have q1:y.1=R:=by rw[hy]
  have q2:y.2.2.2.2.2.2.1=F:=by rw[hy]
  have q3:y.2.2.2.1=atF fs fs.length:=by rw[hy]
  have q4:y.2.2.2.2.2.2.2.1=v:=by rw[hy]
  have q5:y.2.2.2.2.2.2.2.2.1=(F v).Length:=by rw[hy]
  have q6:y.2.2.2.2.2.2.2.2.2.1=(F v).Hops:=by rw[hy]
  have q7:y.2.2.2.2.2.2.2.2.2.2=(F v).Length:=by rw[hy]
  obtain⟨x,e4,hs,rfl,hl,W⟩:=way_loop N L hR hn hD q1 q2 q3 q4 (R.map F)
  refine⟨hs.reverse,W,by rw[List.length_reverse];exact hl,?_⟩
  rw[A6,ho,h2]
  simp only[Option.bind_none,orJ]
  refine on_l (y:=y) ?_ (on_l (y:=R.map F) ?_ (on_l (y:=hs) ?_ ?_))
  ·simp only[Option.bind_some,bne_self_eq_false,Bool.false_eq_true,if_false,e1,hv,if_true,hh,Bool.not_true,e2,hy,gR]
  ·exact on_l (y:=()) rfl (lb_list N L hR hn q1 q2)
  ·refine on_l (y:=()) rfl ?_
   rw[q4,q5,q6]
   exact e4
  ·have e5:=rev_eq hs (by omega)
   rw[q7]
   refine bind_to (bind_to e5 rfl) ?_
   rw[subL_all (by rw[List.length_reverse])]
end Go.Av.Air
set_option maxRecDepth 100000
namespace Go.Av.Air
variable {l:List T39} {P:List UInt8→T52} {fr:List UInt8} {D:List (List UInt8)} {F:List UInt8→T69}
theorem map_getD {R:List (List UInt8)} {i:Nat} (hi:i < R.length):(R.map F).getD i default=F (R.getD i default):=by
 simp[List.getD_eq_getElem?_getD,hi]
end Go.Av.Air
set_option maxRecDepth 100000
namespace Go.Av.Air
variable {l:List T39} {P:List UInt8→T52} {fr:List UInt8} {D:List (List UInt8)} {F:List UInt8→T69}
theorem check_of_open {fs:List T54} (H:OkD l fs) {u v:List UInt8} (ho:m17o1 l fs u v=none):m24 l=some 0:=by
 obtain⟨c,hc,_⟩:=check_ok H.a
 by_cases c0:c=0
 ·rw[hc,c0]
 ·rw[M17o1,hc]at ho
  have:(c != 0)=true:=by simpa using c0
  simp only[Option.bind_some,this,if_true]at ho
  cases ho
theorem Wf.at_ {a:T39} (W:Wf a) {i:Nat} (hi:i < a.Points.length):ixA a (rf a i)=i:=by
 rcases ixA_cases a (rf a i) with⟨_,h⟩ | ⟨j,h,hj⟩
 ·exact absurd rfl (h i hi)
 ·rw[h,W.inj j i hj.lt hi hj.ref]
end Go.Av.Air
set_option maxRecDepth 100000
namespace Go.Av.Air
variable {l:List T39} {P:List UInt8→T52} {fr:List UInt8} {D:List (List UInt8)} {F:List UInt8→T69}
theorem next_eq (W:WfL l) (hc:m24 l=some 0) (r:List UInt8):m8 l r=some (hopsL l r,0):=by
 rw[M8,hc,hops_eq W]
 rfl
theorem at_here {fs:List T54} {u v:List UInt8} (A:Atl l fs u v) {k:List UInt8} (h:k=u∨k∈refsL l):atH fs fs.length k=true:=by
 rcases h with rfl | h
 ·exact A.fr
 ·obtain⟨k,i,hk,hi,rfl⟩:=mem_refs.1 h
  exact A.all k i hk hi
theorem hop_dist {fs:List T54} {u v:List UInt8} (A:Atl l fs u v) {r:List UInt8} {h:T49} (hh:h∈hopsL l r):distE (atF fs fs.length r) (atF fs fs.length h.To)=0:=by
 obtain⟨k,i,hk,hi,e⟩:=hops_adj hh
 have:=A.val k i hk hi
 rcases e with⟨e1,e2⟩ | ⟨e1,e2⟩
 ·rw[e1,e2];exact(distE_iff _ _).2 this
 ·rw[e1,e2];exact(distE_iff _ _).2 ⟨this.2,this.1⟩
end Go.Av.Air
namespace Go.Av
open Go.RowKit Go.Base Go.ChangeShapes Go.WideShapes
variable {P:Program} {H:Type} {enc:TypeId×Value→H} {W:World} {spare:Nat→Bool}
def Light (P:Program) {H:Type} (t:TypeId) (d:DataW H):Prop:=(d.weights P t).all (·≤reachBytes)=true
theorem light_all {e:TypeId}:∀ {l:List (DataW H)},(DataW.weightsAll P e l).all (·≤reachBytes)=true→∀ d∈l,Light P e d
 | [],_,d,hd=>by cases hd
 | x :: l,h,d,hd=>by
  unfold DataW.weightsAll at h
  rw[List.all_append,Bool.and_eq_true]at h
  rcases List.mem_cons.1 hd with rfl | hd
  ·exact h.1
  ·exact light_all h.2 d hd
theorem light_each:∀ {ts:List TypeId} {l:List (DataW H)},(DataW.weightsEach P ts l).all (·≤reachBytes)=true→∀ (i:Nat) t d,ts[i]?=some t→l[i]?=some d→Light P t d
 | [],_,_,i,t,d,ht,_=>by simp at ht
 | _ :: _,[],_,i,t,d,_,hd=>by simp at hd
 | t0 :: ts,d0 :: l,h,i,t,d,ht,hd=>by
  unfold DataW.weightsEach at h
  rw[List.all_append,Bool.and_eq_true]at h
  cases i with
  | zero =>
   simp only[List.getElem?_cons_zero,Option.some.injEq]at ht hd
   subst ht;subst hd
   exact h.1
  | succ i =>
   simp only[List.getElem?_cons_succ]at ht hd
   exact light_each h.2 i t d ht hd
theorem light_slice {t e:TypeId} (ht:P.underlying t=some (.slice e)) {a b:List (DataW H)} (h:Light P t (.slice a b)):((a.length+b.length) * P.bytesOf e≤reachBytes)∧∀ d∈a,Light P e d:=by
 unfold Light DataW.weights at h
 rw[ht]at h
 simp only[List.all_cons,List.all_append,Bool.and_eq_true,decide_eq_true_eq]at h
 exact⟨h.1,light_all h.2.1⟩
theorem light_struct {t:TypeId} {fs:Array Field} (ht:P.underlying t=some (.struct fs)) {l:List (DataW H)} (h:Light P t (.agg l)):∀ (i:Nat) f d,fs[i]?=some f→l[i]?=some d→Light P f.type d:=by
 unfold Light DataW.weights at h
 rw[ht]at h
 intro i f d hf hd
 exact light_each h i f.type d (by simp only[List.getElem?_map,Array.getElem?_toList,hf,Option.map_some]) hd
def OpensW {α:Type} (P:Program) (W:World) (spare:Nat→Bool) (t:TypeId) (e:α→List D) (ok:α→Prop):Prop :=
 ∀ (H:Type) (enc:TypeId×Value→H) (fuel:Nat) (cs:List Value) (x:DataW H×List MemPlace),DataW.trod enc P W 0 spare true fuel t cs=some x→Light P t x.1→∃ a,RepL (allM W) (e a) cs∧ok a
theorem opensW_string {t:TypeId} (ht:P.underlying t=some .string):OpensW P W spare t (fun s=>[.str s]) (fun s=>s.length≤reachBytes):=fun H enc fuel cs x h hw=>by
 obtain⟨s,rfl,rfl,hs⟩:=DataW.trod_string ht h
 obtain⟨⟨l⟩⟩:=s
 refine⟨l,by simp[RepL,Rep],?_⟩
 unfold Light DataW.weights at hw
 simpa using hw
theorem opensW_slice {α:Type} [Inhabited α] {t el:TypeId} {e:α→List D} {en:α→D} {ok:α→Prop} {sz:Nat} (ht:P.underlying t=some (.slice el)) (hsz:P.cellsOf el=sz) (hp:0 < sz) (hel:OpensW P W spare el e ok)
  (hone:∀ a,(e a).all D.one=true) (hlen:∀ a,(e a).length=sz) (hen:∀ a,en a=.agg (e a)∨(e a=[en a]∧sz=1)):OpensW P W spare t (fun l=>[eSl sz en l]) (fun l=>l.length≤maxLen∧l.length * P.bytesOf el≤reachBytes∧∀ a∈l,ok a):=fun H enc fuel cs x h hw=>by
 rcases Go.Deep.open_slice ht h with⟨rfl,_⟩ | ⟨A,len,cap,m,n,D,Pl,rfl,_,hl,hm,hmm,rfl,hx⟩
 ·refine⟨[],?_,by simp[maxLen],by simp,by simp⟩
  simp only[RepL,eSl,List.length_nil]
  refine⟨_,[],rfl,?_,rfl⟩
  simp only[Rep]
  exact⟨none,0,rfl,Nat.le_refl _,Nat.zero_le _,fun h=>absurd h (by omega)⟩
 ·have hle:len≤m:=by rw[hmm];split<;>omega
  obtain⟨hb,hlt⟩:=light_slice ht hw
  have key:∀ i,i < len→∃ a:α,ok a∧∃ cs',W.cells? 0 (A.add (i * sz)) sz=some cs'∧RepL (allM W) (e a) cs':=by
   intro i hi
   obtain⟨cs',h1,h2⟩:=hx i (by omega)
   rw[hsz]at h1
   obtain⟨a,h3,h4⟩:=hel H enc n cs' _ h2 (hlt _ (List.mem_map.2 ⟨i,List.mem_range.2 hi,rfl⟩))
   exact⟨a,h4,cs',h1,h3⟩
  let g:Nat→α:=fun i=>if h:i < len then Classical.choose (key i h)else default
  have hg:∀ i,i < len→ok (g i)∧∃ cs',W.cells? 0 (A.add (i * sz)) sz=some cs'∧RepL (allM W) (e (g i)) cs':=fun i hi=>by
   have:g i=Classical.choose (key i hi):=dif_pos hi
   rw[this]
   exact Classical.choose_spec (key i hi)
  refine⟨(List.range len).map g,?_,by simp;omega,?_,fun a ha=>?_⟩
  ·simp only[RepL,eSl,List.length_map,List.length_range]
   refine⟨_,[],rfl,?_,rfl⟩
   simp only[Rep]
   refine⟨some A,cap,rfl,hl,hm,fun hn=>?_⟩
   obtain⟨cs0,c1,c2⟩:=(hg 0 hn).2
   obtain⟨_,c3,c4⟩:=World.cells?_some c1
   have hA:A.spot=none:=by
    have h5:=c4 0 hp
    rw[List.getElem?_eq_getElem (by omega)]at h5
    rw[Nat.zero_mul]at h5
    simp only[Addr.add,if_true]at h5
    exact spot_none h5
   refine⟨A.block,A.off,by cases A;simp at hA;simp[hA],fun i hi=>?_⟩
   obtain⟨cs',d1,d2⟩:=(hg i hi).2
   obtain⟨_,d3,d4⟩:=World.cells?_some d1
   have hce:cF en ((List.range len).map g) i=en (g i):=by
    simp only[cF,List.getD_eq_getElem?_getD,List.getElem?_map,List.getElem?_range hi,Option.map_some,Option.getD_some]
   have hcell:∀ j,j < sz→allM W A.block (A.off+i * sz+j)=cs'[j]?:=fun j hj=>by
    rw[← d4 j hj,add_plain hA,add_plain rfl]
    rfl
   rw[hce]
   have h1:=repL_one d2 (hone (g i))
   rcases hen (g i) with he | ⟨he,hs1⟩
   ·refine⟨.agg cs'.toArray,?_,?_,?_,fun j hj=>?_⟩
    ·rw[he];simp only[Rep];exact⟨cs',rfl,d2⟩
    ·simp[Value.cells];exact d3
    ·intro y hy;exact h1 y (by simpa [Value.cells] using hy)
    ·rw[hcell j hj];simp[Value.cells]
   ·rw[he]at d2
    simp only[RepL]at d2
    obtain⟨v,t',rfl,d5,rfl⟩:=d2
    have ho:(en (g i)).one=true:=by have:=hone (g i);rw[he]at this;simpa using this
    obtain⟨_,hc,_⟩:=Rep.cells_one d5 ho
    refine⟨v,d5,by rw[hc,hs1];rfl,fun y hy=>?_,fun j hj=>?_⟩
    ·rw[hc]at hy;simp at hy;rw[hy];exact h1 v (by simp)
    ·rw[hcell j hj,hc];rw[hs1]at hj;obtain rfl:j=0:=by omega
     rfl
  ·simp only[List.length_map,List.length_range]at hb ⊢
   exact Nat.le_trans (Nat.mul_le_mul_right _ (Nat.le_add_right _ _)) hb
  ·simp only[List.mem_map,List.mem_range]at ha
   obtain⟨i,hi,rfl⟩:=ha
   exact(hg i hi).1
theorem handed_light {a:Assume} {C:Checked} {os:Os} {f:FuncId} {fn:Func} {s:ChangeSpec} {conds:List PathCond} {apart fresh handsOn again:Bool}
  (own:ownKnob C.prog.godebug=none) (started:os.Started) (noInit:C.prog.inits.idxOf? f=none) (hfn:C.prog.funcs[f]?=some fn)
  (witness:∃ (w:World) (tape:Tape) (i:Input),w.os=os∧(w.forCall tape i).Shaped C.prog∧i.vars=[]∧Input.okWide C.prog (w.forCall tape i) .any w.heap.size f i ∧
   s.pre6 enc C.prog fn conds apart (w.forCall tape i).memory i.args∧a.holds C.prog (lone (Frame.enter C.prog f i.args .normal) [] (w.forCall tape i)))
  (contract:∀ (W:World) (base:Nat) (args:Array Value) (ds gs:List (DataW H)) (before:List MemPlace),
   (∀ (j:Nat) t v,fn.params[j]?=some t→args[j]?=some v→Value.okWide C.prog W .any base t v) →
   DataW.Whole enc C.prog fn.params.toList s.vars apart W args.toList ds gs before →
   (DataW.weightsEach C.prog (fn.params.toList++s.plain.varTypes C.prog) (ds++gs)).all (·≤reachBytes)=true →
   Calls C.prog f args W fun e W'=>∃ v,e=.returned v∧s.post enc C.prog fn apart fresh handsOn again W args v W') :
  ReturnsInHanded a C os f .any (s.pre6 enc C.prog fn conds apart) (s.post enc C.prog fn apart fresh handsOn again):=by
 refine returnsInHanded_of_calls own started noInit witness ?_
 intro w tape i _ _ _ hok hpre _
 obtain⟨_,_,_,fn',hfn',_,_,_,_,hval⟩:=hok
 obtain rfl:fn'=fn:=Option.some.inj (hfn'.symm.trans hfn)
 obtain⟨⟨ds,gs,before,hw,_⟩,hz⟩:=hpre
 refine(contract (w.forCall tape i) w.heap.size i.args ds gs before hval (DataW.Whole.of_heap (w':=w.forCall tape i) (by rfl) hw) (hz.weights hw)).mono fun e W' ⟨v,he,hp⟩=>?_
 subst he
 exact ChangeSpec.post_blind hp
end Go.Av
set_option maxRecDepth 100000
namespace Go.Av.Air
open Go.RowKit Go.Base Go.ChangeShapes Go.WideShapes Go.Proofs
def okW (x:T54):Prop:=x.Ident.length≤reachBytes∧x.Region.length≤reachBytes
theorem opW {W:World} {spare:Nat→Bool}:OpensW Try.prog W spare 54 (fun x:T54=>[(.str x.Ident),(.str x.Region),(.int .u8 x.Kind),(dI x.Pos.Lat),(dI x.Pos.Lon),(dI x.Elev),(dI x.Range)]) okW:=fun H enc fuel cs x h hw=>by
 obtain⟨xs,n,_,hxe,hl,hx,hf⟩:=DataW.trod_struct Try.underlying54 h
 rw[cells54]at hl
 have hx:xs.length=6:=hx
 rw[hxe]at hw
 have L:=light_struct Try.underlying54 hw
 match cs,hl with
 | [c0,c1,c2,c3,c4,c5,c6],_ =>
  have g0:=hf 0 _ rfl
  rw[List.getElem?_eq_getElem (by omega)]at g0
  have g0:DataW.trod enc Try.prog W 0 spare true n 9 [c0]=some (xs[0]'(by omega)):=by
   have e:Try.prog.cellsOf 9=1:=by kernel_rfl
   simpa [e] using g0
  obtain⟨a0,r0,k0⟩:=(opensW_string Try.underlying9) H enc n _ _ g0 (L 0 _ _ rfl (by rw[List.getElem?_map,List.getElem?_eq_getElem (by omega)];rfl))
  have g1:=hf 1 _ rfl
  rw[List.getElem?_eq_getElem (by omega)]at g1
  have g1:DataW.trod enc Try.prog W 0 spare true n 9 [c1]=some (xs[1]'(by omega)):=by
   have e:Try.prog.cellsOf 9=1:=by kernel_rfl
   simpa [e] using g1
  obtain⟨a1,r1,k1⟩:=(opensW_string Try.underlying9) H enc n _ _ g1 (L 1 _ _ rfl (by rw[List.getElem?_map,List.getElem?_eq_getElem (by omega)];rfl))
  have g2:=hf 2 _ rfl
  rw[List.getElem?_eq_getElem (by omega)]at g2
  obtain⟨z2,g2⟩:∃ z,DataW.trod enc Try.prog W 0 spare true n 50 [c2]=some z:=by
   have e:Try.prog.cellsOf 50=1:=by kernel_rfl
   exact⟨_,by simpa [e] using g2⟩
  obtain⟨a2,r2,k2⟩:=(opens_int Try.underlying50) H enc n _ _ g2
  have g3:=hf 3 _ rfl
  rw[List.getElem?_eq_getElem (by omega)]at g3
  obtain⟨z3,g3⟩:∃ z,DataW.trod enc Try.prog W 0 spare true n 52 [c3,c4]=some z:=by
   have e:Try.prog.cellsOf 52=2:=by kernel_rfl
   exact⟨_,by simpa [e] using g3⟩
  obtain⟨a3,r3,k3⟩:=op52 H enc n _ _ g3
  have g4:=hf 4 _ rfl
  rw[List.getElem?_eq_getElem (by omega)]at g4
  obtain⟨z4,g4⟩:∃ z,DataW.trod enc Try.prog W 0 spare true n 2 [c5]=some z:=by
   have e:Try.prog.cellsOf 2=1:=by kernel_rfl
   exact⟨_,by simpa [e] using g4⟩
  obtain⟨a4,r4,k4⟩:=(opens_int Try.underlying2) H enc n _ _ g4
  have g5:=hf 5 _ rfl
  rw[List.getElem?_eq_getElem (by omega)]at g5
  obtain⟨z5,g5⟩:∃ z,DataW.trod enc Try.prog W 0 spare true n 2 [c6]=some z:=by
   have e:Try.prog.cellsOf 2=1:=by kernel_rfl
   exact⟨_,by simpa [e] using g5⟩
  obtain⟨a5,r5,k5⟩:=(opens_int Try.underlying2) H enc n _ _ g5
  exact⟨⟨a0,a1,a2,a3,a4,a5⟩,repL_app r0 (repL_app r1 (repL_app r2 (repL_app r3 (repL_app r4 (r5))))),⟨k0,k1⟩⟩
theorem okD_of {l:List T39} {fs:List T54} (h1:∀ a∈l,ok39 a) (h2:∀ f∈fs,okW f):OkD l fs:=by
 have hr:reachBytes=140737488351232:=rfl
 refine⟨fun k hk i hi=>?_,fun i hi=>?_⟩
 ·have a:=h1 _ (getD_mem (l:=l) hk)
  exact(a.2.2 _ (getD_mem hi)).1
 ·have a:=h2 _ (getD_mem (l:=fs) hi)
  exact⟨Nat.le_trans a.1 (by rw[hr];decide),Nat.le_trans a.2 (by rw[hr];decide)⟩
end Go.Av.Air
namespace Go.Av
open Go.Proofs
end Go.Av
set_option maxRecDepth 100000
namespace Go.Av.Air
theorem loop_gm {S X:Type} {b:S→Option (S⊕X)} (I:Nat→S→Prop) (Q:X→Prop) (hb:∀ n s,I n s→(∃ s' n',b s=some (.inl s')∧n' < n∧I n' s')∨(∃ x,b s=some (.inr x)∧Q x)):∀ n s,I n s→∃ x,loopO b s=some x∧Q x:=by
 have key:∀ m n s,n < m→I n s→∃ x,loopO b s=some x∧Q x:=by
  intro m
  induction m with
  | zero=>intro n s h;omega
  | succ m ih =>
   intro n s hn hi
   rw[loopO_eq]
   rcases hb n s hi with⟨s',n',h1,h2,h3⟩ | ⟨x,h1,h2⟩
   ·rw[h1];exact ih n' s' (by omega) h3
   ·rw[h1];exact⟨x,rfl,h2⟩
 exact fun n s hi=>key (n+1) n s (by omega) hi
structure GOk (N:Nat) (es:List T72):Prop where
 n1:1≤N
 n2:N≤512
 few:es.length≤8192
 e:∀ x∈es,0≤x.From∧x.From < (N:Int)∧0≤x.To∧x.To < (N:Int)∧0≤x.Cost∧x.Cost≤1099511627776
theorem M62 (a0:T66) (a1:Int):m62 a0 a1=((some ((decide (0≤a1))&&(decide (a1 < a0.N)))):Option (Bool)):=by kernel_rfl
theorem M61 (a0:T66):m61 a0=((Option.bind (if(((decide (a0.N < 1)) || (decide (512 < a0.N))) || (decide (8192 < (a0.Edges.length:Int))))=true then(some (.inr ((3:Int))))else(some (.inl ()))) (onS fun(_:Unit)=>(Option.bind (Option.bind (some (.inl ())) (onS fun(_:Unit)=>(loopO (fun(s1:Int)=>((if(decide (s1 < (a0.Edges.length:Int)))=true then(if(0≤s1)then(if(s1 < (a0.Edges.length:Int))then(Option.bind (((m62 a0 (a0.Edges.getD s1.toNat default).From).bind fun r6_0=>((if(!(!r6_0))=true then m62 a0 (a0.Edges.getD s1.toNat default).To else some default).bind fun r6_1=>some (r6_0,r6_1)))) fun(x6:(Bool×Bool))=>(if((!x6.1) || (!x6.2))=true then(some (.inr (.inr ((1:Int)))))else(if((decide ((a0.Edges.getD s1.toNat default).Cost < 0)) || (decide (1099511627776 < (a0.Edges.getD s1.toNat default).Cost)))=true then(some (.inr (.inr ((2:Int)))))else(some (.inl (IntKind.wrap .i64 (s1+1)))))))else none)else none)else(some (.inr (.inl ())))):Option ((Int)⊕((Unit)⊕(Int))))) (0:Int)))) (onS fun(_:Unit)=>(some (0:Int)))))):Option (Int)):=by kernel_rfl
noncomputable abbrev lo61_1 (a0:T66):(Int)→Option ((Int)⊕((Unit)⊕(Int))):=(fun(s1:Int)=>((if(decide (s1 < (a0.Edges.length:Int)))=true then(if(0≤s1)then(if(s1 < (a0.Edges.length:Int))then(Option.bind (((m62 a0 (a0.Edges.getD s1.toNat default).From).bind fun r6_0=>((if(!(!r6_0))=true then m62 a0 (a0.Edges.getD s1.toNat default).To else some default).bind fun r6_1=>some (r6_0,r6_1)))) fun(x6:(Bool×Bool))=>(if((!x6.1) || (!x6.2))=true then(some (.inr (.inr ((1:Int)))))else(if((decide ((a0.Edges.getD s1.toNat default).Cost < 0)) || (decide (1099511627776 < (a0.Edges.getD s1.toNat default).Cost)))=true then(some (.inr (.inr ((2:Int)))))else(some (.inl (IntKind.wrap .i64 (s1+1)))))))else none)else none)else(some (.inr (.inl ())))):Option ((Int)⊕((Unit)⊕(Int)))))
theorem A61  (a0:T66):m61 a0=((Option.bind (if(((decide (a0.N < 1)) || (decide (512 < a0.N))) || (decide (8192 < (a0.Edges.length:Int))))=true then(some (.inr ((3:Int))))else(some (.inl ()))) (onS fun(_:Unit)=>(Option.bind (Option.bind (some (.inl ())) (onS fun(_:Unit)=>(loopO (lo61_1 a0) (0:Int)))) (onS fun(_:Unit)=>(some (0:Int)))))):Option (Int)):=M61 _
theorem M40 (a0:T66) (a1 a2:Int):m40 a0 a1 a2=((Option.bind (Option.bind (m61 a0) fun r=>some r) fun x1=>(if(x1 != 0)=true then(some x1)else(Option.bind (((m62 a0 a1).bind fun r4_0=>((if(!(!r4_0))=true then m62 a0 a2 else some default).bind fun r4_1=>some (r4_0,r4_1)))) fun(x4:(Bool×Bool))=>(if((!x4.1) || (!x4.2))=true then(some (1:Int))else(some (0:Int)))))):Option (Int)):=by kernel_rfl
variable {N:Nat} {es:List T72}
theorem node_eq (g:T66) (a:Int):m62 g a=some ((decide (0≤a))&&(decide (a < g.N))):=M62 _ _
theorem gcheck_ok (G:GOk N es):m61 ⟨(N:Int),es⟩=some 0:=by
 have h1:=G.n1
 have h2:=G.n2
 have h3:=G.few
 rw[A61]
 have c1:decide ((N:Int) < 1)=false:=decide_eq_false (by omega)
 have c2:decide ((512:Int) < (N:Int))=false:=decide_eq_false (by omega)
 have c3:decide ((8192:Int) < (es.length:Int))=false:=decide_eq_false (by omega)
 simp only[c1,c2,c3,Bool.or_self,Bool.false_eq_true,if_false,Option.bind_some,onS]
 refine loop_pass es.length (fun i hi=>?_) ?_ rfl
 ·obtain⟨x,hx⟩:∃ x,es.getD i default=x:=⟨_,rfl⟩
  obtain⟨g1,g2,g3,g4,g5,g6⟩:=G.e x (by rw[← hx];exact getD_mem hi)
  have d5:decide (x.Cost < 0)=false:=decide_eq_false (by omega)
  have d6:decide ((1099511627776:Int) < x.Cost)=false:=decide_eq_false (by omega)
  simp only[lo61_1,inL hi,decide_true,if_true,Int.toNat_natCast,hx,node_eq,g1,g2,g3,g4,d5,d6,Bool.and_self,Bool.not_true,Bool.not_false,Option.bind_some,Bool.or_self,Bool.false_eq_true,if_false,wr1 hi (by omega)]
 ·simp only[lo61_1,lt_irr,decide_false,Bool.false_eq_true,if_false]
theorem ends_ok (G:GOk N es) {f t:Nat} (hf:f < N) (ht:t < N):m40 ⟨(N:Int),es⟩ (f:Int) (t:Int)=some 0:=by
 have f1:decide ((0:Int)≤(f:Int))=true:=decide_eq_true (by omega)
 have f2:decide ((f:Int) < (N:Int))=true:=decide_eq_true (by omega)
 have t1:decide ((0:Int)≤(t:Int))=true:=decide_eq_true (by omega)
 have t2:decide ((t:Int) < (N:Int))=true:=decide_eq_true (by omega)
 rw[M40,gcheck_ok G]
 simp only[Option.bind_some,node_eq,f1,f2,t1,t2,bne_self_eq_false,Bool.and_self,Bool.not_true,Bool.not_false,Bool.or_self,Bool.false_eq_true,if_false,if_true]
def row (es:List T72) (u:Nat):List T72:=es.filter fun x=>decide (x.From=(u:Int))
def rows (N:Nat) (es:List T72):List (List T72):=(List.range N).map (row es)
theorem rows_at {u:Nat} (hu:u < N):(rows N es).getD u default=row es u:=by
 simp[rows,List.getD_eq_getElem?_getD,hu]
theorem rows_at0 {u:Nat} (hu:u < N):(rows N es).getD u []=row es u:=rows_at hu
theorem rows_len:(rows N es).length=N:=by simp[rows]
theorem mem_row {u:Nat} {x:T72}:x∈row es u↔x∈es∧x.From=(u:Int):=by simp[row]
theorem row_len (u:Nat):(row es u).length≤es.length:=List.length_filter_le _ _
theorem row_take {i u:Nat} (hi:i < es.length):row (es.take (i+1)) u=if(es.getD i default).From=(u:Int)then row (es.take i) u++[es.getD i default]else row (es.take i) u:=by
 have e:es.take (i+1)=es.take i++[es.getD i default]:=by
  rw[List.take_add_one,List.getElem?_eq_getElem hi]
  simp[List.getD_eq_getElem?_getD,List.getElem?_eq_getElem hi]
 unfold row
 rw[e,List.filter_append]
 by_cases h:(es.getD i default).From=(u:Int)
 ·rw[if_pos h];simp only[List.filter_cons,List.filter_nil,h,decide_true,if_true]
 ·rw[if_neg h];simp only[List.filter_cons,List.filter_nil,h,decide_false,Bool.false_eq_true,if_false,List.append_nil]
theorem rows_step {i:Nat} (hi:i < es.length) {j:Nat} (hj:(es.getD i default).From=(j:Int)) (hN:j < N):(rows N (es.take i)).set j (row (es.take i) j++[es.getD i default])=rows N (es.take (i+1)):=by
 apply List.ext_getElem
 ·simp[rows]
 ·intro k h1 h2
  have hk:k < N:=by simpa [rows] using h2
  rw[List.getElem_set]
  simp only[rows,List.getElem_map,List.getElem_range,row_take hi]
  by_cases e:j=k
  ·subst e;rw[if_pos rfl,if_pos hj]
  ·rw[if_neg e,if_neg (by omega)]
end Go.Av.Air
