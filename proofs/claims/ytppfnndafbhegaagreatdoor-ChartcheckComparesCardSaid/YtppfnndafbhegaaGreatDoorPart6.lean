/- A part of the proof. -/
import Derived.Test.YtppfnndafbhegaaGreatDoorPart5
set_option linter.unusedVariables false
set_option linter.unusedSimpArgs false
set_option maxRecDepth 100000
namespace Go.Av
open Go.RowKit Go.Base Go.Proofs Go.ChangeShapes Go.WideShapes
noncomputable def d126 (a0:T27) (a1:T37) (a2:T85):JF Tryz.prog Tryz.f126 [(e27 a0),(e37 a1),(e85 a2)] (fun(r:T37×(List (List UInt8)))=>(.tup [(e37 r.1),(eSl 1 D.str r.2)])) :=
 (.sq 5 [(1,⟨Unit,fun x=>[],fun x=>[],[144]⟩),(3,tm1 28 dI)] [(0,[3,4,5,6,8,9,10,11],[144,16,32,48,64])] (fun(y1:Int)=>⟨[(3,(.ptr 16 0)),(4,(.ptr 32 0)),(5,(.ptr 48 0)),(6,(.ptr 64 0)),(8,(.arr 144 1 a1.Memory.length)),(9,aN),(10,(aI y1)),(11,(aI (-1)))],[(144,(.arr 1 a1.Memory.length (cF dI a1.Memory))),(16,(.cells (g27 a0))),(32,(.cells (g37 a1))),(48,(.cells (g85 a2))),(64,(.cells [(aI 0),aN]))],[],320⟩) (.exi (Unit) (if 0 < a1.Memory.length then(if a1.Memory.length * 8≤140737488355328 then some ()else none)else none) (fun x1=>(.p (0 < a1.Memory.length) (.p (a1.Memory.length * 8≤140737488355328) (.fin 0)))) (by intro x1 h;obtain⟨h1,h⟩:=if_some h;obtain⟨h2,h⟩:=if_some h;cases h;exact⟨h1,h2,trivial⟩) (fun x1 _=>(c3 (@p160 a0 a2.From a2.To) fun x3=>(.nx x3)))) (fun y1=>(.sc (fun(y4:(List Int)×(List (List UInt8)))=>⟨[(3,(.ptr 16 0)),(5,(.ptr 48 0)),(6,(.ptr 64 0)),(8,(.arr 144 1 a1.Memory.length)),(9,(.ap 1 y4.2.length (cF D.str y4.2) (.tok 640 9))),(10,(aI y1))],[(144,(.arr 1 a1.Memory.length (cF dI y4.1))),(16,(.cells (g27 a0))),(48,(.cells (g85 a2))),(64,(.cells [(aI 0),aN]))],[640],1024⟩) (.sq 1 [(5,tm1 32 (eSl 1 dI))] [(0,[3,5,6,8,9,10,11,32,33,34],[144,16,48,64])] (fun(y2:(List Int)×Int)=>⟨[(3,(.ptr 16 0)),(5,(.ptr 48 0)),(6,(.ptr 64 0)),(8,(.arr 144 1 a1.Memory.length)),(9,aN),(10,(aI y1)),(11,(aI (-1))),(32,(.d (eSl 1 dI y2.1))),(33,(aI y2.2)),(34,(aI 0))],[(144,(.arr 1 a1.Memory.length (cF dI a1.Memory))),(16,(.cells (g27 a0))),(48,(.cells (g85 a2))),(64,(.cells [(aI 0),aN]))],[],416⟩) (c3 (@p123 a0 a1.Leaf) fun x5=>(.nx (x5,(x5.length:Int)))) (fun y2=>(.bk (.lp (fun(s3:(List Int)×(List (List UInt8))×Int×Int)=>⟨[(3,(.ptr 16 0)),(5,(.ptr 48 0)),(6,(.ptr 64 0)),(8,(.arr 144 1 a1.Memory.length)),(9,(.ap 1 s3.2.1.length (cF D.str s3.2.1) (.tok 640 9))),(10,(aI y1)),(11,(aI s3.2.2.1)),(32,(.d (eSl 1 dI y2.1))),(33,(aI y2.2)),(34,(aI s3.2.2.2))],[(144,(.arr 1 a1.Memory.length (cF dI s3.1))),(16,(.cells (g27 a0))),(48,(.cells (g85 a2))),(64,(.cells [(aI 0),aN]))],[640],912⟩) (a1.Memory,[],(-1:Int),(0:Int)) (ws (idn [16,48,64,144]) [] ⟨⟨_,_,rfl,rfl,⟨rfl,(de_keep dr)⟩⟩,⟨_,_,rfl,rfl,⟨dr,dr,dr,dr,dr,dr,trivial⟩⟩,⟨_,_,rfl,rfl,⟨dr,dr,dr,dr,trivial⟩⟩,⟨_,_,rfl,rfl,⟨dr,rfl,trivial⟩⟩⟩) fun s3=>(.sg [] [(2,[3,5,6,8,9,10],[144,16,48,64]),(0,[3,5,6,8,9,10,11,32,33,34],[144,16,48,64])] (.ite (decide (s3.2.2.2 < y2.2)) (nd (0≤s3.2.2.2) (nd (s3.2.2.2 < (y2.1.length:Int)) (.ite ((y2.1.getD s3.2.2.2.toNat default)==y1) (.ret (.exit 0) _ (.inr (.inl (s3.1,s3.2.1))) ⟨rfl,rfl,Weak.refl _⟩) (nd (0≤(y2.1.getD s3.2.2.2.toNat default)) (nd ((y2.1.getD s3.2.2.2.toNat default) < (a0.States.length:Int)) (nd ((s3.2.1.length+(a0.States.getD (y2.1.getD s3.2.2.2.toNat default).toNat default).Exit.length) * 16≤140737488355328) (nd (0≤(y2.1.getD s3.2.2.2.toNat default)) (nd ((y2.1.getD s3.2.2.2.toNat default) < (a0.States.length:Int)) (.ite (a0.States.getD (y2.1.getD s3.2.2.2.toNat default).toNat default).History (nd (0≤(y2.1.getD s3.2.2.2.toNat default)) (nd ((y2.1.getD s3.2.2.2.toNat default) < (a1.Memory.length:Int)) (nd ((y2.1.getD s3.2.2.2.toNat default).toNat < a1.Memory.length) (.ret .normal ⟨(z126_1 a0 a1 s3 y1 y2),[(144,(.arr 1 a1.Memory.length (fun k=>if k=(y2.1.getD s3.2.2.2.toNat default).toNat then(dI s3.2.2.1)else(cF dI s3.1) k))),(16,(.cells (g27 a0))),(48,(.cells (g85 a2))),(64,(.cells [(aI 0),aN]))],[1136],1408⟩ (.inl (((subL s3.1 0 a1.Memory.length).set (y2.1.getD s3.2.2.2.toNat default).toNat s3.2.2.1),(s3.2.1++(a0.States.getD (y2.1.getD s3.2.2.2.toNat default).toNat default).Exit),(y2.1.getD s3.2.2.2.toNat default),(IntKind.wrap .i64 (s3.2.2.2+1)))) ⟨rfl,(weak_of [(16,16),(48,48),(64,64),(144,144)] [(640,1136)] (by kernel_rfl) ⟨⟨rfl,rfl⟩,⟨rfl,rfl⟩,⟨rfl,rfl⟩,⟨rfl,rfl,rfl⟩,⟨rfl,rfl,rfl,(de_app dr dr)⟩,dr,dr,dr,dr,dr⟩ ⟨⟨_,_,rfl,rfl,⟨rfl,(de_keep (de_set de_sub0))⟩⟩,⟨_,_,rfl,rfl,⟨dr,dr,dr,dr,dr,dr,trivial⟩⟩,⟨_,_,rfl,rfl,⟨dr,dr,dr,dr,trivial⟩⟩,⟨_,_,rfl,rfl,⟨dr,rfl,trivial⟩⟩⟩)⟩)))) (.ret .normal ⟨(z126_1 a0 a1 s3 y1 y2),[(144,(.arr 1 a1.Memory.length (cF dI s3.1))),(16,(.cells (g27 a0))),(48,(.cells (g85 a2))),(64,(.cells [(aI 0),aN]))],[1136],1328⟩ (.inl (s3.1,(s3.2.1++(a0.States.getD (y2.1.getD s3.2.2.2.toNat default).toNat default).Exit),(y2.1.getD s3.2.2.2.toNat default),(IntKind.wrap .i64 (s3.2.2.2+1)))) ⟨rfl,(wh (idn [16,48,64,144]) [(640,1136)] ⟨⟨rfl,rfl⟩,⟨rfl,rfl⟩,⟨rfl,rfl⟩,⟨rfl,rfl,rfl⟩,⟨rfl,rfl,rfl,(de_app dr dr)⟩,dr,dr,dr,dr,dr⟩)⟩)))))))))) (.ret (.exit 0) ⟨[(3,(.ptr 16 0)),(5,(.ptr 48 0)),(6,(.ptr 64 0)),(8,(.arr 144 1 a1.Memory.length)),(9,(.ap 1 s3.2.1.length (cF D.str s3.2.1) (.tok 640 9))),(10,(aI y1))],[(144,(.arr 1 a1.Memory.length (cF dI s3.1))),(16,(.cells (g27 a0))),(48,(.cells (g85 a2))),(64,(.cells [(aI 0),aN]))],[640],928⟩ (.inr (.inl (s3.1,s3.2.1))) ⟨rfl,rfl,(wk (idn [16,48,64,144]) [(640,640)])⟩))))))) fun y4=>(.sq 2 [] [(0,[3,5,6,8,9,10,14],[144,16,48,64])] (fun(_:Unit)=>⟨[(3,(.ptr 16 0)),(5,(.ptr 48 0)),(6,(.ptr 64 0)),(8,(.arr 144 1 a1.Memory.length)),(9,(z126_0 a2 y4)),(10,(aI y1)),(14,aN)],[(144,(.arr 1 a1.Memory.length (cF dI y4.1))),(16,(.cells (g27 a0))),(48,(.cells (g85 a2))),(64,(.cells [(aI 0),aN]))],[1072],1120⟩) (nd ((y4.2.length+a2.Actions.length) * 16≤140737488355328) (.ret .normal ⟨[(3,(.ptr 16 0)),(5,(.ptr 48 0)),(6,(.ptr 64 0)),(8,(.arr 144 1 a1.Memory.length)),(9,(.ap 1 (y4.2.length+a2.Actions.length) (appF y4.2.length (cF D.str y4.2) (cF D.str a2.Actions)) (.tok 1072 9))),(10,(aI y1)),(14,aN)],[(144,(.arr 1 a1.Memory.length (cF dI y4.1))),(16,(.cells (g27 a0))),(48,(.cells (g85 a2))),(64,(.cells [(aI 0),aN]))],[1072],1120⟩ (.inl ()) ⟨rfl,(wh (idn [16,48,64,144]) [(1072,1072)] ⟨⟨rfl,rfl⟩,⟨rfl,rfl⟩,⟨rfl,rfl⟩,⟨rfl,rfl,rfl⟩,⟨rfl,rfl,rfl,(de_app dr dr)⟩,dr,rfl⟩)⟩)) (fun _=>(.sc (fun(y7:(List Int))=>⟨[(3,(.ptr 16 0)),(5,(.ptr 48 0)),(6,(.ptr 64 0)),(8,(.arr 144 1 a1.Memory.length)),(9,(z126_0 a2 y4)),(14,(.ap 1 y7.length (cF dI y7) (.tok 1392 3)))],[(144,(.arr 1 a1.Memory.length (cF dI y4.1))),(16,(.cells (g27 a0))),(48,(.cells (g85 a2))),(64,(.cells [(aI 0),aN]))],[1072,1392],1568⟩) (.sq 1 [(16,tm1 68 (eSl 1 dI))] [(0,[3,5,6,8,9,10,14,69,70,71],[144,16,48,64])] (fun(y5:(List Int)×Int)=>⟨[(3,(.ptr 16 0)),(5,(.ptr 48 0)),(6,(.ptr 64 0)),(8,(.arr 144 1 a1.Memory.length)),(9,(z126_0 a2 y4)),(10,(aI y1)),(14,aN),(69,(.d (eSl 1 dI y5.1))),(70,(aI y5.2)),(71,(aI 0))],[(144,(.arr 1 a1.Memory.length (cF dI y4.1))),(16,(.cells (g27 a0))),(48,(.cells (g85 a2))),(64,(.cells [(aI 0),aN]))],[1072],1232⟩) (.exi ((List Int)) ((m123 a0 a2.To).bind fun r16_0=>(if(0:Int)≤(1:Int)then(if 1≤(r16_0.length:Int)then some r16_0 else none)else none)) (fun x16=>(.p (PureAt Tryz.prog 123 [(e27 a0),(dI a2.To)] (eSl 1 dI x16)) (.p ((0:Int)≤(1:Int)) (.p (1≤(x16.length:Int)) (.fin 0))))) (by intro x16 h;obtain⟨r16_0,h1,h⟩:=Option.bind_eq_some_iff.1 h;obtain⟨h2,h⟩:=if_some h;obtain⟨h3,h⟩:=if_some h;cases h;exact⟨p123 h1,h2,h3,trivial⟩) (fun x16 _=>(.ret .normal ⟨[(3,(.ptr 16 0)),(5,(.ptr 48 0)),(6,(.ptr 64 0)),(8,(.arr 144 1 a1.Memory.length)),(9,(z126_0 a2 y4)),(10,(aI y1)),(14,aN),(69,(.d (.sl 1 (x16.length - (1:Int).toNat) (fun i=>cF dI x16 ((1:Int).toNat+i))))),(70,(aI (((x16.length - (1:Int).toNat):Nat):Int))),(71,(aI 0))],[(144,(.arr 1 a1.Memory.length (cF dI y4.1))),(16,(.cells (g27 a0))),(48,(.cells (g85 a2))),(64,(.cells [(aI 0),aN]))],[1072],1232⟩ (.inl ((subL x16 (1:Int).toNat (x16.length - (1:Int).toNat)),(((x16.length - (1:Int).toNat):Nat):Int))) ⟨rfl,(wh (idn [16,48,64,144]) [(1072,1072)] ⟨⟨rfl,rfl⟩,⟨rfl,rfl⟩,⟨rfl,rfl⟩,⟨rfl,rfl,rfl⟩,⟨rfl,rfl,rfl,dr⟩,dr,rfl,de_sub,dr,dr⟩)⟩))) (fun y5=>(.bk (.lp (fun(s6:(List Int)×Int)=>⟨[(3,(.ptr 16 0)),(5,(.ptr 48 0)),(6,(.ptr 64 0)),(8,(.arr 144 1 a1.Memory.length)),(9,(z126_0 a2 y4)),(10,(aI y1)),(14,(.ap 1 s6.1.length (cF dI s6.1) (.tok 1392 3))),(69,(.d (eSl 1 dI y5.1))),(70,(aI y5.2)),(71,(aI s6.2))],[(144,(.arr 1 a1.Memory.length (cF dI y4.1))),(16,(.cells (g27 a0))),(48,(.cells (g85 a2))),(64,(.cells [(aI 0),aN]))],[1072,1392],1456⟩) ([],(0:Int)) (wk (idn [16,48,64,144]) [(1072,1072)]) fun s6=>(.sg [] [(4,[3,5,6,8,9,14],[144,16,48,64]),(0,[3,5,6,8,9,10,14,69,70,71],[144,16,48,64])] (.ite (decide (s6.2 < y5.2)) (nd (0≤s6.2) (nd (s6.2 < (y5.1.length:Int)) (.ite ((y5.1.getD s6.2.toNat default)==y1) (.ret (.exit 2) _ (.inr (.inl s6.1)) ⟨rfl,rfl,Weak.refl _⟩) (nd ((s6.1.length+1) * 8≤140737488355328) (.ret .normal ⟨[(3,(.ptr 16 0)),(5,(.ptr 48 0)),(6,(.ptr 64 0)),(8,(.arr 144 1 a1.Memory.length)),(9,(z126_0 a2 y4)),(10,(aI y1)),(14,(.ap 1 (s6.1.length+1) (appF s6.1.length (cF dI s6.1) (litF [(dI (y5.1.getD s6.2.toNat default))])) (.tok 1616 3))),(69,(.d (eSl 1 dI y5.1))),(70,(aI y5.2)),(71,(aI (IntKind.wrap .i64 (s6.2+1))))],[(144,(.arr 1 a1.Memory.length (cF dI y4.1))),(16,(.cells (g27 a0))),(48,(.cells (g85 a2))),(64,(.cells [(aI 0),aN]))],[1616,1600,1072],1680⟩ (.inl ((s6.1++([(y5.1.getD s6.2.toNat default)]:List Int)),(IntKind.wrap .i64 (s6.2+1)))) ⟨rfl,(wh (idn [16,48,64,144]) [(1072,1072),(1392,1616)] ⟨⟨rfl,rfl⟩,⟨rfl,rfl⟩,⟨rfl,rfl⟩,⟨rfl,rfl,rfl⟩,⟨rfl,rfl,rfl,dr⟩,dr,⟨rfl,rfl,rfl,(de_app dr (de_lit rfl rfl))⟩,dr,dr,dr⟩)⟩))))) (.ret (.exit 2) ⟨[(3,(.ptr 16 0)),(5,(.ptr 48 0)),(6,(.ptr 64 0)),(8,(.arr 144 1 a1.Memory.length)),(9,(z126_0 a2 y4)),(14,(.ap 1 s6.1.length (cF dI s6.1) (.tok 1392 3)))],[(144,(.arr 1 a1.Memory.length (cF dI y4.1))),(16,(.cells (g27 a0))),(48,(.cells (g85 a2))),(64,(.cells [(aI 0),aN]))],[1072,1392],1472⟩ (.inr (.inl s6.1)) ⟨rfl,rfl,(wk (idn [16,48,64,144]) (idn [1072,1392]))⟩))))))) fun y7=>(.sg [(22,⟨((List (List UInt8))×(List Int)×(List (List UInt8))),fun x=>[],fun x=>[(1632,(o126_0 a1 x))],[]⟩),(23,⟨((List (List UInt8))×Int×(List Int)×(List (List UInt8))),fun x=>[],fun x=>[(1744,(o126_1 a1 x))],[]⟩)] [(1,[6,7],[64,144])] (c3 (p:=fun x22=>ObjL Tryz.prog 122 [(.d (e27 a0)),(.arr 144 1 a1.Memory.length),(.ap 1 y7.length (cF dI y7) (.tok 1392 3)),(z126_0 a2 y4)] [(144,some (.arr 1 a1.Memory.length (cF dI y4.1)))] 1632 (o126_0 a1 x22)) (fun x22 (h1:m122o1 a0 (subL y4.1 0 a1.Memory.length) y7 (y4.2++a2.Actions)=some _)=>objL_of (po122o1 h1) [(0,144)] [(0,1392),(1,1072)] [(144,0)] [(1632,1),(1633,0)] (by kernel_rfl) ⟨dr,⟨rfl,rfl,(len_of (sz:=1) (e:=dI) (f:=(cF dI y4.1)) (l:=(subL y4.1 0 a1.Memory.length)) de_sub0)⟩,⟨rfl,rfl,rfl,dr⟩,⟨rfl,rfl,rfl,dr⟩,trivial⟩ ⟨_,_,rfl,rfl,⟨rfl,de_sub0⟩⟩ (by kernel_rfl) ⟨rfl,rfl,rfl,dr⟩ ⟨_,_,rfl,rfl,⟨rfl,(de_len (Eq.symm (len_of (sz:=1) (e:=dI) (f:=(cF dI y4.1)) (l:=(subL y4.1 0 a1.Memory.length)) de_sub0)))⟩⟩) fun x22=>(c3 (p:=fun x23=>ObjL Tryz.prog 124 [(.d (e27 a0)),(.arr 144 1 a1.Memory.length),(aI a2.To),(.ap 1 x22.1.length (cF D.str x22.1) (.tok 1632 9))] [(144,some (.arr 1 a1.Memory.length (cF dI x22.2.1)))] 1744 (o126_1 a1 x23)) (fun x23 (h1:m124o0 a0 (subL x22.2.1 0 a1.Memory.length) a2.To x22.1=some _)=>objL_of (po124o0 h1) [(0,144)] [(0,1632)] [(144,0)] [(1744,208)] (by kernel_rfl) ⟨dr,⟨rfl,rfl,(len_of (sz:=1) (e:=dI) (f:=(cF dI x22.2.1)) (l:=(subL x22.2.1 0 a1.Memory.length)) de_sub0)⟩,dr,⟨rfl,rfl,rfl,dr⟩,trivial⟩ ⟨_,_,rfl,rfl,⟨rfl,de_sub0⟩⟩ (by kernel_rfl) ⟨dr,⟨rfl,rfl,rfl,dr⟩,trivial⟩ ⟨_,_,rfl,rfl,⟨rfl,(de_len (Eq.symm (len_of (sz:=1) (e:=dI) (f:=(cF dI x22.2.1)) (l:=(subL x22.2.1 0 a1.Memory.length)) de_sub0)))⟩⟩) fun x23=>(.ret .ret ⟨[(6,(.ptr 64 0)),(7,(.ap 1 x23.1.length (cF D.str x23.1) (.tok 1744 9)))],[(64,(.cells [(aI x23.2.1),(.arr 144 1 a1.Memory.length)])),(144,(.arr 1 a1.Memory.length (cF dI x23.2.2.1)))],[1744,1633],1936⟩ ((⟨x23.2.1,(subL x23.2.2.1 0 a1.Memory.length)⟩:T37),x23.1) ⟨rfl,_,(weak_frz (st':=⟨[(6,(.ptr 64 0)),(7,(.ap 1 x23.1.length (cF D.str x23.1) (.tok 1744 9)))],[(64,(.cells [(aI x23.2.1),(.d (eSl 1 dI (subL x23.2.2.1 0 a1.Memory.length)))]))],[1744,1633],1936⟩) [(144,1,a1.Memory.length,(cF dI x23.2.2.1))] (by rfl) (by rfl) (by kernel_rfl) (by kernel_rfl) (by exact(rowIs_arr rfl)) (by exact .inr ⟨_,_,rfl,rfl,(.same (.arr (.head _) (Nat.le_refl _) de_sub0 .nil))⟩) (by exact⟨(.same .nil),(.same .nil)⟩)),⟨dr,dr,trivial⟩⟩))))))))))
noncomputable def m126 (a0:T27) (a1:T37) (a2:T85):Option (T37×(List (List UInt8))):=(d126 a0 a1 a2).m
theorem p126 {a0:T27} {a1:T37} {a2:T85} {r:T37×(List (List UInt8))} (h:m126 a0 a1 a2=some r):PureAt Tryz.prog 126 [(e27 a0),(e37 a1),(e85 a2)] (.tup [(e37 r.1),(eSl 1 D.str r.2)]):=pure_jd (d126 a0 a1 a2) Tryz.func126 h
noncomputable abbrev z76_0:List (Nat×Ob):=[(48,(.cells [(aI 0),aN]))]
noncomputable def E76 (r:T37×(List (List UInt8))×Int):D:=(.tup [(e37 r.1),(eSl 1 D.str r.2.1),(dI r.2.2)])
noncomputable def d76 (a0:T27) (a1:T37) (a2:Int):JF Tryz.prog Tryz.f76 [(e27 a0),(e37 a1),(.int .u16 a2)] E76 :=
 (.sg [(1,tm1 14 dI),(4,tm1 21 D.bool),(6,tm1 26 D.bool),(8,tm1 33 (eSl 1 dI)),(13,tm1 52 (fun(x:(T37×(List (List UInt8))))=>(.tup [(e37 x.1),(eSl 1 D.str x.2)])))] [(1,[6,7,8],[48])] (c3 (@p68 a0) fun x1=>(.ite (x1 != 0) (.ret .ret ⟨[(6,(.ptr 48 0)),(7,aN),(8,(aI x1))],z76_0,[],256⟩ ((⟨(0:Int),[]⟩:T37),[],x1) ⟨rfl,_,Weak.refl _,⟨⟨dr,de_nil,trivial⟩,de_nil,dr,trivial⟩⟩) (c3 (@p125 a0 a1) fun x4=>(.ite (!x4) (.ret .ret ⟨[(6,(.ptr 48 0)),(7,aN),(8,(aI 8))],z76_0,[],304⟩ ((⟨(0:Int),[]⟩:T37),[],(8:Int)) ⟨rfl,_,Weak.refl _,⟨⟨dr,de_nil,trivial⟩,de_nil,dr,trivial⟩⟩) (c3 (@p106 a0 a2) fun x6=>(.ite (!x6) (.ret .ret ⟨[(6,(.ptr 48 0)),(7,aN),(8,(aI 1))],z76_0,[],368⟩ ((⟨(0:Int),[]⟩:T37),[],(1:Int)) ⟨rfl,_,Weak.refl _,⟨⟨dr,de_nil,trivial⟩,de_nil,dr,trivial⟩⟩) (c3 (@p107 a0 a1.Leaf a2) fun x8=>(.ite ((x8.length:Int)==(0:Int)) (.ret .ret ⟨[(6,(.ptr 48 0)),(7,aN),(8,(aI 6))],z76_0,[],512⟩ ((⟨(0:Int),[]⟩:T37),[],(6:Int)) ⟨rfl,_,Weak.refl _,⟨⟨dr,de_nil,trivial⟩,de_nil,dr,trivial⟩⟩) (.ite (decide (1 < (x8.length:Int))) (.ret .ret ⟨[(6,(.ptr 48 0)),(7,aN),(8,(aI 11))],z76_0,[],560⟩ ((⟨(0:Int),[]⟩:T37),[],(11:Int)) ⟨rfl,_,Weak.refl _,⟨⟨dr,de_nil,trivial⟩,de_nil,dr,trivial⟩⟩) (.exi ((T37×(List (List UInt8)))) (if(0:Int)≤(0:Int)then(if 0 < (x8.length:Int)then(if 0≤(x8.getD (0:Int).toNat default)then(if(x8.getD (0:Int).toNat default) < (a0.Transitions.length:Int)then((m126 a0 a1 (a0.Transitions.getD (x8.getD (0:Int).toNat default).toNat default)).bind fun r13_0=>some r13_0)else none)else none)else none)else none) (fun x13=>(.p ((0:Int)≤(0:Int)) (.p (0 < (x8.length:Int)) (.p (0≤(x8.getD (0:Int).toNat default)) (.p ((x8.getD (0:Int).toNat default) < (a0.Transitions.length:Int)) (.p (PureAt Tryz.prog 126 [(e27 a0),(e37 a1),(.agg [(dI (a0.Transitions.getD (x8.getD (0:Int).toNat default).toNat default).From),(dI (a0.Transitions.getD (x8.getD (0:Int).toNat default).toNat default).To),(eSl 2 e116 (a0.Transitions.getD (x8.getD (0:Int).toNat default).toNat default).When),(eSl 1 D.str (a0.Transitions.getD (x8.getD (0:Int).toNat default).toNat default).Actions)])] (.tup [(e37 x13.1),(eSl 1 D.str x13.2)])) (.fin 0))))))) (by intro x13 h;obtain⟨h1,h⟩:=if_some h;obtain⟨h2,h⟩:=if_some h;obtain⟨h3,h⟩:=if_some h;obtain⟨h4,h⟩:=if_some h;obtain⟨r13_0,h5,h⟩:=Option.bind_eq_some_iff.1 h;cases h;exact⟨h1,h2,h3,h4,p126 h5,trivial⟩) (fun x13 _=>(.ret .ret ⟨[(6,(.ptr 48 0)),(7,(.d (eSl 1 D.str x13.2))),(8,(aI 0))],[(48,(.cells (g37 x13.1)))],[],832⟩ (x13.1,x13.2,(0:Int)) ⟨rfl,_,Weak.refl _,⟨dr,dr,dr,trivial⟩⟩)))))))))))))
noncomputable def m76 (a0:T27) (a1:T37) (a2:Int):Option (T37×(List (List UInt8))×Int):=(d76 a0 a1 a2).m
theorem p76 {a0:T27} {a1:T37} {a2:Int} {r:T37×(List (List UInt8))×Int} (h:m76 a0 a1 a2=some r):PureAt Tryz.prog 76 [(e27 a0),(e37 a1),(.int .u16 a2)] (E76 r):=pure_jd (d76 a0 a1 a2) Tryz.func76 h
noncomputable def q69o0 (a0 a1:List Int) (a2:Int) (y:(List Int)):OF:=⟨(.ap 1 y.length (cF (D.int .u16) y) (.tok 176 42)),[],[176]⟩
noncomputable def d69o0 (a0 a1:List Int) (a2:Int):JO Tryz.prog Tryz.f69 [(.d (eSl 1 dI a0)),(.d (eSl 1 (D.int .u16) a1)),(aI a2)] [] [] (q69o0 a0 a1 a2) :=
 (.sq 2 [] [(0,[0,1,2,7],[])] (fun(_:Unit)=>⟨[(0,(.d (eSl 1 dI a0))),(1,(.d (eSl 1 (D.int .u16) a1))),(2,(aI a2)),(7,aN)],[],[],48⟩) (.nx ()) (fun _=>(.sc (fun(y2:(List Int))=>⟨[(7,(.ap 1 y2.length (cF (D.int .u16) y2) (.tok 176 42)))],[],[176],320⟩) (.bk (.lp (fun(s1:Int×(List Int))=>⟨[(0,(.d (eSl 1 dI a0))),(1,(.d (eSl 1 (D.int .u16) a1))),(2,(aI s1.1)),(7,(.ap 1 s1.2.length (cF (D.int .u16) s1.2) (.tok 176 42)))],[],[176],288⟩) (a2,[]) (wk [] []) fun s1=>(.sg [] [(0,[0,1,2,7],[]),(2,[7],[])] (.ite (decide (0 < s1.1)) (nd (0≤s1.1) (nd (s1.1 < (a1.length:Int)) (nd ((1+s1.2.length) * 2≤140737488355328) (nd (0≤s1.1) (nd (s1.1 < (a0.length:Int)) (.ret .normal ⟨[(0,(.d (eSl 1 dI a0))),(1,(.d (eSl 1 (D.int .u16) a1))),(2,(aI (a0.getD s1.1.toNat default))),(7,(.ap 1 (1+s1.2.length) (appF 1 (litF [(.int .u16 (a1.getD s1.1.toNat default))]) (cF (D.int .u16) s1.2)) (.tok 416 42)))],[],[416,176],528⟩ (.inl ((a0.getD s1.1.toNat default),(([(a1.getD s1.1.toNat default)]:List Int)++s1.2))) ⟨rfl,(wh [] [(176,416)] ⟨dr,dr,dr,⟨rfl,rfl,rfl,(de_app (de_lit rfl rfl) dr)⟩⟩)⟩)))))) (.ret (.exit 0) _ (.inr (.inl s1.2)) ⟨rfl,rfl,Weak.refl _⟩))))) fun y2=>(.sg [] [(1,[6],[])] (.ret .ret ⟨[(6,(.ap 1 y2.length (cF (D.int .u16) y2) (.tok 176 42)))],[],[176],352⟩ y2 ⟨rfl,(rk [] [(176,176)] 352)⟩)))))
noncomputable def m69o0 (a0 a1:List Int) (a2:Int):Option ((List Int)):=(d69o0 a0 a1 a2).m
theorem po69o0 {a0:List Int} {a1:List Int} {a2:Int} {r:(List Int)} (h:m69o0 a0 a1 a2=some r):ObjF Tryz.prog 69 [(.d (eSl 1 dI a0)),(.d (eSl 1 (D.int .u16) a1)),(aI a2)] [] [] (q69o0 a0 a1 a2 r):=obj_jd (d69o0 a0 a1 a2) Tryz.func69 h
noncomputable def d46 (a0 a1:List Int):JF Tryz.prog Tryz.f46 [(eSl 1 dI a0),(eSl 1 dI a1)] (fun(r:Bool)=>(.bool r)) :=
 (.sq 2 [] [(1,[4],[]),(0,[0,1],[])] (fun(_:Unit)=>⟨[(0,(.d (eSl 1 dI a0))),(1,(.d (eSl 1 dI a1)))],[],[],112⟩) (.ite ((a0.length:Int) != (a1.length:Int)) (.ret .ret ⟨[(4,(aB false))],[],[],128⟩ (.inr (false)) ⟨rfl,rfl,_,Weak.refl _,dr⟩) (.nx ())) (fun _=>(.sc (fun(_:Unit)=>⟨[],[],[],400⟩) (.sq 1 [] [(0,[0,1,12,13],[])] (fun(_:Unit)=>⟨[(0,(.d (eSl 1 dI a0))),(1,(.d (eSl 1 dI a1))),(12,(aI (a0.length:Int))),(13,(aI 0))],[],[],160⟩) (.nx ()) (fun _=>(.bk (.lp (fun(s1:Int)=>⟨[(0,(.d (eSl 1 dI a0))),(1,(.d (eSl 1 dI a1))),(12,(aI (a0.length:Int))),(13,(aI s1))],[],[],384⟩) (0:Int) (wk [] []) fun s1=>(.sg [] [(1,[4],[]),(0,[0,1,12,13],[]),(2,[],[])] (.ite (decide (s1 < (a0.length:Int))) (nd (0≤s1) (nd (s1 < (a0.length:Int)) (nd (0≤s1) (nd (s1 < (a1.length:Int)) (.ite ((a0.getD s1.toNat default) != (a1.getD s1.toNat default)) (.ret .ret ⟨[(4,(aB false))],[],[],592⟩ (.inr (.inr (false))) ⟨rfl,rfl,rfl,_,Weak.refl _,dr⟩) (.ret .normal ⟨[(0,(.d (eSl 1 dI a0))),(1,(.d (eSl 1 dI a1))),(12,(aI (a0.length:Int))),(13,(aI (IntKind.wrap .i64 (s1+1))))],[],[],608⟩ (.inl (IntKind.wrap .i64 (s1+1))) ⟨rfl,(wk [] [])⟩)))))) (.ret (.exit 0) _ (.inr (.inl ())) ⟨rfl,rfl,Weak.refl _⟩))))))) fun _=>(.sg [] [(1,[4],[])] (.ret .ret ⟨[(4,(aB true))],[],[],416⟩ true ⟨rfl,_,Weak.refl _,dr⟩)))))
noncomputable def m46 (a0 a1:List Int):Option (Bool):=(d46 a0 a1).m
theorem p46 {a0:List Int} {a1:List Int} {r:Bool} (h:m46 a0 a1=some r):PureAt Tryz.prog 46 [(eSl 1 dI a0),(eSl 1 dI a1)] (.bool r):=pure_jd (d46 a0 a1) Tryz.func46 h
noncomputable def d17 (a0 a1:T37):JF Tryz.prog Tryz.f17 [(e37 a0),(e37 a1)] (fun(r:Bool)=>(.bool r)) :=
 (.sg [(1,tm1 15 D.bool)] [(1,[4],[])] (.exi (Bool) ((if(a0.Leaf==a1.Leaf)=true then m46 a0.Memory a1.Memory else some default).bind fun r1_0=>some r1_0) (fun x1=>(.g (a0.Leaf==a1.Leaf) (PureAt Tryz.prog 46 [(eSl 1 dI a0.Memory),(eSl 1 dI a1.Memory)] (.bool x1)) (.fin 0))) (by intro x1 h;obtain⟨r1_0,h1,h⟩:=Option.bind_eq_some_iff.1 h;cases h;exact⟨fun g=>p46 (by rw[if_pos g]at h1;exact h1),trivial⟩) (fun x1 _=>(.ret .ret ⟨[(4,(aB ((a0.Leaf==a1.Leaf)&&x1)))],[],[],272⟩ ((a0.Leaf==a1.Leaf)&&x1) ⟨rfl,_,Weak.refl _,dr⟩))))
noncomputable def m17 (a0 a1:T37):Option (Bool):=(d17 a0 a1).m
theorem p17 {a0:T37} {a1:T37} {r:Bool} (h:m17 a0 a1=some r):PureAt Tryz.prog 17 [(e37 a0),(e37 a1)] (.bool r):=pure_jd (d17 a0 a1) Tryz.func17 h
noncomputable abbrev z34_8 (s3:(List T37)×(List T37)×(List Int)×(List Int)×Int):AV:=(.ap 2 s3.1.length (cF e37 s3.1) (.tok 592 37))
noncomputable abbrev z34_6 (s3:(List T37)×(List T37)×(List Int)×(List Int)×Int):AV:=(.ap 2 s3.2.1.length (cF e37 s3.2.1) (.tok 624 37))
noncomputable abbrev z34_5 (s3:(List T37)×(List T37)×(List Int)×(List Int)×Int):AV:=(.ap 1 s3.2.2.1.length (cF dI s3.2.2.1) (.tok 640 3))
noncomputable abbrev z34_4 (s3:(List T37)×(List T37)×(List Int)×(List Int)×Int):AV:=(.ap 1 s3.2.2.2.1.length (cF (D.int .u16) s3.2.2.2.1) (.tok 656 42))
noncomputable abbrev z34_0 (s2:(List T37)×(List T37)×(List Int)×(List Int)×Int) (s3:(List T37)×(List T37)×(List Int)×(List Int)×Int):List (Nat×AV):=[(2,(.ptr 16 0)),(3,(.ptr 32 0)),(13,(z34_8 s3)),(14,(z34_6 s3)),(15,(z34_5 s3)),(16,(z34_4 s3)),(17,(aI s2.2.2.2.2)),(18,(aI s3.2.2.2.2))]
noncomputable abbrev z34_1 (a0:T27) (a1:T27) (y4:Int×(List Int)×Int×(List Int)):List (Nat×Ob):=[(16,(.cells (g27 a0))),(32,(.cells (g27 a1))),(4608,(.cells [(aI y4.1),(.d (eSl 1 dI y4.2.1))])),(4864,(.cells [(aI y4.2.2.1),(.d (eSl 1 dI y4.2.2.2))]))]
noncomputable abbrev z34_2 (a0:T27) (a1:T27):List (Nat×Ob):=[(16,(.cells (g27 a0))),(32,(.cells (g27 a1)))]
noncomputable abbrev z34_3 (s2:(List T37)×(List T37)×(List Int)×(List Int)×Int):List (Nat×AV):=[(2,(.ptr 16 0)),(3,(.ptr 32 0)),(13,(.ap 2 s2.1.length (cF e37 s2.1) (.tok 592 37))),(14,(.ap 2 s2.2.1.length (cF e37 s2.2.1) (.tok 624 37))),(15,(.ap 1 s2.2.2.1.length (cF dI s2.2.2.1) (.tok 640 3))),(16,(.ap 1 s2.2.2.2.1.length (cF (D.int .u16) s2.2.2.2.1) (.tok 656 42))),(17,(aI s2.2.2.2.2))]
noncomputable abbrev z34_7:AV:=(.ap 1 ([(0:Int)]:List Int).length (cF (D.int .u16) ([(0:Int)]:List Int)) (.tok 656 42))
noncomputable abbrev z34_9:AV:=(.ap 1 ([(-1:Int)]:List Int).length (cF dI ([(-1:Int)]:List Int)) (.tok 640 3))
noncomputable def E34 (r:(List Int)×Bool×Int):D:=(.tup [(eSl 1 (D.int .u16) r.1),(.bool r.2.1),(dI r.2.2)])
noncomputable def o34_0 (x:(Int×(List (List UInt8))×Int×(List Int))):OT:=⟨(.tup [(.d (.agg [(dI x.2.2.1),(eSl 1 dI x.2.2.2)])),(.ap 1 x.2.1.length (cF D.str x.2.1) (.tok 112 9)),(aI x.1)]),[],[],[],[112]⟩
noncomputable def o34_1 (x:(Int×(List (List UInt8))×Int×(List Int))):OT:=⟨(.tup [(.d (.agg [(dI x.2.2.1),(eSl 1 dI x.2.2.2)])),(.ap 1 x.2.1.length (cF D.str x.2.1) (.tok 304 9)),(aI x.1)]),[],[],[],[304]⟩
noncomputable def o34_2 (x:(List Int)):OT:=⟨(.ap 1 x.length (cF (D.int .u16) x) (.tok 5120 42)),[],[],[],[5120]⟩
noncomputable def d34 (a0 a1:T27):JF Tryz.prog Tryz.f34 [(e27 a0),(e27 a1)] E34 :=
 (.sq 7 [(1,⟨(Int×(List (List UInt8))×Int×(List Int)),fun x=>[],fun x=>[(112,(o34_0 x))],[]⟩),(4,⟨(Int×(List (List UInt8))×Int×(List Int)),fun x=>[],fun x=>[(304,(o34_1 x))],[]⟩),(7,tm1 49 D.bool)] [(1,[4,5,6],[]),(0,[2,3,13,14,15,16],[16,32])] (fun(y1:(List T37)×(List T37))=>⟨[(2,(.ptr 16 0)),(3,(.ptr 32 0)),(13,(.ap 2 y1.1.length (cF e37 y1.1) (.tok 592 37))),(14,(.ap 2 y1.2.length (cF e37 y1.2) (.tok 624 37))),(15,z34_9),(16,z34_7)],(z34_2 a0 a1),[592,624,640,656],736⟩) (c3 (p:=fun x1=>ObjL Tryz.prog 74 [(.d (e27 a0))] [] 112 (o34_0 x1)) (fun x1 (h1:m74o0 a0=some _)=>ok [] [] [] [(112,672)] (po74o0 h1)) fun x1=>(.ite (x1.1 != 0) (.ret .ret ⟨[(4,aN),(5,(aB false)),(6,(aI x1.1))],[],[112],352⟩ (.inr (([],false,x1.1))) ⟨rfl,rfl,_,Weak.refl _,⟨de_nil,dr,dr,trivial⟩⟩) (c3 (p:=fun x4=>ObjL Tryz.prog 74 [(.d (e27 a1))] [] 304 (o34_1 x4)) (fun x4 (h1:m74o0 a1=some _)=>ok [] [] [] [(304,672)] (po74o0 h1)) fun x4=>(.ite (x4.1 != 0) (.ret .ret ⟨[(4,aN),(5,(aB false)),(6,(aI x4.1))],[],[304,112],544⟩ (.inr (([],false,x4.1))) ⟨rfl,rfl,_,Weak.refl _,⟨de_nil,dr,dr,trivial⟩⟩) (c3 (@p41 a0.Conds a1.Conds) fun x7=>(.ite (!x7) (.ret .ret ⟨[(4,aN),(5,(aB false)),(6,(aI 1))],[],[304,112],624⟩ (.inr (([],false,(1:Int)))) ⟨rfl,rfl,_,Weak.refl _,⟨de_nil,dr,dr,trivial⟩⟩) (.ret .normal ⟨[(2,(.ptr 16 0)),(3,(.ptr 32 0)),(13,(.ap 2 1 (litF [(.agg [(dI x1.2.2.1),(eSl 1 dI x1.2.2.2)])]) (.tok 592 37))),(14,(.ap 2 1 (litF [(.agg [(dI x4.2.2.1),(eSl 1 dI x4.2.2.2)])]) (.tok 624 37))),(15,(.ap 1 1 (litF [(dI (-1))]) (.tok 640 3))),(16,(.ap 1 1 (litF [(.int .u16 0)]) (.tok 656 42)))],(z34_2 a0 a1),[656,640,624,592,304,112],736⟩ (.inl (([(⟨x1.2.2.1,x1.2.2.2⟩:T37)]:List T37),([(⟨x4.2.2.1,x4.2.2.2⟩:T37)]:List T37))) ⟨rfl,(wh (idn [16,32]) (idn [592,624,640,656]) ⟨⟨rfl,rfl⟩,⟨rfl,rfl⟩,⟨rfl,rfl,rfl,(de_lit rfl rfl)⟩,⟨rfl,rfl,rfl,(de_lit rfl rfl)⟩,⟨rfl,rfl,rfl,(de_lit rfl rfl)⟩,⟨rfl,rfl,rfl,(de_lit rfl rfl)⟩⟩)⟩))))))) (fun y1=>(.sc (fun(_:Unit)=>⟨[],[],[],2672⟩) (.sq 1 [] [(0,[2,3,13,14,15,16,17],[16,32])] (fun(_:Unit)=>⟨[(2,(.ptr 16 0)),(3,(.ptr 32 0)),(13,(.ap 2 y1.1.length (cF e37 y1.1) (.tok 592 37))),(14,(.ap 2 y1.2.length (cF e37 y1.2) (.tok 624 37))),(15,z34_9),(16,z34_7),(17,(aI 0))],(z34_2 a0 a1),[592,624,640,656],752⟩) (.nx ()) (fun _=>(.bk (.lp (fun(s2:(List T37)×(List T37)×(List Int)×(List Int)×Int)=>⟨(z34_3 s2),(z34_2 a0 a1),[592,624,640,656],2608⟩) (y1.1,y1.2,([(-1:Int)]:List Int),([(0:Int)]:List Int),(0:Int)) (wk (idn [16,32]) (idn [592,624,640,656])) fun s2=>(.sq 1 [] [(0,[2,3,13,14,15,16,17],[16,32]),(2,[],[])] (fun(_:Unit)=>⟨(z34_3 s2),(z34_2 a0 a1),[592,624,640,656],2672⟩) (.ite (decide (s2.2.2.2.2 < (s2.1.length:Int))) (.nx ()) (.ret (.exit 0) ⟨[],[],[592,624,640,656],2672⟩ (.inr (.inr (.inl ()))) ⟨rfl,rfl,rfl,(wk [] [])⟩)) (fun _=>(.sc (fun(y8:(List T37)×(List T37)×(List Int)×(List Int))=>⟨[(2,(.ptr 16 0)),(3,(.ptr 32 0)),(13,(.ap 2 y8.1.length (cF e37 y8.1) (.tok 592 37))),(14,(.ap 2 y8.2.1.length (cF e37 y8.2.1) (.tok 624 37))),(15,(.ap 1 y8.2.2.1.length (cF dI y8.2.2.1) (.tok 640 3))),(16,(.ap 1 y8.2.2.2.length (cF (D.int .u16) y8.2.2.2) (.tok 656 42))),(17,(aI s2.2.2.2.2))],(z34_2 a0 a1),[592,624,640,656],4416⟩) (.bk (.sq 1 [] [(0,[2,3,13,14,15,16,17,18],[16,32])] (fun(_:Unit)=>⟨[(2,(.ptr 16 0)),(3,(.ptr 32 0)),(13,(.ap 2 s2.1.length (cF e37 s2.1) (.tok 592 37))),(14,(.ap 2 s2.2.1.length (cF e37 s2.2.1) (.tok 624 37))),(15,(.ap 1 s2.2.2.1.length (cF dI s2.2.2.1) (.tok 640 3))),(16,(.ap 1 s2.2.2.2.1.length (cF (D.int .u16) s2.2.2.2.1) (.tok 656 42))),(17,(aI s2.2.2.2.2)),(18,(aI 0))],(z34_2 a0 a1),[592,624,640,656],2688⟩) (.nx ()) (fun _=>(.bk (.lp (fun(s3:(List T37)×(List T37)×(List Int)×(List Int)×Int)=>⟨(z34_0 s2 s3),(z34_2 a0 a1),[592,624,640,656],4352⟩) (s2.1,s2.2.1,s2.2.2.1,s2.2.2.2.1,(0:Int)) (wk (idn [16,32]) (idn [592,624,640,656])) fun s3=>(.sq 1 [(14,tm1 65 dI)] [(0,[2,3,13,14,15,16,17,18],[16,32]),(4,[2,3,13,14,15,16,17],[16,32])] (fun(_:Unit)=>⟨(z34_0 s2 s3),(z34_2 a0 a1),[592,624,640,656],4416⟩) (c3 (@p75 a0) fun x14=>(.ite (decide (s3.2.2.2.2≤x14)) (.nx ()) (.ret (.exit 2) _ (.inr (.inr (.inl (s3.1,s3.2.1,s3.2.2.1,s3.2.2.2.1)))) ⟨rfl,rfl,rfl,Weak.refl _⟩))) (fun _=>(.sc (fun(y7:(List T37)×(List T37)×(List Int)×(List Int))=>⟨[(2,(.ptr 16 0)),(3,(.ptr 32 0)),(13,(.ap 2 y7.1.length (cF e37 y7.1) (.tok 592 37))),(14,(.ap 2 y7.2.1.length (cF e37 y7.2.1) (.tok 624 37))),(15,(.ap 1 y7.2.2.1.length (cF dI y7.2.2.1) (.tok 640 3))),(16,(.ap 1 y7.2.2.2.length (cF (D.int .u16) y7.2.2.2) (.tok 656 42))),(17,(aI s2.2.2.2.2)),(18,(aI s3.2.2.2.2))],(z34_2 a0 a1),[592,624,640,656],5968⟩) (.bk (.sq 5 [(16,tm1 77 (fun(x:(T37×(List (List UInt8))×Int))=>(.tup [(e37 x.1),(eSl 1 D.str x.2.1),(dI x.2.2)]))),(17,tm1 89 (fun(x:(T37×(List (List UInt8))×Int))=>(.tup [(e37 x.1),(eSl 1 D.str x.2.1),(dI x.2.2)]))),(18,tm1 99 D.bool),(19,⟨(List Int),fun x=>[],fun x=>[(5120,(o34_2 x))],[]⟩)] [(1,[4,5,6],[]),(5,[2,3,13,14,15,16,17,18],[16,32]),(0,[2,3,13,14,15,16,17,18,19,22,25],[16,32,4608,4864])] (fun(y4:Int×(List Int)×Int×(List Int))=>⟨[(2,(.ptr 16 0)),(3,(.ptr 32 0)),(13,(z34_8 s3)),(14,(z34_6 s3)),(15,(z34_5 s3)),(16,(z34_4 s3)),(17,(aI s2.2.2.2.2)),(18,(aI s3.2.2.2.2)),(19,(.ptr 4608 0)),(22,(.ptr 4864 0)),(25,(aB false))],(z34_1 a0 a1 y4),[592,624,640,656],5120⟩) (.exi ((T37×(List (List UInt8))×Int)) (if 0≤s2.2.2.2.2 then(if s2.2.2.2.2 < (s3.1.length:Int)then((m76 a0 (s3.1.getD s2.2.2.2.2.toNat default) (IntKind.wrap .u16 (s3.2.2.2.2))).bind fun r16_0=>some r16_0)else none)else none) (fun x16=>(.p (0≤s2.2.2.2.2) (.p (s2.2.2.2.2 < (s3.1.length:Int)) (.p (PureAt Tryz.prog 76 [(e27 a0),(.agg [(dI (s3.1.getD s2.2.2.2.2.toNat default).Leaf),(eSl 1 dI (s3.1.getD s2.2.2.2.2.toNat default).Memory)]),(.int .u16 (IntKind.wrap .u16 (s3.2.2.2.2)))] (.tup [(e37 x16.1),(eSl 1 D.str x16.2.1),(dI x16.2.2)])) (.fin 0))))) (by intro x16 h;obtain⟨h1,h⟩:=if_some h;obtain⟨h2,h⟩:=if_some h;obtain⟨r16_0,h3,h⟩:=Option.bind_eq_some_iff.1 h;cases h;exact⟨h1,h2,p76 h3,trivial⟩) (fun x16 _=>(.exi ((T37×(List (List UInt8))×Int)) (if 0≤s2.2.2.2.2 then(if s2.2.2.2.2 < (s3.2.1.length:Int)then((m76 a1 (s3.2.1.getD s2.2.2.2.2.toNat default) (IntKind.wrap .u16 (s3.2.2.2.2))).bind fun r17_0=>some r17_0)else none)else none) (fun x17=>(.p (0≤s2.2.2.2.2) (.p (s2.2.2.2.2 < (s3.2.1.length:Int)) (.p (PureAt Tryz.prog 76 [(e27 a1),(.agg [(dI (s3.2.1.getD s2.2.2.2.2.toNat default).Leaf),(eSl 1 dI (s3.2.1.getD s2.2.2.2.2.toNat default).Memory)]),(.int .u16 (IntKind.wrap .u16 (s3.2.2.2.2)))] (.tup [(e37 x17.1),(eSl 1 D.str x17.2.1),(dI x17.2.2)])) (.fin 0))))) (by intro x17 h;obtain⟨h1,h⟩:=if_some h;obtain⟨h2,h⟩:=if_some h;obtain⟨r17_0,h3,h⟩:=Option.bind_eq_some_iff.1 h;cases h;exact⟨h1,h2,p76 h3,trivial⟩) (fun x17 _=>(.exi (Bool) ((if(!(x16.2.2 != x17.2.2))=true then m41 x16.2.1 x17.2.1 else some default).bind fun r18_0=>some r18_0) (fun x18=>(.g (!(x16.2.2 != x17.2.2)) (PureAt Tryz.prog 41 [(eSl 1 D.str x16.2.1),(eSl 1 D.str x17.2.1)] (.bool x18)) (.fin 0))) (by intro x18 h;obtain⟨r18_0,h1,h⟩:=Option.bind_eq_some_iff.1 h;cases h;exact⟨fun g=>p41 (by rw[if_pos g]at h1;exact h1),trivial⟩) (fun x18 _=>(.ite ((x16.2.2 != x17.2.2) || (!x18)) (.exi ((List Int)) ((m69o0 s3.2.2.1 s3.2.2.2.1 s2.2.2.2.2).bind fun r19_0=>(if(r19_0.length+1) * 2≤140737488355328 then some r19_0 else none)) (fun x19=>(.p (ObjL Tryz.prog 69 [(z34_5 s3),(z34_4 s3),(aI s2.2.2.2.2)] [] 5120 (o34_2 x19)) (.p ((x19.length+1) * 2≤140737488355328) (.fin 0)))) (by intro x19 h;obtain⟨r19_0,h1,h⟩:=Option.bind_eq_some_iff.1 h;obtain⟨h2,h⟩:=if_some h;cases h;exact⟨ok [] [] [] [(5120,176)] (po69o0 h1),h2,trivial⟩) (fun x19 _=>(.ret .ret ⟨[(4,(.ap 1 (x19.length+1) (appF x19.length (cF (D.int .u16) x19) (litF [(.int .u16 (IntKind.wrap .u16 (s3.2.2.2.2)))])) (.tok 5184 42))),(5,(aB false)),(6,(aI 0))],[],[5184,5168,592,624,640,656],5248⟩ (.inr (.inr (.inr (.inr (.inr (.inr (((x19++([(IntKind.wrap .u16 (s3.2.2.2.2))]:List Int)),false,(0:Int))))))))) ⟨rfl,rfl,rfl,rfl,rfl,rfl,rfl,_,Weak.refl _,⟨(de_app dr (de_lit rfl rfl)),dr,dr,trivial⟩⟩))) (.ite (x16.2.2 != 0) (.ret (.exit 3) ⟨(z34_0 s2 s3),(z34_2 a0 a1),[592,624,640,656],5104⟩ (.inr (.inl (s3.1,s3.2.1,s3.2.2.1,s3.2.2.2.1))) ⟨rfl,rfl,(wk (idn [16,32]) (idn [592,624,640,656]))⟩) (.nx (x16.1.Leaf,x16.1.Memory,x17.1.Leaf,x17.1.Memory)))))))))) (fun y4=>(.sc (fun(y6:Bool)=>⟨[(2,(.ptr 16 0)),(3,(.ptr 32 0)),(13,(z34_8 s3)),(14,(z34_6 s3)),(15,(z34_5 s3)),(16,(z34_4 s3)),(17,(aI s2.2.2.2.2)),(18,(aI s3.2.2.2.2)),(19,(.ptr 4608 0)),(22,(.ptr 4864 0)),(25,(aB y6))],(z34_1 a0 a1 y4),[592,624,640,656],5552⟩) (.sq 1 [] [(0,[2,3,13,14,15,16,17,18,19,22,25,113,114],[16,32,4608,4864])] (fun(_:Unit)=>⟨[(2,(.ptr 16 0)),(3,(.ptr 32 0)),(13,(z34_8 s3)),(14,(z34_6 s3)),(15,(z34_5 s3)),(16,(z34_4 s3)),(17,(aI s2.2.2.2.2)),(18,(aI s3.2.2.2.2)),(19,(.ptr 4608 0)),(22,(.ptr 4864 0)),(25,(aB false)),(113,(aI (s3.1.length:Int))),(114,(aI 0))],(z34_1 a0 a1 y4),[592,624,640,656],5168⟩) (.nx ()) (fun _=>(.bk (.lp (fun(s5:Bool×Int)=>⟨[(2,(.ptr 16 0)),(3,(.ptr 32 0)),(13,(z34_8 s3)),(14,(z34_6 s3)),(15,(z34_5 s3)),(16,(z34_4 s3)),(17,(aI s2.2.2.2.2)),(18,(aI s3.2.2.2.2)),(19,(.ptr 4608 0)),(22,(.ptr 4864 0)),(25,(aB s5.1)),(113,(aI (s3.1.length:Int))),(114,(aI s5.2))],(z34_1 a0 a1 y4),[592,624,640,656],5536⟩) (false,(0:Int)) (wk (idn [16,32,4608,4864]) (idn [592,624,640,656])) fun s5=>(.sg [(25,⟨Bool×Bool,fun x=>[(124,(.bool x.1)),(131,(.bool x.2))],fun x=>[],[]⟩)] [(0,[2,3,13,14,15,16,17,18,19,22,25,113,114],[16,32,4608,4864]),(6,[2,3,13,14,15,16,17,18,19,22,25],[16,32,4608,4864])] (.ite (decide (s5.2 < (s3.1.length:Int))) (.exi (Bool×Bool) (if(!s5.1)=true→0≤s5.2 then(if(!s5.1)=true→s5.2 < (s3.1.length:Int)then((if(!s5.1)=true then m17 (s3.1.getD s5.2.toNat default) (⟨y4.1,y4.2.1⟩:T37)else some default).bind fun r25_0=>(if((!s5.1)&&r25_0)=true→0≤s5.2 then(if((!s5.1)&&r25_0)=true→s5.2 < (s3.2.1.length:Int)then((if((!s5.1)&&r25_0)=true then m17 (s3.2.1.getD s5.2.toNat default) (⟨y4.2.2.1,y4.2.2.2⟩:T37)else some default).bind fun r25_1=>some (r25_0,r25_1))else none)else none))else none)else none) (fun x25=>(.g (!s5.1) (0≤s5.2) (.g (!s5.1) (s5.2 < (s3.1.length:Int)) (.g (!s5.1) (PureAt Tryz.prog 17 [(.agg [(dI (s3.1.getD s5.2.toNat default).Leaf),(eSl 1 dI (s3.1.getD s5.2.toNat default).Memory)]),(.agg [(dI y4.1),(eSl 1 dI y4.2.1)])] (.bool x25.1)) (.g ((!s5.1)&&x25.1) (0≤s5.2) (.g ((!s5.1)&&x25.1) (s5.2 < (s3.2.1.length:Int)) (.g ((!s5.1)&&x25.1) (PureAt Tryz.prog 17 [(.agg [(dI (s3.2.1.getD s5.2.toNat default).Leaf),(eSl 1 dI (s3.2.1.getD s5.2.toNat default).Memory)]),(.agg [(dI y4.2.2.1),(eSl 1 dI y4.2.2.2)])] (.bool x25.2)) (.fin 0)))))))) (by intro x25 h;obtain⟨h1,h⟩:=if_some h;obtain⟨h2,h⟩:=if_some h;obtain⟨r25_0,h3,h⟩:=Option.bind_eq_some_iff.1 h;obtain⟨h4,h⟩:=if_some h;obtain⟨h5,h⟩:=if_some h;obtain⟨r25_1,h6,h⟩:=Option.bind_eq_some_iff.1 h;cases h;exact⟨h1,h2,fun g=>p17 (a1:=(⟨y4.1,y4.2.1⟩:T37)) (by rw[if_pos g]at h3;exact h3),h4,h5,fun g=>p17 (a1:=(⟨y4.2.2.1,y4.2.2.2⟩:T37)) (by rw[if_pos g]at h6;exact h6),trivial⟩) (fun x25 _=>(.ret .normal ⟨[(2,(.ptr 16 0)),(3,(.ptr 32 0)),(13,(z34_8 s3)),(14,(z34_6 s3)),(15,(z34_5 s3)),(16,(z34_4 s3)),(17,(aI s2.2.2.2.2)),(18,(aI s3.2.2.2.2)),(19,(.ptr 4608 0)),(22,(.ptr 4864 0)),(25,(aB (s5.1 || (x25.1&&x25.2)))),(113,(aI (s3.1.length:Int))),(114,(aI (IntKind.wrap .i64 (s5.2+1))))],(z34_1 a0 a1 y4),[592,624,640,656],5904⟩ (.inl ((s5.1 || (x25.1&&x25.2)),(IntKind.wrap .i64 (s5.2+1)))) ⟨rfl,(wk (idn [16,32,4608,4864]) (idn [592,624,640,656]))⟩))) (.ret (.exit 4) _ (.inr (.inl s5.1)) ⟨rfl,rfl,Weak.refl _⟩))))))) fun y6=>(.sg [] [(1,[4,5,6],[]),(0,[2,3,13,14,15,16,17,18],[16,32])] (.ite (!y6) (nd ((s3.1.length+1) * 32≤140737488355328) (nd ((s3.2.1.length+1) * 32≤140737488355328) (nd ((s3.2.2.1.length+1) * 8≤140737488355328) (nd ((s3.2.2.2.1.length+1) * 2≤140737488355328) (.ite (decide (400 < (((s3.1.length+1):Nat):Int))) (.ret .ret ⟨[(4,aN),(5,(aB false)),(6,(aI 3))],[],[5888,5872,5792,5776,5712,5696,5632,5616],6016⟩ (.inr (.inr (.inr (.inr (.inr (([],false,(3:Int)))))))) ⟨rfl,rfl,rfl,rfl,rfl,rfl,_,Weak.refl _,⟨de_nil,dr,dr,trivial⟩⟩) (.ret .normal ⟨[(2,(.ptr 16 0)),(3,(.ptr 32 0)),(13,(.ap 2 (s3.1.length+1) (appF s3.1.length (cF e37 s3.1) (litF [(.agg [(dI y4.1),(eSl 1 dI y4.2.1)])])) (.tok 5632 37))),(14,(.ap 2 (s3.2.1.length+1) (appF s3.2.1.length (cF e37 s3.2.1) (litF [(.agg [(dI y4.2.2.1),(eSl 1 dI y4.2.2.2)])])) (.tok 5712 37))),(15,(.ap 1 (s3.2.2.1.length+1) (appF s3.2.2.1.length (cF dI s3.2.2.1) (litF [(dI s2.2.2.2.2)])) (.tok 5792 3))),(16,(.ap 1 (s3.2.2.2.1.length+1) (appF s3.2.2.2.1.length (cF (D.int .u16) s3.2.2.2.1) (litF [(.int .u16 (IntKind.wrap .u16 (s3.2.2.2.2)))])) (.tok 5888 42))),(17,(aI s2.2.2.2.2)),(18,(aI s3.2.2.2.2))],(z34_2 a0 a1),[5888,5872,5792,5776,5712,5696,5632,5616],5968⟩ (.inl ((s3.1++([(⟨y4.1,y4.2.1⟩:T37)]:List T37)),(s3.2.1++([(⟨y4.2.2.1,y4.2.2.2⟩:T37)]:List T37)),(s3.2.2.1++([s2.2.2.2.2]:List Int)),(s3.2.2.2.1++([(IntKind.wrap .u16 (s3.2.2.2.2))]:List Int)))) ⟨rfl,(wh (idn [16,32]) [(592,5632),(624,5712),(640,5792),(656,5888)] ⟨⟨rfl,rfl⟩,⟨rfl,rfl⟩,⟨rfl,rfl,rfl,(de_app dr (de_lit rfl rfl))⟩,⟨rfl,rfl,rfl,(de_app dr (de_lit rfl rfl))⟩,⟨rfl,rfl,rfl,(de_app dr (de_lit rfl rfl))⟩,⟨rfl,rfl,rfl,(de_app dr (de_lit rfl rfl))⟩,dr,dr⟩)⟩)))))) (.ret .normal ⟨(z34_0 s2 s3),(z34_2 a0 a1),[592,624,640,656],5584⟩ (.inl (s3.1,s3.2.1,s3.2.2.1,s3.2.2.2.1)) ⟨rfl,(wk (idn [16,32]) (idn [592,624,640,656]))⟩))))))) fun y7=>(.sg [] [(0,[2,3,13,14,15,16,17,18],[16,32])] (.ret .normal ⟨[(2,(.ptr 16 0)),(3,(.ptr 32 0)),(13,(.ap 2 y7.1.length (cF e37 y7.1) (.tok 592 37))),(14,(.ap 2 y7.2.1.length (cF e37 y7.2.1) (.tok 624 37))),(15,(.ap 1 y7.2.2.1.length (cF dI y7.2.2.1) (.tok 640 3))),(16,(.ap 1 y7.2.2.2.length (cF (D.int .u16) y7.2.2.2) (.tok 656 42))),(17,(aI s2.2.2.2.2)),(18,(aI (IntKind.wrap .i64 (s3.2.2.2.2+1))))],(z34_2 a0 a1),[592,624,640,656],6016⟩ (.inl (y7.1,y7.2.1,y7.2.2.1,y7.2.2.2,(IntKind.wrap .i64 (s3.2.2.2.2+1)))) ⟨rfl,(wk (idn [16,32]) (idn [592,624,640,656]))⟩)))))))))) fun y8=>(.sg [] [(0,[2,3,13,14,15,16,17],[16,32])] (.ret .normal ⟨[(2,(.ptr 16 0)),(3,(.ptr 32 0)),(13,(.ap 2 y8.1.length (cF e37 y8.1) (.tok 592 37))),(14,(.ap 2 y8.2.1.length (cF e37 y8.2.1) (.tok 624 37))),(15,(.ap 1 y8.2.2.1.length (cF dI y8.2.2.1) (.tok 640 3))),(16,(.ap 1 y8.2.2.2.length (cF (D.int .u16) y8.2.2.2) (.tok 656 42))),(17,(aI (IntKind.wrap .i64 (s2.2.2.2.2+1))))],(z34_2 a0 a1),[592,624,640,656],4464⟩ (.inl (y8.1,y8.2.1,y8.2.2.1,y8.2.2.2,(IntKind.wrap .i64 (s2.2.2.2.2+1)))) ⟨rfl,(wk (idn [16,32]) (idn [592,624,640,656]))⟩))))))))) fun _=>(.sg [] [(1,[4,5,6],[])] (.ret .ret ⟨[(4,aN),(5,(aB true)),(6,(aI 0))],[],[],2720⟩ ([],true,(0:Int)) ⟨rfl,_,Weak.refl _,⟨de_nil,dr,dr,trivial⟩⟩)))))
noncomputable def m34 (a0 a1:T27):Option ((List Int)×Bool×Int):=(d34 a0 a1).m
theorem p34 {a0:T27} {a1:T27} {r:(List Int)×Bool×Int} (h:m34 a0 a1=some r):PureAt Tryz.prog 34 [(e27 a0),(e27 a1)] (E34 r):=pure_jd (d34 a0 a1) Tryz.func34 h
noncomputable def d31 (a0 a1:List Int):JF Tryz.prog Tryz.f31 [(eSl 1 (D.int .u16) a0),(eSl 1 (D.int .u16) a1)] (fun(r:Bool)=>(.bool r)) :=
 (.sq 2 [] [(1,[4],[]),(0,[0,1],[])] (fun(_:Unit)=>⟨[(0,(.d (eSl 1 (D.int .u16) a0))),(1,(.d (eSl 1 (D.int .u16) a1)))],[],[],112⟩) (.ite ((a0.length:Int) != (a1.length:Int)) (.ret .ret ⟨[(4,(aB false))],[],[],128⟩ (.inr (false)) ⟨rfl,rfl,_,Weak.refl _,dr⟩) (.nx ())) (fun _=>(.sc (fun(_:Unit)=>⟨[],[],[],400⟩) (.sq 1 [] [(0,[0,1,12,13],[])] (fun(_:Unit)=>⟨[(0,(.d (eSl 1 (D.int .u16) a0))),(1,(.d (eSl 1 (D.int .u16) a1))),(12,(aI (a0.length:Int))),(13,(aI 0))],[],[],160⟩) (.nx ()) (fun _=>(.bk (.lp (fun(s1:Int)=>⟨[(0,(.d (eSl 1 (D.int .u16) a0))),(1,(.d (eSl 1 (D.int .u16) a1))),(12,(aI (a0.length:Int))),(13,(aI s1))],[],[],384⟩) (0:Int) (wk [] []) fun s1=>(.sg [] [(1,[4],[]),(0,[0,1,12,13],[]),(2,[],[])] (.ite (decide (s1 < (a0.length:Int))) (nd (0≤s1) (nd (s1 < (a0.length:Int)) (nd (0≤s1) (nd (s1 < (a1.length:Int)) (.ite ((a0.getD s1.toNat default) != (a1.getD s1.toNat default)) (.ret .ret ⟨[(4,(aB false))],[],[],592⟩ (.inr (.inr (false))) ⟨rfl,rfl,rfl,_,Weak.refl _,dr⟩) (.ret .normal ⟨[(0,(.d (eSl 1 (D.int .u16) a0))),(1,(.d (eSl 1 (D.int .u16) a1))),(12,(aI (a0.length:Int))),(13,(aI (IntKind.wrap .i64 (s1+1))))],[],[],608⟩ (.inl (IntKind.wrap .i64 (s1+1))) ⟨rfl,(wk [] [])⟩)))))) (.ret (.exit 0) _ (.inr (.inl ())) ⟨rfl,rfl,Weak.refl _⟩))))))) fun _=>(.sg [] [(1,[4],[])] (.ret .ret ⟨[(4,(aB true))],[],[],416⟩ true ⟨rfl,_,Weak.refl _,dr⟩)))))
noncomputable def m31 (a0 a1:List Int):Option (Bool):=(d31 a0 a1).m
theorem p31 {a0:List Int} {a1:List Int} {r:Bool} (h:m31 a0 a1=some r):PureAt Tryz.prog 31 [(eSl 1 (D.int .u16) a0),(eSl 1 (D.int .u16) a1)] (.bool r):=pure_jd (d31 a0 a1) Tryz.func31 h
noncomputable def d9 (a0 a1:T27):JF Tryz.prog Tryz.f9 [(e27 a0),(e27 a1)] (fun(r:Bool)=>(.bool r)) :=
 (.sg [(1,tm1 11 D.bool),(3,⟨T27×T27,fun x=>[(14,(e27 x.1)),(16,(e27 x.2))],fun x=>[],[]⟩),(4,tm1 20 (fun(x:((List Int)×Bool×Int))=>(.tup [(eSl 1 (D.int .u16) x.1),(.bool x.2.1),(dI x.2.2)]))),(5,tm1 27 (fun(x:((List Int)×Bool×Int))=>(.tup [(eSl 1 (D.int .u16) x.1),(.bool x.2.1),(dI x.2.2)]))),(6,tm1 33 D.bool)] [(1,[4],[])] (c3 (@p13) fun x1=>(.ite (!x1) (.ret .ret ⟨[(4,(aB false))],[],[],112⟩ false ⟨rfl,_,Weak.refl _,dr⟩) (.exi (T27×T27) ((m14 a0).bind fun r3_0=>((m14 a1).bind fun r3_1=>some (r3_0,r3_1))) (fun x3=>(.p (PureAt Tryz.prog 14 [(e27 a0)] (e27 x3.1)) (.p (PureAt Tryz.prog 14 [(e27 a1)] (e27 x3.2)) (.fin 0)))) (by intro x3 h;obtain⟨r3_0,h1,h⟩:=Option.bind_eq_some_iff.1 h;obtain⟨r3_1,h2,h⟩:=Option.bind_eq_some_iff.1 h;cases h;exact⟨p14 h1,p14 h2,trivial⟩) (fun x3 _=>(c3 (@p33 x3.1 x3.2) fun x4=>(c3 (@p34 x3.1 x3.2) fun x5=>(c3 (@p31 x4.1 x5.1) fun x6=>(.ret .ret ⟨[(4,(aB ((x6&&(x4.2.1==x5.2.1))&&(x4.2.2==x5.2.2))))],[],[],736⟩ ((x6&&(x4.2.1==x5.2.1))&&(x4.2.2==x5.2.2)) ⟨rfl,_,Weak.refl _,dr⟩)))))))))
noncomputable def m9 (a0 a1:T27):Option (Bool):=(d9 a0 a1).m
theorem p9 {a0:T27} {a1:T27} {r:Bool} (h:m9 a0 a1=some r):PureAt Tryz.prog 9 [(e27 a0),(e27 a1)] (.bool r):=pure_jd (d9 a0 a1) Tryz.func9 h
end Go.Av
namespace Go.Av
def firstR {Y:Type} (f:Nat→Option Y) (n:Nat):Option Y:=(List.range n).findSome? f
theorem firstR_succ {Y:Type} {f:Nat→Option Y} {n:Nat}:firstR f (n+1)=match firstR f n with | some y=>some y | none=>f n:=by
 unfold firstR
 rw[List.range_succ,List.findSome?_append]
 cases (List.range n).findSome? f with
 | some y=>rfl
 | none=>simp
theorem firstR_none {Y:Type} {f:Nat→Option Y} {n:Nat}:firstR f n=none↔∀ i,i < n→f i=none:=by
 unfold firstR
 rw[List.findSome?_eq_none_iff]
 exact⟨fun h i hi=>h i (List.mem_range.2 hi),fun h i hi=>h i (List.mem_range.1 hi)⟩
theorem firstR_some {Y:Type} {f:Nat→Option Y} {n:Nat} {y:Y} (h:firstR f n=some y):∃ i,i < n∧f i=some y:=by
 unfold firstR at h
 obtain⟨i,hi,h⟩:=List.exists_of_findSome?_eq_some h
 exact⟨i,List.mem_range.1 hi,h⟩
theorem firstR_at {Y:Type} {f:Nat→Option Y} {n i:Nat} {y:Y} (hi:i < n) (h0:∀ j,j < i→f j=none) (h:f i=some y):firstR f n=some y:=by
 induction n with
 | zero=>omega
 | succ n ih =>
  rw[firstR_succ]
  by_cases hn:i < n
  ·rw[ih hn]
  ·obtain rfl:i=n:=by omega
   rw[firstR_none.2 h0,h]
def anyR (F:Nat→Bool) (n:Nat):Bool:=(List.range n).any F
theorem anyR_iff {F:Nat→Bool} {n:Nat}:anyR F n=true↔∃ i,i < n∧F i=true:=by
 simp only[anyR,List.any_eq_true,List.mem_range]
theorem anyR_false {F:Nat→Bool} {n:Nat}:anyR F n=false↔∀ i,i < n→F i=false:=by
 rw[← Bool.not_eq_true,anyR_iff]
 exact⟨fun h i hi=>by cases hf:F i with | false=>rfl | true=>exact absurd ⟨i,hi,hf⟩ h,fun h ⟨i,hi,hf⟩=>by rw[h i hi]at hf;cases hf⟩
theorem anyR_congr {F G:Nat→Bool} {n:Nat} (h:∀ i,i < n→F i=G i):anyR F n=anyR G n:=by
 rw[Bool.eq_iff_iff,anyR_iff,anyR_iff]
 exact⟨fun⟨i,hi,hf⟩=>⟨i,hi,by rw[← h i hi];exact hf⟩,fun⟨i,hi,hf⟩=>⟨i,hi,by rw[h i hi];exact hf⟩⟩
theorem firstR_any {Y:Type} {F:Nat→Bool} {g:Nat→Y} {n:Nat}:(firstR (fun i=>if F i=true then some (g i)else none) n).isSome=anyR F n:=by
 rw[Bool.eq_iff_iff,anyR_iff,Option.isSome_iff_ne_none,ne_eq,firstR_none]
 constructor
 ·intro h
  apply Classical.byContradiction
  intro hn
  exact h fun i hi=>by
   rw[if_neg]
   exact fun hf=>hn ⟨i,hi,hf⟩
 ·rintro⟨i,hi,hf⟩ h
  have:=h i hi
  rw[if_pos hf]at this;cases this
theorem firstR_const {Y:Type} {F:Nat→Bool} {y:Y} {n:Nat}:firstR (fun i=>if F i=true then some y else none) n=if anyR F n=true then some y else none:=by
 rw[← firstR_any (g:=fun _=>y)]
 cases h:firstR (fun i=>if F i=true then some y else none) n with
 | none=>rfl
 | some z =>
  obtain⟨i,_,h⟩:=firstR_some h
  split at h
  ·injection h with h;subst h;rfl
  ·cases h
def findR (F:Nat→Bool) (n:Nat):Int:=(firstR (fun i=>if F i=true then some (i:Int)else none) n).getD (-1)
theorem findR_any {F:Nat→Bool} {n:Nat}:decide (0≤findR F n)=anyR F n:=by
 rw[← firstR_any (g:=fun i=>(i:Int))]
 unfold findR
 cases h:firstR (fun i=>if F i=true then some (i:Int)else none) n with
 | none=>rfl
 | some y =>
  obtain⟨i,_,h⟩:=firstR_some h
  split at h
  ·injection h with h;subst h;simp
  ·cases h
def orK {R:Type} (o k:Option R):Option R:=match o with
 | some y=>some y
 | none=>k
theorem orK_some {R:Type} {y:R} {k:Option R}:orK (some y) k=some y:=rfl
theorem orK_none {R:Type} {k:Option R}:orK none k=k:=rfl
theorem orK_ite {R:Type} {p:Prop} [Decidable p] {a b k:Option R}:orK (if p then a else b) k=if p then orK a k else orK b k:=by split<;>rfl
theorem orK_getD {R:Type} {a:Option R} {d:R}:orK a (some d)=some (a.getD d):=by cases a<;>rfl
theorem orK_total {R:Type} {o k:Option R} (h:∃ y,k=some y):∃ y,orK o k=some y:=by
 cases o with
 | some y=>exact⟨y,rfl⟩
 | none=>exact h
theorem ite_total {R:Type} {p:Prop} [Decidable p] {y:R} {k:Option R} (h:∃ y,k=some y):∃ z,(if p then some y else k)=some z:=by
 split
 ·exact⟨y,rfl⟩
 ·exact h
def exB {S R:Type} (o:Option R) (s:S):Option (S⊕(Unit⊕R)):=match o with
 | some y=>some (.inr (.inr y))
 | none=>some (.inl s)
theorem exB_some {S R:Type} {y:R} {s:S}:exB (some y) s=some (.inr (.inr y)):=rfl
theorem exB_none {S R:Type} {s:S}:exB (none:Option R) s=some (.inl s):=rfl
theorem exB_ite {S R:Type} {p:Prop} [Decidable p] {a b:Option R} {s:S}:exB (if p then a else b) s=if p then exB a s else exB b s:=by split<;>rfl
theorem some_ite {α:Type} {p:Prop} [Decidable p] {a b:α}:some (if p then a else b)=if p then some a else some b:=by split<;>rfl
theorem loop_ex_from {R:Type} {b:Int→Option (Int⊕(Unit⊕R))} (n:Nat) (f:Nat→Option R) (hb:∀ i:Nat,i < n→b i=exB (f i) ((i:Int)+1)) (hd:b n=some (.inr (.inl ()))) :
  ∀ (k i0:Nat),i0+k=n→(∀ i,i < i0→f i=none)→loopO b i0=match firstR f n with | some y=>some (.inr y) | none=>some (.inl ())
 | 0,i0,hk,h0=>by
  obtain rfl:i0=n:=by omega
  rw[loopO_eq,hd,firstR_none.2 h0];rfl
 | k+1,i0,hk,h0=>by
  rw[loopO_eq,hb i0 (by omega)]
  cases hf:f i0 with
  | some y=>rw[firstR_at (by omega) h0 hf];rfl
  | none =>
   have:=loop_ex_from n f hb hd k (i0+1) (by omega) (fun i hi=>by
    by_cases h:i < i0
    ·exact h0 i h
    ·obtain rfl:i=i0:=by omega
     exact hf)
   rw[exB_none]
   simpa using this
theorem loop_ex {R:Type} {b:Int→Option (Int⊕(Unit⊕R))} {k:Unit→Option R} (n:Nat) (f:Nat→Option R) (hb:∀ i:Nat,i < n→b i=exB (f i) ((i:Int)+1)) (hd:b n=some (.inr (.inl ()))) :
  (loopO b 0).bind (onS k)=orK (firstR f n) (k ()):=by
 have:=loop_ex_from n f hb hd n 0 (by omega) (fun i hi=>by omega)
 rw[show ((0:Nat):Int)=0 from rfl]at this
 rw[this]
 cases firstR f n<;>rfl
theorem loop_ex0 {R:Type} {b:Int→Option (Int⊕(Unit⊕R))} (n:Nat) (f:Nat→Option R) (hb:∀ i:Nat,i < n→b i=exB (f i) ((i:Int)+1)) (hd:b n=some (.inr (.inl ()))) :
  loopO b 0=match firstR f n with | some y=>some (.inr y) | none=>some (.inl ()):=loop_ex_from n f hb hd n 0 (by omega) (fun i hi=>by omega)
theorem loop_or {R:Type} {b:Int→Option (Int⊕(Unit⊕R))} {k:Unit→Option R} (n:Nat) (f:Nat→Option R) (hb:∀ i:Nat,i < n→b i=exB (f i) ((i:Int)+1)) (hd:b n=some (.inr (.inl ()))) {z:Option R} (hk:k ()=z) :
  (loopO b 0).bind (onS k)=orK (firstR f n) z:=by rw[loop_ex n f hb hd,hk]
theorem loop_pass {R:Type} {b:Int→Option (Int⊕(Unit⊕R))} {k:Unit→Option R} (n:Nat) (hb:∀ i:Nat,i < n→b i=some (.inl ((i:Int)+1))) (hd:b n=some (.inr (.inl ()))) {z:Option R} (hk:k ()=z) :
  (loopO b 0).bind (onS k)=z:=by
 rw[loop_or n (fun _=>none) hb hd hk,firstR_none.2 fun _ _=>rfl];rfl
theorem ite_else {α:Type} {p:Prop} [Decidable p] {a b b':α} (h:b=b'):(if p then a else b)=if p then a else b':=by rw[h]
theorem bind_to {α β:Type} {m:Option α} {x:α} {f:α→Option β} {z:Option β} (h:m=some x) (hf:f x=z):m.bind f=z:=by rw[h];exact hf
theorem bind_eq {α β:Type} {m m':Option α} {f:α→Option β} {z:Option β} (h:m=m') (h2:m'.bind f=z):m.bind f=z:=by rw[h];exact h2
theorem on_l {Y R:Type} {m:Option (Y⊕R)} {y:Y} {f:Y→Option R} {z:Option R} (h:m=some (.inl y)) (hf:f y=z):m.bind (onS f)=z:=by rw[h];exact hf
theorem flatMap_app {A:Type} (g:Nat→List A) (n:Nat):(List.range (n+1)).flatMap g=(List.range n).flatMap g++g n:=by rw[List.range_succ,List.flatMap_append];simp
theorem loop_coll {A St X:Type} {b:St→Option (St⊕X)} (n:Nat) (mk:Nat→List A→St) (g:Nat→List A) (out:List A→X)
  (hs:∀ i,i < n→b (mk i ((List.range i).flatMap g))=some (.inl (mk (i+1) ((List.range i).flatMap g++g i)))) (he:b (mk n ((List.range n).flatMap g))=some (.inr (out ((List.range n).flatMap g)))) :
  loopO b (mk 0 [])=some (out ((List.range n).flatMap g)):=by
 have key:∀ k i,i+k=n→loopO b (mk i ((List.range i).flatMap g))=some (out ((List.range n).flatMap g)):=by
  intro k
  induction k with
  | zero =>
   intro i hk
   obtain rfl:i=n:=by omega
   rw[loopO_eq,he];rfl
  | succ k ih =>
   intro i hk
   rw[loopO_eq,hs i (by omega),← flatMap_app]
   exact ih (i+1) (by omega)
 exact key n 0 (by omega)
theorem flatMap_len {A:Type} {g:Nat→List A} {m:Nat} (h:∀ i,(g i).length≤m):∀ n,((List.range n).flatMap g).length≤n * m
 | 0=>by simp
 | n+1=>by
  have:=flatMap_len h n
  have:=h n
  rw[flatMap_app,List.length_append,Nat.succ_mul];omega
theorem wr1 {i n:Nat} (h:i < n) (hn:n≤4611686018427387904):IntKind.wrap .i64 ((i:Int)+1)=(i:Int)+1:=w64 (by omega) (by omega)
theorem lt_irr {n:Nat}:¬ ((n:Int) < (n:Int)):=Int.lt_irrefl _
theorem subL_getD {α:Type} [Inhabited α] {l:List α} {k j:Nat} (h:j < k):(subL l 0 k).getD j default=l.getD j default:=by
 simp[subL,List.getD_eq_getElem?_getD,List.getElem?_range h]
theorem inL {i:Nat} {n:Nat} (h:i < n):((0:Int)≤(i:Int))=True∧((i:Int) < (n:Int))=True∧(decide ((i:Int) < (n:Int))=true)=True:=by
 refine⟨eq_true (by omega),eq_true (by omega),eq_true (by simpa using h)⟩
end Go.Av
set_option maxRecDepth 100000
namespace Go.Av.Ch
def odd1 (c:Int):Bool:=(decide (c < 65) || decide (90 < c))&&(decide (c < 48) || decide (57 < c))
def nm0 (s:List UInt8):Bool:=decide (s.length=0) || decide (8 < s.length) || decide (byteAt s 0 < 65) || decide (90 < byteAt s 0)
def nm (s:List UInt8):Bool:=!nm0 s&&!anyR (fun i=>odd1 (byteAt s i)) s.length
theorem nm_loop {s:List UInt8} (hl:s.length≤8) {b:Int→Option (Int⊕(Unit⊕Bool))} (hb:∀ i:Nat,i < s.length→b i=exB (if odd1 (byteAt s i)=true then some false else none) ((i:Int)+1)) (hd:b s.length=some (.inr (.inl ()))) :
  (loopO b 0).bind (onS fun _=>some true)=some (!anyR (fun i=>odd1 (byteAt s i)) s.length):=by
 rw[loop_ex s.length _ hb hd,firstR_const]
 cases anyR (fun i=>odd1 (byteAt s i)) s.length<;>rfl
theorem nm_rname (s:List UInt8):m130 s 8=some (nm s):=by
 have e0:(((s.length:Int)==(0:Int)) || (decide ((8:Int) < (s.length:Int))))=(decide (s.length=0) || decide (8 < s.length)):=by
  rw[Bool.eq_iff_iff];simp only[Bool.or_eq_true,decide_eq_true_eq,beq_iff_eq];omega
 delta m130 d130
 simp only[↓JD.sg_m,↓JD.sq_m,↓JD.sc_m,↓JD.bk_m,↓JD.lp_m,↓JD.cd_m,↓JD.lu_m,↓JD.ct_m,↓JD.ce_m,↓JL.r_m,↓JL.z_m,↓JD.se_m,onE_r,↓Tr.run,↓Tr.run_nd,↓Tr.run_c3,↓Tr.run_c2,↓Tr.run_nx,↓onS,bind_ite,Option.bind_some,Option.bind_none,obR,e0,Int.toNat_zero,Int.le_refl,implies_true,if_true]
 cases h1:(decide (s.length=0) || decide (8 < s.length)) with
 | true=>simp only[Bool.true_or,Bool.not_true,Bool.false_eq_true,false_implies,if_true,nm,nm0,h1,Bool.false_and]
 | false =>
  have hl:s.length≤8∧0 < s.length:=by simp only[Bool.or_eq_false_iff,decide_eq_false_iff_not]at h1;omega
  have z2:(0:Int) < s.length:=by omega
  simp only[Bool.false_or,z2,implies_true,if_true,nm,nm0,h1]
  cases h2:(decide (byteAt s 0 < 65) || decide (90 < byteAt s 0)) with
  | true=>rfl
  | false =>
   simp only[Bool.false_eq_true,if_false,Bool.not_false,Bool.true_and]
   refine nm_loop hl.1 (fun i hi=>?_) ?_
   ·(simp only[exB_ite,exB_some,exB_none];simp only[inL hi,decide_true,Int.toNat_natCast,if_true,implies_true,wr1 hi (by omega)];try rfl)
   ·(simp only[lt_irr,decide_false,Bool.false_eq_true,if_false];try rfl)
theorem nm_r8name (s:List UInt8):m116 s 8=some (nm s):=by
 have e0:(decide ((s.length:Int) < (1:Int)) || (decide ((8:Int) < (s.length:Int))))=(decide (s.length=0) || decide (8 < s.length)):=by
  rw[Bool.eq_iff_iff];simp only[Bool.or_eq_true,decide_eq_true_eq];omega
 delta m116 d116
 simp only[↓JD.sg_m,↓JD.sq_m,↓JD.sc_m,↓JD.bk_m,↓JD.lp_m,↓JD.cd_m,↓JD.lu_m,↓JD.ct_m,↓JD.ce_m,↓JL.r_m,↓JL.z_m,↓JD.se_m,onE_r,↓Tr.run,↓Tr.run_nd,↓Tr.run_c3,↓Tr.run_c2,↓Tr.run_nx,↓onS,bind_ite,Option.bind_some,Option.bind_none,obR,e0,Int.toNat_zero,Int.le_refl,implies_true,if_true]
 cases h1:(decide (s.length=0) || decide (8 < s.length)) with
 | true=>simp only[Bool.true_or,Bool.not_true,Bool.false_eq_true,false_implies,if_true,nm,nm0,h1,Bool.false_and]
 | false =>
  have hl:s.length≤8∧0 < s.length:=by simp only[Bool.or_eq_false_iff,decide_eq_false_iff_not]at h1;omega
  have z2:(0:Int) < s.length:=by omega
  simp only[Bool.false_or,z2,implies_true,if_true,nm,nm0,h1]
  cases h2:(decide (byteAt s 0 < 65) || decide (90 < byteAt s 0)) with
  | true=>rfl
  | false =>
   simp only[Bool.false_eq_true,if_false,Bool.not_false,Bool.true_and]
   refine nm_loop hl.1 (fun i hi=>?_) ?_
   ·(simp only[exB_ite,exB_some,exB_none];simp only[inL hi,decide_true,Int.toNat_natCast,if_true,implies_true,wr1 hi (by omega)];try rfl)
   ·(simp only[lt_irr,decide_false,Bool.false_eq_true,if_false];try rfl)
theorem nm_name (s:List UInt8):m85 s=some (nm s):=by
 delta m85 d85
 simp only[↓JD.sg_m,↓JD.sq_m,↓JD.sc_m,↓JD.bk_m,↓JD.lp_m,↓JD.cd_m,↓JD.lu_m,↓JD.ct_m,↓JD.ce_m,↓JL.r_m,↓JL.z_m,↓JD.se_m,onE_r,↓Tr.run,↓Tr.run_nd,↓Tr.run_c3,↓Tr.run_c2,↓Tr.run_nx,↓onS,bind_ite,Option.bind_some,Option.bind_none,obR,nm_rname]
def hasK {α:Type} [BEq α] [Inhabited α] (l:List α) (k:Nat) (x:α):Bool:=anyR (fun i=>x==l.getD i default) k
theorem hasK_sub {α:Type} [BEq α] [Inhabited α] {l:List α} {k:Nat} {x:α}:hasK (subL l 0 k) k x=hasK l k x:=anyR_congr fun i hi=>by rw[subL_getD hi]
theorem hasK_iff {α:Type} [BEq α] [LawfulBEq α] [Inhabited α] {l:List α} {x:α}:hasK l l.length x=true↔x∈l:=by
 unfold hasK
 rw[anyR_iff]
 constructor
 ·rintro⟨i,hi,h⟩
  rw[eq_of_beq h];exact getD_mem hi
 ·intro h
  obtain⟨i,hi,h⟩:=List.getElem_of_mem h
  exact⟨i,hi,by simp[List.getD_eq_getElem?_getD,List.getElem?_eq_getElem hi,h]⟩
theorem idx_loop {n:Nat} {F:Nat→Bool} {b:Int→Option (Int⊕(Unit⊕Int))} (hb:∀ i:Nat,i < n→b i=exB (if F i=true then some (i:Int)else none) ((i:Int)+1)) (hd:b n=some (.inr (.inl ()))) :
  (loopO b 0).bind (onS fun _=>some (-1))=some (findR F n):=by
 rw[loop_ex n _ hb hd,orK_getD];rfl
theorem containsS_eq (l:List (List UInt8)) (x:List UInt8) (hl:l.length≤100000):m131 l x=some (hasK l l.length x):=by
 have e:m162 l x=some (findR (fun i=>x==l.getD i default) l.length):=by
  delta m162 d162
  simp only[↓JD.sg_m,↓JD.sq_m,↓JD.sc_m,↓JD.bk_m,↓JD.lp_m,↓JD.cd_m,↓JD.lu_m,↓JD.ct_m,↓JD.ce_m,↓JL.r_m,↓JL.z_m,↓JD.se_m,onE_r,↓Tr.run,↓Tr.run_nd,↓Tr.run_c3,↓Tr.run_c2,↓Tr.run_nx,↓onS,bind_ite,Option.bind_some,Option.bind_none,obR]
  refine idx_loop (fun i hi=>?_) ?_
  ·(simp only[exB_ite,exB_some,exB_none];simp only[inL hi,decide_true,Int.toNat_natCast,if_true,implies_true,wr1 hi (by omega)];try rfl)
  ·(simp only[lt_irr,decide_false,Bool.false_eq_true,if_false];try rfl)
 delta m131 d131
 simp only[↓JD.sg_m,↓JD.sq_m,↓JD.sc_m,↓JD.bk_m,↓JD.lp_m,↓JD.cd_m,↓JD.lu_m,↓JD.ct_m,↓JD.ce_m,↓JL.r_m,↓JL.z_m,↓JD.se_m,onE_r,↓Tr.run,↓Tr.run_nd,↓Tr.run_c3,↓Tr.run_c2,↓Tr.run_nx,↓onS,bind_ite,Option.bind_some,Option.bind_none,obR,e,findR_any,hasK]
theorem indexI_eq (l:List Int) (x:Int) (hl:l.length≤100000):m101 l x=some (findR (fun i=>x==l.getD i default) l.length):=by
 delta m101 d101
 simp only[↓JD.sg_m,↓JD.sq_m,↓JD.sc_m,↓JD.bk_m,↓JD.lp_m,↓JD.cd_m,↓JD.lu_m,↓JD.ct_m,↓JD.ce_m,↓JL.r_m,↓JL.z_m,↓JD.se_m,onE_r,↓Tr.run,↓Tr.run_nd,↓Tr.run_c3,↓Tr.run_c2,↓Tr.run_nx,↓onS,bind_ite,Option.bind_some,Option.bind_none,obR]
 refine idx_loop (fun i hi=>?_) ?_
 ·(simp only[exB_ite,exB_some,exB_none];simp only[inL hi,decide_true,Int.toNat_natCast,if_true,implies_true,wr1 hi (by omega)];try rfl)
 ·(simp only[lt_irr,decide_false,Bool.false_eq_true,if_false];try rfl)
theorem containsI_eq (l:List Int) (x:Int) (hl:l.length≤100000):m49 l x=some (hasK l l.length x):=by
 delta m49 d49
 simp only[↓JD.sg_m,↓JD.sq_m,↓JD.sc_m,↓JD.bk_m,↓JD.lp_m,↓JD.cd_m,↓JD.lu_m,↓JD.ct_m,↓JD.ce_m,↓JL.r_m,↓JL.z_m,↓JD.se_m,onE_r,↓Tr.run,↓Tr.run_nd,↓Tr.run_c3,↓Tr.run_c2,↓Tr.run_nx,↓onS,bind_ite,Option.bind_some,Option.bind_none,obR,indexI_eq l x hl,findR_any,hasK]
theorem on_eq (l:List Int) (x:Int) (hl:l.length≤100000):m129 l x=some (hasK l l.length x):=by
 delta m129 d129
 simp only[↓JD.sg_m,↓JD.sq_m,↓JD.sc_m,↓JD.bk_m,↓JD.lp_m,↓JD.cd_m,↓JD.lu_m,↓JD.ct_m,↓JD.ce_m,↓JL.r_m,↓JL.z_m,↓JD.se_m,onE_r,↓Tr.run,↓Tr.run_nd,↓Tr.run_c3,↓Tr.run_c2,↓Tr.run_nx,↓onS,bind_ite,Option.bind_some,Option.bind_none,obR]
 rw[loop_ex l.length (fun i=>if(x==l.getD i default)=true then some true else none) ?_ ?_,firstR_const,hasK]
 ·cases anyR (fun i=>x==l.getD i default) l.length<;>rfl
 ·intro i hi
  (simp only[exB_ite,exB_some,exB_none];simp only[inL hi,decide_true,Int.toNat_natCast,if_true,implies_true,wr1 hi (by omega)];try rfl)
 ·(simp only[lt_irr,decide_false,Bool.false_eq_true,if_false];try rfl)
def listedS (l:List (List UInt8)) (i:Nat):Int:=if(!nm (l.getD i default))=true then 5 else if hasK l i (l.getD i default)=true then 7 else 0
theorem listed_eq (l:List (List UInt8)) (i:Nat) (hi:i < l.length) (hl:l.length≤100000):m86 l i=some (listedS l i):=by
 have e:=containsS_eq (subL l 0 i) (l.getD i default) (by rw[subL_len];omega)
 rw[subL_len,hasK_sub]at e
 delta m86 d86
 simp only[↓JD.sg_m,↓JD.sq_m,↓JD.sc_m,↓JD.bk_m,↓JD.lp_m,↓JD.cd_m,↓JD.lu_m,↓JD.ct_m,↓JD.ce_m,↓JL.r_m,↓JL.z_m,↓JD.se_m,onE_r,↓Tr.run,↓Tr.run_nd,↓Tr.run_c3,↓Tr.run_c2,↓Tr.run_nx,↓onS,bind_ite,Option.bind_some,Option.bind_none,obR,inL hi,Int.toNat_natCast,if_true,nm_name,e,listedS,some_ite,show (i:Int)≤l.length by omega]
def litF (c:T27) (l:List T116) (i:Nat):Option Int :=
 if(decide ((l.getD i default).Cond < 0) || decide ((c.Conds.length:Int)≤(l.getD i default).Cond))=true then some 2
 else if(decide ((0:Int) < (i:Int))&&decide ((l.getD i default).Cond≤(l.getD ((i:Int) - 1).toNat default).Cond))=true then some 9 else none
def litS (c:T27) (l:List T116):Int:=(firstR (litF c l) l.length).getD 0
theorem literals_eq (c:T27) (l:List T116) (hl:l.length≤100000):m87 c l=some (litS c l):=by
 delta m87 d87
 simp only[↓JD.sg_m,↓JD.sq_m,↓JD.sc_m,↓JD.bk_m,↓JD.lp_m,↓JD.cd_m,↓JD.lu_m,↓JD.ct_m,↓JD.ce_m,↓JL.r_m,↓JL.z_m,↓JD.se_m,onE_r,↓Tr.run,↓Tr.run_nd,↓Tr.run_c3,↓Tr.run_c2,↓Tr.run_nx,↓onS,bind_ite,Option.bind_some,Option.bind_none,obR]
 rw[loop_ex l.length (litF c l) ?_ ?_,orK_getD];rfl
 ·intro i hi
  have w1:IntKind.wrap .i64 ((i:Int) - 1)=(i:Int) - 1:=w64 (by omega) (by omega)
  have h3:=eq_true (show decide ((0:Int) < i)=true→(0:Int)≤(i:Int) - 1 from fun h=>by simp only[decide_eq_true_eq]at h;omega)
  have h4:=eq_true (show decide ((0:Int) < i)=true→(i:Int) - 1 < l.length from fun h=>by omega)
  unfold litF
  (simp only[exB_ite,exB_some,exB_none];simp only[w1,h3,h4,inL hi,decide_true,Int.toNat_natCast,if_true,implies_true,wr1 hi (by omega)];try rfl)
 ·(simp only[lt_irr,decide_false,Bool.false_eq_true,if_false];try rfl)
theorem rliterals_eq (c:T27) (l:List T116) (hl:l.length≤100000):m117 c l=some (litS c l):=by
 delta m117 d117
 simp only[↓JD.sg_m,↓JD.sq_m,↓JD.sc_m,↓JD.bk_m,↓JD.lp_m,↓JD.cd_m,↓JD.lu_m,↓JD.ct_m,↓JD.ce_m,↓JL.r_m,↓JL.z_m,↓JD.se_m,onE_r,↓Tr.run,↓Tr.run_nd,↓Tr.run_c3,↓Tr.run_c2,↓Tr.run_nx,↓onS,bind_ite,Option.bind_some,Option.bind_none,obR]
 rw[loop_ex l.length (litF c l) ?_ ?_,orK_getD];rfl
 ·intro i hi
  have w1:IntKind.wrap .i64 ((i:Int) - 1)=(i:Int) - 1:=w64 (by omega) (by omega)
  have h3:=eq_true (show decide ((0:Int) < i)=true→(0:Int)≤(i:Int) - 1 from fun h=>by simp only[decide_eq_true_eq]at h;omega)
  have h4:=eq_true (show decide ((0:Int) < i)=true→(i:Int) - 1 < l.length from fun h=>by omega)
  unfold litF
  (simp only[exB_ite,exB_some,exB_none];simp only[w1,h3,h4,inL hi,decide_true,Int.toNat_natCast,if_true,implies_true,wr1 hi (by omega)];try rfl)
 ·(simp only[lt_irr,decide_false,Bool.false_eq_true,if_false];try rfl)
def actS (l:List (List UInt8)):Int:=if decide ((8:Int) < (l.length:Int))=true then 3 else if anyR (fun i=>!nm (l.getD i default)) l.length=true then 5 else 0
theorem actS_len {l:List (List UInt8)} (h:actS l=0):l.length≤8:=by
 unfold actS at h
 split at h
 ·cases h
 ·rename_i h1;simp only[decide_eq_true_eq]at h1;omega
theorem actions_eq (l:List (List UInt8)) (hl:l.length≤100000):m90 l=some (actS l):=by
 have e:m163o0 l=some (findR (fun i=>!nm (l.getD i default)) l.length):=by
  delta m163o0 d163o0
  simp only[↓JD.sg_m,↓JD.sq_m,↓JD.sc_m,↓JD.bk_m,↓JD.lp_m,↓JD.cd_m,↓JD.lu_m,↓JD.ct_m,↓JD.ce_m,↓JL.r_m,↓JL.z_m,↓JD.se_m,onE_r,↓Tr.run,↓Tr.run_nd,↓Tr.run_c3,↓Tr.run_c2,↓Tr.run_nx,↓onS,bind_ite,Option.bind_some,Option.bind_none,obR,m133o0,d133o0,nm_name]
  refine idx_loop (fun i hi=>?_) ?_
  ·(simp only[exB_ite,exB_some,exB_none];simp only[inL hi,decide_true,Int.toNat_natCast,if_true,implies_true,wr1 hi (by omega)];try rfl)
  ·(simp only[lt_irr,decide_false,Bool.false_eq_true,if_false];try rfl)
 delta m90 d90
 simp only[↓JD.sg_m,↓JD.sq_m,↓JD.sc_m,↓JD.bk_m,↓JD.lp_m,↓JD.cd_m,↓JD.lu_m,↓JD.ct_m,↓JD.ce_m,↓JL.r_m,↓JL.z_m,↓JD.se_m,onE_r,↓Tr.run,↓Tr.run_nd,↓Tr.run_c3,↓Tr.run_c2,↓Tr.run_nx,↓onS,bind_ite,Option.bind_some,Option.bind_none,obR,m132o0,d132o0,e,findR_any,actS,some_ite]
theorem ractions_eq (l:List (List UInt8)) (hl:l.length≤100000):m119 l=some (actS l):=by
 delta m119 d119
 simp only[↓JD.sg_m,↓JD.sq_m,↓JD.sc_m,↓JD.bk_m,↓JD.lp_m,↓JD.cd_m,↓JD.lu_m,↓JD.ct_m,↓JD.ce_m,↓JL.r_m,↓JL.z_m,↓JD.se_m,onE_r,↓Tr.run,↓Tr.run_nd,↓Tr.run_c3,↓Tr.run_c2,↓Tr.run_nx,↓onS,bind_ite,Option.bind_some,Option.bind_none,obR,nm_r8name]
 rw[loop_ex l.length (fun i=>if(!nm (l.getD i default))=true then some 5 else none) ?_ ?_,firstR_const]
 ·simp only[orK_ite,orK_some,orK_none,actS,some_ite]
 ·intro i hi
  (simp only[exB_ite,exB_some,exB_none];simp only[inL hi,decide_true,Int.toNat_natCast,if_true,implies_true,wr1 hi (by omega)];try rfl)
 ·(simp only[lt_irr,decide_false,Bool.false_eq_true,if_false];try rfl)
def comp (c:T27) (x:Int):Bool:=anyR (fun i=>(c.States.getD i default).Parent==x) c.States.length
theorem composite_eq (c:T27) (x:Int) (hl:c.States.length≤100000):m103 c x=some (comp c x):=by
 have e:m175o0 c.States x=some (findR (fun i=>(c.States.getD i default).Parent==x) c.States.length):=by
  delta m175o0 d175o0
  simp only[↓JD.sg_m,↓JD.sq_m,↓JD.sc_m,↓JD.bk_m,↓JD.lp_m,↓JD.cd_m,↓JD.lu_m,↓JD.ct_m,↓JD.ce_m,↓JL.r_m,↓JL.z_m,↓JD.se_m,onE_r,↓Tr.run,↓Tr.run_nd,↓Tr.run_c3,↓Tr.run_c2,↓Tr.run_nx,↓onS,bind_ite,Option.bind_some,Option.bind_none,obR,m154o0,d154o0]
  refine idx_loop (fun i hi=>?_) ?_
  ·(simp only[exB_ite,exB_some,exB_none];simp only[inL hi,decide_true,Int.toNat_natCast,if_true,implies_true,wr1 hi (by omega)];try rfl)
  ·(simp only[lt_irr,decide_false,Bool.false_eq_true,if_false];try rfl)
 delta m103 d103
 simp only[↓JD.sg_m,↓JD.sq_m,↓JD.sc_m,↓JD.bk_m,↓JD.lp_m,↓JD.cd_m,↓JD.lu_m,↓JD.ct_m,↓JD.ce_m,↓JL.r_m,↓JL.z_m,↓JD.se_m,onE_r,↓Tr.run,↓Tr.run_nd,↓Tr.run_c3,↓Tr.run_c2,↓Tr.run_nx,↓onS,bind_ite,Option.bind_some,Option.bind_none,obR,m153o0,d153o0,e,findR_any,comp]
theorem rcomposite_eq (c:T27) (x:Int) (hl:c.States.length≤100000):m105 c x=some (comp c x):=by
 delta m105 d105
 simp only[↓JD.sg_m,↓JD.sq_m,↓JD.sc_m,↓JD.bk_m,↓JD.lp_m,↓JD.cd_m,↓JD.lu_m,↓JD.ct_m,↓JD.ce_m,↓JL.r_m,↓JL.z_m,↓JD.se_m,onE_r,↓Tr.run,↓Tr.run_nd,↓Tr.run_c3,↓Tr.run_c2,↓Tr.run_nx,↓onS,bind_ite,Option.bind_some,Option.bind_none,obR]
 rw[loop_ex c.States.length (fun i=>if((c.States.getD i default).Parent==x)=true then some true else none) ?_ ?_,firstR_const,comp]
 ·cases anyR (fun i=>(c.States.getD i default).Parent==x) c.States.length<;>rfl
 ·intro i hi
  (simp only[exB_ite,exB_some,exB_none];simp only[inL hi,decide_true,Int.toNat_natCast,if_true,implies_true,wr1 hi (by omega)];try rfl)
 ·(simp only[lt_irr,decide_false,Bool.false_eq_true,if_false];try rfl)
def isS (c:T27) (x:Int):Bool:=decide ((0:Int)≤x)&&decide (x < (c.States.length:Int))
theorem is_eq (c:T27) (x:Int):m89 c x=some (isS c x):=rfl
theorem isS_iff {c:T27} {x:Int}:isS c x=true↔0≤x∧x < c.States.length:=by simp[isS]
def childS (c:T27) (x y:Int):Bool:=isS c x&&((c.States.getD x.toNat default).Parent==y)
theorem rchild_eq (c:T27) (x y:Int):m159 c x y=some (childS c x y):=by
 have h1:=eq_true (show (decide ((0:Int)≤x)&&decide (x < (c.States.length:Int)))=true→(0:Int)≤x from fun h=>(isS_iff (c:=c).1 h).1)
 have h2:=eq_true (show (decide ((0:Int)≤x)&&decide (x < (c.States.length:Int)))=true→x < (c.States.length:Int) from fun h=>(isS_iff (c:=c).1 h).2)
 delta m159 d159
 simp only[↓JD.sg_m,↓JD.sq_m,↓JD.sc_m,↓JD.bk_m,↓JD.lp_m,↓JD.cd_m,↓JD.lu_m,↓JD.ct_m,↓JD.ce_m,↓JL.r_m,↓JL.z_m,↓JD.se_m,onE_r,↓Tr.run,↓Tr.run_nd,↓Tr.run_c3,↓Tr.run_c2,↓Tr.run_nx,↓onS,bind_ite,Option.bind_some,Option.bind_none,obR,h1,h2,if_true,childS,isS]
end Go.Av.Ch
set_option maxRecDepth 100000
namespace Go.Av.Ch
structure Fit (c:T27):Prop where
 conds:c.Conds.length≤1000
 never:c.Never.length≤1000
 lits:∀ l∈c.Never,l.length≤1000
 states:c.States.length≤1000
 entry:∀ s∈c.States,s.Entry.length≤1000
 exit_:∀ s∈c.States,s.Exit.length≤1000
 trans:c.Transitions.length≤1000
 when_:∀ t∈c.Transitions,t.When.length≤1000
 acts:∀ t∈c.Transitions,t.Actions.length≤1000
def namesS (c:T27):List (List UInt8):=(List.range c.States.length).flatMap fun i=>[(c.States.getD i default).Name]
theorem namesS_map (c:T27):namesS c=(List.range c.States.length).map fun i=>(c.States.getD i default).Name:=(List.map_eq_flatMap ..).symm
theorem namesS_len (c:T27):(namesS c).length=c.States.length:=by rw[namesS_map];simp
theorem namesS_getD (c:T27) {i:Nat} (h:i < c.States.length):(namesS c).getD i default=(c.States.getD i default).Name:=by
 rw[namesS_map,List.getD_eq_getElem?_getD,List.getElem?_map,List.getElem?_range h];rfl
def stateT (c:T27) (i:Nat):Int :=
 if(decide ((c.States.getD i default).Parent < (-1:Int)) || decide ((i:Int)≤(c.States.getD i default).Parent))=true then 9
 else if((comp c i&&!childS c (c.States.getD i default).Initial i) || (!comp c i&&((c.States.getD i default).Initial != (-1:Int))))=true then 2
 else if(!comp c i&&(c.States.getD i default).History)=true then 17
 else if(actS (c.States.getD i default).Entry != 0)=true then actS (c.States.getD i default).Entry
 else actS (c.States.getD i default).Exit
def stateS (c:T27) (i:Nat):Int:=if(listedS (namesS c) i != 0)=true then listedS (namesS c) i else stateT c i
theorem state_eq (c:T27) (H:Fit c) (i:Nat) (hi:i < c.States.length):m88 c (namesS c) i=some (stateS c i):=by
 have hs:=H.states
 have he:=H.entry _ (getD_mem hi)
 have hx:=H.exit_ _ (getD_mem hi)
 have e1:=listed_eq (namesS c) i (by rw[namesS_len];exact hi) (by rw[namesS_len];omega)
 delta m88 d88
 simp only[↓JD.sg_m,↓JD.sq_m,↓JD.sc_m,↓JD.bk_m,↓JD.lp_m,↓JD.cd_m,↓JD.lu_m,↓JD.ct_m,↓JD.ce_m,↓JL.r_m,↓JL.z_m,↓JD.se_m,onE_r,↓Tr.run,↓Tr.run_nd,↓Tr.run_c3,↓Tr.run_c2,↓Tr.run_nx,↓onS,bind_ite,Option.bind_some,Option.bind_none,obR,inL hi,e1,Int.toNat_natCast,if_true,composite_eq c _ (Nat.le_trans hs (by omega)),is_eq,actions_eq _ (Nat.le_trans he (by omega)),actions_eq _ (Nat.le_trans hx (by omega)),stateS,stateT,some_ite]
 refine ite_else (ite_else ?_)
 cases hc:comp c i with
 | false=>simp only[Bool.false_and,Bool.not_false,Bool.true_and,Bool.false_or,Bool.false_eq_true,if_false,false_implies,if_true]
 | true =>
  have g1:=eq_true (show (!!isS c (c.States.getD i default).Initial)=true→(0:Int)≤(c.States.getD i default).Initial from fun h=>by simp only[Bool.not_not]at h;exact(isS_iff.1 h).1)
  have g2:=eq_true (show (!!isS c (c.States.getD i default).Initial)=true→(c.States.getD i default).Initial < (c.States.length:Int) from fun h=>by simp only[Bool.not_not]at h;exact(isS_iff.1 h).2)
  simp only[if_true,Option.bind_some,g1,g2,childS,bne,Bool.not_and,Bool.true_and,Bool.not_true,Bool.false_and,Bool.or_false,Bool.false_eq_true,if_false]
theorem rstate_eq (c:T27) (H:Fit c) (i:Nat) (hi:i < c.States.length):m118 c i=some (stateS c i):=by
 have hs:=H.states
 have he:=H.entry _ (getD_mem hi)
 have hx:=H.exit_ _ (getD_mem hi)
 have hl:listedS (namesS c) i=if(!nm (c.States.getD i default).Name)=true then 5 else if anyR (fun j=>(c.States.getD j default).Name==(c.States.getD i default).Name) i=true then 7 else 0:=by
  unfold listedS hasK
  rw[namesS_getD c hi,anyR_congr (G:=fun j=>(c.States.getD j default).Name==(c.States.getD i default).Name)]
  intro j hj
  rw[namesS_getD c (by omega),Bool.eq_iff_iff,beq_iff_eq,beq_iff_eq]
  exact⟨Eq.symm,Eq.symm⟩
 have hx2:m118 c i=some (if(!nm (c.States.getD i default).Name)=true then 5 else if anyR (fun j=>(c.States.getD j default).Name==(c.States.getD i default).Name) i=true then 7 else stateT c i):=by
  delta m118 d118
  simp only[↓JD.sg_m,↓JD.sq_m,↓JD.sc_m,↓JD.bk_m,↓JD.lp_m,↓JD.cd_m,↓JD.lu_m,↓JD.ct_m,↓JD.ce_m,↓JL.r_m,↓JL.z_m,↓JD.se_m,onE_r,↓Tr.run,↓Tr.run_nd,↓Tr.run_c3,↓Tr.run_c2,↓Tr.run_nx,↓onS,bind_ite,Option.bind_some,Option.bind_none,obR,inL hi,nm_r8name,Int.toNat_natCast,if_true,rcomposite_eq c _ (Nat.le_trans hs (by omega)),rchild_eq,ractions_eq _ (Nat.le_trans he (by omega)),ractions_eq _ (Nat.le_trans hx (by omega)),some_ite,show (i:Int)≤c.States.length by omega]
  refine ite_else ?_
  rw[loop_ex i (fun j=>if((c.States.getD j default).Name==(c.States.getD i default).Name)=true then some 7 else none) ?_ ?_,firstR_const]
  ·simp only[orK_ite,orK_some,orK_none,stateT,some_ite]
   refine ite_else (ite_else ?_)
   cases hc:comp c i with
   | false=>simp only[Bool.false_and,Bool.not_false,Bool.true_and,Bool.false_or,Bool.false_eq_true,if_false,Option.bind_some,if_true]
   | true =>
    cases hd:childS c (c.States.getD i default).Initial i<;>simp only[Bool.true_and,Bool.true_or,Bool.not_true,Bool.not_false,Bool.false_and,Bool.or_false,Bool.false_eq_true,if_false,Option.bind_some,if_true]
  ·intro j hj
   have j3:((j:Int) < (((subL c.States 0 i).length:Nat):Int)):=by rw[subL_len];omega
   simp only[exB_ite,exB_some,exB_none]
   simp only[inL hj,decide_true,j3,Int.toNat_natCast,if_true,subL_getD hj,wr1 hj (by omega)]
  ·(simp only[lt_irr,decide_false,Bool.false_eq_true,if_false];try rfl)
 rw[hx2]
 unfold stateS
 rw[hl]
 split
 ·rfl
 ·split<;>rfl
def condF (c:T27) (i:Nat):Option Int:=if(listedS c.Conds i != 0)=true then some (listedS c.Conds i)else none
def nevF (c:T27) (i:Nat):Option Int:=if(((c.Never.getD i default).length:Int)==0)=true then some 1 else if(litS c (c.Never.getD i default) != 0)=true then some (litS c (c.Never.getD i default))else none
def stF (c:T27) (i:Nat):Option Int:=if(stateS c i != 0)=true then some (stateS c i)else none
def trF (c:T27) (i:Nat):Option Int :=
 if((!isS c (c.Transitions.getD i default).From) || (!isS c (c.Transitions.getD i default).To))=true then some 2
 else if(litS c (c.Transitions.getD i default).When != 0)=true then some (litS c (c.Transitions.getD i default).When)
 else if(actS (c.Transitions.getD i default).Actions != 0)=true then some (actS (c.Transitions.getD i default).Actions)else none
def checkM (c:T27):Option Int :=
 if(!nm c.Name)=true then some 5
 else if((c.States.length:Int)==0)=true then some 6
 else if((((decide ((12:Int) < (c.Conds.length:Int))) || (decide ((16:Int) < (c.Never.length:Int)))) || (decide ((40:Int) < (c.States.length:Int)))) || (decide ((120:Int) < (c.Transitions.length:Int))))=true then some 3
 else orK (firstR (condF c) c.Conds.length) (orK (firstR (nevF c) c.Never.length) (orK (firstR (stF c) c.States.length) (if(!isS c c.Start)=true then some 2 else orK (firstR (trF c) c.Transitions.length) (some 0))))
theorem checkM_some (c:T27):∃ e,checkM c=some e:=ite_total (ite_total (ite_total (orK_total (orK_total (orK_total (ite_total (orK_total ⟨0,rfl⟩)))))))
theorem Check_eq (c:T27) (H:Fit c):m38 c=checkM c:=by
 have hcl:=H.conds
 have hnl:=H.never
 have hsl:=H.states
 have htl:=H.trans
 delta m38 d38
 simp only[↓JD.sg_m,↓JD.sq_m,↓JD.sc_m,↓JD.bk_m,↓JD.lp_m,↓JD.cd_m,↓JD.lu_m,↓JD.ct_m,↓JD.ce_m,↓JL.r_m,↓JL.z_m,↓JD.se_m,onE_r,↓Tr.run,↓Tr.run_nd,↓Tr.run_c3,↓Tr.run_c2,↓Tr.run_nx,↓onS,bind_ite,Option.bind_some,Option.bind_none,obR,nm_name,is_eq,checkM]
 refine ite_else (ite_else (ite_else (loop_or _ (condF c) (fun i hi=>?_) (by (simp only[lt_irr,decide_false,Bool.false_eq_true,if_false];try rfl)) (loop_or _ (nevF c) (fun i hi=>?_) (by (simp only[lt_irr,decide_false,Bool.false_eq_true,if_false];try rfl)) (on_l (loop_coll c.States.length (fun i l=>(l,(i:Int))) (fun i=>[(c.States.getD i default).Name]) Sum.inl (fun i hi=>?_) (by (simp only[lt_irr,decide_false,Bool.false_eq_true,if_false];try rfl))) (loop_or _ (stF c) (fun i hi=>?_) (by (simp only[lt_irr,decide_false,Bool.false_eq_true,if_false];try rfl)) (ite_else (loop_or _ (trF c) (fun i hi=>?_) (by (simp only[lt_irr,decide_false,Bool.false_eq_true,if_false];try rfl)) rfl))))))))
 ·unfold condF
  (simp only[exB_ite,exB_some,exB_none];simp only[listed_eq c.Conds i hi (by omega),Option.bind_some,inL hi,decide_true,Int.toNat_natCast,if_true,implies_true,wr1 hi (by omega)];try rfl)
 ·have hl:=H.lits _ (getD_mem hi)
  unfold nevF
  (simp only[exB_ite,exB_some,exB_none];simp only[literals_eq c _ (Nat.le_trans hl (by omega)),Option.bind_some,inL hi,decide_true,Int.toNat_natCast,if_true,implies_true,wr1 hi (by omega)];try rfl)
 ·have hl:=flatMap_len (g:=fun i=>[(c.States.getD i default).Name]) (m:=1) (fun i=>by simp) i
  have h3:(((List.range i).flatMap fun i=>[(c.States.getD i default).Name]).length+1) * 16≤140737488355328:=by omega
  simp only[inL hi,h3,Int.toNat_natCast,if_true,wr1 hi (by omega)];rfl
 ·unfold stF
  have e:=state_eq c H i hi
  unfold namesS at e
  (simp only[exB_ite,exB_some,exB_none];simp only[e,Option.bind_some,inL hi,decide_true,Int.toNat_natCast,if_true,implies_true,wr1 hi (by omega)];try rfl)
 ·have hw:=H.when_ _ (getD_mem hi)
  have ha:=H.acts _ (getD_mem hi)
  unfold trF
  simp only[exB_ite,exB_some,exB_none]
  simp only[inL hi,is_eq,literals_eq c _ (Nat.le_trans hw (by omega)),actions_eq _ (Nat.le_trans ha (by omega)),Option.bind_some,decide_true,Int.toNat_natCast,if_true,wr1 hi (by omega)]
  cases isS c (c.Transitions.getD i default).From<;>simp only[Bool.not_true,Bool.not_false,Bool.false_eq_true,Bool.true_or,Bool.false_or,if_true,if_false,Option.bind_some]
theorem rCheck_eq (c:T27) (H:Fit c):m68 c=checkM c:=by
 have hcl:=H.conds
 have hnl:=H.never
 have hsl:=H.states
 have htl:=H.trans
 have isn:∀ x y:Int,((((decide (x < (0:Int))) || (decide ((c.States.length:Int)≤x))) || (decide (y < (0:Int)))) || (decide ((c.States.length:Int)≤y)))=((!isS c x) || (!isS c y)):=fun x y=>by
  rw[Bool.eq_iff_iff]
  simp only[isS,Bool.or_eq_true,decide_eq_true_eq,Bool.not_eq_true',Bool.and_eq_false_iff,decide_eq_false_iff_not]
  omega
 have st:((decide (c.Start < (0:Int))) || (decide ((c.States.length:Int)≤c.Start)))=!isS c c.Start:=by
  rw[Bool.eq_iff_iff]
  simp only[isS,Bool.or_eq_true,decide_eq_true_eq,Bool.not_eq_true',Bool.and_eq_false_iff,decide_eq_false_iff_not]
  omega
 delta m68 d68
 simp only[↓JD.sg_m,↓JD.sq_m,↓JD.sc_m,↓JD.bk_m,↓JD.lp_m,↓JD.cd_m,↓JD.lu_m,↓JD.ct_m,↓JD.ce_m,↓JL.r_m,↓JL.z_m,↓JD.se_m,onE_r,↓Tr.run,↓Tr.run_nd,↓Tr.run_c3,↓Tr.run_c2,↓Tr.run_nx,↓onS,bind_ite,Option.bind_some,Option.bind_none,obR,nm_r8name,st,checkM]
 refine ite_else (ite_else (ite_else (loop_or _ (condF c) (fun i hi=>?_) (by (simp only[lt_irr,decide_false,Bool.false_eq_true,if_false];try rfl)) (loop_or _ (nevF c) (fun i hi=>?_) (by (simp only[lt_irr,decide_false,Bool.false_eq_true,if_false];try rfl)) (loop_or _ (stF c) (fun i hi=>?_) (by (simp only[lt_irr,decide_false,Bool.false_eq_true,if_false];try rfl)) (ite_else (loop_or _ (trF c) (fun i hi=>?_) (by (simp only[lt_irr,decide_false,Bool.false_eq_true,if_false];try rfl)) rfl)))))))
 ·unfold condF listedS hasK
  simp only[inL hi,decide_true,nm_r8name,Option.bind_some,Int.toNat_natCast,if_true,wr1 hi (by omega),show (i:Int)≤c.Conds.length by omega]
  cases nm (c.Conds.getD i default) with
  | false=>rfl
  | true =>
   simp only[Bool.not_true,Bool.false_eq_true,if_false,Option.bind_some,onS_l]
   rw[loop_ex0 i (fun j=>if(c.Conds.getD i default==c.Conds.getD j default)=true then some (.inr (.inr 7))else none) ?_ ?_,firstR_const]
   ·cases anyR (fun j=>c.Conds.getD i default==c.Conds.getD j default) i<;>rfl
   ·intro j hj
    have j3:((j:Int) < (((subL c.Conds 0 i).length:Nat):Int)):=by rw[subL_len];omega
    simp only[exB_ite,exB_some,exB_none]
    simp only[inL hj,decide_true,j3,Int.toNat_natCast,if_true,subL_getD hj,wr1 hj (by omega)]
   ·(simp only[lt_irr,decide_false,Bool.false_eq_true,if_false];try rfl)
 ·have hl:=H.lits _ (getD_mem hi)
  unfold nevF
  (simp only[exB_ite,exB_some,exB_none];simp only[rliterals_eq c _ (Nat.le_trans hl (by omega)),Option.bind_some,inL hi,decide_true,Int.toNat_natCast,if_true,implies_true,wr1 hi (by omega)];try rfl)
 ·unfold stF
  (simp only[exB_ite,exB_some,exB_none];simp only[rstate_eq c H i hi,Option.bind_some,inL hi,decide_true,Int.toNat_natCast,if_true,implies_true,wr1 hi (by omega)];try rfl)
 ·have hw:=H.when_ _ (getD_mem hi)
  have ha:=H.acts _ (getD_mem hi)
  unfold trF
  simp only[exB_ite,exB_some,exB_none]
  simp only[isn,inL hi,rliterals_eq c _ (Nat.le_trans hw (by omega)),ractions_eq _ (Nat.le_trans ha (by omega)),Option.bind_some,decide_true,Int.toNat_natCast,if_true,wr1 hi (by omega)]
  refine ite_else ?_
  by_cases h0:litS c (c.Transitions.getD i default).When=0
  ·simp only[h0,bne_self_eq_false,beq_self_eq_true,Bool.false_eq_true,if_true,if_false,Option.bind_some]
  ·have h1:(litS c (c.Transitions.getD i default).When==0)=false:=by simpa using h0
   simp only[bne,h1,Bool.not_false,Bool.false_eq_true,if_true,if_false,Option.bind_some]
end Go.Av.Ch
set_option maxRecDepth 100000
namespace Go.Av.Ch
def topB (c:T27) (s:Int):Bool:=decide ((c.States.getD s.toNat default).Parent < 0) || decide (s≤(c.States.getD s.toNat default).Parent)
def pathT (c:T27):Nat→Int→List Int
 | 0,_=>[]
 | n+1,s=>if topB c s=true then[]else(c.States.getD s.toNat default).Parent :: pathT c n (c.States.getD s.toNat default).Parent
def pathS (c:T27) (s:Int):List Int:=if isS c s=true then s :: pathT c s.toNat s else[]
theorem pathT_len (c:T27):∀ n s,(pathT c n s).length≤n
 | 0,_=>by simp[pathT]
 | n+1,s=>by
  unfold pathT
  split
  ·simp
  ·have:=pathT_len c n (c.States.getD s.toNat default).Parent
   simp only[List.length_cons];omega
theorem pathS_len (c:T27) (s:Int):(pathS c s).length≤c.States.length:=by
 unfold pathS
 split
 ·rename_i h
  have:=isS_iff.1 h
  have:=pathT_len c s.toNat s
  simp only[List.length_cons];omega
 ·simp
theorem topB_false {c:T27} {s:Int} (h:topB c s=false):0≤(c.States.getD s.toNat default).Parent∧(c.States.getD s.toNat default).Parent < s:=by
 simp only[topB,Bool.or_eq_false_iff,decide_eq_false_iff_not]at h;omega
theorem pathT_fuel (c:T27):∀ n m s,0≤s→s.toNat≤n→s.toNat≤m→pathT c n s=pathT c m s:=by
 intro n
 induction n with
 | zero =>
  intro m s h0 hn hm
  cases m with
  | zero=>rfl
  | succ m =>
   unfold pathT
   cases ht:topB c s with
   | true=>simp
   | false=>have:=topB_false ht;omega
 | succ n ih =>
  intro m s h0 hn hm
  cases ht:topB c s with
  | true =>
   cases m with
   | zero=>unfold pathT;simp[ht]
   | succ m=>unfold pathT;simp[ht]
  | false =>
   have:=topB_false ht
   cases m with
   | zero=>omega
   | succ m =>
    unfold pathT
    simp only[ht,Bool.false_eq_true,if_false]
    rw[ih m _ this.1 (by omega) (by omega)]
theorem pathS_step {c:T27} {s:Int} (h:isS c s=true):pathS c s=s :: if topB c s=true then[]else pathS c (c.States.getD s.toNat default).Parent:=by
 have hs:=isS_iff.1 h
 unfold pathS
 rw[if_pos h,pathT_fuel c s.toNat (s.toNat+1) s hs.1 (Nat.le_refl _) (by omega)]
 congr 1
 show (if topB c s=true then[]else(c.States.getD s.toNat default).Parent :: pathT c s.toNat (c.States.getD s.toNat default).Parent)=_
 cases ht:topB c s with
 | true=>rfl
 | false =>
  have hp:=topB_false ht
  simp only[Bool.false_eq_true,if_false]
  rw[if_pos (isS_iff.2 ⟨hp.1,by omega⟩),pathT_fuel c s.toNat (c.States.getD s.toNat default).Parent.toNat _ hp.1 (by omega) (Nat.le_refl _)]
theorem pathS_is {c:T27}:∀ (n:Nat) (s:Int),s.toNat≤n→∀ x∈pathS c s,isS c x=true∧x≤s:=by
 intro n
 induction n with
 | zero =>
  intro s hn x hx
  cases h:isS c s with
  | false=>unfold pathS at hx;rw[if_neg (by rw[h];decide)]at hx;cases hx
  | true =>
   have hs:=isS_iff.1 h
   rw[pathS_step h]at hx
   cases ht:topB c s with
   | true=>rw[ht]at hx;simp at hx;subst hx;exact⟨h,Int.le_refl _⟩
   | false=>have:=topB_false ht;omega
 | succ n ih =>
  intro s hn x hx
  cases h:isS c s with
  | false=>unfold pathS at hx;rw[if_neg (by rw[h];decide)]at hx;cases hx
  | true =>
   rw[pathS_step h]at hx
   rcases List.mem_cons.1 hx with rfl | hx
   ·exact⟨h,Int.le_refl _⟩
   ·cases ht:topB c s with
    | true=>rw[ht]at hx;simp at hx
    | false =>
     have:=topB_false ht
     rw[ht]at hx
     have:=ih _ (by omega) x hx
     exact⟨this.1,by omega⟩
theorem path_loop {c:T27} {b:Int×List Int→Option ((Int×List Int)⊕List Int)}
  (hb:∀ (s:Int) (acc:List Int),0≤s→s < c.States.length→b (s,acc)=if topB c s=true then some (.inr acc)else if(acc.length+1) * 8≤140737488355328 then some (.inl ((c.States.getD s.toNat default).Parent,acc++[(c.States.getD s.toNat default).Parent]))else none) :
  ∀ (n:Nat) (s:Int) (acc:List Int),0≤s→s < c.States.length→s.toNat≤n→acc.length+n≤100000→loopO b (s,acc)=some (acc++pathT c n s):=by
 intro n
 induction n with
 | zero =>
  intro s acc h0 h1 hn hl
  rw[loopO_eq,hb s acc h0 h1]
  cases ht:topB c s with
  | true=>simp[pathT]
  | false=>have:=topB_false ht;omega
 | succ n ih =>
  intro s acc h0 h1 hn hl
  rw[loopO_eq,hb s acc h0 h1]
  unfold pathT
  cases ht:topB c s with
  | true=>simp
  | false =>
   have hp:=topB_false ht
   have h8:(acc.length+1) * 8≤140737488355328:=by omega
   simp only[Bool.false_eq_true,if_false,if_pos h8,Option.bind_some]
   rw[ih _ _ hp.1 (by omega) (by omega) (by simp only[List.length_append,List.length_cons,List.length_nil];omega)]
   simp
theorem Path_eq (c:T27) (H:Fit c) (s:Int):m48 c s=some (pathS c s):=by
 have hs:=H.states
 delta m48 d48
 simp only[↓JD.sg_m,↓JD.sq_m,↓JD.sc_m,↓JD.bk_m,↓JD.lp_m,↓JD.cd_m,↓JD.lu_m,↓JD.ct_m,↓JD.ce_m,↓JL.r_m,↓JL.z_m,↓JD.se_m,onE_r,↓Tr.run,↓Tr.run_nd,↓Tr.run_c3,↓Tr.run_c2,↓Tr.run_nx,↓onS,bind_ite,Option.bind_some,Option.bind_none,obR,is_eq]
 unfold pathS
 cases h:isS c s with
 | false=>rfl
 | true =>
  have hi:=isS_iff.1 h
  simp only[Bool.not_true,Bool.false_eq_true,if_false,if_true]
  rw[path_loop (c:=c) (fun s acc h0 h1=>?_) s.toNat s [s] hi.1 hi.2 (Nat.le_refl _) (by simp;omega)]
  ·simp
  ·simp only[h0,h1,if_true];rfl
theorem rPath_eq (c:T27) (H:Fit c) (s:Int):m123 c s=some (pathS c s):=by
 have hs:=H.states
 have e:(decide (s < 0) || decide ((c.States.length:Int)≤s))=!isS c s:=by
  rw[Bool.eq_iff_iff];simp only[isS,Bool.or_eq_true,decide_eq_true_eq,Bool.not_eq_true',Bool.and_eq_false_iff,decide_eq_false_iff_not];omega
 delta m123 d123
 simp only[↓JD.sg_m,↓JD.sq_m,↓JD.sc_m,↓JD.bk_m,↓JD.lp_m,↓JD.cd_m,↓JD.lu_m,↓JD.ct_m,↓JD.ce_m,↓JL.r_m,↓JL.z_m,↓JD.se_m,onE_r,↓Tr.run,↓Tr.run_nd,↓Tr.run_c3,↓Tr.run_c2,↓Tr.run_nx,↓onS,bind_ite,Option.bind_some,Option.bind_none,obR,e]
 unfold pathS
 cases h:isS c s with
 | false=>rfl
 | true =>
  have hi:=isS_iff.1 h
  simp only[Bool.not_true,Bool.false_eq_true,if_false,if_true]
  rw[path_loop (c:=c) (fun s acc h0 h1=>?_) s.toNat s [s] hi.1 hi.2 (Nat.le_refl _) (by simp;omega)]
  ·simp
  ·simp only[h0,h1,if_true];rfl
def leafG (c:T27) (i:Nat):List Int:=if comp c i=true then[]else[(i:Int)]
def leavesS (c:T27):List Int:=(List.range c.States.length).flatMap (leafG c)
theorem leafG_len (c:T27) (i:Nat):(leafG c i).length≤1:=by unfold leafG;split<;>simp
theorem leavesS_iff {c:T27} {x:Int}:x∈leavesS c↔isS c x=true∧comp c x=false:=by
 unfold leavesS leafG
 rw[List.mem_flatMap,isS_iff]
 constructor
 ·rintro⟨i,hi,hx⟩
  rw[List.mem_range]at hi
  split at hx
  ·cases hx
  ·rename_i h;simp only[List.mem_singleton]at hx;subst hx;exact⟨by omega,by simpa using h⟩
 ·rintro⟨h1,h2⟩
  refine⟨x.toNat,List.mem_range.2 (by omega),?_⟩
  rw[Int.toNat_of_nonneg h1.1,if_neg (by rw[h2];decide)];simp
theorem rLeaves_eq (c:T27) (H:Fit c):m57 c=some (leavesS c):=by
 have hs:=H.states
 delta m57 d57
 simp only[↓JD.sg_m,↓JD.sq_m,↓JD.sc_m,↓JD.bk_m,↓JD.lp_m,↓JD.cd_m,↓JD.lu_m,↓JD.ct_m,↓JD.ce_m,↓JL.r_m,↓JL.z_m,↓JD.se_m,onE_r,↓Tr.run,↓Tr.run_nd,↓Tr.run_c3,↓Tr.run_c2,↓Tr.run_nx,↓onS,bind_ite,Option.bind_some,Option.bind_none,obR,rcomposite_eq c _ (Nat.le_trans hs (by omega))]
 refine on_l (loop_coll c.States.length (fun i l=>(l,(i:Int))) (leafG c) Sum.inl (fun i hi=>?_) (by (simp only[lt_irr,decide_false,Bool.false_eq_true,if_false];try rfl))) rfl
 have hl:=flatMap_len (leafG_len c) i
 have h3:(((List.range i).flatMap (leafG c)).length+1) * 8≤140737488355328:=by omega
 simp only[inL hi,decide_true,h3,if_true,wr1 hi (by omega),leafG]
 cases comp c i<;>simp
def bitV (v:Int) (k:Nat):Bool:=IntKind.u16.wrap ((BitVec.ofInt IntKind.u16.bits (v.fdiv (2 ^ min k IntKind.u16.bits)) &&& BitVec.ofInt IntKind.u16.bits 1).toNat:Int)==1
theorem bitV_eq {v:Int} {k:Nat} (h0:0≤v) (hk:k≤16):bitV v k=v.toNat.testBit k:=by
 obtain⟨n,rfl⟩:=Int.eq_ofNat_of_zero_le h0
 unfold bitV
 have e1:min k IntKind.u16.bits=k:=by show min k 16=k;omega
 have e2:(n:Int).fdiv (2 ^ k)=((n / 2 ^ k:Nat):Int):=by
  rw[Int.fdiv_eq_ediv_of_nonneg _ (Int.le_of_lt (Int.pow_pos (by omega)))]
  push_cast
  rfl
 rw[e1,e2]
 have e3:(BitVec.ofInt IntKind.u16.bits ((n / 2 ^ k:Nat):Int) &&& BitVec.ofInt IntKind.u16.bits 1).toNat=n / 2 ^ k % 2:=by
  show (BitVec.ofInt 16 ((n / 2 ^ k:Nat):Int) &&& 1#16).toNat=_
  rw[BitVec.ofInt_natCast,BitVec.toNat_and,BitVec.toNat_ofNat]
  show n / 2 ^ k % 65536 &&& 1=_
  rw[Nat.and_one_is_mod]
  omega
 rw[e3]
 have e4:IntKind.u16.wrap ((n / 2 ^ k % 2:Nat):Int)=((n / 2 ^ k % 2:Nat):Int):=by
  have:n / 2 ^ k % 2 < 2:=Nat.mod_lt _ (by omega)
  generalize n / 2 ^ k % 2=m at *
  match m,this with
  | 0,_=>rfl
  | 1,_=>rfl
 rw[e4,Int.toNat_natCast,Nat.testBit_eq_decide_div_mod_eq,Bool.eq_iff_iff,beq_iff_eq,decide_eq_true_eq]
 omega
def litN (v:Int) (x:T116):Bool:=decide (x.Cond < 0) || decide (15 < x.Cond) || bitV v x.Cond.toNat==x.Neg
def holdsS (l:List T116) (v:Int):Bool:=!anyR (fun i=>litN v (l.getD i default)) l.length
theorem holds_loop {l:List T116} {v:Int} (hl:l.length≤100000) {b:Int→Option (Int⊕(Unit⊕Bool))} (hb:∀ i:Nat,i < l.length→b i=exB (if litN v (l.getD i default)=true then some false else none) ((i:Int)+1)) (hd:b l.length=some (.inr (.inl ()))) :
  (loopO b 0).bind (onS fun _=>some true)=some (holdsS l v):=by
 rw[loop_ex l.length _ hb hd,firstR_const,holdsS]
 cases anyR (fun i=>litN v (l.getD i default)) l.length<;>rfl
theorem Holds_eq (l:List T116) (v:Int) (hl:l.length≤100000):m50 l v=some (holdsS l v):=by
 delta m50 d50
 simp only[↓JD.sg_m,↓JD.sq_m,↓JD.sc_m,↓JD.bk_m,↓JD.lp_m,↓JD.cd_m,↓JD.lu_m,↓JD.ct_m,↓JD.ce_m,↓JL.r_m,↓JL.z_m,↓JD.se_m,onE_r,↓Tr.run,↓Tr.run_nd,↓Tr.run_c3,↓Tr.run_c2,↓Tr.run_nx,↓onS,bind_ite,Option.bind_some,Option.bind_none,obR]
 refine holds_loop hl (fun i hi=>?_) (by (simp only[lt_irr,decide_false,Bool.false_eq_true,if_false];try rfl))
 have h1:=eq_true (show (!(decide ((l.getD i default).Cond < 0) || decide (15 < (l.getD i default).Cond)))=true→0≤(l.getD i default).Cond from fun h=>by simp only[Bool.not_eq_true',Bool.or_eq_false_iff,decide_eq_false_iff_not]at h;omega)
 (simp only[exB_ite,exB_some,exB_none];simp only[h1,inL hi,decide_true,Int.toNat_natCast,if_true,implies_true,wr1 hi (by omega)];try rfl)
theorem rHolds_eq (l:List T116) (v:Int) (hl:l.length≤100000):m155 l v=some (holdsS l v):=by
 delta m155 d155
 simp only[↓JD.sg_m,↓JD.sq_m,↓JD.sc_m,↓JD.bk_m,↓JD.lp_m,↓JD.cd_m,↓JD.lu_m,↓JD.ct_m,↓JD.ce_m,↓JL.r_m,↓JL.z_m,↓JD.se_m,onE_r,↓Tr.run,↓Tr.run_nd,↓Tr.run_c3,↓Tr.run_c2,↓Tr.run_nx,↓onS,bind_ite,Option.bind_some,Option.bind_none,obR]
 refine holds_loop hl (fun i hi=>?_) (by (simp only[lt_irr,decide_false,Bool.false_eq_true,if_false];try rfl))
 have h1:=eq_true (show (!(decide ((l.getD i default).Cond < 0) || decide (15 < (l.getD i default).Cond)))=true→0≤(l.getD i default).Cond from fun h=>by simp only[Bool.not_eq_true',Bool.or_eq_false_iff,decide_eq_false_iff_not]at h;omega)
 (simp only[exB_ite,exB_some,exB_none];simp only[h1,inL hi,decide_true,Int.toNat_natCast,if_true,implies_true,wr1 hi (by omega)];try rfl)
def wideB (c:T27) (v:Int):Bool:=decide ((c.Conds.length:Int) < 16)&&(v.fdiv (2 ^ min (c.Conds.length:Int).toNat IntKind.u16.bits) != 0)
def allowedS (c:T27) (v:Int):Bool:=!wideB c v&&!anyR (fun i=>holdsS (c.Never.getD i default) v) c.Never.length
theorem Allowed_eq (c:T27) (H:Fit c) (v:Int):m20 c v=some (allowedS c v):=by
 have hn:=H.never
 have e:m102o0 c.Never v=some (findR (fun i=>holdsS (c.Never.getD i default) v) c.Never.length):=by
  delta m102o0 d102o0
  simp only[↓JD.sg_m,↓JD.sq_m,↓JD.sc_m,↓JD.bk_m,↓JD.lp_m,↓JD.cd_m,↓JD.lu_m,↓JD.ct_m,↓JD.ce_m,↓JL.r_m,↓JL.z_m,↓JD.se_m,onE_r,↓Tr.run,↓Tr.run_nd,↓Tr.run_c3,↓Tr.run_c2,↓Tr.run_nx,↓onS,bind_ite,Option.bind_some,Option.bind_none,obR,m52o0,d52o0]
  refine idx_loop (fun i hi=>?_) (by (simp only[lt_irr,decide_false,Bool.false_eq_true,if_false];try rfl))
  have hl:=H.lits _ (getD_mem hi)
  (simp only[exB_ite,exB_some,exB_none];simp only[Holds_eq _ _ (Nat.le_trans hl (by omega)),Option.bind_some,inL hi,decide_true,Int.toNat_natCast,if_true,implies_true,wr1 hi (by omega)];try rfl)
 have h1:=eq_true (show decide ((c.Conds.length:Int) < 16)=true→(0:Int)≤(c.Conds.length:Int) from fun _=>by omega)
 delta m20 d20
 simp only[↓JD.sg_m,↓JD.sq_m,↓JD.sc_m,↓JD.bk_m,↓JD.lp_m,↓JD.cd_m,↓JD.lu_m,↓JD.ct_m,↓JD.ce_m,↓JL.r_m,↓JL.z_m,↓JD.se_m,onE_r,↓Tr.run,↓Tr.run_nd,↓Tr.run_c3,↓Tr.run_c2,↓Tr.run_nx,↓onS,bind_ite,Option.bind_some,Option.bind_none,obR,m51o0,d51o0,e,findR_any,h1,if_true]
 unfold allowedS
 cases hw:wideB c v with
 | true=>unfold wideB at hw;simp only[hw,if_true];rfl
 | false=>unfold wideB at hw;simp only[hw,if_false,Bool.false_eq_true];rfl
theorem wide_any {c:T27} {v:Int} (h0:0≤v) (h1:v < 65536):anyR (fun i=>decide ((c.Conds.length:Int)≤(i:Int))&&bitV v i) 16=wideB c v:=by
 obtain⟨n,rfl⟩:=Int.eq_ofNat_of_zero_le h0
 generalize hk:c.Conds.length=k
 unfold wideB
 rw[Bool.eq_iff_iff,anyR_iff,hk,Int.toNat_natCast]
 have e2:k < 16→(n:Int).fdiv (2 ^ min k IntKind.u16.bits)=((n / 2 ^ k:Nat):Int):=fun hk16=>by
  have e1:min k IntKind.u16.bits=k:=by show min k 16=k;omega
  rw[e1,Int.fdiv_eq_ediv_of_nonneg _ (Int.le_of_lt (Int.pow_pos (by omega)))]
  push_cast
  rfl
 constructor
 ·rintro⟨i,hi,h⟩
  simp only[Bool.and_eq_true,decide_eq_true_eq]at h
  obtain⟨h2,h3⟩:=h
  rw[bitV_eq h0 (by omega),Int.toNat_natCast]at h3
  have hk16:k < 16:=by omega
  simp only[Bool.and_eq_true,decide_eq_true_eq,bne_iff_ne,ne_eq]
  refine⟨by omega,?_⟩
  rw[e2 hk16]
  intro hz
  have hz:n / 2 ^ k=0:=by omega
  have hlt:n < 2 ^ k:=by
   rcases Nat.div_eq_zero_iff.1 hz with h | h
   ·have:=Nat.two_pow_pos k;omega
   ·exact h
  have:=Nat.testBit_lt_two_pow (Nat.lt_of_lt_of_le hlt (Nat.pow_le_pow_right (by omega) (show k≤i by omega)))
  rw[this]at h3;cases h3
 ·intro h
  simp only[Bool.and_eq_true,decide_eq_true_eq,bne_iff_ne,ne_eq]at h
  obtain⟨h2,h3⟩:=h
  have hk16:k < 16:=by omega
  rw[e2 hk16]at h3
  have h3:n / 2 ^ k≠0:=by omega
  apply Classical.byContradiction
  intro hno
  apply h3
  apply Nat.eq_of_testBit_eq
  intro j
  rw[Nat.testBit_div_two_pow,Nat.zero_testBit]
  rcases Nat.lt_or_ge (j+k) 16 with hj | hj
  ·cases hb:n.testBit (j+k) with
   | false=>rfl
   | true =>
    exfalso
    refine hno ⟨j+k,hj,?_⟩
    simp only[Bool.and_eq_true,decide_eq_true_eq]
    exact⟨by omega,by rw[bitV_eq h0 (by omega),Int.toNat_natCast];exact hb⟩
  ·exact Nat.testBit_lt_two_pow (Nat.lt_of_lt_of_le (show n < 2 ^ 16 by omega) (Nat.pow_le_pow_right (by omega) hj))
theorem rAllowed_eq (c:T27) (H:Fit c) (v:Int) (h0:0≤v) (h1:v < 65536):m106 c v=some (allowedS c v):=by
 have hn:=H.never
 delta m106 d106
 simp only[↓JD.sg_m,↓JD.sq_m,↓JD.sc_m,↓JD.bk_m,↓JD.lp_m,↓JD.cd_m,↓JD.lu_m,↓JD.ct_m,↓JD.ce_m,↓JL.r_m,↓JL.z_m,↓JD.se_m,onE_r,↓Tr.run,↓Tr.run_nd,↓Tr.run_c3,↓Tr.run_c2,↓Tr.run_nx,↓onS,bind_ite,Option.bind_some,Option.bind_none,obR]
 have e:∀ {b:Int→Option (Int⊕(Unit⊕Bool))} {k:Unit→Option Bool},(∀ i:Nat,i < 16→b i=exB (if(decide ((c.Conds.length:Int)≤(i:Int))&&bitV v i)=true then some false else none) ((i:Int)+1))→b 16=some (.inr (.inl ())) →
   k ()=some (!anyR (fun i=>holdsS (c.Never.getD i default) v) c.Never.length)→(loopO b 0).bind (onS k)=some (allowedS c v):=fun hb hd hk=>by
  rw[loop_ex 16 _ hb hd,firstR_const,hk,wide_any h0 h1,allowedS]
  cases wideB c v<;>rfl
 refine e (fun i hi=>?_) (by rfl) ?_
 ·have a1:=eq_true (show decide ((c.Conds.length:Int)≤(i:Int))=true→(0:Int)≤(i:Int) from fun _=>by omega)
  have a2:=eq_true (show decide ((i:Int) < 16)=true by simp;omega)
  simp only[exB_ite,exB_some,exB_none];simp only[a1,a2,if_true,Int.toNat_natCast,wr1 hi (by omega)];rfl
 ·rw[loop_ex c.Never.length (fun i=>if holdsS (c.Never.getD i default) v=true then some false else none) ?_ ?_,firstR_const]
  ·cases anyR (fun i=>holdsS (c.Never.getD i default) v) c.Never.length<;>rfl
  ·intro i hi
   have hl:=H.lits _ (getD_mem hi)
   (simp only[exB_ite,exB_some,exB_none];simp only[rHolds_eq _ _ (Nat.le_trans hl (by omega)),Option.bind_some,inL hi,decide_true,Int.toNat_natCast,if_true,implies_true,wr1 hi (by omega)];try rfl)
  ·(simp only[lt_irr,decide_false,Bool.false_eq_true,if_false];try rfl)
def enabG (c:T27) (p:List Int) (v:Int) (i:Nat):List Int:=if(hasK p p.length (c.Transitions.getD i default).From&&holdsS (c.Transitions.getD i default).When v)=true then[(i:Int)]else[]
def enabledS (c:T27) (leaf v:Int):List Int:=(List.range c.Transitions.length).flatMap (enabG c (pathS c leaf) v)
theorem enabG_len (c:T27) (p:List Int) (v:Int) (i:Nat):(enabG c p v i).length≤1:=by unfold enabG;split<;>simp
theorem Enabled_eq (c:T27) (H:Fit c) (leaf v:Int):m19 c leaf v=some (enabledS c leaf v):=by
 have hs:=H.states
 have ht:=H.trans
 have hp:=pathS_len c leaf
 delta m19 d19
 simp only[↓JD.sg_m,↓JD.sq_m,↓JD.sc_m,↓JD.bk_m,↓JD.lp_m,↓JD.cd_m,↓JD.lu_m,↓JD.ct_m,↓JD.ce_m,↓JL.r_m,↓JL.z_m,↓JD.se_m,onE_r,↓Tr.run,↓Tr.run_nd,↓Tr.run_c3,↓Tr.run_c2,↓Tr.run_nx,↓onS,bind_ite,Option.bind_some,Option.bind_none,obR,Path_eq c H,onS_l]
 refine on_l (loop_coll c.Transitions.length (fun i l=>(l,(i:Int))) (enabG c (pathS c leaf) v) Sum.inl (fun i hi=>?_) (by (simp only[lt_irr,decide_false,Bool.false_eq_true,if_false];try rfl))) rfl
 have hl:=flatMap_len (enabG_len c (pathS c leaf) v) i
 have h3:(((List.range i).flatMap (enabG c (pathS c leaf) v)).length+1) * 8≤140737488355328:=by omega
 have hw:=H.when_ _ (getD_mem hi)
 simp only[inL hi,decide_true,h3,Int.toNat_natCast,if_true,wr1 hi (by omega),containsI_eq _ _ (show (pathS c leaf).length≤100000 by omega),Holds_eq _ _ (Nat.le_trans hw (by omega)),Option.bind_some,enabG]
 cases hasK (pathS c leaf) (pathS c leaf).length (c.Transitions.getD i default).From with
 | false=>simp
 | true=>cases holdsS (c.Transitions.getD i default).When v<;>simp
theorem rEnabled_eq (c:T27) (H:Fit c) (leaf v:Int):m107 c leaf v=some (enabledS c leaf v):=by
 have hs:=H.states
 have ht:=H.trans
 have hp:=pathS_len c leaf
 delta m107 d107
 simp only[↓JD.sg_m,↓JD.sq_m,↓JD.sc_m,↓JD.bk_m,↓JD.lp_m,↓JD.cd_m,↓JD.lu_m,↓JD.ct_m,↓JD.ce_m,↓JL.r_m,↓JL.z_m,↓JD.se_m,onE_r,↓Tr.run,↓Tr.run_nd,↓Tr.run_c3,↓Tr.run_c2,↓Tr.run_nx,↓onS,bind_ite,Option.bind_some,Option.bind_none,obR,rPath_eq c H,onS_l]
 refine on_l (loop_coll c.Transitions.length (fun i l=>(l,(i:Int))) (enabG c (pathS c leaf) v) Sum.inl (fun i hi=>?_) (by (simp only[lt_irr,decide_false,Bool.false_eq_true,if_false];try rfl))) rfl
 have hl:=flatMap_len (enabG_len c (pathS c leaf) v) i
 have h3:(((List.range i).flatMap (enabG c (pathS c leaf) v)).length+1) * 8≤140737488355328:=by omega
 have hw:=H.when_ _ (getD_mem hi)
 simp only[inL hi,decide_true,h3,Int.toNat_natCast,if_true,wr1 hi (by omega),on_eq _ _ (show (pathS c leaf).length≤100000 by omega),rHolds_eq _ _ (Nat.le_trans hw (by omega)),Option.bind_some,enabG]
 cases hasK (pathS c leaf) (pathS c leaf).length (c.Transitions.getD i default).From with
 | false=>simp
 | true=>cases holdsS (c.Transitions.getD i default).When v<;>simp
end Go.Av.Ch
set_option maxRecDepth 100000
namespace Go.Av.Ch
abbrev stA (c:T27) (x:Int):T119:=c.States.getD x.toNat default
structure Good (c:T27):Prop where
 ne:0 < c.States.length
 cap:c.States.length≤40
 parent:∀ x,isS c x=true → -1≤(stA c x).Parent∧(stA c x).Parent < x
 init:∀ x,isS c x=true→comp c x=true→childS c (stA c x).Initial x=true
 leafI:∀ x,isS c x=true→comp c x=false→(stA c x).Initial = -1∧(stA c x).History=false
 start:isS c c.Start=true
 tr:∀ i,i < c.Transitions.length→isS c (c.Transitions.getD i default).From=true∧isS c (c.Transitions.getD i default).To=true
 entry:∀ x,isS c x=true→(stA c x).Entry.length≤8
 exit_:∀ x,isS c x=true→(stA c x).Exit.length≤8
 acts:∀ i,i < c.Transitions.length→(c.Transitions.getD i default).Actions.length≤8
theorem orK_ok {R:Type} {a b:Option R} {z:R} (h:orK a b=some z) (hn:a≠some z):a=none∧b=some z:=by
 cases a with
 | none=>exact⟨rfl,h⟩
 | some y=>exact absurd h hn
theorem ite_err {p:Prop} [Decidable p] {e z:Int} {k:Option Int} (h:(if p then some e else k)=some z) (he:e≠z):¬ p∧k=some z:=by
 split at h
 ·injection h with h;exact absurd h he
 ·rename_i hp;exact⟨hp,h⟩
theorem good_of {c:T27} (h:checkM c=some 0):Good c:=by
 unfold checkM at h
 obtain⟨-,h⟩:=ite_err h (by decide)
 obtain⟨h1,h⟩:=ite_err h (by decide)
 obtain⟨hcap,h⟩:=ite_err h (by decide)
 have n1:firstR (condF c) c.Conds.length≠some 0:=fun e=>by
  obtain⟨i,_,e⟩:=firstR_some e
  unfold condF at e
  split at e
  ·rename_i hh;injection e with e;rw[e]at hh;simp at hh
  ·cases e
 obtain⟨-,h⟩:=orK_ok h n1
 have n2:firstR (nevF c) c.Never.length≠some 0:=fun e=>by
  obtain⟨i,_,e⟩:=firstR_some e
  unfold nevF at e
  split at e
  ·cases e
  ·split at e
   ·rename_i hh;injection e with e;rw[e]at hh;simp at hh
   ·cases e
 obtain⟨-,h⟩:=orK_ok h n2
 have n3:firstR (stF c) c.States.length≠some 0:=fun e=>by
  obtain⟨i,_,e⟩:=firstR_some e
  unfold stF at e
  split at e
  ·rename_i hh;injection e with e;rw[e]at hh;simp at hh
  ·cases e
 obtain⟨hst,h⟩:=orK_ok h n3
 obtain⟨hs,h⟩:=ite_err h (by decide)
 have n4:firstR (trF c) c.Transitions.length≠some 0:=fun e=>by
  obtain⟨i,_,e⟩:=firstR_some e
  unfold trF at e
  split at e
  ·cases e
  ·split at e
   ·rename_i hh;injection e with e;rw[e]at hh;simp at hh
   ·split at e
    ·rename_i hh;injection e with e;rw[e]at hh;simp at hh
    ·cases e
 obtain⟨htr,-⟩:=orK_ok h n4
 have st:∀ i,i < c.States.length→stateT c i=0:=fun i hi=>by
  have:=firstR_none.1 hst i hi
  unfold stF at this
  split at this
  ·cases this
  ·rename_i hh
   have hh:stateS c i=0:=by simpa using hh
   unfold stateS at hh
   split at hh
   ·rename_i h2;rw[hh]at h2;simp at h2
   ·exact hh
 have key:∀ x,isS c x=true→x=(x.toNat:Int)∧x.toNat < c.States.length:=fun x hx=>by have:=isS_iff.1 hx;omega
 have rows:∀ x,isS c x=true→(-1≤(stA c x).Parent∧(stA c x).Parent < x)∧(comp c x=true→childS c (stA c x).Initial x=true)∧(comp c x=false→(stA c x).Initial = -1∧(stA c x).History=false)∧(stA c x).Entry.length≤8∧(stA c x).Exit.length≤8:=fun x hx=>by
  obtain⟨e,hlt⟩:=key x hx
  have h:=st _ hlt
  unfold stateT at h
  rw[← e]at h
  split at h
  ·cases h
  rename_i a1
  split at h
  ·cases h
  rename_i a2
  split at h
  ·cases h
  rename_i a3
  split at h
  ·rename_i a4;rw[h]at a4;simp at a4
  rename_i a4
  simp only[Bool.or_eq_true,decide_eq_true_eq,not_or,Int.not_lt,Int.not_le]at a1
  refine⟨⟨a1.1,a1.2⟩,fun hc=>?_,fun hc=>?_,actS_len (by simpa using a4),actS_len h⟩
  ·rw[hc]at a2
   simpa using a2
  ·rw[hc]at a2 a3
   exact⟨by simpa using a2,by simpa using a3⟩
 have trs:∀ i,i < c.Transitions.length→(isS c (c.Transitions.getD i default).From=true∧isS c (c.Transitions.getD i default).To=true)∧(c.Transitions.getD i default).Actions.length≤8:=fun i hi=>by
  have:=firstR_none.1 htr i hi
  unfold trF at this
  split at this
  ·cases this
  rename_i a1
  split at this
  ·cases this
  split at this
  ·cases this
  rename_i a3
  exact⟨by simpa using a1,actS_len (by simpa using a3)⟩
 refine⟨?_,by simp only[Bool.or_eq_true,decide_eq_true_eq,not_or,Int.not_lt]at hcap;omega,fun x hx=>(rows x hx).1,fun x hx=>(rows x hx).2.1,fun x hx=>(rows x hx).2.2.1,by simpa using hs,fun i hi=>(trs i hi).1,fun x hx=>(rows x hx).2.2.2.1,fun x hx=>(rows x hx).2.2.2.2,fun i hi=>(trs i hi).2⟩
 have:¬ ((c.States.length:Int)=0):=by simpa using h1
 omega
def memBad (c:T27) (i m:Int):Bool:=(m != (-1:Int))&&(!isS c m || !(stA c i).History || ((stA c m).Parent != i))
def validS (c:T27) (g:T37):Bool:=!(!isS c g.Leaf || comp c g.Leaf || ((g.Memory.length:Int) != (c.States.length:Int)))&&!anyR (fun i=>memBad c i (g.Memory.getD i default)) g.Memory.length
structure MemOk (c:T27) (m:List Int):Prop where
 len:m.length=c.States.length
 ok:∀ i:Nat,i < m.length→memBad c i (m.getD i default)=false
theorem validS_iff {c:T27} {g:T37}:validS c g=true↔isS c g.Leaf=true∧comp c g.Leaf=false∧MemOk c g.Memory:=by
 unfold validS
 simp only[Bool.and_eq_true,Bool.not_eq_true',Bool.or_eq_false_iff,Bool.not_eq_false',bne_eq_false_iff_eq,anyR_false]
 constructor
 ·rintro⟨⟨⟨h1,h2⟩,h3⟩,h4⟩;exact⟨h1,h2,⟨by omega,h4⟩⟩
 ·rintro⟨h1,h2,h3⟩;exact⟨⟨⟨h1,h2⟩,by have:=h3.len;omega⟩,h3.ok⟩
theorem MemOk.none {c:T27} {m:List Int} (h:MemOk c m) {x:Int} (hx:isS c x=true) (hh:(stA c x).History=false):m.getD x.toNat default = -1:=by
 have hi:=isS_iff.1 hx
 have:=h.ok x.toNat (by rw[h.len];omega)
 unfold memBad at this
 rw[Int.toNat_of_nonneg hi.1,hh]at this
 simpa using this
theorem MemOk.child {c:T27} {m:List Int} (h:MemOk c m) {x:Int} (hx:isS c x=true) (hm:m.getD x.toNat default ≠ -1):childS c (m.getD x.toNat default) x=true:=by
 have hi:=isS_iff.1 hx
 have:=h.ok x.toNat (by rw[h.len];omega)
 unfold memBad at this
 rw[Int.toNat_of_nonneg hi.1]at this
 simp only[Bool.and_eq_false_iff,bne_eq_false_iff_eq,Bool.or_eq_false_iff,Bool.not_eq_false']at this
 rcases this with h1 | ⟨⟨h1,h2⟩,h3⟩
 ·exact absurd h1 hm
 ·unfold childS;rw[h1,h3];simp
theorem MemOk.set {c:T27} {m:List Int} (h:MemOk c m) {x v:Int} (hv:v = -1∨((stA c x).History=true∧childS c v x=true)) (hx:isS c x=true):MemOk c (m.set x.toNat v):=by
 have hi:=isS_iff.1 hx
 refine⟨by rw[List.length_set];exact h.len,fun i hl=>?_⟩
 rw[List.length_set]at hl
 by_cases he:x.toNat=i
 ·subst he
  rw[List.getD_eq_getElem?_getD,List.getElem?_set_self hl,Option.getD_some,Int.toNat_of_nonneg hi.1]
  unfold memBad
  rcases hv with rfl | ⟨h1,h2⟩
  ·rfl
  ·unfold childS at h2
   simp only[Bool.and_eq_true,beq_iff_eq]at h2
   rw[h1,h2.1,h2.2];simp
 ·rw[List.getD_eq_getElem?_getD,List.getElem?_set_ne he,← List.getD_eq_getElem?_getD]
  exact h.ok i hl
theorem set_same {m:List Int} {i:Nat} {v:Int} (hi:i < m.length) (h:m.getD i default=v):m.set i v=m:=by
 apply List.ext_getElem?
 intro j
 rw[List.getElem?_set]
 split
 ·rename_i e;subst e
  rw[← h,List.getD_eq_getElem?_getD,List.getElem?_eq_getElem hi,Option.getD_some]
 ·rfl
theorem Valid_eq (c:T27) (H:Fit c) (g:T37):m66 c g=some (validS c g):=by
 have hs:=H.states
 delta m66 d66
 simp only[↓JD.sg_m,↓JD.sq_m,↓JD.sc_m,↓JD.bk_m,↓JD.lp_m,↓JD.cd_m,↓JD.lu_m,↓JD.ct_m,↓JD.ce_m,↓JL.r_m,↓JL.z_m,↓JD.se_m,onE_r,↓Tr.run,↓Tr.run_nd,↓Tr.run_c3,↓Tr.run_c2,↓Tr.run_nx,↓onS,bind_ite,Option.bind_some,Option.bind_none,obR,is_eq,composite_eq c _ (Nat.le_trans hs (by omega))]
 unfold validS
 have e0:(if(!!isS c g.Leaf)=true then some (isS c g.Leaf,comp c g.Leaf)else some (isS c g.Leaf,default))=some (isS c g.Leaf,if isS c g.Leaf=true then comp c g.Leaf else default):=by
  cases isS c g.Leaf<;>rfl
 cases h1:(!isS c g.Leaf || comp c g.Leaf || ((g.Memory.length:Int) != (c.States.length:Int))) with
 | true =>
  cases h2:isS c g.Leaf with
  | false=>simp
  | true =>
   rw[h2]at h1
   simp only[Bool.not_true,Bool.false_or]at h1
   simp only[Bool.not_true,Bool.not_false,Bool.false_or,if_true,h1,onS_r,Bool.false_and]
 | false =>
  simp only[Bool.or_eq_false_iff,Bool.not_eq_false',bne_eq_false_iff_eq]at h1
  obtain⟨⟨h2,h3⟩,h4⟩:=h1
  have h5:g.Memory.length=c.States.length:=by omega
  simp only[h2,h3,h5,bne_self_eq_false,Bool.not_true,Bool.not_false,Bool.or_false,Bool.false_eq_true,if_false,if_true,onS_l,Bool.true_and]
  rw[loop_ex c.States.length (fun i=>if memBad c i (g.Memory.getD i default)=true then some false else none) ?_ ?_,firstR_const]
  ·cases anyR (fun i=>memBad c i (g.Memory.getD i default)) c.States.length<;>rfl
  ·intro i hi
   simp only[exB_ite,exB_some,exB_none]
   simp only[inL hi,decide_true,Int.toNat_natCast,if_true,implies_true,wr1 hi (by omega)]
   unfold memBad stA
   simp only[Int.toNat_natCast]
   by_cases hm:g.Memory.getD i default = -1
   ·simp only[hm,bne_self_eq_false,Bool.false_and,Bool.false_eq_true,false_implies,if_false,if_true]
   ·have hm':(g.Memory.getD i default != (-1:Int))=true:=by simpa using hm
    have a3:=eq_true (show (true&&!(!isS c (g.Memory.getD i default) || !(c.States.getD i default).History))=true→(0:Int)≤g.Memory.getD i default from fun h=>by
     simp only[Bool.true_and,Bool.not_eq_true',Bool.or_eq_false_iff,Bool.not_eq_false']at h;exact(isS_iff.1 h.1).1)
    have a4:=eq_true (show (true&&!(!isS c (g.Memory.getD i default) || !(c.States.getD i default).History))=true→g.Memory.getD i default < (c.States.length:Int) from fun h=>by
     simp only[Bool.true_and,Bool.not_eq_true',Bool.or_eq_false_iff,Bool.not_eq_false']at h;exact(isS_iff.1 h.1).2)
    simp only[hm',a3,a4,if_true,Option.bind_some]
  ·(simp only[lt_irr,decide_false,Bool.false_eq_true,if_false];try rfl)
theorem rValid_eq (c:T27) (H:Fit c) (g:T37):m125 c g=some (validS c g):=by
 have hs:=H.states
 have hL:(leavesS c).length≤100000:=by have:=flatMap_len (leafG_len c) c.States.length;unfold leavesS;omega
 have hl:hasK (leavesS c) (leavesS c).length g.Leaf=(isS c g.Leaf&&!comp c g.Leaf):=by
  rw[Bool.eq_iff_iff,hasK_iff,leavesS_iff,Bool.and_eq_true,Bool.not_eq_true']
 delta m125 d125
 simp only[↓JD.sg_m,↓JD.sq_m,↓JD.sc_m,↓JD.bk_m,↓JD.lp_m,↓JD.cd_m,↓JD.lu_m,↓JD.ct_m,↓JD.ce_m,↓JL.r_m,↓JL.z_m,↓JD.se_m,onE_r,↓Tr.run,↓Tr.run_nd,↓Tr.run_c3,↓Tr.run_c2,↓Tr.run_nx,↓onS,bind_ite,Option.bind_some,Option.bind_none,obR,rLeaves_eq c H,on_eq _ _ hL,hl,rchild_eq]
 unfold validS
 cases h1:(!isS c g.Leaf || comp c g.Leaf || ((g.Memory.length:Int) != (c.States.length:Int))) with
 | true =>
  have:(!(isS c g.Leaf&&!comp c g.Leaf) || ((g.Memory.length:Int) != (c.States.length:Int)))=true:=by rw[← h1];cases isS c g.Leaf<;>cases comp c g.Leaf<;>rfl
  simp only[this,if_true,onS_r,Bool.not_true,Bool.false_and]
 | false =>
  simp only[Bool.or_eq_false_iff,Bool.not_eq_false',bne_eq_false_iff_eq]at h1
  obtain⟨⟨h2,h3⟩,h4⟩:=h1
  have h5:g.Memory.length=c.States.length:=by omega
  simp only[h2,h3,h5,bne_self_eq_false,Bool.not_true,Bool.not_false,Bool.and_true,Bool.or_false,Bool.false_eq_true,if_false,if_true,onS_l,Bool.true_and]
  rw[loop_ex c.States.length (fun i=>if memBad c i (g.Memory.getD i default)=true then some false else none) ?_ ?_,firstR_const]
  ·cases anyR (fun i=>memBad c i (g.Memory.getD i default)) c.States.length<;>rfl
  ·intro i hi
   simp only[exB_ite,exB_some,exB_none]
   simp only[inL hi,decide_true,Int.toNat_natCast,if_true,implies_true,wr1 hi (by omega)]
   unfold memBad childS stA
   simp only[Int.toNat_natCast]
   by_cases hm:(g.Memory.getD i default != (-1:Int))=true
   ·by_cases hh:(c.States.getD i default).History=true
    ·by_cases hq:isS c (g.Memory.getD i default)=true
     ·simp only[hm,hh,hq,Bool.true_and,Bool.not_true,Bool.not_false,Bool.false_or,if_true,Option.bind_some];simp only[bne]
     ·have hq:=Bool.eq_false_iff.2 hq
      simp only[hm,hh,hq,Bool.true_and,Bool.false_and,Bool.not_true,Bool.not_false,Bool.false_or,Bool.true_or,if_true,Option.bind_some]
    ·have hh:=Bool.eq_false_iff.2 hh
     simp only[hm,hh,Bool.true_and,Bool.not_true,Bool.not_false,Bool.true_or,Bool.or_true,Bool.false_eq_true,if_false,if_true]
   ·have hm:=Bool.eq_false_iff.2 hm
    simp only[hm,Bool.false_and,Bool.false_eq_true,if_false]
  ·(simp only[lt_irr,decide_false,Bool.false_eq_true,if_false];try rfl)
end Go.Av.Ch
set_option maxRecDepth 100000
namespace Go.Av.Ch
theorem isS_lt {c:T27} {x:Int} (h:isS c x=true):((0:Int)≤x)=True∧(x < (c.States.length:Int))=True∧x.toNat < c.States.length:=by
 have:=isS_iff.1 h
 exact⟨eq_true this.1,eq_true this.2,by omega⟩
theorem child_is {c:T27} (G:Good c) {x y:Int} (h:childS c y x=true):isS c y=true∧x < y:=by
 unfold childS at h
 simp only[Bool.and_eq_true,beq_iff_eq]at h
 have:=(G.parent y h.1).2
 exact⟨h.1,by unfold stA at this;omega⟩
def nextS (c:T27) (m:List Int) (x:Int):Int:=if((stA c x).History&&(m.getD x.toNat default != (-1:Int)))=true then m.getD x.toNat default else(stA c x).Initial
theorem nextS_child {c:T27} (G:Good c) {m:List Int} (M:MemOk c m) {x:Int} (hx:isS c x=true) (hc:comp c x=true):childS c (nextS c m x) x=true:=by
 unfold nextS
 split
 ·rename_i h
  simp only[Bool.and_eq_true,bne_iff_ne,ne_eq]at h
  exact M.child hx h.2
 ·exact G.init x hx hc
def enterF (c:T27):Nat→Int→List Int→List (List UInt8)→Int×List Int×List (List UInt8)
 | 0,x,m,a=>(x,m,a)
 | n+1,x,m,a=>if comp c x=true then enterF c n (nextS c m x) (m.set x.toNat (-1)) (a++(stA c x).Entry)else(x,m,a++(stA c x).Entry)
theorem enterF_ok {c:T27} (G:Good c):∀ (n:Nat) (x:Int) (m:List Int) (a:List (List UInt8)),isS c x=true→MemOk c m→c.States.length≤n+x.toNat →
  isS c (enterF c n x m a).1=true∧comp c (enterF c n x m a).1=false∧MemOk c (enterF c n x m a).2.1∧(enterF c n x m a).2.2.length≤a.length+8 * n
 | 0,x,m,a,hx,M,hn=>by have:=(isS_lt hx).2.2;omega
 | n+1,x,m,a,hx,M,hn=>by
  have he:=G.entry x hx
  unfold enterF
  cases hc:comp c x with
  | false=>simp only[Bool.false_eq_true,if_false,List.length_append];exact⟨hx,hc,M,by omega⟩
  | true =>
   simp only[if_true]
   obtain⟨h1,h2⟩:=child_is G (nextS_child G M hx hc)
   have h3:=isS_iff.1 hx
   obtain⟨k1,k2,k3,k4⟩:=enterF_ok G n _ _ (a++(stA c x).Entry) h1 (M.set (.inl rfl) hx) (by omega)
   exact⟨k1,k2,k3,by rw[List.length_append]at k4;omega⟩
theorem enter_loop {c:T27} (G:Good c) {b:Int×List Int×List (List UInt8)→Option ((Int×List Int×List (List UInt8))⊕(Int×List Int×List (List UInt8)))}
  (hb:∀ (x:Int) (m:List Int) (a:List (List UInt8)),isS c x=true→MemOk c m→a.length≤100000→b (x,m,a)=if comp c x=true then some (.inl (nextS c m x,m.set x.toNat (-1),a++(stA c x).Entry))else some (.inr (x,m,a++(stA c x).Entry))) :
  ∀ (n:Nat) (x:Int) (m:List Int) (a:List (List UInt8)),isS c x=true→MemOk c m→c.States.length≤n+x.toNat→a.length+8 * n≤100000→loopO b (x,m,a)=some (enterF c n x m a)
 | 0,x,m,a,hx,M,hn,hl=>by have:=(isS_lt hx).2.2;omega
 | n+1,x,m,a,hx,M,hn,hl=>by
  have he:=G.entry x hx
  rw[loopO_eq,hb x m a hx M (by omega)]
  unfold enterF
  cases hc:comp c x with
  | false=>rfl
  | true =>
   simp only[if_true,Option.bind_some]
   obtain⟨h1,h2⟩:=child_is G (nextS_child G M hx hc)
   have h3:=isS_iff.1 hx
   exact enter_loop G hb n _ _ _ h1 (M.set (.inl rfl) hx) (by omega) (by rw[List.length_append];omega)
theorem renter_loop {c:T27} (G:Good c) {b:List Int×Int×List (List UInt8)→Option ((List Int×Int×List (List UInt8))⊕((List Int×Int×List (List UInt8))⊕(List (List UInt8)×Int×List Int×List (List UInt8))))}
  (hb:∀ (x:Int) (m:List Int) (a:List (List UInt8)),isS c x=true→MemOk c m→a.length≤100000→b (m,x,a)=if comp c x=true then some (.inl (m.set x.toNat (-1),nextS c m x,a++(stA c (nextS c m x)).Entry))else some (.inr (.inl (m,x,a)))) :
  ∀ (n:Nat) (x:Int) (m:List Int) (a:List (List UInt8)),isS c x=true→MemOk c m→c.States.length≤n+x.toNat→a.length+8 * n≤100000→loopO b (m,x,a++(stA c x).Entry)=some (.inl ((enterF c n x m a).2.1,(enterF c n x m a).1,(enterF c n x m a).2.2))
 | 0,x,m,a,hx,M,hn,hl=>by have:=(isS_lt hx).2.2;omega
 | n+1,x,m,a,hx,M,hn,hl=>by
  have he:=G.entry x hx
  rw[loopO_eq,hb x m _ hx M (by rw[List.length_append];omega)]
  unfold enterF
  cases hc:comp c x with
  | false=>rfl
  | true =>
   simp only[if_true,Option.bind_some]
   obtain⟨h1,h2⟩:=child_is G (nextS_child G M hx hc)
   have h3:=isS_iff.1 hx
   exact renter_loop G hb n _ _ _ h1 (M.set (.inl rfl) hx) (by omega) (by rw[List.length_append];omega)
def enterS (c:T27) (x:Int) (m:List Int) (a:List (List UInt8)):Int×List Int×List (List UInt8):=enterF c c.States.length x m a
def aroundS (c:T27) (l:List Int) (m:List Int) (a:List (List UInt8)):List Int×List (List UInt8):=l.foldr (fun x s=>(s.1.set x.toNat (-1),s.2++(stA c x).Entry)) (m,a)
theorem aroundS_ok {c:T27} (G:Good c) {m:List Int} {a:List (List UInt8)} (M:MemOk c m):∀ (l:List Int),(∀ x∈l,isS c x=true)→MemOk c (aroundS c l m a).1∧(aroundS c l m a).2.length≤a.length+8 * l.length
 | [],_=>⟨M,Nat.le_refl _⟩
 | x :: l,h=>by
  obtain⟨h1,h2⟩:=aroundS_ok G (a:=a) M l fun y hy=>h y (List.mem_cons_of_mem _ hy)
  have hx:=h x (by simp)
  have he:=G.entry x hx
  refine⟨h1.set (.inl rfl) hx,?_⟩
  show ((aroundS c l m a).2++(stA c x).Entry).length≤_
  rw[List.length_append,List.length_cons];omega
def leaveS (c:T27) (s:Int):List Int→Int→List Int→List (List UInt8)→List Int×List (List UInt8)
 | [],_,m,a=>(m,a)
 | x :: l,last,m,a=>if(x==s)=true then(m,a)else leaveS c s l x (if((stA c x).History&&(last != (-1:Int)))=true then m.set x.toNat last else m) (a++(stA c x).Exit)
theorem mem_leave {c:T27} {m:List Int} (M:MemOk c m) {x last:Int} (hx:isS c x=true) (hl:last = -1∨childS c last x=true):MemOk c (if((stA c x).History&&(last != (-1:Int)))=true then m.set x.toNat last else m):=by
 split
 ·rename_i h
  simp only[Bool.and_eq_true,bne_iff_ne,ne_eq]at h
  exact M.set (hl.imp (fun e=>absurd e h.2) fun e=>⟨h.1,e⟩) hx
 ·exact M
theorem parent_is {c:T27} (G:Good c) {x:Int} (hx:isS c x=true) (ht:topB c x=false):isS c (stA c x).Parent=true∧(stA c x).Parent.toNat < x.toNat∧childS c x (stA c x).Parent=true:=by
 have h1:=topB_false ht
 have h2:=isS_iff.1 hx
 refine⟨isS_iff.2 ⟨h1.1,by show (c.States.getD x.toNat default).Parent < _;omega⟩,by show (c.States.getD x.toNat default).Parent.toNat < _;omega,?_⟩
 unfold childS;rw[hx];simp[stA]
theorem leaveS_ok {c:T27} (G:Good c) {s:Int}:∀ (n:Nat) (x last:Int) (m:List Int) (a:List (List UInt8)),x.toNat≤n→isS c x=true→MemOk c m→(last = -1∨childS c last x=true) →
  MemOk c (leaveS c s (pathS c x) last m a).1∧(leaveS c s (pathS c x) last m a).2.length≤a.length+8 * (n+1):=by
 intro n
 induction n with
 | zero =>
  intro x last m a hn hx M hl
  have he:=G.exit_ x hx
  rw[pathS_step hx]
  unfold leaveS
  split
  ·exact⟨M,by show a.length≤_;omega⟩
  ·cases ht:topB c x with
   | false=>have:=(parent_is G hx ht).2.1;omega
   | true=>exact⟨mem_leave M hx hl,by simp only[if_true,leaveS,List.length_append];omega⟩
 | succ n ih =>
  intro x last m a hn hx M hl
  have he:=G.exit_ x hx
  rw[pathS_step hx]
  unfold leaveS
  split
  ·exact⟨M,by show a.length≤_;omega⟩
  ·cases ht:topB c x with
   | true=>exact⟨mem_leave M hx hl,by simp only[if_true,leaveS,List.length_append];omega⟩
   | false =>
    obtain⟨p1,p2,p3⟩:=parent_is G hx ht
    simp only[Bool.false_eq_true,if_false]
    obtain⟨k1,k2⟩:=ih (stA c x).Parent x _ (a++(stA c x).Exit) (by omega) p1 (mem_leave M hx hl) (.inr p3)
    exact⟨k1,Nat.le_trans k2 (by rw[List.length_append];omega)⟩
def scopeS (c:T27) (a b:Int):Int:=((pathS c a).tail.find? fun x=>hasK (pathS c b).tail (pathS c b).tail.length x).getD (-1)
def untilS (s:Int) (l:List Int):List Int:=l.takeWhile fun x=>!(s==x)
def startS (c:T27):Int×List Int×List (List UInt8):=enterS c c.Start (aroundS c (pathS c c.Start).tail (List.replicate c.States.length (-1)) []).1 (aroundS c (pathS c c.Start).tail (List.replicate c.States.length (-1)) []).2
def fireS (c:T27) (g:T37) (t:T85):Int×List Int×List (List UInt8) :=
 let s:=scopeS c t.From t.To
 let l:=leaveS c s (pathS c g.Leaf) (-1) g.Memory []
 let r:=aroundS c (untilS s (pathS c t.To).tail) l.1 (l.2++t.Actions)
 enterS c t.To r.1 r.2
theorem tail_is {c:T27} {x:Int}:∀ y∈(pathS c x).tail,isS c y=true:=fun y hy=>(pathS_is x.toNat x (Nat.le_refl _) y (List.mem_of_mem_tail hy)).1
theorem mem_begin {c:T27}:MemOk c (List.replicate c.States.length (-1)):=⟨by simp,fun i hi=>by
 have:(List.replicate c.States.length (-1:Int)).getD i default = -1:=by simp at hi;simp[List.getD_eq_getElem?_getD,List.getElem?_replicate,hi]
 unfold memBad;rw[this];rfl⟩
theorem startS_ok {c:T27} (G:Good c) (H:Fit c):validS c ⟨(startS c).1,(startS c).2.1⟩=true∧(startS c).2.2.length≤16000:=by
 have hs:=H.states
 have hp:=pathS_len c c.Start
 obtain⟨h1,h2⟩:=aroundS_ok G (a:=[]) mem_begin (pathS c c.Start).tail tail_is
 obtain⟨k1,k2,k3,k4⟩:=enterF_ok G c.States.length c.Start _ (aroundS c (pathS c c.Start).tail (List.replicate c.States.length (-1)) []).2 G.start h1 (by omega)
 refine⟨validS_iff.2 ⟨k1,k2,k3⟩,?_⟩
 have:(startS c).2.2.length≤_:=k4
 simp only[List.length_nil,List.length_tail]at h2
 omega
theorem untilS_sub {s:Int} {l:List Int}:∀ x∈untilS s l,x∈l:=fun x hx=>(List.takeWhile_prefix _).sublist.mem hx
theorem untilS_len {s:Int} {l:List Int}:(untilS s l).length≤l.length:=(List.takeWhile_prefix _).length_le
theorem fireS_ok {c:T27} (G:Good c) (H:Fit c) {g:T37} (hg:validS c g=true) {i:Nat} (hi:i < c.Transitions.length):validS c ⟨(fireS c g (c.Transitions.getD i default)).1,(fireS c g (c.Transitions.getD i default)).2.1⟩=true∧(fireS c g (c.Transitions.getD i default)).2.2.length≤32000:=by
 have hs:=H.states
 obtain⟨v1,v2,v3⟩:=validS_iff.1 hg
 have ha:=G.acts i hi
 have ht:=(G.tr i hi).2
 generalize c.Transitions.getD i default=t at *
 have hp:=pathS_len c t.To
 have hl:=(isS_lt v1).2.2
 obtain⟨a1,a2⟩:=leaveS_ok G (s:=scopeS c t.From t.To) g.Leaf.toNat g.Leaf (-1) g.Memory [] (Nat.le_refl _) v1 v3 (.inl rfl)
 obtain⟨h1,h2⟩:=aroundS_ok G (a:=(leaveS c (scopeS c t.From t.To) (pathS c g.Leaf) (-1) g.Memory []).2++t.Actions) a1 (untilS (scopeS c t.From t.To) (pathS c t.To).tail) fun x hx=>tail_is x (untilS_sub x hx)
 have hu:=untilS_len (s:=scopeS c t.From t.To) (l:=(pathS c t.To).tail)
 obtain⟨k1,k2,k3,k4⟩:=enterF_ok G c.States.length t.To _ (aroundS c (untilS (scopeS c t.From t.To) (pathS c t.To).tail) (leaveS c (scopeS c t.From t.To) (pathS c g.Leaf) (-1) g.Memory []).1 ((leaveS c (scopeS c t.From t.To) (pathS c g.Leaf) (-1) g.Memory []).2++t.Actions)).2 ht h1 (by omega)
 refine⟨validS_iff.2 ⟨k1,k2,k3⟩,?_⟩
 have:(fireS c g t).2.2.length≤_:=k4
 simp only[List.length_nil,List.length_tail,List.length_append]at h2 hu a2
 omega
theorem firstR_cons {Y:Type} {f:Nat→Option Y} {n:Nat}:firstR f (n+1)=orK (f 0) (firstR (fun i=>f (i+1)) n):=by
 unfold firstR
 rw[List.range_succ_eq_map,List.findSome?_cons,List.findSome?_map]
 cases f 0<;>rfl
theorem firstR_find {F:Int→Bool}:∀ {l:List Int},firstR (fun i=>if F (l.getD i default)=true then some (l.getD i default)else none) l.length=l.find? F
 | []=>rfl
 | x :: l=>by
  rw[List.length_cons,firstR_cons]
  simp only[List.getD_cons_zero,List.getD_cons_succ]
  rw[firstR_find,List.find?_cons]
  by_cases hf:F x=true
  ·simp only[hf,if_true,orK_some]
  ·have hf:=Bool.eq_false_iff.2 hf
   simp only[hf,Bool.false_eq_true,if_false,orK_none]
theorem until_eq {s:Int}:∀ (l:List Int),(if decide (0≤findR (fun i=>s==l.getD i default) l.length)=true then subL l 0 (findR (fun i=>s==l.getD i default) l.length).toNat else l)=untilS s l∧findR (fun i=>s==l.getD i default) l.length≤l.length
 | []=>by simp[untilS,findR,firstR]
 | x :: l=>by
  obtain⟨h1,h2⟩:=until_eq l (s:=s)
  have e:findR (fun i=>s==(x :: l).getD i default) (x :: l).length=if(s==x)=true then 0 else if decide (0≤findR (fun i=>s==l.getD i default) l.length)=true then findR (fun i=>s==l.getD i default) l.length+1 else -1:=by
   unfold findR
   rw[List.length_cons,firstR_cons]
   simp only[List.getD_cons_zero,List.getD_cons_succ]
   by_cases hx:(s==x)=true
   ·simp only[hx,if_true,orK_some];rfl
   ·simp only[hx,if_false,Bool.false_eq_true,orK_none]
    have key:firstR (fun i=>if(s==l.getD i default)=true then some (((i+1:Nat):Int))else none) l.length=(firstR (fun i=>if(s==l.getD i default)=true then some (i:Int)else none) l.length).map (·+1):=by
     unfold firstR
     induction List.range l.length with
     | nil=>rfl
     | cons i r ih =>
      simp only[List.findSome?_cons]
      by_cases hf:(s==l.getD i default)=true
      ·simp only[hf,if_true];simp
      ·simp only[hf,if_false,Bool.false_eq_true];exact ih
    rw[key]
    cases hf:firstR (fun i=>if(s==l.getD i default)=true then some (i:Int)else none) l.length with
    | none=>rfl
    | some y =>
     obtain⟨i,_,h⟩:=firstR_some hf
     split at h
     ·injection h with h;subst h;simp
     ·cases h
  rw[e]
  by_cases hx:(s==x)=true
  ·simp only[hx,if_true]
   exact⟨by simp[untilS,hx,subL],by rw[List.length_cons];omega⟩
  ·have hx':=Bool.eq_false_iff.2 hx
   simp only[hx',if_false,Bool.false_eq_true]
   unfold untilS at h1 ⊢
   rw[List.takeWhile_cons,hx']
   simp only[Bool.not_false,if_true]
   rw[← h1]
   by_cases hf:decide (0≤findR (fun i=>s==l.getD i default) l.length)=true
   ·have h0:0≤findR (fun i=>s==l.getD i default) l.length:=by simpa using hf
    simp only[hf,if_true]
    have h3:decide (0≤findR (fun i=>s==l.getD i default) l.length+1)=true:=by rw[decide_eq_true_eq];omega
    refine⟨?_,by rw[List.length_cons];omega⟩
    rw[if_pos h3,subL_eq (by rw[List.length_cons];omega),subL_eq (by omega)]
    rw[show (findR (fun i=>s==l.getD i default) l.length+1).toNat=(findR (fun i=>s==l.getD i default) l.length).toNat+1 by omega]
    simp
   ·simp only[hf,if_false,Bool.false_eq_true]
    exact⟨by simp,by rw[List.length_cons];omega⟩
theorem tail_sub (l:List Int):subL l 1 (l.length - 1)=l.tail:=by
 cases l with
 | nil=>rfl
 | cons x l=>rw[subL_eq (by rw[List.length_cons];omega)];simp
theorem pathS_pos {c:T27} {x:Int} (hx:isS c x=true):(1:Int)≤((pathS c x).length:Int):=by rw[pathS_step hx,List.length_cons];omega
end Go.Av.Ch
set_option maxRecDepth 100000
namespace Go.Av.Ch
theorem pass_eq {c:T27} (G:Good c) {x:Int} (hx:isS c x=true) {m:List Int} (M:MemOk c m) (leaf:Int) {a:List (List UInt8)} (ha:a.length≤100000):m112o0 x c leaf m a=some (m.set x.toNat (-1)):=by
 have he:=G.entry x hx
 have hl:=(isS_lt hx).2.2
 have h1:(a.length+(c.States.getD x.toNat default).Entry.length) * 16≤140737488355328:=by unfold stA at he;omega
 have h2:x < (m.length:Int):=by have:=M.len;have:=isS_iff.1 hx;omega
 have h3:x.toNat < m.length:=by have:=M.len;omega
 delta m112o0 d112o0
 simp only[↓JD.sg_m,↓JD.sq_m,↓JD.sc_m,↓JD.bk_m,↓JD.lp_m,↓JD.cd_m,↓JD.lu_m,↓JD.ct_m,↓JD.ce_m,↓JL.r_m,↓JL.z_m,↓JD.se_m,onE_r,↓Tr.run,↓Tr.run_nd,↓Tr.run_c3,↓Tr.run_c2,↓Tr.run_nx,↓onS,bind_ite,Option.bind_some,Option.bind_none,obR,isS_lt hx,h1,h2,h3,if_true]
 by_cases hh:(c.States.getD x.toNat default).History=true
 ·simp only[hh,if_true]
 ·have hh:=Bool.eq_false_iff.2 hh
  simp only[hh,Bool.false_eq_true,if_false]
  rw[set_same h3 (M.none hx hh)]
theorem enter_eq {c:T27} (G:Good c) (H:Fit c) {x:Int} (hx:isS c x=true) {m:List Int} (M:MemOk c m) (leaf:Int) {a:List (List UInt8)} (ha:a.length≤80000):m113o0 x c leaf m a=some (enterS c x m a):=by
 have hs:=H.states
 have hm:=M.len
 delta m113o0 d113o0
 simp only[↓JD.sg_m,↓JD.sq_m,↓JD.sc_m,↓JD.bk_m,↓JD.lp_m,↓JD.cd_m,↓JD.lu_m,↓JD.ct_m,↓JD.ce_m,↓JL.r_m,↓JL.z_m,↓JD.se_m,onE_r,↓Tr.run,↓Tr.run_nd,↓Tr.run_c3,↓Tr.run_c2,↓Tr.run_nx,↓onS,bind_ite,Option.bind_some,Option.bind_none,obR]
 refine enter_loop G (fun x m' a hx M' ha=>?_) _ _ _ _ hx M (by omega) (by omega)
 have hl:=(isS_lt hx).2.2
 have h2:x < (m.length:Int):=by have:=isS_iff.1 hx;omega
 have h3:x.toNat < m.length:=by omega
 have h4:subL m' 0 m.length=m':=subL_all (by rw[M'.len,hm])
 simp only[isS_lt hx,h2,h3,h4,implies_true,if_true,pass_eq G hx M' leaf ha,Option.bind_some]
 cases hc:comp c x with
 | true =>
  obtain⟨q1,q2⟩:=child_is G (nextS_child G M' hx hc)
  have q3:=isS_iff.1 q1
  unfold nextS stA at *
  simp only[if_true]
  by_cases hh:((c.States.getD x.toNat default).History&&(m'.getD x.toNat default != (-1:Int)))=true
  ·rw[if_pos hh]at q3
   have:(m'.getD x.toNat default==(-1:Int))=false:=by simp only[beq_eq_false_iff_ne,ne_eq];omega
   simp only[hh,this,if_true,Bool.false_eq_true,if_false]
  ·rw[if_neg hh]at q3
   have hh:=Bool.eq_false_iff.2 hh
   have:((c.States.getD x.toNat default).Initial==(-1:Int))=false:=by simp only[beq_eq_false_iff_ne,ne_eq];omega
   simp only[hh,this,if_true,Bool.false_eq_true,if_false]
 | false =>
  obtain⟨q1,q2⟩:=G.leafI x hx hc
  unfold stA at *
  simp only[q1,q2,Bool.false_and,Bool.false_eq_true,if_false,beq_self_eq_true,if_true]
  rw[set_same (by rw[M'.len];omega) (M'.none hx q2)]
theorem scope_eq {c:T27} (H:Fit c) {a b:Int} (ha:isS c a=true) (hb:isS c b=true):m114 c a b=some (scopeS c a b):=by
 have hs:=H.states
 have hla:=pathS_len c a
 have hlb:=pathS_len c b
 have hl:(pathS c b).tail.length≤100000:=by rw[List.length_tail];omega
 delta m114 d114
 simp only[↓JD.sg_m,↓JD.sq_m,↓JD.sc_m,↓JD.bk_m,↓JD.lp_m,↓JD.cd_m,↓JD.lu_m,↓JD.ct_m,↓JD.ce_m,↓JL.r_m,↓JL.z_m,↓JD.se_m,onE_r,↓Tr.run,↓Tr.run_nd,↓Tr.run_c3,↓Tr.run_c2,↓Tr.run_nx,↓onS,bind_ite,Option.bind_some,Option.bind_none,obR,Path_eq c H,Option.bind_some,Int.reduceLE,pathS_pos ha,pathS_pos hb,if_true,onS_l,Int.toNat_one,tail_sub,containsI_eq _ _ hl]
 rw[show ((pathS c a).length - 1)=(pathS c a).tail.length by rw[List.length_tail]]
 rw[loop_ex (pathS c a).tail.length (fun i=>if hasK (pathS c b).tail (pathS c b).tail.length ((pathS c a).tail.getD i default)=true then some ((pathS c a).tail.getD i default)else none) ?_ ?_,firstR_find,orK_getD];rfl
 ·intro i hi
  rw[List.length_tail]at hi
  have hi':i < (pathS c a).tail.length:=by rw[List.length_tail];exact hi
  have hta:(pathS c a).tail.length≤1000:=by rw[List.length_tail];omega
  simp only[exB_ite,exB_some,exB_none]
  simp only[inL hi',decide_true,Int.toNat_natCast,if_true,wr1 hi' (by omega)]
 ·(simp only[lt_irr,decide_false,Bool.false_eq_true,if_false];try rfl)
theorem leave_key {c:T27} (G:Good c) (s:Int) {p:List Int} {S X:Type} {b:S→Option (S⊕X)} (mk:Int→Int→List Int→List (List UInt8)→S) (out:List Int×List (List UInt8)→X)
  (hb:∀ (pre l:List Int) (x last:Int) (m:List Int) (a:List (List UInt8)),p=pre++x :: l→isS c x=true→MemOk c m→((last = -1∧(stA c x).History=false)∨childS c last x=true)→a.length≤90000 →
   b (mk last (pre.length:Int) m a)=if(x==s)=true then some (.inr (out (m,a)))else some (.inl (mk x ((pre.length+1:Nat):Int) (if((stA c x).History&&(last != (-1:Int)))=true then m.set x.toNat last else m) (a++(stA c x).Exit))))
  (he:∀ last m a,b (mk last (p.length:Int) m a)=some (.inr (out (m,a)))) :
  ∀ (n:Nat) (pre:List Int) (x last:Int) (m:List Int) (a:List (List UInt8)),p=pre++pathS c x→x.toNat≤n→isS c x=true→MemOk c m→((last = -1∧(stA c x).History=false)∨childS c last x=true)→a.length+8 * (n+1)≤90000 →
   loopO b (mk last (pre.length:Int) m a)=some (out (leaveS c s (pathS c x) last m a)):=by
 intro n
 induction n with
 | zero =>
  intro pre x last m' a hpre hn hx M' hl ha
  have he8:=G.exit_ x hx
  rw[pathS_step hx]at hpre ⊢
  rw[loopO_eq,hb pre _ x last m' a hpre hx M' hl (by omega)]
  unfold leaveS
  by_cases hxs:(x==s)=true
  ·simp only[hxs,if_true,Option.bind_some]
  ·simp only[hxs,if_false,Bool.false_eq_true,Option.bind_some]
   cases ht:topB c x with
   | false=>have:=(parent_is G hx ht).2.1;omega
   | true =>
    rw[ht]at hpre
    simp only[if_true]at hpre ⊢
    rw[loopO_eq,show pre.length+1=p.length by rw[hpre];simp,he];rfl
 | succ n ih =>
  intro pre x last m' a hpre hn hx M' hl ha
  have he8:=G.exit_ x hx
  rw[pathS_step hx]at hpre ⊢
  rw[loopO_eq,hb pre _ x last m' a hpre hx M' hl (by omega)]
  unfold leaveS
  by_cases hxs:(x==s)=true
  ·simp only[hxs,if_true,Option.bind_some]
  ·simp only[hxs,if_false,Bool.false_eq_true,Option.bind_some]
   cases ht:topB c x with
   | true =>
    rw[ht]at hpre
    simp only[if_true]at hpre ⊢
    rw[loopO_eq,show pre.length+1=p.length by rw[hpre];simp,he];rfl
   | false =>
    obtain⟨p1,p2,p3⟩:=parent_is G hx ht
    rw[ht]at hpre
    simp only[Bool.false_eq_true,if_false]at hpre ⊢
    have:=ih (pre++[x]) (stA c x).Parent x _ (a++(stA c x).Exit) (by rw[hpre];simp[stA]) (by omega) p1 (mem_leave M' hx (hl.imp (·.1) id)) (.inr p3) (by rw[List.length_append];omega)
    rw[List.length_append]at this
    exact this
theorem leave_eq {c:T27} (G:Good c) (H:Fit c) (s:Int) {leaf:Int} (hx:isS c leaf=true) (hc:comp c leaf=false) {m:List Int} (M:MemOk c m):m115o0 s c leaf m []=some (leaveS c s (pathS c leaf) (-1) m []):=by
 have hs:=H.states
 have hm:=M.len
 have hp:=pathS_len c leaf
 have hlf:=(isS_lt hx).2.2
 have hh:=(G.leafI leaf hx hc).2
 delta m115o0 d115o0
 simp only[↓JD.sg_m,↓JD.sq_m,↓JD.sc_m,↓JD.bk_m,↓JD.lp_m,↓JD.cd_m,↓JD.lu_m,↓JD.ct_m,↓JD.ce_m,↓JL.r_m,↓JL.z_m,↓JD.se_m,onE_r,↓Tr.run,↓Tr.run_nd,↓Tr.run_c3,↓Tr.run_c2,↓Tr.run_nx,↓onS,bind_ite,Option.bind_some,Option.bind_none,obR,Path_eq c H,onS_l]
 generalize hP:pathS c leaf=p at *
 rw[show leaveS c s p (-1) m []=leaveS c s (pathS c leaf) (-1) m [] by rw[hP]]
 refine leave_key G s (p:=p) (fun last i m a=>(last,i,m,a)) id (fun pre l x last m' a hpre hx M' hl ha=>?_) (fun last m' a=>?_) leaf.toNat [] leaf (-1) m [] (by rw[hP];rfl) (Nat.le_refl _) hx M (.inl ⟨rfl,hh⟩) (by simp;omega)
 ·have hi:pre.length < p.length:=by rw[hpre];simp
  have hg:p.getD pre.length default=x:=by rw[hpre];simp[List.getD_eq_getElem?_getD]
  have he8:=G.exit_ x hx
  have h1:(a.length+(c.States.getD x.toNat default).Exit.length) * 16≤140737488355328:=by unfold stA at he8;omega
  have h2:x < (m.length:Int):=by have:=isS_iff.1 hx;omega
  have h3:x.toNat < m.length:=by have:=(isS_lt hx).2.2;omega
  have h4:subL m' 0 m.length=m':=subL_all (by rw[M'.len,hm])
  simp only[inL hi,decide_true,Int.toNat_natCast,if_true,hg,isS_lt hx,h1,h2,h3,h4,wr1 hi (by omega)]
  refine ite_else ?_
  unfold stA
  by_cases hh:((c.States.getD x.toNat default).History&&(last != (-1:Int)))=true
  ·simp only[hh,if_true];rfl
  ·simp only[hh,if_false,Bool.false_eq_true];rfl
 ·simp only[lt_irr,decide_false,Bool.false_eq_true,if_false];rfl
theorem around_fold {c:T27} (G:Good c) {l:List Int} (hl:∀ x∈l,isS c x=true) (h1:l.length≤2000) {m:List Int} (M:MemOk c m) {a:List (List UInt8)} (ha:a.length≤60000) {f:List Int×List (List UInt8)→Nat→Option (List Int×List (List UInt8))}
  (hf:∀ (x:Int) (i:Nat) (m':List Int) (a':List (List UInt8)),i < l.length→l.getD i 0=x→isS c x=true→MemOk c m'→a'.length≤100000→f (m',a') i=some (m'.set x.toNat (-1),a'++(stA c x).Entry)) :
  (dn l.length l.length).foldlM f (m,a)=some (aroundS c l m a):=by
 have key:∀ k,k≤l.length→(dn l.length k).foldlM f (m,a)=some (aroundS c (l.drop (l.length - k)) m a):=by
  intro k
  induction k with
  | zero=>intro _;simp[dn,aroundS]
  | succ k ih =>
   intro hk
   have e:dn l.length (k+1)=dn l.length k++[l.length - 1 - k]:=by unfold dn;rw[List.range_succ,List.map_append];rfl
   have hi:l.length - 1 - k < l.length:=by omega
   have hd:l.drop (l.length - (k+1))=l.getD (l.length - 1 - k) 0 :: l.drop (l.length - k):=by
    rw[show l.length - (k+1)=l.length - 1 - k by omega,List.drop_eq_getElem_cons hi,show l.length - 1 - k+1=l.length - k by omega]
    simp[List.getD_eq_getElem?_getD,List.getElem?_eq_getElem hi]
   have hx:isS c (l.getD (l.length - 1 - k) 0)=true:=hl _ (by rw[List.getD_eq_getElem?_getD,List.getElem?_eq_getElem hi];exact List.getElem_mem hi)
   obtain⟨k1,k2⟩:=aroundS_ok G (a:=a) M (l.drop (l.length - k)) fun x hx=>hl x (List.mem_of_mem_drop hx)
   rw[e,List.foldlM_append,ih (by omega),hd]
   show (f _ _).bind _=_
   rw[hf _ _ _ _ hi rfl hx k1 (by rw[List.length_drop]at k2;omega)]
   rfl
 have:=key l.length (Nat.le_refl _)
 rwa [Nat.sub_self,List.drop_zero]at this
theorem into_eq {c:T27} (G:Good c) (H:Fit c) {to:Int} (ht:isS c to=true) (s:Int) (leaf:Int) {m:List Int} (M:MemOk c m) {a:List (List UInt8)} (ha:a.length≤60000) :
  m65o0 to s c leaf m a=some (enterS c to (aroundS c (untilS s (pathS c to).tail) m a).1 (aroundS c (untilS s (pathS c to).tail) m a).2):=by
 have hs:=H.states
 have hm:=M.len
 have hp:=pathS_len c to
 have hl:(pathS c to).tail.length≤100000:=by rw[List.length_tail];omega
 obtain⟨u1,u2⟩:=until_eq (s:=s) (pathS c to).tail
 have hu:=untilS_len (s:=s) (l:=(pathS c to).tail)
 have e1:(d65o0_1 to s c leaf m a).m=some (pathS c to).tail:=by
  delta d65o0_1
  simp only[↓JD.sg_m,↓JD.sq_m,↓JD.sc_m,↓JD.bk_m,↓JD.lp_m,↓JD.cd_m,↓JD.lu_m,↓JD.ct_m,↓JD.ce_m,↓JL.r_m,↓JL.z_m,↓JD.se_m,onE_r,↓Tr.run,↓Tr.run_nd,↓Tr.run_c3,↓Tr.run_c2,↓Tr.run_nx,↓onS,bind_ite,Option.bind_some,Option.bind_none,obR,Path_eq c H,Option.bind_some,Int.reduceLE,pathS_pos ht,if_true,Int.toNat_one,tail_sub]
 have e2:(d65o0_2 to s c leaf m a (pathS c to).tail).m=some (untilS s (pathS c to).tail):=by
  delta d65o0_2
  simp only[↓JD.sg_m,↓JD.sq_m,↓JD.sc_m,↓JD.bk_m,↓JD.lp_m,↓JD.cd_m,↓JD.lu_m,↓JD.ct_m,↓JD.ce_m,↓JL.r_m,↓JL.z_m,↓JD.se_m,onE_r,↓Tr.run,↓Tr.run_nd,↓Tr.run_c3,↓Tr.run_c2,↓Tr.run_nx,↓onS,bind_ite,Option.bind_some,Option.bind_none,obR,indexI_eq _ _ hl]
  rw[← u1]
  by_cases h0:decide (0≤findR (fun i=>s==(pathS c to).tail.getD i default) (pathS c to).tail.length)=true
  ·have h1:0≤findR (fun i=>s==(pathS c to).tail.getD i default) (pathS c to).tail.length:=by simpa using h0
   simp only[h1,u2,decide_true,if_true]
  ·simp only[h0,if_false,Bool.false_eq_true]
 have e3:(d65o0_3 to s c leaf m a (pathS c to).tail (untilS s (pathS c to).tail)).m=some ():=by
  delta d65o0_3
  simp only[↓JD.sg_m,↓JD.sq_m,↓JD.sc_m,↓JD.bk_m,↓JD.lp_m,↓JD.cd_m,↓JD.lu_m,↓JD.ct_m,↓JD.ce_m,↓JL.r_m,↓JL.z_m,↓JD.se_m,onE_r,↓Tr.run,↓Tr.run_nd,↓Tr.run_c3,↓Tr.run_c2,↓Tr.run_nx,↓onS,bind_ite,Option.bind_some,Option.bind_none,obR,m111o0,d111o0]
 obtain⟨r1,r2⟩:=aroundS_ok G (a:=a) M (untilS s (pathS c to).tail) fun x hx=>tail_is x (untilS_sub x hx)
 rw[List.length_tail]at hu
 delta m65o0
 rw[show (d65o0_0 to s c leaf m a).m=some () from rfl,Option.bind_some,e1,Option.bind_some,e2,Option.bind_some,e3,Option.bind_some,if_pos (by omega)]
 rw[around_fold G (fun x hx=>tail_is x (untilS_sub x hx)) (by omega) M ha ?_,Option.bind_some]
 ·delta d65o0_p
  have h4:subL (aroundS c (untilS s (pathS c to).tail) m a).1 0 m.length=(aroundS c (untilS s (pathS c to).tail) m a).1:=subL_all (by rw[r1.len,hm])
  simp only[↓JD.sg_m,↓JD.sq_m,↓JD.sc_m,↓JD.bk_m,↓JD.lp_m,↓JD.cd_m,↓JD.lu_m,↓JD.ct_m,↓JD.ce_m,↓JL.r_m,↓JL.z_m,↓JD.se_m,onE_r,↓Tr.run,↓Tr.run_nd,↓Tr.run_c3,↓Tr.run_c2,↓Tr.run_nx,↓onS,bind_ite,Option.bind_some,Option.bind_none,obR,h4,enter_eq G H ht r1 leaf (a:=(aroundS c (untilS s (pathS c to).tail) m a).2) (by omega)]
 ·intro x i m' a' hi hg hx M' ha'
  have h4:subL m' 0 m.length=m':=subL_all (by rw[M'.len,hm])
  delta mr65o0
  simp only[hg,h4,pass_eq G hx M' leaf ha',Option.map_some]
theorem begun_eq {c:T27} (H:Fit c) {g:T37} (hl:g.Memory.length=c.States.length):m63o0 c g=some ():=by
 have hs:=H.states
 have h1:((0:Int)≤(g.Memory.length:Int)):=by omega
 have h2:(g.Memory.length:Int) * 8≤140737488355328:=by omega
 have h3:(g.Memory.length:Int)≤9223372036854775807:=by omega
 delta m63o0 d63o0
 simp only[↓JD.sg_m,↓JD.sq_m,↓JD.sc_m,↓JD.bk_m,↓JD.lp_m,↓JD.cd_m,↓JD.lu_m,↓JD.ct_m,↓JD.ce_m,↓JL.r_m,↓JL.z_m,↓JD.se_m,onE_r,↓Tr.run,↓Tr.run_nd,↓Tr.run_c3,↓Tr.run_c2,↓Tr.run_nx,↓onS,bind_ite,Option.bind_some,Option.bind_none,obR,h1,h2,h3,if_true]
theorem copyL_full {l:List Int} {n:Nat} (h:l.length=n):copyL (List.replicate n (0:Int)) l=l:=by
 subst h
 rw[copyL,List.length_replicate,List.take_length,List.drop_eq_nil_of_le (by simp),List.append_nil]
theorem fire_of {c:T27} (G:Good c) (H:Fit c) {g:T37} (hg:validS c g=true) {i:Nat} (hi:i < c.Transitions.length) (he:checkM c=some 0) (hon:hasK (pathS c g.Leaf) (pathS c g.Leaf).length (c.Transitions.getD i default).From=true) :
  m67 c g i=some (⟨(fireS c g (c.Transitions.getD i default)).1,(fireS c g (c.Transitions.getD i default)).2.1⟩,(fireS c g (c.Transitions.getD i default)).2.2,0):=by
 have hs:=H.states
 obtain⟨v1,v2,v3⟩:=validS_iff.1 hg
 have hml:=v3.len
 have hp:=pathS_len c g.Leaf
 have hlf:=(isS_lt v1).2.2
 have ha:=G.acts i hi
 obtain⟨hf,ht⟩:=G.tr i hi
 obtain⟨a1,a2⟩:=leaveS_ok G (s:=scopeS c (c.Transitions.getD i default).From (c.Transitions.getD i default).To) g.Leaf.toNat g.Leaf (-1) g.Memory [] (Nat.le_refl _) v1 v3 (.inl rfl)
 simp only[List.length_nil]at a2
 have h16:((leaveS c (scopeS c (c.Transitions.getD i default).From (c.Transitions.getD i default).To) (pathS c g.Leaf) (-1) g.Memory []).2.length+(c.Transitions.getD i default).Actions.length) * 16≤140737488355328:=by omega
 have hsub:∀ m:List Int,m.length=c.States.length→subL m 0 g.Memory.length=m:=fun m h=>subL_all (by rw[h,hml])
 have hrange:(decide ((i:Int) < 0) || decide ((c.Transitions.length:Int)≤(i:Int)))=false:=by simp;omega
 have hend:=(fireS_ok G H hg hi).1
 have hmend:=(validS_iff.1 hend).2.2.len
 delta m67 d67
 simp only[↓JD.sg_m,↓JD.sq_m,↓JD.sc_m,↓JD.bk_m,↓JD.lp_m,↓JD.cd_m,↓JD.lu_m,↓JD.ct_m,↓JD.ce_m,↓JL.r_m,↓JL.z_m,↓JD.se_m,onE_r,↓Tr.run,↓Tr.run_nd,↓Tr.run_c3,↓Tr.run_c2,↓Tr.run_nx,↓onS,bind_ite,Option.bind_some,Option.bind_none,obR,Check_eq c H,he,Valid_eq c H,hg,Path_eq c H,inL hi,Int.toNat_natCast,if_true,Option.bind_some,containsI_eq _ _ (show (pathS c g.Leaf).length≤100000 by omega),hon,hrange,begun_eq H hml,scope_eq H hf ht,copyL_full (rfl:g.Memory.length=_),leave_eq G H _ v1 v2 v3,h16,
  hsub _ a1.len,bne_self_eq_false,Bool.not_true,Bool.false_eq_true,if_false]
 rw[into_eq G H ht _ _ a1 (by rw[List.length_append];omega)]
 simp only[Option.bind_some]
 have:=hsub _ hmend
 unfold fireS at this
 rw[this]
 rfl
end Go.Av.Ch
set_option maxRecDepth 100000
namespace Go.Av.Ch
theorem untilS_all {s:Int} {l:List Int} (h:∀ x∈l,x≠s):untilS s l=l:=by
 unfold untilS
 induction l with
 | nil=>rfl
 | cons x l ih =>
  have hx:(s==x)=false:=by simp only[beq_eq_false_iff_ne,ne_eq];exact fun e=>h x (by simp) e.symm
  rw[List.takeWhile_cons,hx,ih fun y hy=>h y (List.mem_cons_of_mem _ hy)];rfl
def startM (c:T27):Option (Int×List (List UInt8)×Int×List Int):=(checkM c).bind fun e=>if(e != 0)=true then some (e,[],0,[])else some (0,(startS c).2.2,(startS c).1,(startS c).2.1)
theorem Start_eq (c:T27) (H:Fit c):m28o0 c=startM c:=by
 obtain⟨e,he⟩:=checkM_some c
 unfold startM
 rw[he,Option.bind_some]
 delta m28o0 d28o0
 by_cases h0:(e != 0)=true
 ·simp only[↓JD.sg_m,↓JD.sq_m,↓JD.sc_m,↓JD.bk_m,↓JD.lp_m,↓JD.cd_m,↓JD.lu_m,↓JD.ct_m,↓JD.ce_m,↓JL.r_m,↓JL.z_m,↓JD.se_m,onE_r,↓Tr.run,↓Tr.run_nd,↓Tr.run_c3,↓Tr.run_c2,↓Tr.run_nx,↓onS,bind_ite,Option.bind_some,Option.bind_none,obR,Check_eq c H,he,h0,if_true]
 ·have h0':e=0:=by simpa using h0
  subst h0'
  have G:=good_of he
  have hcap:=G.cap
  have hrep:m64 [-1] (c.States.length:Int)=some (List.replicate c.States.length (-1)):=by
   unfold m64
   simp only[Int.toNat_natCast]
   rw[if_pos (by omega)]
  have hb:=begun_eq H (g:=⟨0,List.replicate c.States.length (-1)⟩) (by simp)
  have hl:(List.replicate c.States.length (-1:Int)).length=c.States.length:=by simp
  have hu:untilS (-1) (pathS c c.Start).tail=(pathS c c.Start).tail:=untilS_all fun x hx=>by
   have:=isS_iff.1 (tail_is x hx);omega
  have hi:=into_eq G H G.start (-1) 0 mem_begin (a:=[]) (by simp)
  rw[hu]at hi
  have hend:=(startS_ok G H).1
  have hmend:=(validS_iff.1 hend).2.2.len
  simp only[↓JD.sg_m,↓JD.sq_m,↓JD.sc_m,↓JD.bk_m,↓JD.lp_m,↓JD.cd_m,↓JD.lu_m,↓JD.ct_m,↓JD.ce_m,↓JL.r_m,↓JL.z_m,↓JD.se_m,onE_r,↓Tr.run,↓Tr.run_nd,↓Tr.run_c3,↓Tr.run_c2,↓Tr.run_nx,↓onS,bind_ite,Option.bind_some,Option.bind_none,obR,Check_eq c H,he,h0,if_false,Bool.false_eq_true,hrep,hb,hl,Int.toNat_natCast,copyL_full hl,hi]
  rw[subL_all (by unfold startS at hmend;exact hmend)]
  rfl
theorem enabled_at {c:T27} {leaf v:Int} (h:0 < (enabledS c leaf v).length):∃ i,i < c.Transitions.length∧(enabledS c leaf v).getD 0 default=(i:Int)∧hasK (pathS c leaf) (pathS c leaf).length (c.Transitions.getD i default).From=true:=by
 have hm:(enabledS c leaf v).getD 0 default∈enabledS c leaf v:=getD_mem h
 generalize (enabledS c leaf v).getD 0 default=x at *
 unfold enabledS at hm
 obtain⟨i,hi,hx⟩:=List.mem_flatMap.1 hm
 unfold enabG at hx
 split at hx
 ·rename_i h1
  simp only[Bool.and_eq_true]at h1
  exact⟨i,List.mem_range.1 hi,by simpa using hx,h1.1⟩
 ·cases hx
def fireR (c:T27) (g:T37) (t:Int):T37×List (List UInt8)×Int:=(⟨(fireS c g (c.Transitions.getD t.toNat default)).1,(fireS c g (c.Transitions.getD t.toNat default)).2.1⟩,(fireS c g (c.Transitions.getD t.toNat default)).2.2,0)
def stepM (c:T27) (g:T37) (v:Int):Option (T37×List (List UInt8)×Int):=(checkM c).bind fun e=>if(e != 0)=true then some (⟨0,[]⟩,[],e)else if(!validS c g)=true then some (⟨0,[]⟩,[],8)else if(!allowedS c v)=true then some (⟨0,[]⟩,[],1)else
 if(((enabledS c g.Leaf v).length:Int)==0)=true then some (⟨0,[]⟩,[],6)else if(((enabledS c g.Leaf v).length:Int)==1)=true then some (fireR c g ((enabledS c g.Leaf v).getD 0 default))else some (⟨0,[]⟩,[],11)
theorem Step_eq (c:T27) (H:Fit c) (g:T37) (v:Int):m29 c g v=stepM c g v:=by
 obtain⟨e,he⟩:=checkM_some c
 unfold stepM
 rw[he,Option.bind_some]
 delta m29 d29
 by_cases h0:(e != 0)=true
 ·simp only[↓JD.sg_m,↓JD.sq_m,↓JD.sc_m,↓JD.bk_m,↓JD.lp_m,↓JD.cd_m,↓JD.lu_m,↓JD.ct_m,↓JD.ce_m,↓JL.r_m,↓JL.z_m,↓JD.se_m,onE_r,↓Tr.run,↓Tr.run_nd,↓Tr.run_c3,↓Tr.run_c2,↓Tr.run_nx,↓onS,bind_ite,Option.bind_some,Option.bind_none,obR,Check_eq c H,he,h0,if_true]
 ·have h0':e=0:=by simpa using h0
  subst h0'
  simp only[↓JD.sg_m,↓JD.sq_m,↓JD.sc_m,↓JD.bk_m,↓JD.lp_m,↓JD.cd_m,↓JD.lu_m,↓JD.ct_m,↓JD.ce_m,↓JL.r_m,↓JL.z_m,↓JD.se_m,onE_r,↓Tr.run,↓Tr.run_nd,↓Tr.run_c3,↓Tr.run_c2,↓Tr.run_nx,↓onS,bind_ite,Option.bind_some,Option.bind_none,obR,Check_eq c H,he,h0,if_false,Bool.false_eq_true,Valid_eq c H,Allowed_eq c H,Enabled_eq c H]
  cases hv:validS c g with
  | false=>rfl
  | true =>
   simp only[Bool.not_true,Bool.false_eq_true,if_false]
   refine ite_else (ite_else ?_)
   by_cases h1:(((enabledS c g.Leaf v).length:Int)==1)=true
   ·have hl:(enabledS c g.Leaf v).length=1:=by have:=eq_of_beq h1;omega
    obtain⟨i,hi,hx,hon⟩:=enabled_at (c:=c) (leaf:=g.Leaf) (v:=v) (by omega)
    have hz:(0:Int) < ((enabledS c g.Leaf v).length:Int):=by omega
    simp only[h1,hz,Int.le_refl,if_true,Int.toNat_zero,hx,fire_of (good_of he) H hv hi he hon,fireR,Int.toNat_natCast,Option.bind_some]
   ·simp only[h1,if_false,Bool.false_eq_true]
theorem stepM_some (c:T27) (g:T37) (v:Int):∃ r,stepM c g v=some r:=by
 obtain⟨e,he⟩:=checkM_some c
 unfold stepM
 rw[he,Option.bind_some]
 exact ite_total (ite_total (ite_total (ite_total (ite_total ⟨_,rfl⟩))))
theorem stepM_ok {c:T27} (H:Fit c) {g:T37} {v:Int} {r:T37×List (List UInt8)×Int} (h:stepM c g v=some r):r.2.1.length≤32000∧(r.2.2=0→checkM c=some 0∧validS c g=true∧validS c r.1=true):=by
 obtain⟨e,he⟩:=checkM_some c
 unfold stepM at h
 rw[he,Option.bind_some]at h
 split at h
 ·rename_i h0;injection h with h;subst h;exact⟨by simp,fun h=>absurd h (by simpa using h0)⟩
 rename_i h0
 have h0':e=0:=by simpa using h0
 subst h0'
 split at h
 ·injection h with h;subst h;exact⟨by simp,fun h=>absurd h (by decide)⟩
 rename_i hv
 have hv:validS c g=true:=by simpa using hv
 split at h
 ·injection h with h;subst h;exact⟨by simp,fun h=>absurd h (by decide)⟩
 split at h
 ·injection h with h;subst h;exact⟨by simp,fun h=>absurd h (by decide)⟩
 split at h
 ·rename_i h1
  have hl:(enabledS c g.Leaf v).length=1:=by have:=eq_of_beq h1;omega
  obtain⟨i,hi,hx,hon⟩:=enabled_at (c:=c) (leaf:=g.Leaf) (v:=v) (by omega)
  injection h with h;subst h
  rw[hx]
  unfold fireR
  rw[Int.toNat_natCast]
  obtain⟨k1,k2⟩:=fireS_ok (good_of he) H hv hi
  exact⟨k2,fun _=>⟨he,hv,k1⟩⟩
 ·injection h with h;subst h;exact⟨by simp,fun h=>absurd h (by decide)⟩
end Go.Av.Ch
set_option maxRecDepth 100000
namespace Go.Av.Ch
theorem down_loop {c:T27} (G:Good c) {l:List Int} (hl:∀ x∈l,isS c x=true) (h1:l.length≤2000) {m:List Int} (M:MemOk c m) {a:List (List UInt8)} (ha:a.length≤60000) {R:Type} {b:List Int×List (List UInt8)×Int→Option ((List Int×List (List UInt8)×Int)⊕((List Int×List (List UInt8))⊕R))}
  (hb:∀ (j:Nat) (m:List Int) (a:List (List UInt8)) (x:Int),j < l.length→l.getD j default=x→isS c x=true→MemOk c m→a.length≤100000→b (m,a,(j:Int))=some (.inl (m.set x.toNat (-1),a++(stA c x).Entry,(j:Int) - 1)))
  (he:∀ m a,b (m,a,-1)=some (.inr (.inl (m,a)))):loopO b (m,a,(l.length:Int) - 1)=some (.inl (aroundS c l m a)):=by
 have key:∀ j,j≤l.length→loopO b ((aroundS c (l.drop j) m a).1,(aroundS c (l.drop j) m a).2,(j:Int) - 1)=some (.inl (aroundS c l m a)):=by
  intro j
  induction j with
  | zero=>intro _;rw[show ((0:Nat):Int) - 1 = -1 from rfl,loopO_eq,he];rfl
  | succ j ih =>
   intro hj
   have hi:j < l.length:=by omega
   have hx:isS c (l.getD j default)=true:=hl _ (getD_mem hi)
   obtain⟨k1,k2⟩:=aroundS_ok G (a:=a) M (l.drop (j+1)) fun x hx=>hl x (List.mem_of_mem_drop hx)
   rw[show ((j+1:Nat):Int) - 1=(j:Int) by omega,loopO_eq,hb j _ _ _ hi rfl hx k1 (by rw[List.length_drop]at k2;omega)]
   have hd:l.drop j=l.getD j default :: l.drop (j+1):=by
    rw[List.drop_eq_getElem_cons hi];simp[List.getD_eq_getElem?_getD,List.getElem?_eq_getElem hi]
   have:=ih (by omega)
   rw[hd]at this
   exact this
 have:=key l.length (Nat.le_refl _)
 rwa [List.drop_length]at this
theorem around0_eq {c:T27} (G:Good c) (H:Fit c) {l:List Int} (hl:∀ x∈l,isS c x=true) (h1:l.length≤2000) {m:List Int} (M:MemOk c m) {a:List (List UInt8)} (ha:a.length≤60000) :
  m122o0 c m l a=some ((aroundS c l m a).2,(aroundS c l m a).1,(aroundS c l m a).2):=by
 have hs:=H.states
 have hm:=M.len
 have w:IntKind.wrap .i64 ((l.length:Int) - 1)=(l.length:Int) - 1:=w64 (by omega) (by omega)
 delta m122o0 d122o0
 simp only[↓JD.sg_m,↓JD.sq_m,↓JD.sc_m,↓JD.bk_m,↓JD.lp_m,↓JD.cd_m,↓JD.lu_m,↓JD.ct_m,↓JD.ce_m,↓JL.r_m,↓JL.z_m,↓JD.se_m,onE_r,↓Tr.run,↓Tr.run_nd,↓Tr.run_c3,↓Tr.run_c2,↓Tr.run_nx,↓onS,bind_ite,Option.bind_some,Option.bind_none,obR,w]
 refine on_l (down_loop G hl h1 M ha (fun j m' a' x hj hg hx M' ha'=>?_) fun m' a'=>rfl) rfl
 have he:=G.entry x hx
 have k1:(0+a'.length+(c.States.getD x.toNat default).Entry.length) * 16≤140737488355328:=by unfold stA at he;omega
 have k0:(0+a'.length) * 16≤140737488355328:=by omega
 have k2:x < (m.length:Int):=by have:=isS_iff.1 hx;omega
 have k3:x.toNat < m.length:=by have:=(isS_lt hx).2.2;omega
 have k4:subL m' 0 m.length=m':=subL_all (by rw[M'.len,hm])
 have k5:(decide ((0:Int)≤(j:Int))=true)=True:=eq_true (by simp)
 have k6:IntKind.wrap .i64 ((j:Int) - 1)=(j:Int) - 1:=w64 (by omega) (by omega)
 simp only[inL hj,k5,decide_true,Int.toNat_natCast,if_true,hg,isS_lt hx,k0,k1,k2,k3,k4,k6,List.nil_append]
theorem around1_eq {c:T27} (G:Good c) (H:Fit c) {l:List Int} (hl:∀ x∈l,isS c x=true) (h1:l.length≤2000) {m:List Int} (M:MemOk c m) {a:List (List UInt8)} (ha:a.length≤60000) :
  m122o1 c m l a=some ((aroundS c l m a).2,(aroundS c l m a).1,(aroundS c l m a).2):=by
 have hs:=H.states
 have hm:=M.len
 have w:IntKind.wrap .i64 ((l.length:Int) - 1)=(l.length:Int) - 1:=w64 (by omega) (by omega)
 delta m122o1 d122o1
 simp only[↓JD.sg_m,↓JD.sq_m,↓JD.sc_m,↓JD.bk_m,↓JD.lp_m,↓JD.cd_m,↓JD.lu_m,↓JD.ct_m,↓JD.ce_m,↓JL.r_m,↓JL.z_m,↓JD.se_m,onE_r,↓Tr.run,↓Tr.run_nd,↓Tr.run_c3,↓Tr.run_c2,↓Tr.run_nx,↓onS,bind_ite,Option.bind_some,Option.bind_none,obR,w]
 refine on_l (down_loop G hl h1 M ha (fun j m' a' x hj hg hx M' ha'=>?_) fun m' a'=>rfl) rfl
 have he:=G.entry x hx
 have k1:(0+a'.length+(c.States.getD x.toNat default).Entry.length) * 16≤140737488355328:=by unfold stA at he;omega
 have k0:(0+a'.length) * 16≤140737488355328:=by omega
 have k2:x < (m.length:Int):=by have:=isS_iff.1 hx;omega
 have k3:x.toNat < m.length:=by have:=(isS_lt hx).2.2;omega
 have k4:subL m' 0 m.length=m':=subL_all (by rw[M'.len,hm])
 have k5:(decide ((0:Int)≤(j:Int))=true)=True:=eq_true (by simp)
 have k6:IntKind.wrap .i64 ((j:Int) - 1)=(j:Int) - 1:=w64 (by omega) (by omega)
 simp only[inL hj,k5,decide_true,Int.toNat_natCast,if_true,hg,isS_lt hx,k0,k1,k2,k3,k4,k6,List.nil_append]
theorem renter_eq {c:T27} (G:Good c) (H:Fit c) {x:Int} (hx:isS c x=true) {m:List Int} (M:MemOk c m) {a:List (List UInt8)} (ha:a.length≤80000):m124o0 c m x a=some ((enterS c x m a).2.2,(enterS c x m a).1,(enterS c x m a).2.1,(enterS c x m a).2.2):=by
 have hs:=H.states
 have hm:=M.len
 have he:=G.entry x hx
 have k0:(0+a.length) * 16≤140737488355328:=by omega
 have k1:(0+a.length+(c.States.getD x.toNat default).Entry.length) * 16≤140737488355328:=by unfold stA at he;omega
 delta m124o0 d124o0
 simp only[↓JD.sg_m,↓JD.sq_m,↓JD.sc_m,↓JD.bk_m,↓JD.lp_m,↓JD.cd_m,↓JD.lu_m,↓JD.ct_m,↓JD.ce_m,↓JL.r_m,↓JL.z_m,↓JD.se_m,onE_r,↓Tr.run,↓Tr.run_nd,↓Tr.run_c3,↓Tr.run_c2,↓Tr.run_nx,↓onS,bind_ite,Option.bind_some,Option.bind_none,obR,k0,k1,isS_lt hx,if_true,List.nil_append,rcomposite_eq c _ (Nat.le_trans hs (by omega))]
 refine on_l (renter_loop G (fun x m' a hx M' ha=>?_) c.States.length x m a hx M (by omega) (by omega)) rfl
 have hl:=(isS_lt hx).2.2
 have h2:x < (m.length:Int):=by have:=isS_iff.1 hx;omega
 have h3:x.toNat < m.length:=by omega
 have h4:subL m' 0 m.length=m':=subL_all (by rw[M'.len,hm])
 cases hc:comp c x with
 | false=>simp only[Bool.false_eq_true,if_false]
 | true =>
  obtain⟨q1,q2⟩:=child_is G (nextS_child G M' hx hc)
  have q4:=G.entry _ q1
  have q5:(a.length+(stA c (nextS c m' x)).Entry.length) * 16≤140737488355328:=by omega
  have q6:=isS_lt q1
  unfold nextS stA at *
  simp only[isS_lt hx,h2,h3,h4,implies_true,if_true]
  by_cases hh:((c.States.getD x.toNat default).History&&(m'.getD x.toNat default != (-1:Int)))=true
  ·simp only[hh,if_true]at q5 q6 ⊢
   simp only[q5,q6,if_true]
  ·have hh:=Bool.eq_false_iff.2 hh
   simp only[hh,Bool.false_eq_true,if_false]at q5 q6 ⊢
   simp only[q5,q6,if_true]
theorem rscope_eq {c:T27} (H:Fit c) {a b:Int} (ha:isS c a=true) (hb:isS c b=true):m160 c a b=some (scopeS c a b):=by
 have hs:=H.states
 have hla:=pathS_len c a
 have hlb:=pathS_len c b
 have hl:(pathS c b).tail.length≤100000:=by rw[List.length_tail];omega
 delta m160 d160
 simp only[↓JD.sg_m,↓JD.sq_m,↓JD.sc_m,↓JD.bk_m,↓JD.lp_m,↓JD.cd_m,↓JD.lu_m,↓JD.ct_m,↓JD.ce_m,↓JL.r_m,↓JL.z_m,↓JD.se_m,onE_r,↓Tr.run,↓Tr.run_nd,↓Tr.run_c3,↓Tr.run_c2,↓Tr.run_nx,↓onS,bind_ite,Option.bind_some,Option.bind_none,obR,rPath_eq c H,Option.bind_some,Int.reduceLE,pathS_pos ha,pathS_pos hb,if_true,onS_l,Int.toNat_one,tail_sub,on_eq _ _ hl]
 rw[show ((pathS c a).length - 1)=(pathS c a).tail.length by rw[List.length_tail]]
 rw[loop_ex (pathS c a).tail.length (fun i=>if hasK (pathS c b).tail (pathS c b).tail.length ((pathS c a).tail.getD i default)=true then some ((pathS c a).tail.getD i default)else none) ?_ ?_,firstR_find,orK_getD];rfl
 ·intro i hi
  have hta:(pathS c a).tail.length≤1000:=by rw[List.length_tail];omega
  simp only[exB_ite,exB_some,exB_none]
  simp only[inL hi,decide_true,Int.toNat_natCast,if_true,wr1 hi (by omega)]
 ·(simp only[lt_irr,decide_false,Bool.false_eq_true,if_false];try rfl)
theorem until_loop {s:Int} {l:List Int} {R:Type} {b:List Int×Int→Option ((List Int×Int)⊕(List Int⊕R))}
  (hb:∀ (j:Nat) (o:List Int) (x:Int),j < l.length→o.length≤j→l.getD j default=x→b (o,(j:Int))=if(x==s)=true then some (.inr (.inl o))else some (.inl (o++[x],((j+1:Nat):Int))))
  (he:∀ o,b (o,(l.length:Int))=some (.inr (.inl o))):loopO b ([],0)=some (.inl (untilS s l)):=by
 have key:∀ k j (o:List Int),j+k=l.length→o.length≤j→loopO b (o,(j:Int))=some (.inl (o++untilS s (l.drop j))):=by
  intro k
  induction k with
  | zero =>
   intro j o hk ho
   obtain rfl:j=l.length:=by omega
   rw[loopO_eq,he,List.drop_length];simp[untilS]
  | succ k ih =>
   intro j o hk ho
   have hj:j < l.length:=by omega
   have hd:l.drop j=l.getD j default :: l.drop (j+1):=by
    rw[List.drop_eq_getElem_cons hj];simp[List.getD_eq_getElem?_getD,List.getElem?_eq_getElem hj]
   rw[loopO_eq,hb j o _ hj ho rfl,hd]
   by_cases hx:(l.getD j default==s)=true
   ·have hx':(s==l.getD j default)=true:=by rw[eq_of_beq hx];simp
    simp only[hx,if_true,Option.bind_some]
    unfold untilS;rw[List.takeWhile_cons,hx'];simp
   ·have hx':(s==l.getD j default)=false:=by simp only[beq_eq_false_iff_ne,ne_eq];intro e;rw[e]at hx;simp at hx
    simp only[hx,if_false,Bool.false_eq_true,Option.bind_some]
    rw[ih (j+1) _ (by omega) (by rw[List.length_append];simp;omega)]
    unfold untilS;rw[List.takeWhile_cons,hx'];simp
 exact key l.length 0 [] (by omega) (Nat.le_refl _)
theorem rfire_eq {c:T27} (G:Good c) (H:Fit c) {g:T37} (hg:validS c g=true) {i:Nat} (hi:i < c.Transitions.length) :
  m126 c g (c.Transitions.getD i default)=some (⟨(fireS c g (c.Transitions.getD i default)).1,(fireS c g (c.Transitions.getD i default)).2.1⟩,(fireS c g (c.Transitions.getD i default)).2.2):=by
 have hs:=H.states
 obtain⟨v1,v2,v3⟩:=validS_iff.1 hg
 have hml:=v3.len
 have hne:=G.ne
 have hp:=pathS_len c g.Leaf
 have hlf:=(isS_lt v1).2.2
 have ha:=G.acts i hi
 obtain⟨hf,ht⟩:=G.tr i hi
 have hpt:=pathS_len c (c.Transitions.getD i default).To
 have hh:=(G.leafI g.Leaf v1 v2).2
 obtain⟨a1,a2⟩:=leaveS_ok G (s:=scopeS c (c.Transitions.getD i default).From (c.Transitions.getD i default).To) g.Leaf.toNat g.Leaf (-1) g.Memory [] (Nat.le_refl _) v1 v3 (.inl rfl)
 simp only[List.length_nil]at a2
 have h16:((leaveS c (scopeS c (c.Transitions.getD i default).From (c.Transitions.getD i default).To) (pathS c g.Leaf) (-1) g.Memory []).2.length+(c.Transitions.getD i default).Actions.length) * 16≤140737488355328:=by omega
 have hsub:∀ m:List Int,m.length=c.States.length→subL m 0 g.Memory.length=m:=fun m h=>subL_all (by rw[h,hml])
 have hend:=(fireS_ok G H hg hi).1
 have hmend:=(validS_iff.1 hend).2.2.len
 have hu:=untilS_len (s:=scopeS c (c.Transitions.getD i default).From (c.Transitions.getD i default).To) (l:=(pathS c (c.Transitions.getD i default).To).tail)
 obtain⟨r1,r2⟩:=aroundS_ok G (a:=(leaveS c (scopeS c (c.Transitions.getD i default).From (c.Transitions.getD i default).To) (pathS c g.Leaf) (-1) g.Memory []).2++(c.Transitions.getD i default).Actions) a1 (untilS (scopeS c (c.Transitions.getD i default).From (c.Transitions.getD i default).To) (pathS c (c.Transitions.getD i default).To).tail) fun x hx=>tail_is x (untilS_sub x hx)
 have k0:0 < g.Memory.length:=by omega
 have k1:g.Memory.length * 8≤140737488355328:=by omega
 delta m126 d126
 simp only[↓JD.sg_m,↓JD.sq_m,↓JD.sc_m,↓JD.bk_m,↓JD.lp_m,↓JD.cd_m,↓JD.lu_m,↓JD.ct_m,↓JD.ce_m,↓JL.r_m,↓JL.z_m,↓JD.se_m,onE_r,↓Tr.run,↓Tr.run_nd,↓Tr.run_c3,↓Tr.run_c2,↓Tr.run_nx,↓onS,bind_ite,Option.bind_some,Option.bind_none,obR,k0,k1,if_true,rscope_eq H hf ht,onS_l,rPath_eq c H]
 refine on_l (y:=leaveS c (scopeS c (c.Transitions.getD i default).From (c.Transitions.getD i default).To) (pathS c g.Leaf) (-1) g.Memory []) ?_ ?_
 ·generalize hP:pathS c g.Leaf=p at *
  rw[show leaveS c (scopeS c (c.Transitions.getD i default).From (c.Transitions.getD i default).To) p (-1) g.Memory []=leaveS c (scopeS c (c.Transitions.getD i default).From (c.Transitions.getD i default).To) (pathS c g.Leaf) (-1) g.Memory [] by rw[hP]]
  refine leave_key G _ (p:=p) (fun last i m a=>(m,a,last,i)) Sum.inl (fun pre l x last m' a hpre hx M' hl ha=>?_) (fun last m' a=>?_) g.Leaf.toNat [] g.Leaf (-1) g.Memory [] (by rw[hP];rfl) (Nat.le_refl _) v1 v3 (.inl ⟨rfl,hh⟩) (by simp;omega)
  ·have hi:pre.length < p.length:=by rw[hpre];simp
   have hg:p.getD pre.length default=x:=by rw[hpre];simp[List.getD_eq_getElem?_getD]
   have he8:=G.exit_ x hx
   have h1:(a.length+(c.States.getD x.toNat default).Exit.length) * 16≤140737488355328:=by unfold stA at he8;omega
   have h2:x < (g.Memory.length:Int):=by have:=isS_iff.1 hx;omega
   have h3:x.toNat < g.Memory.length:=by have:=(isS_lt hx).2.2;omega
   have h4:subL m' 0 g.Memory.length=m':=hsub _ M'.len
   simp only[inL hi,decide_true,Int.toNat_natCast,if_true,hg,isS_lt hx,h1,h2,h3,h4,wr1 hi (by omega)]
   refine ite_else ?_
   rcases hl with⟨e1,e2⟩ | e1
   ·unfold stA at e2 ⊢
    simp only[e1,e2,Bool.false_and,Bool.false_eq_true,if_false];rfl
   ·have e2:=isS_iff.1 (child_is G e1).1
    have e3:(last != (-1:Int))=true:=by simp only[bne_iff_ne,ne_eq];omega
    unfold stA
    simp only[e3,Bool.and_true]
    by_cases hh:(c.States.getD x.toNat default).History=true
    ·simp only[hh,if_true];rfl
    ·have hh:=Bool.eq_false_iff.2 hh
     simp only[hh,if_false,Bool.false_eq_true];rfl
  ·(simp only[lt_irr,decide_false,Bool.false_eq_true,if_false];try rfl)
 ·rw[if_pos h16]
  simp only[Option.bind_some,Int.reduceLE,pathS_pos ht,if_true,onS_l,Int.toNat_one,tail_sub]
  have htl:(pathS c (c.Transitions.getD i default).To).tail.length≤1000:=by rw[List.length_tail];omega
  have htl2:=@List.length_tail Int (pathS c (c.Transitions.getD i default).To)
  refine on_l (until_loop (s:=scopeS c (c.Transitions.getD i default).From (c.Transitions.getD i default).To) (l:=(pathS c (c.Transitions.getD i default).To).tail) (fun j o x hj ho hg=>?_) (fun o=>by simp only[htl2,lt_irr,decide_false,Bool.false_eq_true,if_false])) ?_
  ·have k8:(o.length+1) * 8≤140737488355328:=by omega
   have k9:((j:Int) < (((pathS c (c.Transitions.getD i default).To).length - 1:Nat):Int))=True:=eq_true (by omega)
   simp only[k9,inL hj,decide_true,Int.toNat_natCast,if_true,hg,k8,wr1 hj (by omega)];rfl
  ·have hz:=hsub _ hmend
   unfold fireS at hz
   simp only[hsub _ a1.len,around1_eq G H (fun x hx=>tail_is x (untilS_sub x hx)) (show (untilS (scopeS c (c.Transitions.getD i default).From (c.Transitions.getD i default).To) (pathS c (c.Transitions.getD i default).To).tail).length≤2000 by omega) a1 (a:=(leaveS c (scopeS c (c.Transitions.getD i default).From (c.Transitions.getD i default).To) (pathS c g.Leaf) (-1) g.Memory []).2++(c.Transitions.getD i default).Actions) (by rw[List.length_append];omega),  around0_eq G H (fun x hx=>tail_is x (untilS_sub x hx)) (show (untilS (scopeS c (c.Transitions.getD i default).From (c.Transitions.getD i default).To) (pathS c (c.Transitions.getD i default).To).tail).length≤2000 by omega) a1 (a:=(leaveS c (scopeS c (c.Transitions.getD i default).From (c.Transitions.getD i default).To) (pathS c g.Leaf) (-1) g.Memory []).2++(c.Transitions.getD i default).Actions) (by rw[List.length_append];omega),Option.bind_some,hsub _ r1.len]
   rw[renter_eq G H ht r1 (by rw[List.length_append]at r2;omega)]
   simp only[Option.bind_some,hz]
   rfl
theorem rStart_eq (c:T27) (H:Fit c):m74o0 c=startM c:=by
 obtain⟨e,he⟩:=checkM_some c
 have hs:=H.states
 unfold startM
 rw[he,Option.bind_some]
 delta m74o0 d74o0
 by_cases h0:(e != 0)=true
 ·simp only[↓JD.sg_m,↓JD.sq_m,↓JD.sc_m,↓JD.bk_m,↓JD.lp_m,↓JD.cd_m,↓JD.lu_m,↓JD.ct_m,↓JD.ce_m,↓JL.r_m,↓JL.z_m,↓JD.se_m,onE_r,↓Tr.run,↓Tr.run_nd,↓Tr.run_c3,↓Tr.run_c2,↓Tr.run_nx,↓onS,bind_ite,Option.bind_some,Option.bind_none,obR,rCheck_eq c H,he,h0,if_true]
 ·have h0':e=0:=by simpa using h0
  subst h0'
  have G:=good_of he
  have hp:=pathS_len c c.Start
  have k1:(0:Int)≤(c.States.length:Int):=by omega
  have k2:(c.States.length:Int) * 8≤140737488355328:=by omega
  have k3:(c.States.length:Int)≤9223372036854775807:=by omega
  simp only[↓JD.sg_m,↓JD.sq_m,↓JD.sc_m,↓JD.bk_m,↓JD.lp_m,↓JD.cd_m,↓JD.lu_m,↓JD.ct_m,↓JD.ce_m,↓JL.r_m,↓JL.z_m,↓JD.se_m,onE_r,↓Tr.run,↓Tr.run_nd,↓Tr.run_c3,↓Tr.run_c2,↓Tr.run_nx,↓onS,bind_ite,Option.bind_some,Option.bind_none,obR,rCheck_eq c H,he,h0,if_false,Bool.false_eq_true,k1,k2,k3,if_true,Int.toNat_natCast]
  have hfill:∀ {R:Type} {b:List Int×Int→Option ((List Int×Int)⊕(List Int⊕R))},(∀ (j:Nat) (m:List Int),j < c.States.length→m.length=c.States.length→b (m,(j:Int))=some (.inl (m.set j (-1),((j+1:Nat):Int))))→(∀ m,b (m,(c.States.length:Int))=some (.inr (.inl m))) →
    loopO b (List.replicate c.States.length 0,0)=some (.inl (List.replicate c.States.length (-1))):=by
   intro R b hb hd
   have key:∀ k j,j+k=c.States.length→loopO b (List.replicate j (-1)++List.replicate k 0,(j:Int))=some (.inl (List.replicate c.States.length (-1))):=by
    intro k
    induction k with
    | zero =>
     intro j hk
     obtain rfl:j=c.States.length:=by omega
     rw[loopO_eq,hd];simp
    | succ k ih =>
     intro j hk
     rw[loopO_eq,hb j _ (by omega) (by simp;omega)]
     have e1:(List.replicate j (-1:Int)++List.replicate (k+1) 0).set j (-1)=List.replicate (j+1) (-1)++List.replicate k 0:=by
      rw[List.set_append_right _ _ (by simp),List.length_replicate,Nat.sub_self,List.replicate_succ,List.set_cons_zero,List.replicate_succ'];simp
     rw[e1]
     exact ih (j+1) (by omega)
   simpa using key c.States.length 0 (by omega)
  refine on_l (hfill (fun j m hj hm=>?_) (fun m=>by (simp only[lt_irr,decide_false,Bool.false_eq_true,if_false];try rfl))) ?_
  ·have h4:subL m 0 c.States.length=m:=subL_all hm
   simp only[inL hj,hj,decide_true,Int.toNat_natCast,if_true,h4,wr1 hj (by omega)];rfl
  ·have hb:=mem_begin (c:=c)
   have h4:subL (List.replicate c.States.length (-1:Int)) 0 c.States.length=List.replicate c.States.length (-1):=subL_all (by simp)
   obtain⟨r1,r2⟩:=aroundS_ok G (a:=[]) hb (pathS c c.Start).tail tail_is
   have hend:=(startS_ok G H).1
   have hmend:=(validS_iff.1 hend).2.2.len
   have h5:subL (aroundS c (pathS c c.Start).tail (List.replicate c.States.length (-1)) []).1 0 c.States.length=(aroundS c (pathS c c.Start).tail (List.replicate c.States.length (-1)) []).1:=subL_all r1.len
   have h6:subL (startS c).2.1 0 c.States.length=(startS c).2.1:=subL_all hmend
   have h7:(pathS c c.Start).tail.length≤2000:=by rw[List.length_tail];omega
   simp only[rPath_eq c H,Option.bind_some,Int.reduceLE,pathS_pos G.start,if_true,Int.toNat_one,tail_sub,h4,around0_eq G H tail_is h7 hb (a:=[]) (by simp),h5]
   rw[renter_eq G H G.start r1 (by simp at r2;omega)]
   simp only[Option.bind_some]
   show some (_,_,_,subL (startS c).2.1 0 c.States.length)=_
   rw[h6];rfl
theorem rStep_eq (c:T27) (H:Fit c) (g:T37) (v:Int) (h0v:0≤v) (h1v:v < 65536):m76 c g v=stepM c g v:=by
 obtain⟨e,he⟩:=checkM_some c
 unfold stepM
 rw[he,Option.bind_some]
 delta m76 d76
 by_cases h0:(e != 0)=true
 ·simp only[↓JD.sg_m,↓JD.sq_m,↓JD.sc_m,↓JD.bk_m,↓JD.lp_m,↓JD.cd_m,↓JD.lu_m,↓JD.ct_m,↓JD.ce_m,↓JL.r_m,↓JL.z_m,↓JD.se_m,onE_r,↓Tr.run,↓Tr.run_nd,↓Tr.run_c3,↓Tr.run_c2,↓Tr.run_nx,↓onS,bind_ite,Option.bind_some,Option.bind_none,obR,rCheck_eq c H,he,h0,if_true]
 ·have h0':e=0:=by simpa using h0
  subst h0'
  simp only[↓JD.sg_m,↓JD.sq_m,↓JD.sc_m,↓JD.bk_m,↓JD.lp_m,↓JD.cd_m,↓JD.lu_m,↓JD.ct_m,↓JD.ce_m,↓JL.r_m,↓JL.z_m,↓JD.se_m,onE_r,↓Tr.run,↓Tr.run_nd,↓Tr.run_c3,↓Tr.run_c2,↓Tr.run_nx,↓onS,bind_ite,Option.bind_some,Option.bind_none,obR,rCheck_eq c H,he,h0,if_false,Bool.false_eq_true,rValid_eq c H,rAllowed_eq c H v h0v h1v,rEnabled_eq c H]
  cases hv:validS c g with
  | false=>rfl
  | true =>
   simp only[Bool.not_true,Bool.false_eq_true,if_false]
   refine ite_else ?_
   by_cases hz:(((enabledS c g.Leaf v).length:Int)==0)=true
   ·simp only[hz,if_true]
   ·simp only[hz,if_false,Bool.false_eq_true]
    have hz:(enabledS c g.Leaf v).length≠0:=by intro h;rw[h]at hz;simp at hz
    by_cases h1:(((enabledS c g.Leaf v).length:Int)==1)=true
    ·have hl:(enabledS c g.Leaf v).length=1:=by have:=eq_of_beq h1;omega
     have hd:decide ((1:Int) < ((enabledS c g.Leaf v).length:Int))=false:=by rw[hl];rfl
     obtain⟨i,hi,hx,hon⟩:=enabled_at (c:=c) (leaf:=g.Leaf) (v:=v) (by omega)
     have hz:(0:Int) < ((enabledS c g.Leaf v).length:Int):=by omega
     simp only[h1,hd,hz,Int.le_refl,if_true,if_false,Bool.false_eq_true,Int.toNat_zero,hx,inL hi,Int.toNat_natCast,rfire_eq (good_of he) H hv hi,fireR,Option.bind_some]
    ·have hd:decide ((1:Int) < ((enabledS c g.Leaf v).length:Int))=true:=by
      rw[decide_eq_true_eq]
      have:((enabledS c g.Leaf v).length:Int)≠1:=by simpa using h1
      omega
     simp only[h1,hd,if_true,if_false,Bool.false_eq_true]
end Go.Av.Ch
set_option maxRecDepth 100000
namespace Go.Av.Ch
theorem minQ0 (k:Int) (hk:0≤k) (L:Nat):(0:Int)≤(if k < (L:Int)then k else(L:Int)):=by split<;>omega
theorem minQ1 (k:Int) (L:Nat):(if k < (L:Int)then k else(L:Int))≤(L:Int):=by split<;>omega
theorem minQ2 (k:Int) (hk:k≤1000) (L:Nat):(0+(if k < (L:Int)then k else(L:Int)).toNat) * 16≤140737488355328:=by split<;>omega
def cutL {A:Type} [Inhabited A] (k:Int) (l:List A):List A:=[]++subL l 0 (if k < (l.length:Int)then k else(l.length:Int)).toNat
theorem cutL_len {A:Type} [Inhabited A] (k:Nat) (l:List A):(cutL (k:Int) l).length=min k l.length:=by
 rw[cutL,List.nil_append,subL_len];split<;>omega
theorem mem_coll {A:Type} {h:Nat→A} {n:Nat} {P:A→Prop} (hp:∀ i,i < n→P (h i)):∀ x∈(List.range n).flatMap fun i=>[h i],P x:=fun x hx=>by
 obtain⟨i,h1,hi⟩:=List.mem_flatMap.1 hx
 simp only[List.mem_singleton]at hi
 rw[hi];exact hp i (List.mem_range.1 h1)
theorem few_end {n k:Nat} {K:Int} (hK:K=(k:Int)):((decide (((min n k:Nat):Int) < (n:Int)))&&(decide (((min n k:Nat):Int) < K)))=false:=by
 rw[Bool.eq_false_iff];simp only[ne_eq,Bool.and_eq_true,decide_eq_true_eq];omega
theorem few_on {i n k:Nat} {K:Int} (hK:K=(k:Int)) (h:i < min n k):((decide ((i:Int) < (n:Int)))&&(decide ((i:Int) < K)))=true:=by
 simp only[Bool.and_eq_true,decide_eq_true_eq];omega
def fewN (c:T27) (i:Nat):List T116:=cutL 6 (c.Never.getD i default)
def fewT (c:T27) (i:Nat):T119:=⟨(c.States.getD i default).Name,(c.States.getD i default).Parent,(c.States.getD i default).Initial,(c.States.getD i default).History,cutL 9 (c.States.getD i default).Entry,cutL 9 (c.States.getD i default).Exit⟩
def fewR (c:T27) (i:Nat):T85:=⟨(c.Transitions.getD i default).From,(c.Transitions.getD i default).To,cutL 6 (c.Transitions.getD i default).When,cutL 9 (c.Transitions.getD i default).Actions⟩
def fewS (c:T27):T27:=⟨c.Name,cutL 6 c.Conds,(List.range (min c.Never.length 4)).flatMap (fun i=>[fewN c i]),(List.range (min c.States.length 12)).flatMap (fun i=>[fewT c i]),c.Start,(List.range (min c.Transitions.length 24)).flatMap (fun i=>[fewR c i])⟩
theorem round_few {A:Type} {g:Nat→A} {i:Nat} {n k z:Nat} (hz:z≤1000) (hk:k≤1000) (h:i < min n k):(((List.range i).flatMap fun i=>[g i]).length+1) * z≤140737488355328:=by
 have hl:=flatMap_len (g:=fun i=>[g i]) (m:=1) (fun i=>by simp) i
 have:(((List.range i).flatMap fun i=>[g i]).length+1) * z≤1001 * 1000:=Nat.mul_le_mul (by omega) hz
 omega
theorem Few_eq (c:T27):m43 c=some (fewS c):=by
 delta m43 d43
 simp only[↓JD.sg_m,↓JD.sq_m,↓JD.sc_m,↓JD.bk_m,↓JD.lp_m,↓JD.cd_m,↓JD.lu_m,↓JD.ct_m,↓JD.ce_m,↓JL.r_m,↓JL.z_m,↓JD.se_m,onE_r,↓Tr.run,↓Tr.run_nd,↓Tr.run_c3,↓Tr.run_c2,↓Tr.run_nx,↓onS,bind_ite,Option.bind_some,Option.bind_none,obR,minQ0 6 (by omega),minQ1,minQ2 6 (by omega),if_true]
 refine on_l (loop_coll (min c.Never.length 4) (fun i l=>((i:Int),l)) (fun i=>[fewN c i]) Sum.inl (fun i hi=>?_) ?_) (on_l (loop_coll (min c.States.length 12) (fun i l=>((i:Int),l)) (fun i=>[fewT c i]) Sum.inl (fun i hi=>?_) ?_) (on_l (loop_coll (min c.Transitions.length 24) (fun i l=>((i:Int),l)) (fun i=>[fewR c i]) Sum.inl (fun i hi=>?_) ?_) rfl))
 ·rw[if_pos (few_on (K:=4) rfl hi)];simp only[round_few (show 24≤1000 by omega) (by omega) hi,minQ0 6 (by omega),minQ1,minQ2 6 (by omega),Int.toNat_natCast,inL (show i < c.Never.length by omega),if_true,wr1 hi (by omega)];rfl
 ·simp only[few_end (n:=c.Never.length) (k:=4) (K:=4) rfl,Bool.false_eq_true,if_false]
 ·rw[if_pos (few_on (K:=12) rfl hi)];simp only[round_few (show 88≤1000 by omega) (by omega) hi,minQ0 9 (by omega),minQ1,minQ2 9 (by omega),Int.toNat_natCast,inL (show i < c.States.length by omega),if_true,wr1 hi (by omega)];rfl
 ·simp only[few_end (n:=c.States.length) (k:=12) (K:=12) rfl,Bool.false_eq_true,if_false]
 ·rw[if_pos (few_on (K:=24) rfl hi)];simp only[round_few (show 64≤1000 by omega) (by omega) hi,minQ0 6 (by omega),minQ0 9 (by omega),minQ1,minQ2 6 (by omega),minQ2 9 (by omega),Int.toNat_natCast,inL (show i < c.Transitions.length by omega),if_true,wr1 hi (by omega)];rfl
 ·simp only[few_end (n:=c.Transitions.length) (k:=24) (K:=24) rfl,Bool.false_eq_true,if_false]
structure Small (c:T27):Prop where
 conds:c.Conds.length≤6
 never:c.Never.length≤4
 lits:∀ l∈c.Never,l.length≤6
 states:c.States.length≤12
 entry:∀ s∈c.States,s.Entry.length≤9
 exit_:∀ s∈c.States,s.Exit.length≤9
 trans:c.Transitions.length≤24
 when_:∀ t∈c.Transitions,t.When.length≤6
 acts:∀ t∈c.Transitions,t.Actions.length≤9
theorem Small.fit {c:T27} (h:Small c):Fit c :=
 ⟨Nat.le_trans h.conds (by omega),Nat.le_trans h.never (by omega),fun l hl=>Nat.le_trans (h.lits l hl) (by omega),Nat.le_trans h.states (by omega),fun s hs=>Nat.le_trans (h.entry s hs) (by omega),fun s hs=>Nat.le_trans (h.exit_ s hs) (by omega),Nat.le_trans h.trans (by omega),fun t ht=>Nat.le_trans (h.when_ t ht) (by omega),fun t ht=>Nat.le_trans (h.acts t ht) (by omega)⟩
theorem cutL6 {A:Type} [Inhabited A] (l:List A):(cutL 6 l).length≤6:=by have:=cutL_len 6 l;simp only[Int.cast_ofNat_Int]at this;omega
theorem cutL9 {A:Type} [Inhabited A] (l:List A):(cutL 9 l).length≤9:=by have:=cutL_len 9 l;simp only[Int.cast_ofNat_Int]at this;omega
theorem few_small (c : T27) : Small (fewS c) :=
  ⟨cutL6 _, Nat.le_trans (flatMap_len (m := 1) (fun i => by simp) _) (by omega), mem_coll fun i _ => cutL6 _, Nat.le_trans (flatMap_len (m := 1) (fun i => by simp) _) (by omega), mem_coll fun i _ => cutL9 _, mem_coll fun i _ => cutL9 _,
   Nat.le_trans (flatMap_len (m := 1) (fun i => by simp) _) (by omega), mem_coll fun i _ => cutL6 _, mem_coll fun i _ => cutL9 _⟩
end Go.Av.Ch
set_option maxRecDepth 100000
namespace Go.Av.Ch
theorem etaG (x:T37):(⟨x.Leaf,x.Memory⟩:T37)=x:=rfl
theorem bne_self {α:Type} [BEq α] [LawfulBEq α] (x:α):(x != x)=false:=by simp
end Go.Av.Ch
namespace Go.Av
theorem n16 {n:Nat} (h:n < 65536):IntKind.wrap .u16 (n:Int)=(n:Int):=IntWalk.u16_in _ (by omega)
theorem bs {α β:Type} {a:α} {f:α→Option β}:Option.bind (some a) f=f a:=Eq.mpr rfl rfl
theorem ol {Y R:Type} {f:Y→Option R} {y:Y}:onS f (.inl y)=f y:=Eq.mpr rfl rfl
theorem or_ {Y R:Type} {f:Y→Option R} {r:R}:onS f (.inr r)=some r:=Eq.mpr rfl rfl
theorem bind_id {α:Type} {m:Option α}:(Option.bind m fun r=>some r)=m:=by cases m<;>rfl
theorem loop_st {S X : Type} {b : S → Option (S ⊕ X)} (n : Nat) (st : Nat → S) (out : X) (hs : ∀ i, i < n → b (st i) = some (.inl (st (i + 1)))) (he : b (st n) = some (.inr out)) : loopO b (st 0) = some out := by
  have key : ∀ k i, i + k = n → loopO b (st i) = some out := by
    intro k
    induction k with
    | zero => intro i h; obtain rfl : i = n := by omega
              rw [loopO_eq, he]; rfl
    | succ k ih => intro i h; rw [loopO_eq, hs i (by omega)]; exact ih (i + 1) (by omega)
  exact key n 0 (by omega)
end Go.Av
set_option maxRecDepth 100000
namespace Go.Av
open Ch Go.Proofs
instance:Decidable (Tryz.prog=Tryz.prog):=.isTrue rfl
theorem list_eq_iff {α:Type} [Inhabited α] {a b:List α} (h:a.length=b.length):a=b↔∀ i,i < a.length→a.getD i default=b.getD i default:=by
 constructor
 ·intro e i _;rw[e]
 ·intro k
  apply List.ext_getElem h
  intro i h1 h2
  have:=k i h1
  simpa [List.getD_eq_getElem?_getD,List.getElem?_eq_getElem h1,List.getElem?_eq_getElem h2] using this
theorem firstR_ne {α:Type} [BEq α] [LawfulBEq α] [Inhabited α] {a b:List α} (h:a.length=b.length):(firstR (fun i=>if(a.getD i default != b.getD i default)=true then some false else none) a.length).getD true=(a==b):=by
 rw[firstR_const]
 by_cases e:a=b
 ·have:anyR (fun i=>a.getD i default != b.getD i default) a.length=false:=by
   rw[anyR_false];intro i _;rw[e];simp
  rw[this,e];simp
 ·have:anyR (fun i=>a.getD i default != b.getD i default) a.length=true:=by
   rw[anyR_iff]
   apply Classical.byContradiction
   intro hn
   apply e
   rw[list_eq_iff h]
   intro i hi
   apply Classical.byContradiction
   intro hne
   exact hn ⟨i,hi,by simpa using hne⟩
  rw[this,if_pos rfl]
  simp[e]
theorem len_ne {α:Type} [BEq α] [LawfulBEq α] {a b:List α} (h:((a.length:Int) != (b.length:Int))=true):(a==b)=false:=by
 rw[beq_eq_false_iff_ne]
 rintro rfl
 simp at h
theorem len_eq {α:Type} {a b:List α} (h:((a.length:Int) != (b.length:Int))=false):a.length=b.length:=by
 simp at h;omega
theorem eqInts_eq (a b:List Int) (ha:a.length≤1000000):m121 a b=some (a==b):=by
 delta m121 d121
 simp only[↓JD.sg_m,↓JD.sq_m,↓JD.sc_m,↓JD.bk_m,↓JD.lp_m,↓JD.cd_m,↓JD.lu_m,↓JD.ct_m,↓JD.ce_m,↓JL.r_m,↓JL.z_m,↓JD.se_m,onE_r,↓Tr.run,↓Tr.run_nd,↓Tr.run_c3,↓Tr.run_c2,↓Tr.run_nx,↓onS,bind_ite,Option.bind_some,Option.bind_none,obR]
 by_cases h:((a.length:Int) != (b.length:Int))=true
 ·simp only[h,if_true,onS_r,len_ne h]
 ·have h:=Bool.eq_false_iff.2 h
  have hl:=len_eq h
  simp only[h,Bool.false_eq_true,if_false,onS_l]
  rw[loop_ex a.length (fun i=>if(a.getD i default != b.getD i default)=true then some false else none) ?_ ?_,orK_getD,firstR_ne hl]
  ·intro i hi
   have hi2:i < b.length:=by omega
   simp only[exB_ite,exB_some,exB_none,inL hi,inL hi2,decide_true,Int.toNat_natCast,if_true,wr1 hi (by omega)]
  ·(simp only[lt_irr,decide_false,Bool.false_eq_true,if_false];try rfl)
theorem eqStrs_eq (a b:List (List UInt8)) (ha:a.length≤1000000):m70 a b=some (a==b):=by
 delta m70 d70
 simp only[↓JD.sg_m,↓JD.sq_m,↓JD.sc_m,↓JD.bk_m,↓JD.lp_m,↓JD.cd_m,↓JD.lu_m,↓JD.ct_m,↓JD.ce_m,↓JL.r_m,↓JL.z_m,↓JD.se_m,onE_r,↓Tr.run,↓Tr.run_nd,↓Tr.run_c3,↓Tr.run_c2,↓Tr.run_nx,↓onS,bind_ite,Option.bind_some,Option.bind_none,obR]
 by_cases h:((a.length:Int) != (b.length:Int))=true
 ·simp only[h,if_true,onS_r,len_ne h]
 ·have h:=Bool.eq_false_iff.2 h
  have hl:=len_eq h
  simp only[h,Bool.false_eq_true,if_false,onS_l]
  rw[loop_ex a.length (fun i=>if(a.getD i default != b.getD i default)=true then some false else none) ?_ ?_,orK_getD,firstR_ne hl]
  ·intro i hi
   have hi2:i < b.length:=by omega
   simp only[exB_ite,exB_some,exB_none,inL hi,inL hi2,decide_true,Int.toNat_natCast,if_true,wr1 hi (by omega)]
  ·(simp only[lt_irr,decide_false,Bool.false_eq_true,if_false];try rfl)
theorem SameInts_eq (a b:List Int) (ha:a.length≤1000000):m46 a b=some (a==b):=by
 delta m46 d46
 simp only[↓JD.sg_m,↓JD.sq_m,↓JD.sc_m,↓JD.bk_m,↓JD.lp_m,↓JD.cd_m,↓JD.lu_m,↓JD.ct_m,↓JD.ce_m,↓JL.r_m,↓JL.z_m,↓JD.se_m,onE_r,↓Tr.run,↓Tr.run_nd,↓Tr.run_c3,↓Tr.run_c2,↓Tr.run_nx,↓onS,bind_ite,Option.bind_some,Option.bind_none,obR]
 by_cases h:((a.length:Int) != (b.length:Int))=true
 ·simp only[h,if_true,onS_r,len_ne h]
 ·have h:=Bool.eq_false_iff.2 h
  have hl:=len_eq h
  simp only[h,Bool.false_eq_true,if_false,onS_l]
  rw[loop_ex a.length (fun i=>if(a.getD i default != b.getD i default)=true then some false else none) ?_ ?_,orK_getD,firstR_ne hl]
  ·intro i hi
   have hi2:i < b.length:=by omega
   simp only[exB_ite,exB_some,exB_none,inL hi,inL hi2,decide_true,Int.toNat_natCast,if_true,wr1 hi (by omega)]
  ·(simp only[lt_irr,decide_false,Bool.false_eq_true,if_false];try rfl)
theorem SameStrings_eq (a b:List (List UInt8)) (ha:a.length≤1000000):m41 a b=some (a==b):=by
 delta m41 d41
 simp only[↓JD.sg_m,↓JD.sq_m,↓JD.sc_m,↓JD.bk_m,↓JD.lp_m,↓JD.cd_m,↓JD.lu_m,↓JD.ct_m,↓JD.ce_m,↓JL.r_m,↓JL.z_m,↓JD.se_m,onE_r,↓Tr.run,↓Tr.run_nd,↓Tr.run_c3,↓Tr.run_c2,↓Tr.run_nx,↓onS,bind_ite,Option.bind_some,Option.bind_none,obR]
 by_cases h:((a.length:Int) != (b.length:Int))=true
 ·simp only[h,if_true,onS_r,len_ne h]
 ·have h:=Bool.eq_false_iff.2 h
  have hl:=len_eq h
  simp only[h,Bool.false_eq_true,if_false,onS_l]
  rw[loop_ex a.length (fun i=>if(a.getD i default != b.getD i default)=true then some false else none) ?_ ?_,orK_getD,firstR_ne hl]
  ·intro i hi
   have hi2:i < b.length:=by omega
   simp only[exB_ite,exB_some,exB_none,inL hi,inL hi2,decide_true,Int.toNat_natCast,if_true,wr1 hi (by omega)]
  ·(simp only[lt_irr,decide_false,Bool.false_eq_true,if_false];try rfl)
def eqC (a b:T37):Bool:=a.Leaf==b.Leaf&&a.Memory==b.Memory
theorem eqC_iff {a b:T37}:eqC a b=true↔a=b:=by
 obtain⟨x,y⟩:=a
 obtain⟨z,w⟩:=b
 simp only[eqC,Bool.and_eq_true,beq_iff_eq]
 constructor
 ·rintro⟨rfl,rfl⟩;rfl
 ·intro h;injection h with h1 h2;exact⟨h1,h2⟩
theorem eqC_refl (a:T37):eqC a a=true:=eqC_iff.2 rfl
theorem same_eq (a b:T37) (ha:a.Memory.length≤1000000):m73 a b=some (eqC a b):=by
 delta m73 d73
 simp only[↓JD.sg_m,↓JD.sq_m,↓JD.sc_m,↓JD.bk_m,↓JD.lp_m,↓JD.cd_m,↓JD.lu_m,↓JD.ct_m,↓JD.ce_m,↓JL.r_m,↓JL.z_m,↓JD.se_m,onE_r,↓Tr.run,↓Tr.run_nd,↓Tr.run_c3,↓Tr.run_c2,↓Tr.run_nx,↓onS,bind_ite,Option.bind_some,Option.bind_none,obR,eqInts_eq _ _ ha,eqC]
 cases (a.Leaf==b.Leaf)<;>rfl
theorem SameConfig_eq (a b:T37) (ha:a.Memory.length≤1000000):m17 a b=some (eqC a b):=by
 delta m17 d17
 simp only[↓JD.sg_m,↓JD.sq_m,↓JD.sc_m,↓JD.bk_m,↓JD.lp_m,↓JD.cd_m,↓JD.lu_m,↓JD.ct_m,↓JD.ce_m,↓JL.r_m,↓JL.z_m,↓JD.se_m,onE_r,↓Tr.run,↓Tr.run_nd,↓Tr.run_c3,↓Tr.run_c2,↓Tr.run_nx,↓onS,bind_ite,Option.bind_some,Option.bind_none,obR,SameInts_eq _ _ ha,eqC]
 cases (a.Leaf==b.Leaf)<;>rfl
def Short (l:List T37):Prop:=∀ g∈l,g.Memory.length≤1000000
theorem Short.at {l:List T37} (h:Short l) {i:Nat} (hi:i < l.length):(l.getD i default).Memory.length≤1000000:=h _ (getD_mem hi)
def hasC (l:List T37) (g:T37):Bool:=l.any fun x=>eqC x g
theorem hasC_iff {l:List T37} {g:T37}:hasC l g=true↔g∈l:=by
 unfold hasC
 rw[List.any_eq_true]
 constructor
 ·rintro⟨x,hx,h⟩;rw[← eqC_iff.1 h];exact hx
 ·intro h;exact⟨g,h,eqC_refl g⟩
def numV (c:T27):Nat:=2 ^ c.Conds.length
theorem numV_pos (c:T27):0 < numV c:=Nat.two_pow_pos _
theorem numV_le {c:T27} (h:c.Conds.length≤12):numV c≤4096:=Nat.pow_le_pow_right (by omega) h
theorem shl64 {n:Nat} (h:n≤12):IntKind.wrap .i64 ((1:Int) * 2 ^ (min ((n:Nat):Int).toNat (IntKind.bits .i64)))=((2 ^ n:Nat):Int):=by
 have e1:min ((n:Nat):Int).toNat (IntKind.bits .i64)=n:=by
  show min ((n:Nat):Int).toNat 64=n
  omega
 rw[e1,Int.one_mul]
 have h2:2 ^ n≤4096:=Nat.pow_le_pow_right (by omega) h
 have e2:((2:Int) ^ n)=((2 ^ n:Nat):Int):=by push_cast;rfl
 rw[e2]
 generalize 2 ^ n=m at h2 ⊢
 exact w64 (by omega) (by omega)
theorem rtop_eq {c:T27} (h:c.Conds.length≤12):m75 c=some ((numV c:Int) - 1):=by
 have h1:=numV_pos c
 have h2:=numV_le h
 delta m75 d75
 simp only[↓JD.sg_m,↓JD.sq_m,↓JD.sc_m,↓JD.bk_m,↓JD.lp_m,↓JD.cd_m,↓JD.lu_m,↓JD.ct_m,↓JD.ce_m,↓JL.r_m,↓JL.z_m,↓JD.se_m,onE_r,↓Tr.run,↓Tr.run_nd,↓Tr.run_c3,↓Tr.run_c2,↓Tr.run_nx,↓onS,bind_ite,Option.bind_some,Option.bind_none,obR,shl64 h,show (0:Int)≤(c.Conds.length:Int) from by omega,if_true]
 rw[show ((2 ^ c.Conds.length:Nat):Int)=(numV c:Int) from rfl,w64 (by omega) (by omega)]
end Go.Av
set_option maxRecDepth 100000
namespace Go.Av
open Ch Go.Proofs
def stepO (c:T27) (g:T37) (v:Int):Option T37:=(stepM c g v).bind fun r=>if(r.2.2==0)=true then some r.1 else none
abbrev SS:=List T37×List Int×List Int
def begS (g:T37):SS:=([g],[-1],[0])
structure Inv (c:T27) (s:SS):Prop where
 le:s.1.length≤400
 l1:s.2.1.length=s.1.length
 l2:s.2.2.length=s.1.length
 pos:0 < s.1.length
 ok:∀ g∈s.1,validS c g=true
theorem valid_short {c:T27} (H:Fit c) {g:T37} (h:validS c g=true):g.Memory.length≤1000000:=by
 have h1:=(validS_iff.1 h).2.2.len
 have h2:=H.states
 omega
end Go.Av
set_option maxRecDepth 100000
namespace Go.Av
open Ch Go.Proofs
theorem getD_app {α:Type} [Inhabited α] {l k:List α} {i:Nat} (h:i < l.length):(l++k).getD i default=l.getD i default:=by
 simp only[List.getD_eq_getElem?_getD,List.getElem?_append_left h]
theorem beg_inv {c:T27} (H:Fit c) (hc:checkM c=some 0):Inv c (begS ⟨(startS c).1,(startS c).2.1⟩):=by
 refine⟨by simp[begS],by simp[begS],by simp[begS],by simp[begS],fun g hg=>?_⟩
 simp only[begS,List.mem_singleton]at hg
 subst hg
 exact(startS_ok (good_of hc) H).1
def DoneP (c:T27) (g:T37) (s:SS) (f:List UInt8→Option Int):Prop:=∀ t:Int,((f (encK t)).getD 0 != 0)=true→hasC s.1 (fireR c g t).1=true
end Go.Av
set_option maxRecDepth 100000
namespace Go.Av
open Ch Go.Proofs
theorem hasC_app {l k:List T37} {g:T37} (h:hasC l g=true):hasC (l++k) g=true:=by
 rw[hasC_iff]at h ⊢
 exact List.mem_append_left _ h
theorem DoneP.same {c:T27} {g:T37} {s:SS} {f:List UInt8→Option Int} (h:DoneP c g s f) {t:Int} (ht:hasC s.1 (fireR c g t).1=true):DoneP c g s (fun q=>if q=encK t then some (if true=true then(1:Int)else 0)else f q):=fun u hu=>by
 by_cases e:u=t
 ·rw[e];exact ht
 ·have:encK u≠encK t:=fun k=>e (encK_inj k)
  simp only[this,if_false]at hu
  exact h u hu
theorem DoneP.more {c:T27} {g:T37} {s:SS} {f:List UInt8→Option Int} (h:DoneP c g s f) {t:Int} {fr bv:List Int}:DoneP c g (s.1++[(fireR c g t).1],fr,bv) (fun q=>if q=encK t then some (if true=true then(1:Int)else 0)else f q):=fun u hu=>by
 by_cases e:u=t
 ·rw[e];rw[hasC_iff];simp
 ·have:encK u≠encK t:=fun k=>e (encK_inj k)
  simp only[this,if_false]at hu
  exact hasC_app (h u hu)
end Go.Av
set_option maxRecDepth 100000
namespace Go.Av
open Ch Go.Proofs
def cutN {A:Type} [Inhabited A] (k:Int) (l:List A):List A:=subL l 0 (if k < (l.length:Int)then k else(l.length:Int)).toNat
theorem cutN_len {A:Type} [Inhabited A] {k:Nat} {l:List A}:(cutN (k:Int) l).length≤k:=by
 unfold cutN;rw[subL_len];split<;>omega
theorem cutN_mem {A:Type} [Inhabited A] {k:Int} (hk:0≤k) {l:List A}:∀ x∈cutN k l,x∈l:=fun x hx=>by
 unfold cutN at hx
 rw[subL_eq (by split<;>omega)]at hx
 exact List.mem_of_mem_drop (List.mem_of_mem_take hx)
def few8 (c:T27):T27:=⟨(fewS c).Name,cutN 3 (fewS c).Conds,(fewS c).Never,cutN 7 (fewS c).States,(fewS c).Start,cutN 14 (fewS c).Transitions⟩
structure Tiny (c:T27):Prop where
 fit:Fit c
 conds:c.Conds.length≤3
 states:c.States.length≤7
 trans:c.Transitions.length≤14
theorem few8_tiny (c:T27):Tiny (few8 c):=by
 have S:=few_small c
 have l1:(few8 c).Conds.length≤3:=cutN_len (k:=3)
 have l2:(few8 c).States.length≤7:=cutN_len (k:=7)
 have l3:(few8 c).Transitions.length≤14:=cutN_len (k:=14)
 exact⟨⟨by omega,Nat.le_trans S.never (by omega),fun l hl=>Nat.le_trans (S.lits l hl) (by omega),by omega,fun s hs=>Nat.le_trans (S.entry s (cutN_mem (by omega) s hs)) (by omega),fun s hs=>Nat.le_trans (S.exit_ s (cutN_mem (by omega) s hs)) (by omega),by omega,
  fun t ht=>Nat.le_trans (S.when_ t (cutN_mem (by omega) t ht)) (by omega),fun t ht=>Nat.le_trans (S.acts t (cutN_mem (by omega) t ht)) (by omega)⟩,l1,l2,l3⟩
theorem M14 (a0:T27):m14 a0=((Option.bind (Option.bind (m43 a0) fun r=>some r) fun x1=>(if(0≤(if 7 < (x1.States.length:Int)then(7:Int)else(x1.States.length:Int)))then(if((if 7 < (x1.States.length:Int)then(7:Int)else(x1.States.length:Int))≤(x1.States.length:Int))then(if(0≤(if 3 < (x1.Conds.length:Int)then(3:Int)else(x1.Conds.length:Int)))then(if((if 3 < (x1.Conds.length:Int)then(3:Int)else(x1.Conds.length:Int))≤(x1.Conds.length:Int))then(if(0≤(if 14 < (x1.Transitions.length:Int)then(14:Int)else(x1.Transitions.length:Int)))then(if((if 14 < (x1.Transitions.length:Int)then(14:Int)else(x1.Transitions.length:Int))≤(x1.Transitions.length:Int))then(some (⟨x1.Name,(subL x1.Conds 0 (if 3 < (x1.Conds.length:Int)then(3:Int)else(x1.Conds.length:Int)).toNat),x1.Never,(subL x1.States 0 (if 7 < (x1.States.length:Int)then(7:Int)else(x1.States.length:Int)).toNat),x1.Start,(subL x1.Transitions 0 (if 14 < (x1.Transitions.length:Int)then(14:Int)else(x1.Transitions.length:Int)).toNat)⟩:T27))else none)else none)else none)else none)else none)else none)):Option (T27)):=by kernel_rfl
theorem few_eq8 (c:T27):m14 c=some (few8 c):=by
 have h:=Few_eq c
 simp only[M14,bind_id,h,bs,minQ0 7 (by omega),minQ0 3 (by omega),minQ0 14 (by omega),minQ1,if_true]
 rfl
end Go.Av
set_option maxRecDepth 100000
namespace Go.Av
open Ch Go.Proofs
theorem any_loop {X:Type} {b:(Bool×Int)→Option ((Bool×Int)⊕(Bool⊕X))} {k:Bool→Option X} (n:Nat) (p:Nat→Bool) {z:Option X} (hb:∀ (f:Bool) (i:Nat),i < n→b (f,(i:Int))=some (.inl ((f || p i),((i+1:Nat):Int)))) (he:∀ f,b (f,(n:Int))=some (.inr (.inl f))) (hz:k (anyR p n)=z) :
  (loopO b (false,0)).bind (onS k)=z:=by
 have key:∀ m i f,i+m=n→loopO b (f,(i:Int))=some (.inl (f || (List.range' i m).any p)):=by
  intro m
  induction m with
  | zero =>
   intro i f h
   obtain rfl:i=n:=by omega
   rw[loopO_eq,he];simp
  | succ m ih =>
   intro i f h
   rw[loopO_eq,hb f i (by omega)]
   simp only[Option.bind_some]
   rw[ih (i+1) _ (by omega),List.range'_succ,List.any_cons,Bool.or_assoc]
 have:=key n 0 false (by omega)
 rw[← List.range_eq_range',Bool.false_or]at this
 refine bind_to this ?_
 exact hz
theorem getD_end {α:Type} [Inhabited α] {l:List α} {x:α} {n:Nat} (h:n=l.length):(l++[x]).getD n default=x:=by
 subst h;simp[List.getD_eq_getElem?_getD]
structure Wy (c:T27) (g0:T37) (s:SS):Prop where
 i0:s.1.getD 0 default=g0
 f0:s.2.1.getD 0 default = -1
 w:∀ k,0 < k→k < s.1.length→∃ j v:Nat,j < k∧s.2.1.getD k default=(j:Int)∧v < numV c∧s.2.2.getD k default=(v:Int)∧stepO c (s.1.getD j default) (v:Int)=some (s.1.getD k default)
 nd:s.1.Nodup
def begG (c:T27):T37:=⟨(startS c).1,(startS c).2.1⟩
end Go.Av
set_option maxRecDepth 100000
namespace Go.Av
open Ch Go.Proofs
def xsR (l:List Int) (i:Nat):List Int:=(List.range l.length).map fun k=>if k < i∨l.length - 1 - i < k then l.getD (l.length - 1 - k) default else l.getD k default
theorem xsR_len (l:List Int) (i:Nat):(xsR l i).length=l.length:=by simp[xsR]
theorem xsR_at {l:List Int} {i k:Nat} (hk:k < l.length):(xsR l i).getD k default=if k < i∨l.length - 1 - i < k then l.getD (l.length - 1 - k) default else l.getD k default:=by
 simp[xsR,List.getD_eq_getElem?_getD,hk]
theorem getD_set {l:List Int} {i k:Nat} {a:Int} (hi:i < l.length):(l.set i a).getD k default=if k=i then a else l.getD k default:=by
 simp only[List.getD_eq_getElem?_getD,List.getElem?_set]
 by_cases h:i=k
 ·subst h;simp[hi]
 ·have:¬ k=i:=fun e=>h e.symm
  simp[h,this]
theorem xsR_0 (l:List Int):xsR l 0=l:=by
 rw[list_eq_iff (xsR_len l 0)]
 intro i hi
 rw[xsR_len]at hi
 rw[xsR_at hi,if_neg (by omega)]
theorem xsR_step {l:List Int} {i:Nat} (h:2 * i+1 < l.length):((xsR l i).set i ((xsR l i).getD (l.length - 1 - i) default)).set (l.length - 1 - i) ((xsR l i).getD i default)=xsR l (i+1):=by
 have hn:=xsR_len l i
 rw[list_eq_iff (by simp only[List.length_set,xsR_len])]
 intro k hk
 simp only[List.length_set,xsR_len]at hk
 rw[getD_set (by simp only[List.length_set];omega),getD_set (by omega),xsR_at hk,xsR_at hk,xsR_at (show i < l.length by omega),xsR_at (show l.length - 1 - i < l.length by omega)]
 by_cases h1:k=l.length - 1 - i
 ·subst h1
  rw[if_pos rfl,if_neg (by omega),if_pos (by omega)]
  congr 1;omega
 ·rw[if_neg h1]
  by_cases h2:k=i
  ·subst h2
   rw[if_pos rfl,if_neg (by omega),if_pos (by omega)]
  ·rw[if_neg h2]
   by_cases h3:k < i∨l.length - 1 - i < k
   ·rw[if_pos h3,if_pos (by omega)]
   ·rw[if_neg h3,if_neg (by omega)]
theorem xsR_end {l:List Int} {i:Nat} (h1:l.length≤2 * i+1) (h2:2 * i≤l.length):xsR l i=l.reverse:=by
 rw[list_eq_iff (by rw[xsR_len];simp)]
 intro k hk
 rw[xsR_len]at hk
 rw[xsR_at hk]
 have e:l.reverse.getD k default=l.getD (l.length - 1 - k) default:=by
  simp[List.getD_eq_getElem?_getD,List.getElem?_reverse hk]
 rw[e]
 by_cases h:k < i∨l.length - 1 - i < k
 ·rw[if_pos h]
 ·rw[if_neg h]
  congr 1;omega
theorem M104o0 (a0:List Int):m104o0 a0=((Option.bind (some (.inl ())) (onS fun(_:Unit)=>(loopO (fun(s1:(List Int)×Int×Int)=>((if(decide (s1.2.1 < s1.2.2))=true then(if(0≤s1.2.2)then(if(s1.2.2 < (a0.length:Int))then(if(s1.2.2.toNat < a0.length)then(if(0≤s1.2.1)then(if(s1.2.1 < (a0.length:Int))then(if(s1.2.1.toNat < a0.length)then(if(0≤s1.2.1)then(if(s1.2.1 < (a0.length:Int))then(if(s1.2.1.toNat < a0.length)then(if(0≤s1.2.2)then(if(s1.2.2 < (a0.length:Int))then(if(s1.2.2.toNat < a0.length)then(some (.inl ((((subL s1.1 0 a0.length).set s1.2.1.toNat (s1.1.getD s1.2.2.toNat default)).set s1.2.2.toNat (s1.1.getD s1.2.1.toNat default)),(IntKind.wrap .i64 (s1.2.1+1)),(IntKind.wrap .i64 (s1.2.2 - 1)))))else none)else none)else none)else none)else none)else none)else none)else none)else none)else none)else none)else none)else(some (.inr (s1.1)))):Option (((List Int)×Int×Int)⊕((List Int))))) (a0,(0:Int),(IntKind.wrap .i64 ((a0.length:Int) - (1:Int))))))):Option ((List Int))):=by kernel_rfl
theorem rev_eq (l:List Int) (hl:l.length≤1000000):m104o0 l=some l.reverse:=by
 simp only[M104o0,bind_id,bs,ol]
 by_cases h0:l.length=0
 ·have:l=[]:=List.length_eq_zero_iff.1 h0
  subst this
  rfl
 have w0:IntKind.wrap .i64 ((l.length:Int) - 1)=(l.length:Int) - 1:=w64 (by omega) (by omega)
 rw[w0]
 rw[show ((l,(0:Int),(l.length:Int) - 1):List Int×Int×Int)=(xsR l 0,((0:Nat):Int),(l.length:Int) - 1 - ((0:Nat):Int)) from by rw[xsR_0];simp]
 refine loop_st (l.length / 2) (fun i=>(xsR l i,(i:Int),(l.length:Int) - 1 - (i:Int))) l.reverse (fun i hi=>?_) ?_
 ·have h1:2 * i+1 < l.length:=by omega
  have j0:((l.length:Int) - 1 - (i:Int))=((l.length - 1 - i:Nat):Int):=by omega
  have hs:subL (xsR l i) 0 l.length=xsR l i:=by
   rw[list_eq_iff (by rw[subL_len,xsR_len])]
   intro k hk
   rw[subL_len]at hk
   exact subL_getD hk
  have c1:decide ((i:Int) < ((l.length - 1 - i:Nat):Int))=true:=by simp;omega
  have c2:=inL (show i < l.length by omega)
  have c3:=inL (show l.length - 1 - i < l.length by omega)
  have c4:(i < l.length)=True:=eq_true (by omega)
  have c5:(l.length - 1 - i < l.length)=True:=eq_true (by omega)
  have w1:IntKind.wrap .i64 ((i:Int)+1)=((i+1:Nat):Int):=by rw[w64 (by omega) (by omega)];omega
  have w2:IntKind.wrap .i64 (((l.length - 1 - i:Nat):Int) - 1)=(l.length:Int) - 1 - ((i+1:Nat):Int):=by rw[w64 (by omega) (by omega)];omega
  simp only[j0,c1,c2,c3,c4,c5,if_true,Int.toNat_natCast,hs,w1,w2,xsR_step h1]
 ·have c1:decide (((l.length / 2:Nat):Int) < (l.length:Int) - 1 - ((l.length / 2:Nat):Int))=false:=by simp;omega
  simp only[c1,Bool.false_eq_true,if_false,xsR_end (l:=l) (i:=l.length / 2) (by omega) (by omega)]
def wayL (s:SS):Nat→Nat→List Int
 | 0,_=>[]
 | n+1,k=>if k=0 then[]else wayL s n (s.2.1.getD k default).toNat++[s.2.2.getD k default]
theorem wayL_len (s:SS):∀ n k,(wayL s n k).length≤n
 | 0,_=>by simp[wayL]
 | n+1,k=>by
  unfold wayL
  split
  ·simp
  ·have:=wayL_len s n (s.2.1.getD k default).toNat
   simp only[List.length_append,List.length_cons,List.length_nil];omega
structure Fb (s:SS):Prop where
 le:s.1.length≤400
 l1:s.2.1.length=s.1.length
 l2:s.2.2.length=s.1.length
 pos:0 < s.1.length
 f0:s.2.1.getD 0 default = -1
 w:∀ k,0 < k→k < s.1.length→∃ j:Nat,j < k∧s.2.1.getD k default=(j:Int)
theorem way_loop {s:SS} (F:Fb s) {X:Type} {b:Int×List Int→Option ((Int×List Int)⊕X)} (out:List Int→X) (hb0:∀ acc,b (((0:Nat):Int),acc)=some (.inr (out acc)))
  (hb:∀ (k j:Nat) (acc:List Int),0 < k→k < s.1.length→s.2.1.getD k default=(j:Int)→acc.length≤1000→b ((k:Int),acc)=some (.inl ((j:Int),acc++[s.2.2.getD k default]))) :
  ∀ (n k:Nat) (acc:List Int),k≤n→n≤400→k < s.1.length→acc.length+n≤1000→loopO b ((k:Int),acc)=some (out (acc++(wayL s n k).reverse)):=by
 intro n
 induction n with
 | zero =>
  intro k acc h1 h2 h3 h4
  obtain rfl:k=0:=by omega
  rw[loopO_eq,hb0]
  simp only[Option.bind_some,wayL,List.reverse_nil,List.append_nil]
 | succ n ih =>
  intro k acc h1 h2 h3 h4
  by_cases hk0:k=0
  ·subst hk0
   rw[loopO_eq,hb0]
   simp only[Option.bind_some,wayL,if_true,List.reverse_nil,List.append_nil]
  ·obtain⟨j,q1,q2⟩:=F.w k (by omega) h3
   rw[loopO_eq,hb k j acc (by omega) h3 q2 (by omega)]
   simp only[Option.bind_some]
   rw[ih j _ (by omega) (by omega) (by omega) (by simp;omega)]
   simp only[wayL,hk0,if_false,q2,Int.toNat_natCast,List.reverse_append,List.reverse_cons,List.reverse_nil,List.nil_append,List.append_assoc]
theorem rway_loop {s:SS} (F:Fb s) {X:Type} {b:Int×List Int→Option ((Int×List Int)⊕X)} (out:List Int→X) (hb0:∀ acc,b (((0:Nat):Int),acc)=some (.inr (out acc)))
  (hb:∀ (k j:Nat) (acc:List Int),0 < k→k < s.1.length→s.2.1.getD k default=(j:Int)→acc.length≤1000→b ((k:Int),acc)=some (.inl ((j:Int),[s.2.2.getD k default]++acc))) :
  ∀ (n k:Nat) (acc:List Int),k≤n→n≤400→k < s.1.length→acc.length+n≤1000→loopO b ((k:Int),acc)=some (out (wayL s n k++acc)):=by
 intro n
 induction n with
 | zero =>
  intro k acc h1 h2 h3 h4
  obtain rfl:k=0:=by omega
  rw[loopO_eq,hb0]
  simp only[Option.bind_some,wayL,List.nil_append]
 | succ n ih =>
  intro k acc h1 h2 h3 h4
  by_cases hk0:k=0
  ·subst hk0
   rw[loopO_eq,hb0]
   simp only[Option.bind_some,wayL,if_true,List.nil_append]
  ·obtain⟨j,q1,q2⟩:=F.w k (by omega) h3
   rw[loopO_eq,hb k j acc (by omega) h3 q2 (by omega)]
   simp only[Option.bind_some]
   rw[ih j _ (by omega) (by omega) (by omega) (by simp;omega)]
   simp only[wayL,hk0,if_false,q2,Int.toNat_natCast,List.append_assoc]
theorem M56o0 (a0 a1:List Int) (a2:Int):m56o0 a0 a1 a2=((Option.bind (some (.inl ())) (onS fun(_:Unit)=>(Option.bind (loopO (fun(s1:Int×(List Int))=>((if(0≤s1.1)then(if(s1.1 < (a0.length:Int))then(if(decide (0≤(a0.getD s1.1.toNat default)))=true then(Option.bind ((if 0≤s1.1 then(if s1.1 < (a1.length:Int)then(if(s1.2.length+1) * 2≤140737488355328 then some ()else none)else none)else none)) fun(x4:(Unit))=>(if(0≤s1.1)then(if(s1.1 < (a0.length:Int))then(some (.inl ((a0.getD s1.1.toNat default),(s1.2++([(a1.getD s1.1.toNat default)]:List Int)))))else none)else none))else(some (.inr (.inl s1.2))))else none)else none):Option ((Int×(List Int))⊕(((List Int))⊕((List Int)))))) (a2,([]:List Int))) (onS fun(y2:(List Int))=>(Option.bind (Option.bind (m104o0 y2) fun r=>some r) fun x5=>(some (subL x5 0 y2.length))))))):Option ((List Int))):=by kernel_rfl
theorem way_fb {s:SS} (F:Fb s) {k:Nat} (hk:k < s.1.length):m56o0 s.2.1 s.2.2 (k:Int)=some (wayL s k k):=by
 have q1:=rev_eq
 have b1:=F.le
 have b2:=F.l1
 have b3:=F.l2
 have pos:=F.pos
 simp only[M56o0,bind_id,bs,ol]
 generalize m104o0=R at q1 ⊢
 refine bind_eq (way_loop F Sum.inl (fun acc=>?_) (fun k j acc h1 h2 h3 h4=>?_) k k [] (Nat.le_refl _) (by omega) hk (by simp;omega)) ?_
 ·have c1:=inL (show 0 < s.2.1.length by omega)
  have d:decide ((0:Int)≤s.2.1.getD 0 default)=false:=by rw[F.f0];rfl
  simp only[c1,if_true,Int.toNat_natCast,d,Bool.false_eq_true,if_false]
 ·have c1:=inL (show k < s.2.1.length by omega)
  have c2:=inL (show k < s.2.2.length by omega)
  have d:decide ((0:Int)≤s.2.1.getD k default)=true:=by rw[h3];simp
  have c3:((acc.length+1) * 2≤140737488355328)=True:=eq_true (by omega)
  simp only[c1,c2,c3,if_true,Int.toNat_natCast,d,bs]
  rw[h3]
 ·have hl:=wayL_len s k k
  have q2:=q1 (wayL s k k).reverse (by rw[List.length_reverse];omega)
  rw[List.reverse_reverse]at q2
  have e:subL (wayL s k k) 0 (wayL s k k).reverse.length=wayL s k k:=by
   rw[list_eq_iff (by rw[subL_len,List.length_reverse])]
   intro i hi
   rw[subL_len]at hi
   exact subL_getD hi
  simp only[List.nil_append,bs,ol,q2,e]
theorem M69o0 (a0 a1:List Int) (a2:Int):m69o0 a0 a1 a2=((Option.bind (some (.inl ())) (onS fun(_:Unit)=>(Option.bind (loopO (fun(s1:Int×(List Int))=>((if(decide (0 < s1.1))=true then(if(0≤s1.1)then(if(s1.1 < (a1.length:Int))then(if((1+s1.2.length) * 2≤140737488355328)then(if(0≤s1.1)then(if(s1.1 < (a0.length:Int))then(some (.inl ((a0.getD s1.1.toNat default),(([(a1.getD s1.1.toNat default)]:List Int)++s1.2))))else none)else none)else none)else none)else none)else(some (.inr (.inl s1.2)))):Option ((Int×(List Int))⊕(((List Int))⊕((List Int)))))) (a2,[])) (onS fun(y2:(List Int))=>(some y2))))):Option ((List Int))):=by kernel_rfl
theorem rway_fb {s:SS} (F:Fb s) {k:Nat} (hk:k < s.1.length):m69o0 s.2.1 s.2.2 (k:Int)=some (wayL s k k):=by
 have b1:=F.le
 have b2:=F.l1
 have b3:=F.l2
 simp only[M69o0,bind_id,bs,ol]
 refine bind_eq (rway_loop F Sum.inl (fun acc=>?_) (fun k j acc h1 h2 h3 h4=>?_) k k [] (Nat.le_refl _) (by omega) hk (by simp;omega)) (by simp only[List.append_nil,bs,ol])
 ·have d:decide ((0:Int) < ((0:Nat):Int))=false:=rfl
  simp only[d,Bool.false_eq_true,if_false]
 ·have c1:=inL (show k < s.2.1.length by omega)
  have c2:=inL (show k < s.2.2.length by omega)
  have d:decide ((0:Int) < (k:Int))=true:=by simp;omega
  have c3:((1+acc.length) * 2≤140737488355328)=True:=eq_true (by omega)
  simp only[c1,c2,c3,if_true,Int.toNat_natCast,d,bs]
  rw[h3]
def leafI (s:SS) (leaf:Int):Int:=findR (fun i=>(s.1.getD i default).Leaf==leaf) s.1.length
end Go.Av
set_option maxRecDepth 100000
namespace Go.Av
open Ch Go.Proofs
def fsum {A B Z:Type} (f:A→Z) (g:B→Z):A⊕B→Z
 | .inl a=>f a
 | .inr b=>g b
def foldX {S Y:Type} (g:Nat→S→S⊕Y):Nat→Nat→S→S⊕Y
 | 0,_,s=>.inl s
 | k+1,i,s=>fsum (foldX g k (i+1)) Sum.inr (g i s)
theorem foldX_loop {S Y St X:Type} {b:St→Option (St⊕X)} (g:Nat→S→S⊕Y) (P:S→Prop) (mk:Nat→S→St) (o1:S→X) (o2:Y→X) (n:Nat)
  (hP:∀ i s s',i < n→P s→g i s=.inl s'→P s') (hb:∀ i s,i < n→P s→b (mk i s)=some (fsum (fun s'=>.inl (mk (i+1) s')) (fun y=>.inr (o2 y)) (g i s)))
  (he:∀ s,P s→b (mk n s)=some (.inr (o1 s))):∀ k i s,i+k=n→P s→loopO b (mk i s)=some (fsum o1 o2 (foldX g k i s))
 | 0,i,s,hk,hs=>by
  obtain rfl:i=n:=by omega
  rw[loopO_eq,he s hs];rfl
 | k+1,i,s,hk,hs=>by
  rw[loopO_eq,hb i s (by omega) hs,Option.bind_some]
  unfold foldX
  cases hg:g i s with
  | inl s'=>exact foldX_loop g P mk o1 o2 n hP hb he k (i+1) s' (by omega) (hP i s s' (by omega) hs hg)
  | inr y=>rfl
theorem foldX_inv {S Y:Type} {g:Nat→S→S⊕Y} {P:S→Prop} {n:Nat} (hP:∀ i s s',i < n→P s→g i s=.inl s'→P s'):∀ k i s s',i+k=n→P s→foldX g k i s=.inl s'→P s'
 | 0,i,s,s',hk,hs,h=>by injection h with h;subst h;exact hs
 | k+1,i,s,s',hk,hs,h=>by
  unfold foldX at h
  cases hg:g i s with
  | inl t =>
   rw[hg]at h
   exact foldX_inv hP k (i+1) t s' (by omega) (hP i s t (by omega) hs hg) h
  | inr y=>rw[hg]at h;cases h
abbrev PS:=List T108×List Int×List Int
abbrev PR:=List Int×Bool×Int
def psrch (rd:Nat→PS→PS⊕PR):Nat→Nat→PS→PR
 | 0,_,_=>([],true,0)
 | n+1,i,s=>if i < s.1.length then fsum (psrch rd n (i+1)) id (rd i s)else([],true,0)
theorem psrch_loop {St:Type} {b:St→Option (St⊕(Unit⊕PR))} {k:Unit→Option PR} (rd:Nat→PS→PS⊕PR) (P:PS→Prop) (mk:Nat→PS→St) (h4:∀ s,P s→s.1.length≤400)
  (hP:∀ i s s',i < s.1.length→P s→rd i s=.inl s'→P s'∧s.1.length≤s'.1.length) (hb:∀ i s,i < s.1.length→P s→b (mk i s)=some (fsum (fun s'=>.inl (mk (i+1) s')) (fun y=>.inr (.inr y)) (rd i s)))
  (he:∀ i s,i=s.1.length→P s→b (mk i s)=some (.inr (.inl ()))) (hk:k ()=some ([],true,0)):∀ n i s,P s→i≤s.1.length→400 < n+i→(loopO b (mk i s)).bind (onS k)=some (psrch rd n i s)
 | 0,i,s,hs,hi,hn=>by have:=h4 s hs;omega
 | n+1,i,s,hs,hi,hn=>by
  unfold psrch
  by_cases hlt:i < s.1.length
  ·rw[loopO_eq,hb i s hlt hs,Option.bind_some,if_pos hlt]
   cases hg:rd i s with
   | inl s' =>
    obtain⟨h1,h2⟩:=hP i s s' hlt hs hg
    exact psrch_loop rd P mk h4 hP hb he hk n (i+1) s' h1 (by omega) (by omega)
   | inr y=>rfl
  ·rw[loopO_eq,he i s (by omega) hs,Option.bind_some,if_neg hlt]
   exact hk
def stepT (c:T27) (g:T37) (v:Int):T37×List (List UInt8)×Int:=(stepM c g v).getD (⟨0,[]⟩,[],0)
theorem stepT_eq (c:T27) (g:T37) (v:Int):stepM c g v=some (stepT c g v):=by
 obtain⟨r,hr⟩:=stepM_some c g v
 unfold stepT;rw[hr];rfl
def ssP (s:PS):SS:=(s.1.map fun p=>p.a,s.2.1,s.2.2)
def hasPr (l:List T108) (a b:T37):Bool:=anyR (fun i=>eqC (l.getD i default).a a&&eqC (l.getD i default).b b) l.length
def pvis (c d:T27) (i:Nat) (p:T108) (v:Nat) (s:PS):PS⊕PR :=
 if(((stepT c p.a (v:Int)).2.2 != (stepT d p.b (v:Int)).2.2) || !((stepT c p.a (v:Int)).2.1==(stepT d p.b (v:Int)).2.1))=true then .inr (wayL (ssP s) i i++[(v:Int)],false,0)
 else if((stepT c p.a (v:Int)).2.2 != 0)=true then .inl s
 else if hasPr s.1 (stepT c p.a (v:Int)).1 (stepT d p.b (v:Int)).1=true then .inl s
 else if s.1.length=400 then .inr ([],false,3)
 else .inl (s.1++[⟨(stepT c p.a (v:Int)).1,(stepT d p.b (v:Int)).1⟩],s.2.1++[(i:Int)],s.2.2++[(v:Int)])
structure PInv (c d:T27) (s:PS):Prop where
 fb:Fb (ssP s)
 ok:∀ p∈s.1,validS c p.a=true∧validS d p.b=true
theorem ssP_len (s:PS):(ssP s).1.length=s.1.length:=by simp[ssP]
theorem map_getD {α β:Type} [Inhabited α] [Inhabited β] {f:α→β} {l:List α} {i:Nat} (h:i < l.length):(l.map f).getD i default=f (l.getD i default):=by
 simp[List.getD_eq_getElem?_getD,List.getElem?_eq_getElem h]
theorem pvis_inv {c d:T27} (Hc:Fit c) (Hd:Fit d) {i v:Nat} {p:T108} {s s':PS} (I:PInv c d s) (hi:i < s.1.length) (h:pvis c d i p v s=.inl s'):PInv c d s'∧s.1.length≤s'.1.length∧∀ j,j < s.1.length→s'.1.getD j default=s.1.getD j default:=by
 unfold pvis at h
 split at h
 ·cases h
 ·rename_i h1
  split at h
  ·injection h with h;subst h;exact⟨I,Nat.le_refl _,fun j _=>rfl⟩
  ·rename_i h2
   split at h
   ·injection h with h;subst h;exact⟨I,Nat.le_refl _,fun j _=>rfl⟩
   ·split at h
    ·cases h
    ·rename_i h4
     injection h with h
     subst h
     have F:=I.fb
     have fl:=F.le
     have f1:=F.l1
     have f2:=F.l2
     have fp:=F.pos
     have f0:=F.f0
     have fw:=F.w
     rw[ssP_len]at fl f1 f2 fp fw
     have e1:(stepT c p.a (v:Int)).2.2=0:=by simpa using h2
     have e2:(stepT d p.b (v:Int)).2.2=0:=by
      have h1:=Bool.eq_false_iff.2 h1
      simp only[Bool.or_eq_false_iff,bne_eq_false_iff_eq]at h1
      rw[← h1.1];exact e1
     refine⟨⟨⟨?_,?_,?_,?_,?_,fun k k1 k2=>?_⟩,fun q hq=>?_⟩,by simp,fun j hj=>getD_app hj⟩
     ·rw[ssP_len];simp;omega
     ·rw[ssP_len]
      show (s.2.1++[(i:Int)]).length=(s.1++[_]).length
      simp only[List.length_append,List.length_cons,List.length_nil];have:s.2.1.length=s.1.length:=f1;omega
     ·rw[ssP_len]
      show (s.2.2++[(v:Int)]).length=(s.1++[_]).length
      simp only[List.length_append,List.length_cons,List.length_nil];have:s.2.2.length=s.1.length:=f2;omega
     ·rw[ssP_len];simp
     ·show (s.2.1++[(i:Int)]).getD 0 default = -1
      have:s.2.1.length=s.1.length:=f1
      rw[getD_app (by omega)];exact f0
     ·rw[ssP_len]at k2
      simp only[List.length_append,List.length_cons,List.length_nil]at k2
      have l1:s.2.1.length=s.1.length:=f1
      show ∃ j:Nat,j < k∧(s.2.1++[(i:Int)]).getD k default=(j:Int)
      by_cases hk:k < s.1.length
      ·obtain⟨j,q1,q2⟩:=fw k k1 hk
       exact⟨j,q1,by rw[getD_app (by omega)];exact q2⟩
      ·exact⟨i,by omega,getD_end (by omega)⟩
     ·rcases List.mem_append.1 hq with hq | hq
      ·exact I.ok q hq
      ·simp only[List.mem_singleton]at hq
       subst hq
       exact⟨((stepM_ok Hc (stepT_eq c p.a (v:Int))).2 e1).2.2,((stepM_ok Hd (stepT_eq d p.b (v:Int))).2 e2).2.2⟩
def prnd (c d:T27) (i:Nat) (s:PS):PS⊕PR:=foldX (pvis c d i (s.1.getD i default)) (numV c) 0 s
structure QInv (c d:T27) (i:Nat) (p:T108) (n:Nat) (s:PS):Prop where
 inv:PInv c d s
 lt:i < s.1.length
 le:n≤s.1.length
 at_:s.1.getD i default=p
theorem pvis_q {c d:T27} (Hc:Fit c) (Hd:Fit d) {i n:Nat} {p:T108} (v:Nat) (s s':PS) (Q:QInv c d i p n s) (h:pvis c d i p v s=.inl s'):QInv c d i p n s':=by
 obtain⟨h1,h2,h3⟩:=pvis_inv Hc Hd Q.inv Q.lt h
 have:=Q.lt
 have:=Q.le
 exact⟨h1,by omega,by omega,by rw[h3 _ Q.lt];exact Q.at_⟩
theorem prnd_inv {c d:T27} (Hc:Fit c) (Hd:Fit d) {i:Nat} {s s':PS} (hi:i < s.1.length) (I:PInv c d s) (h:prnd c d i s=.inl s'):PInv c d s'∧s.1.length≤s'.1.length:=by
 have Q:=foldX_inv (P:=QInv c d i (s.1.getD i default) s.1.length) (n:=numV c) (fun v a b _ ha hb=>pvis_q Hc Hd v a b ha hb) (numV c) 0 s s' (by omega) ⟨I,hi,Nat.le_refl _,rfl⟩ h
 exact⟨Q.inv,Q.le⟩
def begP (c d:T27):PS:=([⟨begG c,begG d⟩],[-1],[0])
theorem begP_inv {c d:T27} (Hc:Fit c) (Hd:Fit d) (hc:checkM c=some 0) (hd:checkM d=some 0):PInv c d (begP c d):=by
 refine⟨⟨by simp[begP,ssP],by simp[begP,ssP],by simp[begP,ssP],by simp[begP,ssP],rfl,fun k k1 k2=>?_⟩,fun p hp=>?_⟩
 ·rw[ssP_len]at k2
  simp only[begP,List.length_cons,List.length_nil]at k2;omega
 ·simp only[begP,List.mem_singleton]at hp
  subst hp
  exact⟨(beg_inv Hc hc).ok _ (by simp[begS,begG]),(beg_inv Hd hd).ok _ (by simp[begS,begG])⟩
def eqM (c d:T27):Option PR:=(checkM c).bind fun e=>if(e != 0)=true then some ([],false,e)else(checkM d).bind fun f=>if(f != 0)=true then some ([],false,f)else if(!(c.Conds==d.Conds))=true then some ([],false,1)else some (psrch (prnd c d) 402 0 (begP c d))
end Go.Av
set_option maxRecDepth 100000
namespace Go.Av
open Ch Go.Proofs
theorem M72o0 (a0:T108) (a1 a2:T37):m72o0 a0 a1 a2=((Option.bind (((m73 a0.a a1).bind fun r1_0=>((if r1_0=true then m73 a0.b a2 else some default).bind fun r1_1=>some (r1_0,r1_1)))) fun(x1:(Bool×Bool))=>(some (x1.1&&x1.2))):Option (Bool)):=by kernel_rfl
theorem M120o0 (a0:List T108) (a1 a2:T37):m120o0 a0 a1 a2=((Option.bind (some (.inl ())) (onS fun(_:Unit)=>(Option.bind (Option.bind (some (.inl ())) (onS fun(_:Unit)=>(loopO (fun(s1:Int)=>((if(decide (s1 < (a0.length:Int)))=true then(Option.bind ((if 0≤s1 then(if s1 < (a0.length:Int)then((m72o0 (a0.getD s1.toNat default) a1 a2).bind fun r4_0=>some r4_0)else none)else none)) fun(x4:(Bool))=>(if x4=true then(some (.inr (.inr (s1))))else(some (.inl (IntKind.wrap .i64 (s1+1))))))else(some (.inr (.inl ())))):Option ((Int)⊕((Unit)⊕(Int))))) (0:Int)))) (onS fun(_:Unit)=>(some (-1:Int)))))):Option (Int)):=by kernel_rfl
theorem M71o0 (a0:List T108) (a1 a2:T37):m71o0 a0 a1 a2=((Option.bind (Option.bind (m120o0 a0 a1 a2) fun r=>some r) fun x1=>(some (decide (0≤x1)))):Option (Bool)):=by kernel_rfl
theorem hasP_eq (l:List T108) (a b:T37) (hl:l.length≤1000000) (hs:∀ p∈l,p.a.Memory.length≤1000000∧p.b.Memory.length≤1000000):m71o0 l a b=some (hasPr l a b):=by
 have q0:∀ x y:T37,x.Memory.length≤1000000→m73 x y=some (eqC x y):=same_eq
 have q1:∀ p:T108,p.a.Memory.length≤1000000→p.b.Memory.length≤1000000→m72o0 p a b=some (eqC p.a a&&eqC p.b b):=fun p h1 h2=>by
  simp only[M72o0,bind_id,q0 _ a h1,q0 _ b h2,bs]
  cases eqC p.a a<;>simp only[Bool.false_eq_true,if_false,if_true,bs,Bool.false_and,Bool.true_and]
 have q2:m120o0 l a b=some (findR (fun i=>eqC (l.getD i default).a a&&eqC (l.getD i default).b b) l.length):=by
  simp only[M120o0,bind_id,bs,ol]
  refine idx_loop (fun i hi=>?_) ?_
  ·have hm:=hs _ (getD_mem hi)
   simp only[exB_ite,exB_some,exB_none,inL hi,decide_true,Int.toNat_natCast,if_true,wr1 hi (by omega),bs,q1 _ hm.1 hm.2]
  ·simp only[lt_irr,decide_false,Bool.false_eq_true,if_false]
 simp only[M71o0,bind_id,q2,bs]
 rw[findR_any];rfl
theorem M33 (a0 a1:T27):m33 a0 a1=((Option.bind (Option.bind (Option.bind (m28o0 a0) fun r=>some r) fun x1=>(if(x1.1 != 0)=true then(some (.inr (([],false,x1.1))))else(Option.bind (Option.bind (m28o0 a1) fun r=>some r) fun x4=>(if(x4.1 != 0)=true then(some (.inr (([],false,x4.1))))else(Option.bind (Option.bind (m70 a0.Conds a1.Conds) fun r=>some r) fun x7=>(if(!x7)=true then(some (.inr (([],false,(1:Int)))))else(some (.inl ([(⟨(⟨x1.2.2.1,x1.2.2.2⟩:T37),(⟨x4.2.2.1,x4.2.2.2⟩:T37)⟩:T108)]:List T108))))))))) (onS fun(y1:(List T108))=>(Option.bind (Option.bind (some (.inl ())) (onS fun(_:Unit)=>(loopO (fun(s2:(List T108)×(List Int)×(List Int)×Int)=>((Option.bind (if(decide (s2.2.2.2 < (s2.1.length:Int)))=true then(some (.inl ()))else(some (.inr (.inr (.inl ()))))) (onS fun(_:Unit)=>(Option.bind (Option.bind (if(0≤s2.2.2.2)then(if(s2.2.2.2 < (s2.1.length:Int))then(if(0≤(a0.Conds.length:Int))then(some (.inl ()))else none)else none)else none) (onS fun(_:Unit)=>(loopO (fun(s3:(List T108)×(List Int)×(List Int)×Int)=>((if(decide (s3.2.2.2 < (IntKind.wrap .i64 ((1:Int) * 2 ^ (min (a0.Conds.length:Int).toNat (IntKind.bits .i64))))))=true then(Option.bind (Option.bind (m29 a0 (s2.1.getD s2.2.2.2.toNat default).a (IntKind.wrap .u16 (s3.2.2.2))) fun r=>some r) fun x18=>(Option.bind (Option.bind (m29 a1 (s2.1.getD s2.2.2.2.toNat default).b (IntKind.wrap .u16 (s3.2.2.2))) fun r=>some r) fun x19=>(Option.bind (((if(!(x18.2.2 != x19.2.2))=true then m70 x18.2.1 x19.2.1 else some default).bind fun r20_0=>some r20_0)) fun(x20:(Bool))=>(if((x18.2.2 != x19.2.2) || (!x20))=true then(Option.bind (((m56o0 s3.2.1 s3.2.2.1 s2.2.2.2).bind fun r21_0=>(if(r21_0.length+1) * 2≤140737488355328 then some r21_0 else none))) fun(x21:((List Int)))=>(some (.inr (.inr (.inr (.inr (((x21++([(IntKind.wrap .u16 (s3.2.2.2))]:List Int)),false,(0:Int)))))))))else(Option.bind ((if(!(x18.2.2 != 0))=true then((m71o0 s3.1 x18.1 x19.1).bind fun r22_0=>some (r22_0,x18,x19))else(if(x18.2.2 != 0)=true then some (default,x18,x19)else none))) fun(x22:(Bool×(T37×(List (List UInt8))×Int)×(T37×(List (List UInt8))×Int)))=>(if(!(x18.2.2 != 0))=true then(if((x18.2.2 != 0) || x22.1)=true then(some (.inl (s3.1,s3.2.1,s3.2.2.1,(IntKind.wrap .i64 (s3.2.2.2+1)))))else(if((s3.1.length:Int)==(400:Int))=true then(some (.inr (.inr (.inr (.inr (([],false,(3:Int))))))))else(if((s3.1.length+1) * 64≤140737488355328)then(if((s3.2.1.length+1) * 8≤140737488355328)then(if((s3.2.2.1.length+1) * 2≤140737488355328)then(some (.inl ((s3.1++([(⟨x22.2.1.1,x22.2.2.1⟩:T108)]:List T108)),(s3.2.1++([s2.2.2.2]:List Int)),(s3.2.2.1++([(IntKind.wrap .u16 (s3.2.2.2))]:List Int)),(IntKind.wrap .i64 (s3.2.2.2+1)))))else none)else none)else none)))else(if true=true then(some (.inl (s3.1,s3.2.1,s3.2.2.1,(IntKind.wrap .i64 (s3.2.2.2+1)))))else(if((s3.1.length:Int)==(400:Int))=true then(some (.inr (.inr (.inr (.inr (([],false,(3:Int))))))))else(if((s3.1.length+1) * 64≤140737488355328)then(if((s3.2.1.length+1) * 8≤140737488355328)then(if((s3.2.2.1.length+1) * 2≤140737488355328)then(some (.inl ((s3.1++([(⟨x18.1,x19.1⟩:T108)]:List T108)),(s3.2.1++([s2.2.2.2]:List Int)),(s3.2.2.1++([(IntKind.wrap .u16 (s3.2.2.2))]:List Int)),(IntKind.wrap .i64 (s3.2.2.2+1)))))else none)else none)else none)))))))))else(some (.inr (.inl (s3.1,s3.2.1,s3.2.2.1))))):Option (((List T108)×(List Int)×(List Int)×Int)⊕(((List T108)×(List Int)×(List Int))⊕(((List T108)×(List Int)×(List Int)×Int)⊕((Unit)⊕((List Int)×Bool×Int))))))) (s2.1,s2.2.1,s2.2.2.1,(0:Int))))) (onS fun(y4:(List T108)×(List Int)×(List Int))=>(some (.inl (y4.1,y4.2.1,y4.2.2,(IntKind.wrap .i64 (s2.2.2.2+1))))))))):Option (((List T108)×(List Int)×(List Int)×Int)⊕((Unit)⊕((List Int)×Bool×Int))))) (y1,([(-1:Int)]:List Int),([(0:Int)]:List Int),(0:Int))))) (onS fun(_:Unit)=>(some ([],true,(0:Int))))))):Option ((List Int)×Bool×Int)):=by kernel_rfl
theorem Equal_eq {c d:T27} (Hc:Fit c) (Hd:Fit d) (hn:c.Conds.length≤12):m33 c d=eqM c d:=by
 have q1:=Start_eq c Hc
 have q2:=Start_eq d Hd
 have q3:∀ a b:List (List UInt8),a.length≤1000000→m70 a b=some (a==b):=eqStrs_eq
 have q4:∀ (g:T37) (v:Int),m29 c g v=some (stepT c g v):=fun g v=>by rw[Step_eq c Hc,stepT_eq]
 have q5:∀ (g:T37) (v:Int),m29 d g v=some (stepT d g v):=fun g v=>by rw[Step_eq d Hd,stepT_eq]
 have q6:∀ (s:SS),Fb s→∀ k:Nat,k < s.1.length→m56o0 s.2.1 s.2.2 (k:Int)=some (wayL s k k):=fun s F k hk=>way_fb F hk
 have q7:∀ (l:List T108) (a b:T37),l.length≤1000000→(∀ p∈l,p.a.Memory.length≤1000000∧p.b.Memory.length≤1000000)→m71o0 l a b=some (hasPr l a b):=hasP_eq
 have hcl:c.Conds.length≤1000000:=by have:=Hc.conds;omega
 have q8:=q3 c.Conds d.Conds hcl
 have np:=numV_pos c
 have nl:=numV_le hn
 simp only[M33,bind_id,q1,q2,q8,shl64 hn]
 rw[show ((2 ^ c.Conds.length:Nat):Int)=(numV c:Int) from rfl]
 generalize m29=F1 at q4 q5 ⊢
 generalize m70=F2 at q3 ⊢
 generalize m56o0=F3 at q6 ⊢
 generalize m71o0=F4 at q7 ⊢
 unfold startM eqM
 obtain⟨e,he⟩:=checkM_some c
 obtain⟨f,hf⟩:=checkM_some d
 simp only[he,hf,bs]
 by_cases h0:(e != 0)=true
 ·simp only[h0,if_true,bs,or_]
 have h0:=Bool.eq_false_iff.2 h0
 have e0:e=0:=by simpa using h0
 subst e0
 simp only[bne_self,Bool.false_eq_true,if_false,bs]
 by_cases h1:(f != 0)=true
 ·simp only[h1,if_true,bs,or_]
 have h1:=Bool.eq_false_iff.2 h1
 have f0:f=0:=by simpa using h1
 subst f0
 simp only[bne_self,Bool.false_eq_true,if_false,bs]
 by_cases h2:(!(c.Conds==d.Conds))=true
 ·simp only[h2,if_true,bs,or_]
 have h2:=Bool.eq_false_iff.2 h2
 simp only[h2,Bool.false_eq_true,if_false,bs,ol]
 refine psrch_loop (prnd c d) (PInv c d) (fun i s=>(s.1,s.2.1,s.2.2,(i:Int))) (fun s I=>?_) (fun i s s' hi I h=>prnd_inv Hc Hd hi I h) (fun i s hi I=>?_) (fun i s hi I=>?_) rfl 402 0 (begP c d) (begP_inv Hc Hd he hf) (by simp) (by omega)
 ·have:=I.fb.le;rw[ssP_len]at this;exact this
 ·have fl:=I.fb.le
  have f1:=I.fb.l1
  have f2:=I.fb.l2
  rw[ssP_len]at fl f1 f2
  have f1:s.2.1.length=s.1.length:=f1
  have f2:s.2.2.length=s.1.length:=f2
  have c0:((0:Int)≤(c.Conds.length:Int))=True:=eq_true (by omega)
  have w2:IntKind.wrap .i64 ((i:Int)+1)=((i+1:Nat):Int):=by rw[w64 (by omega) (by omega)];omega
  simp only[inL hi,decide_true,if_true,Int.toNat_natCast,bs,ol,c0,w2]
  refine bind_eq (foldX_loop (pvis c d i (s.1.getD i default)) (QInv c d i (s.1.getD i default) s.1.length) (fun v t=>(t.1,t.2.1,t.2.2,(v:Int))) (fun t=>.inl (t.1,t.2.1,t.2.2)) (fun y=>.inr (.inr (.inr y))) (numV c) (fun v a b _ ha hb=>pvis_q Hc Hd v a b ha hb) (fun v t hv Q=>?_) (fun t Q=>?_) (numV c) 0 s (by omega) ⟨I,hi,Nat.le_refl _,rfl⟩) ?_
  ·have I2:=Q.inv
   have gl:=I2.fb.le
   have g1:=I2.fb.l1
   have g2:=I2.fb.l2
   rw[ssP_len]at gl g1 g2
   have g1:t.2.1.length=t.1.length:=g1
   have g2:t.2.2.length=t.1.length:=g2
   have d1:decide ((v:Int) < (numV c:Int))=true:=by simp;omega
   have w3:IntKind.wrap .u16 (v:Int)=(v:Int):=n16 (by omega)
   have w4:IntKind.wrap .i64 ((v:Int)+1)=((v+1:Nat):Int):=by rw[w64 (by omega) (by omega)];omega
   have c1:((t.1.length+1) * 64≤140737488355328)=True:=eq_true (by omega)
   have c2:((t.2.1.length+1) * 8≤140737488355328)=True:=eq_true (by omega)
   have c3:((t.2.2.length+1) * 2≤140737488355328)=True:=eq_true (by omega)
   have hw:=q6 (ssP t) I2.fb i (by rw[ssP_len];exact Q.lt)
   have hw:F3 t.2.1 t.2.2 (i:Int)=some (wayL (ssP t) i i):=hw
   have wl:=wayL_len (ssP t) i i
   have c4:(((wayL (ssP t) i i).length+1) * 2≤140737488355328)=True:=eq_true (by have:=Q.lt;omega)
   have al:=(stepM_ok Hc (stepT_eq c (s.1.getD i default).a (v:Int))).1
   simp only[d1,if_true,w3,q4,q5,bs]
   unfold pvis
   generalize stepT c (s.1.getD i default).a (v:Int)=x at al ⊢
   generalize stepT d (s.1.getD i default).b (v:Int)=y
   have q9:=q3 x.2.1 y.2.1 (by omega)
   by_cases h3:(x.2.2 != y.2.2)=true
   ·simp only[h3,Bool.not_true,Bool.false_eq_true,if_false,bs,Bool.true_or,if_true,hw,c4];rfl
   have h3:=Bool.eq_false_iff.2 h3
   simp only[h3,Bool.not_false,if_true,q9,bs,Bool.false_or]
   by_cases h4:(!(x.2.1==y.2.1))=true
   ·simp only[h4,if_true,hw,bs,c4];rfl
   have h4:=Bool.eq_false_iff.2 h4
   simp only[h4,Bool.false_eq_true,if_false]
   have q10:=q7 t.1 x.1 y.1 (by omega) (fun p hp=>⟨valid_short Hc (I2.ok p hp).1,valid_short Hd (I2.ok p hp).2⟩)
   by_cases h5:(x.2.2 != 0)=true
   ·simp only[h5,Bool.not_true,Bool.false_eq_true,if_false,if_true,bs,w4];rfl
   have h5:=Bool.eq_false_iff.2 h5
   simp only[h5,Bool.not_false,if_true,q10,bs,Bool.false_or]
   by_cases h6:hasPr t.1 x.1 y.1=true
   ·simp only[h6,if_true,w4];rfl
   have h6:=Bool.eq_false_iff.2 h6
   simp only[h6,Bool.false_eq_true,if_false]
   by_cases h7:t.1.length=400
   ·have d2:((t.1.length:Int)==(400:Int))=true:=by simp;omega
    simp only[d2,h7,if_true];rfl
   ·have d2:((t.1.length:Int)==(400:Int))=false:=by rw[beq_eq_false_iff_ne];omega
    simp only[d2,h7,Bool.false_eq_true,if_false,c1,c2,c3,if_true,w4];rfl
  ·simp only[lt_irr,decide_false,Bool.false_eq_true,if_false]
  ·unfold prnd
   cases foldX (pvis c d i (s.1.getD i default)) (numV c) 0 s with
   | inl s'=>rfl
   | inr y=>rfl
 ·subst hi
  simp only[lt_irr,decide_false,Bool.false_eq_true,if_false,bs,or_]
end Go.Av
set_option maxRecDepth 100000
namespace Go.Av
open Ch Go.Proofs
theorem M34 (a0 a1:T27):m34 a0 a1=((Option.bind (Option.bind (Option.bind (m74o0 a0) fun r=>some r) fun x1=>(if(x1.1 != 0)=true then(some (.inr (([],false,x1.1))))else(Option.bind (Option.bind (m74o0 a1) fun r=>some r) fun x4=>(if(x4.1 != 0)=true then(some (.inr (([],false,x4.1))))else(Option.bind (Option.bind (m41 a0.Conds a1.Conds) fun r=>some r) fun x7=>(if(!x7)=true then(some (.inr (([],false,(1:Int)))))else(some (.inl (([(⟨x1.2.2.1,x1.2.2.2⟩:T37)]:List T37),([(⟨x4.2.2.1,x4.2.2.2⟩:T37)]:List T37)))))))))) (onS fun(y1:(List T37)×(List T37))=>(Option.bind (Option.bind (some (.inl ())) (onS fun(_:Unit)=>(loopO (fun(s2:(List T37)×(List T37)×(List Int)×(List Int)×Int)=>((Option.bind (if(decide (s2.2.2.2.2 < (s2.1.length:Int)))=true then(some (.inl ()))else(some (.inr (.inr (.inl ()))))) (onS fun(_:Unit)=>(Option.bind (Option.bind (some (.inl ())) (onS fun(_:Unit)=>(loopO (fun(s3:(List T37)×(List T37)×(List Int)×(List Int)×Int)=>((Option.bind (Option.bind (Option.bind (m75 a0) fun r=>some r) fun x14=>(if(decide (s3.2.2.2.2≤x14))=true then(some (.inl ()))else(some (.inr (.inr (.inl (s3.1,s3.2.1,s3.2.2.1,s3.2.2.2.1))))))) (onS fun(_:Unit)=>(Option.bind (Option.bind (Option.bind ((if 0≤s2.2.2.2.2 then(if s2.2.2.2.2 < (s3.1.length:Int)then((m76 a0 (s3.1.getD s2.2.2.2.2.toNat default) (IntKind.wrap .u16 (s3.2.2.2.2))).bind fun r16_0=>some r16_0)else none)else none)) fun(x16:((T37×(List (List UInt8))×Int)))=>(Option.bind ((if 0≤s2.2.2.2.2 then(if s2.2.2.2.2 < (s3.2.1.length:Int)then((m76 a1 (s3.2.1.getD s2.2.2.2.2.toNat default) (IntKind.wrap .u16 (s3.2.2.2.2))).bind fun r17_0=>some r17_0)else none)else none)) fun(x17:((T37×(List (List UInt8))×Int)))=>(Option.bind (((if(!(x16.2.2 != x17.2.2))=true then m41 x16.2.1 x17.2.1 else some default).bind fun r18_0=>some r18_0)) fun(x18:(Bool))=>(if((x16.2.2 != x17.2.2) || (!x18))=true then(Option.bind (((m69o0 s3.2.2.1 s3.2.2.2.1 s2.2.2.2.2).bind fun r19_0=>(if(r19_0.length+1) * 2≤140737488355328 then some r19_0 else none))) fun(x19:((List Int)))=>(some (.inr (.inr (.inr (.inr (.inr (.inr (((x19++([(IntKind.wrap .u16 (s3.2.2.2.2))]:List Int)),false,(0:Int)))))))))))else(if(x16.2.2 != 0)=true then(some (.inr (.inl (s3.1,s3.2.1,s3.2.2.1,s3.2.2.2.1))))else(some (.inl (x16.1.Leaf,x16.1.Memory,x17.1.Leaf,x17.1.Memory)))))))) (onS fun(y4:Int×(List Int)×Int×(List Int))=>(Option.bind (Option.bind (some (.inl ())) (onS fun(_:Unit)=>(loopO (fun(s5:Bool×Int)=>((if(decide (s5.2 < (s3.1.length:Int)))=true then(Option.bind ((if(!s5.1)=true→0≤s5.2 then(if(!s5.1)=true→s5.2 < (s3.1.length:Int)then((if(!s5.1)=true then m17 (s3.1.getD s5.2.toNat default) (⟨y4.1,y4.2.1⟩:T37)else some default).bind fun r25_0=>(if((!s5.1)&&r25_0)=true→0≤s5.2 then(if((!s5.1)&&r25_0)=true→s5.2 < (s3.2.1.length:Int)then((if((!s5.1)&&r25_0)=true then m17 (s3.2.1.getD s5.2.toNat default) (⟨y4.2.2.1,y4.2.2.2⟩:T37)else some default).bind fun r25_1=>some (r25_0,r25_1))else none)else none))else none)else none)) fun(x25:(Bool×Bool))=>(some (.inl ((s5.1 || (x25.1&&x25.2)),(IntKind.wrap .i64 (s5.2+1))))))else(some (.inr (.inl s5.1)))):Option ((Bool×Int)⊕((Bool)⊕(((List T37)×(List T37)×(List Int)×(List Int))⊕(((List T37)×(List T37)×(List Int)×(List Int)×Int)⊕(((List T37)×(List T37)×(List Int)×(List Int))⊕(((List T37)×(List T37)×(List Int)×(List Int)×Int)⊕((Unit)⊕((List Int)×Bool×Int)))))))))) (false,(0:Int))))) (onS fun(y6:Bool)=>(if(!y6)=true then(if((s3.1.length+1) * 32≤140737488355328)then(if((s3.2.1.length+1) * 32≤140737488355328)then(if((s3.2.2.1.length+1) * 8≤140737488355328)then(if((s3.2.2.2.1.length+1) * 2≤140737488355328)then(if(decide (400 < (((s3.1.length+1):Nat):Int)))=true then(some (.inr (.inr (.inr (.inr (.inr (([],false,(3:Int)))))))))else(some (.inl ((s3.1++([(⟨y4.1,y4.2.1⟩:T37)]:List T37)),(s3.2.1++([(⟨y4.2.2.1,y4.2.2.2⟩:T37)]:List T37)),(s3.2.2.1++([s2.2.2.2.2]:List Int)),(s3.2.2.2.1++([(IntKind.wrap .u16 (s3.2.2.2.2))]:List Int))))))else none)else none)else none)else none)else(some (.inl (s3.1,s3.2.1,s3.2.2.1,s3.2.2.2.1)))))))) (onS fun(y7:(List T37)×(List T37)×(List Int)×(List Int))=>(some (.inl (y7.1,y7.2.1,y7.2.2.1,y7.2.2.2,(IntKind.wrap .i64 (s3.2.2.2.2+1))))))))):Option (((List T37)×(List T37)×(List Int)×(List Int)×Int)⊕(((List T37)×(List T37)×(List Int)×(List Int))⊕(((List T37)×(List T37)×(List Int)×(List Int)×Int)⊕((Unit)⊕((List Int)×Bool×Int))))))) (s2.1,s2.2.1,s2.2.2.1,s2.2.2.2.1,(0:Int))))) (onS fun(y8:(List T37)×(List T37)×(List Int)×(List Int))=>(some (.inl (y8.1,y8.2.1,y8.2.2.1,y8.2.2.2,(IntKind.wrap .i64 (s2.2.2.2.2+1))))))))):Option (((List T37)×(List T37)×(List Int)×(List Int)×Int)⊕((Unit)⊕((List Int)×Bool×Int))))) (y1.1,y1.2,([(-1:Int)]:List Int),([(0:Int)]:List Int),(0:Int))))) (onS fun(_:Unit)=>(some ([],true,(0:Int))))))):Option ((List Int)×Bool×Int)):=by kernel_rfl
theorem rEqual_eq {c d:T27} (Hc:Fit c) (Hd:Fit d) (hn:c.Conds.length≤12):m34 c d=eqM c d:=by
 have q1:=rStart_eq c Hc
 have q2:=rStart_eq d Hd
 have q3:∀ a b:List (List UInt8),a.length≤1000000→m41 a b=some (a==b):=SameStrings_eq
 have np:=numV_pos c
 have nl:=numV_le hn
 have q4:∀ (g:T37) (v:Int),0≤v→v < 65536→m76 c g v=some (stepT c g v):=fun g v h0 h1=>by rw[rStep_eq c Hc g v h0 h1,stepT_eq]
 have q5:∀ (g:T37) (v:Int),0≤v→v < 65536→m76 d g v=some (stepT d g v):=fun g v h0 h1=>by rw[rStep_eq d Hd g v h0 h1,stepT_eq]
 have q6:∀ (s:SS),Fb s→∀ k:Nat,k < s.1.length→m69o0 s.2.1 s.2.2 (k:Int)=some (wayL s k k):=fun s F k hk=>rway_fb F hk
 have q7:∀ x y:T37,x.Memory.length≤1000000→m17 x y=some (eqC x y):=SameConfig_eq
 have hcl:c.Conds.length≤1000000:=by have:=Hc.conds;omega
 have q8:=q3 c.Conds d.Conds hcl
 have q9:=rtop_eq hn
 simp only[M34,bind_id,q1,q2,q8,q9,bs]
 generalize m76=F1 at q4 q5 ⊢
 generalize m41=F2 at q3 ⊢
 generalize m69o0=F3 at q6 ⊢
 generalize m17=F4 at q7 ⊢
 unfold startM eqM
 obtain⟨e,he⟩:=checkM_some c
 obtain⟨f,hf⟩:=checkM_some d
 simp only[he,hf,bs]
 by_cases h0:(e != 0)=true
 ·simp only[h0,if_true,bs,or_]
 have h0:=Bool.eq_false_iff.2 h0
 have e0:e=0:=by simpa using h0
 subst e0
 simp only[bne_self,Bool.false_eq_true,if_false,bs]
 by_cases h1:(f != 0)=true
 ·simp only[h1,if_true,bs,or_]
 have h1:=Bool.eq_false_iff.2 h1
 have f0:f=0:=by simpa using h1
 subst f0
 simp only[bne_self,Bool.false_eq_true,if_false,bs]
 by_cases h2:(!(c.Conds==d.Conds))=true
 ·simp only[h2,if_true,bs,or_]
 have h2:=Bool.eq_false_iff.2 h2
 simp only[h2,Bool.false_eq_true,if_false,bs,ol]
 show (loopO _ ((begP c d).1.map (fun p=>p.a),(begP c d).1.map (fun p=>p.b),(begP c d).2.1,(begP c d).2.2,((0:Nat):Int))).bind (onS _)=_
 refine psrch_loop (k:=fun _=>some ([],true,(0:Int))) (prnd c d) (PInv c d) (fun i s=>(s.1.map fun p=>p.a,s.1.map fun p=>p.b,s.2.1,s.2.2,(i:Int))) (fun s I=>?_) (fun i s s' hi I h=>prnd_inv Hc Hd hi I h) (fun i s hi I=>?_) (fun i s hi I=>?_) rfl 402 0 (begP c d) (begP_inv Hc Hd he hf) (by simp) (by omega)
 ·have:=I.fb.le;rw[ssP_len]at this;exact this
 ·have fl:=I.fb.le
  have f1:=I.fb.l1
  have f2:=I.fb.l2
  rw[ssP_len]at fl f1 f2
  have f1:s.2.1.length=s.1.length:=f1
  have f2:s.2.2.length=s.1.length:=f2
  have w2:IntKind.wrap .i64 ((i:Int)+1)=((i+1:Nat):Int):=by rw[w64 (by omega) (by omega)];omega
  simp only[List.length_map,inL hi,decide_true,if_true,Int.toNat_natCast,bs,ol,w2]
  refine bind_eq (foldX_loop (pvis c d i (s.1.getD i default)) (QInv c d i (s.1.getD i default) s.1.length) (fun v t=>(t.1.map fun p=>p.a,t.1.map fun p=>p.b,t.2.1,t.2.2,(v:Int))) (fun t=>.inl (t.1.map fun p=>p.a,t.1.map fun p=>p.b,t.2.1,t.2.2)) (fun y=>.inr (.inr (.inr y))) (numV c) (fun v a b _ ha hb=>pvis_q Hc Hd v a b ha hb) (fun v t hv Q=>?_) (fun t Q=>?_) (numV c) 0 s (by omega) ⟨I,hi,Nat.le_refl _,rfl⟩) ?_
  ·have I2:=Q.inv
   have gl:=I2.fb.le
   have g1:=I2.fb.l1
   have g2:=I2.fb.l2
   have gi:=Q.lt
   rw[ssP_len]at gl g1 g2
   have g1:t.2.1.length=t.1.length:=g1
   have g2:t.2.2.length=t.1.length:=g2
   have d1:decide ((v:Int)≤(numV c:Int) - 1)=true:=by simp;omega
   have w3:IntKind.wrap .u16 (v:Int)=(v:Int):=n16 (by omega)
   have w4:IntKind.wrap .i64 ((v:Int)+1)=((v+1:Nat):Int):=by rw[w64 (by omega) (by omega)];omega
   have c1:((t.1.length+1) * 32≤140737488355328)=True:=eq_true (by omega)
   have c2:((t.2.1.length+1) * 8≤140737488355328)=True:=eq_true (by omega)
   have c3:((t.2.2.length+1) * 2≤140737488355328)=True:=eq_true (by omega)
   have c5:((0:Int)≤(i:Int))=True:=eq_true (by omega)
   have c6:((i:Int) < (t.1.length:Int))=True:=eq_true (by omega)
   have hw:=q6 (ssP t) I2.fb i (by rw[ssP_len];exact Q.lt)
   have hw:F3 t.2.1 t.2.2 (i:Int)=some (wayL (ssP t) i i):=hw
   have wl:=wayL_len (ssP t) i i
   have c4:(((wayL (ssP t) i i).length+1) * 2≤140737488355328)=True:=eq_true (by omega)
   have al:=(stepM_ok Hc (stepT_eq c (s.1.getD i default).a (v:Int))).1
   have m1:(t.1.map fun p=>p.a).getD i default=(s.1.getD i default).a:=by rw[map_getD gi,Q.at_]
   have m2:(t.1.map fun p=>p.b).getD i default=(s.1.getD i default).b:=by rw[map_getD gi,Q.at_]
   simp only[List.length_map,d1,c5,c6,if_true,w3,Int.toNat_natCast,m1,m2,q4 _ (v:Int) (by omega) (by omega),q5 _ (v:Int) (by omega) (by omega),bs,ol]
   unfold pvis
   generalize stepT c (s.1.getD i default).a (v:Int)=x at al ⊢
   generalize stepT d (s.1.getD i default).b (v:Int)=y
   have q9:=q3 x.2.1 y.2.1 (by omega)
   by_cases h3:(x.2.2 != y.2.2)=true
   ·simp only[h3,Bool.not_true,Bool.false_eq_true,if_false,bs,Bool.true_or,if_true,hw,c4,or_];rfl
   have h3:=Bool.eq_false_iff.2 h3
   simp only[h3,Bool.not_false,if_true,q9,bs,Bool.false_or]
   by_cases h4:(!(x.2.1==y.2.1))=true
   ·simp only[h4,if_true,hw,bs,c4,or_];rfl
   have h4:=Bool.eq_false_iff.2 h4
   simp only[h4,Bool.false_eq_true,if_false]
   by_cases h5:(x.2.2 != 0)=true
   ·simp only[h5,Bool.not_true,Bool.false_eq_true,if_false,if_true,bs,ol,or_,w4];rfl
   have h5:=Bool.eq_false_iff.2 h5
   simp only[h5,Bool.false_eq_true,if_false,bs,ol]
   refine bind_eq (any_loop t.1.length (fun j=>eqC (t.1.getD j default).a x.1&&eqC (t.1.getD j default).b y.1) (fun g j hj=>?_) (fun g=>?_) rfl) ?_
   ·have hv2:=I2.ok _ (getD_mem hj)
    have w5:IntKind.wrap .i64 ((j:Int)+1)=((j+1:Nat):Int):=by rw[w64 (by omega) (by omega)];omega
    have c7:((0:Int)≤(j:Int))=True:=eq_true (by omega)
    have c8:((j:Int) < (t.1.length:Int))=True:=eq_true (by omega)
    have r1:=q7 (t.1.getD j default).a x.1 (valid_short Hc hv2.1)
    have r2:=q7 (t.1.getD j default).b y.1 (valid_short Hd hv2.2)
    have m3:(t.1.map fun p=>p.a).getD j default=(t.1.getD j default).a:=map_getD hj
    have m4:(t.1.map fun p=>p.b).getD j default=(t.1.getD j default).b:=map_getD hj
    simp only[c7,c8,decide_true,if_true,imp_true_iff,Int.toNat_natCast,m3,m4,etaG,r1,r2,w5]
    cases g
    ·cases eqC (t.1.getD j default).a x.1<;>simp only[Bool.not_true,Bool.not_false,Bool.false_eq_true,if_true,if_false,bs,Bool.true_and,Bool.false_and,Bool.and_false,Bool.false_or]
    ·simp only[Bool.not_true,Bool.false_eq_true,if_false,bs,Bool.true_or,Bool.false_and]
   ·simp only[lt_irr,decide_false,Bool.false_eq_true,if_false]
   ·show Option.bind (if(!hasPr t.1 x.1 y.1)=true then _ else _) _=_
    by_cases h6:hasPr t.1 x.1 y.1=true
    ·simp only[h6,Bool.not_true,Bool.false_eq_true,if_false,if_true,bs,ol,w4];rfl
    have h6:=Bool.eq_false_iff.2 h6
    simp only[h6,Bool.not_false,Bool.false_eq_true,if_false,if_true,c1,c2,c3]
    by_cases h7:t.1.length=400
    ·have d2:decide ((400:Int) < ((t.1.length+1:Nat):Int))=true:=by simp;omega
     simp only[d2,h7,if_true,bs,or_];rfl
    ·have d2:decide ((400:Int) < ((t.1.length+1:Nat):Int))=false:=by simp;omega
     simp only[d2,h7,Bool.false_eq_true,if_false,bs,ol,w4,fsum,List.map_append,List.map_cons,List.map_nil,etaG]
  ·have d1:decide ((numV c:Int)≤(numV c:Int) - 1)=false:=by simp;omega
   simp only[d1,Bool.false_eq_true,if_false,bs,or_]
  ·unfold prnd
   cases foldX (pvis c d i (s.1.getD i default)) (numV c) 0 s with
   | inl s'=>rfl
   | inr y=>rfl
 ·subst hi
  simp only[List.length_map,lt_irr,decide_false,Bool.false_eq_true,if_false,bs,or_]
end Go.Av
set_option maxRecDepth 1000000
namespace Go.Av
open Ch Go.Proofs
theorem Cc.awake_true:m13=some true:=by kernel_rfl
theorem foldX_res {S Y:Type} {g:Nat→S→S⊕Y} {P:S→Prop} {R:Y→Prop} {n:Nat} (hP:∀ i s s',i < n→P s→g i s=.inl s'→P s') (hR:∀ i s y,i < n→P s→g i s=.inr y→R y):∀ k i s y,i+k=n→P s→foldX g k i s=.inr y→R y
 | 0,i,s,y,hk,hs,h=>by cases h
 | k+1,i,s,y,hk,hs,h=>by
  unfold foldX at h
  cases hg:g i s with
  | inl t =>
   rw[hg]at h
   exact foldX_res hP hR k (i+1) t y (by omega) (hP i s t (by omega) hs hg) h
  | inr z =>
   rw[hg]at h
   injection h with h
   subst h
   exact hR i s z (by omega) hs hg
theorem pvis_len {c d:T27} {i v:Nat} {p:T108} {s:PS} {y:PR} (hi:i≤400) (h:pvis c d i p v s=.inr y):y.1.length≤500:=by
 have:=wayL_len (ssP s) i i
 unfold pvis at h
 split at h
 ·injection h with h;subst h;simp;omega
 ·split at h
  ·cases h
  ·split at h
   ·cases h
   ·split at h
    ·injection h with h;subst h;simp
    ·cases h
theorem psrch_len {c d:T27} (Hc:Fit c) (Hd:Fit d):∀ (n i:Nat) (s:PS),PInv c d s→(psrch (prnd c d) n i s).1.length≤500
 | 0,i,s,I=>by simp[psrch]
 | n+1,i,s,I=>by
  unfold psrch
  by_cases hi:i < s.1.length
  ·rw[if_pos hi]
   cases hg:prnd c d i s with
   | inl s'=>exact psrch_len Hc Hd n (i+1) s' (prnd_inv Hc Hd hi I hg).1
   | inr y =>
    have fl:=I.fb.le
    rw[ssP_len]at fl
    exact foldX_res (R:=fun y:PR=>y.1.length≤500) (P:=QInv c d i (s.1.getD i default) s.1.length) (n:=numV c) (fun v a b _ ha hb=>pvis_q Hc Hd v a b ha hb) (fun v a z _ _ hz=>pvis_len (by omega) hz) (numV c) 0 s y (by omega) ⟨I,hi,Nat.le_refl _,rfl⟩ hg
  ·rw[if_neg hi];simp
theorem eqM_ok {c d:T27} (Hc:Fit c) (Hd:Fit d):∃ r,eqM c d=some r∧r.1.length≤500:=by
 obtain⟨e,he⟩:=checkM_some c
 obtain⟨f,hf⟩:=checkM_some d
 unfold eqM
 simp only[he,hf,Option.bind_some]
 by_cases h0:(e != 0)=true
 ·rw[if_pos h0];exact⟨_,rfl,by simp⟩
 have e0:e=0:=by simpa using h0
 by_cases h1:(f != 0)=true
 ·rw[if_neg h0,if_pos h1];exact⟨_,rfl,by simp⟩
 have f0:f=0:=by simpa using h1
 rw[if_neg h0,if_neg h1]
 by_cases h2:(!(c.Conds==d.Conds))=true
 ·rw[if_pos h2];exact⟨_,rfl,by simp⟩
 ·rw[if_neg h2]
  subst e0
  subst f0
  exact⟨_,rfl,psrch_len Hc Hd _ _ _ (begP_inv Hc Hd he hf)⟩
theorem M9 (a0 a1:T27):m9 a0 a1=((Option.bind (Option.bind (m13) fun r=>some r) fun x1=>(if(!x1)=true then(some false)else(Option.bind (((m14 a0).bind fun r3_0=>((m14 a1).bind fun r3_1=>some (r3_0,r3_1)))) fun(x3:(T27×T27))=>(Option.bind (Option.bind (m33 x3.1 x3.2) fun r=>some r) fun x4=>(Option.bind (Option.bind (m34 x3.1 x3.2) fun r=>some r) fun x5=>(Option.bind (Option.bind (m31 x4.1 x5.1) fun r=>some r) fun x6=>(some ((x6&&(x4.2.1==x5.2.1))&&(x4.2.2==x5.2.2))))))))):Option (Bool)):=by kernel_rfl
theorem plain9 {c d:T27} (_:ok27 c) (_:ok27 d):m9 c d=some true:=by
 have T:=few8_tiny c
 have H:=T.fit
 have hn:(few8 c).Conds.length≤12:=by have:=T.conds;omega
 have T2:=few8_tiny d
 have H2:=T2.fit
 have q0:=Cc.awake_true
 have q1:=few_eq8 c
 have q2:=few_eq8 d
 have q3:=Equal_eq H H2 hn
 have q4:=rEqual_eq H H2 hn
 obtain⟨r,hr,hl⟩:=eqM_ok H H2
 rw[hr]at q3 q4
 have q5:m31 r.1 r.1=some true:=by
  delta m31 d31
  simp only[↓JD.sg_m,↓JD.sq_m,↓JD.sc_m,↓JD.bk_m,↓JD.lp_m,↓JD.cd_m,↓JD.lu_m,↓JD.ct_m,↓JD.ce_m,↓JL.r_m,↓JL.z_m,↓JD.se_m,onE_r,↓Tr.run,↓Tr.run_nd,↓Tr.run_c3,↓Tr.run_c2,↓Tr.run_nx,↓onS,bind_ite,Option.bind_some,Option.bind_none,obR,bne_self,Bool.false_eq_true,if_false]
  refine loop_pass r.1.length (fun i hi=>?_) (by (simp only[lt_irr,decide_false,Bool.false_eq_true,if_false];try rfl)) rfl
  simp only[inL hi,decide_true,Int.toNat_natCast,if_true,wr1 hi (by omega),bne_self,Bool.false_eq_true,if_false]
 simp only[M9,bind_id,q0,q1,q2,q3,q4,q5,bs,beq_self_eq_true,Bool.not_true,Bool.false_eq_true,if_false,if_true,Bool.and_self]
end Go.Av
