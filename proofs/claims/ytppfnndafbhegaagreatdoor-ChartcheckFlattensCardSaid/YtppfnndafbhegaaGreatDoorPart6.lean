/- A part of the proof. -/
import Derived.Test.YtppfnndafbhegaaGreatDoorPart5
set_option linter.unusedVariables false
set_option linter.unusedSimpArgs false
set_option maxRecDepth 100000
namespace Go.Av
open Go.RowKit Go.Base Go.Proofs Go.ChangeShapes Go.WideShapes
noncomputable def ln (a0:A7) (a1 a2:List Int) (a3:List (List UInt8)):JO Tryz.prog Tryz.f122 [(.d (B6 a0)),(.arr 0 1 a1.length),(Hw a2),(.ap 1 a3.length (cF D.str a3) (.tok 1 9))] [(0,(.arr 1 a1.length (cF dI a1)))] [0,1] (q122o1 a0 a1 a2 a3) :=
 (.sq 1 [] [(0,[1,2,3,4],[0,16])] (fun(_:Unit)=>⟨[(1,(.arr 0 1 a1.length)),(2,(Hw a2)),(3,(.ap 1 a3.length (cF D.str a3) (.tok 1 9))),(4,(.ptr 16 0))],[(0,(.arr 1 a1.length (cF dI a1))),(16,(.cells (Ac a0)))],[0,1],48⟩) (.nx ()) (fun _=>(.sc (fun(y2:(List Int)×(List (List UInt8)))=>⟨[(1,(.arr 0 1 a1.length)),(2,(Hw a2)),(3,(.ap 1 y2.2.length (cF D.str y2.2) (.tok 1 9)))],[(0,(.arr 1 a1.length (cF dI y2.1)))],[0,1],560⟩) (.sq 1 [] [(0,[1,2,3,4,9],[0,16])] (fun(_:Unit)=>⟨[(1,(.arr 0 1 a1.length)),(2,(Hw a2)),(3,(.ap 1 a3.length (cF D.str a3) (.tok 1 9))),(4,(.ptr 16 0)),(9,(aI (IntKind.wrap .i64 ((a2.length:Int) - (1:Int)))))],[(0,(.arr 1 a1.length (cF dI a1))),(16,(.cells (Ac a0)))],[0,1],112⟩) (.nx ()) (fun _=>(.bk (.lp (fun(s1:(List Int)×(List (List UInt8))×Int)=>⟨[(1,(.arr 0 1 a1.length)),(2,(Hw a2)),(3,(.ap 1 s1.2.1.length (cF D.str s1.2.1) (.tok 1 9))),(4,(.ptr 16 0)),(9,(aI s1.2.2))],[(0,(.arr 1 a1.length (cF dI s1.1))),(16,(.cells (Ac a0)))],[0,1],528⟩) (a1,a3,(IntKind.wrap .i64 ((a2.length:Int) - (1:Int)))) (ws (Aj [0,16]) (Aj [0,1]) ⟨⟨_,_,rfl,rfl,⟨rfl,(D6 dr)⟩⟩,⟨_,_,rfl,rfl,⟨dr,dr,dr,dr,dr,dr,trivial⟩⟩⟩) fun s1=>(.sg [] [(0,[1,2,3,4,9],[0,16]),(2,[1,2,3],[0])] (.ite (decide (0≤s1.2.2)) (nd ((0+s1.2.1.length) * 16≤140737488355328) (nd (0≤s1.2.2) (nd (s1.2.2 < (a2.length:Int)) (nd (0≤(a2.getD s1.2.2.toNat default)) (nd ((a2.getD s1.2.2.toNat default) < (a0.A4.length:Int)) (nd (((0+s1.2.1.length)+(a0.A4.getD (a2.getD s1.2.2.toNat default).toNat default).Az.length) * 16≤140737488355328) (nd (0≤s1.2.2) (nd (s1.2.2 < (a2.length:Int)) (nd (0≤(a2.getD s1.2.2.toNat default)) (nd ((a2.getD s1.2.2.toNat default) < (a1.length:Int)) (nd ((a2.getD s1.2.2.toNat default).toNat < a1.length) (.ret .normal ⟨[(1,(.arr 0 1 a1.length)),(2,(Hw a2)),(3,(.ap 1 ((0+s1.2.1.length)+(a0.A4.getD (a2.getD s1.2.2.toNat default).toNat default).Az.length) (Bf (0+s1.2.1.length) (Bf 0 (Bc []) (cF D.str s1.2.1)) (cF D.str (a0.A4.getD (a2.getD s1.2.2.toNat default).toNat default).Az)) (.tok 752 9))),(4,(.ptr 16 0)),(9,(aI (IntKind.wrap .i64 (s1.2.2 - 1))))],[(0,(.arr 1 a1.length (fun k=>if k=(a2.getD s1.2.2.toNat default).toNat then(dI (-1))else(cF dI s1.1) k))),(16,(.cells (Ac a0)))],[752,0,1],944⟩ (.inl (((At s1.1 0 a1.length).set (a2.getD s1.2.2.toNat default).toNat (-1:Int)),((([]:List (List UInt8))++s1.2.1)++(a0.A4.getD (a2.getD s1.2.2.toNat default).toNat default).Az),(IntKind.wrap .i64 (s1.2.2 - 1)))) ⟨rfl,(H9 [(0,0),(16,16)] [(0,0),(1,752)] (by kernel_rfl) ⟨⟨rfl,rfl,rfl⟩,⟨rfl,rfl,rfl,dr⟩,⟨rfl,rfl,rfl,(Ay (Ay (B5 rfl rfl) dr) dr)⟩,⟨rfl,rfl⟩,dr⟩ ⟨⟨_,_,rfl,rfl,⟨rfl,(D6 (Dw Ba))⟩⟩,⟨_,_,rfl,rfl,⟨dr,dr,dr,dr,dr,dr,trivial⟩⟩⟩)⟩)))))))))))) (.ret (.exit 0) _ (.inr (.inl (s1.1,s1.2.1))) ⟨rfl,rfl,Weak.refl _⟩))))))) fun y2=>(.sg [] [(1,[1,2,3,8],[0])] (.ret .ret ⟨[(1,(.arr 0 1 a1.length)),(2,(Hw a2)),(3,(.ap 1 y2.2.length (cF D.str y2.2) (.tok 1 9))),(8,(.ap 1 y2.2.length (cF D.str y2.2) (.tok 1 9)))],[(0,(.arr 1 a1.length (cF dI y2.1)))],[0,1],592⟩ (y2.2,y2.1,y2.2) ⟨rfl,(rk [(0,0)] (Aj [1,0]) 592)⟩)))))
noncomputable def Z9 (a0:A7) (a1 a2:List Int) (a3:List (List UInt8)):Option ((List (List UInt8))×(List Int)×(List (List UInt8))):=(ln a0 a1 a2 a3).m
theorem po122o1 {a0:A7} {a1:List Int} {a2:List Int} {a3:List (List UInt8)} {r:(List (List UInt8))×(List Int)×(List (List UInt8))} (h:Z9 a0 a1 a2 a3=some r):Cq Tryz.prog 122 [(.d (B6 a0)),(.arr 0 1 a1.length),(Hw a2),(.ap 1 a3.length (cF D.str a3) (.tok 1 9))] [(0,(.arr 1 a1.length (cF dI a1)))] [0,1] (q122o1 a0 a1 a2 a3 r):=C0 (ln a0 a1 a2 a3) Tryz.func122 h
noncomputable abbrev Mc (a2:Ap) (y4:(List Int)×(List (List UInt8))):AV:=(.ap 1 (y4.2++a2.B9).length (cF D.str (y4.2++a2.B9)) (.tok 1072 9))
noncomputable abbrev yf (a0:A7) (a1:A9) (s3:(List Int)×(List (List UInt8))×Int×Int) (y1:Int) (y2:(List Int)×Int):List (Nat×AV):=[(3,(.ptr 16 0)),(5,(.ptr 48 0)),(6,(.ptr 64 0)),(8,(.arr 144 1 a1.A6.length)),(9,(.ap 1 (s3.2.1.length+(a0.A4.getD (y2.1.getD s3.2.2.2.toNat default).toNat default).Exit.length) (Bf s3.2.1.length (cF D.str s3.2.1) (cF D.str (a0.A4.getD (y2.1.getD s3.2.2.2.toNat default).toNat default).Exit)) (.tok 1136 9))),(10,(aI y1)),(11,(aI (y2.1.getD s3.2.2.2.toNat default))),(32,(.d (A5 1 dI y2.1))),(33,(aI y2.2)),(34,(aI (IntKind.wrap .i64 (s3.2.2.2+1))))]
noncomputable def yg (a1:A9) (x:((List (List UInt8))×(List Int)×(List (List UInt8)))):OT:=⟨(.ap 1 x.1.length (cF D.str x.1) (.tok 1632 9)),[144],[1392,1072],[(144,(.arr 1 a1.A6.length (cF dI x.2.1)))],[1632,1633]⟩
noncomputable def o126_1 (a1:A9) (x:((List (List UInt8))×Int×(List Int)×(List (List UInt8)))):OT:=⟨(.tup [(aI x.2.1),(.ap 1 x.1.length (cF D.str x.1) (.tok 1744 9))]),[144],[1632],[(144,(.arr 1 a1.A6.length (cF dI x.2.2.1)))],[1744]⟩
noncomputable def d126 (a0:A7) (a1:A9) (a2:Ap):JF Tryz.prog Tryz.f126 [(B6 a0),(Am a1),(B8 a2)] (fun(r:A9×(List (List UInt8)))=>(.tup [(Am r.1),(A5 1 D.str r.2)])) :=
 (.sq 5 [(1,⟨Unit,fun x=>[],fun x=>[],[144]⟩),(3,Bd 28 dI)] [(0,[3,4,5,6,8,9,10,11],[144,16,32,48,64])] (fun(y1:Int)=>⟨[(3,(.ptr 16 0)),(4,(.ptr 32 0)),(5,(.ptr 48 0)),(6,(.ptr 64 0)),(8,(.arr 144 1 a1.A6.length)),(9,aN),(10,(aI y1)),(11,(aI (-1)))],[(144,(.arr 1 a1.A6.length (cF dI a1.A6))),(16,(.cells (Ac a0))),(32,(.cells (Gc a1))),(48,(.cells (Nx a2))),(64,(.cells [(aI 0),aN]))],[],320⟩) (.exi (Unit) (if 0 < a1.A6.length then(if a1.A6.length * 8≤140737488355328 then some ()else none)else none) (fun x1=>(.p (0 < a1.A6.length) (.p (a1.A6.length * 8≤140737488355328) (.fin 0)))) (by intro x1 h;obtain⟨h1,h⟩:=Ak h;obtain⟨h2,h⟩:=Ak h;cases h;exact⟨h1,h2,trivial⟩) (fun x1 _=>(c3 (@p160 a0 a2.From a2.To) fun x3=>(.nx x3)))) (fun y1=>(.sc (fun(y4:(List Int)×(List (List UInt8)))=>⟨[(3,(.ptr 16 0)),(5,(.ptr 48 0)),(6,(.ptr 64 0)),(8,(.arr 144 1 a1.A6.length)),(9,(.ap 1 y4.2.length (cF D.str y4.2) (.tok 640 9))),(10,(aI y1))],[(144,(.arr 1 a1.A6.length (cF dI y4.1))),(16,(.cells (Ac a0))),(48,(.cells (Nx a2))),(64,(.cells [(aI 0),aN]))],[640],1024⟩) (.sq 1 [(5,Bd 32 (A5 1 dI))] [(0,[3,5,6,8,9,10,11,32,33,34],[144,16,48,64])] (fun(y2:(List Int)×Int)=>⟨[(3,(.ptr 16 0)),(5,(.ptr 48 0)),(6,(.ptr 64 0)),(8,(.arr 144 1 a1.A6.length)),(9,aN),(10,(aI y1)),(11,(aI (-1))),(32,(.d (A5 1 dI y2.1))),(33,(aI y2.2)),(34,(aI 0))],[(144,(.arr 1 a1.A6.length (cF dI a1.A6))),(16,(.cells (Ac a0))),(48,(.cells (Nx a2))),(64,(.cells [(aI 0),aN]))],[],416⟩) (c3 (@Wo a0 a1.Leaf) fun x5=>(.nx (x5,(x5.length:Int)))) (fun y2=>(.bk (.lp (fun(s3:(List Int)×(List (List UInt8))×Int×Int)=>⟨[(3,(.ptr 16 0)),(5,(.ptr 48 0)),(6,(.ptr 64 0)),(8,(.arr 144 1 a1.A6.length)),(9,(.ap 1 s3.2.1.length (cF D.str s3.2.1) (.tok 640 9))),(10,(aI y1)),(11,(aI s3.2.2.1)),(32,(.d (A5 1 dI y2.1))),(33,(aI y2.2)),(34,(aI s3.2.2.2))],[(144,(.arr 1 a1.A6.length (cF dI s3.1))),(16,(.cells (Ac a0))),(48,(.cells (Nx a2))),(64,(.cells [(aI 0),aN]))],[640],912⟩) (a1.A6,[],(-1:Int),(0:Int)) (ws (Aj [16,48,64,144]) [] ⟨⟨_,_,rfl,rfl,⟨rfl,(D6 dr)⟩⟩,⟨_,_,rfl,rfl,⟨dr,dr,dr,dr,dr,dr,trivial⟩⟩,⟨_,_,rfl,rfl,⟨dr,dr,dr,dr,trivial⟩⟩,⟨_,_,rfl,rfl,⟨dr,rfl,trivial⟩⟩⟩) fun s3=>(.sg [] [(2,[3,5,6,8,9,10],[144,16,48,64]),(0,[3,5,6,8,9,10,11,32,33,34],[144,16,48,64])] (.ite (decide (s3.2.2.2 < y2.2)) (nd (0≤s3.2.2.2) (nd (s3.2.2.2 < (y2.1.length:Int)) (.ite ((y2.1.getD s3.2.2.2.toNat default)==y1) (.ret (.exit 0) _ (.inr (.inl (s3.1,s3.2.1))) ⟨rfl,rfl,Weak.refl _⟩) (nd (0≤(y2.1.getD s3.2.2.2.toNat default)) (nd ((y2.1.getD s3.2.2.2.toNat default) < (a0.A4.length:Int)) (nd ((s3.2.1.length+(a0.A4.getD (y2.1.getD s3.2.2.2.toNat default).toNat default).Exit.length) * 16≤140737488355328) (nd (0≤(y2.1.getD s3.2.2.2.toNat default)) (nd ((y2.1.getD s3.2.2.2.toNat default) < (a0.A4.length:Int)) (.ite (a0.A4.getD (y2.1.getD s3.2.2.2.toNat default).toNat default).Aw (nd (0≤(y2.1.getD s3.2.2.2.toNat default)) (nd ((y2.1.getD s3.2.2.2.toNat default) < (a1.A6.length:Int)) (nd ((y2.1.getD s3.2.2.2.toNat default).toNat < a1.A6.length) (.ret .normal ⟨(yf a0 a1 s3 y1 y2),[(144,(.arr 1 a1.A6.length (fun k=>if k=(y2.1.getD s3.2.2.2.toNat default).toNat then(dI s3.2.2.1)else(cF dI s3.1) k))),(16,(.cells (Ac a0))),(48,(.cells (Nx a2))),(64,(.cells [(aI 0),aN]))],[1136],1408⟩ (.inl (((At s3.1 0 a1.A6.length).set (y2.1.getD s3.2.2.2.toNat default).toNat s3.2.2.1),(s3.2.1++(a0.A4.getD (y2.1.getD s3.2.2.2.toNat default).toNat default).Exit),(y2.1.getD s3.2.2.2.toNat default),(IntKind.wrap .i64 (s3.2.2.2+1)))) ⟨rfl,(H9 [(16,16),(48,48),(64,64),(144,144)] [(640,1136)] (by kernel_rfl) ⟨⟨rfl,rfl⟩,⟨rfl,rfl⟩,⟨rfl,rfl⟩,⟨rfl,rfl,rfl⟩,⟨rfl,rfl,rfl,(Ay dr dr)⟩,dr,dr,dr,dr,dr⟩ ⟨⟨_,_,rfl,rfl,⟨rfl,(D6 (Dw Ba))⟩⟩,⟨_,_,rfl,rfl,⟨dr,dr,dr,dr,dr,dr,trivial⟩⟩,⟨_,_,rfl,rfl,⟨dr,dr,dr,dr,trivial⟩⟩,⟨_,_,rfl,rfl,⟨dr,rfl,trivial⟩⟩⟩)⟩)))) (.ret .normal ⟨(yf a0 a1 s3 y1 y2),[(144,(.arr 1 a1.A6.length (cF dI s3.1))),(16,(.cells (Ac a0))),(48,(.cells (Nx a2))),(64,(.cells [(aI 0),aN]))],[1136],1328⟩ (.inl (s3.1,(s3.2.1++(a0.A4.getD (y2.1.getD s3.2.2.2.toNat default).toNat default).Exit),(y2.1.getD s3.2.2.2.toNat default),(IntKind.wrap .i64 (s3.2.2.2+1)))) ⟨rfl,(wh (Aj [16,48,64,144]) [(640,1136)] ⟨⟨rfl,rfl⟩,⟨rfl,rfl⟩,⟨rfl,rfl⟩,⟨rfl,rfl,rfl⟩,⟨rfl,rfl,rfl,(Ay dr dr)⟩,dr,dr,dr,dr,dr⟩)⟩)))))))))) (.ret (.exit 0) ⟨[(3,(.ptr 16 0)),(5,(.ptr 48 0)),(6,(.ptr 64 0)),(8,(.arr 144 1 a1.A6.length)),(9,(.ap 1 s3.2.1.length (cF D.str s3.2.1) (.tok 640 9))),(10,(aI y1))],[(144,(.arr 1 a1.A6.length (cF dI s3.1))),(16,(.cells (Ac a0))),(48,(.cells (Nx a2))),(64,(.cells [(aI 0),aN]))],[640],928⟩ (.inr (.inl (s3.1,s3.2.1))) ⟨rfl,rfl,(wk (Aj [16,48,64,144]) [(640,640)])⟩))))))) fun y4=>(.sq 2 [] [(0,[3,5,6,8,9,10,14],[144,16,48,64])] (fun(_:Unit)=>⟨[(3,(.ptr 16 0)),(5,(.ptr 48 0)),(6,(.ptr 64 0)),(8,(.arr 144 1 a1.A6.length)),(9,(Mc a2 y4)),(10,(aI y1)),(14,aN)],[(144,(.arr 1 a1.A6.length (cF dI y4.1))),(16,(.cells (Ac a0))),(48,(.cells (Nx a2))),(64,(.cells [(aI 0),aN]))],[1072],1120⟩) (nd ((y4.2.length+a2.B9.length) * 16≤140737488355328) (.ret .normal ⟨[(3,(.ptr 16 0)),(5,(.ptr 48 0)),(6,(.ptr 64 0)),(8,(.arr 144 1 a1.A6.length)),(9,(.ap 1 (y4.2.length+a2.B9.length) (Bf y4.2.length (cF D.str y4.2) (cF D.str a2.B9)) (.tok 1072 9))),(10,(aI y1)),(14,aN)],[(144,(.arr 1 a1.A6.length (cF dI y4.1))),(16,(.cells (Ac a0))),(48,(.cells (Nx a2))),(64,(.cells [(aI 0),aN]))],[1072],1120⟩ (.inl ()) ⟨rfl,(wh (Aj [16,48,64,144]) [(1072,1072)] ⟨⟨rfl,rfl⟩,⟨rfl,rfl⟩,⟨rfl,rfl⟩,⟨rfl,rfl,rfl⟩,⟨rfl,rfl,rfl,(Ay dr dr)⟩,dr,rfl⟩)⟩)) (fun _=>(.sc (fun(y7:(List Int))=>⟨[(3,(.ptr 16 0)),(5,(.ptr 48 0)),(6,(.ptr 64 0)),(8,(.arr 144 1 a1.A6.length)),(9,(Mc a2 y4)),(14,(.ap 1 y7.length (cF dI y7) (.tok 1392 3)))],[(144,(.arr 1 a1.A6.length (cF dI y4.1))),(16,(.cells (Ac a0))),(48,(.cells (Nx a2))),(64,(.cells [(aI 0),aN]))],[1072,1392],1568⟩) (.sq 1 [(16,Bd 68 (A5 1 dI))] [(0,[3,5,6,8,9,10,14,69,70,71],[144,16,48,64])] (fun(y5:(List Int)×Int)=>⟨[(3,(.ptr 16 0)),(5,(.ptr 48 0)),(6,(.ptr 64 0)),(8,(.arr 144 1 a1.A6.length)),(9,(Mc a2 y4)),(10,(aI y1)),(14,aN),(69,(.d (A5 1 dI y5.1))),(70,(aI y5.2)),(71,(aI 0))],[(144,(.arr 1 a1.A6.length (cF dI y4.1))),(16,(.cells (Ac a0))),(48,(.cells (Nx a2))),(64,(.cells [(aI 0),aN]))],[1072],1232⟩) (.exi ((List Int)) ((S5 a0 a2.To).bind fun r16_0=>(if(0:Int)≤(1:Int)then(if 1≤(r16_0.length:Int)then some r16_0 else none)else none)) (fun x16=>(.p (Aa Tryz.prog 123 [(B6 a0),(dI a2.To)] (A5 1 dI x16)) (.p ((0:Int)≤(1:Int)) (.p (1≤(x16.length:Int)) (.fin 0))))) (by intro x16 h;obtain⟨r16_0,h1,h⟩:=Option.bind_eq_some_iff.1 h;obtain⟨h2,h⟩:=Ak h;obtain⟨h3,h⟩:=Ak h;cases h;exact⟨Wo h1,h2,h3,trivial⟩) (fun x16 _=>(.ret .normal ⟨[(3,(.ptr 16 0)),(5,(.ptr 48 0)),(6,(.ptr 64 0)),(8,(.arr 144 1 a1.A6.length)),(9,(Mc a2 y4)),(10,(aI y1)),(14,aN),(69,(.d (.sl 1 (x16.length - (1:Int).toNat) (fun i=>cF dI x16 ((1:Int).toNat+i))))),(70,(aI (((x16.length - (1:Int).toNat):Nat):Int))),(71,(aI 0))],[(144,(.arr 1 a1.A6.length (cF dI y4.1))),(16,(.cells (Ac a0))),(48,(.cells (Nx a2))),(64,(.cells [(aI 0),aN]))],[1072],1232⟩ (.inl ((At x16 (1:Int).toNat (x16.length - (1:Int).toNat)),(((x16.length - (1:Int).toNat):Nat):Int))) ⟨rfl,(wh (Aj [16,48,64,144]) [(1072,1072)] ⟨⟨rfl,rfl⟩,⟨rfl,rfl⟩,⟨rfl,rfl⟩,⟨rfl,rfl,rfl⟩,⟨rfl,rfl,rfl,dr⟩,dr,rfl,L4,dr,dr⟩)⟩))) (fun y5=>(.bk (.lp (fun(s6:(List Int)×Int)=>⟨[(3,(.ptr 16 0)),(5,(.ptr 48 0)),(6,(.ptr 64 0)),(8,(.arr 144 1 a1.A6.length)),(9,(Mc a2 y4)),(10,(aI y1)),(14,(.ap 1 s6.1.length (cF dI s6.1) (.tok 1392 3))),(69,(.d (A5 1 dI y5.1))),(70,(aI y5.2)),(71,(aI s6.2))],[(144,(.arr 1 a1.A6.length (cF dI y4.1))),(16,(.cells (Ac a0))),(48,(.cells (Nx a2))),(64,(.cells [(aI 0),aN]))],[1072,1392],1456⟩) ([],(0:Int)) (wk (Aj [16,48,64,144]) [(1072,1072)]) fun s6=>(.sg [] [(4,[3,5,6,8,9,14],[144,16,48,64]),(0,[3,5,6,8,9,10,14,69,70,71],[144,16,48,64])] (.ite (decide (s6.2 < y5.2)) (nd (0≤s6.2) (nd (s6.2 < (y5.1.length:Int)) (.ite ((y5.1.getD s6.2.toNat default)==y1) (.ret (.exit 2) _ (.inr (.inl s6.1)) ⟨rfl,rfl,Weak.refl _⟩) (nd ((s6.1.length+1) * 8≤140737488355328) (.ret .normal ⟨[(3,(.ptr 16 0)),(5,(.ptr 48 0)),(6,(.ptr 64 0)),(8,(.arr 144 1 a1.A6.length)),(9,(Mc a2 y4)),(10,(aI y1)),(14,(.ap 1 (s6.1.length+1) (Bf s6.1.length (cF dI s6.1) (Bc [(dI (y5.1.getD s6.2.toNat default))])) (.tok 1616 3))),(69,(.d (A5 1 dI y5.1))),(70,(aI y5.2)),(71,(aI (IntKind.wrap .i64 (s6.2+1))))],[(144,(.arr 1 a1.A6.length (cF dI y4.1))),(16,(.cells (Ac a0))),(48,(.cells (Nx a2))),(64,(.cells [(aI 0),aN]))],[1616,1600,1072],1680⟩ (.inl ((s6.1++([(y5.1.getD s6.2.toNat default)]:List Int)),(IntKind.wrap .i64 (s6.2+1)))) ⟨rfl,(wh (Aj [16,48,64,144]) [(1072,1072),(1392,1616)] ⟨⟨rfl,rfl⟩,⟨rfl,rfl⟩,⟨rfl,rfl⟩,⟨rfl,rfl,rfl⟩,⟨rfl,rfl,rfl,dr⟩,dr,⟨rfl,rfl,rfl,(Ay dr (B5 rfl rfl))⟩,dr,dr,dr⟩)⟩))))) (.ret (.exit 2) ⟨[(3,(.ptr 16 0)),(5,(.ptr 48 0)),(6,(.ptr 64 0)),(8,(.arr 144 1 a1.A6.length)),(9,(Mc a2 y4)),(14,(.ap 1 s6.1.length (cF dI s6.1) (.tok 1392 3)))],[(144,(.arr 1 a1.A6.length (cF dI y4.1))),(16,(.cells (Ac a0))),(48,(.cells (Nx a2))),(64,(.cells [(aI 0),aN]))],[1072,1392],1472⟩ (.inr (.inl s6.1)) ⟨rfl,rfl,(wk (Aj [16,48,64,144]) (Aj [1072,1392]))⟩))))))) fun y7=>(.sg [(22,⟨((List (List UInt8))×(List Int)×(List (List UInt8))),fun x=>[],fun x=>[(1632,(yg a1 x))],[]⟩),(23,⟨((List (List UInt8))×Int×(List Int)×(List (List UInt8))),fun x=>[],fun x=>[(1744,(o126_1 a1 x))],[]⟩)] [(1,[6,7],[64,144])] (c3 (p:=fun x22=>Bp Tryz.prog 122 [(.d (B6 a0)),(.arr 144 1 a1.A6.length),(.ap 1 y7.length (cF dI y7) (.tok 1392 3)),(Mc a2 y4)] [(144,some (.arr 1 a1.A6.length (cF dI y4.1)))] 1632 (yg a1 x22)) (fun x22 (h1:Z9 a0 (At y4.1 0 a1.A6.length) y7 (y4.2++a2.B9)=some _)=>Dj (po122o1 h1) [(0,144)] [(0,1392),(1,1072)] [(144,0)] [(1632,1),(1633,0)] (by kernel_rfl) ⟨dr,⟨rfl,rfl,(Bz (sz:=1) (e:=dI) (f:=(cF dI y4.1)) (l:=(At y4.1 0 a1.A6.length)) Ba)⟩,⟨rfl,rfl,rfl,dr⟩,⟨rfl,rfl,rfl,dr⟩,trivial⟩ ⟨_,_,rfl,rfl,⟨rfl,Ba⟩⟩ (by kernel_rfl) ⟨rfl,rfl,rfl,dr⟩ ⟨_,_,rfl,rfl,⟨rfl,(Hq (Eq.symm (Bz (sz:=1) (e:=dI) (f:=(cF dI y4.1)) (l:=(At y4.1 0 a1.A6.length)) Ba)))⟩⟩) fun x22=>(c3 (p:=fun x23=>Bp Tryz.prog 124 [(.d (B6 a0)),(.arr 144 1 a1.A6.length),(aI a2.To),(.ap 1 x22.1.length (cF D.str x22.1) (.tok 1632 9))] [(144,some (.arr 1 a1.A6.length (cF dI x22.2.1)))] 1744 (o126_1 a1 x23)) (fun x23 (h1:Sc a0 (At x22.2.1 0 a1.A6.length) a2.To x22.1=some _)=>Dj (qg h1) [(0,144)] [(0,1632)] [(144,0)] [(1744,208)] (by kernel_rfl) ⟨dr,⟨rfl,rfl,(Bz (sz:=1) (e:=dI) (f:=(cF dI x22.2.1)) (l:=(At x22.2.1 0 a1.A6.length)) Ba)⟩,dr,⟨rfl,rfl,rfl,dr⟩,trivial⟩ ⟨_,_,rfl,rfl,⟨rfl,Ba⟩⟩ (by kernel_rfl) ⟨dr,⟨rfl,rfl,rfl,dr⟩,trivial⟩ ⟨_,_,rfl,rfl,⟨rfl,(Hq (Eq.symm (Bz (sz:=1) (e:=dI) (f:=(cF dI x22.2.1)) (l:=(At x22.2.1 0 a1.A6.length)) Ba)))⟩⟩) fun x23=>(.ret .ret ⟨[(6,(.ptr 64 0)),(7,(.ap 1 x23.1.length (cF D.str x23.1) (.tok 1744 9)))],[(64,(.cells [(aI x23.2.1),(.arr 144 1 a1.A6.length)])),(144,(.arr 1 a1.A6.length (cF dI x23.2.2.1)))],[1744,1633],1936⟩ ((⟨x23.2.1,(At x23.2.2.1 0 a1.A6.length)⟩:A9),x23.1) ⟨rfl,_,(Oi (st':=⟨[(6,(.ptr 64 0)),(7,(.ap 1 x23.1.length (cF D.str x23.1) (.tok 1744 9)))],[(64,(.cells [(aI x23.2.1),(.d (A5 1 dI (At x23.2.2.1 0 a1.A6.length)))]))],[1744,1633],1936⟩) [(144,1,a1.A6.length,(cF dI x23.2.2.1))] (by rfl) (by rfl) (by kernel_rfl) (by kernel_rfl) (by exact(Mb rfl)) (by exact .inr ⟨_,_,rfl,rfl,(.same (.arr (.head _) (Nat.le_refl _) Ba .nil))⟩) (by exact⟨(.same .nil),(.same .nil)⟩)),⟨dr,dr,trivial⟩⟩))))))))))
noncomputable def kn (a0:A7) (a1:A9) (a2:Ap):Option (A9×(List (List UInt8))):=(d126 a0 a1 a2).m
theorem p126 {a0:A7} {a1:A9} {a2:Ap} {r:A9×(List (List UInt8))} (h:kn a0 a1 a2=some r):Aa Tryz.prog 126 [(B6 a0),(Am a1),(B8 a2)] (.tup [(Am r.1),(A5 1 D.str r.2)]):=Ar (d126 a0 a1 a2) Tryz.func126 h
noncomputable abbrev Z7:List (Nat×Ob):=[(48,(.cells [(aI 0),aN]))]
noncomputable def E76 (r:A9×(List (List UInt8))×Int):D:=(.tup [(Am r.1),(A5 1 D.str r.2.1),(dI r.2.2)])
noncomputable def d76 (a0:A7) (a1:A9) (a2:Int):JF Tryz.prog Tryz.f76 [(B6 a0),(Am a1),(.int .u16 a2)] E76 :=
 (.sg [(1,Bd 14 dI),(4,Bd 21 D.bool),(6,Bd 26 D.bool),(8,Bd 33 (A5 1 dI)),(13,Bd 52 (fun(x:(A9×(List (List UInt8))))=>(.tup [(Am x.1),(A5 1 D.str x.2)])))] [(1,[6,7,8],[48])] (c3 (@p68 a0) fun x1=>(.ite (x1 != 0) (.ret .ret ⟨[(6,(.ptr 48 0)),(7,aN),(8,(aI x1))],Z7,[],256⟩ ((⟨(0:Int),[]⟩:A9),[],x1) ⟨rfl,_,Weak.refl _,⟨⟨dr,Af,trivial⟩,Af,dr,trivial⟩⟩) (c3 (@p125 a0 a1) fun x4=>(.ite (!x4) (.ret .ret ⟨[(6,(.ptr 48 0)),(7,aN),(8,(aI 8))],Z7,[],304⟩ ((⟨(0:Int),[]⟩:A9),[],(8:Int)) ⟨rfl,_,Weak.refl _,⟨⟨dr,Af,trivial⟩,Af,dr,trivial⟩⟩) (c3 (@p106 a0 a2) fun x6=>(.ite (!x6) (.ret .ret ⟨[(6,(.ptr 48 0)),(7,aN),(8,(aI 1))],Z7,[],368⟩ ((⟨(0:Int),[]⟩:A9),[],(1:Int)) ⟨rfl,_,Weak.refl _,⟨⟨dr,Af,trivial⟩,Af,dr,trivial⟩⟩) (c3 (@p107 a0 a1.Leaf a2) fun x8=>(.ite ((x8.length:Int)==(0:Int)) (.ret .ret ⟨[(6,(.ptr 48 0)),(7,aN),(8,(aI 6))],Z7,[],512⟩ ((⟨(0:Int),[]⟩:A9),[],(6:Int)) ⟨rfl,_,Weak.refl _,⟨⟨dr,Af,trivial⟩,Af,dr,trivial⟩⟩) (.ite (decide (1 < (x8.length:Int))) (.ret .ret ⟨[(6,(.ptr 48 0)),(7,aN),(8,(aI 11))],Z7,[],560⟩ ((⟨(0:Int),[]⟩:A9),[],(11:Int)) ⟨rfl,_,Weak.refl _,⟨⟨dr,Af,trivial⟩,Af,dr,trivial⟩⟩) (.exi ((A9×(List (List UInt8)))) (if(0:Int)≤(0:Int)then(if 0 < (x8.length:Int)then(if 0≤(x8.getD (0:Int).toNat default)then(if(x8.getD (0:Int).toNat default) < (a0.A0.length:Int)then((kn a0 a1 (a0.A0.getD (x8.getD (0:Int).toNat default).toNat default)).bind fun r13_0=>some r13_0)else none)else none)else none)else none) (fun x13=>(.p ((0:Int)≤(0:Int)) (.p (0 < (x8.length:Int)) (.p (0≤(x8.getD (0:Int).toNat default)) (.p ((x8.getD (0:Int).toNat default) < (a0.A0.length:Int)) (.p (Aa Tryz.prog 126 [(B6 a0),(Am a1),(.agg [(dI (a0.A0.getD (x8.getD (0:Int).toNat default).toNat default).From),(dI (a0.A0.getD (x8.getD (0:Int).toNat default).toNat default).To),(A5 2 Ax (a0.A0.getD (x8.getD (0:Int).toNat default).toNat default).When),(A5 1 D.str (a0.A0.getD (x8.getD (0:Int).toNat default).toNat default).B9)])] (.tup [(Am x13.1),(A5 1 D.str x13.2)])) (.fin 0))))))) (by intro x13 h;obtain⟨h1,h⟩:=Ak h;obtain⟨h2,h⟩:=Ak h;obtain⟨h3,h⟩:=Ak h;obtain⟨h4,h⟩:=Ak h;obtain⟨r13_0,h5,h⟩:=Option.bind_eq_some_iff.1 h;cases h;exact⟨h1,h2,h3,h4,p126 h5,trivial⟩) (fun x13 _=>(.ret .ret ⟨[(6,(.ptr 48 0)),(7,(.d (A5 1 D.str x13.2))),(8,(aI 0))],[(48,(.cells (Gc x13.1)))],[],832⟩ (x13.1,x13.2,(0:Int)) ⟨rfl,_,Weak.refl _,⟨dr,dr,dr,trivial⟩⟩)))))))))))))
noncomputable def jm (a0:A7) (a1:A9) (a2:Int):Option (A9×(List (List UInt8))×Int):=(d76 a0 a1 a2).m
theorem p76 {a0:A7} {a1:A9} {a2:Int} {r:A9×(List (List UInt8))×Int} (h:jm a0 a1 a2=some r):Aa Tryz.prog 76 [(B6 a0),(Am a1),(.int .u16 a2)] (E76 r):=Ar (d76 a0 a1 a2) Tryz.func76 h
noncomputable def d46 (a0 a1:List Int):JF Tryz.prog Tryz.f46 [(A5 1 dI a0),(A5 1 dI a1)] (fun(r:Bool)=>(.bool r)) :=
 (.sq 2 [] [(1,[4],[]),(0,[0,1],[])] (fun(_:Unit)=>⟨[(0,(.d (A5 1 dI a0))),(1,(.d (A5 1 dI a1)))],[],[],112⟩) (.ite ((a0.length:Int) != (a1.length:Int)) (.ret .ret ⟨[(4,(aB false))],[],[],128⟩ (.inr (false)) ⟨rfl,rfl,_,Weak.refl _,dr⟩) (.nx ())) (fun _=>(.sc (fun(_:Unit)=>⟨[],[],[],400⟩) (.sq 1 [] [(0,[0,1,12,13],[])] (fun(_:Unit)=>⟨[(0,(.d (A5 1 dI a0))),(1,(.d (A5 1 dI a1))),(12,(aI (a0.length:Int))),(13,(aI 0))],[],[],160⟩) (.nx ()) (fun _=>(.bk (.lp (fun(s1:Int)=>⟨[(0,(.d (A5 1 dI a0))),(1,(.d (A5 1 dI a1))),(12,(aI (a0.length:Int))),(13,(aI s1))],[],[],384⟩) (0:Int) (wk [] []) fun s1=>(.sg [] [(1,[4],[]),(0,[0,1,12,13],[]),(2,[],[])] (.ite (decide (s1 < (a0.length:Int))) (nd (0≤s1) (nd (s1 < (a0.length:Int)) (nd (0≤s1) (nd (s1 < (a1.length:Int)) (.ite ((a0.getD s1.toNat default) != (a1.getD s1.toNat default)) (.ret .ret ⟨[(4,(aB false))],[],[],592⟩ (.inr (.inr (false))) ⟨rfl,rfl,rfl,_,Weak.refl _,dr⟩) (.ret .normal ⟨[(0,(.d (A5 1 dI a0))),(1,(.d (A5 1 dI a1))),(12,(aI (a0.length:Int))),(13,(aI (IntKind.wrap .i64 (s1+1))))],[],[],608⟩ (.inl (IntKind.wrap .i64 (s1+1))) ⟨rfl,(wk [] [])⟩)))))) (.ret (.exit 0) _ (.inr (.inl ())) ⟨rfl,rfl,Weak.refl _⟩))))))) fun _=>(.sg [] [(1,[4],[])] (.ret .ret ⟨[(4,(aB true))],[],[],416⟩ true ⟨rfl,_,Weak.refl _,dr⟩)))))
noncomputable def m46 (a0 a1:List Int):Option (Bool):=(d46 a0 a1).m
theorem p46 {a0:List Int} {a1:List Int} {r:Bool} (h:m46 a0 a1=some r):Aa Tryz.prog 46 [(A5 1 dI a0),(A5 1 dI a1)] (.bool r):=Ar (d46 a0 a1) Tryz.func46 h
noncomputable def d17 (a0 a1:A9):JF Tryz.prog Tryz.f17 [(Am a0),(Am a1)] (fun(r:Bool)=>(.bool r)) :=
 (.sg [(1,Bd 15 D.bool)] [(1,[4],[])] (.exi (Bool) ((if(a0.Leaf==a1.Leaf)=true then m46 a0.A6 a1.A6 else some default).bind fun r1_0=>some r1_0) (fun x1=>(.g (a0.Leaf==a1.Leaf) (Aa Tryz.prog 46 [(A5 1 dI a0.A6),(A5 1 dI a1.A6)] (.bool x1)) (.fin 0))) (by intro x1 h;obtain⟨r1_0,h1,h⟩:=Option.bind_eq_some_iff.1 h;cases h;exact⟨fun g=>p46 (by rw[if_pos g]at h1;exact h1),trivial⟩) (fun x1 _=>(.ret .ret ⟨[(4,(aB ((a0.Leaf==a1.Leaf)&&x1)))],[],[],272⟩ ((a0.Leaf==a1.Leaf)&&x1) ⟨rfl,_,Weak.refl _,dr⟩))))
noncomputable def m17 (a0 a1:A9):Option (Bool):=(d17 a0 a1).m
theorem p17 {a0:A9} {a1:A9} {r:Bool} (h:m17 a0 a1=some r):Aa Tryz.prog 17 [(Am a0),(Am a1)] (.bool r):=Ar (d17 a0 a1) Tryz.func17 h
noncomputable def d83 (a0:List A9) (a1:A9):JF Tryz.prog Tryz.f83 [(A5 2 Am a0),(Am a1)] (fun(r:Int)=>(dI r)) :=
 (.sq 1 [] [(0,[0,3],[16])] (fun(_:Unit)=>⟨[(0,(.d (A5 2 Am a0))),(3,(.ptr 16 0))],[(16,(.cells (Gc a1)))],[],48⟩) (.nx ()) (fun _=>(.sc (fun(_:Unit)=>⟨[],[],[],304⟩) (.sq 1 [] [(0,[3,7,8,9],[16])] (fun(_:Unit)=>⟨[(3,(.ptr 16 0)),(7,(.d (A5 2 Am a0))),(8,(aI (a0.length:Int))),(9,(aI 0))],[(16,(.cells (Gc a1)))],[],96⟩) (.nx ()) (fun _=>(.bk (.lp (fun(s1:Int)=>⟨[(3,(.ptr 16 0)),(7,(.d (A5 2 Am a0))),(8,(aI (a0.length:Int))),(9,(aI s1))],[(16,(.cells (Gc a1)))],[],288⟩) (0:Int) (wk [(16,16)] []) fun s1=>(.sg [(4,Bd 16 D.bool)] [(1,[4],[]),(0,[3,7,8,9],[16]),(2,[],[])] (.ite (decide (s1 < (a0.length:Int))) (nd (0≤s1) (nd (s1 < (a0.length:Int)) (c3 (@p17 (a0.getD s1.toNat default) a1) fun x4=>(.ite x4 (.ret .ret ⟨[(4,(aI s1))],[],[],480⟩ (.inr (.inr (s1))) ⟨rfl,rfl,rfl,_,Weak.refl _,dr⟩) (.ret .normal ⟨[(3,(.ptr 16 0)),(7,(.d (A5 2 Am a0))),(8,(aI (a0.length:Int))),(9,(aI (IntKind.wrap .i64 (s1+1))))],[(16,(.cells (Gc a1)))],[],480⟩ (.inl (IntKind.wrap .i64 (s1+1))) ⟨rfl,(wk [(16,16)] [])⟩))))) (.ret (.exit 0) _ (.inr (.inl ())) ⟨rfl,rfl,Weak.refl _⟩))))))) fun _=>(.sg [] [(1,[4],[])] (.ret .ret ⟨[(4,(aI (-1)))],[],[],320⟩ (-1:Int) ⟨rfl,_,Weak.refl _,dr⟩)))))
noncomputable def So (a0:List A9) (a1:A9):Option (Int):=(d83 a0 a1).m
theorem p83 {a0:List A9} {a1:A9} {r:Int} (h:So a0 a1=some r):Aa Tryz.prog 83 [(A5 2 Am a0),(Am a1)] (dI r):=Ar (d83 a0 a1) Tryz.func83 h
noncomputable abbrev z45_0 (s2:(List A9)×(List Int)×(List Int)×Int):List (Nat×AV):=[(1,(.ptr 16 0)),(9,(.ap 2 s2.1.length (cF Am s2.1) (.tok 304 37))),(10,(.ap 1 s2.2.1.length (cF dI s2.2.1) (.tok 320 3))),(11,(.ap 1 s2.2.2.1.length (cF (D.int .u16) s2.2.2.1) (.tok 336 42))),(12,(aI s2.2.2.2))]
noncomputable abbrev z45_1:AV:=(.ap 1 ([(0:Int)]:List Int).length (cF (D.int .u16) ([(0:Int)]:List Int)) (.tok 336 42))
noncomputable abbrev z45_2:AV:=(.ap 1 ([(-1:Int)]:List Int).length (cF dI ([(-1:Int)]:List Int)) (.tok 320 3))
noncomputable def E45 (r:(List A9)×(List Int)×(List Int)×Int):D:=(.tup [(A5 2 Am r.1),(A5 1 dI r.2.1),(A5 1 (D.int .u16) r.2.2.1),(dI r.2.2.2)])
noncomputable def o45_0 (x:(Int×(List (List UInt8))×Int×(List Int))):OT:=⟨(.tup [(.d (.agg [(dI x.2.2.1),(A5 1 dI x.2.2.2)])),(.ap 1 x.2.1.length (cF D.str x.2.1) (.tok 112 9)),(aI x.1)]),[],[],[],[112]⟩
noncomputable def d45 (a0:A7):JF Tryz.prog Tryz.f45 [(B6 a0)] E45 :=
 (.sq 4 [(1,⟨(Int×(List (List UInt8))×Int×(List Int)),fun x=>[],fun x=>[(112,(o45_0 x))],[]⟩)] [(1,[2,3,4,5],[]),(0,[1,9,10,11],[16])] (fun(y1:(List A9))=>⟨[(1,(.ptr 16 0)),(9,(.ap 2 y1.length (cF Am y1) (.tok 304 37))),(10,z45_2),(11,z45_1)],[(16,(.cells (Ac a0)))],[304,320,336],400⟩) (c3 (p:=fun x1=>Bp Tryz.prog 74 [(.d (B6 a0))] [] 112 (o45_0 x1)) (fun x1 (h1:Y8 a0=some _)=>ok [] [] [] [(112,672)] (po74o0 h1)) fun x1=>(.ite (x1.1 != 0) (.ret .ret ⟨[(2,aN),(3,aN),(4,aN),(5,(aI x1.1))],[],[112],368⟩ (.inr (([],[],[],x1.1))) ⟨rfl,rfl,_,Weak.refl _,⟨Af,Af,Af,dr,trivial⟩⟩) (.ret .normal ⟨[(1,(.ptr 16 0)),(9,(.ap 2 1 (Bc [(.agg [(dI x1.2.2.1),(A5 1 dI x1.2.2.2)])]) (.tok 304 37))),(10,(.ap 1 1 (Bc [(dI (-1))]) (.tok 320 3))),(11,(.ap 1 1 (Bc [(.int .u16 0)]) (.tok 336 42)))],[(16,(.cells (Ac a0)))],[336,320,304,112],400⟩ (.inl ([(⟨x1.2.2.1,x1.2.2.2⟩:A9)]:List A9)) ⟨rfl,(wh [(16,16)] (Aj [304,320,336]) ⟨⟨rfl,rfl⟩,⟨rfl,rfl,rfl,(B5 rfl rfl)⟩,⟨rfl,rfl,rfl,(B5 rfl rfl)⟩,⟨rfl,rfl,rfl,(B5 rfl rfl)⟩⟩)⟩))) (fun y1=>(.sc (fun(y5:(List A9)×(List Int)×(List Int))=>⟨[(9,(.ap 2 y5.1.length (cF Am y5.1) (.tok 304 37))),(10,(.ap 1 y5.2.1.length (cF dI y5.2.1) (.tok 320 3))),(11,(.ap 1 y5.2.2.length (cF (D.int .u16) y5.2.2) (.tok 336 42)))],[],[304,320,336],1472⟩) (.sq 1 [] [(0,[1,9,10,11,12],[16])] (fun(_:Unit)=>⟨[(1,(.ptr 16 0)),(9,(.ap 2 y1.length (cF Am y1) (.tok 304 37))),(10,z45_2),(11,z45_1),(12,(aI 0))],[(16,(.cells (Ac a0)))],[304,320,336],416⟩) (.nx ()) (fun _=>(.bk (.lp (fun(s2:(List A9)×(List Int)×(List Int)×Int)=>⟨(z45_0 s2),[(16,(.cells (Ac a0)))],[304,320,336],1408⟩) (y1,([(-1:Int)]:List Int),([(0:Int)]:List Int),(0:Int)) (wk [(16,16)] (Aj [304,320,336])) fun s2=>(.sq 1 [] [(0,[1,9,10,11,12],[16]),(2,[9,10,11],[])] (fun(_:Unit)=>⟨(z45_0 s2),[(16,(.cells (Ac a0)))],[304,320,336],1472⟩) (.ite (decide (s2.2.2.2 < (s2.1.length:Int))) (.nx ()) (.ret (.exit 0) _ (.inr (.inr (.inl (s2.1,s2.2.1,s2.2.2.1)))) ⟨rfl,rfl,rfl,Weak.refl _⟩)) (fun _=>(.sc (fun(y4:(List A9)×(List Int)×(List Int))=>⟨[(1,(.ptr 16 0)),(9,(.ap 2 y4.1.length (cF Am y4.1) (.tok 304 37))),(10,(.ap 1 y4.2.1.length (cF dI y4.2.1) (.tok 320 3))),(11,(.ap 1 y4.2.2.length (cF (D.int .u16) y4.2.2) (.tok 336 42))),(12,(aI s2.2.2.2))],[(16,(.cells (Ac a0)))],[304,320,336],2352⟩) (.bk (.sq 1 [] [(0,[1,9,10,11,12,13],[16])] (fun(_:Unit)=>⟨[(1,(.ptr 16 0)),(9,(.ap 2 s2.1.length (cF Am s2.1) (.tok 304 37))),(10,(.ap 1 s2.2.1.length (cF dI s2.2.1) (.tok 320 3))),(11,(.ap 1 s2.2.2.1.length (cF (D.int .u16) s2.2.2.1) (.tok 336 42))),(12,(aI s2.2.2.2)),(13,(aI 0))],[(16,(.cells (Ac a0)))],[304,320,336],1488⟩) (.nx ()) (fun _=>(.bk (.lp (fun(s3:(List A9)×(List Int)×(List Int)×Int)=>⟨[(1,(.ptr 16 0)),(9,(.ap 2 s3.1.length (cF Am s3.1) (.tok 304 37))),(10,(.ap 1 s3.2.1.length (cF dI s3.2.1) (.tok 320 3))),(11,(.ap 1 s3.2.2.1.length (cF (D.int .u16) s3.2.2.1) (.tok 336 42))),(12,(aI s2.2.2.2)),(13,(aI s3.2.2.2))],[(16,(.cells (Ac a0)))],[304,320,336],2288⟩) (s2.1,s2.2.1,s2.2.2.1,(0:Int)) (wk [(16,16)] (Aj [304,320,336])) fun s3=>(.sg [(9,Bd 38 dI),(11,Bd 50 (fun(x:(A9×(List (List UInt8))×Int))=>(.tup [(Am x.1),(A5 1 D.str x.2.1),(dI x.2.2)]))),(12,Bd 59 dI)] [(1,[2,3,4,5],[]),(0,[1,9,10,11,12,13],[16]),(4,[1,9,10,11,12],[16])] (c3 (@p75 a0) fun x9=>(.ite (decide (s3.2.2.2≤x9)) (.exi ((A9×(List (List UInt8))×Int)) (if 0≤s2.2.2.2 then(if s2.2.2.2 < (s3.1.length:Int)then((jm a0 (s3.1.getD s2.2.2.2.toNat default) (IntKind.wrap .u16 (s3.2.2.2))).bind fun r11_0=>some r11_0)else none)else none) (fun x11=>(.p (0≤s2.2.2.2) (.p (s2.2.2.2 < (s3.1.length:Int)) (.p (Aa Tryz.prog 76 [(B6 a0),(.agg [(dI (s3.1.getD s2.2.2.2.toNat default).Leaf),(A5 1 dI (s3.1.getD s2.2.2.2.toNat default).A6)]),(.int .u16 (IntKind.wrap .u16 (s3.2.2.2)))] (.tup [(Am x11.1),(A5 1 D.str x11.2.1),(dI x11.2.2)])) (.fin 0))))) (by intro x11 h;obtain⟨h1,h⟩:=Ak h;obtain⟨h2,h⟩:=Ak h;obtain⟨r11_0,h3,h⟩:=Option.bind_eq_some_iff.1 h;cases h;exact⟨h1,h2,p76 h3,trivial⟩) (fun x11 _=>(.exi (Int) ((if(x11.2.2==0)=true then So s3.1 x11.1 else some default).bind fun r12_0=>some r12_0) (fun x12=>(.g (x11.2.2==0) (Aa Tryz.prog 83 [(A5 2 Am s3.1),(Am x11.1)] (dI x12)) (.fin 0))) (by intro x12 h;obtain⟨r12_0,h1,h⟩:=Option.bind_eq_some_iff.1 h;cases h;exact⟨fun g=>p83 (by rw[if_pos g]at h1;exact h1),trivial⟩) (fun x12 _=>(.ite ((x11.2.2==0)&&(decide (x12 < 0))) (nd ((s3.1.length+1) * 32≤140737488355328) (nd ((s3.2.1.length+1) * 8≤140737488355328) (nd ((s3.2.2.1.length+1) * 2≤140737488355328) (.ite (decide (400 < (((s3.1.length+1):Nat):Int))) (.ret .ret ⟨[(2,aN),(3,aN),(4,aN),(5,(aI 3))],[],[2960,2944,2864,2848,2784,2768],3104⟩ (.inr (.inr (.inr (.inr (([],[],[],(3:Int))))))) ⟨rfl,rfl,rfl,rfl,rfl,_,Weak.refl _,⟨Af,Af,Af,dr,trivial⟩⟩) (.ret .normal ⟨[(1,(.ptr 16 0)),(9,(.ap 2 (s3.1.length+1) (Bf s3.1.length (cF Am s3.1) (Bc [(Am x11.1)])) (.tok 2784 37))),(10,(.ap 1 (s3.2.1.length+1) (Bf s3.2.1.length (cF dI s3.2.1) (Bc [(dI s2.2.2.2)])) (.tok 2864 3))),(11,(.ap 1 (s3.2.2.1.length+1) (Bf s3.2.2.1.length (cF (D.int .u16) s3.2.2.1) (Bc [(.int .u16 (IntKind.wrap .u16 (s3.2.2.2)))])) (.tok 2960 42))),(12,(aI s2.2.2.2)),(13,(aI (IntKind.wrap .i64 (s3.2.2.2+1))))],[(16,(.cells (Ac a0)))],[2960,2944,2864,2848,2784,2768],3088⟩ (.inl ((s3.1++([x11.1]:List A9)),(s3.2.1++([s2.2.2.2]:List Int)),(s3.2.2.1++([(IntKind.wrap .u16 (s3.2.2.2))]:List Int)),(IntKind.wrap .i64 (s3.2.2.2+1)))) ⟨rfl,(wh [(16,16)] [(304,2784),(320,2864),(336,2960)] ⟨⟨rfl,rfl⟩,⟨rfl,rfl,rfl,(Ay dr (B5 rfl rfl))⟩,⟨rfl,rfl,rfl,(Ay dr (B5 rfl rfl))⟩,⟨rfl,rfl,rfl,(Ay dr (B5 rfl rfl))⟩,dr,dr⟩)⟩))))) (.ret .normal ⟨[(1,(.ptr 16 0)),(9,(.ap 2 s3.1.length (cF Am s3.1) (.tok 304 37))),(10,(.ap 1 s3.2.1.length (cF dI s3.2.1) (.tok 320 3))),(11,(.ap 1 s3.2.2.1.length (cF (D.int .u16) s3.2.2.1) (.tok 336 42))),(12,(aI s2.2.2.2)),(13,(aI (IntKind.wrap .i64 (s3.2.2.2+1))))],[(16,(.cells (Ac a0)))],[304,320,336],2784⟩ (.inl (s3.1,s3.2.1,s3.2.2.1,(IntKind.wrap .i64 (s3.2.2.2+1)))) ⟨rfl,(wk [(16,16)] (Aj [304,320,336]))⟩)))))) (.ret (.exit 2) _ (.inr (.inl (s3.1,s3.2.1,s3.2.2.1))) ⟨rfl,rfl,Weak.refl _⟩))))))))) fun y4=>(.sg [] [(0,[1,9,10,11,12],[16])] (.ret .normal ⟨[(1,(.ptr 16 0)),(9,(.ap 2 y4.1.length (cF Am y4.1) (.tok 304 37))),(10,(.ap 1 y4.2.1.length (cF dI y4.2.1) (.tok 320 3))),(11,(.ap 1 y4.2.2.length (cF (D.int .u16) y4.2.2) (.tok 336 42))),(12,(aI (IntKind.wrap .i64 (s2.2.2.2+1))))],[(16,(.cells (Ac a0)))],[304,320,336],2400⟩ (.inl (y4.1,y4.2.1,y4.2.2,(IntKind.wrap .i64 (s2.2.2.2+1)))) ⟨rfl,(wk [(16,16)] (Aj [304,320,336]))⟩))))))))) fun y5=>(.sg [] [(1,[2,3,4,5],[])] (.ret .ret ⟨[(2,(.ap 2 y5.1.length (cF Am y5.1) (.tok 304 37))),(3,(.ap 1 y5.2.1.length (cF dI y5.2.1) (.tok 320 3))),(4,(.ap 1 y5.2.2.length (cF (D.int .u16) y5.2.2) (.tok 336 42))),(5,(aI 0))],[],[304,320,336],1584⟩ (y5.1,y5.2.1,y5.2.2,(0:Int)) ⟨rfl,_,Weak.refl _,⟨dr,dr,dr,dr,trivial⟩⟩)))))
noncomputable def m45 (a0:A7):Option ((List A9)×(List Int)×(List Int)×Int):=(d45 a0).m
theorem p45 {a0:A7} {r:(List A9)×(List Int)×(List Int)×Int} (h:m45 a0=some r):Aa Tryz.prog 45 [(B6 a0)] (E45 r):=Ar (d45 a0) Tryz.func45 h
noncomputable def d16 (a0:A7):JF Tryz.prog Tryz.f16 [(B6 a0)] (fun(r:(List A9)×Int)=>(.tup [(A5 2 Am r.1),(dI r.2)])) :=
 (.sg [(1,Bd 10 (fun(x:((List A9)×(List Int)×(List Int)×Int))=>(.tup [(A5 2 Am x.1),(A5 1 dI x.2.1),(A5 1 (D.int .u16) x.2.2.1),(dI x.2.2.2)])))] [(1,[2,3],[])] (c3 (@p45 a0) fun x1=>(.ret .ret ⟨[(2,(.d (A5 2 Am x1.1))),(3,(aI x1.2.2.2))],[],[],304⟩ (x1.1,x1.2.2.2) ⟨rfl,_,Weak.refl _,⟨dr,dr,trivial⟩⟩)))
noncomputable def m16 (a0:A7):Option ((List A9)×Int):=(d16 a0).m
theorem p16 {a0:A7} {r:(List A9)×Int} (h:m16 a0=some r):Aa Tryz.prog 16 [(B6 a0)] (.tup [(A5 2 Am r.1),(dI r.2)]):=Ar (d16 a0) Tryz.func16 h
noncomputable def d58 (a0:List A9) (a1:Int):JF Tryz.prog Tryz.f58 [(A5 2 Am a0),(dI a1)] (fun(r:Bool)=>(.bool r)) :=
 (.sq 1 [] [(0,[0,1],[])] (fun(_:Unit)=>⟨[(0,(.d (A5 2 Am a0))),(1,(aI a1))],[],[],32⟩) (.nx ()) (fun _=>(.sc (fun(_:Unit)=>⟨[],[],[],272⟩) (.sq 1 [] [(0,[1,7,8,9],[])] (fun(_:Unit)=>⟨[(1,(aI a1)),(7,(.d (A5 2 Am a0))),(8,(aI (a0.length:Int))),(9,(aI 0))],[],[],80⟩) (.nx ()) (fun _=>(.bk (.lp (fun(s1:Int)=>⟨[(1,(aI a1)),(7,(.d (A5 2 Am a0))),(8,(aI (a0.length:Int))),(9,(aI s1))],[],[],256⟩) (0:Int) (wk [] []) fun s1=>(.sg [] [(1,[4],[]),(0,[1,7,8,9],[]),(2,[],[])] (.ite (decide (s1 < (a0.length:Int))) (nd (0≤s1) (nd (s1 < (a0.length:Int)) (.ite ((a0.getD s1.toNat default).Leaf==a1) (.ret .ret ⟨[(4,(aB true))],[],[],416⟩ (.inr (.inr (true))) ⟨rfl,rfl,rfl,_,Weak.refl _,dr⟩) (.ret .normal ⟨[(1,(aI a1)),(7,(.d (A5 2 Am a0))),(8,(aI (a0.length:Int))),(9,(aI (IntKind.wrap .i64 (s1+1))))],[],[],432⟩ (.inl (IntKind.wrap .i64 (s1+1))) ⟨rfl,(wk [] [])⟩)))) (.ret (.exit 0) _ (.inr (.inl ())) ⟨rfl,rfl,Weak.refl _⟩))))))) fun _=>(.sg [] [(1,[4],[])] (.ret .ret ⟨[(4,(aB false))],[],[],288⟩ false ⟨rfl,_,Weak.refl _,dr⟩)))))
noncomputable def ck (a0:List A9) (a1:Int):Option (Bool):=(d58 a0 a1).m
theorem p58 {a0:List A9} {a1:Int} {r:Bool} (h:ck a0 a1=some r):Aa Tryz.prog 58 [(A5 2 Am a0),(dI a1)] (.bool r):=Ar (d58 a0 a1) Tryz.func58 h
noncomputable abbrev th:Ob:=(.cells [(.d (.int .u8 0)),(aI 0),(.d (.int .u16 0)),(aI 0),(aI 0)])
noncomputable abbrev Z2 (a0:A7):List (Nat×Ob):=[(16,(.cells (Ac a0))),(32,th)]
noncomputable def d59 (a0:A7) (a1 a2:Int):JF Tryz.prog Tryz.f59 [(B6 a0),(dI a1),(.int .u8 a2)] (fun(r:Aq×Bool)=>(.tup [(C5 r.1),(.bool r.2)])) :=
 (.sq 1 [] [(0,[1,2,3,6],[16,32])] (fun(_:Unit)=>⟨[(1,(aI a1)),(2,(.d (.int .u8 a2))),(3,(.ptr 16 0)),(6,(.ptr 32 0))],(Z2 a0),[],64⟩) (.nx ()) (fun _=>(.sc (fun(_:Unit)=>⟨[(6,(.ptr 32 0))],[(32,th)],[],656⟩) (.sq 1 [] [(0,[1,2,3,6,8],[16,32])] (fun(_:Unit)=>⟨[(1,(aI a1)),(2,(.d (.int .u8 a2))),(3,(.ptr 16 0)),(6,(.ptr 32 0)),(8,(aI 0))],(Z2 a0),[],80⟩) (.nx ()) (fun _=>(.bk (.lp (fun(s1:Int)=>⟨[(1,(aI a1)),(2,(.d (.int .u8 a2))),(3,(.ptr 16 0)),(6,(.ptr 32 0)),(8,(aI s1))],(Z2 a0),[],592⟩) (0:Int) (wk (Aj [16,32]) []) fun s1=>(.sg [(2,Bd 12 dI),(4,Bd 19 D.bool),(5,Bd 25 (A5 1 dI))] [(0,[1,2,3,6,8],[16,32]),(1,[6,7],[32]),(2,[6],[32])] (c3 (@p75 a0) fun x2=>(.ite (decide (s1≤x2)) (c3 (@p106 a0 (IntKind.wrap .u16 (s1))) fun x4=>(.ite (!x4) (.ret .normal ⟨[(1,(aI a1)),(2,(.d (.int .u8 a2))),(3,(.ptr 16 0)),(6,(.ptr 32 0)),(8,(aI (IntKind.wrap .i64 (s1+1))))],(Z2 a0),[],784⟩ (.inl (IntKind.wrap .i64 (s1+1))) ⟨rfl,(wk (Aj [16,32]) [])⟩) (c3 (@p107 a0 a1 (IntKind.wrap .u16 (s1))) fun x5=>(.ite ((a2==1)&&((x5.length:Int)==(0:Int))) (.ret .ret ⟨[(6,(.ptr 32 0)),(7,(aB true))],[(32,(.cells [(.d (.int .u8 a2)),(aI a1),(.d (.int .u16 (IntKind.wrap .u16 (s1)))),(aI (-1)),(aI (-1))]))],[],1056⟩ (.inr (.inr (((⟨a2,a1,(IntKind.wrap .u16 (s1)),(-1:Int),(-1:Int)⟩:Aq),true)))) ⟨rfl,rfl,rfl,_,Weak.refl _,⟨dr,dr,trivial⟩⟩) (.ite ((a2==2)&&(decide (1 < (x5.length:Int)))) (nd ((0:Int)≤(0:Int)) (nd (0 < (x5.length:Int)) (nd ((0:Int)≤(1:Int)) (nd (1 < (x5.length:Int)) (.ret .ret ⟨[(6,(.ptr 32 0)),(7,(aB true))],[(32,(.cells [(.d (.int .u8 a2)),(aI a1),(.d (.int .u16 (IntKind.wrap .u16 (s1)))),(aI (x5.getD (0:Int).toNat default)),(aI (x5.getD (1:Int).toNat default))]))],[],1264⟩ (.inr (.inr (((⟨a2,a1,(IntKind.wrap .u16 (s1)),(x5.getD (0:Int).toNat default),(x5.getD (1:Int).toNat default)⟩:Aq),true)))) ⟨rfl,rfl,rfl,_,Weak.refl _,⟨dr,dr,trivial⟩⟩))))) (.ret .normal ⟨[(1,(aI a1)),(2,(.d (.int .u8 a2))),(3,(.ptr 16 0)),(6,(.ptr 32 0)),(8,(aI (IntKind.wrap .i64 (s1+1))))],(Z2 a0),[],1104⟩ (.inl (IntKind.wrap .i64 (s1+1))) ⟨rfl,(wk (Aj [16,32]) [])⟩)))))) (.ret (.exit 0) _ (.inr (.inl ())) ⟨rfl,rfl,Weak.refl _⟩)))))))) fun _=>(.sg [] [(1,[6,7],[32])] (.ret .ret ⟨[(6,(.ptr 32 0)),(7,(aB false))],[(32,th)],[],704⟩ ((⟨(0:Int),(0:Int),(0:Int),(0:Int),(0:Int)⟩:Aq),false) ⟨rfl,_,Weak.refl _,⟨dr,dr,trivial⟩⟩)))))
noncomputable def m59 (a0:A7) (a1 a2:Int):Option (Aq×Bool):=(d59 a0 a1 a2).m
theorem p59 {a0:A7} {a1:Int} {a2:Int} {r:Aq×Bool} (h:m59 a0 a1 a2=some r):Aa Tryz.prog 59 [(B6 a0),(dI a1),(.int .u8 a2)] (.tup [(C5 r.1),(.bool r.2)]):=Ar (d59 a0 a1 a2) Tryz.func59 h
noncomputable abbrev fm (a1:Int) (a2:Int) (s1:Int):List (Nat×AV):=[(1,(aI a1)),(2,(aI a2)),(3,(.ptr 16 0)),(7,(aI s1))]
noncomputable def d60 (a0:A7) (a1 a2:Int):JF Tryz.prog Tryz.f60 [(B6 a0),(dI a1),(dI a2)] (fun(r:Bool)=>(.bool r)) :=
 (.sq 1 [] [(0,[1,2,3],[16])] (fun(_:Unit)=>⟨[(1,(aI a1)),(2,(aI a2)),(3,(.ptr 16 0))],[(16,(.cells (Ac a0)))],[],48⟩) (.nx ()) (fun _=>(.sc (fun(_:Unit)=>⟨[],[],[],592⟩) (.sq 1 [] [(0,[1,2,3,7],[16])] (fun(_:Unit)=>⟨[(1,(aI a1)),(2,(aI a2)),(3,(.ptr 16 0)),(7,(aI 0))],[(16,(.cells (Ac a0)))],[],64⟩) (.nx ()) (fun _=>(.bk (.lp (fun(s1:Int)=>⟨(fm a1 a2 s1),[(16,(.cells (Ac a0)))],[],528⟩) (0:Int) (wk [(16,16)] []) fun s1=>(.sq 1 [(2,Bd 12 dI)] [(0,[1,2,3,7],[16]),(2,[],[])] (fun(_:Unit)=>⟨(fm a1 a2 s1),[(16,(.cells (Ac a0)))],[],592⟩) (c3 (@p75 a0) fun x2=>(.ite (decide (s1≤x2)) (.nx ()) (.ret (.exit 0) _ (.inr (.inr (.inl ()))) ⟨rfl,rfl,rfl,Weak.refl _⟩))) (fun _=>(.sc (fun(_:Unit)=>⟨(fm a1 a2 s1),[(16,(.cells (Ac a0)))],[],944⟩) (.bk (.sq 2 [(4,Bd 19 D.bool),(5,Bd 25 (A5 1 dI))] [(3,[1,2,3,7],[16]),(0,[1,2,3,7,25,26,27],[16])] (fun(y2:(List Int)×Int)=>⟨[(1,(aI a1)),(2,(aI a2)),(3,(.ptr 16 0)),(7,(aI s1)),(25,(.d (A5 1 dI y2.1))),(26,(aI y2.2)),(27,(aI 0))],[(16,(.cells (Ac a0)))],[],784⟩) (c3 (@p106 a0 (IntKind.wrap .u16 (s1))) fun x4=>(.ite (!x4) (.ret (.exit 1) ⟨(fm a1 a2 s1),[(16,(.cells (Ac a0)))],[],672⟩ (.inr (.inl ())) ⟨rfl,rfl,(wk [(16,16)] [])⟩) (c3 (@p107 a0 a1 (IntKind.wrap .u16 (s1))) fun x5=>(.nx (x5,(x5.length:Int)))))) (fun y2=>(.bk (.lp (fun(s3:Int)=>⟨[(1,(aI a1)),(2,(aI a2)),(3,(.ptr 16 0)),(7,(aI s1)),(25,(.d (A5 1 dI y2.1))),(26,(aI y2.2)),(27,(aI s3))],[(16,(.cells (Ac a0)))],[],928⟩) (0:Int) (wk [(16,16)] []) fun s3=>(.sg [] [(1,[6],[]),(0,[1,2,3,7,25,26,27],[16]),(4,[1,2,3,7],[16])] (.ite (decide (s3 < y2.2)) (nd (0≤s3) (nd (s3 < (y2.1.length:Int)) (.ite ((y2.1.getD s3.toNat default)==a2) (.ret .ret ⟨[(6,(aB true))],[],[],1056⟩ (.inr (.inr (.inr (.inr (true))))) ⟨rfl,rfl,rfl,rfl,rfl,_,Weak.refl _,dr⟩) (.ret .normal ⟨[(1,(aI a1)),(2,(aI a2)),(3,(.ptr 16 0)),(7,(aI s1)),(25,(.d (A5 1 dI y2.1))),(26,(aI y2.2)),(27,(aI (IntKind.wrap .i64 (s3+1))))],[(16,(.cells (Ac a0)))],[],1072⟩ (.inl (IntKind.wrap .i64 (s3+1))) ⟨rfl,(wk [(16,16)] [])⟩)))) (.ret (.exit 2) _ (.inr (.inl ())) ⟨rfl,rfl,Weak.refl _⟩)))))))) fun _=>(.sg [] [(0,[1,2,3,7],[16])] (.ret .normal ⟨[(1,(aI a1)),(2,(aI a2)),(3,(.ptr 16 0)),(7,(aI (IntKind.wrap .i64 (s1+1))))],[(16,(.cells (Ac a0)))],[],992⟩ (.inl (IntKind.wrap .i64 (s1+1))) ⟨rfl,(wk [(16,16)] [])⟩))))))))) fun _=>(.sg [] [(1,[6],[])] (.ret .ret ⟨[(6,(aB false))],[],[],608⟩ false ⟨rfl,_,Weak.refl _,dr⟩)))))
noncomputable def dg (a0:A7) (a1 a2:Int):Option (Bool):=(d60 a0 a1 a2).m
theorem p60 {a0:A7} {a1:Int} {a2:Int} {r:Bool} (h:dg a0 a1 a2=some r):Aa Tryz.prog 60 [(B6 a0),(dI a1),(dI a2)] (.bool r):=Ar (d60 a0 a1 a2) Tryz.func60 h
noncomputable abbrev M5 (a0:A7):AV:=(aI (a0.A0.length:Int))
noncomputable abbrev Um (s10:(List Aq)×Int):AV:=(.ap 5 s10.1.length (cF C5 s10.1) (.tok 672 44))
noncomputable abbrev ue (a0:A7) (s10:(List Aq)×Int) (y1:(List A9)):List (Nat×AV):=[(1,(.ptr 16 0)),(4,(.d (A5 2 Am y1))),(6,(Um s10)),(72,(M5 a0)),(73,(aI s10.2))]
noncomputable abbrev z22_3 (s2:(List Aq)×Int) (s4:(List Aq)×Int) (y1:(List A9)) (y3:(List Int)×Int):List (Nat×AV):=[(1,(.ptr 16 0)),(4,(.d (A5 2 Am y1))),(6,(.ap 5 s4.1.length (cF C5 s4.1) (.tok 672 44))),(7,(.d (.int .u8 s2.2))),(31,(.d (A5 1 dI y3.1))),(32,(aI y3.2)),(33,(aI (IntKind.wrap .i64 (s4.2+1))))]
noncomputable def d22 (a0:A7):JF Tryz.prog Tryz.f22 [(B6 a0)] (fun(r:(List Aq)×Int)=>(.tup [(A5 5 C5 r.1),(dI r.2)])) :=
 (.sq 4 [(1,Bd 20 (fun(x:((List A9)×Int))=>(.tup [(A5 2 Am x.1),(dI x.2)])))] [(1,[2,3],[]),(0,[1,4,6],[16])] (fun(y1:(List A9))=>⟨[(1,(.ptr 16 0)),(4,(.d (A5 2 Am y1))),(6,aN)],[(16,(.cells (Ac a0)))],[],224⟩) (c3 (@p16 a0) fun x1=>(.ite (x1.2 != 0) (.ret .ret ⟨[(2,aN),(3,(aI x1.2))],[],[],256⟩ (.inr (([],x1.2))) ⟨rfl,rfl,_,Weak.refl _,⟨Af,dr,trivial⟩⟩) (.nx x1.1))) (fun y1=>(.sc (fun(y6:(List Aq))=>⟨[(1,(.ptr 16 0)),(4,(.d (A5 2 Am y1))),(6,(.ap 5 y6.length (cF C5 y6) (.tok 672 44)))],[(16,(.cells (Ac a0)))],[672],832⟩) (.sq 1 [] [(0,[1,4,6,7],[16])] (fun(_:Unit)=>⟨[(1,(.ptr 16 0)),(4,(.d (A5 2 Am y1))),(6,aN),(7,(.d (.int .u8 1)))],[(16,(.cells (Ac a0)))],[],240⟩) (.nx ()) (fun _=>(.bk (.lp (fun(s2:(List Aq)×Int)=>⟨[(1,(.ptr 16 0)),(4,(.d (A5 2 Am y1))),(6,(.ap 5 s2.1.length (cF C5 s2.1) (.tok 672 44))),(7,(.d (.int .u8 s2.2)))],[(16,(.cells (Ac a0)))],[672],800⟩) ([],(1:Int)) (wk [(16,16)] []) fun s2=>(.sq 1 [] [(0,[1,4,6,7],[16]),(2,[1,4,6],[16])] (fun(_:Unit)=>⟨[(1,(.ptr 16 0)),(4,(.d (A5 2 Am y1))),(6,(.ap 5 s2.1.length (cF C5 s2.1) (.tok 672 44))),(7,(.d (.int .u8 s2.2)))],[(16,(.cells (Ac a0)))],[672],832⟩) (.ite (decide (s2.2≤2)) (.nx ()) (.ret (.exit 0) _ (.inr (.inr (.inl s2.1))) ⟨rfl,rfl,rfl,Weak.refl _⟩)) (fun _=>(.sc (fun(y5:(List Aq))=>⟨[(1,(.ptr 16 0)),(4,(.d (A5 2 Am y1))),(6,(.ap 5 y5.length (cF C5 y5) (.tok 672 44))),(7,(.d (.int .u8 s2.2)))],[(16,(.cells (Ac a0)))],[672],1312⟩) (.bk (.sq 1 [(8,Bd 31 (A5 1 dI))] [(0,[1,4,6,7,31,32,33],[16])] (fun(y3:(List Int)×Int)=>⟨[(1,(.ptr 16 0)),(4,(.d (A5 2 Am y1))),(6,(.ap 5 s2.1.length (cF C5 s2.1) (.tok 672 44))),(7,(.d (.int .u8 s2.2))),(31,(.d (A5 1 dI y3.1))),(32,(aI y3.2)),(33,(aI 0))],[(16,(.cells (Ac a0)))],[672],896⟩) (c3 (@p57 a0) fun x8=>(.nx (x8,(x8.length:Int)))) (fun y3=>(.bk (.lp (fun(s4:(List Aq)×Int)=>⟨[(1,(.ptr 16 0)),(4,(.d (A5 2 Am y1))),(6,(.ap 5 s4.1.length (cF C5 s4.1) (.tok 672 44))),(7,(.d (.int .u8 s2.2))),(31,(.d (A5 1 dI y3.1))),(32,(aI y3.2)),(33,(aI s4.2))],[(16,(.cells (Ac a0)))],[672],1296⟩) (s2.1,(0:Int)) (wk [(16,16)] [(672,672)]) fun s4=>(.sg [(11,Bd 39 D.bool),(12,Bd 44 (fun(x:(Aq×Bool))=>(.tup [(C5 x.1),(.bool x.2)])))] [(0,[1,4,6,7,31,32,33],[16]),(4,[1,4,6,7],[16])] (.ite (decide (s4.2 < y3.2)) (nd (0≤s4.2) (nd (s4.2 < (y3.1.length:Int)) (c3 (@p58 y1 (y3.1.getD s4.2.toNat default)) fun x11=>(.ite x11 (c3 (@p59 a0 (y3.1.getD s4.2.toNat default) s2.2) fun x12=>(.ite x12.2 (nd ((s4.1.length+1) * 40≤140737488355328) (.ret .normal ⟨[(1,(.ptr 16 0)),(4,(.d (A5 2 Am y1))),(6,(.ap 5 (s4.1.length+1) (Bf s4.1.length (cF C5 s4.1) (Bc [(C5 x12.1)])) (.tok 1632 44))),(7,(.d (.int .u8 s2.2))),(31,(.d (A5 1 dI y3.1))),(32,(aI y3.2)),(33,(aI (IntKind.wrap .i64 (s4.2+1))))],[(16,(.cells (Ac a0)))],[1632,1616],1696⟩ (.inl ((s4.1++([x12.1]:List Aq)),(IntKind.wrap .i64 (s4.2+1)))) ⟨rfl,(wh [(16,16)] [(672,1632)] ⟨⟨rfl,rfl⟩,dr,⟨rfl,rfl,rfl,(Ay dr (B5 rfl rfl))⟩,dr,dr,dr,dr⟩)⟩)) (.ret .normal ⟨(z22_3 s2 s4 y1 y3),[(16,(.cells (Ac a0)))],[672],1616⟩ (.inl (s4.1,(IntKind.wrap .i64 (s4.2+1)))) ⟨rfl,(wk [(16,16)] [(672,672)])⟩))) (.ret .normal ⟨(z22_3 s2 s4 y1 y3),[(16,(.cells (Ac a0)))],[672],1440⟩ (.inl (s4.1,(IntKind.wrap .i64 (s4.2+1)))) ⟨rfl,(wk [(16,16)] [(672,672)])⟩))))) (.ret (.exit 2) _ (.inr (.inl s4.1)) ⟨rfl,rfl,Weak.refl _⟩)))))))) fun y5=>(.sg [] [(0,[1,4,6,7],[16])] (.ret .normal ⟨[(1,(.ptr 16 0)),(4,(.d (A5 2 Am y1))),(6,(.ap 5 y5.length (cF C5 y5) (.tok 672 44))),(7,(.d (.int .u8 (IntKind.wrap .u8 (s2.2+1)))))],[(16,(.cells (Ac a0)))],[672],1360⟩ (.inl (y5,(IntKind.wrap .u8 (s2.2+1)))) ⟨rfl,(wk [(16,16)] [(672,672)])⟩))))))))) fun y6=>(.sc (fun(y9:(List Aq))=>⟨[(1,(.ptr 16 0)),(4,(.d (A5 2 Am y1))),(6,(.ap 5 y9.length (cF C5 y9) (.tok 672 44)))],[(16,(.cells (Ac a0)))],[672],1168⟩) (.sq 1 [(16,Bd 54 (A5 1 dI))] [(0,[1,4,6,54,55,56],[16])] (fun(y7:(List Int)×Int)=>⟨[(1,(.ptr 16 0)),(4,(.d (A5 2 Am y1))),(6,(.ap 5 y6.length (cF C5 y6) (.tok 672 44))),(54,(.d (A5 1 dI y7.1))),(55,(aI y7.2)),(56,(aI 0))],[(16,(.cells (Ac a0)))],[672],896⟩) (c3 (@p57 a0) fun x16=>(.nx (x16,(x16.length:Int)))) (fun y7=>(.bk (.lp (fun(s8:(List Aq)×Int)=>⟨[(1,(.ptr 16 0)),(4,(.d (A5 2 Am y1))),(6,(.ap 5 s8.1.length (cF C5 s8.1) (.tok 672 44))),(54,(.d (A5 1 dI y7.1))),(55,(aI y7.2)),(56,(aI s8.2))],[(16,(.cells (Ac a0)))],[672],1152⟩) (y6,(0:Int)) (wk [(16,16)] [(672,672)]) fun s8=>(.sg [(19,Bd 62 D.bool)] [(0,[1,4,6,54,55,56],[16]),(6,[1,4,6],[16])] (.ite (decide (s8.2 < y7.2)) (nd (0≤s8.2) (nd (s8.2 < (y7.1.length:Int)) (c3 (@p58 y1 (y7.1.getD s8.2.toNat default)) fun x19=>(.ite (!x19) (nd ((s8.1.length+1) * 40≤140737488355328) (.ret .normal ⟨[(1,(.ptr 16 0)),(4,(.d (A5 2 Am y1))),(6,(.ap 5 (s8.1.length+1) (Bf s8.1.length (cF C5 s8.1) (Bc [(.agg [(.int .u8 3),(dI (y7.1.getD s8.2.toNat default)),(.int .u16 0),(dI (-1)),(dI (-1))])])) (.tok 1344 44))),(54,(.d (A5 1 dI y7.1))),(55,(aI y7.2)),(56,(aI (IntKind.wrap .i64 (s8.2+1))))],[(16,(.cells (Ac a0)))],[1344,1328],1408⟩ (.inl ((s8.1++([(⟨(3:Int),(y7.1.getD s8.2.toNat default),(0:Int),(-1:Int),(-1:Int)⟩:Aq)]:List Aq)),(IntKind.wrap .i64 (s8.2+1)))) ⟨rfl,(wh [(16,16)] [(672,1344)] ⟨⟨rfl,rfl⟩,dr,⟨rfl,rfl,rfl,(Ay dr (B5 rfl rfl))⟩,dr,dr,dr⟩)⟩)) (.ret .normal ⟨[(1,(.ptr 16 0)),(4,(.d (A5 2 Am y1))),(6,(.ap 5 s8.1.length (cF C5 s8.1) (.tok 672 44))),(54,(.d (A5 1 dI y7.1))),(55,(aI y7.2)),(56,(aI (IntKind.wrap .i64 (s8.2+1))))],[(16,(.cells (Ac a0)))],[672],1312⟩ (.inl (s8.1,(IntKind.wrap .i64 (s8.2+1)))) ⟨rfl,(wk [(16,16)] [(672,672)])⟩))))) (.ret (.exit 4) _ (.inr (.inl s8.1)) ⟨rfl,rfl,Weak.refl _⟩))))))) fun y9=>(.sc (fun(y15:(List Aq))=>⟨[(6,(.ap 5 y15.length (cF C5 y15) (.tok 672 44)))],[],[672],1856⟩) (.sq 1 [] [(0,[1,4,6,72,73],[16])] (fun(_:Unit)=>⟨[(1,(.ptr 16 0)),(4,(.d (A5 2 Am y1))),(6,(.ap 5 y9.length (cF C5 y9) (.tok 672 44))),(72,(M5 a0)),(73,(aI 0))],[(16,(.cells (Ac a0)))],[672],1232⟩) (.nx ()) (fun _=>(.bk (.lp (fun(s10:(List Aq)×Int)=>⟨(ue a0 s10 y1),[(16,(.cells (Ac a0)))],[672],1840⟩) (y9,(0:Int)) (wk [(16,16)] [(672,672)]) fun s10=>(.sq 2 [] [(0,[1,4,6,72,73],[16]),(8,[6],[])] (fun(_:Unit)=>⟨(ue a0 s10 y1),[(16,(.cells (Ac a0)))],[672],1856⟩) (.ite (decide (s10.2 < (a0.A0.length:Int))) (.nx ()) (.ret (.exit 6) _ (.inr (.inr (.inl s10.1))) ⟨rfl,rfl,rfl,Weak.refl _⟩)) (fun _=>(.sc (fun(y14:(List Aq))=>⟨[(1,(.ptr 16 0)),(4,(.d (A5 2 Am y1))),(6,(.ap 5 y14.length (cF C5 y14) (.tok 2384 44))),(72,(M5 a0)),(73,(aI s10.2))],[(16,(.cells (Ac a0)))],[2384],2416⟩) (.bk (.sq 2 [] [(0,[1,4,6,14,15,72,73],[16])] (fun(_:Unit)=>⟨[(1,(.ptr 16 0)),(4,(.d (A5 2 Am y1))),(6,(Um s10)),(14,(aI s10.2)),(15,(aB false)),(72,(M5 a0)),(73,(aI s10.2))],[(16,(.cells (Ac a0)))],[672],1904⟩) (.nx ()) (fun _=>(.sc (fun(y13:Bool)=>⟨[(1,(.ptr 16 0)),(4,(.d (A5 2 Am y1))),(6,(Um s10)),(14,(aI s10.2)),(15,(aB y13)),(72,(M5 a0)),(73,(aI s10.2))],[(16,(.cells (Ac a0)))],[672],2288⟩) (.sq 1 [(26,Bd 77 (A5 1 dI))] [(0,[1,4,6,14,15,72,73,77,78,79],[16])] (fun(y11:(List Int)×Int)=>⟨[(1,(.ptr 16 0)),(4,(.d (A5 2 Am y1))),(6,(Um s10)),(14,(aI s10.2)),(15,(aB false)),(72,(M5 a0)),(73,(aI s10.2)),(77,(.d (A5 1 dI y11.1))),(78,(aI y11.2)),(79,(aI 0))],[(16,(.cells (Ac a0)))],[672],1968⟩) (c3 (@p57 a0) fun x26=>(.nx (x26,(x26.length:Int)))) (fun y11=>(.bk (.lp (fun(s12:Bool×Int)=>⟨[(1,(.ptr 16 0)),(4,(.d (A5 2 Am y1))),(6,(Um s10)),(14,(aI s10.2)),(15,(aB s12.1)),(72,(M5 a0)),(73,(aI s10.2)),(77,(.d (A5 1 dI y11.1))),(78,(aI y11.2)),(79,(aI s12.2))],[(16,(.cells (Ac a0)))],[672],2272⟩) (false,(0:Int)) (wk [(16,16)] [(672,672)]) fun s12=>(.sg [(29,⟨Bool×Bool,fun x=>[(87,(.bool x.1)),(92,(.bool x.2))],fun x=>[],[]⟩)] [(0,[1,4,6,14,15,72,73,77,78,79],[16]),(10,[1,4,6,14,15,72,73],[16])] (.ite (decide (s12.2 < y11.2)) (nd (0≤s12.2) (nd (s12.2 < (y11.1.length:Int)) (.exi (Bool×Bool) ((if(!s12.1)=true then ck y1 (y11.1.getD s12.2.toNat default)else some default).bind fun r29_0=>((if((!s12.1)&&r29_0)=true then dg a0 (y11.1.getD s12.2.toNat default) s10.2 else some default).bind fun r29_1=>some (r29_0,r29_1))) (fun x29=>(.g (!s12.1) (Aa Tryz.prog 58 [(A5 2 Am y1),(dI (y11.1.getD s12.2.toNat default))] (.bool x29.1)) (.g ((!s12.1)&&x29.1) (Aa Tryz.prog 60 [(B6 a0),(dI (y11.1.getD s12.2.toNat default)),(dI s10.2)] (.bool x29.2)) (.fin 0)))) (by intro x29 h;obtain⟨r29_0,h1,h⟩:=Option.bind_eq_some_iff.1 h;obtain⟨r29_1,h2,h⟩:=Option.bind_eq_some_iff.1 h;cases h;exact⟨fun g=>p58 (by rw[if_pos g]at h1;exact h1),fun g=>p60 (by rw[if_pos g]at h2;exact h2),trivial⟩) (fun x29 _=>(.ret .normal ⟨[(1,(.ptr 16 0)),(4,(.d (A5 2 Am y1))),(6,(Um s10)),(14,(aI s10.2)),(15,(aB (s12.1 || (x29.1&&x29.2)))),(72,(M5 a0)),(73,(aI s10.2)),(77,(.d (A5 1 dI y11.1))),(78,(aI y11.2)),(79,(aI (IntKind.wrap .i64 (s12.2+1))))],[(16,(.cells (Ac a0)))],[672],2576⟩ (.inl ((s12.1 || (x29.1&&x29.2)),(IntKind.wrap .i64 (s12.2+1)))) ⟨rfl,(wk [(16,16)] [(672,672)])⟩))))) (.ret (.exit 8) _ (.inr (.inl s12.1)) ⟨rfl,rfl,Weak.refl _⟩))))))) fun y13=>(.sg [] [(0,[1,4,6,72,73],[16])] (.ite (!y13) (nd ((s10.1.length+1) * 40≤140737488355328) (.ret .normal ⟨[(1,(.ptr 16 0)),(4,(.d (A5 2 Am y1))),(6,(.ap 5 (s10.1.length+1) (Bf s10.1.length (cF C5 s10.1) (Bc [(.agg [(.int .u8 4),(dI (-1)),(.int .u16 0),(dI s10.2),(dI (-1))])])) (.tok 2384 44))),(72,(M5 a0)),(73,(aI s10.2))],[(16,(.cells (Ac a0)))],[2384,2368],2416⟩ (.inl (s10.1++([(⟨(4:Int),(-1:Int),(0:Int),s10.2,(-1:Int)⟩:Aq)]:List Aq))) ⟨rfl,(wh [(16,16)] [(2384,2384)] ⟨⟨rfl,rfl⟩,dr,⟨rfl,rfl,rfl,(Ay dr (B5 rfl rfl))⟩,dr,dr⟩)⟩)) (.ret .normal ⟨(ue a0 s10 y1),[(16,(.cells (Ac a0)))],[672],2320⟩ (.inl s10.1) ⟨rfl,(wk [(16,16)] [(2384,672)])⟩))))))) fun y14=>(.sg [] [(0,[1,4,6,72,73],[16])] (.ret .normal ⟨[(1,(.ptr 16 0)),(4,(.d (A5 2 Am y1))),(6,(.ap 5 y14.length (cF C5 y14) (.tok 2384 44))),(72,(M5 a0)),(73,(aI (IntKind.wrap .i64 (s10.2+1))))],[(16,(.cells (Ac a0)))],[2384],2448⟩ (.inl (y14,(IntKind.wrap .i64 (s10.2+1)))) ⟨rfl,(wk [(16,16)] [(672,2384)])⟩))))))))) fun y15=>(.sg [] [(1,[2,3],[])] (.ret .ret ⟨[(2,(.ap 5 y15.length (cF C5 y15) (.tok 672 44))),(3,(aI 0))],[],[672],1904⟩ (y15,(0:Int)) ⟨rfl,_,Weak.refl _,⟨dr,dr,trivial⟩⟩)))))))
noncomputable def m22 (a0:A7):Option ((List Aq)×Int):=(d22 a0).m
theorem p22 {a0:A7} {r:(List Aq)×Int} (h:m22 a0=some r):Aa Tryz.prog 22 [(B6 a0)] (.tup [(A5 5 C5 r.1),(dI r.2)]):=Ar (d22 a0) Tryz.func22 h
noncomputable def E82 (r:A9×(List (List UInt8))×Int):D:=(.tup [(Am r.1),(A5 1 D.str r.2.1),(dI r.2.2)])
noncomputable def d82 (a0:A7) (a1:A9) (a2:Int):JF Tryz.prog Tryz.f82 [(B6 a0),(Am a1),(dI a2)] E82 :=
 (.sg [(1,Bd 13 dI),(4,Bd 20 D.bool),(8,⟨(List Int)×Bool,fun x=>[(36,(A5 1 dI x.1)),(43,(.bool x.2))],fun x=>[],[]⟩),(10,Bd 54 (fun(x:(A9×(List (List UInt8))))=>(.tup [(Am x.1),(A5 1 D.str x.2)])))] [(1,[6,7,8],[48])] (c3 (@p68 a0) fun x1=>(.ite (x1 != 0) (.ret .ret ⟨[(6,(.ptr 48 0)),(7,aN),(8,(aI x1))],[(48,(.cells [(aI 0),aN]))],[],256⟩ ((⟨(0:Int),[]⟩:A9),[],x1) ⟨rfl,_,Weak.refl _,⟨⟨dr,Af,trivial⟩,Af,dr,trivial⟩⟩) (c3 (@p125 a0 a1) fun x4=>(.ite (!x4) (.ret .ret ⟨[(6,(.ptr 48 0)),(7,aN),(8,(aI 8))],[(48,(.cells [(aI 0),aN]))],[],304⟩ ((⟨(0:Int),[]⟩:A9),[],(8:Int)) ⟨rfl,_,Weak.refl _,⟨⟨dr,Af,trivial⟩,Af,dr,trivial⟩⟩) (.ite ((decide (a2 < 0)) || (decide ((a0.A0.length:Int)≤a2))) (.ret .ret ⟨[(6,(.ptr 48 0)),(7,aN),(8,(aI 2))],[(48,(.cells [(aI 0),aN]))],[],448⟩ ((⟨(0:Int),[]⟩:A9),[],(2:Int)) ⟨rfl,_,Weak.refl _,⟨⟨dr,Af,trivial⟩,Af,dr,trivial⟩⟩) (.exi ((List Int)×Bool) ((S5 a0 a1.Leaf).bind fun r8_0=>(if 0≤a2 then(if a2 < (a0.A0.length:Int)then((W5 r8_0 (a0.A0.getD a2.toNat default).From).bind fun r8_1=>some (r8_0,r8_1))else none)else none)) (fun x8=>(.p (Aa Tryz.prog 123 [(B6 a0),(dI a1.Leaf)] (A5 1 dI x8.1)) (.p (0≤a2) (.p (a2 < (a0.A0.length:Int)) (.p (Aa Tryz.prog 129 [(A5 1 dI x8.1),(dI (a0.A0.getD a2.toNat default).From)] (.bool x8.2)) (.fin 0)))))) (by intro x8 h;obtain⟨r8_0,h1,h⟩:=Option.bind_eq_some_iff.1 h;obtain⟨h2,h⟩:=Ak h;obtain⟨h3,h⟩:=Ak h;obtain⟨r8_1,h4,h⟩:=Option.bind_eq_some_iff.1 h;cases h;exact⟨Wo h1,h2,h3,sr h4,trivial⟩) (fun x8 _=>(.ite (!x8.2) (.ret .ret ⟨[(6,(.ptr 48 0)),(7,aN),(8,(aI 9))],[(48,(.cells [(aI 0),aN]))],[],640⟩ ((⟨(0:Int),[]⟩:A9),[],(9:Int)) ⟨rfl,_,Weak.refl _,⟨⟨dr,Af,trivial⟩,Af,dr,trivial⟩⟩) (.exi ((A9×(List (List UInt8)))) (if 0≤a2 then(if a2 < (a0.A0.length:Int)then((kn a0 a1 (a0.A0.getD a2.toNat default)).bind fun r10_0=>some r10_0)else none)else none) (fun x10=>(.p (0≤a2) (.p (a2 < (a0.A0.length:Int)) (.p (Aa Tryz.prog 126 [(B6 a0),(Am a1),(.agg [(dI (a0.A0.getD a2.toNat default).From),(dI (a0.A0.getD a2.toNat default).To),(A5 2 Ax (a0.A0.getD a2.toNat default).When),(A5 1 D.str (a0.A0.getD a2.toNat default).B9)])] (.tup [(Am x10.1),(A5 1 D.str x10.2)])) (.fin 0))))) (by intro x10 h;obtain⟨h1,h⟩:=Ak h;obtain⟨h2,h⟩:=Ak h;obtain⟨r10_0,h3,h⟩:=Option.bind_eq_some_iff.1 h;cases h;exact⟨h1,h2,p126 h3,trivial⟩) (fun x10 _=>(.ret .ret ⟨[(6,(.ptr 48 0)),(7,(.d (A5 1 D.str x10.2))),(8,(aI 0))],[(48,(.cells (Gc x10.1)))],[],880⟩ (x10.1,x10.2,(0:Int)) ⟨rfl,_,Weak.refl _,⟨dr,dr,dr,trivial⟩⟩))))))))))))
noncomputable def lh (a0:A7) (a1:A9) (a2:Int):Option (A9×(List (List UInt8))×Int):=(d82 a0 a1 a2).m
theorem p82 {a0:A7} {a1:A9} {a2:Int} {r:A9×(List (List UInt8))×Int} (h:lh a0 a1 a2=some r):Aa Tryz.prog 82 [(B6 a0),(Am a1),(dI a2)] (E82 r):=Ar (d82 a0 a1 a2) Tryz.func82 h
noncomputable abbrev Jk (a0:A7):AV:=(.ap 1 (([]:List (List UInt8))++a0.Ag).length (cF D.str (([]:List (List UInt8))++a0.Ag)) (.tok 704 9))
noncomputable abbrev G6:Ob:=(.cells [(aS ([]:List UInt8)),aN,aN,aN,(aI 0),aN])
noncomputable abbrev Nk (y5:(List (List B7))):AV:=(.ap 1 y5.length (cF (A5 2 Ax) y5) (.tok 992 83))
noncomputable abbrev Y9 (s6:Bool×Int×(List Ah)×(List Ap)) (y3:(List A9)):Ob:=(.cells [(aI (y3.getD s6.2.1.toNat default).Leaf),(.d (A5 1 dI (y3.getD s6.2.1.toNat default).A6))])
noncomputable abbrev z36_4 (a0:A7) (s6:Bool×Int×(List Ah)×(List Ap)) (y3:(List A9)):List (Nat×AV):=[(1,(.ptr 16 0)),(2,(.ptr 32 0)),(8,(.d (A5 2 Am y3))),(10,(.ptr 736 0)),(13,(aB s6.1)),(14,(aI s6.2.1)),(15,(.ptr 2448 0)),(77,(.d (A5 2 Am y3))),(78,(aI (y3.length:Int))),(79,(aI s6.2.1)),(94,(.d (A5 4 B8 a0.A0))),(95,(aI (a0.A0.length:Int))),(96,(aI 0))]
noncomputable abbrev ui (a0:A7) (y5:(List (List B7))):List (Nat×Ob):=[(16,(.cells (Ac a0))),(32,G6),(736,(.cells [(aS a0.Name),(Jk a0),(Nk y5),aN,(aI 0),aN]))]
noncomputable abbrev z36_6 (a0:A7) (s6:Bool×Int×(List Ah)×(List Ap)) (y5:(List (List B7))):List (Nat×Ob):=[(16,(.cells (Ac a0))),(32,G6),(736,(.cells [(aS a0.Name),(Jk a0),(Nk y5),(.ap 6 s6.2.2.1.length (cF An s6.2.2.1) (.tok 1424 119)),(aI 0),(.ap 4 s6.2.2.2.length (cF B8 s6.2.2.2) (.tok 2256 85))]))]
noncomputable abbrev z36_7 (a0:A7) (y5:(List (List B7))) (y9:Bool×(List Ah)×(List Ap)):List (Nat×Ob):=[(16,(.cells (Ac a0))),(32,G6),(736,(.cells [(aS a0.Name),(Jk a0),(Nk y5),(.ap 6 y9.2.1.length (cF An y9.2.1) (.tok 2608 119)),(aI 0),(.ap 4 y9.2.2.length (cF B8 y9.2.2) (.tok 2256 85))]))]
noncomputable abbrev Yl (a0:A7):List (Nat×Ob):=[(16,(.cells (Ac a0))),(32,G6)]
noncomputable abbrev z36_9 (s6:Bool×Int×(List Ah)×(List Ap)) (y3:(List A9)):List (Nat×AV):=[(1,(.ptr 16 0)),(2,(.ptr 32 0)),(8,(.d (A5 2 Am y3))),(10,(.ptr 736 0)),(13,(aB s6.1)),(77,(.d (A5 2 Am y3))),(78,(aI (y3.length:Int))),(79,(aI s6.2.1))]
noncomputable abbrev fd (y7:(List Ah)):AV:=(.ap 6 y7.length (cF An y7) (.tok 2608 119))
noncomputable abbrev z36_b (a0:A7):List (Nat×Ob):=[(16,(.cells (Ac a0))),(32,G6),(736,(.cells [(aS a0.Name),(Jk a0),aN,aN,(aI 0),aN]))]
noncomputable abbrev z36_c (a0:A7) (y10:Bool×(List Ah)×(List Ap)) (y5:(List (List B7))):Ob:=(.cells [(aS a0.Name),(Jk a0),(Nk y5),(.ap 6 y10.2.1.length (cF An y10.2.1) (.tok 1424 119)),(aI 0),(.ap 4 y10.2.2.length (cF B8 y10.2.2) (.tok 2256 85))])
noncomputable def d36 (a0:A7):JF Tryz.prog Tryz.f36 [(B6 a0)] (fun(r:A7×Int)=>(.tup [(B6 r.1),(dI r.2)])) :=
 (.sq 3 [(1,Bd 23 (fun(x:((List Aq)×Int))=>(.tup [(A5 5 C5 x.1),(dI x.2)])))] [(1,[2,3],[32]),(0,[1,2,4],[16,32])] (fun(y1:(List Aq))=>⟨[(1,(.ptr 16 0)),(2,(.ptr 32 0)),(4,(.d (A5 5 C5 y1)))],(Yl a0),[],208⟩) (c3 (@p22 a0) fun x1=>(.ite (x1.2 != 0) (.ret .ret ⟨[(2,(.ptr 32 0)),(3,(aI x1.2))],[(32,G6)],[],272⟩ (.inr (((⟨([]:List UInt8),[],[],[],(0:Int),[]⟩:A7),x1.2))) ⟨rfl,rfl,_,Weak.refl _,⟨⟨dr,Af,Af,Af,dr,Af,trivial⟩,dr,trivial⟩⟩) (.nx x1.1))) (fun y1=>(.sc (fun(_:Unit)=>⟨[(1,(.ptr 16 0)),(2,(.ptr 32 0))],(Yl a0),[],512⟩) (.sq 1 [] [(0,[1,2,30,31,32],[16,32])] (fun(_:Unit)=>⟨[(1,(.ptr 16 0)),(2,(.ptr 32 0)),(30,(.d (A5 5 C5 y1))),(31,(aI (y1.length:Int))),(32,(aI 0))],(Yl a0),[],256⟩) (.nx ()) (fun _=>(.bk (.lp (fun(s2:Int)=>⟨[(1,(.ptr 16 0)),(2,(.ptr 32 0)),(30,(.d (A5 5 C5 y1))),(31,(aI (y1.length:Int))),(32,(aI s2))],(Yl a0),[],496⟩) (0:Int) (wk (Aj [16,32]) []) fun s2=>(.sg [] [(1,[2,3],[32]),(0,[1,2,30,31,32],[16,32]),(2,[1,2],[16,32])] (.ite (decide (s2 < (y1.length:Int))) (nd (0≤s2) (nd (s2 < (y1.length:Int)) (.ite (((y1.getD s2.toNat default).Kind==1) || ((y1.getD s2.toNat default).Kind==2)) (.ret .ret ⟨[(2,(.ptr 32 0)),(3,(aI 11))],[(32,G6)],[],752⟩ (.inr (.inr (((⟨([]:List UInt8),[],[],[],(0:Int),[]⟩:A7),(11:Int))))) ⟨rfl,rfl,rfl,_,Weak.refl _,⟨⟨dr,Af,Af,Af,dr,Af,trivial⟩,dr,trivial⟩⟩) (.ret .normal ⟨[(1,(.ptr 16 0)),(2,(.ptr 32 0)),(30,(.d (A5 5 C5 y1))),(31,(aI (y1.length:Int))),(32,(aI (IntKind.wrap .i64 (s2+1))))],(Yl a0),[],736⟩ (.inl (IntKind.wrap .i64 (s2+1))) ⟨rfl,(wk (Aj [16,32]) [])⟩)))) (.ret (.exit 0) _ (.inr (.inl ())) ⟨rfl,rfl,Weak.refl _⟩))))))) fun _=>(.sq 2 [(10,Bd 48 (fun(x:((List A9)×Int))=>(.tup [(A5 2 Am x.1),(dI x.2)])))] [(0,[1,2,8,10],[16,32,736])] (fun(y3:(List A9))=>⟨[(1,(.ptr 16 0)),(2,(.ptr 32 0)),(8,(.d (A5 2 Am y3))),(10,(.ptr 736 0))],(z36_b a0),[704],768⟩) (c3 (@p16 a0) fun x10=>(nd ((0+a0.Ag.length) * 16≤140737488355328) (.ret .normal ⟨[(1,(.ptr 16 0)),(2,(.ptr 32 0)),(8,(.d (A5 2 Am x10.1))),(10,(.ptr 736 0))],[(16,(.cells (Ac a0))),(32,G6),(736,(.cells [(aS a0.Name),(.ap 1 (0+a0.Ag.length) (Bf 0 (Bc []) (cF D.str a0.Ag)) (.tok 704 9)),aN,aN,(aI 0),aN]))],[704],768⟩ (.inl x10.1) ⟨rfl,(ws (Aj [16,32,736]) [(704,704)] ⟨⟨_,_,rfl,rfl,⟨dr,dr,dr,dr,dr,dr,trivial⟩⟩,⟨_,_,rfl,rfl,⟨dr,rfl,rfl,rfl,dr,rfl,trivial⟩⟩,⟨_,_,rfl,rfl,⟨dr,⟨rfl,rfl,rfl,(Ay (B5 rfl rfl) dr)⟩,rfl,rfl,dr,rfl,trivial⟩⟩⟩)⟩))) (fun y3=>(.sc (fun(y5:(List (List B7)))=>⟨[(1,(.ptr 16 0)),(2,(.ptr 32 0)),(8,(.d (A5 2 Am y3))),(10,(.ptr 736 0))],(ui a0 y5),[704,992],1088⟩) (.sq 1 [] [(0,[1,2,8,10,59,60,61],[16,32,736])] (fun(_:Unit)=>⟨[(1,(.ptr 16 0)),(2,(.ptr 32 0)),(8,(.d (A5 2 Am y3))),(10,(.ptr 736 0)),(59,(.d (A5 1 (A5 2 Ax) a0.Ai))),(60,(aI (a0.Ai.length:Int))),(61,(aI 0))],(z36_b a0),[704],832⟩) (.nx ()) (fun _=>(.bk (.lp (fun(s4:Int×(List (List B7)))=>⟨[(1,(.ptr 16 0)),(2,(.ptr 32 0)),(8,(.d (A5 2 Am y3))),(10,(.ptr 736 0)),(59,(.d (A5 1 (A5 2 Ax) a0.Ai))),(60,(aI (a0.Ai.length:Int))),(61,(aI s4.1))],[(16,(.cells (Ac a0))),(32,G6),(736,(.cells [(aS a0.Name),(Jk a0),(.ap 1 s4.2.length (cF (A5 2 Ax) s4.2) (.tok 992 83)),aN,(aI 0),aN]))],[704,992],1072⟩) ((0:Int),[]) (wk (Aj [16,32,736]) [(704,704)]) fun s4=>(.sg [] [(0,[1,2,8,10,59,60,61],[16,32,736]),(4,[1,2,8,10],[16,32,736])] (.ite (decide (s4.1 < (a0.Ai.length:Int))) (nd (0≤s4.1) (nd (s4.1 < (a0.Ai.length:Int)) (nd ((0+(a0.Ai.getD s4.1.toNat default).length) * 16≤140737488355328) (nd ((s4.2.length+1) * 24≤140737488355328) (.ret .normal ⟨[(1,(.ptr 16 0)),(2,(.ptr 32 0)),(8,(.d (A5 2 Am y3))),(10,(.ptr 736 0)),(59,(.d (A5 1 (A5 2 Ax) a0.Ai))),(60,(aI (a0.Ai.length:Int))),(61,(aI (IntKind.wrap .i64 (s4.1+1))))],[(16,(.cells (Ac a0))),(32,G6),(736,(.cells [(aS a0.Name),(Jk a0),(.ap 1 (s4.2.length+1) (Bf s4.2.length (cF (A5 2 Ax) s4.2) (Bc [(.sl 2 (0+(a0.Ai.getD s4.1.toNat default).length) (Bf 0 (Bc []) (cF Ax (a0.Ai.getD s4.1.toNat default))))])) (.tok 1232 83)),aN,(aI 0),aN]))],[1232,1216,1200,704],1312⟩ (.inl ((IntKind.wrap .i64 (s4.1+1)),(s4.2++([(([]:List B7)++(a0.Ai.getD s4.1.toNat default))]:List (List B7))))) ⟨rfl,(ws (Aj [16,32,736]) [(704,704),(992,1232)] ⟨⟨_,_,rfl,rfl,⟨dr,dr,dr,dr,dr,dr,trivial⟩⟩,⟨_,_,rfl,rfl,⟨dr,rfl,rfl,rfl,dr,rfl,trivial⟩⟩,⟨_,_,rfl,rfl,⟨dr,⟨rfl,rfl,rfl,dr⟩,⟨rfl,rfl,rfl,(Ay dr (Eu rfl ⟨(Ay (B5 rfl rfl) dr),trivial⟩))⟩,rfl,dr,rfl,trivial⟩⟩⟩)⟩))))) (.ret (.exit 2) _ (.inr (.inl s4.2)) ⟨rfl,rfl,Weak.refl _⟩))))))) fun y5=>(.sq 1 [] [(0,[1,2,8,10,13],[16,32,736])] (fun(_:Unit)=>⟨[(1,(.ptr 16 0)),(2,(.ptr 32 0)),(8,(.d (A5 2 Am y3))),(10,(.ptr 736 0)),(13,(aB (decide (40 < (y3.length:Int)))))],(ui a0 y5),[704,992],1152⟩) (.nx ()) (fun _=>(.sc (fun(y10:Bool×(List Ah)×(List Ap))=>⟨[(2,(.ptr 32 0)),(10,(.ptr 736 0)),(13,(aB y10.1))],[(32,G6),(736,(z36_c a0 y10 y5))],[704,992,1424,2256],2400⟩) (.sq 1 [] [(0,[1,2,8,10,13,77,78,79],[16,32,736])] (fun(_:Unit)=>⟨[(1,(.ptr 16 0)),(2,(.ptr 32 0)),(8,(.d (A5 2 Am y3))),(10,(.ptr 736 0)),(13,(aB (decide (40 < (y3.length:Int))))),(77,(.d (A5 2 Am y3))),(78,(aI (y3.length:Int))),(79,(aI 0))],(ui a0 y5),[704,992],1200⟩) (.nx ()) (fun _=>(.bk (.lp (fun(s6:Bool×Int×(List Ah)×(List Ap))=>⟨(z36_9 s6 y3),(z36_6 a0 s6 y5),[704,992,1424,2256],2384⟩) ((decide (40 < (y3.length:Int))),(0:Int),[],[]) (wk (Aj [16,32,736]) (Aj [704,992])) fun s6=>(.sq 2 [] [(0,[1,2,8,10,13,77,78,79],[16,32,736]),(6,[2,10,13],[32,736])] (fun(_:Unit)=>⟨(z36_9 s6 y3),(z36_6 a0 s6 y5),[704,992,1424,2256],2400⟩) (.ite (decide (s6.2.1 < (y3.length:Int))) (.nx ()) (.ret (.exit 4) _ (.inr (.inr (.inl (s6.1,s6.2.2.1,s6.2.2.2)))) ⟨rfl,rfl,rfl,Weak.refl _⟩)) (fun _=>(.sc (fun(y9:Bool×(List Ah)×(List Ap))=>⟨[(1,(.ptr 16 0)),(2,(.ptr 32 0)),(8,(.d (A5 2 Am y3))),(10,(.ptr 736 0)),(13,(aB y9.1)),(77,(.d (A5 2 Am y3))),(78,(aI (y3.length:Int))),(79,(aI s6.2.1))],(z36_7 a0 y5 y9),[704,992,2608,2256],3536⟩) (.bk (.sq 3 [(21,Bd 87 D.str)] [(0,[1,2,8,10,13,14,15,77,78,79,94,95,96],[16,32,736,2448])] (fun(y7:(List Ah))=>⟨(z36_4 a0 s6 y3),[(16,(.cells (Ac a0))),(32,G6),(736,(.cells [(aS a0.Name),(Jk a0),(Nk y5),(fd y7),(aI 0),(.ap 4 s6.2.2.2.length (cF B8 s6.2.2.2) (.tok 2256 85))])),(2448,(Y9 s6 y3))],[704,992,2608,2256],2720⟩) (nd (0≤s6.2.1) (nd (s6.2.1 < (y3.length:Int)) (.exi ((List UInt8)) ((ji s6.2.1).bind fun r21_0=>(if([83]:List UInt8).length+r21_0.length≤9223372036854775807 then(if(s6.2.2.1.length+1) * 88≤140737488355328 then some r21_0 else none)else none)) (fun x21=>(.p (Aa Tryz.prog 81 [(dI s6.2.1)] (.str x21)) (.p (([83]:List UInt8).length+x21.length≤9223372036854775807) (.p ((s6.2.2.1.length+1) * 88≤140737488355328) (.fin 0))))) (by intro x21 h;obtain⟨r21_0,h1,h⟩:=Option.bind_eq_some_iff.1 h;obtain⟨h2,h⟩:=Ak h;obtain⟨h3,h⟩:=Ak h;cases h;exact⟨p81 h1,h2,h3,trivial⟩) (fun x21 _=>(.ret .normal ⟨(z36_4 a0 s6 y3),[(16,(.cells (Ac a0))),(32,G6),(736,(.cells [(aS a0.Name),(Jk a0),(Nk y5),(.ap 6 (s6.2.2.1.length+1) (Bf s6.2.2.1.length (cF An s6.2.2.1) (Bc [(.agg [(.str (([83]:List UInt8)++x21)),(dI (-1)),(dI (-1)),(.bool false),(.sl 0 0 (fun _=>.bad)),(.sl 0 0 (fun _=>.bad))])])) (.tok 2608 119)),(aI 0),(.ap 4 s6.2.2.2.length (cF B8 s6.2.2.2) (.tok 2256 85))])),(2448,(Y9 s6 y3))],[2608,2592,704,992,2256],2720⟩ (.inl (s6.2.2.1++([(⟨(([83]:List UInt8)++x21),(-1:Int),(-1:Int),false,[],[]⟩:Ah)]:List Ah))) ⟨rfl,(ws (Aj [16,32,736,2448]) (Aj [704,992,2608,2256]) ⟨⟨_,_,rfl,rfl,⟨dr,dr,dr,dr,dr,dr,trivial⟩⟩,⟨_,_,rfl,rfl,⟨dr,rfl,rfl,rfl,dr,rfl,trivial⟩⟩,⟨_,_,rfl,rfl,⟨dr,⟨rfl,rfl,rfl,dr⟩,⟨rfl,rfl,rfl,dr⟩,⟨rfl,rfl,rfl,(Ay dr (Eu rfl ⟨(.inr ⟨dr,dr,dr,dr,Af,Af,trivial⟩),trivial⟩))⟩,dr,⟨rfl,rfl,rfl,dr⟩,trivial⟩⟩,⟨_,_,rfl,rfl,⟨dr,dr,trivial⟩⟩⟩)⟩))))) (fun y7=>(.bk (.lp (fun(s8:Bool×Int×(List Ap))=>⟨[(1,(.ptr 16 0)),(2,(.ptr 32 0)),(8,(.d (A5 2 Am y3))),(10,(.ptr 736 0)),(13,(aB s8.1)),(14,(aI s6.2.1)),(15,(.ptr 2448 0)),(77,(.d (A5 2 Am y3))),(78,(aI (y3.length:Int))),(79,(aI s6.2.1)),(94,(.d (A5 4 B8 a0.A0))),(95,(aI (a0.A0.length:Int))),(96,(aI s8.2.1))],[(16,(.cells (Ac a0))),(32,G6),(736,(.cells [(aS a0.Name),(Jk a0),(Nk y5),(fd y7),(aI 0),(.ap 4 s8.2.2.length (cF B8 s8.2.2) (.tok 2256 85))])),(2448,(Y9 s6 y3))],[704,992,2608,2256],3520⟩) (s6.1,(0:Int),s6.2.2.2) (wk (Aj [16,32,736,2448]) (Aj [704,992,2608,2256])) fun s8=>(.sg [(25,Bd 105 D.bool),(26,Bd 111 (fun(x:(A9×(List (List UInt8))×Int))=>(.tup [(Am x.1),(A5 1 D.str x.2.1),(dI x.2.2)]))),(28,Bd 126 dI)] [(0,[1,2,8,10,13,14,15,77,78,79,94,95,96],[16,32,736,2448]),(8,[1,2,8,10,13,77,78,79],[16,32,736])] (.ite (decide (s8.2.1 < (a0.A0.length:Int))) (nd (0≤s8.2.1) (nd (s8.2.1 < (a0.A0.length:Int)) (c3 (@p60 a0 (y3.getD s6.2.1.toNat default).Leaf s8.2.1) fun x25=>(.ite (!x25) (.ret .normal ⟨[(1,(.ptr 16 0)),(2,(.ptr 32 0)),(8,(.d (A5 2 Am y3))),(10,(.ptr 736 0)),(13,(aB s8.1)),(14,(aI s6.2.1)),(15,(.ptr 2448 0)),(77,(.d (A5 2 Am y3))),(78,(aI (y3.length:Int))),(79,(aI s6.2.1)),(94,(.d (A5 4 B8 a0.A0))),(95,(aI (a0.A0.length:Int))),(96,(aI (IntKind.wrap .i64 (s8.2.1+1))))],[(16,(.cells (Ac a0))),(32,G6),(736,(.cells [(aS a0.Name),(Jk a0),(Nk y5),(fd y7),(aI 0),(.ap 4 s8.2.2.length (cF B8 s8.2.2) (.tok 2256 85))])),(2448,(Y9 s6 y3))],[704,992,2608,2256],3760⟩ (.inl (s8.1,(IntKind.wrap .i64 (s8.2.1+1)),s8.2.2)) ⟨rfl,(wk (Aj [16,32,736,2448]) (Aj [704,992,2608,2256]))⟩) (c3 (@p82 a0 (y3.getD s6.2.1.toNat default) s8.2.1) fun x26=>(.exi (Int) ((So y3 x26.1).bind fun r28_0=>(if(0+(a0.A0.getD s8.2.1.toNat default).When.length) * 16≤140737488355328 then(if(s8.2.2.length+1) * 64≤140737488355328 then some r28_0 else none)else none)) (fun x28=>(.p (Aa Tryz.prog 83 [(A5 2 Am y3),(Am x26.1)] (dI x28)) (.p ((0+(a0.A0.getD s8.2.1.toNat default).When.length) * 16≤140737488355328) (.p ((s8.2.2.length+1) * 64≤140737488355328) (.fin 0))))) (by intro x28 h;obtain⟨r28_0,h1,h⟩:=Option.bind_eq_some_iff.1 h;obtain⟨h2,h⟩:=Ak h;obtain⟨h3,h⟩:=Ak h;cases h;exact⟨p83 h1,h2,h3,trivial⟩) (fun x28 _=>(.ret .normal ⟨[(1,(.ptr 16 0)),(2,(.ptr 32 0)),(8,(.d (A5 2 Am y3))),(10,(.ptr 736 0)),(13,(aB (s8.1 || (decide (8 < (x26.2.1.length:Int)))))),(14,(aI s6.2.1)),(15,(.ptr 2448 0)),(77,(.d (A5 2 Am y3))),(78,(aI (y3.length:Int))),(79,(aI s6.2.1)),(94,(.d (A5 4 B8 a0.A0))),(95,(aI (a0.A0.length:Int))),(96,(aI (IntKind.wrap .i64 (s8.2.1+1))))],[(16,(.cells (Ac a0))),(32,G6),(736,(.cells [(aS a0.Name),(Jk a0),(Nk y5),(fd y7),(aI 0),(.ap 4 (s8.2.2.length+1) (Bf s8.2.2.length (cF B8 s8.2.2) (Bc [(.agg [(dI s6.2.1),(dI x28),(.sl 2 (0+(a0.A0.getD s8.2.1.toNat default).When.length) (Bf 0 (Bc []) (cF Ax (a0.A0.getD s8.2.1.toNat default).When))),(A5 1 D.str x26.2.1)])])) (.tok 4240 85))])),(2448,(Y9 s6 y3))],[4240,4224,4176,704,992,2608],4320⟩ (.inl ((s8.1 || (decide (8 < (x26.2.1.length:Int)))),(IntKind.wrap .i64 (s8.2.1+1)),(s8.2.2++([(⟨s6.2.1,x28,(([]:List B7)++(a0.A0.getD s8.2.1.toNat default).When),x26.2.1⟩:Ap)]:List Ap)))) ⟨rfl,(ws (Aj [16,32,736,2448]) [(704,704),(992,992),(2608,2608),(2256,4240)] ⟨⟨_,_,rfl,rfl,⟨dr,dr,dr,dr,dr,dr,trivial⟩⟩,⟨_,_,rfl,rfl,⟨dr,rfl,rfl,rfl,dr,rfl,trivial⟩⟩,⟨_,_,rfl,rfl,⟨dr,⟨rfl,rfl,rfl,dr⟩,⟨rfl,rfl,rfl,dr⟩,⟨rfl,rfl,rfl,dr⟩,dr,⟨rfl,rfl,rfl,(Ay dr (Eu rfl ⟨(.inr ⟨dr,dr,(Ay (B5 rfl rfl) dr),dr,trivial⟩),trivial⟩))⟩,trivial⟩⟩,⟨_,_,rfl,rfl,⟨dr,dr,trivial⟩⟩⟩)⟩)))))))) (.ret (.exit 6) _ (.inr (.inl (s8.1,y7,s8.2.2))) ⟨rfl,rfl,Weak.refl _⟩)))))))) fun y9=>(.sg [] [(0,[1,2,8,10,13,77,78,79],[16,32,736])] (.ret .normal ⟨[(1,(.ptr 16 0)),(2,(.ptr 32 0)),(8,(.d (A5 2 Am y3))),(10,(.ptr 736 0)),(13,(aB y9.1)),(77,(.d (A5 2 Am y3))),(78,(aI (y3.length:Int))),(79,(aI (IntKind.wrap .i64 (s6.2.1+1))))],(z36_7 a0 y5 y9),[704,992,2608,2256],3568⟩ (.inl (y9.1,(IntKind.wrap .i64 (s6.2.1+1)),y9.2.1,y9.2.2)) ⟨rfl,(wk (Aj [16,32,736]) [(704,704),(992,992),(1424,2608),(2256,2256)])⟩))))))))) fun y10=>(.sg [] [(1,[2,3],[32])] (.ite (y10.1 || (decide (120 < (y10.2.2.length:Int)))) (.ret .ret ⟨[(2,(.ptr 32 0)),(3,(aI 3))],[(32,G6)],[704,992,1424,2256],2560⟩ ((⟨([]:List UInt8),[],[],[],(0:Int),[]⟩:A7),(3:Int)) ⟨rfl,_,Weak.refl _,⟨⟨dr,Af,Af,Af,dr,Af,trivial⟩,dr,trivial⟩⟩) (.ret .ret ⟨[(2,(.ptr 32 0)),(3,(aI 0))],[(32,(z36_c a0 y10 y5))],[704,992,1424,2256],2560⟩ ((⟨a0.Name,(([]:List (List UInt8))++a0.Ag),y5,y10.2.1,(0:Int),y10.2.2⟩:A7),(0:Int)) ⟨rfl,_,Weak.refl _,⟨⟨dr,dr,dr,dr,dr,dr,trivial⟩,dr,trivial⟩⟩))))))))))))
noncomputable def m36 (a0:A7):Option (A7×Int):=(d36 a0).m
theorem p36 {a0:A7} {r:A7×Int} (h:m36 a0=some r):Aa Tryz.prog 36 [(B6 a0)] (.tup [(B6 r.1),(dI r.2)]):=Ar (d36 a0) Tryz.func36 h
noncomputable def d41 (a0 a1:List (List UInt8)):JF Tryz.prog Tryz.f41 [(A5 1 D.str a0),(A5 1 D.str a1)] (fun(r:Bool)=>(.bool r)) :=
 (.sq 2 [] [(1,[4],[]),(0,[0,1],[])] (fun(_:Unit)=>⟨[(0,(.d (A5 1 D.str a0))),(1,(.d (A5 1 D.str a1)))],[],[],112⟩) (.ite ((a0.length:Int) != (a1.length:Int)) (.ret .ret ⟨[(4,(aB false))],[],[],128⟩ (.inr (false)) ⟨rfl,rfl,_,Weak.refl _,dr⟩) (.nx ())) (fun _=>(.sc (fun(_:Unit)=>⟨[],[],[],400⟩) (.sq 1 [] [(0,[0,1,12,13],[])] (fun(_:Unit)=>⟨[(0,(.d (A5 1 D.str a0))),(1,(.d (A5 1 D.str a1))),(12,(aI (a0.length:Int))),(13,(aI 0))],[],[],160⟩) (.nx ()) (fun _=>(.bk (.lp (fun(s1:Int)=>⟨[(0,(.d (A5 1 D.str a0))),(1,(.d (A5 1 D.str a1))),(12,(aI (a0.length:Int))),(13,(aI s1))],[],[],384⟩) (0:Int) (wk [] []) fun s1=>(.sg [] [(1,[4],[]),(0,[0,1,12,13],[]),(2,[],[])] (.ite (decide (s1 < (a0.length:Int))) (nd (0≤s1) (nd (s1 < (a0.length:Int)) (nd (0≤s1) (nd (s1 < (a1.length:Int)) (.ite ((a0.getD s1.toNat default) != (a1.getD s1.toNat default)) (.ret .ret ⟨[(4,(aB false))],[],[],592⟩ (.inr (.inr (false))) ⟨rfl,rfl,rfl,_,Weak.refl _,dr⟩) (.ret .normal ⟨[(0,(.d (A5 1 D.str a0))),(1,(.d (A5 1 D.str a1))),(12,(aI (a0.length:Int))),(13,(aI (IntKind.wrap .i64 (s1+1))))],[],[],608⟩ (.inl (IntKind.wrap .i64 (s1+1))) ⟨rfl,(wk [] [])⟩)))))) (.ret (.exit 0) _ (.inr (.inl ())) ⟨rfl,rfl,Weak.refl _⟩))))))) fun _=>(.sg [] [(1,[4],[])] (.ret .ret ⟨[(4,(aB true))],[],[],416⟩ true ⟨rfl,_,Weak.refl _,dr⟩)))))
noncomputable def Qi (a0 a1:List (List UInt8)):Option (Bool):=(d41 a0 a1).m
theorem p41 {a0:List (List UInt8)} {a1:List (List UInt8)} {r:Bool} (h:Qi a0 a1=some r):Aa Tryz.prog 41 [(A5 1 D.str a0),(A5 1 D.str a1)] (.bool r):=Ar (d41 a0 a1) Tryz.func41 h
noncomputable def d84 (a0 a1:List B7):JF Tryz.prog Tryz.f84 [(A5 2 Ax a0),(A5 2 Ax a1)] (fun(r:Bool)=>(.bool r)) :=
 (.sq 2 [] [(1,[4],[]),(0,[0,1],[])] (fun(_:Unit)=>⟨[(0,(.d (A5 2 Ax a0))),(1,(.d (A5 2 Ax a1)))],[],[],112⟩) (.ite ((a0.length:Int) != (a1.length:Int)) (.ret .ret ⟨[(4,(aB false))],[],[],128⟩ (.inr (false)) ⟨rfl,rfl,_,Weak.refl _,dr⟩) (.nx ())) (fun _=>(.sc (fun(_:Unit)=>⟨[],[],[],400⟩) (.sq 1 [] [(0,[0,1,12,13],[])] (fun(_:Unit)=>⟨[(0,(.d (A5 2 Ax a0))),(1,(.d (A5 2 Ax a1))),(12,(aI (a0.length:Int))),(13,(aI 0))],[],[],160⟩) (.nx ()) (fun _=>(.bk (.lp (fun(s1:Int)=>⟨[(0,(.d (A5 2 Ax a0))),(1,(.d (A5 2 Ax a1))),(12,(aI (a0.length:Int))),(13,(aI s1))],[],[],384⟩) (0:Int) (wk [] []) fun s1=>(.sg [] [(1,[4],[]),(0,[0,1,12,13],[]),(2,[],[])] (.ite (decide (s1 < (a0.length:Int))) (nd (0≤s1) (nd (s1 < (a0.length:Int)) (nd (0≤s1) (nd (s1 < (a1.length:Int)) (.ite (!(((a0.getD s1.toNat default).Cond==(a1.getD s1.toNat default).Cond)&&(((a0.getD s1.toNat default).Neg==(a1.getD s1.toNat default).Neg)&&true))) (.ret .ret ⟨[(4,(aB false))],[],[],592⟩ (.inr (.inr (false))) ⟨rfl,rfl,rfl,_,Weak.refl _,dr⟩) (.ret .normal ⟨[(0,(.d (A5 2 Ax a0))),(1,(.d (A5 2 Ax a1))),(12,(aI (a0.length:Int))),(13,(aI (IntKind.wrap .i64 (s1+1))))],[],[],608⟩ (.inl (IntKind.wrap .i64 (s1+1))) ⟨rfl,(wk [] [])⟩)))))) (.ret (.exit 0) _ (.inr (.inl ())) ⟨rfl,rfl,Weak.refl _⟩))))))) fun _=>(.sg [] [(1,[4],[])] (.ret .ret ⟨[(4,(aB true))],[],[],416⟩ true ⟨rfl,_,Weak.refl _,dr⟩)))))
noncomputable def Xn (a0 a1:List B7):Option (Bool):=(d84 a0 a1).m
theorem p84 {a0:List B7} {a1:List B7} {r:Bool} (h:Xn a0 a1=some r):Aa Tryz.prog 84 [(A5 2 Ax a0),(A5 2 Ax a1)] (.bool r):=Ar (d84 a0 a1) Tryz.func84 h
noncomputable abbrev Jm (a0:A7) (a1:A7):List (Nat×Ob):=[(16,(.cells (Ac a0))),(32,(.cells (Ac a1)))]
noncomputable def d37 (a0 a1:A7):JF Tryz.prog Tryz.f37 [(B6 a0),(B6 a1)] (fun(r:Bool)=>(.bool r)) :=
 (.sq 2 [(1,Bd 29 D.bool)] [(1,[4],[]),(0,[2,3],[16,32])] (fun(_:Unit)=>⟨[(2,(.ptr 16 0)),(3,(.ptr 32 0))],(Jm a0 a1),[],816⟩) (.exi (Bool) ((if(!((a0.Name != a1.Name) || (a0.Start != a1.Start)))=true then Qi a0.Ag a1.Ag else some default).bind fun r1_0=>some r1_0) (fun x1=>(.g (!((a0.Name != a1.Name) || (a0.Start != a1.Start))) (Aa Tryz.prog 41 [(A5 1 D.str a0.Ag),(A5 1 D.str a1.Ag)] (.bool x1)) (.fin 0))) (by intro x1 h;obtain⟨r1_0,h1,h⟩:=Option.bind_eq_some_iff.1 h;cases h;exact⟨fun g=>p41 (by rw[if_pos g]at h1;exact h1),trivial⟩) (fun x1 _=>(.ite ((((((a0.Name != a1.Name) || (a0.Start != a1.Start)) || (!x1)) || ((a0.Ai.length:Int) != (a1.Ai.length:Int))) || ((a0.A4.length:Int) != (a1.A4.length:Int))) || ((a0.A0.length:Int) != (a1.A0.length:Int))) (.ret .ret ⟨[(4,(aB false))],[],[],832⟩ (.inr (false)) ⟨rfl,rfl,_,Weak.refl _,dr⟩) (.nx ())))) (fun _=>(.sc (fun(_:Unit)=>⟨[(2,(.ptr 16 0)),(3,(.ptr 32 0))],(Jm a0 a1),[],1168⟩) (.sq 1 [] [(0,[2,3,61,62],[16,32])] (fun(_:Unit)=>⟨[(2,(.ptr 16 0)),(3,(.ptr 32 0)),(61,(aI (a0.Ai.length:Int))),(62,(aI 0))],(Jm a0 a1),[],880⟩) (.nx ()) (fun _=>(.bk (.lp (fun(s1:Int)=>⟨[(2,(.ptr 16 0)),(3,(.ptr 32 0)),(61,(aI (a0.Ai.length:Int))),(62,(aI s1))],(Jm a0 a1),[],1152⟩) (0:Int) (wk (Aj [16,32]) []) fun s1=>(.sg [(6,Bd 75 D.bool)] [(1,[4],[]),(0,[2,3,61,62],[16,32]),(2,[2,3],[16,32])] (.ite (decide (s1 < (a0.Ai.length:Int))) (.exi (Bool) (if 0≤s1 then(if s1 < (a0.Ai.length:Int)then(if 0≤s1 then(if s1 < (a1.Ai.length:Int)then((Xn (a0.Ai.getD s1.toNat default) (a1.Ai.getD s1.toNat default)).bind fun r6_0=>some r6_0)else none)else none)else none)else none) (fun x6=>(.p (0≤s1) (.p (s1 < (a0.Ai.length:Int)) (.p (0≤s1) (.p (s1 < (a1.Ai.length:Int)) (.p (Aa Tryz.prog 84 [(A5 2 Ax (a0.Ai.getD s1.toNat default)),(A5 2 Ax (a1.Ai.getD s1.toNat default))] (.bool x6)) (.fin 0))))))) (by intro x6 h;obtain⟨h1,h⟩:=Ak h;obtain⟨h2,h⟩:=Ak h;obtain⟨h3,h⟩:=Ak h;obtain⟨h4,h⟩:=Ak h;obtain⟨r6_0,h5,h⟩:=Option.bind_eq_some_iff.1 h;cases h;exact⟨h1,h2,h3,h4,p84 h5,trivial⟩) (fun x6 _=>(.ite (!x6) (.ret .ret ⟨[(4,(aB false))],[],[],1408⟩ (.inr (.inr (false))) ⟨rfl,rfl,rfl,_,Weak.refl _,dr⟩) (.ret .normal ⟨[(2,(.ptr 16 0)),(3,(.ptr 32 0)),(61,(aI (a0.Ai.length:Int))),(62,(aI (IntKind.wrap .i64 (s1+1))))],(Jm a0 a1),[],1424⟩ (.inl (IntKind.wrap .i64 (s1+1))) ⟨rfl,(wk (Aj [16,32]) [])⟩)))) (.ret (.exit 0) _ (.inr (.inl ())) ⟨rfl,rfl,Weak.refl _⟩))))))) fun _=>(.sc (fun(_:Unit)=>⟨[(2,(.ptr 16 0)),(3,(.ptr 32 0))],(Jm a0 a1),[],2224⟩) (.sq 1 [] [(0,[2,3,80,81],[16,32])] (fun(_:Unit)=>⟨[(2,(.ptr 16 0)),(3,(.ptr 32 0)),(80,(aI (a0.A4.length:Int))),(81,(aI 0))],(Jm a0 a1),[],1232⟩) (.nx ()) (fun _=>(.bk (.lp (fun(s2:Int)=>⟨[(2,(.ptr 16 0)),(3,(.ptr 32 0)),(80,(aI (a0.A4.length:Int))),(81,(aI s2))],(Jm a0 a1),[],2208⟩) (0:Int) (wk (Aj [16,32]) []) fun s2=>(.sg [(13,⟨Bool×Bool,fun x=>[(125,(.bool x.1)),(133,(.bool x.2))],fun x=>[],[]⟩)] [(1,[4],[]),(0,[2,3,80,81],[16,32]),(4,[2,3],[16,32])] (.ite (decide (s2 < (a0.A4.length:Int))) (nd (0≤s2) (nd (s2 < (a0.A4.length:Int)) (nd (0≤s2) (nd (s2 < (a1.A4.length:Int)) (.exi (Bool×Bool) ((if(!(((((a0.A4.getD s2.toNat default).Name != (a1.A4.getD s2.toNat default).Name) || ((a0.A4.getD s2.toNat default).Al != (a1.A4.getD s2.toNat default).Al)) || ((a0.A4.getD s2.toNat default).B0 != (a1.A4.getD s2.toNat default).B0)) || ((a0.A4.getD s2.toNat default).Aw != (a1.A4.getD s2.toNat default).Aw)))=true then Qi (a0.A4.getD s2.toNat default).Az (a1.A4.getD s2.toNat default).Az else some default).bind fun r13_0=>((if(!((((((a0.A4.getD s2.toNat default).Name != (a1.A4.getD s2.toNat default).Name) || ((a0.A4.getD s2.toNat default).Al != (a1.A4.getD s2.toNat default).Al)) || ((a0.A4.getD s2.toNat default).B0 != (a1.A4.getD s2.toNat default).B0)) || ((a0.A4.getD s2.toNat default).Aw != (a1.A4.getD s2.toNat default).Aw)) || (!r13_0)))=true then Qi (a0.A4.getD s2.toNat default).Exit (a1.A4.getD s2.toNat default).Exit else some default).bind fun r13_1=>some (r13_0,r13_1))) (fun x13=>(.g (!(((((a0.A4.getD s2.toNat default).Name != (a1.A4.getD s2.toNat default).Name) || ((a0.A4.getD s2.toNat default).Al != (a1.A4.getD s2.toNat default).Al)) || ((a0.A4.getD s2.toNat default).B0 != (a1.A4.getD s2.toNat default).B0)) || ((a0.A4.getD s2.toNat default).Aw != (a1.A4.getD s2.toNat default).Aw))) (Aa Tryz.prog 41 [(A5 1 D.str (a0.A4.getD s2.toNat default).Az),(A5 1 D.str (a1.A4.getD s2.toNat default).Az)] (.bool x13.1)) (.g (!((((((a0.A4.getD s2.toNat default).Name != (a1.A4.getD s2.toNat default).Name) || ((a0.A4.getD s2.toNat default).Al != (a1.A4.getD s2.toNat default).Al)) || ((a0.A4.getD s2.toNat default).B0 != (a1.A4.getD s2.toNat default).B0)) || ((a0.A4.getD s2.toNat default).Aw != (a1.A4.getD s2.toNat default).Aw)) || (!x13.1))) (Aa Tryz.prog 41 [(A5 1 D.str (a0.A4.getD s2.toNat default).Exit),(A5 1 D.str (a1.A4.getD s2.toNat default).Exit)] (.bool x13.2)) (.fin 0)))) (by intro x13 h;obtain⟨r13_0,h1,h⟩:=Option.bind_eq_some_iff.1 h;obtain⟨r13_1,h2,h⟩:=Option.bind_eq_some_iff.1 h;cases h;exact⟨fun g=>p41 (by rw[if_pos g]at h1;exact h1),fun g=>p41 (by rw[if_pos g]at h2;exact h2),trivial⟩) (fun x13 _=>(.ite (((((((a0.A4.getD s2.toNat default).Name != (a1.A4.getD s2.toNat default).Name) || ((a0.A4.getD s2.toNat default).Al != (a1.A4.getD s2.toNat default).Al)) || ((a0.A4.getD s2.toNat default).B0 != (a1.A4.getD s2.toNat default).B0)) || ((a0.A4.getD s2.toNat default).Aw != (a1.A4.getD s2.toNat default).Aw)) || (!x13.1)) || (!x13.2)) (.ret .ret ⟨[(4,(aB false))],[],[],3168⟩ (.inr (.inr (false))) ⟨rfl,rfl,rfl,_,Weak.refl _,dr⟩) (.ret .normal ⟨[(2,(.ptr 16 0)),(3,(.ptr 32 0)),(80,(aI (a0.A4.length:Int))),(81,(aI (IntKind.wrap .i64 (s2+1))))],(Jm a0 a1),[],3184⟩ (.inl (IntKind.wrap .i64 (s2+1))) ⟨rfl,(wk (Aj [16,32]) [])⟩)))))))) (.ret (.exit 2) _ (.inr (.inl ())) ⟨rfl,rfl,Weak.refl _⟩))))))) fun _=>(.sc (fun(_:Unit)=>⟨[],[],[],3056⟩) (.sq 1 [] [(0,[2,3,139,140],[16,32])] (fun(_:Unit)=>⟨[(2,(.ptr 16 0)),(3,(.ptr 32 0)),(139,(aI (a0.A0.length:Int))),(140,(aI 0))],(Jm a0 a1),[],2288⟩) (.nx ()) (fun _=>(.bk (.lp (fun(s3:Int)=>⟨[(2,(.ptr 16 0)),(3,(.ptr 32 0)),(139,(aI (a0.A0.length:Int))),(140,(aI s3))],(Jm a0 a1),[],3040⟩) (0:Int) (wk (Aj [16,32]) []) fun s3=>(.sg [(20,⟨Bool×Bool,fun x=>[(170,(.bool x.1)),(178,(.bool x.2))],fun x=>[],[]⟩)] [(1,[4],[]),(0,[2,3,139,140],[16,32]),(6,[],[])] (.ite (decide (s3 < (a0.A0.length:Int))) (nd (0≤s3) (nd (s3 < (a0.A0.length:Int)) (nd (0≤s3) (nd (s3 < (a1.A0.length:Int)) (.exi (Bool×Bool) ((if(!(((a0.A0.getD s3.toNat default).From != (a1.A0.getD s3.toNat default).From) || ((a0.A0.getD s3.toNat default).To != (a1.A0.getD s3.toNat default).To)))=true then Xn (a0.A0.getD s3.toNat default).When (a1.A0.getD s3.toNat default).When else some default).bind fun r20_0=>((if(!((((a0.A0.getD s3.toNat default).From != (a1.A0.getD s3.toNat default).From) || ((a0.A0.getD s3.toNat default).To != (a1.A0.getD s3.toNat default).To)) || (!r20_0)))=true then Qi (a0.A0.getD s3.toNat default).B9 (a1.A0.getD s3.toNat default).B9 else some default).bind fun r20_1=>some (r20_0,r20_1))) (fun x20=>(.g (!(((a0.A0.getD s3.toNat default).From != (a1.A0.getD s3.toNat default).From) || ((a0.A0.getD s3.toNat default).To != (a1.A0.getD s3.toNat default).To))) (Aa Tryz.prog 84 [(A5 2 Ax (a0.A0.getD s3.toNat default).When),(A5 2 Ax (a1.A0.getD s3.toNat default).When)] (.bool x20.1)) (.g (!((((a0.A0.getD s3.toNat default).From != (a1.A0.getD s3.toNat default).From) || ((a0.A0.getD s3.toNat default).To != (a1.A0.getD s3.toNat default).To)) || (!x20.1))) (Aa Tryz.prog 41 [(A5 1 D.str (a0.A0.getD s3.toNat default).B9),(A5 1 D.str (a1.A0.getD s3.toNat default).B9)] (.bool x20.2)) (.fin 0)))) (by intro x20 h;obtain⟨r20_0,h1,h⟩:=Option.bind_eq_some_iff.1 h;obtain⟨r20_1,h2,h⟩:=Option.bind_eq_some_iff.1 h;cases h;exact⟨fun g=>p84 (by rw[if_pos g]at h1;exact h1),fun g=>p41 (by rw[if_pos g]at h2;exact h2),trivial⟩) (fun x20 _=>(.ite (((((a0.A0.getD s3.toNat default).From != (a1.A0.getD s3.toNat default).From) || ((a0.A0.getD s3.toNat default).To != (a1.A0.getD s3.toNat default).To)) || (!x20.1)) || (!x20.2)) (.ret .ret ⟨[(4,(aB false))],[],[],3776⟩ (.inr (.inr (false))) ⟨rfl,rfl,rfl,_,Weak.refl _,dr⟩) (.ret .normal ⟨[(2,(.ptr 16 0)),(3,(.ptr 32 0)),(139,(aI (a0.A0.length:Int))),(140,(aI (IntKind.wrap .i64 (s3+1))))],(Jm a0 a1),[],3792⟩ (.inl (IntKind.wrap .i64 (s3+1))) ⟨rfl,(wk (Aj [16,32]) [])⟩)))))))) (.ret (.exit 4) _ (.inr (.inl ())) ⟨rfl,rfl,Weak.refl _⟩))))))) fun _=>(.sg [] [(1,[4],[])] (.ret .ret ⟨[(4,(aB true))],[],[],3072⟩ true ⟨rfl,_,Weak.refl _,dr⟩)))))))
noncomputable def yq (a0 a1:A7):Option (Bool):=(d37 a0 a1).m
theorem p37 {a0:A7} {a1:A7} {r:Bool} (h:yq a0 a1=some r):Aa Tryz.prog 37 [(B6 a0),(B6 a1)] (.bool r):=Ar (d37 a0 a1) Tryz.func37 h
noncomputable def d10 (a0:A7):JF Tryz.prog Tryz.f10 [(B6 a0)] (fun(r:Bool)=>(.bool r)) :=
 (.sg [(1,Bd 7 D.bool),(3,Bd 10 B6),(4,Bd 13 (fun(x:(A7×Int))=>(.tup [(B6 x.1),(dI x.2)]))),(5,Bd 18 (fun(x:(A7×Int))=>(.tup [(B6 x.1),(dI x.2)]))),(6,⟨Bool×Int,fun x=>[(27,(.bool x.1)),(34,(dI x.2))],fun x=>[],[]⟩)] [(1,[2],[])] (c3 (@p13) fun x1=>(.ite (!x1) (.ret .ret ⟨[(2,(aB false))],[],[],96⟩ false ⟨rfl,_,Weak.refl _,dr⟩) (c3 (@p14 a0) fun x3=>(c3 (@p35 x3) fun x4=>(c3 (@p36 x3) fun x5=>(.exi (Bool×Int) ((if(x4.2==x5.2)=true then yq x4.1 x5.1 else some default).bind fun r6_0=>((if(((x4.2==x5.2)&&r6_0)&&(!(x4.2 != 0)))=true then zk x4.1 else some default).bind fun r6_1=>some (r6_0,r6_1))) (fun x6=>(.g (x4.2==x5.2) (Aa Tryz.prog 37 [(B6 x4.1),(B6 x5.1)] (.bool x6.1)) (.g (((x4.2==x5.2)&&x6.1)&&(!(x4.2 != 0))) (Aa Tryz.prog 38 [(B6 x4.1)] (dI x6.2)) (.fin 0)))) (by intro x6 h;obtain⟨r6_0,h1,h⟩:=Option.bind_eq_some_iff.1 h;obtain⟨r6_1,h2,h⟩:=Option.bind_eq_some_iff.1 h;cases h;exact⟨fun g=>p37 (by rw[if_pos g]at h1;exact h1),fun g=>rb (by rw[if_pos g]at h2;exact h2),trivial⟩) (fun x6 _=>(.ret .ret ⟨[(2,(aB (((x4.2==x5.2)&&x6.1)&&((x4.2 != 0) || (x6.2==0)))))],[],[],672⟩ (((x4.2==x5.2)&&x6.1)&&((x4.2 != 0) || (x6.2==0))) ⟨rfl,_,Weak.refl _,dr⟩)))))))))
noncomputable def m10 (a0:A7):Option (Bool):=(d10 a0).m
theorem p10 {a0:A7} {r:Bool} (h:m10 a0=some r):Aa Tryz.prog 10 [(B6 a0)] (.bool r):=Ar (d10 a0) Tryz.func10 h
end Go.Av
namespace Go.Av
def Be {Y:Type} (f:Nat→Option Y) (n:Nat):Option Y:=(List.range n).findSome? f
theorem Ls {Y:Type} {f:Nat→Option Y} {n:Nat}:Be f (n+1)=match Be f n with | some y=>some y | none=>f n:=by
 unfold Be
 rw[List.range_succ,List.findSome?_append]
 cases (List.range n).findSome? f with
 | some y=>rfl
 | none=>simp
theorem firstR_none {Y:Type} {f:Nat→Option Y} {n:Nat}:Be f n=none↔∀ i,i < n→f i=none:=by
 unfold Be
 rw[List.findSome?_eq_none_iff]
 exact⟨fun h i hi=>h i (List.mem_range.2 hi),fun h i hi=>h i (List.mem_range.1 hi)⟩
theorem Di {Y:Type} {f:Nat→Option Y} {n:Nat} {y:Y} (h:Be f n=some y):∃ i,i < n∧f i=some y:=by
 unfold Be at h
 obtain⟨i,hi,h⟩:=List.exists_of_findSome?_eq_some h
 exact⟨i,List.mem_range.1 hi,h⟩
theorem firstR_at {Y:Type} {f:Nat→Option Y} {n i:Nat} {y:Y} (hi:i < n) (h0:∀ j,j < i→f j=none) (h:f i=some y):Be f n=some y:=by
 induction n with
 | zero=>omega
 | succ n ih =>
  rw[Ls]
  by_cases hn:i < n
  ·rw[ih hn]
  ·obtain rfl:i=n:=by omega
   rw[firstR_none.2 h0,h]
def Bo (F:Nat→Bool) (n:Nat):Bool:=(List.range n).any F
theorem anyR_iff {F:Nat→Bool} {n:Nat}:Bo F n=true↔∃ i,i < n∧F i=true:=by
 simp only[Bo,List.any_eq_true,List.mem_range]
theorem anyR_false {F:Nat→Bool} {n:Nat}:Bo F n=false↔∀ i,i < n→F i=false:=by
 rw[← Bool.not_eq_true,anyR_iff]
 exact⟨fun h i hi=>by cases hf:F i with | false=>rfl | true=>exact absurd ⟨i,hi,hf⟩ h,fun h ⟨i,hi,hf⟩=>by rw[h i hi]at hf;cases hf⟩
theorem Nd {F G:Nat→Bool} {n:Nat} (h:∀ i,i < n→F i=G i):Bo F n=Bo G n:=by
 rw[Bool.eq_iff_iff,anyR_iff,anyR_iff]
 exact⟨fun⟨i,hi,hf⟩=>⟨i,hi,by rw[← h i hi];exact hf⟩,fun⟨i,hi,hf⟩=>⟨i,hi,by rw[h i hi];exact hf⟩⟩
theorem Zg {Y:Type} {F:Nat→Bool} {g:Nat→Y} {n:Nat}:(Be (fun i=>if F i=true then some (g i)else none) n).isSome=Bo F n:=by
 rw[Bool.eq_iff_iff,anyR_iff,Option.isSome_iff_ne_none,ne_eq,firstR_none]
 constructor
 ·intro h
  apply Classical.byContradiction
  intro hn
  exact h fun i hi=>by
   rw[if_neg]
   exact fun hf=>hn ⟨i,hi,hf⟩
 ·rintro⟨i,hi,hf⟩ h
  have:=h i hi
  rw[if_pos hf]at this;cases this
theorem Co {Y:Type} {F:Nat→Bool} {y:Y} {n:Nat}:Be (fun i=>if F i=true then some y else none) n=if Bo F n=true then some y else none:=by
 rw[← Zg (g:=fun _=>y)]
 cases h:Be (fun i=>if F i=true then some y else none) n with
 | none=>rfl
 | some z =>
  obtain⟨i,_,h⟩:=Di h
  split at h
  ·injection h with h;subst h;rfl
  ·cases h
def Do (F:Nat→Bool) (n:Nat):Int:=(Be (fun i=>if F i=true then some (i:Int)else none) n).getD (-1)
theorem Ki {F:Nat→Bool} {n:Nat}:decide (0≤Do F n)=Bo F n:=by
 rw[← Zg (g:=fun i=>(i:Int))]
 unfold Do
 cases h:Be (fun i=>if F i=true then some (i:Int)else none) n with
 | none=>rfl
 | some y =>
  obtain⟨i,_,h⟩:=Di h
  split at h
  ·injection h with h;subst h;simp
  ·cases h
def K7 {R:Type} (o k:Option R):Option R:=match o with
 | some y=>some y
 | none=>k
theorem Ht {R:Type} {y:R} {k:Option R}:K7 (some y) k=some y:=rfl
theorem Ek {R:Type} {k:Option R}:K7 none k=k:=rfl
theorem rc {R:Type} {p:Prop} [Decidable p] {a b k:Option R}:K7 (if p then a else b) k=if p then K7 a k else K7 b k:=by split<;>rfl
theorem Hg {R:Type} {a:Option R} {d:R}:K7 a (some d)=some (a.getD d):=by cases a<;>rfl
theorem Ox {R:Type} {o k:Option R} (h:∃ y,k=some y):∃ y,K7 o k=some y:=by
 cases o with
 | some y=>exact⟨y,rfl⟩
 | none=>exact h
theorem Fx {R:Type} {p:Prop} [Decidable p] {y:R} {k:Option R} (h:∃ y,k=some y):∃ z,(if p then some y else k)=some z:=by
 split
 ·exact⟨y,rfl⟩
 ·exact h
def Qf {S R:Type} (o:Option R) (s:S):Option (S⊕(Unit⊕R)):=match o with
 | some y=>some (.inr (.inr y))
 | none=>some (.inl s)
theorem Bx {S R:Type} {y:R} {s:S}:Qf (some y) s=some (.inr (.inr y)):=rfl
theorem Br {S R:Type} {s:S}:Qf (none:Option R) s=some (.inl s):=rfl
theorem C2 {S R:Type} {p:Prop} [Decidable p] {a b:Option R} {s:S}:Qf (if p then a else b) s=if p then Qf a s else Qf b s:=by split<;>rfl
theorem Lj {α:Type} {p:Prop} [Decidable p] {a b:α}:some (if p then a else b)=if p then some a else some b:=by split<;>rfl
theorem O5 {R:Type} {b:Int→Option (Int⊕(Unit⊕R))} (n:Nat) (f:Nat→Option R) (hb:∀ i:Nat,i < n→b i=Qf (f i) ((i:Int)+1)) (hd:b n=some (.inr (.inl ()))) :
  ∀ (k i0:Nat),i0+k=n→(∀ i,i < i0→f i=none)→Bl b i0=match Be f n with | some y=>some (.inr y) | none=>some (.inl ())
 | 0,i0,hk,h0=>by
  obtain rfl:i0=n:=by omega
  rw[Cd,hd,firstR_none.2 h0];rfl
 | k+1,i0,hk,h0=>by
  rw[Cd,hb i0 (by omega)]
  cases hf:f i0 with
  | some y=>rw[firstR_at (by omega) h0 hf];rfl
  | none =>
   have:=O5 n f hb hd k (i0+1) (by omega) (fun i hi=>by
    by_cases h:i < i0
    ·exact h0 i h
    ·obtain rfl:i=i0:=by omega
     exact hf)
   rw[Br]
   simpa using this
theorem D4 {R:Type} {b:Int→Option (Int⊕(Unit⊕R))} {k:Unit→Option R} (n:Nat) (f:Nat→Option R) (hb:∀ i:Nat,i < n→b i=Qf (f i) ((i:Int)+1)) (hd:b n=some (.inr (.inl ()))) :
  (Bl b 0).bind (As k)=K7 (Be f n) (k ()):=by
 have:=O5 n f hb hd n 0 (by omega) (fun i hi=>by omega)
 rw[show ((0:Nat):Int)=0 from rfl]at this
 rw[this]
 cases Be f n<;>rfl
theorem loop_ex0 {R:Type} {b:Int→Option (Int⊕(Unit⊕R))} (n:Nat) (f:Nat→Option R) (hb:∀ i:Nat,i < n→b i=Qf (f i) ((i:Int)+1)) (hd:b n=some (.inr (.inl ()))) :
  Bl b 0=match Be f n with | some y=>some (.inr y) | none=>some (.inl ()):=O5 n f hb hd n 0 (by omega) (fun i hi=>by omega)
theorem Je {R:Type} {b:Int→Option (Int⊕(Unit⊕R))} {k:Unit→Option R} (n:Nat) (f:Nat→Option R) (hb:∀ i:Nat,i < n→b i=Qf (f i) ((i:Int)+1)) (hd:b n=some (.inr (.inl ()))) {z:Option R} (hk:k ()=z) :
  (Bl b 0).bind (As k)=K7 (Be f n) z:=by rw[D4 n f hb hd,hk]
theorem Oy {R:Type} {b:Int→Option (Int⊕(Unit⊕R))} {k:Unit→Option R} (n:Nat) (hb:∀ i:Nat,i < n→b i=some (.inl ((i:Int)+1))) (hd:b n=some (.inr (.inl ()))) {z:Option R} (hk:k ()=z) :
  (Bl b 0).bind (As k)=z:=by
 rw[Je n (fun _=>none) hb hd hk,firstR_none.2 fun _ _=>rfl];rfl
theorem Ds {α:Type} {p:Prop} [Decidable p] {a b b':α} (h:b=b'):(if p then a else b)=if p then a else b':=by rw[h]
theorem bind_to {α β:Type} {m:Option α} {x:α} {f:α→Option β} {z:Option β} (h:m=some x) (hf:f x=z):m.bind f=z:=by rw[h];exact hf
theorem J9 {α β:Type} {m m':Option α} {f:α→Option β} {z:Option β} (h:m=m') (h2:m'.bind f=z):m.bind f=z:=by rw[h];exact h2
theorem E2 {Y R:Type} {m:Option (Y⊕R)} {y:Y} {f:Y→Option R} {z:Option R} (h:m=some (.inl y)) (hf:f y=z):m.bind (As f)=z:=by rw[h];exact hf
theorem F8 {A:Type} (g:Nat→List A) (n:Nat):(List.range (n+1)).flatMap g=(List.range n).flatMap g++g n:=by rw[List.range_succ,List.flatMap_append];simp
theorem E9 {A St X:Type} {b:St→Option (St⊕X)} (n:Nat) (mk:Nat→List A→St) (g:Nat→List A) (out:List A→X)
  (hs:∀ i,i < n→b (mk i ((List.range i).flatMap g))=some (.inl (mk (i+1) ((List.range i).flatMap g++g i)))) (he:b (mk n ((List.range n).flatMap g))=some (.inr (out ((List.range n).flatMap g)))) :
  Bl b (mk 0 [])=some (out ((List.range n).flatMap g)):=by
 have key:∀ k i,i+k=n→Bl b (mk i ((List.range i).flatMap g))=some (out ((List.range n).flatMap g)):=by
  intro k
  induction k with
  | zero =>
   intro i hk
   obtain rfl:i=n:=by omega
   rw[Cd,he];rfl
  | succ k ih =>
   intro i hk
   rw[Cd,hs i (by omega),← F8]
   exact ih (i+1) (by omega)
 exact key n 0 (by omega)
theorem Bh {A:Type} {g:Nat→List A} {m:Nat} (h:∀ i,(g i).length≤m):∀ n,((List.range n).flatMap g).length≤n * m
 | 0=>by simp
 | n+1=>by
  have:=Bh h n
  have:=h n
  rw[F8,List.length_append,Nat.succ_mul];omega
theorem D7 {i n:Nat} (h:i < n) (hn:n≤4611686018427387904):IntKind.wrap .i64 ((i:Int)+1)=(i:Int)+1:=El (by omega) (by omega)
theorem Bb {n:Nat}:¬ ((n:Int) < (n:Int)):=Int.lt_irrefl _
theorem Pn {α:Type} [Inhabited α] {l:List α} {k j:Nat} (h:j < k):(At l 0 k).getD j default=l.getD j default:=by
 simp[At,List.getD_eq_getElem?_getD,List.getElem?_range h]
theorem C3 {i:Nat} {n:Nat} (h:i < n):((0:Int)≤(i:Int))=True∧((i:Int) < (n:Int))=True∧(decide ((i:Int) < (n:Int))=true)=True:=by
 refine⟨eq_true (by omega),eq_true (by omega),eq_true (by simpa using h)⟩
end Go.Av
set_option maxRecDepth 100000
namespace Go.Av.Ch
def sw (c:Int):Bool:=(decide (c < 65) || decide (90 < c))&&(decide (c < 48) || decide (57 < c))
def z8 (s:List UInt8):Bool:=decide (s.length=0) || decide (8 < s.length) || decide (Bu s 0 < 65) || decide (90 < Bu s 0)
def nm (s:List UInt8):Bool:=!z8 s&&!Bo (fun i=>sw (Bu s i)) s.length
theorem pn {s:List UInt8} (hl:s.length≤8) {b:Int→Option (Int⊕(Unit⊕Bool))} (hb:∀ i:Nat,i < s.length→b i=Qf (if sw (Bu s i)=true then some false else none) ((i:Int)+1)) (hd:b s.length=some (.inr (.inl ()))) :
  (Bl b 0).bind (As fun _=>some true)=some (!Bo (fun i=>sw (Bu s i)) s.length):=by
 rw[D4 s.length _ hb hd,Co]
 cases Bo (fun i=>sw (Bu s i)) s.length<;>rfl
theorem nm_rname (s:List UInt8):m130 s 8=some (nm s):=by
 have e0:(((s.length:Int)==(0:Int)) || (decide ((8:Int) < (s.length:Int))))=(decide (s.length=0) || decide (8 < s.length)):=by
  rw[Bool.eq_iff_iff];simp only[Bool.or_eq_true,decide_eq_true_eq,beq_iff_eq];omega
 delta m130 d130
 simp only[↓JD.sg_m,↓JD.sq_m,↓JD.sc_m,↓JD.bk_m,↓JD.lp_m,↓JD.cd_m,↓JD.lu_m,↓JD.ct_m,↓JD.ce_m,↓JL.r_m,↓JL.z_m,↓JD.se_m,Bi,↓Tr.run,↓Tr.run_nd,↓Tr.run_c3,↓Tr.run_c2,↓Tr.run_nx,↓As,Ao,Option.bind_some,Option.bind_none,Ca,e0,Int.toNat_zero,Int.le_refl,implies_true,if_true]
 cases h1:(decide (s.length=0) || decide (8 < s.length)) with
 | true=>simp only[Bool.true_or,Bool.not_true,Bool.false_eq_true,false_implies,if_true,nm,z8,h1,Bool.false_and]
 | false =>
  have hl:s.length≤8∧0 < s.length:=by simp only[Bool.or_eq_false_iff,decide_eq_false_iff_not]at h1;omega
  have z2:(0:Int) < s.length:=by omega
  simp only[Bool.false_or,z2,implies_true,if_true,nm,z8,h1]
  cases h2:(decide (Bu s 0 < 65) || decide (90 < Bu s 0)) with
  | true=>rfl
  | false =>
   simp only[Bool.false_eq_true,if_false,Bool.not_false,Bool.true_and]
   refine pn hl.1 (fun i hi=>?_) ?_
   ·(simp only[C2,Bx,Br];simp only[C3 hi,decide_true,Int.toNat_natCast,if_true,implies_true,D7 hi (by omega)];try rfl)
   ·(simp only[Bb,decide_false,Bool.false_eq_true,if_false];try rfl)
theorem Oz (s:List UInt8):m116 s 8=some (nm s):=by
 have e0:(decide ((s.length:Int) < (1:Int)) || (decide ((8:Int) < (s.length:Int))))=(decide (s.length=0) || decide (8 < s.length)):=by
  rw[Bool.eq_iff_iff];simp only[Bool.or_eq_true,decide_eq_true_eq];omega
 delta m116 d116
 simp only[↓JD.sg_m,↓JD.sq_m,↓JD.sc_m,↓JD.bk_m,↓JD.lp_m,↓JD.cd_m,↓JD.lu_m,↓JD.ct_m,↓JD.ce_m,↓JL.r_m,↓JL.z_m,↓JD.se_m,Bi,↓Tr.run,↓Tr.run_nd,↓Tr.run_c3,↓Tr.run_c2,↓Tr.run_nx,↓As,Ao,Option.bind_some,Option.bind_none,Ca,e0,Int.toNat_zero,Int.le_refl,implies_true,if_true]
 cases h1:(decide (s.length=0) || decide (8 < s.length)) with
 | true=>simp only[Bool.true_or,Bool.not_true,Bool.false_eq_true,false_implies,if_true,nm,z8,h1,Bool.false_and]
 | false =>
  have hl:s.length≤8∧0 < s.length:=by simp only[Bool.or_eq_false_iff,decide_eq_false_iff_not]at h1;omega
  have z2:(0:Int) < s.length:=by omega
  simp only[Bool.false_or,z2,implies_true,if_true,nm,z8,h1]
  cases h2:(decide (Bu s 0 < 65) || decide (90 < Bu s 0)) with
  | true=>rfl
  | false =>
   simp only[Bool.false_eq_true,if_false,Bool.not_false,Bool.true_and]
   refine pn hl.1 (fun i hi=>?_) ?_
   ·(simp only[C2,Bx,Br];simp only[C3 hi,decide_true,Int.toNat_natCast,if_true,implies_true,D7 hi (by omega)];try rfl)
   ·(simp only[Bb,decide_false,Bool.false_eq_true,if_false];try rfl)
theorem Zn (s:List UInt8):pu s=some (nm s):=by
 delta pu d85
 simp only[↓JD.sg_m,↓JD.sq_m,↓JD.sc_m,↓JD.bk_m,↓JD.lp_m,↓JD.cd_m,↓JD.lu_m,↓JD.ct_m,↓JD.ce_m,↓JL.r_m,↓JL.z_m,↓JD.se_m,Bi,↓Tr.run,↓Tr.run_nd,↓Tr.run_c3,↓Tr.run_c2,↓Tr.run_nx,↓As,Ao,Option.bind_some,Option.bind_none,Ca,nm_rname]
def Df {α:Type} [BEq α] [Inhabited α] (l:List α) (k:Nat) (x:α):Bool:=Bo (fun i=>x==l.getD i default) k
theorem hasK_sub {α:Type} [BEq α] [Inhabited α] {l:List α} {k:Nat} {x:α}:Df (At l 0 k) k x=Df l k x:=Nd fun i hi=>by rw[Pn hi]
theorem hasK_iff {α:Type} [BEq α] [LawfulBEq α] [Inhabited α] {l:List α} {x:α}:Df l l.length x=true↔x∈l:=by
 unfold Df
 rw[anyR_iff]
 constructor
 ·rintro⟨i,hi,h⟩
  rw[eq_of_beq h];exact Bj hi
 ·intro h
  obtain⟨i,hi,h⟩:=List.getElem_of_mem h
  exact⟨i,hi,by simp[List.getD_eq_getElem?_getD,List.getElem?_eq_getElem hi,h]⟩
theorem Jy {n:Nat} {F:Nat→Bool} {b:Int→Option (Int⊕(Unit⊕Int))} (hb:∀ i:Nat,i < n→b i=Qf (if F i=true then some (i:Int)else none) ((i:Int)+1)) (hd:b n=some (.inr (.inl ()))) :
  (Bl b 0).bind (As fun _=>some (-1))=some (Do F n):=by
 rw[D4 n _ hb hd,Hg];rfl
theorem lz (l:List (List UInt8)) (x:List UInt8) (hl:l.length≤100000):si l x=some (Df l l.length x):=by
 have e:m162 l x=some (Do (fun i=>x==l.getD i default) l.length):=by
  delta m162 d162
  simp only[↓JD.sg_m,↓JD.sq_m,↓JD.sc_m,↓JD.bk_m,↓JD.lp_m,↓JD.cd_m,↓JD.lu_m,↓JD.ct_m,↓JD.ce_m,↓JL.r_m,↓JL.z_m,↓JD.se_m,Bi,↓Tr.run,↓Tr.run_nd,↓Tr.run_c3,↓Tr.run_c2,↓Tr.run_nx,↓As,Ao,Option.bind_some,Option.bind_none,Ca]
  refine Jy (fun i hi=>?_) ?_
  ·(simp only[C2,Bx,Br];simp only[C3 hi,decide_true,Int.toNat_natCast,if_true,implies_true,D7 hi (by omega)];try rfl)
  ·(simp only[Bb,decide_false,Bool.false_eq_true,if_false];try rfl)
 delta si d131
 simp only[↓JD.sg_m,↓JD.sq_m,↓JD.sc_m,↓JD.bk_m,↓JD.lp_m,↓JD.cd_m,↓JD.lu_m,↓JD.ct_m,↓JD.ce_m,↓JL.r_m,↓JL.z_m,↓JD.se_m,Bi,↓Tr.run,↓Tr.run_nd,↓Tr.run_c3,↓Tr.run_c2,↓Tr.run_nx,↓As,Ao,Option.bind_some,Option.bind_none,Ca,e,Ki,Df]
theorem ci (l:List Int) (x:Int) (hl:l.length≤100000):m101 l x=some (Do (fun i=>x==l.getD i default) l.length):=by
 delta m101 d101
 simp only[↓JD.sg_m,↓JD.sq_m,↓JD.sc_m,↓JD.bk_m,↓JD.lp_m,↓JD.cd_m,↓JD.lu_m,↓JD.ct_m,↓JD.ce_m,↓JL.r_m,↓JL.z_m,↓JD.se_m,Bi,↓Tr.run,↓Tr.run_nd,↓Tr.run_c3,↓Tr.run_c2,↓Tr.run_nx,↓As,Ao,Option.bind_some,Option.bind_none,Ca]
 refine Jy (fun i hi=>?_) ?_
 ·(simp only[C2,Bx,Br];simp only[C3 hi,decide_true,Int.toNat_natCast,if_true,implies_true,D7 hi (by omega)];try rfl)
 ·(simp only[Bb,decide_false,Bool.false_eq_true,if_false];try rfl)
theorem Hf (l:List Int) (x:Int) (hl:l.length≤100000):Xe l x=some (Df l l.length x):=by
 delta Xe d49
 simp only[↓JD.sg_m,↓JD.sq_m,↓JD.sc_m,↓JD.bk_m,↓JD.lp_m,↓JD.cd_m,↓JD.lu_m,↓JD.ct_m,↓JD.ce_m,↓JL.r_m,↓JL.z_m,↓JD.se_m,Bi,↓Tr.run,↓Tr.run_nd,↓Tr.run_c3,↓Tr.run_c2,↓Tr.run_nx,↓As,Ao,Option.bind_some,Option.bind_none,Ca,ci l x hl,Ki,Df]
theorem f9 (l:List Int) (x:Int) (hl:l.length≤100000):W5 l x=some (Df l l.length x):=by
 delta W5 d129
 simp only[↓JD.sg_m,↓JD.sq_m,↓JD.sc_m,↓JD.bk_m,↓JD.lp_m,↓JD.cd_m,↓JD.lu_m,↓JD.ct_m,↓JD.ce_m,↓JL.r_m,↓JL.z_m,↓JD.se_m,Bi,↓Tr.run,↓Tr.run_nd,↓Tr.run_c3,↓Tr.run_c2,↓Tr.run_nx,↓As,Ao,Option.bind_some,Option.bind_none,Ca]
 rw[D4 l.length (fun i=>if(x==l.getD i default)=true then some true else none) ?_ ?_,Co,Df]
 ·cases Bo (fun i=>x==l.getD i default) l.length<;>rfl
 ·intro i hi
  (simp only[C2,Bx,Br];simp only[C3 hi,decide_true,Int.toNat_natCast,if_true,implies_true,D7 hi (by omega)];try rfl)
 ·(simp only[Bb,decide_false,Bool.false_eq_true,if_false];try rfl)
def Gf (l:List (List UInt8)) (i:Nat):Int:=if(!nm (l.getD i default))=true then 5 else if Df l i (l.getD i default)=true then 7 else 0
theorem dz (l:List (List UInt8)) (i:Nat) (hi:i < l.length) (hl:l.length≤100000):m86 l i=some (Gf l i):=by
 have e:=lz (At l 0 i) (l.getD i default) (by rw[Hl];omega)
 rw[Hl,hasK_sub]at e
 delta m86 d86
 simp only[↓JD.sg_m,↓JD.sq_m,↓JD.sc_m,↓JD.bk_m,↓JD.lp_m,↓JD.cd_m,↓JD.lu_m,↓JD.ct_m,↓JD.ce_m,↓JL.r_m,↓JL.z_m,↓JD.se_m,Bi,↓Tr.run,↓Tr.run_nd,↓Tr.run_c3,↓Tr.run_c2,↓Tr.run_nx,↓As,Ao,Option.bind_some,Option.bind_none,Ca,C3 hi,Int.toNat_natCast,if_true,Zn,e,Gf,Lj,show (i:Int)≤l.length by omega]
def Bc (c:A7) (l:List B7) (i:Nat):Option Int :=
 if(decide ((l.getD i default).Cond < 0) || decide ((c.Ag.length:Int)≤(l.getD i default).Cond))=true then some 2
 else if(decide ((0:Int) < (i:Int))&&decide ((l.getD i default).Cond≤(l.getD ((i:Int) - 1).toNat default).Cond))=true then some 9 else none
def Pu (c:A7) (l:List B7):Int:=(Be (Bc c l) l.length).getD 0
theorem V8 (c:A7) (l:List B7) (hl:l.length≤100000):m87 c l=some (Pu c l):=by
 delta m87 d87
 simp only[↓JD.sg_m,↓JD.sq_m,↓JD.sc_m,↓JD.bk_m,↓JD.lp_m,↓JD.cd_m,↓JD.lu_m,↓JD.ct_m,↓JD.ce_m,↓JL.r_m,↓JL.z_m,↓JD.se_m,Bi,↓Tr.run,↓Tr.run_nd,↓Tr.run_c3,↓Tr.run_c2,↓Tr.run_nx,↓As,Ao,Option.bind_some,Option.bind_none,Ca]
 rw[D4 l.length (Bc c l) ?_ ?_,Hg];rfl
 ·intro i hi
  have w1:IntKind.wrap .i64 ((i:Int) - 1)=(i:Int) - 1:=El (by omega) (by omega)
  have h3:=eq_true (show decide ((0:Int) < i)=true→(0:Int)≤(i:Int) - 1 from fun h=>by simp only[decide_eq_true_eq]at h;omega)
  have h4:=eq_true (show decide ((0:Int) < i)=true→(i:Int) - 1 < l.length from fun h=>by omega)
  unfold Bc
  (simp only[C2,Bx,Br];simp only[w1,h3,h4,C3 hi,decide_true,Int.toNat_natCast,if_true,implies_true,D7 hi (by omega)];try rfl)
 ·(simp only[Bb,decide_false,Bool.false_eq_true,if_false];try rfl)
theorem Sl (c:A7) (l:List B7) (hl:l.length≤100000):m117 c l=some (Pu c l):=by
 delta m117 d117
 simp only[↓JD.sg_m,↓JD.sq_m,↓JD.sc_m,↓JD.bk_m,↓JD.lp_m,↓JD.cd_m,↓JD.lu_m,↓JD.ct_m,↓JD.ce_m,↓JL.r_m,↓JL.z_m,↓JD.se_m,Bi,↓Tr.run,↓Tr.run_nd,↓Tr.run_c3,↓Tr.run_c2,↓Tr.run_nx,↓As,Ao,Option.bind_some,Option.bind_none,Ca]
 rw[D4 l.length (Bc c l) ?_ ?_,Hg];rfl
 ·intro i hi
  have w1:IntKind.wrap .i64 ((i:Int) - 1)=(i:Int) - 1:=El (by omega) (by omega)
  have h3:=eq_true (show decide ((0:Int) < i)=true→(0:Int)≤(i:Int) - 1 from fun h=>by simp only[decide_eq_true_eq]at h;omega)
  have h4:=eq_true (show decide ((0:Int) < i)=true→(i:Int) - 1 < l.length from fun h=>by omega)
  unfold Bc
  (simp only[C2,Bx,Br];simp only[w1,h3,h4,C3 hi,decide_true,Int.toNat_natCast,if_true,implies_true,D7 hi (by omega)];try rfl)
 ·(simp only[Bb,decide_false,Bool.false_eq_true,if_false];try rfl)
def L2 (l:List (List UInt8)):Int:=if decide ((8:Int) < (l.length:Int))=true then 3 else if Bo (fun i=>!nm (l.getD i default)) l.length=true then 5 else 0
theorem Wf {l:List (List UInt8)} (h:L2 l=0):l.length≤8:=by
 unfold L2 at h
 split at h
 ·cases h
 ·rename_i h1;simp only[decide_eq_true_eq]at h1;omega
theorem R6 (l:List (List UInt8)) (hl:l.length≤100000):m90 l=some (L2 l):=by
 have e:Yr l=some (Do (fun i=>!nm (l.getD i default)) l.length):=by
  delta Yr jt
  simp only[↓JD.sg_m,↓JD.sq_m,↓JD.sc_m,↓JD.bk_m,↓JD.lp_m,↓JD.cd_m,↓JD.lu_m,↓JD.ct_m,↓JD.ce_m,↓JL.r_m,↓JL.z_m,↓JD.se_m,Bi,↓Tr.run,↓Tr.run_nd,↓Tr.run_c3,↓Tr.run_c2,↓Tr.run_nx,↓As,Ao,Option.bind_some,Option.bind_none,Ca,kx,ka,Zn]
  refine Jy (fun i hi=>?_) ?_
  ·(simp only[C2,Bx,Br];simp only[C3 hi,decide_true,Int.toNat_natCast,if_true,implies_true,D7 hi (by omega)];try rfl)
  ·(simp only[Bb,decide_false,Bool.false_eq_true,if_false];try rfl)
 delta m90 d90
 simp only[↓JD.sg_m,↓JD.sq_m,↓JD.sc_m,↓JD.bk_m,↓JD.lp_m,↓JD.cd_m,↓JD.lu_m,↓JD.ct_m,↓JD.ce_m,↓JL.r_m,↓JL.z_m,↓JD.se_m,Bi,↓Tr.run,↓Tr.run_nd,↓Tr.run_c3,↓Tr.run_c2,↓Tr.run_nx,↓As,Ao,Option.bind_some,Option.bind_none,Ca,lx,na,e,Ki,L2,Lj]
theorem Pr (l:List (List UInt8)) (hl:l.length≤100000):m119 l=some (L2 l):=by
 delta m119 d119
 simp only[↓JD.sg_m,↓JD.sq_m,↓JD.sc_m,↓JD.bk_m,↓JD.lp_m,↓JD.cd_m,↓JD.lu_m,↓JD.ct_m,↓JD.ce_m,↓JL.r_m,↓JL.z_m,↓JD.se_m,Bi,↓Tr.run,↓Tr.run_nd,↓Tr.run_c3,↓Tr.run_c2,↓Tr.run_nx,↓As,Ao,Option.bind_some,Option.bind_none,Ca,Oz]
 rw[D4 l.length (fun i=>if(!nm (l.getD i default))=true then some 5 else none) ?_ ?_,Co]
 ·simp only[rc,Ht,Ek,L2,Lj]
 ·intro i hi
  (simp only[C2,Bx,Br];simp only[C3 hi,decide_true,Int.toNat_natCast,if_true,implies_true,D7 hi (by omega)];try rfl)
 ·(simp only[Bb,decide_false,Bool.false_eq_true,if_false];try rfl)
def Dc (c:A7) (x:Int):Bool:=Bo (fun i=>(c.A4.getD i default).Al==x) c.A4.length
theorem O0 (c:A7) (x:Int) (hl:c.A4.length≤100000):sm c x=some (Dc c x):=by
 have e:Yv c.A4 x=some (Do (fun i=>(c.A4.getD i default).Al==x) c.A4.length):=by
  delta Yv mm
  simp only[↓JD.sg_m,↓JD.sq_m,↓JD.sc_m,↓JD.bk_m,↓JD.lp_m,↓JD.cd_m,↓JD.lu_m,↓JD.ct_m,↓JD.ce_m,↓JL.r_m,↓JL.z_m,↓JD.se_m,Bi,↓Tr.run,↓Tr.run_nd,↓Tr.run_c3,↓Tr.run_c2,↓Tr.run_nx,↓As,Ao,Option.bind_some,Option.bind_none,Ca,jd,mq]
  refine Jy (fun i hi=>?_) ?_
  ·(simp only[C2,Bx,Br];simp only[C3 hi,decide_true,Int.toNat_natCast,if_true,implies_true,D7 hi (by omega)];try rfl)
  ·(simp only[Bb,decide_false,Bool.false_eq_true,if_false];try rfl)
 delta sm d103
 simp only[↓JD.sg_m,↓JD.sq_m,↓JD.sc_m,↓JD.bk_m,↓JD.lp_m,↓JD.cd_m,↓JD.lu_m,↓JD.ct_m,↓JD.ce_m,↓JL.r_m,↓JL.z_m,↓JD.se_m,Bi,↓Tr.run,↓Tr.run_nd,↓Tr.run_c3,↓Tr.run_c2,↓Tr.run_nx,↓As,Ao,Option.bind_some,Option.bind_none,Ca,nw,md,e,Ki,Dc]
theorem Mp (c:A7) (x:Int) (hl:c.A4.length≤100000):gt c x=some (Dc c x):=by
 delta gt d105
 simp only[↓JD.sg_m,↓JD.sq_m,↓JD.sc_m,↓JD.bk_m,↓JD.lp_m,↓JD.cd_m,↓JD.lu_m,↓JD.ct_m,↓JD.ce_m,↓JL.r_m,↓JL.z_m,↓JD.se_m,Bi,↓Tr.run,↓Tr.run_nd,↓Tr.run_c3,↓Tr.run_c2,↓Tr.run_nx,↓As,Ao,Option.bind_some,Option.bind_none,Ca]
 rw[D4 c.A4.length (fun i=>if((c.A4.getD i default).Al==x)=true then some true else none) ?_ ?_,Co,Dc]
 ·cases Bo (fun i=>(c.A4.getD i default).Al==x) c.A4.length<;>rfl
 ·intro i hi
  (simp only[C2,Bx,Br];simp only[C3 hi,decide_true,Int.toNat_natCast,if_true,implies_true,D7 hi (by omega)];try rfl)
 ·(simp only[Bb,decide_false,Bool.false_eq_true,if_false];try rfl)
def Bm (c:A7) (x:Int):Bool:=decide ((0:Int)≤x)&&decide (x < (c.A4.length:Int))
theorem Yy (c:A7) (x:Int):nr c x=some (Bm c x):=rfl
theorem isS_iff {c:A7} {x:Int}:Bm c x=true↔0≤x∧x < c.A4.length:=by simp[Bm]
def Dm (c:A7) (x y:Int):Bool:=Bm c x&&((c.A4.getD x.toNat default).Al==y)
theorem cy (c:A7) (x y:Int):fu c x y=some (Dm c x y):=by
 have h1:=eq_true (show (decide ((0:Int)≤x)&&decide (x < (c.A4.length:Int)))=true→(0:Int)≤x from fun h=>(isS_iff (c:=c).1 h).1)
 have h2:=eq_true (show (decide ((0:Int)≤x)&&decide (x < (c.A4.length:Int)))=true→x < (c.A4.length:Int) from fun h=>(isS_iff (c:=c).1 h).2)
 delta fu d159
 simp only[↓JD.sg_m,↓JD.sq_m,↓JD.sc_m,↓JD.bk_m,↓JD.lp_m,↓JD.cd_m,↓JD.lu_m,↓JD.ct_m,↓JD.ce_m,↓JL.r_m,↓JL.z_m,↓JD.se_m,Bi,↓Tr.run,↓Tr.run_nd,↓Tr.run_c3,↓Tr.run_c2,↓Tr.run_nx,↓As,Ao,Option.bind_some,Option.bind_none,Ca,h1,h2,if_true,Dm,Bm]
end Go.Av.Ch
set_option maxRecDepth 100000
namespace Go.Av.Ch
structure Fit (c:A7):Prop where
 conds:c.Ag.length≤1000
 never:c.Ai.length≤1000
 lits:∀ l∈c.Ai,l.length≤1000
 states:c.A4.length≤1000
 entry:∀ s∈c.A4,s.Az.length≤1000
 exit_:∀ s∈c.A4,s.Exit.length≤1000
 trans:c.A0.length≤1000
 when_:∀ t∈c.A0,t.When.length≤1000
 acts:∀ t∈c.A0,t.B9.length≤1000
def Hm (c:A7):List (List UInt8):=(List.range c.A4.length).flatMap fun i=>[(c.A4.getD i default).Name]
theorem Xj (c:A7):Hm c=(List.range c.A4.length).map fun i=>(c.A4.getD i default).Name:=(List.map_eq_flatMap ..).symm
theorem Z4 (c:A7):(Hm c).length=c.A4.length:=by rw[Xj];simp
theorem Py (c:A7) {i:Nat} (h:i < c.A4.length):(Hm c).getD i default=(c.A4.getD i default).Name:=by
 rw[Xj,List.getD_eq_getElem?_getD,List.getElem?_map,List.getElem?_range h];rfl
def Jj (c:A7) (i:Nat):Int :=
 if(decide ((c.A4.getD i default).Al < (-1:Int)) || decide ((i:Int)≤(c.A4.getD i default).Al))=true then 9
 else if((Dc c i&&!Dm c (c.A4.getD i default).B0 i) || (!Dc c i&&((c.A4.getD i default).B0 != (-1:Int))))=true then 2
 else if(!Dc c i&&(c.A4.getD i default).Aw)=true then 17
 else if(L2 (c.A4.getD i default).Az != 0)=true then L2 (c.A4.getD i default).Az
 else L2 (c.A4.getD i default).Exit
def Hv (c:A7) (i:Nat):Int:=if(Gf (Hm c) i != 0)=true then Gf (Hm c) i else Jj c i
theorem state_eq (c:A7) (H:Fit c) (i:Nat) (hi:i < c.A4.length):m88 c (Hm c) i=some (Hv c i):=by
 have hs:=H.states
 have he:=H.entry _ (Bj hi)
 have hx:=H.exit_ _ (Bj hi)
 have e1:=dz (Hm c) i (by rw[Z4];exact hi) (by rw[Z4];omega)
 delta m88 d88
 simp only[↓JD.sg_m,↓JD.sq_m,↓JD.sc_m,↓JD.bk_m,↓JD.lp_m,↓JD.cd_m,↓JD.lu_m,↓JD.ct_m,↓JD.ce_m,↓JL.r_m,↓JL.z_m,↓JD.se_m,Bi,↓Tr.run,↓Tr.run_nd,↓Tr.run_c3,↓Tr.run_c2,↓Tr.run_nx,↓As,Ao,Option.bind_some,Option.bind_none,Ca,C3 hi,e1,Int.toNat_natCast,if_true,O0 c _ (Nat.le_trans hs (by omega)),Yy,R6 _ (Nat.le_trans he (by omega)),R6 _ (Nat.le_trans hx (by omega)),Hv,Jj,Lj]
 refine Ds (Ds ?_)
 cases hc:Dc c i with
 | false=>simp only[Bool.false_and,Bool.not_false,Bool.true_and,Bool.false_or,Bool.false_eq_true,if_false,false_implies,if_true]
 | true =>
  have g1:=eq_true (show (!!Bm c (c.A4.getD i default).B0)=true→(0:Int)≤(c.A4.getD i default).B0 from fun h=>by simp only[Bool.not_not]at h;exact(isS_iff.1 h).1)
  have g2:=eq_true (show (!!Bm c (c.A4.getD i default).B0)=true→(c.A4.getD i default).B0 < (c.A4.length:Int) from fun h=>by simp only[Bool.not_not]at h;exact(isS_iff.1 h).2)
  simp only[if_true,Option.bind_some,g1,g2,Dm,bne,Bool.not_and,Bool.true_and,Bool.not_true,Bool.false_and,Bool.or_false,Bool.false_eq_true,if_false]
theorem z7 (c:A7) (H:Fit c) (i:Nat) (hi:i < c.A4.length):vy c i=some (Hv c i):=by
 have hs:=H.states
 have he:=H.entry _ (Bj hi)
 have hx:=H.exit_ _ (Bj hi)
 have hl:Gf (Hm c) i=if(!nm (c.A4.getD i default).Name)=true then 5 else if Bo (fun j=>(c.A4.getD j default).Name==(c.A4.getD i default).Name) i=true then 7 else 0:=by
  unfold Gf Df
  rw[Py c hi,Nd (G:=fun j=>(c.A4.getD j default).Name==(c.A4.getD i default).Name)]
  intro j hj
  rw[Py c (by omega),Bool.eq_iff_iff,beq_iff_eq,beq_iff_eq]
  exact⟨Eq.symm,Eq.symm⟩
 have hx2:vy c i=some (if(!nm (c.A4.getD i default).Name)=true then 5 else if Bo (fun j=>(c.A4.getD j default).Name==(c.A4.getD i default).Name) i=true then 7 else Jj c i):=by
  delta vy d118
  simp only[↓JD.sg_m,↓JD.sq_m,↓JD.sc_m,↓JD.bk_m,↓JD.lp_m,↓JD.cd_m,↓JD.lu_m,↓JD.ct_m,↓JD.ce_m,↓JL.r_m,↓JL.z_m,↓JD.se_m,Bi,↓Tr.run,↓Tr.run_nd,↓Tr.run_c3,↓Tr.run_c2,↓Tr.run_nx,↓As,Ao,Option.bind_some,Option.bind_none,Ca,C3 hi,Oz,Int.toNat_natCast,if_true,Mp c _ (Nat.le_trans hs (by omega)),cy,Pr _ (Nat.le_trans he (by omega)),Pr _ (Nat.le_trans hx (by omega)),Lj,show (i:Int)≤c.A4.length by omega]
  refine Ds ?_
  rw[D4 i (fun j=>if((c.A4.getD j default).Name==(c.A4.getD i default).Name)=true then some 7 else none) ?_ ?_,Co]
  ·simp only[rc,Ht,Ek,Jj,Lj]
   refine Ds (Ds ?_)
   cases hc:Dc c i with
   | false=>simp only[Bool.false_and,Bool.not_false,Bool.true_and,Bool.false_or,Bool.false_eq_true,if_false,Option.bind_some,if_true]
   | true =>
    cases hd:Dm c (c.A4.getD i default).B0 i<;>simp only[Bool.true_and,Bool.true_or,Bool.not_true,Bool.not_false,Bool.false_and,Bool.or_false,Bool.false_eq_true,if_false,Option.bind_some,if_true]
  ·intro j hj
   have j3:((j:Int) < (((At c.A4 0 i).length:Nat):Int)):=by rw[Hl];omega
   simp only[C2,Bx,Br]
   simp only[C3 hj,decide_true,j3,Int.toNat_natCast,if_true,Pn hj,D7 hj (by omega)]
  ·(simp only[Bb,decide_false,Bool.false_eq_true,if_false];try rfl)
 rw[hx2]
 unfold Hv
 rw[hl]
 split
 ·rfl
 ·split<;>rfl
def Lv (c:A7) (i:Nat):Option Int:=if(Gf c.Ag i != 0)=true then some (Gf c.Ag i)else none
def Px (c:A7) (i:Nat):Option Int:=if(((c.Ai.getD i default).length:Int)==0)=true then some 1 else if(Pu c (c.Ai.getD i default) != 0)=true then some (Pu c (c.Ai.getD i default))else none
def stF (c:A7) (i:Nat):Option Int:=if(Hv c i != 0)=true then some (Hv c i)else none
def trF (c:A7) (i:Nat):Option Int :=
 if((!Bm c (c.A0.getD i default).From) || (!Bm c (c.A0.getD i default).To))=true then some 2
 else if(Pu c (c.A0.getD i default).When != 0)=true then some (Pu c (c.A0.getD i default).When)
 else if(L2 (c.A0.getD i default).B9 != 0)=true then some (L2 (c.A0.getD i default).B9)else none
def C8 (c:A7):Option Int :=
 if(!nm c.Name)=true then some 5
 else if((c.A4.length:Int)==0)=true then some 6
 else if((((decide ((12:Int) < (c.Ag.length:Int))) || (decide ((16:Int) < (c.Ai.length:Int)))) || (decide ((40:Int) < (c.A4.length:Int)))) || (decide ((120:Int) < (c.A0.length:Int))))=true then some 3
 else K7 (Be (Lv c) c.Ag.length) (K7 (Be (Px c) c.Ai.length) (K7 (Be (stF c) c.A4.length) (if(!Bm c c.Start)=true then some 2 else K7 (Be (trF c) c.A0.length) (some 0))))
theorem Cz (c:A7):∃ e,C8 c=some e:=Fx (Fx (Fx (Ox (Ox (Ox (Fx (Ox ⟨0,rfl⟩)))))))
theorem Hk (c:A7) (H:Fit c):zk c=C8 c:=by
 have hcl:=H.conds
 have hnl:=H.never
 have hsl:=H.states
 have htl:=H.trans
 delta zk d38
 simp only[↓JD.sg_m,↓JD.sq_m,↓JD.sc_m,↓JD.bk_m,↓JD.lp_m,↓JD.cd_m,↓JD.lu_m,↓JD.ct_m,↓JD.ce_m,↓JL.r_m,↓JL.z_m,↓JD.se_m,Bi,↓Tr.run,↓Tr.run_nd,↓Tr.run_c3,↓Tr.run_c2,↓Tr.run_nx,↓As,Ao,Option.bind_some,Option.bind_none,Ca,Zn,Yy,C8]
 refine Ds (Ds (Ds (Je _ (Lv c) (fun i hi=>?_) (by (simp only[Bb,decide_false,Bool.false_eq_true,if_false];try rfl)) (Je _ (Px c) (fun i hi=>?_) (by (simp only[Bb,decide_false,Bool.false_eq_true,if_false];try rfl)) (E2 (E9 c.A4.length (fun i l=>(l,(i:Int))) (fun i=>[(c.A4.getD i default).Name]) Sum.inl (fun i hi=>?_) (by (simp only[Bb,decide_false,Bool.false_eq_true,if_false];try rfl))) (Je _ (stF c) (fun i hi=>?_) (by (simp only[Bb,decide_false,Bool.false_eq_true,if_false];try rfl)) (Ds (Je _ (trF c) (fun i hi=>?_) (by (simp only[Bb,decide_false,Bool.false_eq_true,if_false];try rfl)) rfl))))))))
 ·unfold Lv
  (simp only[C2,Bx,Br];simp only[dz c.Ag i hi (by omega),Option.bind_some,C3 hi,decide_true,Int.toNat_natCast,if_true,implies_true,D7 hi (by omega)];try rfl)
 ·have hl:=H.lits _ (Bj hi)
  unfold Px
  (simp only[C2,Bx,Br];simp only[V8 c _ (Nat.le_trans hl (by omega)),Option.bind_some,C3 hi,decide_true,Int.toNat_natCast,if_true,implies_true,D7 hi (by omega)];try rfl)
 ·have hl:=Bh (g:=fun i=>[(c.A4.getD i default).Name]) (m:=1) (fun i=>by simp) i
  have h3:(((List.range i).flatMap fun i=>[(c.A4.getD i default).Name]).length+1) * 16≤140737488355328:=by omega
  simp only[C3 hi,h3,Int.toNat_natCast,if_true,D7 hi (by omega)];rfl
 ·unfold stF
  have e:=state_eq c H i hi
  unfold Hm at e
  (simp only[C2,Bx,Br];simp only[e,Option.bind_some,C3 hi,decide_true,Int.toNat_natCast,if_true,implies_true,D7 hi (by omega)];try rfl)
 ·have hw:=H.when_ _ (Bj hi)
  have ha:=H.acts _ (Bj hi)
  unfold trF
  simp only[C2,Bx,Br]
  simp only[C3 hi,Yy,V8 c _ (Nat.le_trans hw (by omega)),R6 _ (Nat.le_trans ha (by omega)),Option.bind_some,decide_true,Int.toNat_natCast,if_true,D7 hi (by omega)]
  cases Bm c (c.A0.getD i default).From<;>simp only[Bool.not_true,Bool.not_false,Bool.false_eq_true,Bool.true_or,Bool.false_or,if_true,if_false,Option.bind_some]
theorem Mf (c:A7) (H:Fit c):m68 c=C8 c:=by
 have hcl:=H.conds
 have hnl:=H.never
 have hsl:=H.states
 have htl:=H.trans
 have isn:∀ x y:Int,((((decide (x < (0:Int))) || (decide ((c.A4.length:Int)≤x))) || (decide (y < (0:Int)))) || (decide ((c.A4.length:Int)≤y)))=((!Bm c x) || (!Bm c y)):=fun x y=>by
  rw[Bool.eq_iff_iff]
  simp only[Bm,Bool.or_eq_true,decide_eq_true_eq,Bool.not_eq_true',Bool.and_eq_false_iff,decide_eq_false_iff_not]
  omega
 have st:((decide (c.Start < (0:Int))) || (decide ((c.A4.length:Int)≤c.Start)))=!Bm c c.Start:=by
  rw[Bool.eq_iff_iff]
  simp only[Bm,Bool.or_eq_true,decide_eq_true_eq,Bool.not_eq_true',Bool.and_eq_false_iff,decide_eq_false_iff_not]
  omega
 delta m68 d68
 simp only[↓JD.sg_m,↓JD.sq_m,↓JD.sc_m,↓JD.bk_m,↓JD.lp_m,↓JD.cd_m,↓JD.lu_m,↓JD.ct_m,↓JD.ce_m,↓JL.r_m,↓JL.z_m,↓JD.se_m,Bi,↓Tr.run,↓Tr.run_nd,↓Tr.run_c3,↓Tr.run_c2,↓Tr.run_nx,↓As,Ao,Option.bind_some,Option.bind_none,Ca,Oz,st,C8]
 refine Ds (Ds (Ds (Je _ (Lv c) (fun i hi=>?_) (by (simp only[Bb,decide_false,Bool.false_eq_true,if_false];try rfl)) (Je _ (Px c) (fun i hi=>?_) (by (simp only[Bb,decide_false,Bool.false_eq_true,if_false];try rfl)) (Je _ (stF c) (fun i hi=>?_) (by (simp only[Bb,decide_false,Bool.false_eq_true,if_false];try rfl)) (Ds (Je _ (trF c) (fun i hi=>?_) (by (simp only[Bb,decide_false,Bool.false_eq_true,if_false];try rfl)) rfl)))))))
 ·unfold Lv Gf Df
  simp only[C3 hi,decide_true,Oz,Option.bind_some,Int.toNat_natCast,if_true,D7 hi (by omega),show (i:Int)≤c.Ag.length by omega]
  cases nm (c.Ag.getD i default) with
  | false=>rfl
  | true =>
   simp only[Bool.not_true,Bool.false_eq_true,if_false,Option.bind_some,Gn]
   rw[loop_ex0 i (fun j=>if(c.Ag.getD i default==c.Ag.getD j default)=true then some (.inr (.inr 7))else none) ?_ ?_,Co]
   ·cases Bo (fun j=>c.Ag.getD i default==c.Ag.getD j default) i<;>rfl
   ·intro j hj
    have j3:((j:Int) < (((At c.Ag 0 i).length:Nat):Int)):=by rw[Hl];omega
    simp only[C2,Bx,Br]
    simp only[C3 hj,decide_true,j3,Int.toNat_natCast,if_true,Pn hj,D7 hj (by omega)]
   ·(simp only[Bb,decide_false,Bool.false_eq_true,if_false];try rfl)
 ·have hl:=H.lits _ (Bj hi)
  unfold Px
  (simp only[C2,Bx,Br];simp only[Sl c _ (Nat.le_trans hl (by omega)),Option.bind_some,C3 hi,decide_true,Int.toNat_natCast,if_true,implies_true,D7 hi (by omega)];try rfl)
 ·unfold stF
  (simp only[C2,Bx,Br];simp only[z7 c H i hi,Option.bind_some,C3 hi,decide_true,Int.toNat_natCast,if_true,implies_true,D7 hi (by omega)];try rfl)
 ·have hw:=H.when_ _ (Bj hi)
  have ha:=H.acts _ (Bj hi)
  unfold trF
  simp only[C2,Bx,Br]
  simp only[isn,C3 hi,Sl c _ (Nat.le_trans hw (by omega)),Pr _ (Nat.le_trans ha (by omega)),Option.bind_some,decide_true,Int.toNat_natCast,if_true,D7 hi (by omega)]
  refine Ds ?_
  by_cases h0:Pu c (c.A0.getD i default).When=0
  ·simp only[h0,bne_self_eq_false,beq_self_eq_true,Bool.false_eq_true,if_true,if_false,Option.bind_some]
  ·have h1:(Pu c (c.A0.getD i default).When==0)=false:=by simpa using h0
   simp only[bne,h1,Bool.not_false,Bool.false_eq_true,if_true,if_false,Option.bind_some]
end Go.Av.Ch
set_option maxRecDepth 100000
namespace Go.Av.Ch
def Dn (c:A7) (s:Int):Bool:=decide ((c.A4.getD s.toNat default).Al < 0) || decide (s≤(c.A4.getD s.toNat default).Al)
def Gs (c:A7):Nat→Int→List Int
 | 0,_=>[]
 | n+1,s=>if Dn c s=true then[]else(c.A4.getD s.toNat default).Al :: Gs c n (c.A4.getD s.toNat default).Al
def Ab (c:A7) (s:Int):List Int:=if Bm c s=true then s :: Gs c s.toNat s else[]
theorem cp (c:A7):∀ n s,(Gs c n s).length≤n
 | 0,_=>by simp[Gs]
 | n+1,s=>by
  unfold Gs
  split
  ·simp
  ·have:=cp c n (c.A4.getD s.toNat default).Al
   simp only[List.length_cons];omega
theorem Dk (c:A7) (s:Int):(Ab c s).length≤c.A4.length:=by
 unfold Ab
 split
 ·rename_i h
  have:=isS_iff.1 h
  have:=cp c s.toNat s
  simp only[List.length_cons];omega
 ·simp
theorem Ef {c:A7} {s:Int} (h:Dn c s=false):0≤(c.A4.getD s.toNat default).Al∧(c.A4.getD s.toNat default).Al < s:=by
 simp only[Dn,Bool.or_eq_false_iff,decide_eq_false_iff_not]at h;omega
theorem Yg (c:A7):∀ n m s,0≤s→s.toNat≤n→s.toNat≤m→Gs c n s=Gs c m s:=by
 intro n
 induction n with
 | zero =>
  intro m s h0 hn hm
  cases m with
  | zero=>rfl
  | succ m =>
   unfold Gs
   cases ht:Dn c s with
   | true=>simp
   | false=>have:=Ef ht;omega
 | succ n ih =>
  intro m s h0 hn hm
  cases ht:Dn c s with
  | true =>
   cases m with
   | zero=>unfold Gs;simp[ht]
   | succ m=>unfold Gs;simp[ht]
  | false =>
   have:=Ef ht
   cases m with
   | zero=>omega
   | succ m =>
    unfold Gs
    simp only[ht,Bool.false_eq_true,if_false]
    rw[ih m _ this.1 (by omega) (by omega)]
theorem Cw {c:A7} {s:Int} (h:Bm c s=true):Ab c s=s :: if Dn c s=true then[]else Ab c (c.A4.getD s.toNat default).Al:=by
 have hs:=isS_iff.1 h
 unfold Ab
 rw[if_pos h,Yg c s.toNat (s.toNat+1) s hs.1 (Nat.le_refl _) (by omega)]
 congr 1
 show (if Dn c s=true then[]else(c.A4.getD s.toNat default).Al :: Gs c s.toNat (c.A4.getD s.toNat default).Al)=_
 cases ht:Dn c s with
 | true=>rfl
 | false =>
  have hp:=Ef ht
  simp only[Bool.false_eq_true,if_false]
  rw[if_pos (isS_iff.2 ⟨hp.1,by omega⟩),Yg c s.toNat (c.A4.getD s.toNat default).Al.toNat _ hp.1 (by omega) (Nat.le_refl _)]
theorem Fm {c:A7}:∀ (n:Nat) (s:Int),s.toNat≤n→∀ x∈Ab c s,Bm c x=true∧x≤s:=by
 intro n
 induction n with
 | zero =>
  intro s hn x hx
  cases h:Bm c s with
  | false=>unfold Ab at hx;rw[if_neg (by rw[h];decide)]at hx;cases hx
  | true =>
   have hs:=isS_iff.1 h
   rw[Cw h]at hx
   cases ht:Dn c s with
   | true=>rw[ht]at hx;simp at hx;subst hx;exact⟨h,Int.le_refl _⟩
   | false=>have:=Ef ht;omega
 | succ n ih =>
  intro s hn x hx
  cases h:Bm c s with
  | false=>unfold Ab at hx;rw[if_neg (by rw[h];decide)]at hx;cases hx
  | true =>
   rw[Cw h]at hx
   rcases List.mem_cons.1 hx with rfl | hx
   ·exact⟨h,Int.le_refl _⟩
   ·cases ht:Dn c s with
    | true=>rw[ht]at hx;simp at hx
    | false =>
     have:=Ef ht
     rw[ht]at hx
     have:=ih _ (by omega) x hx
     exact⟨this.1,by omega⟩
theorem eh {c:A7} {b:Int×List Int→Option ((Int×List Int)⊕List Int)}
  (hb:∀ (s:Int) (acc:List Int),0≤s→s < c.A4.length→b (s,acc)=if Dn c s=true then some (.inr acc)else if(acc.length+1) * 8≤140737488355328 then some (.inl ((c.A4.getD s.toNat default).Al,acc++[(c.A4.getD s.toNat default).Al]))else none) :
  ∀ (n:Nat) (s:Int) (acc:List Int),0≤s→s < c.A4.length→s.toNat≤n→acc.length+n≤100000→Bl b (s,acc)=some (acc++Gs c n s):=by
 intro n
 induction n with
 | zero =>
  intro s acc h0 h1 hn hl
  rw[Cd,hb s acc h0 h1]
  cases ht:Dn c s with
  | true=>simp[Gs]
  | false=>have:=Ef ht;omega
 | succ n ih =>
  intro s acc h0 h1 hn hl
  rw[Cd,hb s acc h0 h1]
  unfold Gs
  cases ht:Dn c s with
  | true=>simp
  | false =>
   have hp:=Ef ht
   have h8:(acc.length+1) * 8≤140737488355328:=by omega
   simp only[Bool.false_eq_true,if_false,if_pos h8,Option.bind_some]
   rw[ih _ _ hp.1 (by omega) (by omega) (by simp only[List.length_append,List.length_cons,List.length_nil];omega)]
   simp
theorem Nq (c:A7) (H:Fit c) (s:Int):g7 c s=some (Ab c s):=by
 have hs:=H.states
 delta g7 d48
 simp only[↓JD.sg_m,↓JD.sq_m,↓JD.sc_m,↓JD.bk_m,↓JD.lp_m,↓JD.cd_m,↓JD.lu_m,↓JD.ct_m,↓JD.ce_m,↓JL.r_m,↓JL.z_m,↓JD.se_m,Bi,↓Tr.run,↓Tr.run_nd,↓Tr.run_c3,↓Tr.run_c2,↓Tr.run_nx,↓As,Ao,Option.bind_some,Option.bind_none,Ca,Yy]
 unfold Ab
 cases h:Bm c s with
 | false=>rfl
 | true =>
  have hi:=isS_iff.1 h
  simp only[Bool.not_true,Bool.false_eq_true,if_false,if_true]
  rw[eh (c:=c) (fun s acc h0 h1=>?_) s.toNat s [s] hi.1 hi.2 (Nat.le_refl _) (by simp;omega)]
  ·simp
  ·simp only[h0,h1,if_true];rfl
theorem Ot (c:A7) (H:Fit c) (s:Int):S5 c s=some (Ab c s):=by
 have hs:=H.states
 have e:(decide (s < 0) || decide ((c.A4.length:Int)≤s))=!Bm c s:=by
  rw[Bool.eq_iff_iff];simp only[Bm,Bool.or_eq_true,decide_eq_true_eq,Bool.not_eq_true',Bool.and_eq_false_iff,decide_eq_false_iff_not];omega
 delta S5 d123
 simp only[↓JD.sg_m,↓JD.sq_m,↓JD.sc_m,↓JD.bk_m,↓JD.lp_m,↓JD.cd_m,↓JD.lu_m,↓JD.ct_m,↓JD.ce_m,↓JL.r_m,↓JL.z_m,↓JD.se_m,Bi,↓Tr.run,↓Tr.run_nd,↓Tr.run_c3,↓Tr.run_c2,↓Tr.run_nx,↓As,Ao,Option.bind_some,Option.bind_none,Ca,e]
 unfold Ab
 cases h:Bm c s with
 | false=>rfl
 | true =>
  have hi:=isS_iff.1 h
  simp only[Bool.not_true,Bool.false_eq_true,if_false,if_true]
  rw[eh (c:=c) (fun s acc h0 h1=>?_) s.toNat s [s] hi.1 hi.2 (Nat.le_refl _) (by simp;omega)]
  ·simp
  ·simp only[h0,h1,if_true];rfl
def Ju (c:A7) (i:Nat):List Int:=if Dc c i=true then[]else[(i:Int)]
def Bq (c:A7):List Int:=(List.range c.A4.length).flatMap (Ju c)
theorem Pb (c:A7) (i:Nat):(Ju c i).length≤1:=by unfold Ju;split<;>simp
theorem leavesS_iff {c:A7} {x:Int}:x∈Bq c↔Bm c x=true∧Dc c x=false:=by
 unfold Bq Ju
 rw[List.mem_flatMap,isS_iff]
 constructor
 ·rintro⟨i,hi,hx⟩
  rw[List.mem_range]at hi
  split at hx
  ·cases hx
  ·rename_i h;simp only[List.mem_singleton]at hx;subst hx;exact⟨by omega,by simpa using h⟩
 ·rintro⟨h1,h2⟩
  refine⟨x.toNat,List.mem_range.2 (by omega),?_⟩
  rw[Int.toNat_of_nonneg h1.1,if_neg (by rw[h2];decide)];simp
theorem yc (c:A7) (H:Fit c):py c=some (Bq c):=by
 have hs:=H.states
 delta py d53
 simp only[↓JD.sg_m,↓JD.sq_m,↓JD.sc_m,↓JD.bk_m,↓JD.lp_m,↓JD.cd_m,↓JD.lu_m,↓JD.ct_m,↓JD.ce_m,↓JL.r_m,↓JL.z_m,↓JD.se_m,Bi,↓Tr.run,↓Tr.run_nd,↓Tr.run_c3,↓Tr.run_c2,↓Tr.run_nx,↓As,Ao,Option.bind_some,Option.bind_none,Ca,O0 c _ (Nat.le_trans hs (by omega))]
 refine E2 (E9 c.A4.length (fun i l=>(l,(i:Int))) (Ju c) Sum.inl (fun i hi=>?_) (by (simp only[Bb,decide_false,Bool.false_eq_true,if_false];try rfl))) rfl
 have hl:=Bh (Pb c) i
 have h3:(((List.range i).flatMap (Ju c)).length+1) * 8≤140737488355328:=by omega
 simp only[C3 hi,decide_true,h3,if_true,D7 hi (by omega),Ju]
 cases Dc c i<;>simp
theorem Y3 (c:A7) (H:Fit c):fv c=some (Bq c):=by
 have hs:=H.states
 delta fv d57
 simp only[↓JD.sg_m,↓JD.sq_m,↓JD.sc_m,↓JD.bk_m,↓JD.lp_m,↓JD.cd_m,↓JD.lu_m,↓JD.ct_m,↓JD.ce_m,↓JL.r_m,↓JL.z_m,↓JD.se_m,Bi,↓Tr.run,↓Tr.run_nd,↓Tr.run_c3,↓Tr.run_c2,↓Tr.run_nx,↓As,Ao,Option.bind_some,Option.bind_none,Ca,Mp c _ (Nat.le_trans hs (by omega))]
 refine E2 (E9 c.A4.length (fun i l=>(l,(i:Int))) (Ju c) Sum.inl (fun i hi=>?_) (by (simp only[Bb,decide_false,Bool.false_eq_true,if_false];try rfl))) rfl
 have hl:=Bh (Pb c) i
 have h3:(((List.range i).flatMap (Ju c)).length+1) * 8≤140737488355328:=by omega
 simp only[C3 hi,decide_true,h3,if_true,D7 hi (by omega),Ju]
 cases Dc c i<;>simp
def jl (v:Int) (k:Nat):Bool:=IntKind.u16.wrap ((BitVec.ofInt IntKind.u16.bits (v.fdiv (2 ^ min k IntKind.u16.bits)) &&& BitVec.ofInt IntKind.u16.bits 1).toNat:Int)==1
theorem qy {v:Int} {k:Nat} (h0:0≤v) (hk:k≤16):jl v k=v.toNat.testBit k:=by
 obtain⟨n,rfl⟩:=Int.eq_ofNat_of_zero_le h0
 unfold jl
 have e1:min k IntKind.u16.bits=k:=by show min k 16=k;omega
 have e2:(n:Int).fdiv (2 ^ k)=((n / 2 ^ k:Nat):Int):=by
  rw[Int.fdiv_eq_ediv_of_nonneg _ (Int.le_of_lt (Int.pow_pos (by omega)))]
  push_cast
  rfl
 rw[e1,e2]
 have e3:(BitVec.ofInt IntKind.u16.bits ((n / 2 ^ k:Nat):Int) &&& BitVec.ofInt IntKind.u16.bits 1).toNat=n / 2 ^ k % 2:=by
  show (BitVec.ofInt 16 ((n / 2 ^ k:Nat):Int) &&& 1#16).toNat=_
  rw[BitVec.ofInt_natCast,BitVec.toNat_and,BitVec.toNat_ofNat]
  show n / 2 ^ k % 65536 &&& 1=_
  rw[Nat.and_one_is_mod]
  omega
 rw[e3]
 have e4:IntKind.u16.wrap ((n / 2 ^ k % 2:Nat):Int)=((n / 2 ^ k % 2:Nat):Int):=by
  have:n / 2 ^ k % 2 < 2:=Nat.mod_lt _ (by omega)
  generalize n / 2 ^ k % 2=m at *
  match m,this with
  | 0,_=>rfl
  | 1,_=>rfl
 rw[e4,Int.toNat_natCast,Nat.testBit_eq_decide_div_mod_eq,Bool.eq_iff_iff,beq_iff_eq,decide_eq_true_eq]
 omega
def litN (v:Int) (x:B7):Bool:=decide (x.Cond < 0) || decide (15 < x.Cond) || jl v x.Cond.toNat==x.Neg
def H5 (l:List B7) (v:Int):Bool:=!Bo (fun i=>litN v (l.getD i default)) l.length
theorem Yu {l:List B7} {v:Int} (hl:l.length≤100000) {b:Int→Option (Int⊕(Unit⊕Bool))} (hb:∀ i:Nat,i < l.length→b i=Qf (if litN v (l.getD i default)=true then some false else none) ((i:Int)+1)) (hd:b l.length=some (.inr (.inl ()))) :
  (Bl b 0).bind (As fun _=>some true)=some (H5 l v):=by
 rw[D4 l.length _ hb hd,Co,H5]
 cases Bo (fun i=>litN v (l.getD i default)) l.length<;>rfl
theorem nk (l:List B7) (v:Int) (hl:l.length≤100000):m50 l v=some (H5 l v):=by
 delta m50 d50
 simp only[↓JD.sg_m,↓JD.sq_m,↓JD.sc_m,↓JD.bk_m,↓JD.lp_m,↓JD.cd_m,↓JD.lu_m,↓JD.ct_m,↓JD.ce_m,↓JL.r_m,↓JL.z_m,↓JD.se_m,Bi,↓Tr.run,↓Tr.run_nd,↓Tr.run_c3,↓Tr.run_c2,↓Tr.run_nx,↓As,Ao,Option.bind_some,Option.bind_none,Ca]
 refine Yu hl (fun i hi=>?_) (by (simp only[Bb,decide_false,Bool.false_eq_true,if_false];try rfl))
 have h1:=eq_true (show (!(decide ((l.getD i default).Cond < 0) || decide (15 < (l.getD i default).Cond)))=true→0≤(l.getD i default).Cond from fun h=>by simp only[Bool.not_eq_true',Bool.or_eq_false_iff,decide_eq_false_iff_not]at h;omega)
 (simp only[C2,Bx,Br];simp only[h1,C3 hi,decide_true,Int.toNat_natCast,if_true,implies_true,D7 hi (by omega)];try rfl)
theorem ej (l:List B7) (v:Int) (hl:l.length≤100000):tv l v=some (H5 l v):=by
 delta tv d155
 simp only[↓JD.sg_m,↓JD.sq_m,↓JD.sc_m,↓JD.bk_m,↓JD.lp_m,↓JD.cd_m,↓JD.lu_m,↓JD.ct_m,↓JD.ce_m,↓JL.r_m,↓JL.z_m,↓JD.se_m,Bi,↓Tr.run,↓Tr.run_nd,↓Tr.run_c3,↓Tr.run_c2,↓Tr.run_nx,↓As,Ao,Option.bind_some,Option.bind_none,Ca]
 refine Yu hl (fun i hi=>?_) (by (simp only[Bb,decide_false,Bool.false_eq_true,if_false];try rfl))
 have h1:=eq_true (show (!(decide ((l.getD i default).Cond < 0) || decide (15 < (l.getD i default).Cond)))=true→0≤(l.getD i default).Cond from fun h=>by simp only[Bool.not_eq_true',Bool.or_eq_false_iff,decide_eq_false_iff_not]at h;omega)
 (simp only[C2,Bx,Br];simp only[h1,C3 hi,decide_true,Int.toNat_natCast,if_true,implies_true,D7 hi (by omega)];try rfl)
def Qz (c:A7) (v:Int):Bool:=decide ((c.Ag.length:Int) < 16)&&(v.fdiv (2 ^ min (c.Ag.length:Int).toNat IntKind.u16.bits) != 0)
def Cx (c:A7) (v:Int):Bool:=!Qz c v&&!Bo (fun i=>H5 (c.Ai.getD i default) v) c.Ai.length
theorem vl (c:A7) (H:Fit c) (v:Int):m20 c v=some (Cx c v):=by
 have hn:=H.never
 have e:Z3 c.Ai v=some (Do (fun i=>H5 (c.Ai.getD i default) v) c.Ai.length):=by
  delta Z3 gp
  simp only[↓JD.sg_m,↓JD.sq_m,↓JD.sc_m,↓JD.bk_m,↓JD.lp_m,↓JD.cd_m,↓JD.lu_m,↓JD.ct_m,↓JD.ce_m,↓JL.r_m,↓JL.z_m,↓JD.se_m,Bi,↓Tr.run,↓Tr.run_nd,↓Tr.run_c3,↓Tr.run_c2,↓Tr.run_nx,↓As,Ao,Option.bind_some,Option.bind_none,Ca,ug,vq]
  refine Jy (fun i hi=>?_) (by (simp only[Bb,decide_false,Bool.false_eq_true,if_false];try rfl))
  have hl:=H.lits _ (Bj hi)
  (simp only[C2,Bx,Br];simp only[nk _ _ (Nat.le_trans hl (by omega)),Option.bind_some,C3 hi,decide_true,Int.toNat_natCast,if_true,implies_true,D7 hi (by omega)];try rfl)
 have h1:=eq_true (show decide ((c.Ag.length:Int) < 16)=true→(0:Int)≤(c.Ag.length:Int) from fun _=>by omega)
 delta m20 d20
 simp only[↓JD.sg_m,↓JD.sq_m,↓JD.sc_m,↓JD.bk_m,↓JD.lp_m,↓JD.cd_m,↓JD.lu_m,↓JD.ct_m,↓JD.ce_m,↓JL.r_m,↓JL.z_m,↓JD.se_m,Bi,↓Tr.run,↓Tr.run_nd,↓Tr.run_c3,↓Tr.run_c2,↓Tr.run_nx,↓As,Ao,Option.bind_some,Option.bind_none,Ca,tl,vg,e,Ki,h1,if_true]
 unfold Cx
 cases hw:Qz c v with
 | true=>unfold Qz at hw;simp only[hw,if_true];rfl
 | false=>unfold Qz at hw;simp only[hw,if_false,Bool.false_eq_true];rfl
theorem wide_any {c:A7} {v:Int} (h0:0≤v) (h1:v < 65536):Bo (fun i=>decide ((c.Ag.length:Int)≤(i:Int))&&jl v i) 16=Qz c v:=by
 obtain⟨n,rfl⟩:=Int.eq_ofNat_of_zero_le h0
 generalize hk:c.Ag.length=k
 unfold Qz
 rw[Bool.eq_iff_iff,anyR_iff,hk,Int.toNat_natCast]
 have e2:k < 16→(n:Int).fdiv (2 ^ min k IntKind.u16.bits)=((n / 2 ^ k:Nat):Int):=fun hk16=>by
  have e1:min k IntKind.u16.bits=k:=by show min k 16=k;omega
  rw[e1,Int.fdiv_eq_ediv_of_nonneg _ (Int.le_of_lt (Int.pow_pos (by omega)))]
  push_cast
  rfl
 constructor
 ·rintro⟨i,hi,h⟩
  simp only[Bool.and_eq_true,decide_eq_true_eq]at h
  obtain⟨h2,h3⟩:=h
  rw[qy h0 (by omega),Int.toNat_natCast]at h3
  have hk16:k < 16:=by omega
  simp only[Bool.and_eq_true,decide_eq_true_eq,bne_iff_ne,ne_eq]
  refine⟨by omega,?_⟩
  rw[e2 hk16]
  intro hz
  have hz:n / 2 ^ k=0:=by omega
  have hlt:n < 2 ^ k:=by
   rcases Nat.div_eq_zero_iff.1 hz with h | h
   ·have:=Nat.two_pow_pos k;omega
   ·exact h
  have:=Nat.testBit_lt_two_pow (Nat.lt_of_lt_of_le hlt (Nat.pow_le_pow_right (by omega) (show k≤i by omega)))
  rw[this]at h3;cases h3
 ·intro h
  simp only[Bool.and_eq_true,decide_eq_true_eq,bne_iff_ne,ne_eq]at h
  obtain⟨h2,h3⟩:=h
  have hk16:k < 16:=by omega
  rw[e2 hk16]at h3
  have h3:n / 2 ^ k≠0:=by omega
  apply Classical.byContradiction
  intro hno
  apply h3
  apply Nat.eq_of_testBit_eq
  intro j
  rw[Nat.testBit_div_two_pow,Nat.zero_testBit]
  rcases Nat.lt_or_ge (j+k) 16 with hj | hj
  ·cases hb:n.testBit (j+k) with
   | false=>rfl
   | true =>
    exfalso
    refine hno ⟨j+k,hj,?_⟩
    simp only[Bool.and_eq_true,decide_eq_true_eq]
    exact⟨by omega,by rw[qy h0 (by omega),Int.toNat_natCast];exact hb⟩
  ·exact Nat.testBit_lt_two_pow (Nat.lt_of_lt_of_le (show n < 2 ^ 16 by omega) (Nat.pow_le_pow_right (by omega) hj))
theorem Q2 (c:A7) (H:Fit c) (v:Int) (h0:0≤v) (h1:v < 65536):Ww c v=some (Cx c v):=by
 have hn:=H.never
 delta Ww d106
 simp only[↓JD.sg_m,↓JD.sq_m,↓JD.sc_m,↓JD.bk_m,↓JD.lp_m,↓JD.cd_m,↓JD.lu_m,↓JD.ct_m,↓JD.ce_m,↓JL.r_m,↓JL.z_m,↓JD.se_m,Bi,↓Tr.run,↓Tr.run_nd,↓Tr.run_c3,↓Tr.run_c2,↓Tr.run_nx,↓As,Ao,Option.bind_some,Option.bind_none,Ca]
 have e:∀ {b:Int→Option (Int⊕(Unit⊕Bool))} {k:Unit→Option Bool},(∀ i:Nat,i < 16→b i=Qf (if(decide ((c.Ag.length:Int)≤(i:Int))&&jl v i)=true then some false else none) ((i:Int)+1))→b 16=some (.inr (.inl ())) →
   k ()=some (!Bo (fun i=>H5 (c.Ai.getD i default) v) c.Ai.length)→(Bl b 0).bind (As k)=some (Cx c v):=fun hb hd hk=>by
  rw[D4 16 _ hb hd,Co,hk,wide_any h0 h1,Cx]
  cases Qz c v<;>rfl
 refine e (fun i hi=>?_) (by rfl) ?_
 ·have a1:=eq_true (show decide ((c.Ag.length:Int)≤(i:Int))=true→(0:Int)≤(i:Int) from fun _=>by omega)
  have a2:=eq_true (show decide ((i:Int) < 16)=true by simp;omega)
  simp only[C2,Bx,Br];simp only[a1,a2,if_true,Int.toNat_natCast,D7 hi (by omega)];rfl
 ·rw[D4 c.Ai.length (fun i=>if H5 (c.Ai.getD i default) v=true then some false else none) ?_ ?_,Co]
  ·cases Bo (fun i=>H5 (c.Ai.getD i default) v) c.Ai.length<;>rfl
  ·intro i hi
   have hl:=H.lits _ (Bj hi)
   (simp only[C2,Bx,Br];simp only[ej _ _ (Nat.le_trans hl (by omega)),Option.bind_some,C3 hi,decide_true,Int.toNat_natCast,if_true,implies_true,D7 hi (by omega)];try rfl)
  ·(simp only[Bb,decide_false,Bool.false_eq_true,if_false];try rfl)
def Jl (c:A7) (p:List Int) (v:Int) (i:Nat):List Int:=if(Df p p.length (c.A0.getD i default).From&&H5 (c.A0.getD i default).When v)=true then[(i:Int)]else[]
def Ad (c:A7) (leaf v:Int):List Int:=(List.range c.A0.length).flatMap (Jl c (Ab c leaf) v)
theorem U7 (c:A7) (p:List Int) (v:Int) (i:Nat):(Jl c p v i).length≤1:=by unfold Jl;split<;>simp
theorem Of (c:A7) (leaf v:Int):(Ad c leaf v).length≤c.A0.length:=by
 have:=Bh (U7 c (Ab c leaf) v) c.A0.length;unfold Ad;omega
theorem N3 (c:A7) (H:Fit c) (leaf v:Int):Mw c leaf v=some (Ad c leaf v):=by
 have hs:=H.states
 have ht:=H.trans
 have hp:=Dk c leaf
 delta Mw d19
 simp only[↓JD.sg_m,↓JD.sq_m,↓JD.sc_m,↓JD.bk_m,↓JD.lp_m,↓JD.cd_m,↓JD.lu_m,↓JD.ct_m,↓JD.ce_m,↓JL.r_m,↓JL.z_m,↓JD.se_m,Bi,↓Tr.run,↓Tr.run_nd,↓Tr.run_c3,↓Tr.run_c2,↓Tr.run_nx,↓As,Ao,Option.bind_some,Option.bind_none,Ca,Nq c H,Gn]
 refine E2 (E9 c.A0.length (fun i l=>(l,(i:Int))) (Jl c (Ab c leaf) v) Sum.inl (fun i hi=>?_) (by (simp only[Bb,decide_false,Bool.false_eq_true,if_false];try rfl))) rfl
 have hl:=Bh (U7 c (Ab c leaf) v) i
 have h3:(((List.range i).flatMap (Jl c (Ab c leaf) v)).length+1) * 8≤140737488355328:=by omega
 have hw:=H.when_ _ (Bj hi)
 simp only[C3 hi,decide_true,h3,Int.toNat_natCast,if_true,D7 hi (by omega),Hf _ _ (show (Ab c leaf).length≤100000 by omega),nk _ _ (Nat.le_trans hw (by omega)),Option.bind_some,Jl]
 cases Df (Ab c leaf) (Ab c leaf).length (c.A0.getD i default).From with
 | false=>simp
 | true=>cases H5 (c.A0.getD i default).When v<;>simp
theorem Q4 (c:A7) (H:Fit c) (leaf v:Int):m107 c leaf v=some (Ad c leaf v):=by
 have hs:=H.states
 have ht:=H.trans
 have hp:=Dk c leaf
 delta m107 d107
 simp only[↓JD.sg_m,↓JD.sq_m,↓JD.sc_m,↓JD.bk_m,↓JD.lp_m,↓JD.cd_m,↓JD.lu_m,↓JD.ct_m,↓JD.ce_m,↓JL.r_m,↓JL.z_m,↓JD.se_m,Bi,↓Tr.run,↓Tr.run_nd,↓Tr.run_c3,↓Tr.run_c2,↓Tr.run_nx,↓As,Ao,Option.bind_some,Option.bind_none,Ca,Ot c H,Gn]
 refine E2 (E9 c.A0.length (fun i l=>(l,(i:Int))) (Jl c (Ab c leaf) v) Sum.inl (fun i hi=>?_) (by (simp only[Bb,decide_false,Bool.false_eq_true,if_false];try rfl))) rfl
 have hl:=Bh (U7 c (Ab c leaf) v) i
 have h3:(((List.range i).flatMap (Jl c (Ab c leaf) v)).length+1) * 8≤140737488355328:=by omega
 have hw:=H.when_ _ (Bj hi)
 simp only[C3 hi,decide_true,h3,Int.toNat_natCast,if_true,D7 hi (by omega),f9 _ _ (show (Ab c leaf).length≤100000 by omega),ej _ _ (Nat.le_trans hw (by omega)),Option.bind_some,Jl]
 cases Df (Ab c leaf) (Ab c leaf).length (c.A0.getD i default).From with
 | false=>simp
 | true=>cases H5 (c.A0.getD i default).When v<;>simp
end Go.Av.Ch
set_option maxRecDepth 100000
namespace Go.Av.Ch
abbrev Cj (c:A7) (x:Int):Ah:=c.A4.getD x.toNat default
structure Good (c:A7):Prop where
 ne:0 < c.A4.length
 cap:c.A4.length≤40
 parent:∀ x,Bm c x=true → -1≤(Cj c x).Al∧(Cj c x).Al < x
 init:∀ x,Bm c x=true→Dc c x=true→Dm c (Cj c x).B0 x=true
 leafI:∀ x,Bm c x=true→Dc c x=false→(Cj c x).B0 = -1∧(Cj c x).Aw=false
 start:Bm c c.Start=true
 tr:∀ i,i < c.A0.length→Bm c (c.A0.getD i default).From=true∧Bm c (c.A0.getD i default).To=true
 entry:∀ x,Bm c x=true→(Cj c x).Az.length≤8
 exit_:∀ x,Bm c x=true→(Cj c x).Exit.length≤8
 acts:∀ i,i < c.A0.length→(c.A0.getD i default).B9.length≤8
theorem Mi {R:Type} {a b:Option R} {z:R} (h:K7 a b=some z) (hn:a≠some z):a=none∧b=some z:=by
 cases a with
 | none=>exact⟨rfl,h⟩
 | some y=>exact absurd h hn
theorem Kf {p:Prop} [Decidable p] {e z:Int} {k:Option Int} (h:(if p then some e else k)=some z) (he:e≠z):¬ p∧k=some z:=by
 split at h
 ·injection h with h;exact absurd h he
 ·rename_i hp;exact⟨hp,h⟩
theorem Ge {c:A7} (h:C8 c=some 0):Good c:=by
 unfold C8 at h
 obtain⟨-,h⟩:=Kf h (by decide)
 obtain⟨h1,h⟩:=Kf h (by decide)
 obtain⟨hcap,h⟩:=Kf h (by decide)
 have n1:Be (Lv c) c.Ag.length≠some 0:=fun e=>by
  obtain⟨i,_,e⟩:=Di e
  unfold Lv at e
  split at e
  ·rename_i hh;injection e with e;rw[e]at hh;simp at hh
  ·cases e
 obtain⟨-,h⟩:=Mi h n1
 have n2:Be (Px c) c.Ai.length≠some 0:=fun e=>by
  obtain⟨i,_,e⟩:=Di e
  unfold Px at e
  split at e
  ·cases e
  ·split at e
   ·rename_i hh;injection e with e;rw[e]at hh;simp at hh
   ·cases e
 obtain⟨-,h⟩:=Mi h n2
 have n3:Be (stF c) c.A4.length≠some 0:=fun e=>by
  obtain⟨i,_,e⟩:=Di e
  unfold stF at e
  split at e
  ·rename_i hh;injection e with e;rw[e]at hh;simp at hh
  ·cases e
 obtain⟨hst,h⟩:=Mi h n3
 obtain⟨hs,h⟩:=Kf h (by decide)
 have n4:Be (trF c) c.A0.length≠some 0:=fun e=>by
  obtain⟨i,_,e⟩:=Di e
  unfold trF at e
  split at e
  ·cases e
  ·split at e
   ·rename_i hh;injection e with e;rw[e]at hh;simp at hh
   ·split at e
    ·rename_i hh;injection e with e;rw[e]at hh;simp at hh
    ·cases e
 obtain⟨htr,-⟩:=Mi h n4
 have st:∀ i,i < c.A4.length→Jj c i=0:=fun i hi=>by
  have:=firstR_none.1 hst i hi
  unfold stF at this
  split at this
  ·cases this
  ·rename_i hh
   have hh:Hv c i=0:=by simpa using hh
   unfold Hv at hh
   split at hh
   ·rename_i h2;rw[hh]at h2;simp at h2
   ·exact hh
 have key:∀ x,Bm c x=true→x=(x.toNat:Int)∧x.toNat < c.A4.length:=fun x hx=>by have:=isS_iff.1 hx;omega
 have rows:∀ x,Bm c x=true→(-1≤(Cj c x).Al∧(Cj c x).Al < x)∧(Dc c x=true→Dm c (Cj c x).B0 x=true)∧(Dc c x=false→(Cj c x).B0 = -1∧(Cj c x).Aw=false)∧(Cj c x).Az.length≤8∧(Cj c x).Exit.length≤8:=fun x hx=>by
  obtain⟨e,hlt⟩:=key x hx
  have h:=st _ hlt
  unfold Jj at h
  rw[← e]at h
  split at h
  ·cases h
  rename_i a1
  split at h
  ·cases h
  rename_i a2
  split at h
  ·cases h
  rename_i a3
  split at h
  ·rename_i a4;rw[h]at a4;simp at a4
  rename_i a4
  simp only[Bool.or_eq_true,decide_eq_true_eq,not_or,Int.not_lt,Int.not_le]at a1
  refine⟨⟨a1.1,a1.2⟩,fun hc=>?_,fun hc=>?_,Wf (by simpa using a4),Wf h⟩
  ·rw[hc]at a2
   simpa using a2
  ·rw[hc]at a2 a3
   exact⟨by simpa using a2,by simpa using a3⟩
 have trs:∀ i,i < c.A0.length→(Bm c (c.A0.getD i default).From=true∧Bm c (c.A0.getD i default).To=true)∧(c.A0.getD i default).B9.length≤8:=fun i hi=>by
  have:=firstR_none.1 htr i hi
  unfold trF at this
  split at this
  ·cases this
  rename_i a1
  split at this
  ·cases this
  split at this
  ·cases this
  rename_i a3
  exact⟨by simpa using a1,Wf (by simpa using a3)⟩
 refine⟨?_,by simp only[Bool.or_eq_true,decide_eq_true_eq,not_or,Int.not_lt]at hcap;omega,fun x hx=>(rows x hx).1,fun x hx=>(rows x hx).2.1,fun x hx=>(rows x hx).2.2.1,by simpa using hs,fun i hi=>(trs i hi).1,fun x hx=>(rows x hx).2.2.2.1,fun x hx=>(rows x hx).2.2.2.2,fun i hi=>(trs i hi).2⟩
 have:¬ ((c.A4.length:Int)=0):=by simpa using h1
 omega
def Gz (c:A7) (i m:Int):Bool:=(m != (-1:Int))&&(!Bm c m || !(Cj c i).Aw || ((Cj c m).Al != i))
def C4 (c:A7) (g:A9):Bool:=!(!Bm c g.Leaf || Dc c g.Leaf || ((g.A6.length:Int) != (c.A4.length:Int)))&&!Bo (fun i=>Gz c i (g.A6.getD i default)) g.A6.length
structure MemOk (c:A7) (m:List Int):Prop where
 len:m.length=c.A4.length
 ok:∀ i:Nat,i < m.length→Gz c i (m.getD i default)=false
theorem validS_iff {c:A7} {g:A9}:C4 c g=true↔Bm c g.Leaf=true∧Dc c g.Leaf=false∧MemOk c g.A6:=by
 unfold C4
 simp only[Bool.and_eq_true,Bool.not_eq_true',Bool.or_eq_false_iff,Bool.not_eq_false',bne_eq_false_iff_eq,anyR_false]
 constructor
 ·rintro⟨⟨⟨h1,h2⟩,h3⟩,h4⟩;exact⟨h1,h2,⟨by omega,h4⟩⟩
 ·rintro⟨h1,h2,h3⟩;exact⟨⟨⟨h1,h2⟩,by have:=h3.len;omega⟩,h3.ok⟩
theorem MemOk.none {c:A7} {m:List Int} (h:MemOk c m) {x:Int} (hx:Bm c x=true) (hh:(Cj c x).Aw=false):m.getD x.toNat default = -1:=by
 have hi:=isS_iff.1 hx
 have:=h.ok x.toNat (by rw[h.len];omega)
 unfold Gz at this
 rw[Int.toNat_of_nonneg hi.1,hh]at this
 simpa using this
theorem MemOk.child {c:A7} {m:List Int} (h:MemOk c m) {x:Int} (hx:Bm c x=true) (hm:m.getD x.toNat default ≠ -1):Dm c (m.getD x.toNat default) x=true:=by
 have hi:=isS_iff.1 hx
 have:=h.ok x.toNat (by rw[h.len];omega)
 unfold Gz at this
 rw[Int.toNat_of_nonneg hi.1]at this
 simp only[Bool.and_eq_false_iff,bne_eq_false_iff_eq,Bool.or_eq_false_iff,Bool.not_eq_false']at this
 rcases this with h1 | ⟨⟨h1,h2⟩,h3⟩
 ·exact absurd h1 hm
 ·unfold Dm;rw[h1,h3];simp
theorem MemOk.set {c:A7} {m:List Int} (h:MemOk c m) {x v:Int} (hv:v = -1∨((Cj c x).Aw=true∧Dm c v x=true)) (hx:Bm c x=true):MemOk c (m.set x.toNat v):=by
 have hi:=isS_iff.1 hx
 refine⟨by rw[List.length_set];exact h.len,fun i hl=>?_⟩
 rw[List.length_set]at hl
 by_cases he:x.toNat=i
 ·subst he
  rw[List.getD_eq_getElem?_getD,List.getElem?_set_self hl,Option.getD_some,Int.toNat_of_nonneg hi.1]
  unfold Gz
  rcases hv with rfl | ⟨h1,h2⟩
  ·rfl
  ·unfold Dm at h2
   simp only[Bool.and_eq_true,beq_iff_eq]at h2
   rw[h1,h2.1,h2.2];simp
 ·rw[List.getD_eq_getElem?_getD,List.getElem?_set_ne he,← List.getD_eq_getElem?_getD]
  exact h.ok i hl
theorem kr {m:List Int} {i:Nat} {v:Int} (hi:i < m.length) (h:m.getD i default=v):m.set i v=m:=by
 apply List.ext_getElem?
 intro j
 rw[List.getElem?_set]
 split
 ·rename_i e;subst e
  rw[← h,List.getD_eq_getElem?_getD,List.getElem?_eq_getElem hi,Option.getD_some]
 ·rfl
theorem Rs (c:A7) (H:Fit c) (g:A9):m66 c g=some (C4 c g):=by
 have hs:=H.states
 delta m66 d66
 simp only[↓JD.sg_m,↓JD.sq_m,↓JD.sc_m,↓JD.bk_m,↓JD.lp_m,↓JD.cd_m,↓JD.lu_m,↓JD.ct_m,↓JD.ce_m,↓JL.r_m,↓JL.z_m,↓JD.se_m,Bi,↓Tr.run,↓Tr.run_nd,↓Tr.run_c3,↓Tr.run_c2,↓Tr.run_nx,↓As,Ao,Option.bind_some,Option.bind_none,Ca,Yy,O0 c _ (Nat.le_trans hs (by omega))]
 unfold C4
 have e0:(if(!!Bm c g.Leaf)=true then some (Bm c g.Leaf,Dc c g.Leaf)else some (Bm c g.Leaf,default))=some (Bm c g.Leaf,if Bm c g.Leaf=true then Dc c g.Leaf else default):=by
  cases Bm c g.Leaf<;>rfl
 cases h1:(!Bm c g.Leaf || Dc c g.Leaf || ((g.A6.length:Int) != (c.A4.length:Int))) with
 | true =>
  cases h2:Bm c g.Leaf with
  | false=>simp
  | true =>
   rw[h2]at h1
   simp only[Bool.not_true,Bool.false_or]at h1
   simp only[Bool.not_true,Bool.not_false,Bool.false_or,if_true,h1,Ru,Bool.false_and]
 | false =>
  simp only[Bool.or_eq_false_iff,Bool.not_eq_false',bne_eq_false_iff_eq]at h1
  obtain⟨⟨h2,h3⟩,h4⟩:=h1
  have h5:g.A6.length=c.A4.length:=by omega
  simp only[h2,h3,h5,bne_self_eq_false,Bool.not_true,Bool.not_false,Bool.or_false,Bool.false_eq_true,if_false,if_true,Gn,Bool.true_and]
  rw[D4 c.A4.length (fun i=>if Gz c i (g.A6.getD i default)=true then some false else none) ?_ ?_,Co]
  ·cases Bo (fun i=>Gz c i (g.A6.getD i default)) c.A4.length<;>rfl
  ·intro i hi
   simp only[C2,Bx,Br]
   simp only[C3 hi,decide_true,Int.toNat_natCast,if_true,implies_true,D7 hi (by omega)]
   unfold Gz Cj
   simp only[Int.toNat_natCast]
   by_cases hm:g.A6.getD i default = -1
   ·simp only[hm,bne_self_eq_false,Bool.false_and,Bool.false_eq_true,false_implies,if_false,if_true]
   ·have hm':(g.A6.getD i default != (-1:Int))=true:=by simpa using hm
    have a3:=eq_true (show (true&&!(!Bm c (g.A6.getD i default) || !(c.A4.getD i default).Aw))=true→(0:Int)≤g.A6.getD i default from fun h=>by
     simp only[Bool.true_and,Bool.not_eq_true',Bool.or_eq_false_iff,Bool.not_eq_false']at h;exact(isS_iff.1 h.1).1)
    have a4:=eq_true (show (true&&!(!Bm c (g.A6.getD i default) || !(c.A4.getD i default).Aw))=true→g.A6.getD i default < (c.A4.length:Int) from fun h=>by
     simp only[Bool.true_and,Bool.not_eq_true',Bool.or_eq_false_iff,Bool.not_eq_false']at h;exact(isS_iff.1 h.1).2)
    simp only[hm',a3,a4,if_true,Option.bind_some]
  ·(simp only[Bb,decide_false,Bool.false_eq_true,if_false];try rfl)
theorem dy (c:A7) (H:Fit c) (g:A9):m125 c g=some (C4 c g):=by
 have hs:=H.states
 have hL:(Bq c).length≤100000:=by have:=Bh (Pb c) c.A4.length;unfold Bq;omega
 have hl:Df (Bq c) (Bq c).length g.Leaf=(Bm c g.Leaf&&!Dc c g.Leaf):=by
  rw[Bool.eq_iff_iff,hasK_iff,leavesS_iff,Bool.and_eq_true,Bool.not_eq_true']
 delta m125 d125
 simp only[↓JD.sg_m,↓JD.sq_m,↓JD.sc_m,↓JD.bk_m,↓JD.lp_m,↓JD.cd_m,↓JD.lu_m,↓JD.ct_m,↓JD.ce_m,↓JL.r_m,↓JL.z_m,↓JD.se_m,Bi,↓Tr.run,↓Tr.run_nd,↓Tr.run_c3,↓Tr.run_c2,↓Tr.run_nx,↓As,Ao,Option.bind_some,Option.bind_none,Ca,Y3 c H,f9 _ _ hL,hl,cy]
 unfold C4
 cases h1:(!Bm c g.Leaf || Dc c g.Leaf || ((g.A6.length:Int) != (c.A4.length:Int))) with
 | true =>
  have:(!(Bm c g.Leaf&&!Dc c g.Leaf) || ((g.A6.length:Int) != (c.A4.length:Int)))=true:=by rw[← h1];cases Bm c g.Leaf<;>cases Dc c g.Leaf<;>rfl
  simp only[this,if_true,Ru,Bool.not_true,Bool.false_and]
 | false =>
  simp only[Bool.or_eq_false_iff,Bool.not_eq_false',bne_eq_false_iff_eq]at h1
  obtain⟨⟨h2,h3⟩,h4⟩:=h1
  have h5:g.A6.length=c.A4.length:=by omega
  simp only[h2,h3,h5,bne_self_eq_false,Bool.not_true,Bool.not_false,Bool.and_true,Bool.or_false,Bool.false_eq_true,if_false,if_true,Gn,Bool.true_and]
  rw[D4 c.A4.length (fun i=>if Gz c i (g.A6.getD i default)=true then some false else none) ?_ ?_,Co]
  ·cases Bo (fun i=>Gz c i (g.A6.getD i default)) c.A4.length<;>rfl
  ·intro i hi
   simp only[C2,Bx,Br]
   simp only[C3 hi,decide_true,Int.toNat_natCast,if_true,implies_true,D7 hi (by omega)]
   unfold Gz Dm Cj
   simp only[Int.toNat_natCast]
   by_cases hm:(g.A6.getD i default != (-1:Int))=true
   ·by_cases hh:(c.A4.getD i default).Aw=true
    ·by_cases hq:Bm c (g.A6.getD i default)=true
     ·simp only[hm,hh,hq,Bool.true_and,Bool.not_true,Bool.not_false,Bool.false_or,if_true,Option.bind_some];simp only[bne]
     ·have hq:=Bool.eq_false_iff.2 hq
      simp only[hm,hh,hq,Bool.true_and,Bool.false_and,Bool.not_true,Bool.not_false,Bool.false_or,Bool.true_or,if_true,Option.bind_some]
    ·have hh:=Bool.eq_false_iff.2 hh
     simp only[hm,hh,Bool.true_and,Bool.not_true,Bool.not_false,Bool.true_or,Bool.or_true,Bool.false_eq_true,if_false,if_true]
   ·have hm:=Bool.eq_false_iff.2 hm
    simp only[hm,Bool.false_and,Bool.false_eq_true,if_false]
  ·(simp only[Bb,decide_false,Bool.false_eq_true,if_false];try rfl)
end Go.Av.Ch
set_option maxRecDepth 100000
namespace Go.Av.Ch
theorem Dd {c:A7} {x:Int} (h:Bm c x=true):((0:Int)≤x)=True∧(x < (c.A4.length:Int))=True∧x.toNat < c.A4.length:=by
 have:=isS_iff.1 h
 exact⟨eq_true this.1,eq_true this.2,by omega⟩
theorem Gw {c:A7} (G:Good c) {x y:Int} (h:Dm c y x=true):Bm c y=true∧x < y:=by
 unfold Dm at h
 simp only[Bool.and_eq_true,beq_iff_eq]at h
 have:=(G.parent y h.1).2
 exact⟨h.1,by unfold Cj at this;omega⟩
def My (c:A7) (m:List Int) (x:Int):Int:=if((Cj c x).Aw&&(m.getD x.toNat default != (-1:Int)))=true then m.getD x.toNat default else(Cj c x).B0
theorem H7 {c:A7} (G:Good c) {m:List Int} (M:MemOk c m) {x:Int} (hx:Bm c x=true) (hc:Dc c x=true):Dm c (My c m x) x=true:=by
 unfold My
 split
 ·rename_i h
  simp only[Bool.and_eq_true,bne_iff_ne,ne_eq]at h
  exact M.child hx h.2
 ·exact G.init x hx hc
def Eo (c:A7):Nat→Int→List Int→List (List UInt8)→Int×List Int×List (List UInt8)
 | 0,x,m,a=>(x,m,a)
 | n+1,x,m,a=>if Dc c x=true then Eo c n (My c m x) (m.set x.toNat (-1)) (a++(Cj c x).Az)else(x,m,a++(Cj c x).Az)
theorem Sd {c:A7} (G:Good c):∀ (n:Nat) (x:Int) (m:List Int) (a:List (List UInt8)),Bm c x=true→MemOk c m→c.A4.length≤n+x.toNat →
  Bm c (Eo c n x m a).1=true∧Dc c (Eo c n x m a).1=false∧MemOk c (Eo c n x m a).2.1∧(Eo c n x m a).2.2.length≤a.length+8 * n
 | 0,x,m,a,hx,M,hn=>by have:=(Dd hx).2.2;omega
 | n+1,x,m,a,hx,M,hn=>by
  have he:=G.entry x hx
  unfold Eo
  cases hc:Dc c x with
  | false=>simp only[Bool.false_eq_true,if_false,List.length_append];exact⟨hx,hc,M,by omega⟩
  | true =>
   simp only[if_true]
   obtain⟨h1,h2⟩:=Gw G (H7 G M hx hc)
   have h3:=isS_iff.1 hx
   obtain⟨k1,k2,k3,k4⟩:=Sd G n _ _ (a++(Cj c x).Az) h1 (M.set (.inl rfl) hx) (by omega)
   exact⟨k1,k2,k3,by rw[List.length_append]at k4;omega⟩
theorem Xy {c:A7} (G:Good c) {b:Int×List Int×List (List UInt8)→Option ((Int×List Int×List (List UInt8))⊕(Int×List Int×List (List UInt8)))}
  (hb:∀ (x:Int) (m:List Int) (a:List (List UInt8)),Bm c x=true→MemOk c m→a.length≤100000→b (x,m,a)=if Dc c x=true then some (.inl (My c m x,m.set x.toNat (-1),a++(Cj c x).Az))else some (.inr (x,m,a++(Cj c x).Az))) :
  ∀ (n:Nat) (x:Int) (m:List Int) (a:List (List UInt8)),Bm c x=true→MemOk c m→c.A4.length≤n+x.toNat→a.length+8 * n≤100000→Bl b (x,m,a)=some (Eo c n x m a)
 | 0,x,m,a,hx,M,hn,hl=>by have:=(Dd hx).2.2;omega
 | n+1,x,m,a,hx,M,hn,hl=>by
  have he:=G.entry x hx
  rw[Cd,hb x m a hx M (by omega)]
  unfold Eo
  cases hc:Dc c x with
  | false=>rfl
  | true =>
   simp only[if_true,Option.bind_some]
   obtain⟨h1,h2⟩:=Gw G (H7 G M hx hc)
   have h3:=isS_iff.1 hx
   exact Xy G hb n _ _ _ h1 (M.set (.inl rfl) hx) (by omega) (by rw[List.length_append];omega)
theorem Vh {c:A7} (G:Good c) {b:List Int×Int×List (List UInt8)→Option ((List Int×Int×List (List UInt8))⊕((List Int×Int×List (List UInt8))⊕(List (List UInt8)×Int×List Int×List (List UInt8))))}
  (hb:∀ (x:Int) (m:List Int) (a:List (List UInt8)),Bm c x=true→MemOk c m→a.length≤100000→b (m,x,a)=if Dc c x=true then some (.inl (m.set x.toNat (-1),My c m x,a++(Cj c (My c m x)).Az))else some (.inr (.inl (m,x,a)))) :
  ∀ (n:Nat) (x:Int) (m:List Int) (a:List (List UInt8)),Bm c x=true→MemOk c m→c.A4.length≤n+x.toNat→a.length+8 * n≤100000→Bl b (m,x,a++(Cj c x).Az)=some (.inl ((Eo c n x m a).2.1,(Eo c n x m a).1,(Eo c n x m a).2.2))
 | 0,x,m,a,hx,M,hn,hl=>by have:=(Dd hx).2.2;omega
 | n+1,x,m,a,hx,M,hn,hl=>by
  have he:=G.entry x hx
  rw[Cd,hb x m _ hx M (by rw[List.length_append];omega)]
  unfold Eo
  cases hc:Dc c x with
  | false=>rfl
  | true =>
   simp only[if_true,Option.bind_some]
   obtain⟨h1,h2⟩:=Gw G (H7 G M hx hc)
   have h3:=isS_iff.1 hx
   exact Vh G hb n _ _ _ h1 (M.set (.inl rfl) hx) (by omega) (by rw[List.length_append];omega)
def L5 (c:A7) (x:Int) (m:List Int) (a:List (List UInt8)):Int×List Int×List (List UInt8):=Eo c c.A4.length x m a
def Cf (c:A7) (l:List Int) (m:List Int) (a:List (List UInt8)):List Int×List (List UInt8):=l.foldr (fun x s=>(s.1.set x.toNat (-1),s.2++(Cj c x).Az)) (m,a)
theorem Em {c:A7} (G:Good c) {m:List Int} {a:List (List UInt8)} (M:MemOk c m):∀ (l:List Int),(∀ x∈l,Bm c x=true)→MemOk c (Cf c l m a).1∧(Cf c l m a).2.length≤a.length+8 * l.length
 | [],_=>⟨M,Nat.le_refl _⟩
 | x :: l,h=>by
  obtain⟨h1,h2⟩:=Em G (a:=a) M l fun y hy=>h y (List.mem_cons_of_mem _ hy)
  have hx:=h x (by simp)
  have he:=G.entry x hx
  refine⟨h1.set (.inl rfl) hx,?_⟩
  show ((Cf c l m a).2++(Cj c x).Az).length≤_
  rw[List.length_append,List.length_cons];omega
def Cn (c:A7) (s:Int):List Int→Int→List Int→List (List UInt8)→List Int×List (List UInt8)
 | [],_,m,a=>(m,a)
 | x :: l,last,m,a=>if(x==s)=true then(m,a)else Cn c s l x (if((Cj c x).Aw&&(last != (-1:Int)))=true then m.set x.toNat last else m) (a++(Cj c x).Exit)
theorem Po {c:A7} {m:List Int} (M:MemOk c m) {x last:Int} (hx:Bm c x=true) (hl:last = -1∨Dm c last x=true):MemOk c (if((Cj c x).Aw&&(last != (-1:Int)))=true then m.set x.toNat last else m):=by
 split
 ·rename_i h
  simp only[Bool.and_eq_true,bne_iff_ne,ne_eq]at h
  exact M.set (hl.imp (fun e=>absurd e h.2) fun e=>⟨h.1,e⟩) hx
 ·exact M
theorem G3 {c:A7} (G:Good c) {x:Int} (hx:Bm c x=true) (ht:Dn c x=false):Bm c (Cj c x).Al=true∧(Cj c x).Al.toNat < x.toNat∧Dm c x (Cj c x).Al=true:=by
 have h1:=Ef ht
 have h2:=isS_iff.1 hx
 refine⟨isS_iff.2 ⟨h1.1,by show (c.A4.getD x.toNat default).Al < _;omega⟩,by show (c.A4.getD x.toNat default).Al.toNat < _;omega,?_⟩
 unfold Dm;rw[hx];simp[Cj]
theorem P2 {c:A7} (G:Good c) {s:Int}:∀ (n:Nat) (x last:Int) (m:List Int) (a:List (List UInt8)),x.toNat≤n→Bm c x=true→MemOk c m→(last = -1∨Dm c last x=true) →
  MemOk c (Cn c s (Ab c x) last m a).1∧(Cn c s (Ab c x) last m a).2.length≤a.length+8 * (n+1):=by
 intro n
 induction n with
 | zero =>
  intro x last m a hn hx M hl
  have he:=G.exit_ x hx
  rw[Cw hx]
  unfold Cn
  split
  ·exact⟨M,by show a.length≤_;omega⟩
  ·cases ht:Dn c x with
   | false=>have:=(G3 G hx ht).2.1;omega
   | true=>exact⟨Po M hx hl,by simp only[if_true,Cn,List.length_append];omega⟩
 | succ n ih =>
  intro x last m a hn hx M hl
  have he:=G.exit_ x hx
  rw[Cw hx]
  unfold Cn
  split
  ·exact⟨M,by show a.length≤_;omega⟩
  ·cases ht:Dn c x with
   | true=>exact⟨Po M hx hl,by simp only[if_true,Cn,List.length_append];omega⟩
   | false =>
    obtain⟨p1,p2,p3⟩:=G3 G hx ht
    simp only[Bool.false_eq_true,if_false]
    obtain⟨k1,k2⟩:=ih (Cj c x).Al x _ (a++(Cj c x).Exit) (by omega) p1 (Po M hx hl) (.inr p3)
    exact⟨k1,Nat.le_trans k2 (by rw[List.length_append];omega)⟩
def C7 (c:A7) (a b:Int):Int:=((Ab c a).tail.find? fun x=>Df (Ab c b).tail (Ab c b).tail.length x).getD (-1)
def C1 (s:Int) (l:List Int):List Int:=l.takeWhile fun x=>!(s==x)
def Dq (c:A7):Int×List Int×List (List UInt8):=L5 c c.Start (Cf c (Ab c c.Start).tail (List.replicate c.A4.length (-1)) []).1 (Cf c (Ab c c.Start).tail (List.replicate c.A4.length (-1)) []).2
def Ea (c:A7) (g:A9) (t:Ap):Int×List Int×List (List UInt8) :=
 let s:=C7 c t.From t.To
 let l:=Cn c s (Ab c g.Leaf) (-1) g.A6 []
 let r:=Cf c (C1 s (Ab c t.To).tail) l.1 (l.2++t.B9)
 L5 c t.To r.1 r.2
theorem En {c:A7} {x:Int}:∀ y∈(Ab c x).tail,Bm c y=true:=fun y hy=>(Fm x.toNat x (Nat.le_refl _) y (List.mem_of_mem_tail hy)).1
theorem Mg {c:A7}:MemOk c (List.replicate c.A4.length (-1)):=⟨by simp,fun i hi=>by
 have:(List.replicate c.A4.length (-1:Int)).getD i default = -1:=by simp at hi;simp[List.getD_eq_getElem?_getD,List.getElem?_replicate,hi]
 unfold Gz;rw[this];rfl⟩
theorem Sz {c:A7} (G:Good c) (H:Fit c):C4 c ⟨(Dq c).1,(Dq c).2.1⟩=true∧(Dq c).2.2.length≤16000:=by
 have hs:=H.states
 have hp:=Dk c c.Start
 obtain⟨h1,h2⟩:=Em G (a:=[]) Mg (Ab c c.Start).tail En
 obtain⟨k1,k2,k3,k4⟩:=Sd G c.A4.length c.Start _ (Cf c (Ab c c.Start).tail (List.replicate c.A4.length (-1)) []).2 G.start h1 (by omega)
 refine⟨validS_iff.2 ⟨k1,k2,k3⟩,?_⟩
 have:(Dq c).2.2.length≤_:=k4
 simp only[List.length_nil,List.length_tail]at h2
 omega
theorem Gr {s:Int} {l:List Int}:∀ x∈C1 s l,x∈l:=fun x hx=>(List.takeWhile_prefix _).sublist.mem hx
theorem Ro {s:Int} {l:List Int}:(C1 s l).length≤l.length:=(List.takeWhile_prefix _).length_le
theorem X3 {c:A7} (G:Good c) (H:Fit c) {g:A9} (hg:C4 c g=true) {i:Nat} (hi:i < c.A0.length):C4 c ⟨(Ea c g (c.A0.getD i default)).1,(Ea c g (c.A0.getD i default)).2.1⟩=true∧(Ea c g (c.A0.getD i default)).2.2.length≤32000:=by
 have hs:=H.states
 obtain⟨v1,v2,v3⟩:=validS_iff.1 hg
 have ha:=G.acts i hi
 have ht:=(G.tr i hi).2
 generalize c.A0.getD i default=t at *
 have hp:=Dk c t.To
 have hl:=(Dd v1).2.2
 obtain⟨a1,a2⟩:=P2 G (s:=C7 c t.From t.To) g.Leaf.toNat g.Leaf (-1) g.A6 [] (Nat.le_refl _) v1 v3 (.inl rfl)
 obtain⟨h1,h2⟩:=Em G (a:=(Cn c (C7 c t.From t.To) (Ab c g.Leaf) (-1) g.A6 []).2++t.B9) a1 (C1 (C7 c t.From t.To) (Ab c t.To).tail) fun x hx=>En x (Gr x hx)
 have hu:=Ro (s:=C7 c t.From t.To) (l:=(Ab c t.To).tail)
 obtain⟨k1,k2,k3,k4⟩:=Sd G c.A4.length t.To _ (Cf c (C1 (C7 c t.From t.To) (Ab c t.To).tail) (Cn c (C7 c t.From t.To) (Ab c g.Leaf) (-1) g.A6 []).1 ((Cn c (C7 c t.From t.To) (Ab c g.Leaf) (-1) g.A6 []).2++t.B9)).2 ht h1 (by omega)
 refine⟨validS_iff.2 ⟨k1,k2,k3⟩,?_⟩
 have:(Ea c g t).2.2.length≤_:=k4
 simp only[List.length_nil,List.length_tail,List.length_append]at h2 hu a2
 omega
theorem Vm {Y:Type} {f:Nat→Option Y} {n:Nat}:Be f (n+1)=K7 (f 0) (Be (fun i=>f (i+1)) n):=by
 unfold Be
 rw[List.range_succ_eq_map,List.findSome?_cons,List.findSome?_map]
 cases f 0<;>rfl
theorem Q0 {F:Int→Bool}:∀ {l:List Int},Be (fun i=>if F (l.getD i default)=true then some (l.getD i default)else none) l.length=l.find? F
 | []=>rfl
 | x :: l=>by
  rw[List.length_cons,Vm]
  simp only[List.getD_cons_zero,List.getD_cons_succ]
  rw[Q0,List.find?_cons]
  by_cases hf:F x=true
  ·simp only[hf,if_true,Ht]
  ·have hf:=Bool.eq_false_iff.2 hf
   simp only[hf,Bool.false_eq_true,if_false,Ek]
theorem ls {s:Int}:∀ (l:List Int),(if decide (0≤Do (fun i=>s==l.getD i default) l.length)=true then At l 0 (Do (fun i=>s==l.getD i default) l.length).toNat else l)=C1 s l∧Do (fun i=>s==l.getD i default) l.length≤l.length
 | []=>by simp[C1,Do,Be]
 | x :: l=>by
  obtain⟨h1,h2⟩:=ls l (s:=s)
  have e:Do (fun i=>s==(x :: l).getD i default) (x :: l).length=if(s==x)=true then 0 else if decide (0≤Do (fun i=>s==l.getD i default) l.length)=true then Do (fun i=>s==l.getD i default) l.length+1 else -1:=by
   unfold Do
   rw[List.length_cons,Vm]
   simp only[List.getD_cons_zero,List.getD_cons_succ]
   by_cases hx:(s==x)=true
   ·simp only[hx,if_true,Ht];rfl
   ·simp only[hx,if_false,Bool.false_eq_true,Ek]
    have key:Be (fun i=>if(s==l.getD i default)=true then some (((i+1:Nat):Int))else none) l.length=(Be (fun i=>if(s==l.getD i default)=true then some (i:Int)else none) l.length).map (·+1):=by
     unfold Be
     induction List.range l.length with
     | nil=>rfl
     | cons i r ih =>
      simp only[List.findSome?_cons]
      by_cases hf:(s==l.getD i default)=true
      ·simp only[hf,if_true];simp
      ·simp only[hf,if_false,Bool.false_eq_true];exact ih
    rw[key]
    cases hf:Be (fun i=>if(s==l.getD i default)=true then some (i:Int)else none) l.length with
    | none=>rfl
    | some y =>
     obtain⟨i,_,h⟩:=Di hf
     split at h
     ·injection h with h;subst h;simp
     ·cases h
  rw[e]
  by_cases hx:(s==x)=true
  ·simp only[hx,if_true]
   exact⟨by simp[C1,hx,At],by rw[List.length_cons];omega⟩
  ·have hx':=Bool.eq_false_iff.2 hx
   simp only[hx',if_false,Bool.false_eq_true]
   unfold C1 at h1 ⊢
   rw[List.takeWhile_cons,hx']
   simp only[Bool.not_false,if_true]
   rw[← h1]
   by_cases hf:decide (0≤Do (fun i=>s==l.getD i default) l.length)=true
   ·have h0:0≤Do (fun i=>s==l.getD i default) l.length:=by simpa using hf
    simp only[hf,if_true]
    have h3:decide (0≤Do (fun i=>s==l.getD i default) l.length+1)=true:=by rw[decide_eq_true_eq];omega
    refine⟨?_,by rw[List.length_cons];omega⟩
    rw[if_pos h3,Qj (by rw[List.length_cons];omega),Qj (by omega)]
    rw[show (Do (fun i=>s==l.getD i default) l.length+1).toNat=(Do (fun i=>s==l.getD i default) l.length).toNat+1 by omega]
    simp
   ·simp only[hf,if_false,Bool.false_eq_true]
    exact⟨by simp,by rw[List.length_cons];omega⟩
theorem O9 (l:List Int):At l 1 (l.length - 1)=l.tail:=by
 cases l with
 | nil=>rfl
 | cons x l=>rw[Qj (by rw[List.length_cons];omega)];simp
theorem Ho {c:A7} {x:Int} (hx:Bm c x=true):(1:Int)≤((Ab c x).length:Int):=by rw[Cw hx,List.length_cons];omega
end Go.Av.Ch
set_option maxRecDepth 100000
namespace Go.Av.Ch
theorem sa {c:A7} (G:Good c) {x:Int} (hx:Bm c x=true) {m:List Int} (M:MemOk c m) (leaf:Int) {a:List (List UInt8)} (ha:a.length≤100000):Qr x c leaf m a=some (m.set x.toNat (-1)):=by
 have he:=G.entry x hx
 have hl:=(Dd hx).2.2
 have h1:(a.length+(c.A4.getD x.toNat default).Az.length) * 16≤140737488355328:=by unfold Cj at he;omega
 have h2:x < (m.length:Int):=by have:=M.len;have:=isS_iff.1 hx;omega
 have h3:x.toNat < m.length:=by have:=M.len;omega
 delta Qr js
 simp only[↓JD.sg_m,↓JD.sq_m,↓JD.sc_m,↓JD.bk_m,↓JD.lp_m,↓JD.cd_m,↓JD.lu_m,↓JD.ct_m,↓JD.ce_m,↓JL.r_m,↓JL.z_m,↓JD.se_m,Bi,↓Tr.run,↓Tr.run_nd,↓Tr.run_c3,↓Tr.run_c2,↓Tr.run_nx,↓As,Ao,Option.bind_some,Option.bind_none,Ca,Dd hx,h1,h2,h3,if_true]
 by_cases hh:(c.A4.getD x.toNat default).Aw=true
 ·simp only[hh,if_true]
 ·have hh:=Bool.eq_false_iff.2 hh
  simp only[hh,Bool.false_eq_true,if_false]
  rw[kr h3 (M.none hx hh)]
theorem enter_eq {c:A7} (G:Good c) (H:Fit c) {x:Int} (hx:Bm c x=true) {m:List Int} (M:MemOk c m) (leaf:Int) {a:List (List UInt8)} (ha:a.length≤80000):Yk x c leaf m a=some (L5 c x m a):=by
 have hs:=H.states
 have hm:=M.len
 delta Yk kv
 simp only[↓JD.sg_m,↓JD.sq_m,↓JD.sc_m,↓JD.bk_m,↓JD.lp_m,↓JD.cd_m,↓JD.lu_m,↓JD.ct_m,↓JD.ce_m,↓JL.r_m,↓JL.z_m,↓JD.se_m,Bi,↓Tr.run,↓Tr.run_nd,↓Tr.run_c3,↓Tr.run_c2,↓Tr.run_nx,↓As,Ao,Option.bind_some,Option.bind_none,Ca]
 refine Xy G (fun x m' a hx M' ha=>?_) _ _ _ _ hx M (by omega) (by omega)
 have hl:=(Dd hx).2.2
 have h2:x < (m.length:Int):=by have:=isS_iff.1 hx;omega
 have h3:x.toNat < m.length:=by omega
 have h4:At m' 0 m.length=m':=Ej (by rw[M'.len,hm])
 simp only[Dd hx,h2,h3,h4,implies_true,if_true,sa G hx M' leaf ha,Option.bind_some]
 cases hc:Dc c x with
 | true =>
  obtain⟨q1,q2⟩:=Gw G (H7 G M' hx hc)
  have q3:=isS_iff.1 q1
  unfold My Cj at *
  simp only[if_true]
  by_cases hh:((c.A4.getD x.toNat default).Aw&&(m'.getD x.toNat default != (-1:Int)))=true
  ·rw[if_pos hh]at q3
   have:(m'.getD x.toNat default==(-1:Int))=false:=by simp only[beq_eq_false_iff_ne,ne_eq];omega
   simp only[hh,this,if_true,Bool.false_eq_true,if_false]
  ·rw[if_neg hh]at q3
   have hh:=Bool.eq_false_iff.2 hh
   have:((c.A4.getD x.toNat default).B0==(-1:Int))=false:=by simp only[beq_eq_false_iff_ne,ne_eq];omega
   simp only[hh,this,if_true,Bool.false_eq_true,if_false]
 | false =>
  obtain⟨q1,q2⟩:=G.leafI x hx hc
  unfold Cj at *
  simp only[q1,q2,Bool.false_and,Bool.false_eq_true,if_false,beq_self_eq_true,if_true]
  rw[kr (by rw[M'.len];omega) (M'.none hx q2)]
theorem scope_eq {c:A7} (H:Fit c) {a b:Int} (ha:Bm c a=true) (hb:Bm c b=true):m114 c a b=some (C7 c a b):=by
 have hs:=H.states
 have hla:=Dk c a
 have hlb:=Dk c b
 have hl:(Ab c b).tail.length≤100000:=by rw[List.length_tail];omega
 delta m114 d114
 simp only[↓JD.sg_m,↓JD.sq_m,↓JD.sc_m,↓JD.bk_m,↓JD.lp_m,↓JD.cd_m,↓JD.lu_m,↓JD.ct_m,↓JD.ce_m,↓JL.r_m,↓JL.z_m,↓JD.se_m,Bi,↓Tr.run,↓Tr.run_nd,↓Tr.run_c3,↓Tr.run_c2,↓Tr.run_nx,↓As,Ao,Option.bind_some,Option.bind_none,Ca,Nq c H,Option.bind_some,Int.reduceLE,Ho ha,Ho hb,if_true,Gn,Int.toNat_one,O9,Hf _ _ hl]
 rw[show ((Ab c a).length - 1)=(Ab c a).tail.length by rw[List.length_tail]]
 rw[D4 (Ab c a).tail.length (fun i=>if Df (Ab c b).tail (Ab c b).tail.length ((Ab c a).tail.getD i default)=true then some ((Ab c a).tail.getD i default)else none) ?_ ?_,Q0,Hg];rfl
 ·intro i hi
  rw[List.length_tail]at hi
  have hi':i < (Ab c a).tail.length:=by rw[List.length_tail];exact hi
  have hta:(Ab c a).tail.length≤1000:=by rw[List.length_tail];omega
  simp only[C2,Bx,Br]
  simp only[C3 hi',decide_true,Int.toNat_natCast,if_true,D7 hi' (by omega)]
 ·(simp only[Bb,decide_false,Bool.false_eq_true,if_false];try rfl)
theorem cm {c:A7} (G:Good c) (s:Int) {p:List Int} {S X:Type} {b:S→Option (S⊕X)} (mk:Int→Int→List Int→List (List UInt8)→S) (out:List Int×List (List UInt8)→X)
  (hb:∀ (pre l:List Int) (x last:Int) (m:List Int) (a:List (List UInt8)),p=pre++x :: l→Bm c x=true→MemOk c m→((last = -1∧(Cj c x).Aw=false)∨Dm c last x=true)→a.length≤90000 →
   b (mk last (pre.length:Int) m a)=if(x==s)=true then some (.inr (out (m,a)))else some (.inl (mk x ((pre.length+1:Nat):Int) (if((Cj c x).Aw&&(last != (-1:Int)))=true then m.set x.toNat last else m) (a++(Cj c x).Exit))))
  (he:∀ last m a,b (mk last (p.length:Int) m a)=some (.inr (out (m,a)))) :
  ∀ (n:Nat) (pre:List Int) (x last:Int) (m:List Int) (a:List (List UInt8)),p=pre++Ab c x→x.toNat≤n→Bm c x=true→MemOk c m→((last = -1∧(Cj c x).Aw=false)∨Dm c last x=true)→a.length+8 * (n+1)≤90000 →
   Bl b (mk last (pre.length:Int) m a)=some (out (Cn c s (Ab c x) last m a)):=by
 intro n
 induction n with
 | zero =>
  intro pre x last m' a hpre hn hx M' hl ha
  have he8:=G.exit_ x hx
  rw[Cw hx]at hpre ⊢
  rw[Cd,hb pre _ x last m' a hpre hx M' hl (by omega)]
  unfold Cn
  by_cases hxs:(x==s)=true
  ·simp only[hxs,if_true,Option.bind_some]
  ·simp only[hxs,if_false,Bool.false_eq_true,Option.bind_some]
   cases ht:Dn c x with
   | false=>have:=(G3 G hx ht).2.1;omega
   | true =>
    rw[ht]at hpre
    simp only[if_true]at hpre ⊢
    rw[Cd,show pre.length+1=p.length by rw[hpre];simp,he];rfl
 | succ n ih =>
  intro pre x last m' a hpre hn hx M' hl ha
  have he8:=G.exit_ x hx
  rw[Cw hx]at hpre ⊢
  rw[Cd,hb pre _ x last m' a hpre hx M' hl (by omega)]
  unfold Cn
  by_cases hxs:(x==s)=true
  ·simp only[hxs,if_true,Option.bind_some]
  ·simp only[hxs,if_false,Bool.false_eq_true,Option.bind_some]
   cases ht:Dn c x with
   | true =>
    rw[ht]at hpre
    simp only[if_true]at hpre ⊢
    rw[Cd,show pre.length+1=p.length by rw[hpre];simp,he];rfl
   | false =>
    obtain⟨p1,p2,p3⟩:=G3 G hx ht
    rw[ht]at hpre
    simp only[Bool.false_eq_true,if_false]at hpre ⊢
    have:=ih (pre++[x]) (Cj c x).Al x _ (a++(Cj c x).Exit) (by rw[hpre];simp[Cj]) (by omega) p1 (Po M' hx (hl.imp (·.1) id)) (.inr p3) (by rw[List.length_append];omega)
    rw[List.length_append]at this
    exact this
theorem leave_eq {c:A7} (G:Good c) (H:Fit c) (s:Int) {leaf:Int} (hx:Bm c leaf=true) (hc:Dc c leaf=false) {m:List Int} (M:MemOk c m):Xg s c leaf m []=some (Cn c s (Ab c leaf) (-1) m []):=by
 have hs:=H.states
 have hm:=M.len
 have hp:=Dk c leaf
 have hlf:=(Dd hx).2.2
 have hh:=(G.leafI leaf hx hc).2
 delta Xg mn
 simp only[↓JD.sg_m,↓JD.sq_m,↓JD.sc_m,↓JD.bk_m,↓JD.lp_m,↓JD.cd_m,↓JD.lu_m,↓JD.ct_m,↓JD.ce_m,↓JL.r_m,↓JL.z_m,↓JD.se_m,Bi,↓Tr.run,↓Tr.run_nd,↓Tr.run_c3,↓Tr.run_c2,↓Tr.run_nx,↓As,Ao,Option.bind_some,Option.bind_none,Ca,Nq c H,Gn]
 generalize hP:Ab c leaf=p at *
 rw[show Cn c s p (-1) m []=Cn c s (Ab c leaf) (-1) m [] by rw[hP]]
 refine cm G s (p:=p) (fun last i m a=>(last,i,m,a)) id (fun pre l x last m' a hpre hx M' hl ha=>?_) (fun last m' a=>?_) leaf.toNat [] leaf (-1) m [] (by rw[hP];rfl) (Nat.le_refl _) hx M (.inl ⟨rfl,hh⟩) (by simp;omega)
 ·have hi:pre.length < p.length:=by rw[hpre];simp
  have hg:p.getD pre.length default=x:=by rw[hpre];simp[List.getD_eq_getElem?_getD]
  have he8:=G.exit_ x hx
  have h1:(a.length+(c.A4.getD x.toNat default).Exit.length) * 16≤140737488355328:=by unfold Cj at he8;omega
  have h2:x < (m.length:Int):=by have:=isS_iff.1 hx;omega
  have h3:x.toNat < m.length:=by have:=(Dd hx).2.2;omega
  have h4:At m' 0 m.length=m':=Ej (by rw[M'.len,hm])
  simp only[C3 hi,decide_true,Int.toNat_natCast,if_true,hg,Dd hx,h1,h2,h3,h4,D7 hi (by omega)]
  refine Ds ?_
  unfold Cj
  by_cases hh:((c.A4.getD x.toNat default).Aw&&(last != (-1:Int)))=true
  ·simp only[hh,if_true];rfl
  ·simp only[hh,if_false,Bool.false_eq_true];rfl
 ·simp only[Bb,decide_false,Bool.false_eq_true,if_false];rfl
theorem p6 {c:A7} (G:Good c) {l:List Int} (hl:∀ x∈l,Bm c x=true) (h1:l.length≤2000) {m:List Int} (M:MemOk c m) {a:List (List UInt8)} (ha:a.length≤60000) {f:List Int×List (List UInt8)→Nat→Option (List Int×List (List UInt8))}
  (hf:∀ (x:Int) (i:Nat) (m':List Int) (a':List (List UInt8)),i < l.length→l.getD i 0=x→Bm c x=true→MemOk c m'→a'.length≤100000→f (m',a') i=some (m'.set x.toNat (-1),a'++(Cj c x).Az)) :
  (dn l.length l.length).foldlM f (m,a)=some (Cf c l m a):=by
 have key:∀ k,k≤l.length→(dn l.length k).foldlM f (m,a)=some (Cf c (l.drop (l.length - k)) m a):=by
  intro k
  induction k with
  | zero=>intro _;simp[dn,Cf]
  | succ k ih =>
   intro hk
   have e:dn l.length (k+1)=dn l.length k++[l.length - 1 - k]:=by unfold dn;rw[List.range_succ,List.map_append];rfl
   have hi:l.length - 1 - k < l.length:=by omega
   have hd:l.drop (l.length - (k+1))=l.getD (l.length - 1 - k) 0 :: l.drop (l.length - k):=by
    rw[show l.length - (k+1)=l.length - 1 - k by omega,List.drop_eq_getElem_cons hi,show l.length - 1 - k+1=l.length - k by omega]
    simp[List.getD_eq_getElem?_getD,List.getElem?_eq_getElem hi]
   have hx:Bm c (l.getD (l.length - 1 - k) 0)=true:=hl _ (by rw[List.getD_eq_getElem?_getD,List.getElem?_eq_getElem hi];exact List.getElem_mem hi)
   obtain⟨k1,k2⟩:=Em G (a:=a) M (l.drop (l.length - k)) fun x hx=>hl x (List.mem_of_mem_drop hx)
   rw[e,List.foldlM_append,ih (by omega),hd]
   show (f _ _).bind _=_
   rw[hf _ _ _ _ hi rfl hx k1 (by rw[List.length_drop]at k2;omega)]
   rfl
 have:=key l.length (Nat.le_refl _)
 rwa [Nat.sub_self,List.drop_zero]at this
theorem po {c:A7} (G:Good c) (H:Fit c) {to:Int} (ht:Bm c to=true) (s:Int) (leaf:Int) {m:List Int} (M:MemOk c m) {a:List (List UInt8)} (ha:a.length≤60000) :
  Xb to s c leaf m a=some (L5 c to (Cf c (C1 s (Ab c to).tail) m a).1 (Cf c (C1 s (Ab c to).tail) m a).2):=by
 have hs:=H.states
 have hm:=M.len
 have hp:=Dk c to
 have hl:(Ab c to).tail.length≤100000:=by rw[List.length_tail];omega
 obtain⟨u1,u2⟩:=ls (s:=s) (Ab c to).tail
 have hu:=Ro (s:=s) (l:=(Ab c to).tail)
 have e1:(Qm to s c leaf m a).m=some (Ab c to).tail:=by
  delta Qm
  simp only[↓JD.sg_m,↓JD.sq_m,↓JD.sc_m,↓JD.bk_m,↓JD.lp_m,↓JD.cd_m,↓JD.lu_m,↓JD.ct_m,↓JD.ce_m,↓JL.r_m,↓JL.z_m,↓JD.se_m,Bi,↓Tr.run,↓Tr.run_nd,↓Tr.run_c3,↓Tr.run_c2,↓Tr.run_nx,↓As,Ao,Option.bind_some,Option.bind_none,Ca,Nq c H,Option.bind_some,Int.reduceLE,Ho ht,if_true,Int.toNat_one,O9]
 have e2:(Qn to s c leaf m a (Ab c to).tail).m=some (C1 s (Ab c to).tail):=by
  delta Qn
  simp only[↓JD.sg_m,↓JD.sq_m,↓JD.sc_m,↓JD.bk_m,↓JD.lp_m,↓JD.cd_m,↓JD.lu_m,↓JD.ct_m,↓JD.ce_m,↓JL.r_m,↓JL.z_m,↓JD.se_m,Bi,↓Tr.run,↓Tr.run_nd,↓Tr.run_c3,↓Tr.run_c2,↓Tr.run_nx,↓As,Ao,Option.bind_some,Option.bind_none,Ca,ci _ _ hl]
  rw[← u1]
  by_cases h0:decide (0≤Do (fun i=>s==(Ab c to).tail.getD i default) (Ab c to).tail.length)=true
  ·have h1:0≤Do (fun i=>s==(Ab c to).tail.getD i default) (Ab c to).tail.length:=by simpa using h0
   simp only[h1,u2,decide_true,if_true]
  ·simp only[h0,if_false,Bool.false_eq_true]
 have e3:(Qq to s c leaf m a (Ab c to).tail (C1 s (Ab c to).tail)).m=some ():=by
  delta Qq
  simp only[↓JD.sg_m,↓JD.sq_m,↓JD.sc_m,↓JD.bk_m,↓JD.lp_m,↓JD.cd_m,↓JD.lu_m,↓JD.ct_m,↓JD.ce_m,↓JL.r_m,↓JL.z_m,↓JD.se_m,Bi,↓Tr.run,↓Tr.run_nd,↓Tr.run_c3,↓Tr.run_c2,↓Tr.run_nx,↓As,Ao,Option.bind_some,Option.bind_none,Ca,ga,mv]
 obtain⟨r1,r2⟩:=Em G (a:=a) M (C1 s (Ab c to).tail) fun x hx=>En x (Gr x hx)
 rw[List.length_tail]at hu
 delta Xb
 rw[show (Uh to s c leaf m a).m=some () from rfl,Option.bind_some,e1,Option.bind_some,e2,Option.bind_some,e3,Option.bind_some,if_pos (by omega)]
 rw[p6 G (fun x hx=>En x (Gr x hx)) (by omega) M ha ?_,Option.bind_some]
 ·delta Uo
  have h4:At (Cf c (C1 s (Ab c to).tail) m a).1 0 m.length=(Cf c (C1 s (Ab c to).tail) m a).1:=Ej (by rw[r1.len,hm])
  simp only[↓JD.sg_m,↓JD.sq_m,↓JD.sc_m,↓JD.bk_m,↓JD.lp_m,↓JD.cd_m,↓JD.lu_m,↓JD.ct_m,↓JD.ce_m,↓JL.r_m,↓JL.z_m,↓JD.se_m,Bi,↓Tr.run,↓Tr.run_nd,↓Tr.run_c3,↓Tr.run_c2,↓Tr.run_nx,↓As,Ao,Option.bind_some,Option.bind_none,Ca,h4,enter_eq G H ht r1 leaf (a:=(Cf c (C1 s (Ab c to).tail) m a).2) (by omega)]
 ·intro x i m' a' hi hg hx M' ha'
  have h4:At m' 0 m.length=m':=Ej (by rw[M'.len,hm])
  delta gc
  simp only[hg,h4,sa G hx M' leaf ha',Option.map_some]
theorem m9 {c:A7} (H:Fit c) {g:A9} (hl:g.A6.length=c.A4.length):X6 c g=some ():=by
 have hs:=H.states
 have h1:((0:Int)≤(g.A6.length:Int)):=by omega
 have h2:(g.A6.length:Int) * 8≤140737488355328:=by omega
 have h3:(g.A6.length:Int)≤9223372036854775807:=by omega
 delta X6 tg
 simp only[↓JD.sg_m,↓JD.sq_m,↓JD.sc_m,↓JD.bk_m,↓JD.lp_m,↓JD.cd_m,↓JD.lu_m,↓JD.ct_m,↓JD.ce_m,↓JL.r_m,↓JL.z_m,↓JD.se_m,Bi,↓Tr.run,↓Tr.run_nd,↓Tr.run_c3,↓Tr.run_c2,↓Tr.run_nx,↓As,Ao,Option.bind_some,Option.bind_none,Ca,h1,h2,h3,if_true]
theorem Zb {l:List Int} {n:Nat} (h:l.length=n):Gq (List.replicate n (0:Int)) l=l:=by
 subst h
 rw[Gq,List.length_replicate,List.take_length,List.drop_eq_nil_of_le (by simp),List.append_nil]
theorem fire_of {c:A7} (G:Good c) (H:Fit c) {g:A9} (hg:C4 c g=true) {i:Nat} (hi:i < c.A0.length) (he:C8 c=some 0) (hon:Df (Ab c g.Leaf) (Ab c g.Leaf).length (c.A0.getD i default).From=true) :
  Ji c g i=some (⟨(Ea c g (c.A0.getD i default)).1,(Ea c g (c.A0.getD i default)).2.1⟩,(Ea c g (c.A0.getD i default)).2.2,0):=by
 have hs:=H.states
 obtain⟨v1,v2,v3⟩:=validS_iff.1 hg
 have hml:=v3.len
 have hp:=Dk c g.Leaf
 have hlf:=(Dd v1).2.2
 have ha:=G.acts i hi
 obtain⟨hf,ht⟩:=G.tr i hi
 obtain⟨a1,a2⟩:=P2 G (s:=C7 c (c.A0.getD i default).From (c.A0.getD i default).To) g.Leaf.toNat g.Leaf (-1) g.A6 [] (Nat.le_refl _) v1 v3 (.inl rfl)
 simp only[List.length_nil]at a2
 have h16:((Cn c (C7 c (c.A0.getD i default).From (c.A0.getD i default).To) (Ab c g.Leaf) (-1) g.A6 []).2.length+(c.A0.getD i default).B9.length) * 16≤140737488355328:=by omega
 have hsub:∀ m:List Int,m.length=c.A4.length→At m 0 g.A6.length=m:=fun m h=>Ej (by rw[h,hml])
 have hrange:(decide ((i:Int) < 0) || decide ((c.A0.length:Int)≤(i:Int)))=false:=by simp;omega
 have hend:=(X3 G H hg hi).1
 have hmend:=(validS_iff.1 hend).2.2.len
 delta Ji l4
 simp only[↓JD.sg_m,↓JD.sq_m,↓JD.sc_m,↓JD.bk_m,↓JD.lp_m,↓JD.cd_m,↓JD.lu_m,↓JD.ct_m,↓JD.ce_m,↓JL.r_m,↓JL.z_m,↓JD.se_m,Bi,↓Tr.run,↓Tr.run_nd,↓Tr.run_c3,↓Tr.run_c2,↓Tr.run_nx,↓As,Ao,Option.bind_some,Option.bind_none,Ca,Hk c H,he,Rs c H,hg,Nq c H,C3 hi,Int.toNat_natCast,if_true,Option.bind_some,Hf _ _ (show (Ab c g.Leaf).length≤100000 by omega),hon,hrange,m9 H hml,scope_eq H hf ht,Zb (rfl:g.A6.length=_),leave_eq G H _ v1 v2 v3,h16,
  hsub _ a1.len,bne_self_eq_false,Bool.not_true,Bool.false_eq_true,if_false]
 rw[po G H ht _ _ a1 (by rw[List.length_append];omega)]
 simp only[Option.bind_some]
 have:=hsub _ hmend
 unfold Ea at this
 rw[this]
 rfl
theorem gb {c:A7} (H:Fit c) {g:A9} {t:Int}:Ji c g t=(C8 c).bind fun e=>if(e != 0)=true then some (⟨0,[]⟩,[],e)else if(!C4 c g)=true then some (⟨0,[]⟩,[],8)else if(decide (t < 0) || decide ((c.A0.length:Int)≤t))=true then some (⟨0,[]⟩,[],2)else
  if(!Df (Ab c g.Leaf) (Ab c g.Leaf).length (c.A0.getD t.toNat default).From)=true then some (⟨0,[]⟩,[],9)else some (⟨(Ea c g (c.A0.getD t.toNat default)).1,(Ea c g (c.A0.getD t.toNat default)).2.1⟩,(Ea c g (c.A0.getD t.toNat default)).2.2,0):=by
 have hs:=H.states
 have hp:=Dk c g.Leaf
 obtain⟨e,he⟩:=Cz c
 rw[he,Option.bind_some]
 by_cases h0:(e != 0)=true
 ·delta Ji l4
  simp only[↓JD.sg_m,↓JD.sq_m,↓JD.sc_m,↓JD.bk_m,↓JD.lp_m,↓JD.cd_m,↓JD.lu_m,↓JD.ct_m,↓JD.ce_m,↓JL.r_m,↓JL.z_m,↓JD.se_m,Bi,↓Tr.run,↓Tr.run_nd,↓Tr.run_c3,↓Tr.run_c2,↓Tr.run_nx,↓As,Ao,Option.bind_some,Option.bind_none,Ca,Hk c H,he,Option.bind_some,h0,if_true]
 have h0':e=0:=by simpa using h0
 subst h0'
 simp only[h0,if_false,Bool.false_eq_true]
 cases hv:C4 c g with
 | false =>
  delta Ji l4
  simp only[↓JD.sg_m,↓JD.sq_m,↓JD.sc_m,↓JD.bk_m,↓JD.lp_m,↓JD.cd_m,↓JD.lu_m,↓JD.ct_m,↓JD.ce_m,↓JL.r_m,↓JL.z_m,↓JD.se_m,Bi,↓Tr.run,↓Tr.run_nd,↓Tr.run_c3,↓Tr.run_c2,↓Tr.run_nx,↓As,Ao,Option.bind_some,Option.bind_none,Ca,Hk c H,he,Option.bind_some,h0,if_false,Bool.false_eq_true,Rs c H,hv,Bool.not_false,if_true]
 | true =>
  by_cases hr:(decide (t < 0) || decide ((c.A0.length:Int)≤t))=true
  ·delta Ji l4
   simp only[↓JD.sg_m,↓JD.sq_m,↓JD.sc_m,↓JD.bk_m,↓JD.lp_m,↓JD.cd_m,↓JD.lu_m,↓JD.ct_m,↓JD.ce_m,↓JL.r_m,↓JL.z_m,↓JD.se_m,Bi,↓Tr.run,↓Tr.run_nd,↓Tr.run_c3,↓Tr.run_c2,↓Tr.run_nx,↓As,Ao,Option.bind_some,Option.bind_none,Ca,Hk c H,he,Option.bind_some,h0,if_false,Bool.false_eq_true,Rs c H,hv,Bool.not_true,hr,if_true]
  ·have hr':=Bool.eq_false_iff.2 hr
   simp only[Bool.or_eq_false_iff,decide_eq_false_iff_not]at hr'
   obtain⟨i,rfl⟩:=Int.eq_ofNat_of_zero_le (show 0≤t by omega)
   have hi:i < c.A0.length:=by omega
   cases hon:Df (Ab c g.Leaf) (Ab c g.Leaf).length (c.A0.getD i default).From with
   | true=>rw[fire_of (Ge he) H hv hi he hon];simp only[hr,Int.toNat_natCast,hon,Bool.not_true,Bool.false_eq_true,if_false]
   | false =>
    delta Ji l4
    simp only[↓JD.sg_m,↓JD.sq_m,↓JD.sc_m,↓JD.bk_m,↓JD.lp_m,↓JD.cd_m,↓JD.lu_m,↓JD.ct_m,↓JD.ce_m,↓JL.r_m,↓JL.z_m,↓JD.se_m,Bi,↓Tr.run,↓Tr.run_nd,↓Tr.run_c3,↓Tr.run_c2,↓Tr.run_nx,↓As,Ao,Option.bind_some,Option.bind_none,Ca,Hk c H,he,Option.bind_some,h0,if_false,Bool.false_eq_true,Rs c H,hv,Bool.not_true,hr,if_true,C3 hi,Int.toNat_natCast,Nq c H,Hf _ _ (show (Ab c g.Leaf).length≤100000 by omega),hon,Bool.not_false]
end Go.Av.Ch
set_option maxRecDepth 100000
namespace Go.Av.Ch
theorem Yt {s:Int} {l:List Int} (h:∀ x∈l,x≠s):C1 s l=l:=by
 unfold C1
 induction l with
 | nil=>rfl
 | cons x l ih =>
  have hx:(s==x)=false:=by simp only[beq_eq_false_iff_ne,ne_eq];exact fun e=>h x (by simp) e.symm
  rw[List.takeWhile_cons,hx,ih fun y hy=>h y (List.mem_cons_of_mem _ hy)];rfl
def O8 (c:A7):Option (Int×List (List UInt8)×Int×List Int):=(C8 c).bind fun e=>if(e != 0)=true then some (e,[],0,[])else some (0,(Dq c).2.2,(Dq c).1,(Dq c).2.1)
theorem gr (c:A7) (H:Fit c):Rw c=O8 c:=by
 obtain⟨e,he⟩:=Cz c
 unfold O8
 rw[he,Option.bind_some]
 delta Rw tf
 by_cases h0:(e != 0)=true
 ·simp only[↓JD.sg_m,↓JD.sq_m,↓JD.sc_m,↓JD.bk_m,↓JD.lp_m,↓JD.cd_m,↓JD.lu_m,↓JD.ct_m,↓JD.ce_m,↓JL.r_m,↓JL.z_m,↓JD.se_m,Bi,↓Tr.run,↓Tr.run_nd,↓Tr.run_c3,↓Tr.run_c2,↓Tr.run_nx,↓As,Ao,Option.bind_some,Option.bind_none,Ca,Hk c H,he,h0,if_true]
 ·have h0':e=0:=by simpa using h0
  subst h0'
  have G:=Ge he
  have hcap:=G.cap
  have hrep:m64 [-1] (c.A4.length:Int)=some (List.replicate c.A4.length (-1)):=by
   unfold m64
   simp only[Int.toNat_natCast]
   rw[if_pos (by omega)]
  have hb:=m9 H (g:=⟨0,List.replicate c.A4.length (-1)⟩) (by simp)
  have hl:(List.replicate c.A4.length (-1:Int)).length=c.A4.length:=by simp
  have hu:C1 (-1) (Ab c c.Start).tail=(Ab c c.Start).tail:=Yt fun x hx=>by
   have:=isS_iff.1 (En x hx);omega
  have hi:=po G H G.start (-1) 0 Mg (a:=[]) (by simp)
  rw[hu]at hi
  have hend:=(Sz G H).1
  have hmend:=(validS_iff.1 hend).2.2.len
  simp only[↓JD.sg_m,↓JD.sq_m,↓JD.sc_m,↓JD.bk_m,↓JD.lp_m,↓JD.cd_m,↓JD.lu_m,↓JD.ct_m,↓JD.ce_m,↓JL.r_m,↓JL.z_m,↓JD.se_m,Bi,↓Tr.run,↓Tr.run_nd,↓Tr.run_c3,↓Tr.run_c2,↓Tr.run_nx,↓As,Ao,Option.bind_some,Option.bind_none,Ca,Hk c H,he,h0,if_false,Bool.false_eq_true,hrep,hb,hl,Int.toNat_natCast,Zb hl,hi]
  rw[Ej (by unfold Dq at hmend;exact hmend)]
  rfl
theorem J7 {c:A7} {leaf v:Int} (h:0 < (Ad c leaf v).length):∃ i,i < c.A0.length∧(Ad c leaf v).getD 0 default=(i:Int)∧Df (Ab c leaf) (Ab c leaf).length (c.A0.getD i default).From=true:=by
 have hm:(Ad c leaf v).getD 0 default∈Ad c leaf v:=Bj h
 generalize (Ad c leaf v).getD 0 default=x at *
 unfold Ad at hm
 obtain⟨i,hi,hx⟩:=List.mem_flatMap.1 hm
 unfold Jl at hx
 split at hx
 ·rename_i h1
  simp only[Bool.and_eq_true]at h1
  exact⟨i,List.mem_range.1 hi,by simpa using hx,h1.1⟩
 ·cases hx
def Cr (c:A7) (g:A9) (t:Int):A9×List (List UInt8)×Int:=(⟨(Ea c g (c.A0.getD t.toNat default)).1,(Ea c g (c.A0.getD t.toNat default)).2.1⟩,(Ea c g (c.A0.getD t.toNat default)).2.2,0)
def Js (c:A7) (g:A9) (v:Int):Option (A9×List (List UInt8)×Int):=(C8 c).bind fun e=>if(e != 0)=true then some (⟨0,[]⟩,[],e)else if(!C4 c g)=true then some (⟨0,[]⟩,[],8)else if(!Cx c v)=true then some (⟨0,[]⟩,[],1)else
 if(((Ad c g.Leaf v).length:Int)==0)=true then some (⟨0,[]⟩,[],6)else if(((Ad c g.Leaf v).length:Int)==1)=true then some (Cr c g ((Ad c g.Leaf v).getD 0 default))else some (⟨0,[]⟩,[],11)
theorem tm (c:A7) (g:A9) (v:Int):∃ r,Js c g v=some r:=by
 obtain⟨e,he⟩:=Cz c
 unfold Js
 rw[he,Option.bind_some]
 exact Fx (Fx (Fx (Fx (Fx ⟨_,rfl⟩))))
theorem stepM_ok {c:A7} (H:Fit c) {g:A9} {v:Int} {r:A9×List (List UInt8)×Int} (h:Js c g v=some r):r.2.1.length≤32000∧(r.2.2=0→C8 c=some 0∧C4 c g=true∧C4 c r.1=true):=by
 obtain⟨e,he⟩:=Cz c
 unfold Js at h
 rw[he,Option.bind_some]at h
 split at h
 ·rename_i h0;injection h with h;subst h;exact⟨by simp,fun h=>absurd h (by simpa using h0)⟩
 rename_i h0
 have h0':e=0:=by simpa using h0
 subst h0'
 split at h
 ·injection h with h;subst h;exact⟨by simp,fun h=>absurd h (by decide)⟩
 rename_i hv
 have hv:C4 c g=true:=by simpa using hv
 split at h
 ·injection h with h;subst h;exact⟨by simp,fun h=>absurd h (by decide)⟩
 split at h
 ·injection h with h;subst h;exact⟨by simp,fun h=>absurd h (by decide)⟩
 split at h
 ·rename_i h1
  have hl:(Ad c g.Leaf v).length=1:=by have:=eq_of_beq h1;omega
  obtain⟨i,hi,hx,hon⟩:=J7 (c:=c) (leaf:=g.Leaf) (v:=v) (by omega)
  injection h with h;subst h
  rw[hx]
  unfold Cr
  rw[Int.toNat_natCast]
  obtain⟨k1,k2⟩:=X3 (Ge he) H hv hi
  exact⟨k2,fun _=>⟨he,hv,k1⟩⟩
 ·injection h with h;subst h;exact⟨by simp,fun h=>absurd h (by decide)⟩
end Go.Av.Ch
set_option maxRecDepth 100000
namespace Go.Av.Ch
theorem cr {c:A7} (G:Good c) {l:List Int} (hl:∀ x∈l,Bm c x=true) (h1:l.length≤2000) {m:List Int} (M:MemOk c m) {a:List (List UInt8)} (ha:a.length≤60000) {R:Type} {b:List Int×List (List UInt8)×Int→Option ((List Int×List (List UInt8)×Int)⊕((List Int×List (List UInt8))⊕R))}
  (hb:∀ (j:Nat) (m:List Int) (a:List (List UInt8)) (x:Int),j < l.length→l.getD j default=x→Bm c x=true→MemOk c m→a.length≤100000→b (m,a,(j:Int))=some (.inl (m.set x.toNat (-1),a++(Cj c x).Az,(j:Int) - 1)))
  (he:∀ m a,b (m,a,-1)=some (.inr (.inl (m,a)))):Bl b (m,a,(l.length:Int) - 1)=some (.inl (Cf c l m a)):=by
 have key:∀ j,j≤l.length→Bl b ((Cf c (l.drop j) m a).1,(Cf c (l.drop j) m a).2,(j:Int) - 1)=some (.inl (Cf c l m a)):=by
  intro j
  induction j with
  | zero=>intro _;rw[show ((0:Nat):Int) - 1 = -1 from rfl,Cd,he];rfl
  | succ j ih =>
   intro hj
   have hi:j < l.length:=by omega
   have hx:Bm c (l.getD j default)=true:=hl _ (Bj hi)
   obtain⟨k1,k2⟩:=Em G (a:=a) M (l.drop (j+1)) fun x hx=>hl x (List.mem_of_mem_drop hx)
   rw[show ((j+1:Nat):Int) - 1=(j:Int) by omega,Cd,hb j _ _ _ hi rfl hx k1 (by rw[List.length_drop]at k2;omega)]
   have hd:l.drop j=l.getD j default :: l.drop (j+1):=by
    rw[List.drop_eq_getElem_cons hi];simp[List.getD_eq_getElem?_getD,List.getElem?_eq_getElem hi]
   have:=ih (by omega)
   rw[hd]at this
   exact this
 have:=key l.length (Nat.le_refl _)
 rwa [List.drop_length]at this
theorem X7 {c:A7} (G:Good c) (H:Fit c) {l:List Int} (hl:∀ x∈l,Bm c x=true) (h1:l.length≤2000) {m:List Int} (M:MemOk c m) {a:List (List UInt8)} (ha:a.length≤60000) :
  X9 c m l a=some ((Cf c l m a).2,(Cf c l m a).1,(Cf c l m a).2):=by
 have hs:=H.states
 have hm:=M.len
 have w:IntKind.wrap .i64 ((l.length:Int) - 1)=(l.length:Int) - 1:=El (by omega) (by omega)
 delta X9 ks
 simp only[↓JD.sg_m,↓JD.sq_m,↓JD.sc_m,↓JD.bk_m,↓JD.lp_m,↓JD.cd_m,↓JD.lu_m,↓JD.ct_m,↓JD.ce_m,↓JL.r_m,↓JL.z_m,↓JD.se_m,Bi,↓Tr.run,↓Tr.run_nd,↓Tr.run_c3,↓Tr.run_c2,↓Tr.run_nx,↓As,Ao,Option.bind_some,Option.bind_none,Ca,w]
 refine E2 (cr G hl h1 M ha (fun j m' a' x hj hg hx M' ha'=>?_) fun m' a'=>rfl) rfl
 have he:=G.entry x hx
 have k1:(0+a'.length+(c.A4.getD x.toNat default).Az.length) * 16≤140737488355328:=by unfold Cj at he;omega
 have k0:(0+a'.length) * 16≤140737488355328:=by omega
 have k2:x < (m.length:Int):=by have:=isS_iff.1 hx;omega
 have k3:x.toNat < m.length:=by have:=(Dd hx).2.2;omega
 have k4:At m' 0 m.length=m':=Ej (by rw[M'.len,hm])
 have k5:(decide ((0:Int)≤(j:Int))=true)=True:=eq_true (by simp)
 have k6:IntKind.wrap .i64 ((j:Int) - 1)=(j:Int) - 1:=El (by omega) (by omega)
 simp only[C3 hj,k5,decide_true,Int.toNat_natCast,if_true,hg,Dd hx,k0,k1,k2,k3,k4,k6,List.nil_append]
theorem tx {c:A7} (G:Good c) (H:Fit c) {l:List Int} (hl:∀ x∈l,Bm c x=true) (h1:l.length≤2000) {m:List Int} (M:MemOk c m) {a:List (List UInt8)} (ha:a.length≤60000) :
  Z9 c m l a=some ((Cf c l m a).2,(Cf c l m a).1,(Cf c l m a).2):=by
 have hs:=H.states
 have hm:=M.len
 have w:IntKind.wrap .i64 ((l.length:Int) - 1)=(l.length:Int) - 1:=El (by omega) (by omega)
 delta Z9 ln
 simp only[↓JD.sg_m,↓JD.sq_m,↓JD.sc_m,↓JD.bk_m,↓JD.lp_m,↓JD.cd_m,↓JD.lu_m,↓JD.ct_m,↓JD.ce_m,↓JL.r_m,↓JL.z_m,↓JD.se_m,Bi,↓Tr.run,↓Tr.run_nd,↓Tr.run_c3,↓Tr.run_c2,↓Tr.run_nx,↓As,Ao,Option.bind_some,Option.bind_none,Ca,w]
 refine E2 (cr G hl h1 M ha (fun j m' a' x hj hg hx M' ha'=>?_) fun m' a'=>rfl) rfl
 have he:=G.entry x hx
 have k1:(0+a'.length+(c.A4.getD x.toNat default).Az.length) * 16≤140737488355328:=by unfold Cj at he;omega
 have k0:(0+a'.length) * 16≤140737488355328:=by omega
 have k2:x < (m.length:Int):=by have:=isS_iff.1 hx;omega
 have k3:x.toNat < m.length:=by have:=(Dd hx).2.2;omega
 have k4:At m' 0 m.length=m':=Ej (by rw[M'.len,hm])
 have k5:(decide ((0:Int)≤(j:Int))=true)=True:=eq_true (by simp)
 have k6:IntKind.wrap .i64 ((j:Int) - 1)=(j:Int) - 1:=El (by omega) (by omega)
 simp only[C3 hj,k5,decide_true,Int.toNat_natCast,if_true,hg,Dd hx,k0,k1,k2,k3,k4,k6,List.nil_append]
theorem da {c:A7} (G:Good c) (H:Fit c) {x:Int} (hx:Bm c x=true) {m:List Int} (M:MemOk c m) {a:List (List UInt8)} (ha:a.length≤80000):Sc c m x a=some ((L5 c x m a).2.2,(L5 c x m a).1,(L5 c x m a).2.1,(L5 c x m a).2.2):=by
 have hs:=H.states
 have hm:=M.len
 have he:=G.entry x hx
 have k0:(0+a.length) * 16≤140737488355328:=by omega
 have k1:(0+a.length+(c.A4.getD x.toNat default).Az.length) * 16≤140737488355328:=by unfold Cj at he;omega
 delta Sc fw
 simp only[↓JD.sg_m,↓JD.sq_m,↓JD.sc_m,↓JD.bk_m,↓JD.lp_m,↓JD.cd_m,↓JD.lu_m,↓JD.ct_m,↓JD.ce_m,↓JL.r_m,↓JL.z_m,↓JD.se_m,Bi,↓Tr.run,↓Tr.run_nd,↓Tr.run_c3,↓Tr.run_c2,↓Tr.run_nx,↓As,Ao,Option.bind_some,Option.bind_none,Ca,k0,k1,Dd hx,if_true,List.nil_append,Mp c _ (Nat.le_trans hs (by omega))]
 refine E2 (Vh G (fun x m' a hx M' ha=>?_) c.A4.length x m a hx M (by omega) (by omega)) rfl
 have hl:=(Dd hx).2.2
 have h2:x < (m.length:Int):=by have:=isS_iff.1 hx;omega
 have h3:x.toNat < m.length:=by omega
 have h4:At m' 0 m.length=m':=Ej (by rw[M'.len,hm])
 cases hc:Dc c x with
 | false=>simp only[Bool.false_eq_true,if_false]
 | true =>
  obtain⟨q1,q2⟩:=Gw G (H7 G M' hx hc)
  have q4:=G.entry _ q1
  have q5:(a.length+(Cj c (My c m' x)).Az.length) * 16≤140737488355328:=by omega
  have q6:=Dd q1
  unfold My Cj at *
  simp only[Dd hx,h2,h3,h4,implies_true,if_true]
  by_cases hh:((c.A4.getD x.toNat default).Aw&&(m'.getD x.toNat default != (-1:Int)))=true
  ·simp only[hh,if_true]at q5 q6 ⊢
   simp only[q5,q6,if_true]
  ·have hh:=Bool.eq_false_iff.2 hh
   simp only[hh,Bool.false_eq_true,if_false]at q5 q6 ⊢
   simp only[q5,q6,if_true]
theorem rscope_eq {c:A7} (H:Fit c) {a b:Int} (ha:Bm c a=true) (hb:Bm c b=true):m160 c a b=some (C7 c a b):=by
 have hs:=H.states
 have hla:=Dk c a
 have hlb:=Dk c b
 have hl:(Ab c b).tail.length≤100000:=by rw[List.length_tail];omega
 delta m160 d160
 simp only[↓JD.sg_m,↓JD.sq_m,↓JD.sc_m,↓JD.bk_m,↓JD.lp_m,↓JD.cd_m,↓JD.lu_m,↓JD.ct_m,↓JD.ce_m,↓JL.r_m,↓JL.z_m,↓JD.se_m,Bi,↓Tr.run,↓Tr.run_nd,↓Tr.run_c3,↓Tr.run_c2,↓Tr.run_nx,↓As,Ao,Option.bind_some,Option.bind_none,Ca,Ot c H,Option.bind_some,Int.reduceLE,Ho ha,Ho hb,if_true,Gn,Int.toNat_one,O9,f9 _ _ hl]
 rw[show ((Ab c a).length - 1)=(Ab c a).tail.length by rw[List.length_tail]]
 rw[D4 (Ab c a).tail.length (fun i=>if Df (Ab c b).tail (Ab c b).tail.length ((Ab c a).tail.getD i default)=true then some ((Ab c a).tail.getD i default)else none) ?_ ?_,Q0,Hg];rfl
 ·intro i hi
  have hta:(Ab c a).tail.length≤1000:=by rw[List.length_tail];omega
  simp only[C2,Bx,Br]
  simp only[C3 hi,decide_true,Int.toNat_natCast,if_true,D7 hi (by omega)]
 ·(simp only[Bb,decide_false,Bool.false_eq_true,if_false];try rfl)
theorem ut {s:Int} {l:List Int} {R:Type} {b:List Int×Int→Option ((List Int×Int)⊕(List Int⊕R))}
  (hb:∀ (j:Nat) (o:List Int) (x:Int),j < l.length→o.length≤j→l.getD j default=x→b (o,(j:Int))=if(x==s)=true then some (.inr (.inl o))else some (.inl (o++[x],((j+1:Nat):Int))))
  (he:∀ o,b (o,(l.length:Int))=some (.inr (.inl o))):Bl b ([],0)=some (.inl (C1 s l)):=by
 have key:∀ k j (o:List Int),j+k=l.length→o.length≤j→Bl b (o,(j:Int))=some (.inl (o++C1 s (l.drop j))):=by
  intro k
  induction k with
  | zero =>
   intro j o hk ho
   obtain rfl:j=l.length:=by omega
   rw[Cd,he,List.drop_length];simp[C1]
  | succ k ih =>
   intro j o hk ho
   have hj:j < l.length:=by omega
   have hd:l.drop j=l.getD j default :: l.drop (j+1):=by
    rw[List.drop_eq_getElem_cons hj];simp[List.getD_eq_getElem?_getD,List.getElem?_eq_getElem hj]
   rw[Cd,hb j o _ hj ho rfl,hd]
   by_cases hx:(l.getD j default==s)=true
   ·have hx':(s==l.getD j default)=true:=by rw[eq_of_beq hx];simp
    simp only[hx,if_true,Option.bind_some]
    unfold C1;rw[List.takeWhile_cons,hx'];simp
   ·have hx':(s==l.getD j default)=false:=by simp only[beq_eq_false_iff_ne,ne_eq];intro e;rw[e]at hx;simp at hx
    simp only[hx,if_false,Bool.false_eq_true,Option.bind_some]
    rw[ih (j+1) _ (by omega) (by rw[List.length_append];simp;omega)]
    unfold C1;rw[List.takeWhile_cons,hx'];simp
 exact key l.length 0 [] (by omega) (Nat.le_refl _)
theorem li {c:A7} (G:Good c) (H:Fit c) {g:A9} (hg:C4 c g=true) {i:Nat} (hi:i < c.A0.length) :
  kn c g (c.A0.getD i default)=some (⟨(Ea c g (c.A0.getD i default)).1,(Ea c g (c.A0.getD i default)).2.1⟩,(Ea c g (c.A0.getD i default)).2.2):=by
 have hs:=H.states
 obtain⟨v1,v2,v3⟩:=validS_iff.1 hg
 have hml:=v3.len
 have hne:=G.ne
 have hp:=Dk c g.Leaf
 have hlf:=(Dd v1).2.2
 have ha:=G.acts i hi
 obtain⟨hf,ht⟩:=G.tr i hi
 have hpt:=Dk c (c.A0.getD i default).To
 have hh:=(G.leafI g.Leaf v1 v2).2
 obtain⟨a1,a2⟩:=P2 G (s:=C7 c (c.A0.getD i default).From (c.A0.getD i default).To) g.Leaf.toNat g.Leaf (-1) g.A6 [] (Nat.le_refl _) v1 v3 (.inl rfl)
 simp only[List.length_nil]at a2
 have h16:((Cn c (C7 c (c.A0.getD i default).From (c.A0.getD i default).To) (Ab c g.Leaf) (-1) g.A6 []).2.length+(c.A0.getD i default).B9.length) * 16≤140737488355328:=by omega
 have hsub:∀ m:List Int,m.length=c.A4.length→At m 0 g.A6.length=m:=fun m h=>Ej (by rw[h,hml])
 have hend:=(X3 G H hg hi).1
 have hmend:=(validS_iff.1 hend).2.2.len
 have hu:=Ro (s:=C7 c (c.A0.getD i default).From (c.A0.getD i default).To) (l:=(Ab c (c.A0.getD i default).To).tail)
 obtain⟨r1,r2⟩:=Em G (a:=(Cn c (C7 c (c.A0.getD i default).From (c.A0.getD i default).To) (Ab c g.Leaf) (-1) g.A6 []).2++(c.A0.getD i default).B9) a1 (C1 (C7 c (c.A0.getD i default).From (c.A0.getD i default).To) (Ab c (c.A0.getD i default).To).tail) fun x hx=>En x (Gr x hx)
 have k0:0 < g.A6.length:=by omega
 have k1:g.A6.length * 8≤140737488355328:=by omega
 delta kn d126
 simp only[↓JD.sg_m,↓JD.sq_m,↓JD.sc_m,↓JD.bk_m,↓JD.lp_m,↓JD.cd_m,↓JD.lu_m,↓JD.ct_m,↓JD.ce_m,↓JL.r_m,↓JL.z_m,↓JD.se_m,Bi,↓Tr.run,↓Tr.run_nd,↓Tr.run_c3,↓Tr.run_c2,↓Tr.run_nx,↓As,Ao,Option.bind_some,Option.bind_none,Ca,k0,k1,if_true,rscope_eq H hf ht,Gn,Ot c H]
 refine E2 (y:=Cn c (C7 c (c.A0.getD i default).From (c.A0.getD i default).To) (Ab c g.Leaf) (-1) g.A6 []) ?_ ?_
 ·generalize hP:Ab c g.Leaf=p at *
  rw[show Cn c (C7 c (c.A0.getD i default).From (c.A0.getD i default).To) p (-1) g.A6 []=Cn c (C7 c (c.A0.getD i default).From (c.A0.getD i default).To) (Ab c g.Leaf) (-1) g.A6 [] by rw[hP]]
  refine cm G _ (p:=p) (fun last i m a=>(m,a,last,i)) Sum.inl (fun pre l x last m' a hpre hx M' hl ha=>?_) (fun last m' a=>?_) g.Leaf.toNat [] g.Leaf (-1) g.A6 [] (by rw[hP];rfl) (Nat.le_refl _) v1 v3 (.inl ⟨rfl,hh⟩) (by simp;omega)
  ·have hi:pre.length < p.length:=by rw[hpre];simp
   have hg:p.getD pre.length default=x:=by rw[hpre];simp[List.getD_eq_getElem?_getD]
   have he8:=G.exit_ x hx
   have h1:(a.length+(c.A4.getD x.toNat default).Exit.length) * 16≤140737488355328:=by unfold Cj at he8;omega
   have h2:x < (g.A6.length:Int):=by have:=isS_iff.1 hx;omega
   have h3:x.toNat < g.A6.length:=by have:=(Dd hx).2.2;omega
   have h4:At m' 0 g.A6.length=m':=hsub _ M'.len
   simp only[C3 hi,decide_true,Int.toNat_natCast,if_true,hg,Dd hx,h1,h2,h3,h4,D7 hi (by omega)]
   refine Ds ?_
   rcases hl with⟨e1,e2⟩ | e1
   ·unfold Cj at e2 ⊢
    simp only[e1,e2,Bool.false_and,Bool.false_eq_true,if_false];rfl
   ·have e2:=isS_iff.1 (Gw G e1).1
    have e3:(last != (-1:Int))=true:=by simp only[bne_iff_ne,ne_eq];omega
    unfold Cj
    simp only[e3,Bool.and_true]
    by_cases hh:(c.A4.getD x.toNat default).Aw=true
    ·simp only[hh,if_true];rfl
    ·have hh:=Bool.eq_false_iff.2 hh
     simp only[hh,if_false,Bool.false_eq_true];rfl
  ·(simp only[Bb,decide_false,Bool.false_eq_true,if_false];try rfl)
 ·rw[if_pos h16]
  simp only[Option.bind_some,Int.reduceLE,Ho ht,if_true,Gn,Int.toNat_one,O9]
  have htl:(Ab c (c.A0.getD i default).To).tail.length≤1000:=by rw[List.length_tail];omega
  have htl2:=@List.length_tail Int (Ab c (c.A0.getD i default).To)
  refine E2 (ut (s:=C7 c (c.A0.getD i default).From (c.A0.getD i default).To) (l:=(Ab c (c.A0.getD i default).To).tail) (fun j o x hj ho hg=>?_) (fun o=>by simp only[htl2,Bb,decide_false,Bool.false_eq_true,if_false])) ?_
  ·have k8:(o.length+1) * 8≤140737488355328:=by omega
   have k9:((j:Int) < (((Ab c (c.A0.getD i default).To).length - 1:Nat):Int))=True:=eq_true (by omega)
   simp only[k9,C3 hj,decide_true,Int.toNat_natCast,if_true,hg,k8,D7 hj (by omega)];rfl
  ·have hz:=hsub _ hmend
   unfold Ea at hz
   simp only[hsub _ a1.len,tx G H (fun x hx=>En x (Gr x hx)) (show (C1 (C7 c (c.A0.getD i default).From (c.A0.getD i default).To) (Ab c (c.A0.getD i default).To).tail).length≤2000 by omega) a1 (a:=(Cn c (C7 c (c.A0.getD i default).From (c.A0.getD i default).To) (Ab c g.Leaf) (-1) g.A6 []).2++(c.A0.getD i default).B9) (by rw[List.length_append];omega),  X7 G H (fun x hx=>En x (Gr x hx)) (show (C1 (C7 c (c.A0.getD i default).From (c.A0.getD i default).To) (Ab c (c.A0.getD i default).To).tail).length≤2000 by omega) a1 (a:=(Cn c (C7 c (c.A0.getD i default).From (c.A0.getD i default).To) (Ab c g.Leaf) (-1) g.A6 []).2++(c.A0.getD i default).B9) (by rw[List.length_append];omega),Option.bind_some,hsub _ r1.len]
   rw[da G H ht r1 (by rw[List.length_append]at r2;omega)]
   simp only[Option.bind_some,hz]
   rfl
theorem rStart_eq (c:A7) (H:Fit c):Y8 c=O8 c:=by
 obtain⟨e,he⟩:=Cz c
 have hs:=H.states
 unfold O8
 rw[he,Option.bind_some]
 delta Y8 su
 by_cases h0:(e != 0)=true
 ·simp only[↓JD.sg_m,↓JD.sq_m,↓JD.sc_m,↓JD.bk_m,↓JD.lp_m,↓JD.cd_m,↓JD.lu_m,↓JD.ct_m,↓JD.ce_m,↓JL.r_m,↓JL.z_m,↓JD.se_m,Bi,↓Tr.run,↓Tr.run_nd,↓Tr.run_c3,↓Tr.run_c2,↓Tr.run_nx,↓As,Ao,Option.bind_some,Option.bind_none,Ca,Mf c H,he,h0,if_true]
 ·have h0':e=0:=by simpa using h0
  subst h0'
  have G:=Ge he
  have hp:=Dk c c.Start
  have k1:(0:Int)≤(c.A4.length:Int):=by omega
  have k2:(c.A4.length:Int) * 8≤140737488355328:=by omega
  have k3:(c.A4.length:Int)≤9223372036854775807:=by omega
  simp only[↓JD.sg_m,↓JD.sq_m,↓JD.sc_m,↓JD.bk_m,↓JD.lp_m,↓JD.cd_m,↓JD.lu_m,↓JD.ct_m,↓JD.ce_m,↓JL.r_m,↓JL.z_m,↓JD.se_m,Bi,↓Tr.run,↓Tr.run_nd,↓Tr.run_c3,↓Tr.run_c2,↓Tr.run_nx,↓As,Ao,Option.bind_some,Option.bind_none,Ca,Mf c H,he,h0,if_false,Bool.false_eq_true,k1,k2,k3,if_true,Int.toNat_natCast]
  have hfill:∀ {R:Type} {b:List Int×Int→Option ((List Int×Int)⊕(List Int⊕R))},(∀ (j:Nat) (m:List Int),j < c.A4.length→m.length=c.A4.length→b (m,(j:Int))=some (.inl (m.set j (-1),((j+1:Nat):Int))))→(∀ m,b (m,(c.A4.length:Int))=some (.inr (.inl m))) →
    Bl b (List.replicate c.A4.length 0,0)=some (.inl (List.replicate c.A4.length (-1))):=by
   intro R b hb hd
   have key:∀ k j,j+k=c.A4.length→Bl b (List.replicate j (-1)++List.replicate k 0,(j:Int))=some (.inl (List.replicate c.A4.length (-1))):=by
    intro k
    induction k with
    | zero =>
     intro j hk
     obtain rfl:j=c.A4.length:=by omega
     rw[Cd,hd];simp
    | succ k ih =>
     intro j hk
     rw[Cd,hb j _ (by omega) (by simp;omega)]
     have e1:(List.replicate j (-1:Int)++List.replicate (k+1) 0).set j (-1)=List.replicate (j+1) (-1)++List.replicate k 0:=by
      rw[List.set_append_right _ _ (by simp),List.length_replicate,Nat.sub_self,List.replicate_succ,List.set_cons_zero,List.replicate_succ'];simp
     rw[e1]
     exact ih (j+1) (by omega)
   simpa using key c.A4.length 0 (by omega)
  refine E2 (hfill (fun j m hj hm=>?_) (fun m=>by (simp only[Bb,decide_false,Bool.false_eq_true,if_false];try rfl))) ?_
  ·have h4:At m 0 c.A4.length=m:=Ej hm
   simp only[C3 hj,hj,decide_true,Int.toNat_natCast,if_true,h4,D7 hj (by omega)];rfl
  ·have hb:=Mg (c:=c)
   have h4:At (List.replicate c.A4.length (-1:Int)) 0 c.A4.length=List.replicate c.A4.length (-1):=Ej (by simp)
   obtain⟨r1,r2⟩:=Em G (a:=[]) hb (Ab c c.Start).tail En
   have hend:=(Sz G H).1
   have hmend:=(validS_iff.1 hend).2.2.len
   have h5:At (Cf c (Ab c c.Start).tail (List.replicate c.A4.length (-1)) []).1 0 c.A4.length=(Cf c (Ab c c.Start).tail (List.replicate c.A4.length (-1)) []).1:=Ej r1.len
   have h6:At (Dq c).2.1 0 c.A4.length=(Dq c).2.1:=Ej hmend
   have h7:(Ab c c.Start).tail.length≤2000:=by rw[List.length_tail];omega
   simp only[Ot c H,Option.bind_some,Int.reduceLE,Ho G.start,if_true,Int.toNat_one,O9,h4,X7 G H En h7 hb (a:=[]) (by simp),h5]
   rw[da G H G.start r1 (by simp at r2;omega)]
   simp only[Option.bind_some]
   show some (_,_,_,At (Dq c).2.1 0 c.A4.length)=_
   rw[h6];rfl
theorem rFire_eq {c:A7} (H:Fit c) {g:A9} {t:Int}:lh c g t=(C8 c).bind fun e=>if(e != 0)=true then some (⟨0,[]⟩,[],e)else if(!C4 c g)=true then some (⟨0,[]⟩,[],8)else if(decide (t < 0) || decide ((c.A0.length:Int)≤t))=true then some (⟨0,[]⟩,[],2)else
  if(!Df (Ab c g.Leaf) (Ab c g.Leaf).length (c.A0.getD t.toNat default).From)=true then some (⟨0,[]⟩,[],9)else some (⟨(Ea c g (c.A0.getD t.toNat default)).1,(Ea c g (c.A0.getD t.toNat default)).2.1⟩,(Ea c g (c.A0.getD t.toNat default)).2.2,0):=by
 have hs:=H.states
 have hp:=Dk c g.Leaf
 obtain⟨e,he⟩:=Cz c
 rw[he,Option.bind_some]
 delta lh d82
 simp only[↓JD.sg_m,↓JD.sq_m,↓JD.sc_m,↓JD.bk_m,↓JD.lp_m,↓JD.cd_m,↓JD.lu_m,↓JD.ct_m,↓JD.ce_m,↓JL.r_m,↓JL.z_m,↓JD.se_m,Bi,↓Tr.run,↓Tr.run_nd,↓Tr.run_c3,↓Tr.run_c2,↓Tr.run_nx,↓As,Ao,Option.bind_some,Option.bind_none,Ca,Mf c H,he]
 by_cases h0:(e != 0)=true
 ·simp only[h0,if_true]
 have h0':e=0:=by simpa using h0
 subst h0'
 simp only[h0,if_false,Bool.false_eq_true,dy c H,Option.bind_some]
 cases hv:C4 c g with
 | false=>rfl
 | true =>
  simp only[Bool.not_true,Bool.false_eq_true,if_false]
  by_cases hr:(decide (t < 0) || decide ((c.A0.length:Int)≤t))=true
  ·simp only[hr,if_true]
  ·have hr':=Bool.eq_false_iff.2 hr
   simp only[Bool.or_eq_false_iff,decide_eq_false_iff_not]at hr'
   obtain⟨i,rfl⟩:=Int.eq_ofNat_of_zero_le (show 0≤t by omega)
   have hi:i < c.A0.length:=by omega
   simp only[hr,if_false,Bool.false_eq_true,C3 hi,Int.toNat_natCast,if_true,Ot c H,f9 _ _ (show (Ab c g.Leaf).length≤100000 by omega),Option.bind_some,li (Ge he) H hv hi]
theorem rStep_eq (c:A7) (H:Fit c) (g:A9) (v:Int) (h0v:0≤v) (h1v:v < 65536):jm c g v=Js c g v:=by
 obtain⟨e,he⟩:=Cz c
 unfold Js
 rw[he,Option.bind_some]
 delta jm d76
 by_cases h0:(e != 0)=true
 ·simp only[↓JD.sg_m,↓JD.sq_m,↓JD.sc_m,↓JD.bk_m,↓JD.lp_m,↓JD.cd_m,↓JD.lu_m,↓JD.ct_m,↓JD.ce_m,↓JL.r_m,↓JL.z_m,↓JD.se_m,Bi,↓Tr.run,↓Tr.run_nd,↓Tr.run_c3,↓Tr.run_c2,↓Tr.run_nx,↓As,Ao,Option.bind_some,Option.bind_none,Ca,Mf c H,he,h0,if_true]
 ·have h0':e=0:=by simpa using h0
  subst h0'
  simp only[↓JD.sg_m,↓JD.sq_m,↓JD.sc_m,↓JD.bk_m,↓JD.lp_m,↓JD.cd_m,↓JD.lu_m,↓JD.ct_m,↓JD.ce_m,↓JL.r_m,↓JL.z_m,↓JD.se_m,Bi,↓Tr.run,↓Tr.run_nd,↓Tr.run_c3,↓Tr.run_c2,↓Tr.run_nx,↓As,Ao,Option.bind_some,Option.bind_none,Ca,Mf c H,he,h0,if_false,Bool.false_eq_true,dy c H,Q2 c H v h0v h1v,Q4 c H]
  cases hv:C4 c g with
  | false=>rfl
  | true =>
   simp only[Bool.not_true,Bool.false_eq_true,if_false]
   refine Ds ?_
   by_cases hz:(((Ad c g.Leaf v).length:Int)==0)=true
   ·simp only[hz,if_true]
   ·simp only[hz,if_false,Bool.false_eq_true]
    have hz:(Ad c g.Leaf v).length≠0:=by intro h;rw[h]at hz;simp at hz
    by_cases h1:(((Ad c g.Leaf v).length:Int)==1)=true
    ·have hl:(Ad c g.Leaf v).length=1:=by have:=eq_of_beq h1;omega
     have hd:decide ((1:Int) < ((Ad c g.Leaf v).length:Int))=false:=by rw[hl];rfl
     obtain⟨i,hi,hx,hon⟩:=J7 (c:=c) (leaf:=g.Leaf) (v:=v) (by omega)
     have hz:(0:Int) < ((Ad c g.Leaf v).length:Int):=by omega
     simp only[h1,hd,hz,Int.le_refl,if_true,if_false,Bool.false_eq_true,Int.toNat_zero,hx,C3 hi,Int.toNat_natCast,li (Ge he) H hv hi,Cr,Option.bind_some]
    ·have hd:decide ((1:Int) < ((Ad c g.Leaf v).length:Int))=true:=by
      rw[decide_eq_true_eq]
      have:((Ad c g.Leaf v).length:Int)≠1:=by simpa using h1
      omega
     simp only[h1,hd,if_true,if_false,Bool.false_eq_true]
end Go.Av.Ch
set_option maxRecDepth 100000
namespace Go.Av.Ch
theorem Ow (k:Int) (hk:0≤k) (L:Nat):(0:Int)≤(if k < (L:Int)then k else(L:Int)):=by split<;>omega
theorem Zf (k:Int) (L:Nat):(if k < (L:Int)then k else(L:Int))≤(L:Int):=by split<;>omega
theorem Xo (k:Int) (hk:k≤1000) (L:Nat):(0+(if k < (L:Int)then k else(L:Int)).toNat) * 16≤140737488355328:=by split<;>omega
def Ps {A:Type} [Inhabited A] (k:Int) (l:List A):List A:=[]++At l 0 (if k < (l.length:Int)then k else(l.length:Int)).toNat
theorem gy {A:Type} [Inhabited A] (k:Nat) (l:List A):(Ps (k:Int) l).length=min k l.length:=by
 rw[Ps,List.nil_append,Hl];split<;>omega
theorem Ny {A:Type} {h:Nat→A} {n:Nat} {P:A→Prop} (hp:∀ i,i < n→P (h i)):∀ x∈(List.range n).flatMap fun i=>[h i],P x:=fun x hx=>by
 obtain⟨i,h1,hi⟩:=List.mem_flatMap.1 hx
 simp only[List.mem_singleton]at hi
 rw[hi];exact hp i (List.mem_range.1 h1)
theorem ac {n k:Nat} {K:Int} (hK:K=(k:Int)):((decide (((min n k:Nat):Int) < (n:Int)))&&(decide (((min n k:Nat):Int) < K)))=false:=by
 rw[Bool.eq_false_iff];simp only[ne_eq,Bool.and_eq_true,decide_eq_true_eq];omega
theorem mj {i n k:Nat} {K:Int} (hK:K=(k:Int)) (h:i < min n k):((decide ((i:Int) < (n:Int)))&&(decide ((i:Int) < K)))=true:=by
 simp only[Bool.and_eq_true,decide_eq_true_eq];omega
def fewN (c:A7) (i:Nat):List B7:=Ps 6 (c.Ai.getD i default)
def fewT (c:A7) (i:Nat):Ah:=⟨(c.A4.getD i default).Name,(c.A4.getD i default).Al,(c.A4.getD i default).B0,(c.A4.getD i default).Aw,Ps 9 (c.A4.getD i default).Az,Ps 9 (c.A4.getD i default).Exit⟩
def fewR (c:A7) (i:Nat):Ap:=⟨(c.A0.getD i default).From,(c.A0.getD i default).To,Ps 6 (c.A0.getD i default).When,Ps 9 (c.A0.getD i default).B9⟩
def Sb (c:A7):A7:=⟨c.Name,Ps 6 c.Ag,(List.range (min c.Ai.length 4)).flatMap (fun i=>[fewN c i]),(List.range (min c.A4.length 12)).flatMap (fun i=>[fewT c i]),c.Start,(List.range (min c.A0.length 24)).flatMap (fun i=>[fewR c i])⟩
theorem Uf {A:Type} {g:Nat→A} {i:Nat} {n k z:Nat} (hz:z≤1000) (hk:k≤1000) (h:i < min n k):(((List.range i).flatMap fun i=>[g i]).length+1) * z≤140737488355328:=by
 have hl:=Bh (g:=fun i=>[g i]) (m:=1) (fun i=>by simp) i
 have:(((List.range i).flatMap fun i=>[g i]).length+1) * z≤1001 * 1000:=Nat.mul_le_mul (by omega) hz
 omega
theorem Few_eq (c:A7):m43 c=some (Sb c):=by
 delta m43 d43
 simp only[↓JD.sg_m,↓JD.sq_m,↓JD.sc_m,↓JD.bk_m,↓JD.lp_m,↓JD.cd_m,↓JD.lu_m,↓JD.ct_m,↓JD.ce_m,↓JL.r_m,↓JL.z_m,↓JD.se_m,Bi,↓Tr.run,↓Tr.run_nd,↓Tr.run_c3,↓Tr.run_c2,↓Tr.run_nx,↓As,Ao,Option.bind_some,Option.bind_none,Ca,Ow 6 (by omega),Zf,Xo 6 (by omega),if_true]
 refine E2 (E9 (min c.Ai.length 4) (fun i l=>((i:Int),l)) (fun i=>[fewN c i]) Sum.inl (fun i hi=>?_) ?_) (E2 (E9 (min c.A4.length 12) (fun i l=>((i:Int),l)) (fun i=>[fewT c i]) Sum.inl (fun i hi=>?_) ?_) (E2 (E9 (min c.A0.length 24) (fun i l=>((i:Int),l)) (fun i=>[fewR c i]) Sum.inl (fun i hi=>?_) ?_) rfl))
 ·rw[if_pos (mj (K:=4) rfl hi)];simp only[Uf (show 24≤1000 by omega) (by omega) hi,Ow 6 (by omega),Zf,Xo 6 (by omega),Int.toNat_natCast,C3 (show i < c.Ai.length by omega),if_true,D7 hi (by omega)];rfl
 ·simp only[ac (n:=c.Ai.length) (k:=4) (K:=4) rfl,Bool.false_eq_true,if_false]
 ·rw[if_pos (mj (K:=12) rfl hi)];simp only[Uf (show 88≤1000 by omega) (by omega) hi,Ow 9 (by omega),Zf,Xo 9 (by omega),Int.toNat_natCast,C3 (show i < c.A4.length by omega),if_true,D7 hi (by omega)];rfl
 ·simp only[ac (n:=c.A4.length) (k:=12) (K:=12) rfl,Bool.false_eq_true,if_false]
 ·rw[if_pos (mj (K:=24) rfl hi)];simp only[Uf (show 64≤1000 by omega) (by omega) hi,Ow 6 (by omega),Ow 9 (by omega),Zf,Xo 6 (by omega),Xo 9 (by omega),Int.toNat_natCast,C3 (show i < c.A0.length by omega),if_true,D7 hi (by omega)];rfl
 ·simp only[ac (n:=c.A0.length) (k:=24) (K:=24) rfl,Bool.false_eq_true,if_false]
structure Small (c:A7):Prop where
 conds:c.Ag.length≤6
 never:c.Ai.length≤4
 lits:∀ l∈c.Ai,l.length≤6
 states:c.A4.length≤12
 entry:∀ s∈c.A4,s.Az.length≤9
 exit_:∀ s∈c.A4,s.Exit.length≤9
 trans:c.A0.length≤24
 when_:∀ t∈c.A0,t.When.length≤6
 acts:∀ t∈c.A0,t.B9.length≤9
theorem Small.fit {c:A7} (h:Small c):Fit c :=
 ⟨Nat.le_trans h.conds (by omega),Nat.le_trans h.never (by omega),fun l hl=>Nat.le_trans (h.lits l hl) (by omega),Nat.le_trans h.states (by omega),fun s hs=>Nat.le_trans (h.entry s hs) (by omega),fun s hs=>Nat.le_trans (h.exit_ s hs) (by omega),Nat.le_trans h.trans (by omega),fun t ht=>Nat.le_trans (h.when_ t ht) (by omega),fun t ht=>Nat.le_trans (h.acts t ht) (by omega)⟩
theorem v7 {A:Type} [Inhabited A] (l:List A):(Ps 6 l).length≤6:=by have:=gy 6 l;simp only[Int.cast_ofNat_Int]at this;omega
theorem vi {A:Type} [Inhabited A] (l:List A):(Ps 9 l).length≤9:=by have:=gy 9 l;simp only[Int.cast_ofNat_Int]at this;omega
theorem few_small (c : A7) : Small (Sb c) :=
  ⟨v7 _, Nat.le_trans (Bh (m := 1) (fun i => by simp) _) (by omega), Ny fun i _ => v7 _, Nat.le_trans (Bh (m := 1) (fun i => by simp) _) (by omega), Ny fun i _ => vi _, Ny fun i _ => vi _,
   Nat.le_trans (Bh (m := 1) (fun i => by simp) _) (by omega), Ny fun i _ => v7 _, Ny fun i _ => vi _⟩
end Go.Av.Ch
set_option maxRecDepth 100000
namespace Go.Av.Ch
theorem Dl {α:Type} [BEq α] [LawfulBEq α] (x:α):(x != x)=false:=by simp
end Go.Av.Ch
namespace Go.Av
theorem n16 {n:Nat} (h:n < 65536):IntKind.wrap .u16 (n:Int)=(n:Int):=IntWalk.u16_in _ (by omega)
theorem bs {α β:Type} {a:α} {f:α→Option β}:Option.bind (some a) f=f a:=Eq.mpr rfl rfl
theorem bn {α β:Type} {f:α→Option β}:Option.bind none f=none:=Eq.mpr rfl rfl
theorem ol {Y R:Type} {f:Y→Option R} {y:Y}:As f (.inl y)=f y:=Eq.mpr rfl rfl
theorem Ou {Y R:Type} {f:Y→Option R} {r:R}:As f (.inr r)=some r:=Eq.mpr rfl rfl
theorem Fc {α:Type} {m:Option α}:(Option.bind m fun r=>some r)=m:=by cases m<;>rfl
theorem Kc {S X : Type} {b : S → Option (S ⊕ X)} (n : Nat) (st : Nat → S) (out : X) (hs : ∀ i, i < n → b (st i) = some (.inl (st (i + 1)))) (he : b (st n) = some (.inr out)) : Bl b (st 0) = some out := by
  have key : ∀ k i, i + k = n → Bl b (st i) = some out := by
    intro k
    induction k with
    | zero => intro i h; obtain rfl : i = n := by omega
              rw [Cd, he]; rfl
    | succ k ih => intro i h; rw [Cd, hs i (by omega)]; exact ih (i + 1) (by omega)
  exact key n 0 (by omega)
end Go.Av
set_option maxRecDepth 100000
namespace Go.Av
open Ch Go.Proofs
instance:Decidable (Tryz.prog=Tryz.prog):=.isTrue rfl
theorem Pz {α:Type} [Inhabited α] {a b:List α} (h:a.length=b.length):a=b↔∀ i,i < a.length→a.getD i default=b.getD i default:=by
 constructor
 ·intro e i _;rw[e]
 ·intro k
  apply List.ext_getElem h
  intro i h1 h2
  have:=k i h1
  simpa [List.getD_eq_getElem?_getD,List.getElem?_eq_getElem h1,List.getElem?_eq_getElem h2] using this
theorem Ug {α:Type} [BEq α] [LawfulBEq α] [Inhabited α] {a b:List α} (h:a.length=b.length):(Be (fun i=>if(a.getD i default != b.getD i default)=true then some false else none) a.length).getD true=(a==b):=by
 rw[Co]
 by_cases e:a=b
 ·have:Bo (fun i=>a.getD i default != b.getD i default) a.length=false:=by
   rw[anyR_false];intro i _;rw[e];simp
  rw[this,e];simp
 ·have:Bo (fun i=>a.getD i default != b.getD i default) a.length=true:=by
   rw[anyR_iff]
   apply Classical.byContradiction
   intro hn
   apply e
   rw[Pz h]
   intro i hi
   apply Classical.byContradiction
   intro hne
   exact hn ⟨i,hi,by simpa using hne⟩
  rw[this,if_pos rfl]
  simp[e]
theorem ld {α:Type} [BEq α] [LawfulBEq α] {a b:List α} (h:((a.length:Int) != (b.length:Int))=true):(a==b)=false:=by
 rw[beq_eq_false_iff_ne]
 rintro rfl
 simp at h
theorem ke {α:Type} {a b:List α} (h:((a.length:Int) != (b.length:Int))=false):a.length=b.length:=by
 simp at h;omega
theorem AAA (a b:List Int) (ha:a.length≤1000000):ud a b=some (a==b):=by
 delta ud d121
 simp only[↓JD.sg_m,↓JD.sq_m,↓JD.sc_m,↓JD.bk_m,↓JD.lp_m,↓JD.cd_m,↓JD.lu_m,↓JD.ct_m,↓JD.ce_m,↓JL.r_m,↓JL.z_m,↓JD.se_m,Bi,↓Tr.run,↓Tr.run_nd,↓Tr.run_c3,↓Tr.run_c2,↓Tr.run_nx,↓As,Ao,Option.bind_some,Option.bind_none,Ca]
 by_cases h:((a.length:Int) != (b.length:Int))=true
 ·simp only[h,if_true,Ru,ld h]
 ·have h:=Bool.eq_false_iff.2 h
  have hl:=ke h
  simp only[h,Bool.false_eq_true,if_false,Gn]
  rw[D4 a.length (fun i=>if(a.getD i default != b.getD i default)=true then some false else none) ?_ ?_,Hg,Ug hl]
  ·intro i hi
   have hi2:i < b.length:=by omega
   simp only[C2,Bx,Br,C3 hi,C3 hi2,decide_true,Int.toNat_natCast,if_true,D7 hi (by omega)]
  ·(simp only[Bb,decide_false,Bool.false_eq_true,if_false];try rfl)
theorem nz (a b:List Int) (ha:a.length≤1000000):m46 a b=some (a==b):=by
 delta m46 d46
 simp only[↓JD.sg_m,↓JD.sq_m,↓JD.sc_m,↓JD.bk_m,↓JD.lp_m,↓JD.cd_m,↓JD.lu_m,↓JD.ct_m,↓JD.ce_m,↓JL.r_m,↓JL.z_m,↓JD.se_m,Bi,↓Tr.run,↓Tr.run_nd,↓Tr.run_c3,↓Tr.run_c2,↓Tr.run_nx,↓As,Ao,Option.bind_some,Option.bind_none,Ca]
 by_cases h:((a.length:Int) != (b.length:Int))=true
 ·simp only[h,if_true,Ru,ld h]
 ·have h:=Bool.eq_false_iff.2 h
  have hl:=ke h
  simp only[h,Bool.false_eq_true,if_false,Gn]
  rw[D4 a.length (fun i=>if(a.getD i default != b.getD i default)=true then some false else none) ?_ ?_,Hg,Ug hl]
  ·intro i hi
   have hi2:i < b.length:=by omega
   simp only[C2,Bx,Br,C3 hi,C3 hi2,decide_true,Int.toNat_natCast,if_true,D7 hi (by omega)]
  ·(simp only[Bb,decide_false,Bool.false_eq_true,if_false];try rfl)
theorem ak (a b:List (List UInt8)) (ha:a.length≤1000000):Qi a b=some (a==b):=by
 delta Qi d41
 simp only[↓JD.sg_m,↓JD.sq_m,↓JD.sc_m,↓JD.bk_m,↓JD.lp_m,↓JD.cd_m,↓JD.lu_m,↓JD.ct_m,↓JD.ce_m,↓JL.r_m,↓JL.z_m,↓JD.se_m,Bi,↓Tr.run,↓Tr.run_nd,↓Tr.run_c3,↓Tr.run_c2,↓Tr.run_nx,↓As,Ao,Option.bind_some,Option.bind_none,Ca]
 by_cases h:((a.length:Int) != (b.length:Int))=true
 ·simp only[h,if_true,Ru,ld h]
 ·have h:=Bool.eq_false_iff.2 h
  have hl:=ke h
  simp only[h,Bool.false_eq_true,if_false,Gn]
  rw[D4 a.length (fun i=>if(a.getD i default != b.getD i default)=true then some false else none) ?_ ?_,Hg,Ug hl]
  ·intro i hi
   have hi2:i < b.length:=by omega
   simp only[C2,Bx,Br,C3 hi,C3 hi2,decide_true,Int.toNat_natCast,if_true,D7 hi (by omega)]
  ·(simp only[Bb,decide_false,Bool.false_eq_true,if_false];try rfl)
def S1 (a b:A9):Bool:=a.Leaf==b.Leaf&&a.A6==b.A6
theorem eqC_iff {a b:A9}:S1 a b=true↔a=b:=by
 obtain⟨x,y⟩:=a
 obtain⟨z,w⟩:=b
 simp only[S1,Bool.and_eq_true,beq_iff_eq]
 constructor
 ·rintro⟨rfl,rfl⟩;rfl
 ·intro h;injection h with h1 h2;exact⟨h1,h2⟩
theorem mw (a:A9):S1 a a=true:=eqC_iff.2 rfl
theorem same_eq (a b:A9) (ha:a.A6.length≤1000000):m73 a b=some (S1 a b):=by
 delta m73 d73
 simp only[↓JD.sg_m,↓JD.sq_m,↓JD.sc_m,↓JD.bk_m,↓JD.lp_m,↓JD.cd_m,↓JD.lu_m,↓JD.ct_m,↓JD.ce_m,↓JL.r_m,↓JL.z_m,↓JD.se_m,Bi,↓Tr.run,↓Tr.run_nd,↓Tr.run_c3,↓Tr.run_c2,↓Tr.run_nx,↓As,Ao,Option.bind_some,Option.bind_none,Ca,AAA _ _ ha,S1]
 cases (a.Leaf==b.Leaf)<;>rfl
theorem f7 (a b:A9) (ha:a.A6.length≤1000000):m17 a b=some (S1 a b):=by
 delta m17 d17
 simp only[↓JD.sg_m,↓JD.sq_m,↓JD.sc_m,↓JD.bk_m,↓JD.lp_m,↓JD.cd_m,↓JD.lu_m,↓JD.ct_m,↓JD.ce_m,↓JL.r_m,↓JL.z_m,↓JD.se_m,Bi,↓Tr.run,↓Tr.run_nd,↓Tr.run_c3,↓Tr.run_c2,↓Tr.run_nx,↓As,Ao,Option.bind_some,Option.bind_none,Ca,nz _ _ ha,S1]
 cases (a.Leaf==b.Leaf)<;>rfl
def Short (l:List A9):Prop:=∀ g∈l,g.A6.length≤1000000
theorem Short.at {l:List A9} (h:Short l) {i:Nat} (hi:i < l.length):(l.getD i default).A6.length≤1000000:=h _ (Bj hi)
def Fd (l:List A9) (g:A9):Int:=Do (fun i=>S1 (l.getD i default) g) l.length
theorem bw (l:List A9) (g:A9) (hs:Short l) (hl:l.length≤1000000):Ok l g=some (Fd l g):=by
 have e1:fo l g=some (Fd l g):=by
  have e2:∀ x:A9,x.A6.length≤1000000→Xa x g=some (S1 x g):=fun x hx=>by
   delta Xa ky
   simp only[↓JD.sg_m,↓JD.sq_m,↓JD.sc_m,↓JD.bk_m,↓JD.lp_m,↓JD.cd_m,↓JD.lu_m,↓JD.ct_m,↓JD.ce_m,↓JL.r_m,↓JL.z_m,↓JD.se_m,Bi,↓Tr.run,↓Tr.run_nd,↓Tr.run_c3,↓Tr.run_c2,↓Tr.run_nx,↓As,Ao,Option.bind_some,Option.bind_none,Ca,same_eq x g hx]
  delta fo ur
  simp only[↓JD.sg_m,↓JD.sq_m,↓JD.sc_m,↓JD.bk_m,↓JD.lp_m,↓JD.cd_m,↓JD.lu_m,↓JD.ct_m,↓JD.ce_m,↓JL.r_m,↓JL.z_m,↓JD.se_m,Bi,↓Tr.run,↓Tr.run_nd,↓Tr.run_c3,↓Tr.run_c2,↓Tr.run_nx,↓As,Ao,Option.bind_some,Option.bind_none,Ca]
  refine Jy (fun i hi=>?_) ?_
  ·simp only[C2,Bx,Br,C3 hi,decide_true,Int.toNat_natCast,if_true,D7 hi (by omega),e2 _ (hs.at hi),Option.bind_some]
  ·(simp only[Bb,decide_false,Bool.false_eq_true,if_false];try rfl)
 delta Ok d80
 simp only[↓JD.sg_m,↓JD.sq_m,↓JD.sc_m,↓JD.bk_m,↓JD.lp_m,↓JD.cd_m,↓JD.lu_m,↓JD.ct_m,↓JD.ce_m,↓JL.r_m,↓JL.z_m,↓JD.se_m,Bi,↓Tr.run,↓Tr.run_nd,↓Tr.run_c3,↓Tr.run_c2,↓Tr.run_nx,↓As,Ao,Option.bind_some,Option.bind_none,Ca,e1]
theorem db (l:List A9) (g:A9) (hs:Short l) (hl:l.length≤1000000):So l g=some (Fd l g):=by
 delta So d83
 simp only[↓JD.sg_m,↓JD.sq_m,↓JD.sc_m,↓JD.bk_m,↓JD.lp_m,↓JD.cd_m,↓JD.lu_m,↓JD.ct_m,↓JD.ce_m,↓JL.r_m,↓JL.z_m,↓JD.se_m,Bi,↓Tr.run,↓Tr.run_nd,↓Tr.run_c3,↓Tr.run_c2,↓Tr.run_nx,↓As,Ao,Option.bind_some,Option.bind_none,Ca]
 refine Jy (fun i hi=>?_) ?_
 ·simp only[C2,Bx,Br,C3 hi,decide_true,Int.toNat_natCast,if_true,D7 hi (by omega),f7 _ g (hs.at hi),Option.bind_some]
 ·(simp only[Bb,decide_false,Bool.false_eq_true,if_false];try rfl)
theorem wl {l:List A9} {g:A9}:decide (0≤Fd l g)=l.any (fun x=>S1 x g):=by
 unfold Fd
 rw[Ki,Bool.eq_iff_iff,anyR_iff,List.any_eq_true]
 constructor
 ·rintro⟨i,hi,h⟩;exact⟨_,Bj hi,h⟩
 ·rintro⟨x,hx,h⟩
  obtain⟨i,hi,rfl⟩:=List.getElem_of_mem hx
  exact⟨i,hi,by simpa [List.getD_eq_getElem?_getD,List.getElem?_eq_getElem hi] using h⟩
def Mq (l:List A9) (g:A9):Bool:=l.any fun x=>S1 x g
theorem hasC_iff {l:List A9} {g:A9}:Mq l g=true↔g∈l:=by
 unfold Mq
 rw[List.any_eq_true]
 constructor
 ·rintro⟨x,hx,h⟩;rw[← eqC_iff.1 h];exact hx
 ·intro h;exact⟨g,h,mw g⟩
theorem Zz {l:List A9} {g:A9}:decide (0≤Fd l g)=Mq l g:=wl
theorem find_out {l:List A9} {g:A9}:decide (Fd l g < 0)=!Mq l g:=by
 rw[← Zz]
 by_cases h:0≤Fd l g
 ·simp[h]
 ·simp[h];omega
def D0 (c:A7):Nat:=2 ^ c.Ag.length
theorem Lk (c:A7):0 < D0 c:=Nat.two_pow_pos _
theorem Ja {c:A7} (h:c.Ag.length≤12):D0 c≤4096:=Nat.pow_le_pow_right (by omega) h
theorem shl64 {n:Nat} (h:n≤12):IntKind.wrap .i64 ((1:Int) * 2 ^ (min ((n:Nat):Int).toNat (IntKind.bits .i64)))=((2 ^ n:Nat):Int):=by
 have e1:min ((n:Nat):Int).toNat (IntKind.bits .i64)=n:=by
  show min ((n:Nat):Int).toNat 64=n
  omega
 rw[e1,Int.one_mul]
 have h2:2 ^ n≤4096:=Nat.pow_le_pow_right (by omega) h
 have e2:((2:Int) ^ n)=((2 ^ n:Nat):Int):=by push_cast;rfl
 rw[e2]
 generalize 2 ^ n=m at h2 ⊢
 exact El (by omega) (by omega)
theorem bf {c:A7} (h:c.Ag.length≤12):m75 c=some ((D0 c:Int) - 1):=by
 have h1:=Lk c
 have h2:=Ja h
 delta m75 d75
 simp only[↓JD.sg_m,↓JD.sq_m,↓JD.sc_m,↓JD.bk_m,↓JD.lp_m,↓JD.cd_m,↓JD.lu_m,↓JD.ct_m,↓JD.ce_m,↓JL.r_m,↓JL.z_m,↓JD.se_m,Bi,↓Tr.run,↓Tr.run_nd,↓Tr.run_c3,↓Tr.run_c2,↓Tr.run_nx,↓As,Ao,Option.bind_some,Option.bind_none,Ca,shl64 h,show (0:Int)≤(c.Ag.length:Int) from by omega,if_true]
 rw[show ((2 ^ c.Ag.length:Nat):Int)=(D0 c:Int) from rfl,El (by omega) (by omega)]
def Vc (c:A7) (v:Nat):List Int:=if Cx c (v:Int)=true then[(v:Int)]else[]
theorem qi (c:A7) (v:Nat):(Vc c v).length≤1:=by unfold Vc;split<;>simp
def Bw (c:A7):List Int:=(List.range (D0 c)).flatMap (Vc c)
theorem Pa {c:A7}:(Bw c).length≤D0 c:=by
 have:=Bh (qi c) (D0 c)
 unfold Bw;omega
theorem valsA_mem {c:A7} {v:Int}:v∈Bw c↔∃ n:Nat,n < D0 c∧v=n∧Cx c v=true:=by
 unfold Bw
 rw[List.mem_flatMap]
 constructor
 ·rintro⟨n,h1,h2⟩
  unfold Vc at h2
  split at h2
  ·rename_i h
   simp only[List.mem_singleton]at h2
   subst h2
   exact⟨n,List.mem_range.1 h1,rfl,h⟩
  ·cases h2
 ·rintro⟨n,h1,rfl,h2⟩
  exact⟨n,List.mem_range.2 h1,by unfold Vc;rw[if_pos h2];simp⟩
theorem Vb {c:A7} (H:Fit c) (h:c.Ag.length≤12):ya c=some (Bw c):=by
 have h2:=Ja h
 delta ya d99
 simp only[↓JD.sg_m,↓JD.sq_m,↓JD.sc_m,↓JD.bk_m,↓JD.lp_m,↓JD.cd_m,↓JD.lu_m,↓JD.ct_m,↓JD.ce_m,↓JL.r_m,↓JL.z_m,↓JD.se_m,Bi,↓Tr.run,↓Tr.run_nd,↓Tr.run_c3,↓Tr.run_c2,↓Tr.run_nx,↓As,Ao,Option.bind_some,Option.bind_none,Ca,shl64 h,show (0:Int)≤(c.Ag.length:Int) from by omega,if_true]
 rw[show ((2 ^ c.Ag.length:Nat):Int)=(D0 c:Int) from rfl]
 refine E2 (E9 (D0 c) (fun i l=>(l,(i:Int))) (Vc c) Sum.inl (fun i hi=>?_) (by (simp only[Bb,decide_false,Bool.false_eq_true,if_false];try rfl))) rfl
 have hl:=Bh (qi c) i
 have h3:(((List.range i).flatMap (Vc c)).length+1) * 2≤140737488355328:=by omega
 have h4:IntKind.wrap .u16 (i:Int)=(i:Int):=n16 (by omega)
 simp only[C3 hi,decide_true,h3,h4,if_true,D7 hi (by omega),vl _ H,Option.bind_some,Vc]
 cases Cx c (i:Int)<;>simp
end Go.Av
set_option maxRecDepth 100000
namespace Go.Av
open Ch Go.Proofs
def G1 (c:A7) (g:A9) (v:Int):Option A9:=(Js c g v).bind fun r=>if(r.2.2==0)=true then some r.1 else none
abbrev SS:=List A9×List Int×List Int
def K4 (i:Nat) (v:Int) (h:A9) (s:SS):Option SS:=if Mq s.1 h=true then some s else if s.1.length=400 then none else some (s.1++[h],s.2.1++[(i:Int)],s.2.2++[v])
def Fh (c:A7) (i:Nat) (s:SS) (v:Int):Option SS:=match G1 c (s.1.getD i default) v with
 | none=>some s
 | some h=>K4 i v h s
def Fy (c:A7) (i:Nat):List Int→SS→Option SS
 | [],s=>some s
 | v :: l,s=>(Fh c i s v).bind (Fy c i l)
def Mr (c:A7):List Int:=(List.range (D0 c)).map fun v:Nat=>(v:Int)
def Lp (c:A7):Nat→Nat→SS→Option SS
 | 0,_,_=>none
 | n+1,i,s=>if i < s.1.length then(Fy c i (Mr c) s).bind (Lp c n (i+1))else some s
def Lm (g:A9):SS:=([g],[-1],[0])
structure Inv (c:A7) (s:SS):Prop where
 le:s.1.length≤400
 l1:s.2.1.length=s.1.length
 l2:s.2.2.length=s.1.length
 pos:0 < s.1.length
 ok:∀ g∈s.1,C4 c g=true
theorem ou {c:A7} (H:Fit c) {g:A9} (h:C4 c g=true):g.A6.length≤1000000:=by
 have h1:=(validS_iff.1 h).2.2.len
 have h2:=H.states
 omega
theorem Inv.short {c:A7} (H:Fit c) {s:SS} (h:Inv c s):Short s.1:=fun g hg=>ou H (h.ok g hg)
theorem stepO_ok {c:A7} (H:Fit c) {g h:A9} {v:Int} (hs:G1 c g v=some h):C8 c=some 0∧C4 c g=true∧C4 c h=true:=by
 unfold G1 at hs
 rw[Option.bind_eq_some_iff]at hs
 obtain⟨r,h1,h2⟩:=hs
 split at h2
 ·rename_i h3
  injection h2 with h2
  subst h2
  exact(stepM_ok H h1).2 (by simpa using h3)
 ·cases h2
theorem addS_inv {c:A7} {i:Nat} {v:Int} {h:A9} {s s':SS} (I:Inv c s) (hv:C4 c h=true) (hs:K4 i v h s=some s'):Inv c s'∧s.1.length≤s'.1.length:=by
 unfold K4 at hs
 split at hs
 ·injection hs with hs;subst hs;exact⟨I,Nat.le_refl _⟩
 ·split at hs
  ·cases hs
  ·rename_i h400
   injection hs with hs
   subst hs
   have:=I.le
   refine⟨⟨?_,?_,?_,?_,?_⟩,?_⟩
   ·simp only[List.length_append,List.length_cons,List.length_nil];omega
   ·simp only[List.length_append,List.length_cons,List.length_nil,I.l1]
   ·simp only[List.length_append,List.length_cons,List.length_nil,I.l2]
   ·simp
   ·intro g hg
    rcases List.mem_append.1 hg with h1 | h1
    ·exact I.ok g h1
    ·simp only[List.mem_singleton]at h1;subst h1;exact hv
   ·simp
theorem Pe {c:A7} (H:Fit c) {i:Nat} {v:Int} {s s':SS} (I:Inv c s) (hs:Fh c i s v=some s'):Inv c s'∧s.1.length≤s'.1.length:=by
 unfold Fh at hs
 split at hs
 ·injection hs with hs;subst hs;exact⟨I,Nat.le_refl _⟩
 ·rename_i h he
  exact addS_inv I (stepO_ok H he).2.2 hs
theorem V7 {c:A7} (H:Fit c) {i:Nat}:∀ {l:List Int} {s s':SS},Inv c s→Fy c i l s=some s'→Inv c s'∧s.1.length≤s'.1.length
 | [],s,s',I,hs=>by
  injection hs with hs;subst hs;exact⟨I,Nat.le_refl _⟩
 | v :: l,s,s',I,hs=>by
  unfold Fy at hs
  rw[Option.bind_eq_some_iff]at hs
  obtain⟨t,h1,h2⟩:=hs
  obtain⟨I1,k1⟩:=Pe H I h1
  obtain⟨I2,k2⟩:=V7 H I1 h2
  exact⟨I2,by omega⟩
theorem X5 {c:A7} {i:Nat} (p:Int→Bool):∀ {l:List Int} {s:SS},(∀ v∈l,p v=false→∀ s,Fh c i s v=some s)→Fy c i (l.flatMap fun v=>if p v=true then[v]else[]) s=Fy c i l s
 | [],s,h=>rfl
 | v :: l,s,h=>by
  simp only[List.flatMap_cons]
  have ih:∀ s,Fy c i (l.flatMap fun v=>if p v=true then[v]else[]) s=Fy c i l s:=fun s=>X5 p (fun w hw=>h w (by simp[hw]))
  cases hp:p v with
  | true =>
   simp only[if_true,List.cons_append,List.nil_append,Fy]
   congr 1;funext t;exact ih t
  | false =>
   simp only[Bool.false_eq_true,if_false,List.nil_append,Fy,h v (by simp) hp,Option.bind_some]
   exact ih s
theorem e8 {c:A7} {g:A9} {v:Int} (h:Cx c v=false):G1 c g v=none:=by
 unfold G1 Js
 cases hc:C8 c with
 | none=>rfl
 | some e =>
  simp only[Option.bind_some,h,Bool.not_false,if_true]
  split
  ·rename_i h0
   simp only[Option.bind_some]
   have:(e==0)=false:=by simpa using h0
   simp only[this,Bool.false_eq_true,if_false]
  ·split<;>rfl
theorem gf {c:A7} {i:Nat} {s:SS}:Fy c i (Bw c) s=Fy c i (Mr c) s:=by
 have e:Bw c=(Mr c).flatMap fun v=>if Cx c v=true then[v]else[]:=by
  unfold Bw Mr
  rw[List.flatMap_map]
  rfl
 rw[e]
 exact X5 (Cx c) fun v _ h s=>by unfold Fh;rw[e8 h]
end Go.Av
set_option maxRecDepth 100000
namespace Go.Av
open Ch Go.Proofs
def rj {X:Type} {S:Type} (mk:SS→S) (bad:Option X):Option SS→Option (S⊕X)
 | some s=>some (.inl (mk s))
 | none=>bad.map .inr
def Sk {X:Type} (out:SS→X) (bad:Option X):Option SS→Option X
 | some s=>some (out s)
 | none=>bad
theorem Fe {α:Type} [Inhabited α] {l k:List α} {i:Nat} (h:i < l.length):(l++k).getD i default=l.getD i default:=by
 simp only[List.getD_eq_getElem?_getD,List.getElem?_append_left h]
theorem du {c:A7} {i:Nat} {s s':SS} {v:Int} (hs:Fh c i s v=some s'):∃ k,s'.1=s.1++k:=by
 unfold Fh at hs
 split at hs
 ·injection hs with hs;subst hs;exact⟨[],by simp⟩
 ·unfold K4 at hs
  split at hs
  ·injection hs with hs;subst hs;exact⟨[],by simp⟩
  ·split at hs
   ·cases hs
   ·injection hs with hs;subst hs;exact⟨_,rfl⟩
theorem rnd_loop {c:A7} (H:Fit c) {i:Nat} {X:Type} {b:(List A9×List Int×List Int×Int)→Option ((List A9×List Int×List Int×Int)⊕X)} (out:SS→X) (bad:Option X)
  (hb:∀ (v:Nat) (s:SS),v < D0 c→Inv c s→i < s.1.length→b (s.1,s.2.1,s.2.2,(v:Int))=rj (fun s'=>(s'.1,s'.2.1,s'.2.2,((v+1:Nat):Int))) bad (Fh c i s v))
  (he:∀ s:SS,Inv c s→b (s.1,s.2.1,s.2.2,(D0 c:Int))=some (.inr (out s)))
  {s:SS} (I:Inv c s) (hi:i < s.1.length):Bl b (s.1,s.2.1,s.2.2,0)=(Sk out bad (Fy c i (Mr c) s)):=by
 have key:∀ (k v:Nat) (s:SS),v+k=D0 c→Inv c s→i < s.1.length→Bl b (s.1,s.2.1,s.2.2,(v:Int))=(Sk out bad (Fy c i ((List.range' v k).map fun v:Nat=>(v:Int)) s)):=by
  intro k
  induction k with
  | zero =>
   intro v s hk I hi
   obtain rfl:v=D0 c:=by omega
   rw[Cd,he s I]
   rfl
  | succ k ih =>
   intro v s hk I hi
   rw[Cd,hb v s (by omega) I hi,List.range'_succ,List.map_cons,Fy]
   cases hv:Fh c i s (v:Int) with
   | none=>cases bad<;>rfl
   | some s' =>
    obtain⟨I',h'⟩:=Pe H I hv
    simp only[rj,Option.bind_some]
    exact ih (v+1) s' (by omega) I' (by omega)
 have:=key (D0 c) 0 s (by omega) I hi
 rw[← List.range_eq_range']at this
 exact this
theorem cz {c:A7} (H:Fit c) {i:Nat} {X:Type} {b:(Int×List A9×List Int×List Int×Nat×(List UInt8→Option Int))→Option ((Int×List A9×List Int×List Int×Nat×(List UInt8→Option Int))⊕X)} (out:SS→X) (bad:Option X) (w:List Int)
  (P:SS→(List UInt8→Option Int)→Prop)
  (hb:∀ (k:Nat) (s:SS) (n:Nat) (f:List UInt8→Option Int),k < w.length→Inv c s→i < s.1.length→n≤k→P s f→∃ n' f',n'≤k+1∧(∀ s',Fh c i s (w.getD k default)=some s'→P s' f') ∧
   b ((k:Int),s.1,s.2.1,s.2.2,n,f)=rj (fun s'=>(((k+1:Nat):Int),s'.1,s'.2.1,s'.2.2,n',f')) bad (Fh c i s (w.getD k default)))
  (he:∀ (s:SS) n f,Inv c s→b ((w.length:Int),s.1,s.2.1,s.2.2,n,f)=some (.inr (out s)))
  {s:SS} (I:Inv c s) (hi:i < s.1.length) (f0:List UInt8→Option Int) (hP:P s f0):Bl b (0,s.1,s.2.1,s.2.2,0,f0)=(Sk out bad (Fy c i w s)):=by
 have key:∀ (m k:Nat) (s:SS) (n:Nat) (f:List UInt8→Option Int),k+m=w.length→Inv c s→i < s.1.length→n≤k→P s f→Bl b ((k:Int),s.1,s.2.1,s.2.2,n,f)=(Sk out bad (Fy c i (w.drop k) s)):=by
  intro m
  induction m with
  | zero =>
   intro k s n f hk I hi hn hp
   obtain rfl:k=w.length:=by omega
   rw[Cd,he s n f I,List.drop_length]
   rfl
  | succ m ih =>
   intro k s n f hk I hi hn hp
   have hkl:k < w.length:=by omega
   obtain⟨n',f',h1,h2,h3⟩:=hb k s n f hkl I hi hn hp
   have hd:w.drop k=w.getD k default :: w.drop (k+1):=by
    rw[List.drop_eq_getElem_cons hkl];simp[List.getD_eq_getElem?_getD,List.getElem?_eq_getElem hkl]
   rw[Cd,h3,hd,Fy]
   cases hv:Fh c i s (w.getD k default) with
   | none=>cases bad<;>rfl
   | some s' =>
    obtain⟨I',h'⟩:=Pe H I hv
    simp only[rj,Option.bind_some]
    exact ih (k+1) s' n' f' (by omega) I' (by omega) h1 (h2 s' hv)
 have:=key w.length 0 s 0 f0 (by omega) I hi (by omega) hP
 rw[List.drop_zero]at this
 exact this
theorem Ss {c:A7} (H:Fit c) {S X:Type} {b:S→Option (S⊕X)} (mk:Nat→SS→S) (out:SS→X) (bad:Option X)
  (hb:∀ (i:Nat) (s:SS),Inv c s→i < s.1.length→b (mk i s)=rj (mk (i+1)) bad (Fy c i (Mr c) s))
  (he:∀ (s:SS),Inv c s→b (mk s.1.length s)=some (.inr (out s))) :
  ∀ (n i:Nat) (s:SS),Inv c s→i≤s.1.length→n+i=402→Bl b (mk i s)=(Sk out bad (Lp c n i s)):=by
 intro n
 induction n with
 | zero=>intro i s I hi hn;have:=I.le;omega
 | succ n ih =>
  intro i s I hi hn
  unfold Lp
  by_cases h:i < s.1.length
  ·rw[if_pos h,Cd,hb i s I h]
   cases hr:Fy c i (Mr c) s with
   | none=>cases bad<;>rfl
   | some s' =>
    obtain⟨I',h'⟩:=V7 H I hr
    simp only[rj,Option.bind_some]
    exact ih (i+1) s' I' (by omega) (by omega)
  ·obtain rfl:i=s.1.length:=by omega
   rw[if_neg h,Cd,he s I]
   rfl
def Dt (c:A7):Option SS:=Lp c 402 0 (Lm ⟨(Dq c).1,(Dq c).2.1⟩)
theorem Qo {c:A7} (H:Fit c) (hc:C8 c=some 0):Inv c (Lm ⟨(Dq c).1,(Dq c).2.1⟩):=by
 refine⟨by simp[Lm],by simp[Lm],by simp[Lm],by simp[Lm],fun g hg=>?_⟩
 simp only[Lm,List.mem_singleton]at hg
 subst hg
 exact(Sz (Ge hc) H).1
theorem stepO_of {c:A7} {g:A9} {v:Int} {r:A9×List (List UInt8)×Int} (h:Js c g v=some r):G1 c g v=if(r.2.2==0)=true then some r.1 else none:=by
 unfold G1;rw[h,Option.bind_some]
theorem M45 (a0:A7):m45 a0=((Option.bind (Option.bind (Option.bind (Y8 a0) fun r=>some r) fun x1=>(if(x1.1 != 0)=true then(some (.inr (([],[],[],x1.1))))else(some (.inl ([(⟨x1.2.2.1,x1.2.2.2⟩:A9)]:List A9))))) (As fun(y1:(List A9))=>(Option.bind (Option.bind (some (.inl ())) (As fun(_:Unit)=>(Bl (fun(s2:(List A9)×(List Int)×(List Int)×Int)=>((Option.bind (if(decide (s2.2.2.2 < (s2.1.length:Int)))=true then(some (.inl ()))else(some (.inr (.inr (.inl (s2.1,s2.2.1,s2.2.2.1)))))) (As fun(_:Unit)=>(Option.bind (Option.bind (some (.inl ())) (As fun(_:Unit)=>(Bl (fun(s3:(List A9)×(List Int)×(List Int)×Int)=>((Option.bind (Option.bind (m75 a0) fun r=>some r) fun x9=>(if(decide (s3.2.2.2≤x9))=true then(Option.bind ((if 0≤s2.2.2.2 then(if s2.2.2.2 < (s3.1.length:Int)then((jm a0 (s3.1.getD s2.2.2.2.toNat default) (IntKind.wrap .u16 (s3.2.2.2))).bind fun r11_0=>some r11_0)else none)else none)) fun(x11:((A9×(List (List UInt8))×Int)))=>(Option.bind (((if(x11.2.2==0)=true then So s3.1 x11.1 else some default).bind fun r12_0=>some r12_0)) fun(x12:(Int))=>(if((x11.2.2==0)&&(decide (x12 < 0)))=true then(if((s3.1.length+1) * 32≤140737488355328)then(if((s3.2.1.length+1) * 8≤140737488355328)then(if((s3.2.2.1.length+1) * 2≤140737488355328)then(if(decide (400 < (((s3.1.length+1):Nat):Int)))=true then(some (.inr (.inr (.inr (.inr (([],[],[],(3:Int))))))))else(some (.inl ((s3.1++([x11.1]:List A9)),(s3.2.1++([s2.2.2.2]:List Int)),(s3.2.2.1++([(IntKind.wrap .u16 (s3.2.2.2))]:List Int)),(IntKind.wrap .i64 (s3.2.2.2+1))))))else none)else none)else none)else(some (.inl (s3.1,s3.2.1,s3.2.2.1,(IntKind.wrap .i64 (s3.2.2.2+1))))))))else(some (.inr (.inl (s3.1,s3.2.1,s3.2.2.1)))))):Option (((List A9)×(List Int)×(List Int)×Int)⊕(((List A9)×(List Int)×(List Int))⊕(((List A9)×(List Int)×(List Int)×Int)⊕(((List A9)×(List Int)×(List Int))⊕((List A9)×(List Int)×(List Int)×Int))))))) (s2.1,s2.2.1,s2.2.2.1,(0:Int))))) (As fun(y4:(List A9)×(List Int)×(List Int))=>(some (.inl (y4.1,y4.2.1,y4.2.2,(IntKind.wrap .i64 (s2.2.2.2+1))))))))):Option (((List A9)×(List Int)×(List Int)×Int)⊕(((List A9)×(List Int)×(List Int))⊕((List A9)×(List Int)×(List Int)×Int))))) (y1,([(-1:Int)]:List Int),([(0:Int)]:List Int),(0:Int))))) (As fun(y5:(List A9)×(List Int)×(List Int))=>(some (y5.1,y5.2.1,y5.2.2,(0:Int))))))):Option ((List A9)×(List Int)×(List Int)×Int)):=by kernel_rfl
theorem vv {c:A7} (H:Fit c) (hn:c.Ag.length≤12):m45 c=(C8 c).bind fun e=>if(e != 0)=true then some ([],[],[],e)else match Dt c with | some s=>some (s.1,s.2.1,s.2.2,0) | none=>some ([],[],[],3):=by
 obtain⟨e,he⟩:=Cz c
 have h1:=Lk c
 have h2:=Ja hn
 have q1:=rStart_eq c H
 have q2:=bf hn
 have q3:∀ (g:A9) (v:Nat),v < D0 c→jm c g v=Js c g v:=fun g v hv=>rStep_eq c H g v (by omega) (by omega)
 have q4:∀ (l:List A9) (g:A9),Short l→l.length≤1000000→So l g=some (Fd l g):=db
 simp only[M45,Fc,q1,q2]
 generalize jm=F1 at q3 ⊢
 generalize So=F2 at q4 ⊢
 unfold O8
 by_cases h0:(e != 0)=true
 ·simp only[he,bs,h0,if_true,Ou]
 ·have h0:=Bool.eq_false_iff.2 h0
  have e0:e=0:=by simpa using h0
  subst e0
  simp only[he,bs,h0,Bool.false_eq_true,if_false,ol,Dl]
  have I0:=Qo H he
  refine J9 (Ss H (fun i s=>(s.1,s.2.1,s.2.2,(i:Int))) (fun s=>.inl (s.1,s.2.1,s.2.2)) (some (.inr ([],[],[],3))) (fun i s I hi=>?_) (fun s I=>?_) 402 0 _ I0 (by omega) (by omega)) ?_
  ·have hi':(i:Int) < (s.1.length:Int):=by omega
   simp only[hi',decide_true,if_true,bs,ol]
   refine J9 (rnd_loop H (i:=i) (fun s=>.inl (s.1,s.2.1,s.2.2)) (some (.inr (.inr (.inr ([],[],[],3))))) (fun v s hv I hi=>?_) (fun s I=>?_) I hi) ?_
   ·obtain⟨r,hr⟩:=tm c (s.1.getD i default) v
    have hs:=stepO_of hr
    have b1:=I.le
    have b2:=I.l1
    have b3:=I.l2
    have hf:=q4 s.1 r.1 (I.short H) (by omega)
    have d1:decide ((v:Int)≤(D0 c:Int) - 1)=true:=by simp;omega
    have w1:IntKind.wrap .u16 (v:Int)=(v:Int):=n16 (by omega)
    have w2:IntKind.wrap .i64 ((v:Int)+1)=((v+1:Nat):Int):=by rw[El (by omega) (by omega)];omega
    have c1:((s.1.length+1) * 32≤140737488355328)=True:=eq_true (by omega)
    have c2:((s.2.1.length+1) * 8≤140737488355328)=True:=eq_true (by omega)
    have c3:((s.2.2.length+1) * 2≤140737488355328)=True:=eq_true (by omega)
    simp only[d1,if_true,C3 hi,Int.toNat_natCast,w1,w2,q3 _ v hv,hr,bs,c1,c2,c3]
    unfold Fh
    rw[hs]
    cases he0:(r.2.2==0) with
    | false=>simp only[Bool.false_and,Bool.false_eq_true,if_false,bs];rfl
    | true =>
     simp only[Bool.true_and,if_true,hf,bs,find_out]
     unfold K4
     cases hh:Mq s.1 r.1 with
     | true=>simp only[Bool.not_true,Bool.false_eq_true,if_false,if_true];rfl
     | false =>
      simp only[Bool.not_false,Bool.false_eq_true,if_false,if_true]
      by_cases h4:s.1.length=400
      ·have d2:decide ((400:Int) < ((s.1.length+1:Nat):Int))=true:=by simp;omega
       simp only[d2,h4,if_true];rfl
      ·have d2:decide ((400:Int) < ((s.1.length+1:Nat):Int))=false:=by simp;omega
       simp only[d2,h4,Bool.false_eq_true,if_false];rfl
   ·have d1:decide ((D0 c:Int)≤(D0 c:Int) - 1)=false:=by simp;omega
    simp only[d1,Bool.false_eq_true,if_false]
   ·cases hr:Fy c i (Mr c) s with
    | none=>rfl
    | some s' =>
     have w2:IntKind.wrap .i64 ((i:Int)+1)=((i+1:Nat):Int):=by
      have:=I.le
      rw[El (by omega) (by omega)];omega
     simp only[Sk,bs,ol,w2];rfl
  ·simp only[Bb,decide_false,Bool.false_eq_true,if_false,bs,Ou]
  ·unfold Dt
   cases Lp c 402 0 (Lm ⟨(Dq c).1,(Dq c).2.1⟩) with
   | some s=>rfl
   | none=>rfl
theorem M44o1 (a0:A7):P4 a0=((Option.bind (Option.bind (Option.bind (Rw a0) fun r=>some r) fun x1=>(if(x1.1 != 0)=true then(some (.inr (x1.1)))else(Option.bind (Option.bind (ya a0) fun r=>some r) fun x4=>(some (.inl (([(⟨x1.2.2.1,x1.2.2.2⟩:A9)]:List A9),x4)))))) (As fun(y1:(List A9)×(List Int))=>(Option.bind (Option.bind (some (.inl ())) (As fun(_:Unit)=>(Bl (fun(s2:Int×(List A9)×(List Int)×(List Int))=>((Option.bind (if(decide (s2.1 < (s2.2.1.length:Int)))=true then(some (.inl ()))else(some (.inr (.inr (.inl (s2.2.1,s2.2.2.1,s2.2.2.2)))))) (As fun(_:Unit)=>(Option.bind (Option.bind (some (.inl ())) (As fun(_:Unit)=>(Bl (fun(s3:Int×(List A9)×(List Int)×(List Int)×Nat×(List UInt8→Option Int))=>((if(decide (s3.1 < (y1.2.length:Int)))=true then(if(0≤s3.1)then(if(s3.1 < (y1.2.length:Int))then(Option.bind ((if 0≤s2.1 then(if s2.1 < (s3.2.1.length:Int)then((Mw a0 (s3.2.1.getD s2.1.toNat default).Leaf (y1.2.getD s3.1.toNat default)).bind fun r12_0=>some r12_0)else none)else none)) fun(x12:((List Int)))=>(if(!((x12.length:Int) != (1:Int)))=true→((0:Int)≤(0:Int))then(if(!((x12.length:Int) != (1:Int)))=true→(0 < (x12.length:Int))then(if(!((x12.length:Int) != (1:Int)))=true→(Tryz.prog=Tryz.prog)then(if(!((x12.length:Int) != (1:Int)))=true→((Lit.int .i64 (x12.getD (0:Int).toNat default)).wf=true)then(if(((x12.length:Int) != (1:Int)) || ((s3.2.2.2.2.2 (D5 (x12.getD (0:Int).toNat default))).getD 0 != 0))=true then(some (.inl ((IntKind.wrap .i64 (s3.1+1)),s3.2.1,s3.2.2.1,s3.2.2.2.1,s3.2.2.2.2.1,s3.2.2.2.2.2)))else(if((0:Int)≤(0:Int))then(if(0 < (x12.length:Int))then(if((Lit.int .i64 (x12.getD (0:Int).toNat default)).wf=true)then(if(s3.2.2.2.2.1 < maxLen)then(Option.bind ((if 0≤s2.1 then(if s2.1 < (s3.2.1.length:Int)then(if(0:Int)≤(0:Int)then(if 0 < (x12.length:Int)then((Ji a0 (s3.2.1.getD s2.1.toNat default) (x12.getD (0:Int).toNat default)).bind fun r15_0=>some r15_0)else none)else none)else none)else none)) fun(x15:((A9×(List (List UInt8))×Int)))=>(Option.bind (((if(!(x15.2.2 != 0))=true then Ok s3.2.1 x15.1 else some default).bind fun r16_0=>some r16_0)) fun(x16:(Int))=>(if((x15.2.2 != 0) || (decide (0≤x16)))=true then(some (.inl ((IntKind.wrap .i64 (s3.1+1)),s3.2.1,s3.2.2.1,s3.2.2.2.1,(s3.2.2.2.2.1+1),(fun q=>if q=(D5 (x12.getD (0:Int).toNat default))then some (if true=true then(1:Int)else 0)else s3.2.2.2.2.2 q))))else(if((s3.2.1.length:Int)==(400:Int))=true then(some (.inr (.inr (.inr (.inr ((3:Int)))))))else(if((s3.2.1.length+1) * 32≤140737488355328)then(if((s3.2.2.1.length+1) * 8≤140737488355328)then(if((s3.2.2.2.1.length+1) * 2≤140737488355328)then(some (.inl ((IntKind.wrap .i64 (s3.1+1)),(s3.2.1++([x15.1]:List A9)),(s3.2.2.1++([s2.1]:List Int)),(s3.2.2.2.1++([(y1.2.getD s3.1.toNat default)]:List Int)),(s3.2.2.2.2.1+1),(fun q=>if q=(D5 (x12.getD (0:Int).toNat default))then some (if true=true then(1:Int)else 0)else s3.2.2.2.2.2 q))))else none)else none)else none)))))else none)else none)else none)else none))else none)else none)else none)else none))else none)else none)else(some (.inr (.inl (s3.2.1,s3.2.2.1,s3.2.2.2.1))))):Option ((Int×(List A9)×(List Int)×(List Int)×Nat×(List UInt8→Option Int))⊕(((List A9)×(List Int)×(List Int))⊕((Int×(List A9)×(List Int)×(List Int))⊕(((List A9)×(List Int)×(List Int))⊕(Int))))))) ((0:Int),s2.2.1,s2.2.2.1,s2.2.2.2,0,(fun _=>none))))) (As fun(y4:(List A9)×(List Int)×(List Int))=>(some (.inl ((IntKind.wrap .i64 (s2.1+1)),y4.1,y4.2.1,y4.2.2))))))):Option ((Int×(List A9)×(List Int)×(List Int))⊕(((List A9)×(List Int)×(List Int))⊕(Int))))) ((0:Int),y1.1,([(-1:Int)]:List Int),([(0:Int)]:List Int))))) (As fun(y5:(List A9)×(List Int)×(List Int))=>none)))):Option (Int)):=by kernel_rfl
theorem M44o2 (a0:A7):P5 a0=((Option.bind (Option.bind (Option.bind (Rw a0) fun r=>some r) fun x1=>(if(x1.1 != 0)=true then none else(Option.bind (Option.bind (ya a0) fun r=>some r) fun x4=>(some (.inl (([(⟨x1.2.2.1,x1.2.2.2⟩:A9)]:List A9),x4)))))) (As fun(y1:(List A9)×(List Int))=>(Option.bind (Option.bind (some (.inl ())) (As fun(_:Unit)=>(Bl (fun(s2:Int×(List A9)×(List Int)×(List Int))=>((Option.bind (if(decide (s2.1 < (s2.2.1.length:Int)))=true then(some (.inl ()))else(some (.inr (.inr (.inl (s2.2.1,s2.2.2.1,s2.2.2.2)))))) (As fun(_:Unit)=>(Option.bind (Option.bind (some (.inl ())) (As fun(_:Unit)=>(Bl (fun(s3:Int×(List A9)×(List Int)×(List Int)×Nat×(List UInt8→Option Int))=>((if(decide (s3.1 < (y1.2.length:Int)))=true then(if(0≤s3.1)then(if(s3.1 < (y1.2.length:Int))then(Option.bind ((if 0≤s2.1 then(if s2.1 < (s3.2.1.length:Int)then((Mw a0 (s3.2.1.getD s2.1.toNat default).Leaf (y1.2.getD s3.1.toNat default)).bind fun r12_0=>some r12_0)else none)else none)) fun(x12:((List Int)))=>(if(!((x12.length:Int) != (1:Int)))=true→((0:Int)≤(0:Int))then(if(!((x12.length:Int) != (1:Int)))=true→(0 < (x12.length:Int))then(if(!((x12.length:Int) != (1:Int)))=true→(Tryz.prog=Tryz.prog)then(if(!((x12.length:Int) != (1:Int)))=true→((Lit.int .i64 (x12.getD (0:Int).toNat default)).wf=true)then(if(((x12.length:Int) != (1:Int)) || ((s3.2.2.2.2.2 (D5 (x12.getD (0:Int).toNat default))).getD 0 != 0))=true then(some (.inl ((IntKind.wrap .i64 (s3.1+1)),s3.2.1,s3.2.2.1,s3.2.2.2.1,s3.2.2.2.2.1,s3.2.2.2.2.2)))else(if((0:Int)≤(0:Int))then(if(0 < (x12.length:Int))then(if((Lit.int .i64 (x12.getD (0:Int).toNat default)).wf=true)then(if(s3.2.2.2.2.1 < maxLen)then(Option.bind ((if 0≤s2.1 then(if s2.1 < (s3.2.1.length:Int)then(if(0:Int)≤(0:Int)then(if 0 < (x12.length:Int)then((Ji a0 (s3.2.1.getD s2.1.toNat default) (x12.getD (0:Int).toNat default)).bind fun r15_0=>some r15_0)else none)else none)else none)else none)) fun(x15:((A9×(List (List UInt8))×Int)))=>(Option.bind (((if(!(x15.2.2 != 0))=true then Ok s3.2.1 x15.1 else some default).bind fun r16_0=>some r16_0)) fun(x16:(Int))=>(if((x15.2.2 != 0) || (decide (0≤x16)))=true then(some (.inl ((IntKind.wrap .i64 (s3.1+1)),s3.2.1,s3.2.2.1,s3.2.2.2.1,(s3.2.2.2.2.1+1),(fun q=>if q=(D5 (x12.getD (0:Int).toNat default))then some (if true=true then(1:Int)else 0)else s3.2.2.2.2.2 q))))else(if((s3.2.1.length:Int)==(400:Int))=true then none else(if((s3.2.1.length+1) * 32≤140737488355328)then(if((s3.2.2.1.length+1) * 8≤140737488355328)then(if((s3.2.2.2.1.length+1) * 2≤140737488355328)then(some (.inl ((IntKind.wrap .i64 (s3.1+1)),(s3.2.1++([x15.1]:List A9)),(s3.2.2.1++([s2.1]:List Int)),(s3.2.2.2.1++([(y1.2.getD s3.1.toNat default)]:List Int)),(s3.2.2.2.2.1+1),(fun q=>if q=(D5 (x12.getD (0:Int).toNat default))then some (if true=true then(1:Int)else 0)else s3.2.2.2.2.2 q))))else none)else none)else none)))))else none)else none)else none)else none))else none)else none)else none)else none))else none)else none)else(some (.inr (.inl (s3.2.1,s3.2.2.1,s3.2.2.2.1))))):Option ((Int×(List A9)×(List Int)×(List Int)×Nat×(List UInt8→Option Int))⊕(((List A9)×(List Int)×(List Int))⊕((Int×(List A9)×(List Int)×(List Int))⊕(((List A9)×(List Int)×(List Int))⊕((List A9)×(List Int)×(List Int)×(List Int)))))))) ((0:Int),s2.2.1,s2.2.2.1,s2.2.2.2,0,(fun _=>none))))) (As fun(y4:(List A9)×(List Int)×(List Int))=>(some (.inl ((IntKind.wrap .i64 (s2.1+1)),y4.1,y4.2.1,y4.2.2))))))):Option ((Int×(List A9)×(List Int)×(List Int))⊕(((List A9)×(List Int)×(List Int))⊕((List A9)×(List Int)×(List Int)×(List Int)))))) ((0:Int),y1.1,([(-1:Int)]:List Int),([(0:Int)]:List Int))))) (As fun(y5:(List A9)×(List Int)×(List Int))=>(some (y5.1,y5.2.1,y5.2.2,y1.2)))))):Option ((List A9)×(List Int)×(List Int)×(List Int))):=by kernel_rfl
theorem Wz {c:A7} (hc:C8 c=some 0) {g:A9} (hg:C4 c g=true) {v:Int} (ha:Cx c v=true):G1 c g v=if((((Ad c g.Leaf v).length:Int))==1)=true then some (Cr c g ((Ad c g.Leaf v).getD 0 default)).1 else none:=by
 unfold G1 Js
 simp only[hc,Option.bind_some,Dl,hg,ha,Bool.not_true,Bool.false_eq_true,if_false]
 by_cases h1:(((Ad c g.Leaf v).length:Int)==1)=true
 ·have h0:(((Ad c g.Leaf v).length:Int)==0)=false:=by
   have:((Ad c g.Leaf v).length:Int)=1:=by simpa using h1
   rw[this];rfl
  simp only[h0,h1,Bool.false_eq_true,if_false,if_true,Option.bind_some];rfl
 ·have h1':=Bool.eq_false_iff.2 h1
  simp only[h1',Bool.false_eq_true,if_false]
  by_cases h0:(((Ad c g.Leaf v).length:Int)==0)=true
  ·simp only[h0,if_true,Option.bind_some];rfl
  ·have h0':=Bool.eq_false_iff.2 h0
   simp only[h0',Bool.false_eq_true,if_false,Option.bind_some];rfl
def DoneP (c:A7) (g:A9) (s:SS) (f:List UInt8→Option Int):Prop:=∀ t:Int,((f (D5 t)).getD 0 != 0)=true→Mq s.1 (Cr c g t).1=true
theorem rx {c:A7} (H:Fit c) (hc:C8 c=some 0) {g:A9} (hg:C4 c g=true) {v:Int} (h1:(((Ad c g.Leaf v).length:Int)==1)=true):Ji c g ((Ad c g.Leaf v).getD 0 default)=some (Cr c g ((Ad c g.Leaf v).getD 0 default)):=by
 have hl:0 < (Ad c g.Leaf v).length:=by
  have:((Ad c g.Leaf v).length:Int)=1:=by simpa using h1
  omega
 obtain⟨i,hi,hx,hon⟩:=J7 hl
 rw[gb H,hx]
 have hn:(decide ((i:Int) < 0) || decide ((c.A0.length:Int)≤(i:Int)))=false:=by
  simp only[Bool.or_eq_false_iff,decide_eq_false_iff_not];omega
 simp only[hc,Option.bind_some,Dl,hg,hn,Int.toNat_natCast,hon,Bool.not_true,Bool.false_eq_true,if_false]
 rfl
end Go.Av
