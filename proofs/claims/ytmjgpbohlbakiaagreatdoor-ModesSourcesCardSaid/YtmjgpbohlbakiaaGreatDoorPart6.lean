/- A part of the proof. -/
import Derived.Test.YtmjgpbohlbakiaaGreatDoorPart5
set_option linter.unusedVariables false
set_option linter.unusedSimpArgs false
set_option maxRecDepth 100000
namespace Go.Av
open Go.RowKit Go.Base Go.Proofs Go.ChangeShapes Go.WideShapes
noncomputable def d43 (a0:T27):JF Tryz.prog Tryz.f43 [(e27 a0)] (fun(r:Int)=>(dI r)) :=
 (.sq 4 [(1,tm1 17 D.bool)] [(1,[2],[]),(0,[1],[16])] (fun(_:Unit)=>⟨[(1,(.ptr 16 0))],[(16,(.cells (g27 a0)))],[],528⟩) (c3 (@p82 a0.Name (8:Int)) fun x1=>(.ite (!x1) (.ret .ret ⟨[(2,(aI 5))],[],[],128⟩ (.inr ((5:Int))) ⟨rfl,rfl,_,Weak.refl _,dr⟩) (.ite ((a0.States.length:Int)==(0:Int)) (.ret .ret ⟨[(2,(aI 6))],[],[],192⟩ (.inr ((6:Int))) ⟨rfl,rfl,_,Weak.refl _,dr⟩) (.ite ((((decide (12 < (a0.Conds.length:Int))) || (decide (16 < (a0.Never.length:Int)))) || (decide (40 < (a0.States.length:Int)))) || (decide (120 < (a0.Transitions.length:Int)))) (.ret .ret ⟨[(2,(aI 3))],[],[],544⟩ (.inr ((3:Int))) ⟨rfl,rfl,_,Weak.refl _,dr⟩) (.nx ()))))) (fun _=>(.sc (fun(_:Unit)=>⟨[(1,(.ptr 16 0))],[(16,(.cells (g27 a0)))],[],1040⟩) (.sq 1 [] [(0,[1,46,47,48],[16])] (fun(_:Unit)=>⟨[(1,(.ptr 16 0)),(46,(.d (eSl 1 D.str a0.Conds))),(47,(z43_2 a0)),(48,(aI 0))],[(16,(.cells (g27 a0)))],[],592⟩) (.nx ()) (fun _=>(.bk (.lp (fun(s1:Int)=>⟨(z43_0 a0 s1),[(16,(.cells (g27 a0)))],[],1024⟩) (0:Int) (wk [(16,16)] []) fun s1=>(.sq 2 [] [(0,[1,46,47,48],[16]),(2,[1],[16])] (fun(_:Unit)=>⟨(z43_0 a0 s1),[(16,(.cells (g27 a0)))],[],1040⟩) (.ite (decide (s1 < (a0.Conds.length:Int))) (.nx ()) (.ret (.exit 0) _ (.inr (.inr (.inl ()))) ⟨rfl,rfl,rfl,Weak.refl _⟩)) (fun _=>(.sc (fun(_:Unit)=>⟨(z43_0 a0 s1),[(16,(.cells (g27 a0)))],[],1424⟩) (.bk (.sq 3 [(10,tm1 54 D.bool)] [(1,[2],[]),(0,[1,4,46,47,48,59,60,61],[16])] (fun(_:Unit)=>⟨[(1,(.ptr 16 0)),(4,(aS (a0.Conds.getD s1.toNat default))),(46,(.d (eSl 1 D.str a0.Conds))),(47,(z43_2 a0)),(48,(aI s1)),(59,(.d (eSl 1 D.str (subL a0.Conds 0 s1.toNat)))),(60,(aI (s1.toNat:Int))),(61,(aI 0))],[(16,(.cells (g27 a0)))],[],1264⟩) (nd (0≤s1) (nd (s1 < (a0.Conds.length:Int)) (c3 (@p82 (a0.Conds.getD s1.toNat default) (8:Int)) fun x10=>(.ite (!x10) (.ret .ret ⟨[(2,(aI 5))],[],[],1184⟩ (.inr (.inr (.inr (.inr ((5:Int)))))) ⟨rfl,rfl,rfl,rfl,rfl,_,Weak.refl _,dr⟩) (nd (0≤s1) (nd (s1≤(a0.Conds.length:Int)) (.ret .normal ⟨[(1,(.ptr 16 0)),(4,(aS (a0.Conds.getD s1.toNat default))),(46,(.d (eSl 1 D.str a0.Conds))),(47,(z43_2 a0)),(48,(aI s1)),(59,(.d (.sl 1 s1.toNat (cF D.str a0.Conds)))),(60,(aI (s1.toNat:Int))),(61,(aI 0))],[(16,(.cells (g27 a0)))],[],1264⟩ (.inl ()) ⟨rfl,(wh [(16,16)] [] ⟨⟨rfl,rfl⟩,dr,dr,dr,dr,de_sub0,dr,dr⟩)⟩))))))) (fun _=>(.bk (.lp (fun(s2:Int)=>⟨[(1,(.ptr 16 0)),(4,(aS (a0.Conds.getD s1.toNat default))),(46,(.d (eSl 1 D.str a0.Conds))),(47,(z43_2 a0)),(48,(aI s1)),(59,(.d (eSl 1 D.str (subL a0.Conds 0 s1.toNat)))),(60,(aI (s1.toNat:Int))),(61,(aI s2))],[(16,(.cells (g27 a0)))],[],1408⟩) (0:Int) (wk [(16,16)] []) fun s2=>(.sg [] [(1,[2],[]),(0,[1,4,46,47,48,59,60,61],[16]),(4,[1,46,47,48],[16])] (.ite (decide (s2 < (s1.toNat:Int))) (nd (0≤s2) (nd (s2 < ((subL a0.Conds 0 s1.toNat).length:Int)) (.ite ((a0.Conds.getD s1.toNat default)==((subL a0.Conds 0 s1.toNat).getD s2.toNat default)) (.ret .ret ⟨[(2,(aI 7))],[],[],1536⟩ (.inr (.inr (.inr (.inr ((7:Int)))))) ⟨rfl,rfl,rfl,rfl,rfl,_,Weak.refl _,dr⟩) (.ret .normal ⟨[(1,(.ptr 16 0)),(4,(aS (a0.Conds.getD s1.toNat default))),(46,(.d (eSl 1 D.str a0.Conds))),(47,(z43_2 a0)),(48,(aI s1)),(59,(.d (eSl 1 D.str (subL a0.Conds 0 s1.toNat)))),(60,(aI (s1.toNat:Int))),(61,(aI (IntKind.wrap .i64 (s2+1))))],[(16,(.cells (g27 a0)))],[],1552⟩ (.inl (IntKind.wrap .i64 (s2+1))) ⟨rfl,(wk [(16,16)] [])⟩)))) (.ret (.exit 2) _ (.inr (.inl ())) ⟨rfl,rfl,Weak.refl _⟩)))))))) fun _=>(.sg [] [(0,[1,46,47,48],[16])] (.ret .normal ⟨[(1,(.ptr 16 0)),(46,(.d (eSl 1 D.str a0.Conds))),(47,(z43_2 a0)),(48,(aI (IntKind.wrap .i64 (s1+1))))],[(16,(.cells (g27 a0)))],[],1456⟩ (.inl (IntKind.wrap .i64 (s1+1))) ⟨rfl,(wk [(16,16)] [])⟩))))))))) fun _=>(.sc (fun(_:Unit)=>⟨[(1,(.ptr 16 0))],[(16,(.cells (g27 a0)))],[],1360⟩) (.sq 1 [] [(0,[1,71,72,73],[16])] (fun(_:Unit)=>⟨[(1,(.ptr 16 0)),(71,(.d (eSl 1 (eSl 2 e151) a0.Never))),(72,(aI (a0.Never.length:Int))),(73,(aI 0))],[(16,(.cells (g27 a0)))],[],1104⟩) (.nx ()) (fun _=>(.bk (.lp (fun(s3:Int)=>⟨[(1,(.ptr 16 0)),(71,(.d (eSl 1 (eSl 2 e151) a0.Never))),(72,(aI (a0.Never.length:Int))),(73,(aI s3))],[(16,(.cells (g27 a0)))],[],1344⟩) (0:Int) (wk [(16,16)] []) fun s3=>(.sg [(24,tm1 82 dI)] [(1,[2],[]),(0,[1,71,72,73],[16]),(6,[1],[16])] (.ite (decide (s3 < (a0.Never.length:Int))) (nd (0≤s3) (nd (s3 < (a0.Never.length:Int)) (.ite (((a0.Never.getD s3.toNat default).length:Int)==(0:Int)) (.ret .ret ⟨[(2,(aI 1))],[],[],1472⟩ (.inr (.inr ((1:Int)))) ⟨rfl,rfl,rfl,_,Weak.refl _,dr⟩) (c3 (@p83 a0 (a0.Never.getD s3.toNat default)) fun x24=>(.ite (x24 != 0) (.ret .ret ⟨[(2,(aI x24))],[],[],1584⟩ (.inr (.inr (x24))) ⟨rfl,rfl,rfl,_,Weak.refl _,dr⟩) (.ret .normal ⟨[(1,(.ptr 16 0)),(71,(.d (eSl 1 (eSl 2 e151) a0.Never))),(72,(aI (a0.Never.length:Int))),(73,(aI (IntKind.wrap .i64 (s3+1))))],[(16,(.cells (g27 a0)))],[],1584⟩ (.inl (IntKind.wrap .i64 (s3+1))) ⟨rfl,(wk [(16,16)] [])⟩)))))) (.ret (.exit 4) _ (.inr (.inl ())) ⟨rfl,rfl,Weak.refl _⟩))))))) fun _=>(.sc (fun(_:Unit)=>⟨[(1,(.ptr 16 0))],[(16,(.cells (g27 a0)))],[],1616⟩) (.sq 1 [] [(0,[1,89,90],[16])] (fun(_:Unit)=>⟨[(1,(.ptr 16 0)),(89,(aI (a0.States.length:Int))),(90,(aI 0))],[(16,(.cells (g27 a0)))],[],1424⟩) (.nx ()) (fun _=>(.bk (.lp (fun(s4:Int)=>⟨[(1,(.ptr 16 0)),(89,(aI (a0.States.length:Int))),(90,(aI s4))],[(16,(.cells (g27 a0)))],[],1600⟩) (0:Int) (wk [(16,16)] []) fun s4=>(.sg [(31,tm1 95 dI)] [(1,[2],[]),(0,[1,89,90],[16]),(8,[1],[16])] (.ite (decide (s4 < (a0.States.length:Int))) (c3 (@p84 a0 s4) fun x31=>(.ite (x31 != 0) (.ret .ret ⟨[(2,(aI x31))],[],[],1776⟩ (.inr (.inr (x31))) ⟨rfl,rfl,rfl,_,Weak.refl _,dr⟩) (.ret .normal ⟨[(1,(.ptr 16 0)),(89,(aI (a0.States.length:Int))),(90,(aI (IntKind.wrap .i64 (s4+1))))],[(16,(.cells (g27 a0)))],[],1776⟩ (.inl (IntKind.wrap .i64 (s4+1))) ⟨rfl,(wk [(16,16)] [])⟩))) (.ret (.exit 6) _ (.inr (.inl ())) ⟨rfl,rfl,Weak.refl _⟩))))))) fun _=>(.sq 1 [] [(1,[2],[]),(0,[1],[16])] (fun(_:Unit)=>⟨[(1,(.ptr 16 0))],[(16,(.cells (g27 a0)))],[],1792⟩) (.ite ((decide (a0.Start < 0)) || (decide ((a0.States.length:Int)≤a0.Start))) (.ret .ret ⟨[(2,(aI 2))],[],[],1808⟩ (.inr ((2:Int))) ⟨rfl,rfl,_,Weak.refl _,dr⟩) (.nx ())) (fun _=>(.sc (fun(_:Unit)=>⟨[],[],[],2576⟩) (.sq 1 [] [(0,[1,112,113,114],[16])] (fun(_:Unit)=>⟨[(1,(.ptr 16 0)),(112,(.d (eSl 4 e78 a0.Transitions))),(113,(aI (a0.Transitions.length:Int))),(114,(aI 0))],[(16,(.cells (g27 a0)))],[],1856⟩) (.nx ()) (fun _=>(.bk (.lp (fun(s5:Int)=>⟨[(1,(.ptr 16 0)),(112,(.d (eSl 4 e78 a0.Transitions))),(113,(aI (a0.Transitions.length:Int))),(114,(aI s5))],[(16,(.cells (g27 a0)))],[],2560⟩) (0:Int) (wk [(16,16)] []) fun s5=>(.sg [(42,tm1 145 dI),(44,tm1 150 dI)] [(1,[2],[]),(0,[1,112,113,114],[16]),(10,[],[])] (.ite (decide (s5 < (a0.Transitions.length:Int))) (nd (0≤s5) (nd (s5 < (a0.Transitions.length:Int)) (.ite ((((decide ((a0.Transitions.getD s5.toNat default).From < 0)) || (decide ((a0.States.length:Int)≤(a0.Transitions.getD s5.toNat default).From))) || (decide ((a0.Transitions.getD s5.toNat default).To < 0))) || (decide ((a0.States.length:Int)≤(a0.Transitions.getD s5.toNat default).To))) (.ret .ret ⟨[(2,(aI 2))],[],[],3040⟩ (.inr (.inr ((2:Int)))) ⟨rfl,rfl,rfl,_,Weak.refl _,dr⟩) (c3 (@p83 a0 (a0.Transitions.getD s5.toNat default).When) fun x42=>(.ite (x42==0) (c3 (@p85 (a0.Transitions.getD s5.toNat default).Actions) fun x44=>(.ite (x44 != 0) (.ret .ret ⟨[(2,(aI x44))],[],[],3264⟩ (.inr (.inr (x44))) ⟨rfl,rfl,rfl,_,Weak.refl _,dr⟩) (.ret .normal ⟨(z43_1 a0 s5),[(16,(.cells (g27 a0)))],[],3264⟩ (.inl (IntKind.wrap .i64 (s5+1))) ⟨rfl,(wk [(16,16)] [])⟩))) (.ite (x42 != 0) (.ret .ret ⟨[(2,(aI x42))],[],[],3200⟩ (.inr (.inr (x42))) ⟨rfl,rfl,rfl,_,Weak.refl _,dr⟩) (.ret .normal ⟨(z43_1 a0 s5),[(16,(.cells (g27 a0)))],[],3200⟩ (.inl (IntKind.wrap .i64 (s5+1))) ⟨rfl,(wk [(16,16)] [])⟩))))))) (.ret (.exit 8) _ (.inr (.inl ())) ⟨rfl,rfl,Weak.refl _⟩))))))) fun _=>(.sg [] [(1,[2],[])] (.ret .ret ⟨[(2,(aI 0))],[],[],2592⟩ (0:Int) ⟨rfl,_,Weak.refl _,dr⟩))))))))))
noncomputable def m43 (a0:T27):Option (Int):=(d43 a0).m
theorem p43 {a0:T27} {r:Int} (h:m43 a0=some r):PureAt Tryz.prog 43 [(e27 a0)] (dI r):=pure_jd (d43 a0) Tryz.func43 h
noncomputable abbrev z67_0:List (Nat×Ob):=[(16,(.cells [(aS ([]:List UInt8)),aN,aN,aN,(aI 0),aN]))]
noncomputable abbrev z67_1 (y1:(List T103)×(List T100)):AV:=(.ap 2 y1.1.length (cF e103 y1.1) (.tok 65 103))
noncomputable abbrev z67_2 (s2:(List T100)×Int) (y1:(List T103)×(List T100)):List (Nat×AV):=[(2,(.ptr 16 0)),(4,(z67_1 y1)),(5,(.ap 3 s2.1.length (cF e100 s2.1) (.tok 304 100))),(36,(z67_1 y1)),(37,(aI (y1.1.length:Int))),(38,(aI (IntKind.wrap .i64 (s2.2+1))))]
noncomputable abbrev z67_3 (y3:(List T100)):AV:=(.ap 3 y3.length (cF e100 y3) (.tok 304 100))
noncomputable def o67_0 (x:((List T100)×(List T103))):OT:=⟨(.tup [(.ap 2 x.2.length (cF e103 x.2) (.tok 65 103)),(.ap 3 x.1.length (cF e100 x.1) (.tok 64 100))]),[],[],[],[64,65]⟩
noncomputable def d67 (a0:List UInt8):JF Tryz.prog Tryz.f67 [(.str a0)] (fun(r:T27×(List T100))=>(.tup [(e27 r.1),(eSl 3 e100 r.2)])) :=
 (.sq 4 [(1,⟨((List T100)×(List T103)),fun x=>[],fun x=>[(64,(o67_0 x))],[]⟩)] [(1,[2,3],[16]),(0,[2,4,5],[16])] (fun(y1:(List T103)×(List T100))=>⟨[(2,(.ptr 16 0)),(4,(z67_1 y1)),(5,(.ap 3 y1.2.length (cF e100 y1.2) (.tok 304 100)))],z67_0,[65,304],384⟩) (c3 (p:=fun x1=>ObjL Tryz.prog 111 [(aS a0)] [] 64 (o67_0 x1)) (fun x1 (h1:m111o0 a0=some _)=>ok [] [] [] [(64,112),(65,608)] (po111o0 h1)) fun x1=>(.ite (((x1.1.length:Int)==(0:Int))&&((x1.2.length:Int)==(0:Int))) (.ite (decide ((0:Int) < (1:Int))) (.ret .ret ⟨[(2,(.ptr 16 0)),(3,(.ap 3 1 (litF [(.agg [(dI 1),(dI 1),(dI 9)])]) (.tok 304 100)))],z67_0,[304,64,65],448⟩ (.inr (((⟨([]:List UInt8),[],[],[],(0:Int),[]⟩:T27),([(⟨(1:Int),(1:Int),(9:Int)⟩:T100)]:List T100)))) ⟨rfl,rfl,_,Weak.refl _,⟨⟨dr,de_nil,de_nil,de_nil,dr,de_nil,trivial⟩,(de_lit rfl rfl),trivial⟩⟩) (.ret .normal ⟨[(2,(.ptr 16 0)),(4,(.ap 2 x1.2.length (cF e103 x1.2) (.tok 65 103))),(5,(.ap 3 1 (litF [(.agg [(dI 1),(dI 1),(dI 9)])]) (.tok 304 100)))],z67_0,[304,64,65],384⟩ (.inl (x1.2,([(⟨(1:Int),(1:Int),(9:Int)⟩:T100)]:List T100))) ⟨rfl,(wh [(16,16)] (idn [65,304]) ⟨⟨rfl,rfl⟩,⟨rfl,rfl,rfl,dr⟩,⟨rfl,rfl,rfl,(de_lit rfl rfl)⟩⟩)⟩)) (.ite (decide (0 < (x1.1.length:Int))) (.ret .ret ⟨[(2,(.ptr 16 0)),(3,(.ap 3 x1.1.length (cF e100 x1.1) (.tok 64 100)))],z67_0,[64,65],400⟩ (.inr (((⟨([]:List UInt8),[],[],[],(0:Int),[]⟩:T27),x1.1))) ⟨rfl,rfl,_,Weak.refl _,⟨⟨dr,de_nil,de_nil,de_nil,dr,de_nil,trivial⟩,dr,trivial⟩⟩) (.ret .normal ⟨[(2,(.ptr 16 0)),(4,(.ap 2 x1.2.length (cF e103 x1.2) (.tok 65 103))),(5,(.ap 3 x1.1.length (cF e100 x1.1) (.tok 64 100)))],z67_0,[64,65],336⟩ (.inl (x1.2,x1.1)) ⟨rfl,(wk [(16,16)] [(65,65),(304,64)])⟩)))) (fun y1=>(.sc (fun(y3:(List T100))=>⟨[(2,(.ptr 16 0)),(4,(z67_1 y1)),(5,(z67_3 y3))],z67_0,[65,304],1536⟩) (.sq 1 [] [(0,[2,4,5,36,37,38],[16])] (fun(_:Unit)=>⟨[(2,(.ptr 16 0)),(4,(z67_1 y1)),(5,(.ap 3 y1.2.length (cF e100 y1.2) (.tok 304 100))),(36,(z67_1 y1)),(37,(aI (y1.1.length:Int))),(38,(aI 0))],z67_0,[65,304],432⟩) (.nx ()) (fun _=>(.bk (.lp (fun(s2:(List T100)×Int)=>⟨[(2,(.ptr 16 0)),(4,(z67_1 y1)),(5,(.ap 3 s2.1.length (cF e100 s2.1) (.tok 304 100))),(36,(z67_1 y1)),(37,(aI (y1.1.length:Int))),(38,(aI s2.2))],z67_0,[65,304],1520⟩) (y1.2,(0:Int)) (wk [(16,16)] (idn [65,304])) fun s2=>(.sg [(10,tm1 52 dI),(14,⟨Int×Bool,fun x=>[(75,(dI x.1)),(76,(.bool x.2))],fun x=>[],[]⟩),(16,tm1 84 (fun(x:(T100×Bool))=>(.tup [(e100 x.1),(.bool x.2)])))] [(0,[2,4,5,36,37,38],[16]),(2,[2,4,5],[16])] (.ite (decide (s2.2 < (y1.1.length:Int))) (nd (0≤s2.2) (nd (s2.2 < (y1.1.length:Int)) (nd ((0:Int)≤(0:Int)) (nd (0 < ((y1.1.getD s2.2.toNat default).Fields.length:Int)) (c3 (@p112 (y1.1.getD s2.2.toNat default)) fun x10=>(.ite (decide (x10 < 0)) (.ite (true&&(decide ((s2.1.length:Int) < (50:Int)))) (nd ((s2.1.length+1) * 24≤140737488355328) (.ret .normal ⟨[(2,(.ptr 16 0)),(4,(z67_1 y1)),(5,(.ap 3 (s2.1.length+1) (appF s2.1.length (cF e100 s2.1) (litF [(.agg [(dI (y1.1.getD s2.2.toNat default).Number),(dI ((y1.1.getD s2.2.toNat default).Fields.getD (0:Int).toNat default).Column),(dI 4)])])) (.tok 2064 100))),(36,(z67_1 y1)),(37,(aI (y1.1.length:Int))),(38,(aI (IntKind.wrap .i64 (s2.2+1))))],z67_0,[2064,2048,65],2128⟩ (.inl ((s2.1++([(⟨(y1.1.getD s2.2.toNat default).Number,((y1.1.getD s2.2.toNat default).Fields.getD (0:Int).toNat default).Column,(4:Int)⟩:T100)]:List T100)),(IntKind.wrap .i64 (s2.2+1)))) ⟨rfl,(wh [(16,16)] [(65,65),(304,2064)] ⟨⟨rfl,rfl⟩,⟨rfl,rfl,rfl,dr⟩,⟨rfl,rfl,rfl,(de_app dr (de_lit rfl rfl))⟩,⟨rfl,rfl,rfl,dr⟩,dr,dr⟩)⟩)) (.ret .normal ⟨(z67_2 s2 y1),z67_0,[65,304],2048⟩ (.inl (s2.1,(IntKind.wrap .i64 (s2.2+1)))) ⟨rfl,(wk [(16,16)] (idn [65,304]))⟩)) (.exi (Int×Bool) (if(((!((s2.2==0)&&(x10 != 0)))&&(decide (0 < s2.2)))&&(!(x10==0)))=true→0≤(IntKind.wrap .i64 (s2.2 - 1))then(if(((!((s2.2==0)&&(x10 != 0)))&&(decide (0 < s2.2)))&&(!(x10==0)))=true→(IntKind.wrap .i64 (s2.2 - 1)) < (y1.1.length:Int)then((if(((!((s2.2==0)&&(x10 != 0)))&&(decide (0 < s2.2)))&&(!(x10==0)))=true then m112 (y1.1.getD (IntKind.wrap .i64 (s2.2 - 1)).toNat default)else some default).bind fun r14_0=>((if(((!((s2.2==0)&&(x10 != 0)))&&(decide (0 < s2.2)))&&(!(x10==0)))=true then m113 x10 r14_0 else some default).bind fun r14_1=>some (r14_0,r14_1)))else none)else none) (fun x14=>(.g (((!((s2.2==0)&&(x10 != 0)))&&(decide (0 < s2.2)))&&(!(x10==0))) (0≤(IntKind.wrap .i64 (s2.2 - 1))) (.g (((!((s2.2==0)&&(x10 != 0)))&&(decide (0 < s2.2)))&&(!(x10==0))) ((IntKind.wrap .i64 (s2.2 - 1)) < (y1.1.length:Int)) (.g (((!((s2.2==0)&&(x10 != 0)))&&(decide (0 < s2.2)))&&(!(x10==0))) (PureAt Tryz.prog 112 [(.agg [(dI (y1.1.getD (IntKind.wrap .i64 (s2.2 - 1)).toNat default).Number),(eSl 2 e105 (y1.1.getD (IntKind.wrap .i64 (s2.2 - 1)).toNat default).Fields)])] (dI x14.1)) (.g (((!((s2.2==0)&&(x10 != 0)))&&(decide (0 < s2.2)))&&(!(x10==0))) (PureAt Tryz.prog 113 [(dI x10),(dI x14.1)] (.bool x14.2)) (.fin 0)))))) (by intro x14 h;obtain⟨h1,h⟩:=if_some h;obtain⟨h2,h⟩:=if_some h;obtain⟨r14_0,h3,h⟩:=Option.bind_eq_some_iff.1 h;obtain⟨r14_1,h4,h⟩:=Option.bind_eq_some_iff.1 h;cases h;exact⟨h1,h2,fun g=>p112 (by rw[if_pos g]at h3;exact h3),fun g=>p113 (by rw[if_pos g]at h4;exact h4),trivial⟩) (fun x14 _=>(.ite (((s2.2==0)&&(x10 != 0)) || ((decide (0 < s2.2))&&((x10==0) || (!x14.2)))) (.ite (true&&(decide ((s2.1.length:Int) < (50:Int)))) (nd ((s2.1.length+1) * 24≤140737488355328) (.ret .normal ⟨[(2,(.ptr 16 0)),(4,(z67_1 y1)),(5,(.ap 3 (s2.1.length+1) (appF s2.1.length (cF e100 s2.1) (litF [(.agg [(dI (y1.1.getD s2.2.toNat default).Number),(dI ((y1.1.getD s2.2.toNat default).Fields.getD (0:Int).toNat default).Column),(dI 9)])])) (.tok 2464 100))),(36,(z67_1 y1)),(37,(aI (y1.1.length:Int))),(38,(aI (IntKind.wrap .i64 (s2.2+1))))],z67_0,[2464,2448,65],2528⟩ (.inl ((s2.1++([(⟨(y1.1.getD s2.2.toNat default).Number,((y1.1.getD s2.2.toNat default).Fields.getD (0:Int).toNat default).Column,(9:Int)⟩:T100)]:List T100)),(IntKind.wrap .i64 (s2.2+1)))) ⟨rfl,(wh [(16,16)] [(65,65),(304,2464)] ⟨⟨rfl,rfl⟩,⟨rfl,rfl,rfl,dr⟩,⟨rfl,rfl,rfl,(de_app dr (de_lit rfl rfl))⟩,⟨rfl,rfl,rfl,dr⟩,dr,dr⟩)⟩)) (.ret .normal ⟨(z67_2 s2 y1),z67_0,[65,304],2448⟩ (.inl (s2.1,(IntKind.wrap .i64 (s2.2+1)))) ⟨rfl,(wk [(16,16)] (idn [65,304]))⟩)) (c3 (@p114 (y1.1.getD s2.2.toNat default)) fun x16=>(.ite (x16.2&&(decide ((s2.1.length:Int) < (50:Int)))) (nd ((s2.1.length+1) * 24≤140737488355328) (.ret .normal ⟨[(2,(.ptr 16 0)),(4,(z67_1 y1)),(5,(.ap 3 (s2.1.length+1) (appF s2.1.length (cF e100 s2.1) (litF [(e100 x16.1)])) (.tok 2544 100))),(36,(z67_1 y1)),(37,(aI (y1.1.length:Int))),(38,(aI (IntKind.wrap .i64 (s2.2+1))))],z67_0,[2544,2528,65],2608⟩ (.inl ((s2.1++([x16.1]:List T100)),(IntKind.wrap .i64 (s2.2+1)))) ⟨rfl,(wh [(16,16)] [(65,65),(304,2544)] ⟨⟨rfl,rfl⟩,⟨rfl,rfl,rfl,dr⟩,⟨rfl,rfl,rfl,(de_app dr (de_lit rfl rfl))⟩,⟨rfl,rfl,rfl,dr⟩,dr,dr⟩)⟩)) (.ret .normal ⟨(z67_2 s2 y1),z67_0,[65,304],2528⟩ (.inl (s2.1,(IntKind.wrap .i64 (s2.2+1)))) ⟨rfl,(wk [(16,16)] (idn [65,304]))⟩)))))))))))) (.ret (.exit 0) _ (.inr (.inl s2.1)) ⟨rfl,rfl,Weak.refl _⟩))))))) fun y3=>(.sq 1 [] [(1,[2,3],[16]),(0,[2,4,5],[16])] (fun(_:Unit)=>⟨[(2,(.ptr 16 0)),(4,(z67_1 y1)),(5,(z67_3 y3))],z67_0,[65,304],1584⟩) (.ite (decide (0 < (y3.length:Int))) (.ret .ret ⟨[(2,(.ptr 16 0)),(3,(z67_3 y3))],z67_0,[65,304],1648⟩ (.inr (((⟨([]:List UInt8),[],[],[],(0:Int),[]⟩:T27),y3))) ⟨rfl,rfl,_,Weak.refl _,⟨⟨dr,de_nil,de_nil,de_nil,dr,de_nil,trivial⟩,dr,trivial⟩⟩) (.nx ())) (fun _=>(.sc (fun(y5:(List T100))=>⟨[(2,(.ptr 16 0)),(4,(z67_1 y1)),(5,(.ap 3 y5.length (cF e100 y5) (.tok 304 100)))],z67_0,[65,304],2064⟩) (.sq 1 [] [(0,[2,4,5,103,104,105],[16])] (fun(_:Unit)=>⟨[(2,(.ptr 16 0)),(4,(z67_1 y1)),(5,(z67_3 y3)),(103,(z67_1 y1)),(104,(aI (y1.1.length:Int))),(105,(aI 0))],z67_0,[65,304],1632⟩) (.nx ()) (fun _=>(.bk (.lp (fun(s4:(List T100)×Int)=>⟨[(2,(.ptr 16 0)),(4,(z67_1 y1)),(5,(.ap 3 s4.1.length (cF e100 s4.1) (.tok 304 100))),(103,(z67_1 y1)),(104,(aI (y1.1.length:Int))),(105,(aI s4.2))],z67_0,[65,304],2048⟩) (y3,(0:Int)) (wk [(16,16)] (idn [65,304])) fun s4=>(.sg [(25,tm1 111 dI)] [(0,[2,4,5,103,104,105],[16]),(4,[2,4,5],[16])] (.ite (decide (s4.2 < (y1.1.length:Int))) (nd (0≤s4.2) (nd (s4.2 < (y1.1.length:Int)) (c3 (@p115 y1.1 (y1.1.getD s4.2.toNat default)) fun x25=>(.ite ((decide (0 < x25))&&(decide ((s4.1.length:Int) < (50:Int)))) (nd ((s4.1.length+1) * 24≤140737488355328) (.ret .normal ⟨[(2,(.ptr 16 0)),(4,(z67_1 y1)),(5,(.ap 3 (s4.1.length+1) (appF s4.1.length (cF e100 s4.1) (litF [(.agg [(dI (y1.1.getD s4.2.toNat default).Number),(dI x25),(dI 6)])])) (.tok 2400 100))),(103,(z67_1 y1)),(104,(aI (y1.1.length:Int))),(105,(aI (IntKind.wrap .i64 (s4.2+1))))],z67_0,[2400,2384,65],2464⟩ (.inl ((s4.1++([(⟨(y1.1.getD s4.2.toNat default).Number,x25,(6:Int)⟩:T100)]:List T100)),(IntKind.wrap .i64 (s4.2+1)))) ⟨rfl,(wh [(16,16)] [(65,65),(304,2400)] ⟨⟨rfl,rfl⟩,⟨rfl,rfl,rfl,dr⟩,⟨rfl,rfl,rfl,(de_app dr (de_lit rfl rfl))⟩,⟨rfl,rfl,rfl,dr⟩,dr,dr⟩)⟩)) (.ret .normal ⟨[(2,(.ptr 16 0)),(4,(z67_1 y1)),(5,(.ap 3 s4.1.length (cF e100 s4.1) (.tok 304 100))),(103,(z67_1 y1)),(104,(aI (y1.1.length:Int))),(105,(aI (IntKind.wrap .i64 (s4.2+1))))],z67_0,[65,304],2336⟩ (.inl (s4.1,(IntKind.wrap .i64 (s4.2+1)))) ⟨rfl,(wk [(16,16)] (idn [65,304]))⟩))))) (.ret (.exit 2) _ (.inr (.inl s4.1)) ⟨rfl,rfl,Weak.refl _⟩))))))) fun y5=>(.sg [(31,tm1 133 e27),(32,tm1 135 dI)] [(1,[2,3],[16])] (.ite (decide (0 < (y5.length:Int))) (.ret .ret ⟨[(2,(.ptr 16 0)),(3,(.ap 3 y5.length (cF e100 y5) (.tok 304 100)))],z67_0,[65,304],2176⟩ ((⟨([]:List UInt8),[],[],[],(0:Int),[]⟩:T27),y5) ⟨rfl,_,Weak.refl _,⟨⟨dr,de_nil,de_nil,de_nil,dr,de_nil,trivial⟩,dr,trivial⟩⟩) (c3 (@p116 y1.1) fun x31=>(c3 (@p43 x31) fun x32=>(.ite (x32 != 0) (.ret .ret ⟨[(2,(.ptr 16 0)),(3,(.ap 3 1 (litF [(.agg [(dI 1),(dI 1),(dI x32)])]) (.tok 2304 100)))],z67_0,[2304,65,304],2352⟩ ((⟨([]:List UInt8),[],[],[],(0:Int),[]⟩:T27),([(⟨(1:Int),(1:Int),x32⟩:T100)]:List T100)) ⟨rfl,_,Weak.refl _,⟨⟨dr,de_nil,de_nil,de_nil,dr,de_nil,trivial⟩,(de_lit rfl rfl),trivial⟩⟩) (.ret .ret ⟨[(2,(.ptr 16 0)),(3,aN)],[(16,(.cells (g27 x31)))],[65,304],2304⟩ (x31,[]) ⟨rfl,_,Weak.refl _,⟨dr,de_nil,trivial⟩⟩))))))))))))
noncomputable def m67 (a0:List UInt8):Option (T27×(List T100)):=(d67 a0).m
theorem p67 {a0:List UInt8} {r:T27×(List T100)} (h:m67 a0=some r):PureAt Tryz.prog 67 [(.str a0)] (.tup [(e27 r.1),(eSl 3 e100 r.2)]):=pure_jd (d67 a0) Tryz.func67 h
noncomputable def d29 (a0:Int):JF Tryz.prog Tryz.f29 [(dI a0)] (fun(r:T27×Int)=>(.tup [(e27 r.1),(dI r.2)])) :=
 (.sg [(3,⟨(List UInt8)×(T27×(List T100)),fun x=>[(15,(.str x.1)),(16,(.tup [(e27 x.2.1),(eSl 3 e100 x.2.2)]))],fun x=>[],[]⟩)] [(1,[2,3],[16])] (.ite ((decide (a0 < 1)) || (decide (3 < a0))) (.ret .ret ⟨[(2,(.ptr 16 0)),(3,(aI 1))],[(16,(.cells [(aS ([]:List UInt8)),aN,aN,aN,(aI 0),aN]))],[],192⟩ ((⟨([]:List UInt8),[],[],[],(0:Int),[]⟩:T27),(1:Int)) ⟨rfl,_,Weak.refl _,⟨⟨dr,de_nil,de_nil,de_nil,dr,de_nil,trivial⟩,dr,trivial⟩⟩) (.exi ((List UInt8)×(T27×(List T100))) ((m28 a0).bind fun r3_0=>((m67 r3_0).bind fun r3_1=>some (r3_0,r3_1))) (fun x3=>(.p (PureAt Tryz.prog 28 [(dI a0)] (.str x3.1)) (.p (PureAt Tryz.prog 67 [(.str x3.1)] (.tup [(e27 x3.2.1),(eSl 3 e100 x3.2.2)])) (.fin 0)))) (by intro x3 h;obtain⟨r3_0,h1,h⟩:=Option.bind_eq_some_iff.1 h;obtain⟨r3_1,h2,h⟩:=Option.bind_eq_some_iff.1 h;cases h;exact⟨p28 h1,p67 h2,trivial⟩) (fun x3 _=>(.ret .ret ⟨[(2,(.ptr 16 0)),(3,(aI 0))],[(16,(.cells (g27 x3.2.1)))],[],336⟩ (x3.2.1,(0:Int)) ⟨rfl,_,Weak.refl _,⟨dr,dr,trivial⟩⟩)))))
noncomputable def m29 (a0:Int):Option (T27×Int):=(d29 a0).m
theorem p29 {a0:Int} {r:T27×Int} (h:m29 a0=some r):PureAt Tryz.prog 29 [(dI a0)] (.tup [(e27 r.1),(dI r.2)]):=pure_jd (d29 a0) Tryz.func29 h
noncomputable def d53 (a0 a1:List T151):JF Tryz.prog Tryz.f53 [(eSl 2 e151 a0),(eSl 2 e151 a1)] (fun(r:Bool)=>(.bool r)) :=
 (.sq 2 [] [(1,[4],[]),(0,[0,1],[])] (fun(_:Unit)=>⟨[(0,(.d (eSl 2 e151 a0))),(1,(.d (eSl 2 e151 a1)))],[],[],112⟩) (.ite ((a0.length:Int) != (a1.length:Int)) (.ret .ret ⟨[(4,(aB false))],[],[],128⟩ (.inr (false)) ⟨rfl,rfl,_,Weak.refl _,dr⟩) (.nx ())) (fun _=>(.sc (fun(_:Unit)=>⟨[],[],[],400⟩) (.sq 1 [] [(0,[0,1,12,13],[])] (fun(_:Unit)=>⟨[(0,(.d (eSl 2 e151 a0))),(1,(.d (eSl 2 e151 a1))),(12,(aI (a0.length:Int))),(13,(aI 0))],[],[],160⟩) (.nx ()) (fun _=>(.bk (.lp (fun(s1:Int)=>⟨[(0,(.d (eSl 2 e151 a0))),(1,(.d (eSl 2 e151 a1))),(12,(aI (a0.length:Int))),(13,(aI s1))],[],[],384⟩) (0:Int) (wk [] []) fun s1=>(.sg [] [(1,[4],[]),(0,[0,1,12,13],[]),(2,[],[])] (.ite (decide (s1 < (a0.length:Int))) (nd (0≤s1) (nd (s1 < (a0.length:Int)) (nd (0≤s1) (nd (s1 < (a1.length:Int)) (.ite (!(((a0.getD s1.toNat default).Cond==(a1.getD s1.toNat default).Cond)&&(((a0.getD s1.toNat default).Neg==(a1.getD s1.toNat default).Neg)&&true))) (.ret .ret ⟨[(4,(aB false))],[],[],592⟩ (.inr (.inr (false))) ⟨rfl,rfl,rfl,_,Weak.refl _,dr⟩) (.ret .normal ⟨[(0,(.d (eSl 2 e151 a0))),(1,(.d (eSl 2 e151 a1))),(12,(aI (a0.length:Int))),(13,(aI (IntKind.wrap .i64 (s1+1))))],[],[],608⟩ (.inl (IntKind.wrap .i64 (s1+1))) ⟨rfl,(wk [] [])⟩)))))) (.ret (.exit 0) _ (.inr (.inl ())) ⟨rfl,rfl,Weak.refl _⟩))))))) fun _=>(.sg [] [(1,[4],[])] (.ret .ret ⟨[(4,(aB true))],[],[],416⟩ true ⟨rfl,_,Weak.refl _,dr⟩)))))
noncomputable def m53 (a0 a1:List T151):Option (Bool):=(d53 a0 a1).m
theorem p53 {a0:List T151} {a1:List T151} {r:Bool} (h:m53 a0 a1=some r):PureAt Tryz.prog 53 [(eSl 2 e151 a0),(eSl 2 e151 a1)] (.bool r):=pure_jd (d53 a0 a1) Tryz.func53 h
noncomputable abbrev z13_0 (a0:T27) (a1:T27):List (Nat×Ob):=[(16,(.cells (g27 a0))),(32,(.cells (g27 a1)))]
noncomputable def d13 (a0 a1:T27):JF Tryz.prog Tryz.f13 [(e27 a0),(e27 a1)] (fun(r:Bool)=>(.bool r)) :=
 (.sq 2 [(1,tm1 29 D.bool)] [(1,[4],[]),(0,[2,3],[16,32])] (fun(_:Unit)=>⟨[(2,(.ptr 16 0)),(3,(.ptr 32 0))],(z13_0 a0 a1),[],816⟩) (.exi (Bool) ((if(!((a0.Name != a1.Name) || (a0.Start != a1.Start)))=true then m25 a0.Conds a1.Conds else some default).bind fun r1_0=>some r1_0) (fun x1=>(.g (!((a0.Name != a1.Name) || (a0.Start != a1.Start))) (PureAt Tryz.prog 25 [(eSl 1 D.str a0.Conds),(eSl 1 D.str a1.Conds)] (.bool x1)) (.fin 0))) (by intro x1 h;obtain⟨r1_0,h1,h⟩:=Option.bind_eq_some_iff.1 h;cases h;exact⟨fun g=>p25 (by rw[if_pos g]at h1;exact h1),trivial⟩) (fun x1 _=>(.ite ((((((a0.Name != a1.Name) || (a0.Start != a1.Start)) || (!x1)) || ((a0.Never.length:Int) != (a1.Never.length:Int))) || ((a0.States.length:Int) != (a1.States.length:Int))) || ((a0.Transitions.length:Int) != (a1.Transitions.length:Int))) (.ret .ret ⟨[(4,(aB false))],[],[],832⟩ (.inr (false)) ⟨rfl,rfl,_,Weak.refl _,dr⟩) (.nx ())))) (fun _=>(.sc (fun(_:Unit)=>⟨[(2,(.ptr 16 0)),(3,(.ptr 32 0))],(z13_0 a0 a1),[],1168⟩) (.sq 1 [] [(0,[2,3,61,62],[16,32])] (fun(_:Unit)=>⟨[(2,(.ptr 16 0)),(3,(.ptr 32 0)),(61,(aI (a0.Never.length:Int))),(62,(aI 0))],(z13_0 a0 a1),[],880⟩) (.nx ()) (fun _=>(.bk (.lp (fun(s1:Int)=>⟨[(2,(.ptr 16 0)),(3,(.ptr 32 0)),(61,(aI (a0.Never.length:Int))),(62,(aI s1))],(z13_0 a0 a1),[],1152⟩) (0:Int) (wk (idn [16,32]) []) fun s1=>(.sg [(6,tm1 75 D.bool)] [(1,[4],[]),(0,[2,3,61,62],[16,32]),(2,[2,3],[16,32])] (.ite (decide (s1 < (a0.Never.length:Int))) (.exi (Bool) (if 0≤s1 then(if s1 < (a0.Never.length:Int)then(if 0≤s1 then(if s1 < (a1.Never.length:Int)then((m53 (a0.Never.getD s1.toNat default) (a1.Never.getD s1.toNat default)).bind fun r6_0=>some r6_0)else none)else none)else none)else none) (fun x6=>(.p (0≤s1) (.p (s1 < (a0.Never.length:Int)) (.p (0≤s1) (.p (s1 < (a1.Never.length:Int)) (.p (PureAt Tryz.prog 53 [(eSl 2 e151 (a0.Never.getD s1.toNat default)),(eSl 2 e151 (a1.Never.getD s1.toNat default))] (.bool x6)) (.fin 0))))))) (by intro x6 h;obtain⟨h1,h⟩:=if_some h;obtain⟨h2,h⟩:=if_some h;obtain⟨h3,h⟩:=if_some h;obtain⟨h4,h⟩:=if_some h;obtain⟨r6_0,h5,h⟩:=Option.bind_eq_some_iff.1 h;cases h;exact⟨h1,h2,h3,h4,p53 h5,trivial⟩) (fun x6 _=>(.ite (!x6) (.ret .ret ⟨[(4,(aB false))],[],[],1408⟩ (.inr (.inr (false))) ⟨rfl,rfl,rfl,_,Weak.refl _,dr⟩) (.ret .normal ⟨[(2,(.ptr 16 0)),(3,(.ptr 32 0)),(61,(aI (a0.Never.length:Int))),(62,(aI (IntKind.wrap .i64 (s1+1))))],(z13_0 a0 a1),[],1424⟩ (.inl (IntKind.wrap .i64 (s1+1))) ⟨rfl,(wk (idn [16,32]) [])⟩)))) (.ret (.exit 0) _ (.inr (.inl ())) ⟨rfl,rfl,Weak.refl _⟩))))))) fun _=>(.sc (fun(_:Unit)=>⟨[(2,(.ptr 16 0)),(3,(.ptr 32 0))],(z13_0 a0 a1),[],2224⟩) (.sq 1 [] [(0,[2,3,80,81],[16,32])] (fun(_:Unit)=>⟨[(2,(.ptr 16 0)),(3,(.ptr 32 0)),(80,(aI (a0.States.length:Int))),(81,(aI 0))],(z13_0 a0 a1),[],1232⟩) (.nx ()) (fun _=>(.bk (.lp (fun(s2:Int)=>⟨[(2,(.ptr 16 0)),(3,(.ptr 32 0)),(80,(aI (a0.States.length:Int))),(81,(aI s2))],(z13_0 a0 a1),[],2208⟩) (0:Int) (wk (idn [16,32]) []) fun s2=>(.sg [(13,⟨Bool×Bool,fun x=>[(125,(.bool x.1)),(133,(.bool x.2))],fun x=>[],[]⟩)] [(1,[4],[]),(0,[2,3,80,81],[16,32]),(4,[2,3],[16,32])] (.ite (decide (s2 < (a0.States.length:Int))) (nd (0≤s2) (nd (s2 < (a0.States.length:Int)) (nd (0≤s2) (nd (s2 < (a1.States.length:Int)) (.exi (Bool×Bool) ((if(!(((((a0.States.getD s2.toNat default).Name != (a1.States.getD s2.toNat default).Name) || ((a0.States.getD s2.toNat default).Parent != (a1.States.getD s2.toNat default).Parent)) || ((a0.States.getD s2.toNat default).Initial != (a1.States.getD s2.toNat default).Initial)) || ((a0.States.getD s2.toNat default).History != (a1.States.getD s2.toNat default).History)))=true then m25 (a0.States.getD s2.toNat default).Entry (a1.States.getD s2.toNat default).Entry else some default).bind fun r13_0=>((if(!((((((a0.States.getD s2.toNat default).Name != (a1.States.getD s2.toNat default).Name) || ((a0.States.getD s2.toNat default).Parent != (a1.States.getD s2.toNat default).Parent)) || ((a0.States.getD s2.toNat default).Initial != (a1.States.getD s2.toNat default).Initial)) || ((a0.States.getD s2.toNat default).History != (a1.States.getD s2.toNat default).History)) || (!r13_0)))=true then m25 (a0.States.getD s2.toNat default).Exit (a1.States.getD s2.toNat default).Exit else some default).bind fun r13_1=>some (r13_0,r13_1))) (fun x13=>(.g (!(((((a0.States.getD s2.toNat default).Name != (a1.States.getD s2.toNat default).Name) || ((a0.States.getD s2.toNat default).Parent != (a1.States.getD s2.toNat default).Parent)) || ((a0.States.getD s2.toNat default).Initial != (a1.States.getD s2.toNat default).Initial)) || ((a0.States.getD s2.toNat default).History != (a1.States.getD s2.toNat default).History))) (PureAt Tryz.prog 25 [(eSl 1 D.str (a0.States.getD s2.toNat default).Entry),(eSl 1 D.str (a1.States.getD s2.toNat default).Entry)] (.bool x13.1)) (.g (!((((((a0.States.getD s2.toNat default).Name != (a1.States.getD s2.toNat default).Name) || ((a0.States.getD s2.toNat default).Parent != (a1.States.getD s2.toNat default).Parent)) || ((a0.States.getD s2.toNat default).Initial != (a1.States.getD s2.toNat default).Initial)) || ((a0.States.getD s2.toNat default).History != (a1.States.getD s2.toNat default).History)) || (!x13.1))) (PureAt Tryz.prog 25 [(eSl 1 D.str (a0.States.getD s2.toNat default).Exit),(eSl 1 D.str (a1.States.getD s2.toNat default).Exit)] (.bool x13.2)) (.fin 0)))) (by intro x13 h;obtain⟨r13_0,h1,h⟩:=Option.bind_eq_some_iff.1 h;obtain⟨r13_1,h2,h⟩:=Option.bind_eq_some_iff.1 h;cases h;exact⟨fun g=>p25 (by rw[if_pos g]at h1;exact h1),fun g=>p25 (by rw[if_pos g]at h2;exact h2),trivial⟩) (fun x13 _=>(.ite (((((((a0.States.getD s2.toNat default).Name != (a1.States.getD s2.toNat default).Name) || ((a0.States.getD s2.toNat default).Parent != (a1.States.getD s2.toNat default).Parent)) || ((a0.States.getD s2.toNat default).Initial != (a1.States.getD s2.toNat default).Initial)) || ((a0.States.getD s2.toNat default).History != (a1.States.getD s2.toNat default).History)) || (!x13.1)) || (!x13.2)) (.ret .ret ⟨[(4,(aB false))],[],[],3168⟩ (.inr (.inr (false))) ⟨rfl,rfl,rfl,_,Weak.refl _,dr⟩) (.ret .normal ⟨[(2,(.ptr 16 0)),(3,(.ptr 32 0)),(80,(aI (a0.States.length:Int))),(81,(aI (IntKind.wrap .i64 (s2+1))))],(z13_0 a0 a1),[],3184⟩ (.inl (IntKind.wrap .i64 (s2+1))) ⟨rfl,(wk (idn [16,32]) [])⟩)))))))) (.ret (.exit 2) _ (.inr (.inl ())) ⟨rfl,rfl,Weak.refl _⟩))))))) fun _=>(.sc (fun(_:Unit)=>⟨[],[],[],3056⟩) (.sq 1 [] [(0,[2,3,139,140],[16,32])] (fun(_:Unit)=>⟨[(2,(.ptr 16 0)),(3,(.ptr 32 0)),(139,(aI (a0.Transitions.length:Int))),(140,(aI 0))],(z13_0 a0 a1),[],2288⟩) (.nx ()) (fun _=>(.bk (.lp (fun(s3:Int)=>⟨[(2,(.ptr 16 0)),(3,(.ptr 32 0)),(139,(aI (a0.Transitions.length:Int))),(140,(aI s3))],(z13_0 a0 a1),[],3040⟩) (0:Int) (wk (idn [16,32]) []) fun s3=>(.sg [(20,⟨Bool×Bool,fun x=>[(170,(.bool x.1)),(178,(.bool x.2))],fun x=>[],[]⟩)] [(1,[4],[]),(0,[2,3,139,140],[16,32]),(6,[],[])] (.ite (decide (s3 < (a0.Transitions.length:Int))) (nd (0≤s3) (nd (s3 < (a0.Transitions.length:Int)) (nd (0≤s3) (nd (s3 < (a1.Transitions.length:Int)) (.exi (Bool×Bool) ((if(!(((a0.Transitions.getD s3.toNat default).From != (a1.Transitions.getD s3.toNat default).From) || ((a0.Transitions.getD s3.toNat default).To != (a1.Transitions.getD s3.toNat default).To)))=true then m53 (a0.Transitions.getD s3.toNat default).When (a1.Transitions.getD s3.toNat default).When else some default).bind fun r20_0=>((if(!((((a0.Transitions.getD s3.toNat default).From != (a1.Transitions.getD s3.toNat default).From) || ((a0.Transitions.getD s3.toNat default).To != (a1.Transitions.getD s3.toNat default).To)) || (!r20_0)))=true then m25 (a0.Transitions.getD s3.toNat default).Actions (a1.Transitions.getD s3.toNat default).Actions else some default).bind fun r20_1=>some (r20_0,r20_1))) (fun x20=>(.g (!(((a0.Transitions.getD s3.toNat default).From != (a1.Transitions.getD s3.toNat default).From) || ((a0.Transitions.getD s3.toNat default).To != (a1.Transitions.getD s3.toNat default).To))) (PureAt Tryz.prog 53 [(eSl 2 e151 (a0.Transitions.getD s3.toNat default).When),(eSl 2 e151 (a1.Transitions.getD s3.toNat default).When)] (.bool x20.1)) (.g (!((((a0.Transitions.getD s3.toNat default).From != (a1.Transitions.getD s3.toNat default).From) || ((a0.Transitions.getD s3.toNat default).To != (a1.Transitions.getD s3.toNat default).To)) || (!x20.1))) (PureAt Tryz.prog 25 [(eSl 1 D.str (a0.Transitions.getD s3.toNat default).Actions),(eSl 1 D.str (a1.Transitions.getD s3.toNat default).Actions)] (.bool x20.2)) (.fin 0)))) (by intro x20 h;obtain⟨r20_0,h1,h⟩:=Option.bind_eq_some_iff.1 h;obtain⟨r20_1,h2,h⟩:=Option.bind_eq_some_iff.1 h;cases h;exact⟨fun g=>p53 (by rw[if_pos g]at h1;exact h1),fun g=>p25 (by rw[if_pos g]at h2;exact h2),trivial⟩) (fun x20 _=>(.ite (((((a0.Transitions.getD s3.toNat default).From != (a1.Transitions.getD s3.toNat default).From) || ((a0.Transitions.getD s3.toNat default).To != (a1.Transitions.getD s3.toNat default).To)) || (!x20.1)) || (!x20.2)) (.ret .ret ⟨[(4,(aB false))],[],[],3776⟩ (.inr (.inr (false))) ⟨rfl,rfl,rfl,_,Weak.refl _,dr⟩) (.ret .normal ⟨[(2,(.ptr 16 0)),(3,(.ptr 32 0)),(139,(aI (a0.Transitions.length:Int))),(140,(aI (IntKind.wrap .i64 (s3+1))))],(z13_0 a0 a1),[],3792⟩ (.inl (IntKind.wrap .i64 (s3+1))) ⟨rfl,(wk (idn [16,32]) [])⟩)))))))) (.ret (.exit 4) _ (.inr (.inl ())) ⟨rfl,rfl,Weak.refl _⟩))))))) fun _=>(.sg [] [(1,[4],[])] (.ret .ret ⟨[(4,(aB true))],[],[],3072⟩ true ⟨rfl,_,Weak.refl _,dr⟩)))))))
noncomputable def m13 (a0 a1:T27):Option (Bool):=(d13 a0 a1).m
theorem p13 {a0:T27} {a1:T27} {r:Bool} (h:m13 a0 a1=some r):PureAt Tryz.prog 13 [(e27 a0),(e27 a1)] (.bool r):=pure_jd (d13 a0 a1) Tryz.func13 h
noncomputable def d40 (a0:T27) (a1:Int):JF Tryz.prog Tryz.f40 [(e27 a0),(dI a1)] (fun(r:(List UInt8))=>(.str r)) :=
 (.sg [] [(1,[4],[])] (.ite (decide (a1 < 0)) (.ret .ret ⟨[(4,(aS ([45]:List UInt8)))],[],[],96⟩ ([45]:List UInt8) ⟨rfl,_,Weak.refl _,dr⟩) (nd (0≤a1) (nd (a1 < (a0.States.length:Int)) (.ret .ret ⟨[(4,(aS (a0.States.getD a1.toNat default).Name))],[],[],192⟩ (a0.States.getD a1.toNat default).Name ⟨rfl,_,Weak.refl _,dr⟩)))))
noncomputable def m40 (a0:T27) (a1:Int):Option ((List UInt8)):=(d40 a0 a1).m
theorem p40 {a0:T27} {a1:Int} {r:(List UInt8)} (h:m40 a0 a1=some r):PureAt Tryz.prog 40 [(e27 a0),(dI a1)] (.str r):=pure_jd (d40 a0 a1) Tryz.func40 h
noncomputable def q37o0 (a0:List UInt8) (y:Unit):OF:=⟨(.tup [(aI (a0.length:Int)),.any]),[(176,(.vec 5 1 (bytesI a0).length (cF (D.int .u8) (bytesI a0)))),(0,(.cells [(.ptr 0 0),(.vec 176 1 (bytesI a0).length)]))],[]⟩
noncomputable def d37o0 (a0:List UInt8):JO Tryz.prog Tryz.f37 [(.ptr 0 0),(aS a0)] [(0,(.bld0 83))] [] (q37o0 a0) :=
 (.sg [(1,⟨Unit,fun x=>[],fun x=>[(64,⟨(.tup []),[0],[],[(0,(.cells [(.ptr 0 0),aN]))],[]⟩)],[]⟩),(2,⟨Unit,fun x=>[],fun x=>[],[177]⟩)] [(1,[0,4,5],[0,176])] (c3 (p:=fun x1=>ObjL Tryz.prog 81 [(.ptr 0 0)] [(0,some (.bld0 83))] 64 ⟨(.tup []),[0],[],[(0,(.cells [(.ptr 0 0),aN]))],[]⟩) (fun x1 (h1:mcc0=some _)=>ok [(0,0)] [] [(0,0)] [] (pocc0 h1)) fun x1=>(.exi (Unit) (if a0.length≤140737488355328 then some ()else none) (fun x2=>(.p (a0.length≤140737488355328) (.fin 0))) (by intro x2 h;obtain⟨h1,h⟩:=if_some h;cases h;exact⟨h1,trivial⟩) (fun x2 _=>(.ret .ret ⟨[(0,(.ptr 0 0)),(4,(aI (a0.length:Int))),(5,.any)],[(0,(.cells [(.ptr 0 0),(.vec 176 1 a0.length)])),(176,(.vec 5 1 a0.length (bytesF a0)))],[],304⟩ () ⟨rfl,(retO_of [(0,0),(176,176)] [] 304 rfl (by kernel_rfl) (by kernel_rfl) ⟨dr,trivial,trivial⟩ ⟨⟨_,_,rfl,rfl,⟨rfl,rfl,de_bytes⟩⟩,⟨_,_,rfl,rfl,⟨⟨rfl,rfl⟩,⟨rfl,rfl,(len_of (sz:=1) (e:=(D.int .u8)) (f:=(bytesF a0)) (l:=(bytesI a0)) de_bytes)⟩,trivial⟩⟩⟩)⟩)))))
noncomputable def m37o0 (a0:List UInt8):Option (Unit):=(d37o0 a0).m
theorem po37o0 {a0:List UInt8} {r:Unit} (h:m37o0 a0=some r):ObjF Tryz.prog 37 [(.ptr 0 0),(aS a0)] [(0,(.bld0 83))] [] (q37o0 a0 r):=obj_jd (d37o0 a0) Tryz.func37 h
noncomputable def q37o1 (a0:List UInt8) (a1:List Int) (y:Unit):OF:=⟨(.tup [(aI (a0.length:Int)),.any]),[(1,.gone),(176,(.vec 5 1 (a1++bytesI a0).length (cF (D.int .u8) (a1++bytesI a0)))),(0,(.cells [(.ptr 0 0),(.vec 176 1 (a1++bytesI a0).length)]))],[]⟩
noncomputable def o37o1_0 (a1:List Int) (x:Unit):OT:=⟨(.tup []),[0,1],[],[(1,(.vec 5 1 a1.length (cF (D.int .u8) a1))),(0,(.cells [(.ptr 0 0),(.vec 1 1 a1.length)]))],[]⟩
noncomputable def d37o1 (a0:List UInt8) (a1:List Int):JO Tryz.prog Tryz.f37 [(.ptr 0 0),(aS a0)] [(1,(.vec 5 1 a1.length (cF (D.int .u8) a1))),(0,(.cells [(.ptr 0 0),(.vec 1 1 a1.length)]))] [] (q37o1 a0 a1) :=
 (.sg [(1,⟨Unit,fun x=>[],fun x=>[(64,(o37o1_0 a1 x))],[]⟩),(2,⟨Unit,fun x=>[],fun x=>[],[177]⟩)] [(1,[0,4,5],[0,176])] (c3 (p:=fun x1=>ObjL Tryz.prog 81 [(.ptr 0 0)] [(0,some (.cells [(.ptr 0 0),(.vec 1 1 a1.length)])),(1,some (.vec 5 1 a1.length (cF (D.int .u8) a1)))] 64 (o37o1_0 a1 x1)) (fun x1 (h1:mcc1 a1=some _)=>ok (idn [0,1]) [] (idn [0,1]) [] (pocc1 h1)) fun x1=>(.exi (Unit) (if a1.length+a0.length≤140737488355328 then some ()else none) (fun x2=>(.p (a1.length+a0.length≤140737488355328) (.fin 0))) (by intro x2 h;obtain⟨h1,h⟩:=if_some h;cases h;exact⟨h1,trivial⟩) (fun x2 _=>(.ret .ret ⟨[(0,(.ptr 0 0)),(4,(aI (a0.length:Int))),(5,.any)],[(0,(.cells [(.ptr 0 0),(.vec 176 1 (a1.length+a0.length))])),(176,(.vec 5 1 (a1.length+a0.length) (appF a1.length (cF (D.int .u8) a1) (bytesF a0))))],[],304⟩ () ⟨rfl,(retO_gone [1] (retO_of [(0,0),(176,176)] [] 304 rfl (by kernel_rfl) (by kernel_rfl) ⟨dr,trivial,trivial⟩ ⟨⟨_,_,rfl,rfl,⟨rfl,rfl,(de_app dr de_bytes)⟩⟩,⟨_,_,rfl,rfl,⟨⟨rfl,rfl⟩,⟨rfl,rfl,(len_of (sz:=1) (e:=(D.int .u8)) (f:=(appF a1.length (cF (D.int .u8) a1) (bytesF a0))) (l:=(a1++bytesI a0)) (de_app dr de_bytes))⟩,trivial⟩⟩⟩))⟩)))))
noncomputable def m37o1 (a0:List UInt8) (a1:List Int):Option (Unit):=(d37o1 a0 a1).m
theorem po37o1 {a0:List UInt8} {a1:List Int} {r:Unit} (h:m37o1 a0 a1=some r):ObjF Tryz.prog 37 [(.ptr 0 0),(aS a0)] [(1,(.vec 5 1 a1.length (cF (D.int .u8) a1))),(0,(.cells [(.ptr 0 0),(.vec 1 1 a1.length)]))] [] (q37o1 a0 a1 r):=obj_jd (d37o1 a0 a1) Tryz.func37 h
noncomputable def q38o0 (a0:Int) (a1:List Int) (y:Unit):OF:=⟨.any,[(1,.gone),(176,(.vec 5 1 (a1++([a0]:List Int)).length (cF (D.int .u8) (a1++([a0]:List Int))))),(0,(.cells [(.ptr 0 0),(.vec 176 1 (a1++([a0]:List Int)).length)]))],[]⟩
noncomputable def o38o0_0 (a1:List Int) (x:Unit):OT:=⟨(.tup []),[0,1],[],[(1,(.vec 5 1 a1.length (cF (D.int .u8) a1))),(0,(.cells [(.ptr 0 0),(.vec 1 1 a1.length)]))],[]⟩
noncomputable def d38o0 (a0:Int) (a1:List Int):JO Tryz.prog Tryz.f38 [(.ptr 0 0),(.d (.int .u8 a0))] [(1,(.vec 5 1 a1.length (cF (D.int .u8) a1))),(0,(.cells [(.ptr 0 0),(.vec 1 1 a1.length)]))] [] (q38o0 a0 a1) :=
 (.sg [(1,⟨Unit,fun x=>[],fun x=>[(48,(o38o0_0 a1 x))],[]⟩),(2,⟨Unit,fun x=>[],fun x=>[],[177]⟩)] [(1,[0,4],[0,176])] (c3 (p:=fun x1=>ObjL Tryz.prog 81 [(.ptr 0 0)] [(0,some (.cells [(.ptr 0 0),(.vec 1 1 a1.length)])),(1,some (.vec 5 1 a1.length (cF (D.int .u8) a1)))] 48 (o38o0_0 a1 x1)) (fun x1 (h1:mcc1 a1=some _)=>ok (idn [0,1]) [] (idn [0,1]) [] (pocc1 h1)) fun x1=>(.exi (Unit) (if(a1.length+1) * 1≤140737488355328 then some ()else none) (fun x2=>(.p ((a1.length+1) * 1≤140737488355328) (.fin 0))) (by intro x2 h;obtain⟨h1,h⟩:=if_some h;cases h;exact⟨h1,trivial⟩) (fun x2 _=>(.ret .ret ⟨[(0,(.ptr 0 0)),(4,.any)],[(0,(.cells [(.ptr 0 0),(.vec 176 1 (a1.length+1))])),(176,(.vec 5 1 (a1.length+1) (appF a1.length (cF (D.int .u8) a1) (litF [(.int .u8 a0)]))))],[160],256⟩ () ⟨rfl,(retO_gone [1] (retO_of [(0,0),(176,176)] [] 256 rfl (by kernel_rfl) (by kernel_rfl) trivial ⟨⟨_,_,rfl,rfl,⟨rfl,rfl,(de_app dr (de_lit rfl rfl))⟩⟩,⟨_,_,rfl,rfl,⟨⟨rfl,rfl⟩,⟨rfl,rfl,(len_of (sz:=1) (e:=(D.int .u8)) (f:=(appF a1.length (cF (D.int .u8) a1) (litF [(.int .u8 a0)]))) (l:=(a1++([a0]:List Int))) (de_app dr (de_lit rfl rfl)))⟩,trivial⟩⟩⟩))⟩)))))
noncomputable def m38o0 (a0:Int) (a1:List Int):Option (Unit):=(d38o0 a0 a1).m
theorem po38o0 {a0:Int} {a1:List Int} {r:Unit} (h:m38o0 a0 a1=some r):ObjF Tryz.prog 38 [(.ptr 0 0),(.d (.int .u8 a0))] [(1,(.vec 5 1 a1.length (cF (D.int .u8) a1))),(0,(.cells [(.ptr 0 0),(.vec 1 1 a1.length)]))] [] (q38o0 a0 a1 r):=obj_jd (d38o0 a0 a1) Tryz.func38 h
noncomputable abbrev z36o0_0 (a1:List (List UInt8)):AV:=(.ap 1 a1.length (cF D.str a1) (.tok 0 9))
noncomputable def q36o0 (a0:List UInt8) (a1:List (List UInt8)) (y:(List Int)):OF:=⟨(.tup []),[(256,(.vec 5 1 y.length (cF (D.int .u8) y))),(0,(.cells [(.ptr 0 0),(.vec 256 1 y.length)]))],[0]⟩
noncomputable def o36o0_0 (a0:List UInt8) (x:Unit):OT:=⟨(.tup [(aI (a0.length:Int)),.any]),[0],[],[(32,(.vec 5 1 (bytesI a0).length (cF (D.int .u8) (bytesI a0)))),(0,(.cells [(.ptr 0 0),(.vec 32 1 (bytesI a0).length)]))],[]⟩
noncomputable def o36o0_1 (a1:List (List UInt8)) (s1:Int×(List Int)) (x:Unit):OT:=⟨(.tup [(aI ((([32]:List UInt8)++(a1.getD s1.1.toNat default)).length:Int)),.any]),[0,32],[],[(32,.gone),(336,(.vec 5 1 (s1.2++bytesI (([32]:List UInt8)++(a1.getD s1.1.toNat default))).length (cF (D.int .u8) (s1.2++bytesI (([32]:List UInt8)++(a1.getD s1.1.toNat default)))))),(0,(.cells [(.ptr 0 0),(.vec 336 1 (s1.2++bytesI (([32]:List UInt8)++(a1.getD s1.1.toNat default))).length)]))],[]⟩
noncomputable def o36o0_2 (y2:(List Int)) (x:Unit):OT:=⟨.any,[0,32],[],[(32,.gone),(256,(.vec 5 1 (y2++([(10:Int)]:List Int)).length (cF (D.int .u8) (y2++([(10:Int)]:List Int))))),(0,(.cells [(.ptr 0 0),(.vec 256 1 (y2++([(10:Int)]:List Int)).length)]))],[]⟩
noncomputable def d36o0 (a0:List UInt8) (a1:List (List UInt8)):JO Tryz.prog Tryz.f36 [(aS a0),(z36o0_0 a1),(.ptr 0 0)] [(0,(.bld0 83))] [0] (q36o0 a0 a1) :=
 (.sq 1 [(0,⟨Unit,fun x=>[],fun x=>[(32,(o36o0_0 a0 x))],[]⟩)] [(0,[1,2],[32,0])] (fun(_:Unit)=>⟨[(1,(z36o0_0 a1)),(2,(.ptr 0 0))],[(32,(.vec 5 1 (bytesI a0).length (cF (D.int .u8) (bytesI a0)))),(0,(.cells [(.ptr 0 0),(.vec 32 1 (bytesI a0).length)]))],[0],48⟩) (c3 (p:=fun x0=>ObjL Tryz.prog 37 [(.ptr 0 0),(aS a0)] [(0,some (.bld0 83))] 32 (o36o0_0 a0 x0)) (fun x0 (h1:m37o0 a0=some _)=>ok [(0,0)] [] [(0,0),(32,176)] [] (po37o0 h1)) fun x0=>(.nx ())) (fun _=>(.sc (fun(y2:(List Int))=>⟨[(1,(z36o0_0 a1)),(2,(.ptr 0 0))],[(32,(.vec 5 1 y2.length (cF (D.int .u8) y2))),(0,(.cells [(.ptr 0 0),(.vec 32 1 y2.length)]))],[0],256⟩) (.sq 1 [] [(0,[1,2,9,10,11],[32,0])] (fun(_:Unit)=>⟨[(1,(z36o0_0 a1)),(2,(.ptr 0 0)),(9,(z36o0_0 a1)),(10,(aI (a1.length:Int))),(11,(aI 0))],[(32,(.vec 5 1 (bytesI a0).length (cF (D.int .u8) (bytesI a0)))),(0,(.cells [(.ptr 0 0),(.vec 32 1 (bytesI a0).length)]))],[0],96⟩) (.nx ()) (fun _=>(.bk (.lp (fun(s1:Int×(List Int))=>⟨[(1,(z36o0_0 a1)),(2,(.ptr 0 0)),(9,(z36o0_0 a1)),(10,(aI (a1.length:Int))),(11,(aI s1.1))],[(32,(.vec 5 1 s1.2.length (cF (D.int .u8) s1.2))),(0,(.cells [(.ptr 0 0),(.vec 32 1 s1.2.length)]))],[0],240⟩) ((0:Int),(bytesI a0)) (wk (idn [0,32]) [(0,0)]) fun s1=>(.sg [(4,⟨Unit,fun x=>[],fun x=>[(336,(o36o0_1 a1 s1 x))],[]⟩)] [(0,[1,2,9,10,11],[0,336]),(2,[1,2],[32,0])] (.ite (decide (s1.1 < (a1.length:Int))) (nd (0≤s1.1) (nd (s1.1 < (a1.length:Int)) (.exi (Unit) (if([32]:List UInt8).length+(a1.getD s1.1.toNat default).length≤9223372036854775807 then((m37o1 (([32]:List UInt8)++(a1.getD s1.1.toNat default)) s1.2).bind fun r4_0=>some r4_0)else none) (fun x4=>(.p (([32]:List UInt8).length+(a1.getD s1.1.toNat default).length≤9223372036854775807) (.p (ObjL Tryz.prog 37 [(.ptr 0 0),(aS (([32]:List UInt8)++(a1.getD s1.1.toNat default)))] [(0,some (.cells [(.ptr 0 0),(.vec 32 1 s1.2.length)])),(32,some (.vec 5 1 s1.2.length (cF (D.int .u8) s1.2)))] 336 (o36o0_1 a1 s1 x4)) (.fin 0)))) (by intro x4 h;obtain⟨h1,h⟩:=if_some h;obtain⟨r4_0,h2,h⟩:=Option.bind_eq_some_iff.1 h;cases h;exact⟨h1,ok [(0,0),(1,32)] [] [(0,0),(32,1),(336,176)] [] (po37o1 h2),trivial⟩) (fun x4 _=>(.ret .normal ⟨[(1,(z36o0_0 a1)),(2,(.ptr 0 0)),(9,(z36o0_0 a1)),(10,(aI (a1.length:Int))),(11,(aI (IntKind.wrap .i64 (s1.1+1))))],[(0,(.cells [(.ptr 0 0),(.vec 336 1 (s1.2++bytesI (([32]:List UInt8)++(a1.getD s1.1.toNat default))).length)])),(336,(.vec 5 1 (s1.2++bytesI (([32]:List UInt8)++(a1.getD s1.1.toNat default))).length (cF (D.int .u8) (s1.2++bytesI (([32]:List UInt8)++(a1.getD s1.1.toNat default))))))],[0],384⟩ (.inl ((IntKind.wrap .i64 (s1.1+1)),(s1.2++bytesI (([32]:List UInt8)++(a1.getD s1.1.toNat default))))) ⟨rfl,(wk [(0,0),(32,336)] [(0,0)])⟩))))) (.ret (.exit 0) _ (.inr (.inl s1.2)) ⟨rfl,rfl,Weak.refl _⟩))))))) fun y2=>(.sg [(6,⟨Unit,fun x=>[],fun x=>[(256,(o36o0_2 y2 x))],[]⟩)] [(0,[1,2],[0,256])] (c3 (p:=fun x6=>ObjL Tryz.prog 38 [(.ptr 0 0),(.d (.int .u8 10))] [(0,some (.cells [(.ptr 0 0),(.vec 32 1 y2.length)])),(32,some (.vec 5 1 y2.length (cF (D.int .u8) y2)))] 256 (o36o0_2 y2 x6)) (fun x6 (h1:m38o0 (10:Int) y2=some _)=>ok [(0,0),(1,32)] [] [(0,0),(32,1),(256,176)] [] (po38o0 h1)) fun x6=>(.ret .normal ⟨[(1,(z36o0_0 a1)),(2,(.ptr 0 0))],[(0,(.cells [(.ptr 0 0),(.vec 256 1 (y2++([(10:Int)]:List Int)).length)])),(256,(.vec 5 1 (y2++([(10:Int)]:List Int)).length (cF (D.int .u8) (y2++([(10:Int)]:List Int)))))],[0],272⟩ (y2++([(10:Int)]:List Int)) ⟨rfl,(rk (idn [0,256]) [(0,0)] 272)⟩))))))
noncomputable def m36o0 (a0:List UInt8) (a1:List (List UInt8)):Option ((List Int)):=(d36o0 a0 a1).m
theorem po36o0 {a0:List UInt8} {a1:List (List UInt8)} {r:(List Int)} (h:m36o0 a0 a1=some r):ObjF Tryz.prog 36 [(aS a0),(z36o0_0 a1),(.ptr 0 0)] [(0,(.bld0 83))] [0] (q36o0 a0 a1 r):=obj_jd (d36o0 a0 a1) Tryz.func36 h
noncomputable abbrev z36o1_0 (a1:List (List UInt8)):AV:=(.ap 1 a1.length (cF D.str a1) (.tok 0 9))
noncomputable def q36o1 (a0:List UInt8) (a1:List (List UInt8)) (a2:List Int) (y:(List Int)):OF:=⟨(.tup []),[(1,.gone),(256,(.vec 5 1 y.length (cF (D.int .u8) y))),(0,(.cells [(.ptr 0 0),(.vec 256 1 y.length)]))],[0]⟩
noncomputable def o36o1_0 (a0:List UInt8) (a2:List Int) (x:Unit):OT:=⟨(.tup [(aI (a0.length:Int)),.any]),[0,1],[],[(1,.gone),(32,(.vec 5 1 (a2++bytesI a0).length (cF (D.int .u8) (a2++bytesI a0)))),(0,(.cells [(.ptr 0 0),(.vec 32 1 (a2++bytesI a0).length)]))],[]⟩
noncomputable def o36o1_1 (a1:List (List UInt8)) (s1:Int×(List Int)) (x:Unit):OT:=⟨(.tup [(aI ((([32]:List UInt8)++(a1.getD s1.1.toNat default)).length:Int)),.any]),[0,32],[],[(32,.gone),(336,(.vec 5 1 (s1.2++bytesI (([32]:List UInt8)++(a1.getD s1.1.toNat default))).length (cF (D.int .u8) (s1.2++bytesI (([32]:List UInt8)++(a1.getD s1.1.toNat default)))))),(0,(.cells [(.ptr 0 0),(.vec 336 1 (s1.2++bytesI (([32]:List UInt8)++(a1.getD s1.1.toNat default))).length)]))],[]⟩
noncomputable def o36o1_2 (y2:(List Int)) (x:Unit):OT:=⟨.any,[0,32],[],[(32,.gone),(256,(.vec 5 1 (y2++([(10:Int)]:List Int)).length (cF (D.int .u8) (y2++([(10:Int)]:List Int))))),(0,(.cells [(.ptr 0 0),(.vec 256 1 (y2++([(10:Int)]:List Int)).length)]))],[]⟩
noncomputable def d36o1 (a0:List UInt8) (a1:List (List UInt8)) (a2:List Int):JO Tryz.prog Tryz.f36 [(aS a0),(z36o1_0 a1),(.ptr 0 0)] [(1,(.vec 5 1 a2.length (cF (D.int .u8) a2))),(0,(.cells [(.ptr 0 0),(.vec 1 1 a2.length)]))] [0] (q36o1 a0 a1 a2) :=
 (.sq 1 [(0,⟨Unit,fun x=>[],fun x=>[(32,(o36o1_0 a0 a2 x))],[]⟩)] [(0,[1,2],[32,0])] (fun(_:Unit)=>⟨[(1,(z36o1_0 a1)),(2,(.ptr 0 0))],[(32,(.vec 5 1 (a2++bytesI a0).length (cF (D.int .u8) (a2++bytesI a0)))),(0,(.cells [(.ptr 0 0),(.vec 32 1 (a2++bytesI a0).length)]))],[0],48⟩) (c3 (p:=fun x0=>ObjL Tryz.prog 37 [(.ptr 0 0),(aS a0)] [(0,some (.cells [(.ptr 0 0),(.vec 1 1 a2.length)])),(1,some (.vec 5 1 a2.length (cF (D.int .u8) a2)))] 32 (o36o1_0 a0 a2 x0)) (fun x0 (h1:m37o1 a0 a2=some _)=>ok (idn [0,1]) [] [(0,0),(1,1),(32,176)] [] (po37o1 h1)) fun x0=>(.nx ())) (fun _=>(.sc (fun(y2:(List Int))=>⟨[(1,(z36o1_0 a1)),(2,(.ptr 0 0))],[(32,(.vec 5 1 y2.length (cF (D.int .u8) y2))),(0,(.cells [(.ptr 0 0),(.vec 32 1 y2.length)]))],[0],256⟩) (.sq 1 [] [(0,[1,2,9,10,11],[32,0])] (fun(_:Unit)=>⟨[(1,(z36o1_0 a1)),(2,(.ptr 0 0)),(9,(z36o1_0 a1)),(10,(aI (a1.length:Int))),(11,(aI 0))],[(32,(.vec 5 1 (a2++bytesI a0).length (cF (D.int .u8) (a2++bytesI a0)))),(0,(.cells [(.ptr 0 0),(.vec 32 1 (a2++bytesI a0).length)]))],[0],96⟩) (.nx ()) (fun _=>(.bk (.lp (fun(s1:Int×(List Int))=>⟨[(1,(z36o1_0 a1)),(2,(.ptr 0 0)),(9,(z36o1_0 a1)),(10,(aI (a1.length:Int))),(11,(aI s1.1))],[(32,(.vec 5 1 s1.2.length (cF (D.int .u8) s1.2))),(0,(.cells [(.ptr 0 0),(.vec 32 1 s1.2.length)]))],[0],240⟩) ((0:Int),(a2++bytesI a0)) (wk (idn [0,32]) [(0,0)]) fun s1=>(.sg [(4,⟨Unit,fun x=>[],fun x=>[(336,(o36o1_1 a1 s1 x))],[]⟩)] [(0,[1,2,9,10,11],[0,336]),(2,[1,2],[32,0])] (.ite (decide (s1.1 < (a1.length:Int))) (nd (0≤s1.1) (nd (s1.1 < (a1.length:Int)) (.exi (Unit) (if([32]:List UInt8).length+(a1.getD s1.1.toNat default).length≤9223372036854775807 then((m37o1 (([32]:List UInt8)++(a1.getD s1.1.toNat default)) s1.2).bind fun r4_0=>some r4_0)else none) (fun x4=>(.p (([32]:List UInt8).length+(a1.getD s1.1.toNat default).length≤9223372036854775807) (.p (ObjL Tryz.prog 37 [(.ptr 0 0),(aS (([32]:List UInt8)++(a1.getD s1.1.toNat default)))] [(0,some (.cells [(.ptr 0 0),(.vec 32 1 s1.2.length)])),(32,some (.vec 5 1 s1.2.length (cF (D.int .u8) s1.2)))] 336 (o36o1_1 a1 s1 x4)) (.fin 0)))) (by intro x4 h;obtain⟨h1,h⟩:=if_some h;obtain⟨r4_0,h2,h⟩:=Option.bind_eq_some_iff.1 h;cases h;exact⟨h1,ok [(0,0),(1,32)] [] [(0,0),(32,1),(336,176)] [] (po37o1 h2),trivial⟩) (fun x4 _=>(.ret .normal ⟨[(1,(z36o1_0 a1)),(2,(.ptr 0 0)),(9,(z36o1_0 a1)),(10,(aI (a1.length:Int))),(11,(aI (IntKind.wrap .i64 (s1.1+1))))],[(0,(.cells [(.ptr 0 0),(.vec 336 1 (s1.2++bytesI (([32]:List UInt8)++(a1.getD s1.1.toNat default))).length)])),(336,(.vec 5 1 (s1.2++bytesI (([32]:List UInt8)++(a1.getD s1.1.toNat default))).length (cF (D.int .u8) (s1.2++bytesI (([32]:List UInt8)++(a1.getD s1.1.toNat default))))))],[0],384⟩ (.inl ((IntKind.wrap .i64 (s1.1+1)),(s1.2++bytesI (([32]:List UInt8)++(a1.getD s1.1.toNat default))))) ⟨rfl,(wk [(0,0),(32,336)] [(0,0)])⟩))))) (.ret (.exit 0) _ (.inr (.inl s1.2)) ⟨rfl,rfl,Weak.refl _⟩))))))) fun y2=>(.sg [(6,⟨Unit,fun x=>[],fun x=>[(256,(o36o1_2 y2 x))],[]⟩)] [(0,[1,2],[0,256])] (c3 (p:=fun x6=>ObjL Tryz.prog 38 [(.ptr 0 0),(.d (.int .u8 10))] [(0,some (.cells [(.ptr 0 0),(.vec 32 1 y2.length)])),(32,some (.vec 5 1 y2.length (cF (D.int .u8) y2)))] 256 (o36o1_2 y2 x6)) (fun x6 (h1:m38o0 (10:Int) y2=some _)=>ok [(0,0),(1,32)] [] [(0,0),(32,1),(256,176)] [] (po38o0 h1)) fun x6=>(.ret .normal ⟨[(1,(z36o1_0 a1)),(2,(.ptr 0 0))],[(0,(.cells [(.ptr 0 0),(.vec 256 1 (y2++([(10:Int)]:List Int)).length)])),(256,(.vec 5 1 (y2++([(10:Int)]:List Int)).length (cF (D.int .u8) (y2++([(10:Int)]:List Int)))))],[0],272⟩ (y2++([(10:Int)]:List Int)) ⟨rfl,(retO_gone [1] (rk (idn [0,256]) [(0,0)] 272))⟩))))))
noncomputable def m36o1 (a0:List UInt8) (a1:List (List UInt8)) (a2:List Int):Option ((List Int)):=(d36o1 a0 a1 a2).m
theorem po36o1 {a0:List UInt8} {a1:List (List UInt8)} {a2:List Int} {r:(List Int)} (h:m36o1 a0 a1 a2=some r):ObjF Tryz.prog 36 [(aS a0),(z36o1_0 a1),(.ptr 0 0)] [(1,(.vec 5 1 a2.length (cF (D.int .u8) a2))),(0,(.cells [(.ptr 0 0),(.vec 1 1 a2.length)]))] [0] (q36o1 a0 a1 a2 r):=obj_jd (d36o1 a0 a1 a2) Tryz.func36 h
noncomputable def d41 (a0:T27) (a1:List T151):JF Tryz.prog Tryz.f41 [(e27 a0),(eSl 2 e151 a1)] (fun(r:(List (List UInt8)))=>(eSl 1 D.str r)) :=
 (.sq 2 [] [(0,[1,2,5],[16])] (fun(_:Unit)=>⟨[(1,(.d (eSl 2 e151 a1))),(2,(.ptr 16 0)),(5,aN)],[(16,(.cells (g27 a0)))],[],64⟩) (.nx ()) (fun _=>(.sc (fun(y2:(List (List UInt8)))=>⟨[(5,(.ap 1 y2.length (cF D.str y2) (.tok 432 9)))],[],[432],512⟩) (.sq 1 [] [(0,[2,5,9,10,11],[16])] (fun(_:Unit)=>⟨[(2,(.ptr 16 0)),(5,aN),(9,(.d (eSl 2 e151 a1))),(10,(aI (a1.length:Int))),(11,(aI 0))],[(16,(.cells (g27 a0)))],[],112⟩) (.nx ()) (fun _=>(.bk (.lp (fun(s1:(List (List UInt8))×Int)=>⟨[(2,(.ptr 16 0)),(5,(.ap 1 s1.1.length (cF D.str s1.1) (.tok 432 9))),(9,(.d (eSl 2 e151 a1))),(10,(aI (a1.length:Int))),(11,(aI s1.2))],[(16,(.cells (g27 a0)))],[432],496⟩) ([],(0:Int)) (wk [(16,16)] []) fun s1=>(.sg [] [(0,[2,5,9,10,11],[16]),(2,[5],[])] (.ite (decide (s1.2 < (a1.length:Int))) (nd (0≤s1.2) (nd (s1.2 < (a1.length:Int)) (nd (0≤(a1.getD s1.2.toNat default).Cond) (nd ((a1.getD s1.2.toNat default).Cond < (a0.Conds.length:Int)) (.ite (a1.getD s1.2.toNat default).Neg (nd (([33]:List UInt8).length+(a0.Conds.getD (a1.getD s1.2.toNat default).Cond.toNat default).length≤9223372036854775807) (nd ((s1.1.length+1) * 16≤140737488355328) (.ret .normal ⟨[(2,(.ptr 16 0)),(5,(.ap 1 (s1.1.length+1) (appF s1.1.length (cF D.str s1.1) (litF [(.str (([33]:List UInt8)++(a0.Conds.getD (a1.getD s1.2.toNat default).Cond.toNat default)))])) (.tok 816 9))),(9,(.d (eSl 2 e151 a1))),(10,(aI (a1.length:Int))),(11,(aI (IntKind.wrap .i64 (s1.2+1))))],[(16,(.cells (g27 a0)))],[816,800],880⟩ (.inl ((s1.1++([(([33]:List UInt8)++(a0.Conds.getD (a1.getD s1.2.toNat default).Cond.toNat default))]:List (List UInt8))),(IntKind.wrap .i64 (s1.2+1)))) ⟨rfl,(wh [(16,16)] [(432,816)] ⟨⟨rfl,rfl⟩,⟨rfl,rfl,rfl,(de_app dr (de_lit rfl rfl))⟩,dr,dr,dr⟩)⟩))) (nd ((s1.1.length+1) * 16≤140737488355328) (.ret .normal ⟨[(2,(.ptr 16 0)),(5,(.ap 1 (s1.1.length+1) (appF s1.1.length (cF D.str s1.1) (litF [(.str (a0.Conds.getD (a1.getD s1.2.toNat default).Cond.toNat default))])) (.tok 768 9))),(9,(.d (eSl 2 e151 a1))),(10,(aI (a1.length:Int))),(11,(aI (IntKind.wrap .i64 (s1.2+1))))],[(16,(.cells (g27 a0)))],[768,752],832⟩ (.inl ((s1.1++([(a0.Conds.getD (a1.getD s1.2.toNat default).Cond.toNat default)]:List (List UInt8))),(IntKind.wrap .i64 (s1.2+1)))) ⟨rfl,(wh [(16,16)] [(432,768)] ⟨⟨rfl,rfl⟩,⟨rfl,rfl,rfl,(de_app dr (de_lit rfl rfl))⟩,dr,dr,dr⟩)⟩))))))) (.ret (.exit 0) _ (.inr (.inl s1.1)) ⟨rfl,rfl,Weak.refl _⟩))))))) fun y2=>(.sg [] [(1,[4],[])] (.ret .ret ⟨[(4,(.ap 1 y2.length (cF D.str y2) (.tok 432 9)))],[],[432],544⟩ y2 ⟨rfl,_,Weak.refl _,dr⟩)))))
noncomputable def m41 (a0:T27) (a1:List T151):Option ((List (List UInt8))):=(d41 a0 a1).m
theorem p41 {a0:T27} {a1:List T151} {r:(List (List UInt8))} (h:m41 a0 a1=some r):PureAt Tryz.prog 41 [(e27 a0),(eSl 2 e151 a1)] (eSl 1 D.str r):=pure_jd (d41 a0 a1) Tryz.func41 h
noncomputable def q36o2 (a0:List UInt8) (a1:List (List UInt8)) (a2:List Int) (y:(List Int)):OF:=⟨(.tup []),[(1,.gone),(256,(.vec 5 1 y.length (cF (D.int .u8) y))),(0,(.cells [(.ptr 0 0),(.vec 256 1 y.length)]))],[]⟩
noncomputable def o36o2_0 (a0:List UInt8) (a2:List Int) (x:Unit):OT:=⟨(.tup [(aI (a0.length:Int)),.any]),[0,1],[],[(1,.gone),(32,(.vec 5 1 (a2++bytesI a0).length (cF (D.int .u8) (a2++bytesI a0)))),(0,(.cells [(.ptr 0 0),(.vec 32 1 (a2++bytesI a0).length)]))],[]⟩
noncomputable def o36o2_1 (a1:List (List UInt8)) (s1:Int×(List Int)) (x:Unit):OT:=⟨(.tup [(aI ((([32]:List UInt8)++(a1.getD s1.1.toNat default)).length:Int)),.any]),[0,32],[],[(32,.gone),(336,(.vec 5 1 (s1.2++bytesI (([32]:List UInt8)++(a1.getD s1.1.toNat default))).length (cF (D.int .u8) (s1.2++bytesI (([32]:List UInt8)++(a1.getD s1.1.toNat default)))))),(0,(.cells [(.ptr 0 0),(.vec 336 1 (s1.2++bytesI (([32]:List UInt8)++(a1.getD s1.1.toNat default))).length)]))],[]⟩
noncomputable def o36o2_2 (y2:(List Int)) (x:Unit):OT:=⟨.any,[0,32],[],[(32,.gone),(256,(.vec 5 1 (y2++([(10:Int)]:List Int)).length (cF (D.int .u8) (y2++([(10:Int)]:List Int))))),(0,(.cells [(.ptr 0 0),(.vec 256 1 (y2++([(10:Int)]:List Int)).length)]))],[]⟩
noncomputable def d36o2 (a0:List UInt8) (a1:List (List UInt8)) (a2:List Int):JO Tryz.prog Tryz.f36 [(aS a0),(.d (eSl 1 D.str a1)),(.ptr 0 0)] [(1,(.vec 5 1 a2.length (cF (D.int .u8) a2))),(0,(.cells [(.ptr 0 0),(.vec 1 1 a2.length)]))] [] (q36o2 a0 a1 a2) :=
 (.sq 1 [(0,⟨Unit,fun x=>[],fun x=>[(32,(o36o2_0 a0 a2 x))],[]⟩)] [(0,[1,2],[32,0])] (fun(_:Unit)=>⟨[(1,(.d (eSl 1 D.str a1))),(2,(.ptr 0 0))],[(32,(.vec 5 1 (a2++bytesI a0).length (cF (D.int .u8) (a2++bytesI a0)))),(0,(.cells [(.ptr 0 0),(.vec 32 1 (a2++bytesI a0).length)]))],[],48⟩) (c3 (p:=fun x0=>ObjL Tryz.prog 37 [(.ptr 0 0),(aS a0)] [(0,some (.cells [(.ptr 0 0),(.vec 1 1 a2.length)])),(1,some (.vec 5 1 a2.length (cF (D.int .u8) a2)))] 32 (o36o2_0 a0 a2 x0)) (fun x0 (h1:m37o1 a0 a2=some _)=>ok (idn [0,1]) [] [(0,0),(1,1),(32,176)] [] (po37o1 h1)) fun x0=>(.nx ())) (fun _=>(.sc (fun(y2:(List Int))=>⟨[(2,(.ptr 0 0))],[(32,(.vec 5 1 y2.length (cF (D.int .u8) y2))),(0,(.cells [(.ptr 0 0),(.vec 32 1 y2.length)]))],[],256⟩) (.sq 1 [] [(0,[2,9,10,11],[32,0])] (fun(_:Unit)=>⟨[(2,(.ptr 0 0)),(9,(.d (eSl 1 D.str a1))),(10,(aI (a1.length:Int))),(11,(aI 0))],[(32,(.vec 5 1 (a2++bytesI a0).length (cF (D.int .u8) (a2++bytesI a0)))),(0,(.cells [(.ptr 0 0),(.vec 32 1 (a2++bytesI a0).length)]))],[],96⟩) (.nx ()) (fun _=>(.bk (.lp (fun(s1:Int×(List Int))=>⟨[(2,(.ptr 0 0)),(9,(.d (eSl 1 D.str a1))),(10,(aI (a1.length:Int))),(11,(aI s1.1))],[(32,(.vec 5 1 s1.2.length (cF (D.int .u8) s1.2))),(0,(.cells [(.ptr 0 0),(.vec 32 1 s1.2.length)]))],[],240⟩) ((0:Int),(a2++bytesI a0)) (wk (idn [0,32]) []) fun s1=>(.sg [(4,⟨Unit,fun x=>[],fun x=>[(336,(o36o2_1 a1 s1 x))],[]⟩)] [(0,[2,9,10,11],[0,336]),(2,[2],[32,0])] (.ite (decide (s1.1 < (a1.length:Int))) (nd (0≤s1.1) (nd (s1.1 < (a1.length:Int)) (.exi (Unit) (if([32]:List UInt8).length+(a1.getD s1.1.toNat default).length≤9223372036854775807 then((m37o1 (([32]:List UInt8)++(a1.getD s1.1.toNat default)) s1.2).bind fun r4_0=>some r4_0)else none) (fun x4=>(.p (([32]:List UInt8).length+(a1.getD s1.1.toNat default).length≤9223372036854775807) (.p (ObjL Tryz.prog 37 [(.ptr 0 0),(aS (([32]:List UInt8)++(a1.getD s1.1.toNat default)))] [(0,some (.cells [(.ptr 0 0),(.vec 32 1 s1.2.length)])),(32,some (.vec 5 1 s1.2.length (cF (D.int .u8) s1.2)))] 336 (o36o2_1 a1 s1 x4)) (.fin 0)))) (by intro x4 h;obtain⟨h1,h⟩:=if_some h;obtain⟨r4_0,h2,h⟩:=Option.bind_eq_some_iff.1 h;cases h;exact⟨h1,ok [(0,0),(1,32)] [] [(0,0),(32,1),(336,176)] [] (po37o1 h2),trivial⟩) (fun x4 _=>(.ret .normal ⟨[(2,(.ptr 0 0)),(9,(.d (eSl 1 D.str a1))),(10,(aI (a1.length:Int))),(11,(aI (IntKind.wrap .i64 (s1.1+1))))],[(0,(.cells [(.ptr 0 0),(.vec 336 1 (s1.2++bytesI (([32]:List UInt8)++(a1.getD s1.1.toNat default))).length)])),(336,(.vec 5 1 (s1.2++bytesI (([32]:List UInt8)++(a1.getD s1.1.toNat default))).length (cF (D.int .u8) (s1.2++bytesI (([32]:List UInt8)++(a1.getD s1.1.toNat default))))))],[],384⟩ (.inl ((IntKind.wrap .i64 (s1.1+1)),(s1.2++bytesI (([32]:List UInt8)++(a1.getD s1.1.toNat default))))) ⟨rfl,(wk [(0,0),(32,336)] [])⟩))))) (.ret (.exit 0) _ (.inr (.inl s1.2)) ⟨rfl,rfl,Weak.refl _⟩))))))) fun y2=>(.sg [(6,⟨Unit,fun x=>[],fun x=>[(256,(o36o2_2 y2 x))],[]⟩)] [(0,[2],[0,256])] (c3 (p:=fun x6=>ObjL Tryz.prog 38 [(.ptr 0 0),(.d (.int .u8 10))] [(0,some (.cells [(.ptr 0 0),(.vec 32 1 y2.length)])),(32,some (.vec 5 1 y2.length (cF (D.int .u8) y2)))] 256 (o36o2_2 y2 x6)) (fun x6 (h1:m38o0 (10:Int) y2=some _)=>ok [(0,0),(1,32)] [] [(0,0),(32,1),(256,176)] [] (po38o0 h1)) fun x6=>(.ret .normal ⟨[(2,(.ptr 0 0))],[(0,(.cells [(.ptr 0 0),(.vec 256 1 (y2++([(10:Int)]:List Int)).length)])),(256,(.vec 5 1 (y2++([(10:Int)]:List Int)).length (cF (D.int .u8) (y2++([(10:Int)]:List Int)))))],[],272⟩ (y2++([(10:Int)]:List Int)) ⟨rfl,(retO_gone [1] (rk (idn [0,256]) [] 272))⟩))))))
noncomputable def m36o2 (a0:List UInt8) (a1:List (List UInt8)) (a2:List Int):Option ((List Int)):=(d36o2 a0 a1 a2).m
theorem po36o2 {a0:List UInt8} {a1:List (List UInt8)} {a2:List Int} {r:(List Int)} (h:m36o2 a0 a1 a2=some r):ObjF Tryz.prog 36 [(aS a0),(.d (eSl 1 D.str a1)),(.ptr 0 0)] [(1,(.vec 5 1 a2.length (cF (D.int .u8) a2))),(0,(.cells [(.ptr 0 0),(.vec 1 1 a2.length)]))] [] (q36o2 a0 a1 a2 r):=obj_jd (d36o2 a0 a1 a2) Tryz.func36 h
noncomputable def q39o0 (a0:List UInt8) (a1:List (List UInt8)) (a2:List Int) (y:(List Int)):OF:=⟨(.tup []),[(2,.gone),(0,(.cells [(.fn 36 [(.ptr 1 0)])])),(112,(.vec 5 1 y.length (cF (D.int .u8) y))),(1,(.cells [(.ptr 1 0),(.vec 112 1 y.length)]))],[]⟩
noncomputable def o39o0_0 (x:(List Int)):OT:=⟨(.tup []),[1,2],[],[(2,.gone),(112,(.vec 5 1 x.length (cF (D.int .u8) x))),(1,(.cells [(.ptr 1 0),(.vec 112 1 x.length)]))],[]⟩
noncomputable def d39o0 (a0:List UInt8) (a1:List (List UInt8)) (a2:List Int):JO Tryz.prog Tryz.f39 [(aS a0),(.d (eSl 1 D.str a1)),(.ptr 0 0)] [(0,(.cells [(.fn 36 [(.ptr 1 0)])])),(2,(.vec 5 1 a2.length (cF (D.int .u8) a2))),(1,(.cells [(.ptr 1 0),(.vec 2 1 a2.length)]))] [] (q39o0 a0 a1 a2) :=
 (.sg [(1,⟨(List Int),fun x=>[],fun x=>[(112,(o39o0_0 x))],[]⟩)] [(0,[2],[0,1,112,2])] (.ite (decide (0 < (a1.length:Int))) (c3 (p:=fun x1=>ObjL Tryz.prog 36 [(aS a0),(.d (eSl 1 D.str a1)),(.ptr 1 0)] [(1,some (.cells [(.ptr 1 0),(.vec 2 1 a2.length)])),(2,some (.vec 5 1 a2.length (cF (D.int .u8) a2)))] 112 (o39o0_0 x1)) (fun x1 (h1:m36o2 a0 a1 a2=some _)=>ok [(0,1),(1,2)] [] [(1,0),(2,1),(112,256)] [] (po36o2 h1)) fun x1=>(.ret .normal ⟨[(2,(.ptr 0 0))],[(0,(.cells [(.fn 36 [(.ptr 1 0)])])),(1,(.cells [(.ptr 1 0),(.vec 112 1 x1.length)])),(112,(.vec 5 1 x1.length (cF (D.int .u8) x1))),(2,.gone)],[],128⟩ x1 ⟨rfl,(retO_gone [2] (rk (idn [0,1,112]) [] 128))⟩)) (.ret .normal ⟨[(2,(.ptr 0 0))],[(0,(.cells [(.fn 36 [(.ptr 1 0)])])),(1,(.cells [(.ptr 1 0),(.vec 2 1 a2.length)])),(2,(.vec 5 1 a2.length (cF (D.int .u8) a2)))],[],64⟩ a2 ⟨rfl,(retO_gone [2] (rk [(0,0),(1,1),(112,2)] [] 128))⟩)))
noncomputable def m39o0 (a0:List UInt8) (a1:List (List UInt8)) (a2:List Int):Option ((List Int)):=(d39o0 a0 a1 a2).m
theorem po39o0 {a0:List UInt8} {a1:List (List UInt8)} {a2:List Int} {r:(List Int)} (h:m39o0 a0 a1 a2=some r):ObjF Tryz.prog 39 [(aS a0),(.d (eSl 1 D.str a1)),(.ptr 0 0)] [(0,(.cells [(.fn 36 [(.ptr 1 0)])])),(2,(.vec 5 1 a2.length (cF (D.int .u8) a2))),(1,(.cells [(.ptr 1 0),(.vec 2 1 a2.length)]))] [] (q39o0 a0 a1 a2 r):=obj_jd (d39o0 a0 a1 a2) Tryz.func39 h
noncomputable abbrev z10_0:Ob:=(.cells [(.fn 36 [(.ptr 144 0)])])
noncomputable abbrev z10_1:List (Nat×AV):=[(1,(.ptr 16 0)),(5,(.ptr 144 0)),(6,(.ptr 176 0)),(7,(.fn 39 [(.ptr 176 0)]))]
noncomputable abbrev z10_2 (a0:T27) (s6:Int×(List Int)):List (Nat×AV):=[(1,(.ptr 16 0)),(5,(.ptr 144 0)),(6,(.ptr 176 0)),(7,(.fn 39 [(.ptr 176 0)])),(59,(.d (eSl 6 e76 a0.States))),(60,(aI (a0.States.length:Int))),(61,(aI (IntKind.wrap .i64 (s6.1+1))))]
noncomputable abbrev z10_3 (a0:T27) (y1:(List Int)):List (Nat×Ob):=[(16,(.cells (g27 a0))),(368,(.vec 5 1 y1.length (cF (D.int .u8) y1))),(144,(.cells [(.ptr 144 0),(.vec 368 1 y1.length)])),(176,z10_0)]
noncomputable abbrev z10_4 (a0:T27) (y3:(List Int)):List (Nat×Ob):=[(16,(.cells (g27 a0))),(368,(.vec 5 1 y3.length (cF (D.int .u8) y3))),(144,(.cells [(.ptr 144 0),(.vec 368 1 y3.length)])),(176,z10_0)]
noncomputable abbrev z10_5 (a0:T27) (y5:(List Int)):List (Nat×Ob):=[(16,(.cells (g27 a0))),(368,(.vec 5 1 y5.length (cF (D.int .u8) y5))),(144,(.cells [(.ptr 144 0),(.vec 368 1 y5.length)])),(176,z10_0)]
noncomputable abbrev z10_6 (a0:T27) (y7:(List Int)):List (Nat×Ob):=[(16,(.cells (g27 a0))),(368,(.vec 5 1 y7.length (cF (D.int .u8) y7))),(144,(.cells [(.ptr 144 0),(.vec 368 1 y7.length)])),(176,z10_0)]
noncomputable def o10_0 (x:(List UInt8)×(List Int)):OT:=⟨(.tup []),[144],[352],[(368,(.vec 5 1 x.2.length (cF (D.int .u8) x.2))),(144,(.cells [(.ptr 144 0),(.vec 368 1 x.2.length)]))],[368]⟩
noncomputable def o10_1 (x:(List Int)):OT:=⟨(.tup []),[144,368],[704],[(368,.gone),(720,(.vec 5 1 x.length (cF (D.int .u8) x))),(144,(.cells [(.ptr 144 0),(.vec 720 1 x.length)]))],[720]⟩
noncomputable def o10_2 (x:(List (List UInt8))×(List Int)):OT:=⟨(.tup []),[144,368],[],[(368,.gone),(992,(.vec 5 1 x.2.length (cF (D.int .u8) x.2))),(144,(.cells [(.ptr 144 0),(.vec 992 1 x.2.length)]))],[]⟩
noncomputable def o10_3 (x:(List Int)):OT:=⟨(.tup []),[144,368],[1856],[(368,.gone),(1920,(.vec 5 1 x.length (cF (D.int .u8) x))),(144,(.cells [(.ptr 144 0),(.vec 1920 1 x.length)]))],[1920]⟩
noncomputable def o10_4 (x:(List Int)):OT:=⟨(.tup []),[176,144,1920],[],[(1920,.gone),(176,z10_0),(1984,(.vec 5 1 x.length (cF (D.int .u8) x))),(144,(.cells [(.ptr 144 0),(.vec 1984 1 x.length)]))],[]⟩
noncomputable def o10_5 (x:(List Int)):OT:=⟨(.tup []),[176,144,1984],[],[(1984,.gone),(176,z10_0),(2048,(.vec 5 1 x.length (cF (D.int .u8) x))),(144,(.cells [(.ptr 144 0),(.vec 2048 1 x.length)]))],[]⟩
noncomputable def o10_6 (x:(List Int)):OT:=⟨(.tup []),[144,368],[1760],[(368,.gone),(1856,(.vec 5 1 x.length (cF (D.int .u8) x))),(144,(.cells [(.ptr 144 0),(.vec 1856 1 x.length)]))],[1856]⟩
noncomputable def o10_7 (x:(List Int)):OT:=⟨(.tup []),[176,144,1856],[],[(1856,.gone),(176,z10_0),(1920,(.vec 5 1 x.length (cF (D.int .u8) x))),(144,(.cells [(.ptr 144 0),(.vec 1920 1 x.length)]))],[]⟩
noncomputable def o10_8 (x:(List UInt8)×(List UInt8)×(List Int)):OT:=⟨(.tup []),[144,368],[2272],[(368,.gone),(2288,(.vec 5 1 x.2.2.length (cF (D.int .u8) x.2.2))),(144,(.cells [(.ptr 144 0),(.vec 2288 1 x.2.2.length)]))],[2288]⟩
noncomputable def o10_9 (x:(List (List UInt8))×(List Int)):OT:=⟨(.tup []),[176,144,2288],[],[(2288,.gone),(176,z10_0),(2384,(.vec 5 1 x.2.length (cF (D.int .u8) x.2))),(144,(.cells [(.ptr 144 0),(.vec 2384 1 x.2.length)]))],[]⟩
noncomputable def o10_10 (x:(List Int)):OT:=⟨(.tup []),[176,144,2384],[],[(2384,.gone),(176,z10_0),(2448,(.vec 5 1 x.length (cF (D.int .u8) x))),(144,(.cells [(.ptr 144 0),(.vec 2448 1 x.length)]))],[]⟩
noncomputable def o10_11 (x:(List UInt8)):OT:=⟨(aS x),[144,368],[],[(368,.gone),(144,(.cells [(.ptr 144 0),.any]))],[]⟩
noncomputable def d10 (a0:T27):JF Tryz.prog Tryz.f10 [(e27 a0)] (fun(r:(List UInt8)×Int)=>(.tup [(.str r.1),(dI r.2)])) :=
 (.sq 6 [(1,tm1 18 dI),(7,⟨(List UInt8)×(List Int),fun x=>[(30,(.str x.1))],fun x=>[(368,(o10_0 x))],[]⟩)] [(1,[2,3],[]),(0,[1,5,6,7],[16,368,144,176])] (fun(y1:(List Int))=>⟨z10_1,(z10_3 a0 y1),[],384⟩) (c3 (@p35 a0) fun x1=>(.ite (x1 != 0) (.ret .ret ⟨[(2,(aS ([]:List UInt8))),(3,(aI x1))],[],[],192⟩ (.inr ((([]:List UInt8),x1))) ⟨rfl,rfl,_,Weak.refl _,⟨dr,dr,trivial⟩⟩) (.exi ((List UInt8)×(List Int)) ((m40 a0 a0.Start).bind fun r7_0=>((m36o0 ([67,72,65,82,84]:List UInt8) ([a0.Name,r7_0]:List (List UInt8))).bind fun r7_1=>some (r7_0,r7_1))) (fun x7=>(.p (PureAt Tryz.prog 40 [(e27 a0),(dI a0.Start)] (.str x7.1)) (.p (ObjL Tryz.prog 36 [(aS ([67,72,65,82,84]:List UInt8)),(.ap 1 2 (litF [(.str a0.Name),(.str x7.1)]) (.tok 352 9)),(.ptr 144 0)] [(144,some (.bld0 83))] 368 (o10_0 x7)) (.fin 0)))) (by intro x7 h;obtain⟨r7_0,h1,h⟩:=Option.bind_eq_some_iff.1 h;obtain⟨r7_1,h2,h⟩:=Option.bind_eq_some_iff.1 h;cases h;exact⟨p40 h1,objL_of (po36o0 h2) [(0,144)] [(0,352)] [(144,0),(368,256)] [(368,0)] (by kernel_rfl) ⟨dr,⟨rfl,rfl,rfl,(de_lit rfl rfl)⟩,⟨rfl,rfl⟩,trivial⟩ ⟨_,_,rfl,rfl,rfl⟩ (by kernel_rfl) trivial ⟨⟨_,_,rfl,rfl,⟨rfl,rfl,dr⟩⟩,⟨_,_,rfl,rfl,⟨⟨rfl,rfl⟩,⟨rfl,rfl,rfl⟩,trivial⟩⟩⟩,trivial⟩) (fun x7 _=>(.ret .normal ⟨z10_1,[(16,(.cells (g27 a0))),(368,(.vec 5 1 x7.2.length (cF (D.int .u8) x7.2))),(144,(.cells [(.ptr 144 0),(.vec 368 1 x7.2.length)])),(176,z10_0)],[368],384⟩ (.inl x7.2) ⟨rfl,(wk (idn [16,144,176,368]) [])⟩))))) (fun y1=>(.sc (fun(y3:(List Int))=>⟨z10_1,(z10_4 a0 y3),[],624⟩) (.sq 1 [] [(0,[1,5,6,7,34,35,36],[16,368,144,176])] (fun(_:Unit)=>⟨[(1,(.ptr 16 0)),(5,(.ptr 144 0)),(6,(.ptr 176 0)),(7,(.fn 39 [(.ptr 176 0)])),(34,(.d (eSl 1 D.str a0.Conds))),(35,(aI (a0.Conds.length:Int))),(36,(aI 0))],(z10_3 a0 y1),[],448⟩) (.nx ()) (fun _=>(.bk (.lp (fun(s2:Int×(List Int))=>⟨[(1,(.ptr 16 0)),(5,(.ptr 144 0)),(6,(.ptr 176 0)),(7,(.fn 39 [(.ptr 176 0)])),(34,(.d (eSl 1 D.str a0.Conds))),(35,(aI (a0.Conds.length:Int))),(36,(aI s2.1))],[(16,(.cells (g27 a0))),(368,(.vec 5 1 s2.2.length (cF (D.int .u8) s2.2))),(144,(.cells [(.ptr 144 0),(.vec 368 1 s2.2.length)])),(176,z10_0)],[],608⟩) ((0:Int),y1) (wk (idn [16,144,176,368]) []) fun s2=>(.sg [(11,⟨(List Int),fun x=>[],fun x=>[(720,(o10_1 x))],[]⟩)] [(0,[1,5,6,7,34,35,36],[16,144,720,176]),(2,[1,5,6,7],[16,368,144,176])] (.ite (decide (s2.1 < (a0.Conds.length:Int))) (nd (0≤s2.1) (nd (s2.1 < (a0.Conds.length:Int)) (c3 (p:=fun x11=>ObjL Tryz.prog 36 [(aS ([67,79,78,68,73,84,73,79,78]:List UInt8)),(.ap 1 1 (litF [(.str (a0.Conds.getD s2.1.toNat default))]) (.tok 704 9)),(.ptr 144 0)] [(144,some (.cells [(.ptr 144 0),(.vec 368 1 s2.2.length)])),(368,some (.vec 5 1 s2.2.length (cF (D.int .u8) s2.2)))] 720 (o10_1 x11)) (fun x11 (h1:m36o1 ([67,79,78,68,73,84,73,79,78]:List UInt8) ([(a0.Conds.getD s2.1.toNat default)]:List (List UInt8)) s2.2=some _)=>objL_of (po36o1 h1) [(0,144),(1,368)] [(0,704)] [(144,0),(368,1),(720,256)] [(720,0)] (by kernel_rfl) ⟨dr,⟨rfl,rfl,rfl,(de_lit rfl rfl)⟩,⟨rfl,rfl⟩,trivial⟩ ⟨⟨_,_,rfl,rfl,⟨rfl,rfl,dr⟩⟩,⟨_,_,rfl,rfl,⟨⟨rfl,rfl⟩,⟨rfl,rfl,rfl⟩,trivial⟩⟩⟩ (by kernel_rfl) trivial ⟨⟨_,_,rfl,rfl,trivial⟩,⟨_,_,rfl,rfl,⟨rfl,rfl,dr⟩⟩,⟨_,_,rfl,rfl,⟨⟨rfl,rfl⟩,⟨rfl,rfl,rfl⟩,trivial⟩⟩⟩) fun x11=>(.ret .normal ⟨[(1,(.ptr 16 0)),(5,(.ptr 144 0)),(6,(.ptr 176 0)),(7,(.fn 39 [(.ptr 176 0)])),(34,(.d (eSl 1 D.str a0.Conds))),(35,(aI (a0.Conds.length:Int))),(36,(aI (IntKind.wrap .i64 (s2.1+1))))],[(16,(.cells (g27 a0))),(144,(.cells [(.ptr 144 0),(.vec 720 1 x11.length)])),(720,(.vec 5 1 x11.length (cF (D.int .u8) x11))),(176,z10_0)],[720],768⟩ (.inl ((IntKind.wrap .i64 (s2.1+1)),x11)) ⟨rfl,(wk [(16,16),(144,144),(176,176),(368,720)] [])⟩)))) (.ret (.exit 0) _ (.inr (.inl s2.2)) ⟨rfl,rfl,Weak.refl _⟩))))))) fun y3=>(.sc (fun(y5:(List Int))=>⟨z10_1,(z10_5 a0 y5),[],880⟩) (.sq 1 [] [(0,[1,5,6,7,46,47,48],[16,368,144,176])] (fun(_:Unit)=>⟨[(1,(.ptr 16 0)),(5,(.ptr 144 0)),(6,(.ptr 176 0)),(7,(.fn 39 [(.ptr 176 0)])),(46,(.d (eSl 1 (eSl 2 e151) a0.Never))),(47,(aI (a0.Never.length:Int))),(48,(aI 0))],(z10_4 a0 y3),[],688⟩) (.nx ()) (fun _=>(.bk (.lp (fun(s4:Int×(List Int))=>⟨[(1,(.ptr 16 0)),(5,(.ptr 144 0)),(6,(.ptr 176 0)),(7,(.fn 39 [(.ptr 176 0)])),(46,(.d (eSl 1 (eSl 2 e151) a0.Never))),(47,(aI (a0.Never.length:Int))),(48,(aI s4.1))],[(16,(.cells (g27 a0))),(368,(.vec 5 1 s4.2.length (cF (D.int .u8) s4.2))),(144,(.cells [(.ptr 144 0),(.vec 368 1 s4.2.length)])),(176,z10_0)],[],864⟩) ((0:Int),y3) (wk (idn [16,144,176,368]) []) fun s4=>(.sg [(16,⟨(List (List UInt8))×(List Int),fun x=>[(55,(eSl 1 D.str x.1))],fun x=>[(992,(o10_2 x))],[]⟩)] [(0,[1,5,6,7,46,47,48],[16,144,992,176]),(4,[1,5,6,7],[16,368,144,176])] (.ite (decide (s4.1 < (a0.Never.length:Int))) (nd (0≤s4.1) (nd (s4.1 < (a0.Never.length:Int)) (.exi ((List (List UInt8))×(List Int)) ((m41 a0 (a0.Never.getD s4.1.toNat default)).bind fun r16_0=>((m36o2 ([78,69,86,69,82]:List UInt8) r16_0 s4.2).bind fun r16_1=>some (r16_0,r16_1))) (fun x16=>(.p (PureAt Tryz.prog 41 [(e27 a0),(eSl 2 e151 (a0.Never.getD s4.1.toNat default))] (eSl 1 D.str x16.1)) (.p (ObjL Tryz.prog 36 [(aS ([78,69,86,69,82]:List UInt8)),(.d (eSl 1 D.str x16.1)),(.ptr 144 0)] [(144,some (.cells [(.ptr 144 0),(.vec 368 1 s4.2.length)])),(368,some (.vec 5 1 s4.2.length (cF (D.int .u8) s4.2)))] 992 (o10_2 x16)) (.fin 0)))) (by intro x16 h;obtain⟨r16_0,h1,h⟩:=Option.bind_eq_some_iff.1 h;obtain⟨r16_1,h2,h⟩:=Option.bind_eq_some_iff.1 h;cases h;exact⟨p41 h1,ok [(0,144),(1,368)] [] [(144,0),(368,1),(992,256)] [] (po36o2 h2),trivial⟩) (fun x16 _=>(.ret .normal ⟨[(1,(.ptr 16 0)),(5,(.ptr 144 0)),(6,(.ptr 176 0)),(7,(.fn 39 [(.ptr 176 0)])),(46,(.d (eSl 1 (eSl 2 e151) a0.Never))),(47,(aI (a0.Never.length:Int))),(48,(aI (IntKind.wrap .i64 (s4.1+1))))],[(16,(.cells (g27 a0))),(144,(.cells [(.ptr 144 0),(.vec 992 1 x16.2.length)])),(992,(.vec 5 1 x16.2.length (cF (D.int .u8) x16.2))),(176,z10_0)],[],1040⟩ (.inl ((IntKind.wrap .i64 (s4.1+1)),x16.2)) ⟨rfl,(wk [(16,16),(144,144),(176,176),(368,992)] [])⟩))))) (.ret (.exit 2) _ (.inr (.inl s4.2)) ⟨rfl,rfl,Weak.refl _⟩))))))) fun y5=>(.sc (fun(y7:(List Int))=>⟨z10_1,(z10_6 a0 y7),[],1536⟩) (.sq 1 [] [(0,[1,5,6,7,59,60,61],[16,368,144,176])] (fun(_:Unit)=>⟨[(1,(.ptr 16 0)),(5,(.ptr 144 0)),(6,(.ptr 176 0)),(7,(.fn 39 [(.ptr 176 0)])),(59,(.d (eSl 6 e76 a0.States))),(60,(aI (a0.States.length:Int))),(61,(aI 0))],(z10_5 a0 y5),[],944⟩) (.nx ()) (fun _=>(.bk (.lp (fun(s6:Int×(List Int))=>⟨[(1,(.ptr 16 0)),(5,(.ptr 144 0)),(6,(.ptr 176 0)),(7,(.fn 39 [(.ptr 176 0)])),(59,(.d (eSl 6 e76 a0.States))),(60,(aI (a0.States.length:Int))),(61,(aI s6.1))],[(16,(.cells (g27 a0))),(368,(.vec 5 1 s6.2.length (cF (D.int .u8) s6.2))),(144,(.cells [(.ptr 144 0),(.vec 368 1 s6.2.length)])),(176,z10_0)],[],1520⟩) ((0:Int),y5) (wk (idn [16,144,176,368]) []) fun s6=>(.sg [(21,⟨(List UInt8)×(List UInt8),fun x=>[(70,(.str x.1)),(74,(.str x.2))],fun x=>[],[]⟩),(24,⟨(List Int),fun x=>[],fun x=>[(1920,(o10_3 x)),(1856,(o10_6 x))],[]⟩),(25,⟨(List Int),fun x=>[],fun x=>[(1984,(o10_4 x)),(1920,(o10_7 x))],[]⟩),(26,⟨(List Int),fun x=>[],fun x=>[(2048,(o10_5 x)),(1984,(o10_4 x))],[]⟩)] [(0,[1,5,6,7,59,60,61],[16,144,2048,176,1984]),(6,[1,5,6,7],[16,368,144,176])] (.ite (decide (s6.1 < (a0.States.length:Int))) (nd (0≤s6.1) (nd (s6.1 < (a0.States.length:Int)) (.exi ((List UInt8)×(List UInt8)) ((m40 a0 (a0.States.getD s6.1.toNat default).Parent).bind fun r21_0=>((m40 a0 (a0.States.getD s6.1.toNat default).Initial).bind fun r21_1=>some (r21_0,r21_1))) (fun x21=>(.p (PureAt Tryz.prog 40 [(e27 a0),(dI (a0.States.getD s6.1.toNat default).Parent)] (.str x21.1)) (.p (PureAt Tryz.prog 40 [(e27 a0),(dI (a0.States.getD s6.1.toNat default).Initial)] (.str x21.2)) (.fin 0)))) (by intro x21 h;obtain⟨r21_0,h1,h⟩:=Option.bind_eq_some_iff.1 h;obtain⟨r21_1,h2,h⟩:=Option.bind_eq_some_iff.1 h;cases h;exact⟨p40 h1,p40 h2,trivial⟩) (fun x21 _=>(.ite (a0.States.getD s6.1.toNat default).History (nd ((3+1) * 16≤140737488355328) (c3 (p:=fun x24=>ObjL Tryz.prog 36 [(aS ([83,84,65,84,69]:List UInt8)),(.ap 1 (3+1) (appF 3 (litF [(.str (a0.States.getD s6.1.toNat default).Name),(.str x21.1),(.str x21.2)]) (litF [(.str ([72,73,83,84,79,82,89]:List UInt8))])) (.tok 1856 9)),(.ptr 144 0)] [(144,some (.cells [(.ptr 144 0),(.vec 368 1 s6.2.length)])),(368,some (.vec 5 1 s6.2.length (cF (D.int .u8) s6.2)))] 1920 (o10_3 x24)) (fun x24 (h1:m36o1 ([83,84,65,84,69]:List UInt8) (([(a0.States.getD s6.1.toNat default).Name,x21.1,x21.2]:List (List UInt8))++([([72,73,83,84,79,82,89]:List UInt8)]:List (List UInt8))) s6.2=some _)=>objL_of (po36o1 h1) [(0,144),(1,368)] [(0,1856)] [(144,0),(368,1),(1920,256)] [(1920,0)] (by kernel_rfl) ⟨dr,⟨rfl,rfl,rfl,(de_app (de_lit rfl rfl) (de_lit rfl rfl))⟩,⟨rfl,rfl⟩,trivial⟩ ⟨⟨_,_,rfl,rfl,⟨rfl,rfl,dr⟩⟩,⟨_,_,rfl,rfl,⟨⟨rfl,rfl⟩,⟨rfl,rfl,rfl⟩,trivial⟩⟩⟩ (by kernel_rfl) trivial ⟨⟨_,_,rfl,rfl,trivial⟩,⟨_,_,rfl,rfl,⟨rfl,rfl,dr⟩⟩,⟨_,_,rfl,rfl,⟨⟨rfl,rfl⟩,⟨rfl,rfl,rfl⟩,trivial⟩⟩⟩) fun x24=>(c3 (p:=fun x25=>ObjL Tryz.prog 39 [(aS ([69,78,84,82,89]:List UInt8)),(.d (eSl 1 D.str (a0.States.getD s6.1.toNat default).Entry)),(.ptr 176 0)] [(176,some z10_0),(144,some (.cells [(.ptr 144 0),(.vec 1920 1 x24.length)])),(1920,some (.vec 5 1 x24.length (cF (D.int .u8) x24)))] 1984 (o10_4 x25)) (fun x25 (h1:m39o0 ([69,78,84,82,89]:List UInt8) (a0.States.getD s6.1.toNat default).Entry x24=some _)=>ok [(0,176),(1,144),(2,1920)] [] [(176,0),(144,1),(1920,2),(1984,112)] [] (po39o0 h1)) fun x25=>(c3 (p:=fun x26=>ObjL Tryz.prog 39 [(aS ([69,88,73,84]:List UInt8)),(.d (eSl 1 D.str (a0.States.getD s6.1.toNat default).Exit)),(.ptr 176 0)] [(176,some z10_0),(144,some (.cells [(.ptr 144 0),(.vec 1984 1 x25.length)])),(1984,some (.vec 5 1 x25.length (cF (D.int .u8) x25)))] 2048 (o10_5 x26)) (fun x26 (h1:m39o0 ([69,88,73,84]:List UInt8) (a0.States.getD s6.1.toNat default).Exit x25=some _)=>ok [(0,176),(1,144),(2,1984)] [] [(176,0),(144,1),(1984,2),(2048,112)] [] (po39o0 h1)) fun x26=>(.ret .normal ⟨(z10_2 a0 s6),[(16,(.cells (g27 a0))),(144,(.cells [(.ptr 144 0),(.vec 2048 1 x26.length)])),(2048,(.vec 5 1 x26.length (cF (D.int .u8) x26))),(176,z10_0),(1984,.gone)],[1920,1840],2096⟩ (.inl ((IntKind.wrap .i64 (s6.1+1)),x26)) ⟨rfl,(wk [(16,16),(144,144),(176,176),(368,2048)] [])⟩))))) (c3 (p:=fun x24=>ObjL Tryz.prog 36 [(aS ([83,84,65,84,69]:List UInt8)),(.ap 1 3 (litF [(.str (a0.States.getD s6.1.toNat default).Name),(.str x21.1),(.str x21.2)]) (.tok 1760 9)),(.ptr 144 0)] [(144,some (.cells [(.ptr 144 0),(.vec 368 1 s6.2.length)])),(368,some (.vec 5 1 s6.2.length (cF (D.int .u8) s6.2)))] 1856 (o10_6 x24)) (fun x24 (h1:m36o1 ([83,84,65,84,69]:List UInt8) ([(a0.States.getD s6.1.toNat default).Name,x21.1,x21.2]:List (List UInt8)) s6.2=some _)=>objL_of (po36o1 h1) [(0,144),(1,368)] [(0,1760)] [(144,0),(368,1),(1856,256)] [(1856,0)] (by kernel_rfl) ⟨dr,⟨rfl,rfl,rfl,(de_lit rfl rfl)⟩,⟨rfl,rfl⟩,trivial⟩ ⟨⟨_,_,rfl,rfl,⟨rfl,rfl,dr⟩⟩,⟨_,_,rfl,rfl,⟨⟨rfl,rfl⟩,⟨rfl,rfl,rfl⟩,trivial⟩⟩⟩ (by kernel_rfl) trivial ⟨⟨_,_,rfl,rfl,trivial⟩,⟨_,_,rfl,rfl,⟨rfl,rfl,dr⟩⟩,⟨_,_,rfl,rfl,⟨⟨rfl,rfl⟩,⟨rfl,rfl,rfl⟩,trivial⟩⟩⟩) fun x24=>(c3 (p:=fun x25=>ObjL Tryz.prog 39 [(aS ([69,78,84,82,89]:List UInt8)),(.d (eSl 1 D.str (a0.States.getD s6.1.toNat default).Entry)),(.ptr 176 0)] [(176,some z10_0),(144,some (.cells [(.ptr 144 0),(.vec 1856 1 x24.length)])),(1856,some (.vec 5 1 x24.length (cF (D.int .u8) x24)))] 1920 (o10_7 x25)) (fun x25 (h1:m39o0 ([69,78,84,82,89]:List UInt8) (a0.States.getD s6.1.toNat default).Entry x24=some _)=>ok [(0,176),(1,144),(2,1856)] [] [(176,0),(144,1),(1856,2),(1920,112)] [] (po39o0 h1)) fun x25=>(c3 (p:=fun x26=>ObjL Tryz.prog 39 [(aS ([69,88,73,84]:List UInt8)),(.d (eSl 1 D.str (a0.States.getD s6.1.toNat default).Exit)),(.ptr 176 0)] [(176,some z10_0),(144,some (.cells [(.ptr 144 0),(.vec 1920 1 x25.length)])),(1920,some (.vec 5 1 x25.length (cF (D.int .u8) x25)))] 1984 (o10_4 x26)) (fun x26 (h1:m39o0 ([69,88,73,84]:List UInt8) (a0.States.getD s6.1.toNat default).Exit x25=some _)=>ok [(0,176),(1,144),(2,1920)] [] [(176,0),(144,1),(1920,2),(1984,112)] [] (po39o0 h1)) fun x26=>(.ret .normal ⟨(z10_2 a0 s6),[(16,(.cells (g27 a0))),(144,(.cells [(.ptr 144 0),(.vec 1984 1 x26.length)])),(176,z10_0),(1984,(.vec 5 1 x26.length (cF (D.int .u8) x26)))],[1856],2032⟩ (.inl ((IntKind.wrap .i64 (s6.1+1)),x26)) ⟨rfl,(wk [(16,16),(144,144),(176,176),(368,1984)] [])⟩))))))))) (.ret (.exit 4) _ (.inr (.inl s6.2)) ⟨rfl,rfl,Weak.refl _⟩))))))) fun y7=>(.sc (fun(y9:(List Int))=>⟨[(5,(.ptr 144 0))],[(368,(.vec 5 1 y9.length (cF (D.int .u8) y9))),(144,(.cells [(.ptr 144 0),(.vec 368 1 y9.length)]))],[],2064⟩) (.sq 1 [] [(0,[1,5,6,7,94,95,96],[16,368,144,176])] (fun(_:Unit)=>⟨[(1,(.ptr 16 0)),(5,(.ptr 144 0)),(6,(.ptr 176 0)),(7,(.fn 39 [(.ptr 176 0)])),(94,(.d (eSl 4 e78 a0.Transitions))),(95,(aI (a0.Transitions.length:Int))),(96,(aI 0))],(z10_6 a0 y7),[],1600⟩) (.nx ()) (fun _=>(.bk (.lp (fun(s8:Int×(List Int))=>⟨[(1,(.ptr 16 0)),(5,(.ptr 144 0)),(6,(.ptr 176 0)),(7,(.fn 39 [(.ptr 176 0)])),(94,(.d (eSl 4 e78 a0.Transitions))),(95,(aI (a0.Transitions.length:Int))),(96,(aI s8.1))],[(16,(.cells (g27 a0))),(368,(.vec 5 1 s8.2.length (cF (D.int .u8) s8.2))),(144,(.cells [(.ptr 144 0),(.vec 368 1 s8.2.length)])),(176,z10_0)],[],2048⟩) ((0:Int),y7) (wk (idn [16,144,176,368]) []) fun s8=>(.sg [(31,⟨(List UInt8)×(List UInt8)×(List Int),fun x=>[(104,(.str x.1)),(108,(.str x.2.1))],fun x=>[(2288,(o10_8 x))],[]⟩),(32,⟨(List (List UInt8))×(List Int),fun x=>[(115,(eSl 1 D.str x.1))],fun x=>[(2384,(o10_9 x))],[]⟩),(33,⟨(List Int),fun x=>[],fun x=>[(2448,(o10_10 x))],[]⟩)] [(0,[1,5,6,7,94,95,96],[16,144,2448,176]),(8,[5],[368,144])] (.ite (decide (s8.1 < (a0.Transitions.length:Int))) (nd (0≤s8.1) (nd (s8.1 < (a0.Transitions.length:Int)) (.exi ((List UInt8)×(List UInt8)×(List Int)) ((m40 a0 (a0.Transitions.getD s8.1.toNat default).From).bind fun r31_0=>((m40 a0 (a0.Transitions.getD s8.1.toNat default).To).bind fun r31_1=>((m36o1 ([84,82,65,78,83,73,84,73,79,78]:List UInt8) ([r31_0,r31_1]:List (List UInt8)) s8.2).bind fun r31_2=>some (r31_0,r31_1,r31_2)))) (fun x31=>(.p (PureAt Tryz.prog 40 [(e27 a0),(dI (a0.Transitions.getD s8.1.toNat default).From)] (.str x31.1)) (.p (PureAt Tryz.prog 40 [(e27 a0),(dI (a0.Transitions.getD s8.1.toNat default).To)] (.str x31.2.1)) (.p (ObjL Tryz.prog 36 [(aS ([84,82,65,78,83,73,84,73,79,78]:List UInt8)),(.ap 1 2 (litF [(.str x31.1),(.str x31.2.1)]) (.tok 2272 9)),(.ptr 144 0)] [(144,some (.cells [(.ptr 144 0),(.vec 368 1 s8.2.length)])),(368,some (.vec 5 1 s8.2.length (cF (D.int .u8) s8.2)))] 2288 (o10_8 x31)) (.fin 0))))) (by intro x31 h;obtain⟨r31_0,h1,h⟩:=Option.bind_eq_some_iff.1 h;obtain⟨r31_1,h2,h⟩:=Option.bind_eq_some_iff.1 h;obtain⟨r31_2,h3,h⟩:=Option.bind_eq_some_iff.1 h;cases h;exact⟨p40 h1,p40 h2,objL_of (po36o1 h3) [(0,144),(1,368)] [(0,2272)] [(144,0),(368,1),(2288,256)] [(2288,0)] (by kernel_rfl) ⟨dr,⟨rfl,rfl,rfl,(de_lit rfl rfl)⟩,⟨rfl,rfl⟩,trivial⟩ ⟨⟨_,_,rfl,rfl,⟨rfl,rfl,dr⟩⟩,⟨_,_,rfl,rfl,⟨⟨rfl,rfl⟩,⟨rfl,rfl,rfl⟩,trivial⟩⟩⟩ (by kernel_rfl) trivial ⟨⟨_,_,rfl,rfl,trivial⟩,⟨_,_,rfl,rfl,⟨rfl,rfl,dr⟩⟩,⟨_,_,rfl,rfl,⟨⟨rfl,rfl⟩,⟨rfl,rfl,rfl⟩,trivial⟩⟩⟩,trivial⟩) (fun x31 _=>(.exi ((List (List UInt8))×(List Int)) ((m41 a0 (a0.Transitions.getD s8.1.toNat default).When).bind fun r32_0=>((m39o0 ([87,72,69,78]:List UInt8) r32_0 x31.2.2).bind fun r32_1=>some (r32_0,r32_1))) (fun x32=>(.p (PureAt Tryz.prog 41 [(e27 a0),(eSl 2 e151 (a0.Transitions.getD s8.1.toNat default).When)] (eSl 1 D.str x32.1)) (.p (ObjL Tryz.prog 39 [(aS ([87,72,69,78]:List UInt8)),(.d (eSl 1 D.str x32.1)),(.ptr 176 0)] [(176,some z10_0),(144,some (.cells [(.ptr 144 0),(.vec 2288 1 x31.2.2.length)])),(2288,some (.vec 5 1 x31.2.2.length (cF (D.int .u8) x31.2.2)))] 2384 (o10_9 x32)) (.fin 0)))) (by intro x32 h;obtain⟨r32_0,h1,h⟩:=Option.bind_eq_some_iff.1 h;obtain⟨r32_1,h2,h⟩:=Option.bind_eq_some_iff.1 h;cases h;exact⟨p41 h1,ok [(0,176),(1,144),(2,2288)] [] [(176,0),(144,1),(2288,2),(2384,112)] [] (po39o0 h2),trivial⟩) (fun x32 _=>(c3 (p:=fun x33=>ObjL Tryz.prog 39 [(aS ([68,79]:List UInt8)),(.d (eSl 1 D.str (a0.Transitions.getD s8.1.toNat default).Actions)),(.ptr 176 0)] [(176,some z10_0),(144,some (.cells [(.ptr 144 0),(.vec 2384 1 x32.2.length)])),(2384,some (.vec 5 1 x32.2.length (cF (D.int .u8) x32.2)))] 2448 (o10_10 x33)) (fun x33 (h1:m39o0 ([68,79]:List UInt8) (a0.Transitions.getD s8.1.toNat default).Actions x32.2=some _)=>ok [(0,176),(1,144),(2,2384)] [] [(176,0),(144,1),(2384,2),(2448,112)] [] (po39o0 h1)) fun x33=>(.ret .normal ⟨[(1,(.ptr 16 0)),(5,(.ptr 144 0)),(6,(.ptr 176 0)),(7,(.fn 39 [(.ptr 176 0)])),(94,(.d (eSl 4 e78 a0.Transitions))),(95,(aI (a0.Transitions.length:Int))),(96,(aI (IntKind.wrap .i64 (s8.1+1))))],[(16,(.cells (g27 a0))),(144,(.cells [(.ptr 144 0),(.vec 2448 1 x33.length)])),(2448,(.vec 5 1 x33.length (cF (D.int .u8) x33))),(176,z10_0)],[2288],2496⟩ (.inl ((IntKind.wrap .i64 (s8.1+1)),x33)) ⟨rfl,(wk [(16,16),(144,144),(176,176),(368,2448)] [])⟩)))))))) (.ret (.exit 6) _ (.inr (.inl s8.2)) ⟨rfl,rfl,Weak.refl _⟩))))))) fun y9=>(.sg [(35,⟨(List UInt8),fun x=>[],fun x=>[(2064,(o10_11 x))],[]⟩)] [(1,[2,3],[])] (c3 (p:=fun x35=>ObjL Tryz.prog 42 [(.ptr 144 0)] [(144,some (.cells [(.ptr 144 0),(.vec 368 1 y9.length)])),(368,some (.vec 5 1 y9.length (cF (D.int .u8) y9)))] 2064 (o10_11 x35)) (fun x35 (h1:mbs1 y9=some _)=>ok [(0,144),(1,368)] [] [(144,0),(368,1)] [] (pobs1 h1)) fun x35=>(.ret .ret ⟨[(2,(aS x35)),(3,(aI 0))],[],[],2112⟩ (x35,(0:Int)) ⟨rfl,_,Weak.refl _,⟨dr,dr,trivial⟩⟩)))))))))
noncomputable def m10 (a0:T27):Option ((List UInt8)×Int):=(d10 a0).m
theorem p10 {a0:T27} {r:(List UInt8)×Int} (h:m10 a0=some r):PureAt Tryz.prog 10 [(e27 a0)] (.tup [(.str r.1),(dI r.2)]):=pure_jd (d10 a0) Tryz.func10 h
noncomputable def d6 (a0:Int):JF Tryz.prog Tryz.f6 [(dI a0)] (fun(r:Bool)=>(.bool r)) :=
 (.sg [(1,tm1 10 D.bool),(3,tm1 12 (eSl 1 D.str)),(4,⟨(List (List UInt8))×Bool×(List UInt8)×(List UInt8),fun x=>[(14,(eSl 1 D.str x.1)),(15,(.bool x.2.1)),(19,(.str x.2.2.1)),(21,(.str x.2.2.2))],fun x=>[],[]⟩),(6,tm1 26 (fun(x:(T27×Int))=>(.tup [(e27 x.1),(dI x.2)]))),(7,tm1 31 (fun(x:(T27×Int))=>(.tup [(e27 x.1),(dI x.2)]))),(8,tm1 40 D.bool),(12,tm1 47 (fun(x:((List UInt8)×Int))=>(.tup [(.str x.1),(dI x.2)]))),(13,tm1 52 D.str)] [(1,[2],[])] (c3 (@p18) fun x1=>(.ite (!x1) (.ret .ret ⟨[(2,(aB false))],[],[],80⟩ false ⟨rfl,_,Weak.refl _,dr⟩) (c3 (@p24) fun x3=>(.exi ((List (List UInt8))×Bool×(List UInt8)×(List UInt8)) ((m26 ).bind fun r4_0=>((m25 x3 r4_0).bind fun r4_1=>((if(!(!r4_1))=true then m27 a0 else some default).bind fun r4_2=>((if(!(!r4_1))=true then m28 a0 else some default).bind fun r4_3=>some (r4_0,r4_1,r4_2,r4_3))))) (fun x4=>(.p (PureAt Tryz.prog 26 [] (eSl 1 D.str x4.1)) (.p (PureAt Tryz.prog 25 [(eSl 1 D.str x3),(eSl 1 D.str x4.1)] (.bool x4.2.1)) (.g (!(!x4.2.1)) (PureAt Tryz.prog 27 [(dI a0)] (.str x4.2.2.1)) (.g (!(!x4.2.1)) (PureAt Tryz.prog 28 [(dI a0)] (.str x4.2.2.2)) (.fin 0)))))) (by intro x4 h;obtain⟨r4_0,h1,h⟩:=Option.bind_eq_some_iff.1 h;obtain⟨r4_1,h2,h⟩:=Option.bind_eq_some_iff.1 h;obtain⟨r4_2,h3,h⟩:=Option.bind_eq_some_iff.1 h;obtain⟨r4_3,h4,h⟩:=Option.bind_eq_some_iff.1 h;cases h;exact⟨p26 h1,p25 h2,fun g=>p27 (by rw[if_pos g]at h3;exact h3),fun g=>p28 (by rw[if_pos g]at h4;exact h4),trivial⟩) (fun x4 _=>(.ite ((!x4.2.1) || (x4.2.2.1 != x4.2.2.2)) (.ret .ret ⟨[(2,(aB false))],[],[],288⟩ false ⟨rfl,_,Weak.refl _,dr⟩) (c3 (@p20 a0) fun x6=>(c3 (@p29 a0) fun x7=>(.exi (Bool) ((if(!(x6.2 != x7.2))=true then m13 x6.1 x7.1 else some default).bind fun r8_0=>some r8_0) (fun x8=>(.g (!(x6.2 != x7.2)) (PureAt Tryz.prog 13 [(e27 x6.1),(e27 x7.1)] (.bool x8)) (.fin 0))) (by intro x8 h;obtain⟨r8_0,h1,h⟩:=Option.bind_eq_some_iff.1 h;cases h;exact⟨fun g=>p13 (by rw[if_pos g]at h1;exact h1),trivial⟩) (fun x8 _=>(.ite ((x6.2 != x7.2) || (!x8)) (.ret .ret ⟨[(2,(aB false))],[],[],688⟩ false ⟨rfl,_,Weak.refl _,dr⟩) (.ite (x6.2 != 0) (.ret .ret ⟨[(2,(aB true))],[],[],720⟩ true ⟨rfl,_,Weak.refl _,dr⟩) (c3 (@p10 x6.1) fun x12=>(c3 (@p27 a0) fun x13=>(.ret .ret ⟨[(2,(aB ((x12.1==x13)&&(x12.2==0))))],[],[],960⟩ ((x12.1==x13)&&(x12.2==0)) ⟨rfl,_,Weak.refl _,dr⟩))))))))))))))))
noncomputable def m6 (a0:Int):Option (Bool):=(d6 a0).m
theorem p6 {a0:Int} {r:Bool} (h:m6 a0=some r):PureAt Tryz.prog 6 [(dI a0)] (.bool r):=pure_jd (d6 a0) Tryz.func6 h
end Go.Av
namespace Go.Av
def firstR {Y:Type} (f:Nat→Option Y) (n:Nat):Option Y:=(List.range n).findSome? f
theorem firstR_succ {Y:Type} {f:Nat→Option Y} {n:Nat}:firstR f (n+1)=match firstR f n with | some y=>some y | none=>f n:=by
 unfold firstR
 rw[List.range_succ,List.findSome?_append]
 cases (List.range n).findSome? f with
 | some y=>rfl
 | none=>simp
theorem firstR_none {Y:Type} {f:Nat→Option Y} {n:Nat}:firstR f n=none↔∀ i,i < n→f i=none:=by
 unfold firstR
 rw[List.findSome?_eq_none_iff]
 exact⟨fun h i hi=>h i (List.mem_range.2 hi),fun h i hi=>h i (List.mem_range.1 hi)⟩
theorem firstR_some {Y:Type} {f:Nat→Option Y} {n:Nat} {y:Y} (h:firstR f n=some y):∃ i,i < n∧f i=some y:=by
 unfold firstR at h
 obtain⟨i,hi,h⟩:=List.exists_of_findSome?_eq_some h
 exact⟨i,List.mem_range.1 hi,h⟩
theorem firstR_at {Y:Type} {f:Nat→Option Y} {n i:Nat} {y:Y} (hi:i < n) (h0:∀ j,j < i→f j=none) (h:f i=some y):firstR f n=some y:=by
 induction n with
 | zero=>omega
 | succ n ih =>
  rw[firstR_succ]
  by_cases hn:i < n
  ·rw[ih hn]
  ·obtain rfl:i=n:=by omega
   rw[firstR_none.2 h0,h]
def anyR (F:Nat→Bool) (n:Nat):Bool:=(List.range n).any F
theorem anyR_iff {F:Nat→Bool} {n:Nat}:anyR F n=true↔∃ i,i < n∧F i=true:=by
 simp only[anyR,List.any_eq_true,List.mem_range]
theorem anyR_false {F:Nat→Bool} {n:Nat}:anyR F n=false↔∀ i,i < n→F i=false:=by
 rw[← Bool.not_eq_true,anyR_iff]
 exact⟨fun h i hi=>by cases hf:F i with | false=>rfl | true=>exact absurd ⟨i,hi,hf⟩ h,fun h ⟨i,hi,hf⟩=>by rw[h i hi]at hf;cases hf⟩
theorem anyR_congr {F G:Nat→Bool} {n:Nat} (h:∀ i,i < n→F i=G i):anyR F n=anyR G n:=by
 rw[Bool.eq_iff_iff,anyR_iff,anyR_iff]
 exact⟨fun⟨i,hi,hf⟩=>⟨i,hi,by rw[← h i hi];exact hf⟩,fun⟨i,hi,hf⟩=>⟨i,hi,by rw[h i hi];exact hf⟩⟩
theorem firstR_any {Y:Type} {F:Nat→Bool} {g:Nat→Y} {n:Nat}:(firstR (fun i=>if F i=true then some (g i)else none) n).isSome=anyR F n:=by
 rw[Bool.eq_iff_iff,anyR_iff,Option.isSome_iff_ne_none,ne_eq,firstR_none]
 constructor
 ·intro h
  apply Classical.byContradiction
  intro hn
  exact h fun i hi=>by
   rw[if_neg]
   exact fun hf=>hn ⟨i,hi,hf⟩
 ·rintro⟨i,hi,hf⟩ h
  have:=h i hi
  rw[if_pos hf]at this;cases this
theorem firstR_const {Y:Type} {F:Nat→Bool} {y:Y} {n:Nat}:firstR (fun i=>if F i=true then some y else none) n=if anyR F n=true then some y else none:=by
 rw[← firstR_any (g:=fun _=>y)]
 cases h:firstR (fun i=>if F i=true then some y else none) n with
 | none=>rfl
 | some z =>
  obtain⟨i,_,h⟩:=firstR_some h
  split at h
  ·injection h with h;subst h;rfl
  ·cases h
def findR (F:Nat→Bool) (n:Nat):Int:=(firstR (fun i=>if F i=true then some (i:Int)else none) n).getD (-1)
theorem findR_any {F:Nat→Bool} {n:Nat}:decide (0≤findR F n)=anyR F n:=by
 rw[← firstR_any (g:=fun i=>(i:Int))]
 unfold findR
 cases h:firstR (fun i=>if F i=true then some (i:Int)else none) n with
 | none=>rfl
 | some y =>
  obtain⟨i,_,h⟩:=firstR_some h
  split at h
  ·injection h with h;subst h;simp
  ·cases h
def orK {R:Type} (o k:Option R):Option R:=match o with
 | some y=>some y
 | none=>k
theorem orK_getD {R:Type} {a:Option R} {d:R}:orK a (some d)=some (a.getD d):=by cases a<;>rfl
theorem orK_total {R:Type} {o k:Option R} (h:∃ y,k=some y):∃ y,orK o k=some y:=by
 cases o with
 | some y=>exact⟨y,rfl⟩
 | none=>exact h
theorem ite_total {R:Type} {p:Prop} [Decidable p] {y:R} {k:Option R} (h:∃ y,k=some y):∃ z,(if p then some y else k)=some z:=by
 split
 ·exact⟨y,rfl⟩
 ·exact h
def exB {S R:Type} (o:Option R) (s:S):Option (S⊕(Unit⊕R)):=match o with
 | some y=>some (.inr (.inr y))
 | none=>some (.inl s)
theorem exB_some {S R:Type} {y:R} {s:S}:exB (some y) s=some (.inr (.inr y)):=rfl
theorem exB_none {S R:Type} {s:S}:exB (none:Option R) s=some (.inl s):=rfl
theorem exB_ite {S R:Type} {p:Prop} [Decidable p] {a b:Option R} {s:S}:exB (if p then a else b) s=if p then exB a s else exB b s:=by split<;>rfl
theorem some_ite {α:Type} {p:Prop} [Decidable p] {a b:α}:some (if p then a else b)=if p then some a else some b:=by split<;>rfl
theorem loop_ex_from {R:Type} {b:Int→Option (Int⊕(Unit⊕R))} (n:Nat) (f:Nat→Option R) (hb:∀ i:Nat,i < n→b i=exB (f i) ((i:Int)+1)) (hd:b n=some (.inr (.inl ()))) :
  ∀ (k i0:Nat),i0+k=n→(∀ i,i < i0→f i=none)→loopO b i0=match firstR f n with | some y=>some (.inr y) | none=>some (.inl ())
 | 0,i0,hk,h0=>by
  obtain rfl:i0=n:=by omega
  rw[loopO_eq,hd,firstR_none.2 h0];rfl
 | k+1,i0,hk,h0=>by
  rw[loopO_eq,hb i0 (by omega)]
  cases hf:f i0 with
  | some y=>rw[firstR_at (by omega) h0 hf];rfl
  | none =>
   have:=loop_ex_from n f hb hd k (i0+1) (by omega) (fun i hi=>by
    by_cases h:i < i0
    ·exact h0 i h
    ·obtain rfl:i=i0:=by omega
     exact hf)
   rw[exB_none]
   simpa using this
theorem loop_ex {R:Type} {b:Int→Option (Int⊕(Unit⊕R))} {k:Unit→Option R} (n:Nat) (f:Nat→Option R) (hb:∀ i:Nat,i < n→b i=exB (f i) ((i:Int)+1)) (hd:b n=some (.inr (.inl ()))) :
  (loopO b 0).bind (onS k)=orK (firstR f n) (k ()):=by
 have:=loop_ex_from n f hb hd n 0 (by omega) (fun i hi=>by omega)
 rw[show ((0:Nat):Int)=0 from rfl]at this
 rw[this]
 cases firstR f n<;>rfl
theorem loop_or {R:Type} {b:Int→Option (Int⊕(Unit⊕R))} {k:Unit→Option R} (n:Nat) (f:Nat→Option R) (hb:∀ i:Nat,i < n→b i=exB (f i) ((i:Int)+1)) (hd:b n=some (.inr (.inl ()))) {z:Option R} (hk:k ()=z) :
  (loopO b 0).bind (onS k)=orK (firstR f n) z:=by rw[loop_ex n f hb hd,hk]
theorem ite_else {α:Type} {p:Prop} [Decidable p] {a b b':α} (h:b=b'):(if p then a else b)=if p then a else b':=by rw[h]
theorem on_l {Y R:Type} {m:Option (Y⊕R)} {y:Y} {f:Y→Option R} {z:Option R} (h:m=some (.inl y)) (hf:f y=z):m.bind (onS f)=z:=by rw[h];exact hf
theorem flatMap_app {A:Type} (g:Nat→List A) (n:Nat):(List.range (n+1)).flatMap g=(List.range n).flatMap g++g n:=by rw[List.range_succ,List.flatMap_append];simp
theorem loop_coll {A St X:Type} {b:St→Option (St⊕X)} (n:Nat) (mk:Nat→List A→St) (g:Nat→List A) (out:List A→X)
  (hs:∀ i,i < n→b (mk i ((List.range i).flatMap g))=some (.inl (mk (i+1) ((List.range i).flatMap g++g i)))) (he:b (mk n ((List.range n).flatMap g))=some (.inr (out ((List.range n).flatMap g)))) :
  loopO b (mk 0 [])=some (out ((List.range n).flatMap g)):=by
 have key:∀ k i,i+k=n→loopO b (mk i ((List.range i).flatMap g))=some (out ((List.range n).flatMap g)):=by
  intro k
  induction k with
  | zero =>
   intro i hk
   obtain rfl:i=n:=by omega
   rw[loopO_eq,he];rfl
  | succ k ih =>
   intro i hk
   rw[loopO_eq,hs i (by omega),← flatMap_app]
   exact ih (i+1) (by omega)
 exact key n 0 (by omega)
theorem flatMap_len {A:Type} {g:Nat→List A} {m:Nat} (h:∀ i,(g i).length≤m):∀ n,((List.range n).flatMap g).length≤n * m
 | 0=>by simp
 | n+1=>by
  have:=flatMap_len h n
  have:=h n
  rw[flatMap_app,List.length_append,Nat.succ_mul];omega
theorem wr1 {i n:Nat} (h:i < n) (hn:n≤4611686018427387904):IntKind.wrap .i64 ((i:Int)+1)=(i:Int)+1:=w64 (by omega) (by omega)
theorem lt_irr {n:Nat}:¬ ((n:Int) < (n:Int)):=Int.lt_irrefl _
theorem subL_getD {α:Type} [Inhabited α] {l:List α} {k j:Nat} (h:j < k):(subL l 0 k).getD j default=l.getD j default:=by
 simp[subL,List.getD_eq_getElem?_getD,List.getElem?_range h]
theorem inL {i:Nat} {n:Nat} (h:i < n):((0:Int)≤(i:Int))=True∧((i:Int) < (n:Int))=True∧(decide ((i:Int) < (n:Int))=true)=True:=by
 refine⟨eq_true (by omega),eq_true (by omega),eq_true (by simpa using h)⟩
end Go.Av
set_option maxRecDepth 100000
namespace Go.Av.Ch
def odd1 (c:Int):Bool:=(decide (c < 65) || decide (90 < c))&&(decide (c < 48) || decide (57 < c))
def nm0 (s:List UInt8):Bool:=decide (s.length=0) || decide (8 < s.length) || decide (byteAt s 0 < 65) || decide (90 < byteAt s 0)
def nm (s:List UInt8):Bool:=!nm0 s&&!anyR (fun i=>odd1 (byteAt s i)) s.length
theorem nm_len {s:List UInt8} (h:nm s=true):0 < s.length∧s.length≤8:=by
 simp only[nm,nm0,Bool.and_eq_true,Bool.not_eq_true',Bool.or_eq_false_iff,decide_eq_false_iff_not]at h
 omega
theorem nm_loop {s:List UInt8} (hl:s.length≤8) {b:Int→Option (Int⊕(Unit⊕Bool))} (hb:∀ i:Nat,i < s.length→b i=exB (if odd1 (byteAt s i)=true then some false else none) ((i:Int)+1)) (hd:b s.length=some (.inr (.inl ()))) :
  (loopO b 0).bind (onS fun _=>some true)=some (!anyR (fun i=>odd1 (byteAt s i)) s.length):=by
 rw[loop_ex s.length _ hb hd,firstR_const]
 cases anyR (fun i=>odd1 (byteAt s i)) s.length<;>rfl
theorem nm_rname (s:List UInt8):m122 s 8=some (nm s):=by
 have e0:(((s.length:Int)==(0:Int)) || (decide ((8:Int) < (s.length:Int))))=(decide (s.length=0) || decide (8 < s.length)):=by
  rw[Bool.eq_iff_iff];simp only[Bool.or_eq_true,decide_eq_true_eq,beq_iff_eq];omega
 delta m122 d122
 simp only[↓JD.sg_m,↓JD.sq_m,↓JD.sc_m,↓JD.bk_m,↓JD.lp_m,↓JD.cd_m,↓JD.lu_m,↓JD.ct_m,↓JD.ce_m,↓JL.r_m,↓JL.z_m,↓JD.se_m,onE_r,↓Tr.run,↓Tr.run_nd,↓Tr.run_c3,↓Tr.run_c2,↓Tr.run_nx,↓onS,bind_ite,Option.bind_some,Option.bind_none,obR,e0,Int.toNat_zero,Int.le_refl,implies_true,if_true]
 cases h1:(decide (s.length=0) || decide (8 < s.length)) with
 | true=>simp only[Bool.true_or,Bool.not_true,Bool.false_eq_true,false_implies,if_true,nm,nm0,h1,Bool.false_and]
 | false =>
  have hl:s.length≤8∧0 < s.length:=by simp only[Bool.or_eq_false_iff,decide_eq_false_iff_not]at h1;omega
  have z2:(0:Int) < s.length:=by omega
  simp only[Bool.false_or,z2,implies_true,if_true,nm,nm0,h1]
  cases h2:(decide (byteAt s 0 < 65) || decide (90 < byteAt s 0)) with
  | true=>rfl
  | false =>
   simp only[Bool.false_eq_true,if_false,Bool.not_false,Bool.true_and]
   refine nm_loop hl.1 (fun i hi=>?_) ?_
   ·(simp only[exB_ite,exB_some,exB_none];simp only[inL hi,decide_true,Int.toNat_natCast,if_true,implies_true,wr1 hi (by omega)];try rfl)
   ·(simp only[lt_irr,decide_false,Bool.false_eq_true,if_false];try rfl)
theorem nm_name (s:List UInt8):m75 s=some (nm s):=by
 delta m75 d75
 simp only[↓JD.sg_m,↓JD.sq_m,↓JD.sc_m,↓JD.bk_m,↓JD.lp_m,↓JD.cd_m,↓JD.lu_m,↓JD.ct_m,↓JD.ce_m,↓JL.r_m,↓JL.z_m,↓JD.se_m,onE_r,↓Tr.run,↓Tr.run_nd,↓Tr.run_c3,↓Tr.run_c2,↓Tr.run_nx,↓onS,bind_ite,Option.bind_some,Option.bind_none,obR,nm_rname]
def hasK {α:Type} [BEq α] [Inhabited α] (l:List α) (k:Nat) (x:α):Bool:=anyR (fun i=>x==l.getD i default) k
theorem hasK_sub {α:Type} [BEq α] [Inhabited α] {l:List α} {k:Nat} {x:α}:hasK (subL l 0 k) k x=hasK l k x:=anyR_congr fun i hi=>by rw[subL_getD hi]
theorem idx_loop {n:Nat} {F:Nat→Bool} {b:Int→Option (Int⊕(Unit⊕Int))} (hb:∀ i:Nat,i < n→b i=exB (if F i=true then some (i:Int)else none) ((i:Int)+1)) (hd:b n=some (.inr (.inl ()))) :
  (loopO b 0).bind (onS fun _=>some (-1))=some (findR F n):=by
 rw[loop_ex n _ hb hd,orK_getD];rfl
theorem containsS_eq (l:List (List UInt8)) (x:List UInt8) (hl:l.length≤100000):m88 l x=some (hasK l l.length x):=by
 have e:m108 l x=some (findR (fun i=>x==l.getD i default) l.length):=by
  delta m108 d108
  simp only[↓JD.sg_m,↓JD.sq_m,↓JD.sc_m,↓JD.bk_m,↓JD.lp_m,↓JD.cd_m,↓JD.lu_m,↓JD.ct_m,↓JD.ce_m,↓JL.r_m,↓JL.z_m,↓JD.se_m,onE_r,↓Tr.run,↓Tr.run_nd,↓Tr.run_c3,↓Tr.run_c2,↓Tr.run_nx,↓onS,bind_ite,Option.bind_some,Option.bind_none,obR]
  refine idx_loop (fun i hi=>?_) ?_
  ·(simp only[exB_ite,exB_some,exB_none];simp only[inL hi,decide_true,Int.toNat_natCast,if_true,implies_true,wr1 hi (by omega)];try rfl)
  ·(simp only[lt_irr,decide_false,Bool.false_eq_true,if_false];try rfl)
 delta m88 d88
 simp only[↓JD.sg_m,↓JD.sq_m,↓JD.sc_m,↓JD.bk_m,↓JD.lp_m,↓JD.cd_m,↓JD.lu_m,↓JD.ct_m,↓JD.ce_m,↓JL.r_m,↓JL.z_m,↓JD.se_m,onE_r,↓Tr.run,↓Tr.run_nd,↓Tr.run_c3,↓Tr.run_c2,↓Tr.run_nx,↓onS,bind_ite,Option.bind_some,Option.bind_none,obR,e,findR_any,hasK]
def listedS (l:List (List UInt8)) (i:Nat):Int:=if(!nm (l.getD i default))=true then 5 else if hasK l i (l.getD i default)=true then 7 else 0
theorem listed_eq (l:List (List UInt8)) (i:Nat) (hi:i < l.length) (hl:l.length≤100000):m76 l i=some (listedS l i):=by
 have e:=containsS_eq (subL l 0 i) (l.getD i default) (by rw[subL_len];omega)
 rw[subL_len,hasK_sub]at e
 delta m76 d76
 simp only[↓JD.sg_m,↓JD.sq_m,↓JD.sc_m,↓JD.bk_m,↓JD.lp_m,↓JD.cd_m,↓JD.lu_m,↓JD.ct_m,↓JD.ce_m,↓JL.r_m,↓JL.z_m,↓JD.se_m,onE_r,↓Tr.run,↓Tr.run_nd,↓Tr.run_c3,↓Tr.run_c2,↓Tr.run_nx,↓onS,bind_ite,Option.bind_some,Option.bind_none,obR,inL hi,Int.toNat_natCast,if_true,nm_name,e,listedS,some_ite,show (i:Int)≤l.length by omega]
def litF (c:T27) (l:List T151) (i:Nat):Option Int :=
 if(decide ((l.getD i default).Cond < 0) || decide ((c.Conds.length:Int)≤(l.getD i default).Cond))=true then some 2
 else if(decide ((0:Int) < (i:Int))&&decide ((l.getD i default).Cond≤(l.getD ((i:Int) - 1).toNat default).Cond))=true then some 9 else none
def litS (c:T27) (l:List T151):Int:=(firstR (litF c l) l.length).getD 0
theorem literals_eq (c:T27) (l:List T151) (hl:l.length≤100000):m77 c l=some (litS c l):=by
 delta m77 d77
 simp only[↓JD.sg_m,↓JD.sq_m,↓JD.sc_m,↓JD.bk_m,↓JD.lp_m,↓JD.cd_m,↓JD.lu_m,↓JD.ct_m,↓JD.ce_m,↓JL.r_m,↓JL.z_m,↓JD.se_m,onE_r,↓Tr.run,↓Tr.run_nd,↓Tr.run_c3,↓Tr.run_c2,↓Tr.run_nx,↓onS,bind_ite,Option.bind_some,Option.bind_none,obR]
 rw[loop_ex l.length (litF c l) ?_ ?_,orK_getD];rfl
 ·intro i hi
  have w1:IntKind.wrap .i64 ((i:Int) - 1)=(i:Int) - 1:=w64 (by omega) (by omega)
  have h3:=eq_true (show decide ((0:Int) < i)=true→(0:Int)≤(i:Int) - 1 from fun h=>by simp only[decide_eq_true_eq]at h;omega)
  have h4:=eq_true (show decide ((0:Int) < i)=true→(i:Int) - 1 < l.length from fun h=>by omega)
  unfold litF
  (simp only[exB_ite,exB_some,exB_none];simp only[w1,h3,h4,inL hi,decide_true,Int.toNat_natCast,if_true,implies_true,wr1 hi (by omega)];try rfl)
 ·(simp only[lt_irr,decide_false,Bool.false_eq_true,if_false];try rfl)
def actS (l:List (List UInt8)):Int:=if decide ((8:Int) < (l.length:Int))=true then 3 else if anyR (fun i=>!nm (l.getD i default)) l.length=true then 5 else 0
theorem actS_len {l:List (List UInt8)} (h:actS l=0):l.length≤8:=by
 unfold actS at h
 split at h
 ·cases h
 ·rename_i h1;simp only[decide_eq_true_eq]at h1;omega
theorem actions_eq (l:List (List UInt8)) (hl:l.length≤100000):m80 l=some (actS l):=by
 have e:m161o0 l=some (findR (fun i=>!nm (l.getD i default)) l.length):=by
  delta m161o0 d161o0
  simp only[↓JD.sg_m,↓JD.sq_m,↓JD.sc_m,↓JD.bk_m,↓JD.lp_m,↓JD.cd_m,↓JD.lu_m,↓JD.ct_m,↓JD.ce_m,↓JL.r_m,↓JL.z_m,↓JD.se_m,onE_r,↓Tr.run,↓Tr.run_nd,↓Tr.run_c3,↓Tr.run_c2,↓Tr.run_nx,↓onS,bind_ite,Option.bind_some,Option.bind_none,obR,m124o0,d124o0,nm_name]
  refine idx_loop (fun i hi=>?_) ?_
  ·(simp only[exB_ite,exB_some,exB_none];simp only[inL hi,decide_true,Int.toNat_natCast,if_true,implies_true,wr1 hi (by omega)];try rfl)
  ·(simp only[lt_irr,decide_false,Bool.false_eq_true,if_false];try rfl)
 delta m80 d80
 simp only[↓JD.sg_m,↓JD.sq_m,↓JD.sc_m,↓JD.bk_m,↓JD.lp_m,↓JD.cd_m,↓JD.lu_m,↓JD.ct_m,↓JD.ce_m,↓JL.r_m,↓JL.z_m,↓JD.se_m,onE_r,↓Tr.run,↓Tr.run_nd,↓Tr.run_c3,↓Tr.run_c2,↓Tr.run_nx,↓onS,bind_ite,Option.bind_some,Option.bind_none,obR,m123o0,d123o0,e,findR_any,actS,some_ite]
def comp (c:T27) (x:Int):Bool:=anyR (fun i=>(c.States.getD i default).Parent==x) c.States.length
theorem composite_eq (c:T27) (x:Int) (hl:c.States.length≤100000):m105 c x=some (comp c x):=by
 have e:m168o0 c.States x=some (findR (fun i=>(c.States.getD i default).Parent==x) c.States.length):=by
  delta m168o0 d168o0
  simp only[↓JD.sg_m,↓JD.sq_m,↓JD.sc_m,↓JD.bk_m,↓JD.lp_m,↓JD.cd_m,↓JD.lu_m,↓JD.ct_m,↓JD.ce_m,↓JL.r_m,↓JL.z_m,↓JD.se_m,onE_r,↓Tr.run,↓Tr.run_nd,↓Tr.run_c3,↓Tr.run_c2,↓Tr.run_nx,↓onS,bind_ite,Option.bind_some,Option.bind_none,obR,m139o0,d139o0]
  refine idx_loop (fun i hi=>?_) ?_
  ·(simp only[exB_ite,exB_some,exB_none];simp only[inL hi,decide_true,Int.toNat_natCast,if_true,implies_true,wr1 hi (by omega)];try rfl)
  ·(simp only[lt_irr,decide_false,Bool.false_eq_true,if_false];try rfl)
 delta m105 d105
 simp only[↓JD.sg_m,↓JD.sq_m,↓JD.sc_m,↓JD.bk_m,↓JD.lp_m,↓JD.cd_m,↓JD.lu_m,↓JD.ct_m,↓JD.ce_m,↓JL.r_m,↓JL.z_m,↓JD.se_m,onE_r,↓Tr.run,↓Tr.run_nd,↓Tr.run_c3,↓Tr.run_c2,↓Tr.run_nx,↓onS,bind_ite,Option.bind_some,Option.bind_none,obR,m138o0,d138o0,e,findR_any,comp]
def isS (c:T27) (x:Int):Bool:=decide ((0:Int)≤x)&&decide (x < (c.States.length:Int))
theorem is_eq (c:T27) (x:Int):m79 c x=some (isS c x):=rfl
theorem isS_iff {c:T27} {x:Int}:isS c x=true↔0≤x∧x < c.States.length:=by simp[isS]
def childS (c:T27) (x y:Int):Bool:=isS c x&&((c.States.getD x.toNat default).Parent==y)
end Go.Av.Ch
set_option maxRecDepth 100000
namespace Go.Av.Ch
structure Fit (c:T27):Prop where
 conds:c.Conds.length≤1000
 never:c.Never.length≤1000
 lits:∀ l∈c.Never,l.length≤1000
 states:c.States.length≤1000
 entry:∀ s∈c.States,s.Entry.length≤1000
 exit_:∀ s∈c.States,s.Exit.length≤1000
 trans:c.Transitions.length≤1000
 when_:∀ t∈c.Transitions,t.When.length≤1000
 acts:∀ t∈c.Transitions,t.Actions.length≤1000
def namesS (c:T27):List (List UInt8):=(List.range c.States.length).flatMap fun i=>[(c.States.getD i default).Name]
theorem namesS_map (c:T27):namesS c=(List.range c.States.length).map fun i=>(c.States.getD i default).Name:=(List.map_eq_flatMap ..).symm
theorem namesS_len (c:T27):(namesS c).length=c.States.length:=by rw[namesS_map];simp
theorem namesS_getD (c:T27) {i:Nat} (h:i < c.States.length):(namesS c).getD i default=(c.States.getD i default).Name:=by
 rw[namesS_map,List.getD_eq_getElem?_getD,List.getElem?_map,List.getElem?_range h];rfl
def stateT (c:T27) (i:Nat):Int :=
 if(decide ((c.States.getD i default).Parent < (-1:Int)) || decide ((i:Int)≤(c.States.getD i default).Parent))=true then 9
 else if((comp c i&&!childS c (c.States.getD i default).Initial i) || (!comp c i&&((c.States.getD i default).Initial != (-1:Int))))=true then 2
 else if(!comp c i&&(c.States.getD i default).History)=true then 17
 else if(actS (c.States.getD i default).Entry != 0)=true then actS (c.States.getD i default).Entry
 else actS (c.States.getD i default).Exit
def stateS (c:T27) (i:Nat):Int:=if(listedS (namesS c) i != 0)=true then listedS (namesS c) i else stateT c i
theorem state_eq (c:T27) (H:Fit c) (i:Nat) (hi:i < c.States.length):m78 c (namesS c) i=some (stateS c i):=by
 have hs:=H.states
 have he:=H.entry _ (getD_mem hi)
 have hx:=H.exit_ _ (getD_mem hi)
 have e1:=listed_eq (namesS c) i (by rw[namesS_len];exact hi) (by rw[namesS_len];omega)
 delta m78 d78
 simp only[↓JD.sg_m,↓JD.sq_m,↓JD.sc_m,↓JD.bk_m,↓JD.lp_m,↓JD.cd_m,↓JD.lu_m,↓JD.ct_m,↓JD.ce_m,↓JL.r_m,↓JL.z_m,↓JD.se_m,onE_r,↓Tr.run,↓Tr.run_nd,↓Tr.run_c3,↓Tr.run_c2,↓Tr.run_nx,↓onS,bind_ite,Option.bind_some,Option.bind_none,obR,inL hi,e1,Int.toNat_natCast,if_true,composite_eq c _ (Nat.le_trans hs (by omega)),is_eq,actions_eq _ (Nat.le_trans he (by omega)),actions_eq _ (Nat.le_trans hx (by omega)),stateS,stateT,some_ite]
 refine ite_else (ite_else ?_)
 cases hc:comp c i with
 | false=>simp only[Bool.false_and,Bool.not_false,Bool.true_and,Bool.false_or,Bool.false_eq_true,if_false,false_implies,if_true]
 | true =>
  have g1:=eq_true (show (!!isS c (c.States.getD i default).Initial)=true→(0:Int)≤(c.States.getD i default).Initial from fun h=>by simp only[Bool.not_not]at h;exact(isS_iff.1 h).1)
  have g2:=eq_true (show (!!isS c (c.States.getD i default).Initial)=true→(c.States.getD i default).Initial < (c.States.length:Int) from fun h=>by simp only[Bool.not_not]at h;exact(isS_iff.1 h).2)
  simp only[if_true,Option.bind_some,g1,g2,childS,bne,Bool.not_and,Bool.true_and,Bool.not_true,Bool.false_and,Bool.or_false,Bool.false_eq_true,if_false]
def condF (c:T27) (i:Nat):Option Int:=if(listedS c.Conds i != 0)=true then some (listedS c.Conds i)else none
def nevF (c:T27) (i:Nat):Option Int:=if(((c.Never.getD i default).length:Int)==0)=true then some 1 else if(litS c (c.Never.getD i default) != 0)=true then some (litS c (c.Never.getD i default))else none
def stF (c:T27) (i:Nat):Option Int:=if(stateS c i != 0)=true then some (stateS c i)else none
def trF (c:T27) (i:Nat):Option Int :=
 if((!isS c (c.Transitions.getD i default).From) || (!isS c (c.Transitions.getD i default).To))=true then some 2
 else if(litS c (c.Transitions.getD i default).When != 0)=true then some (litS c (c.Transitions.getD i default).When)
 else if(actS (c.Transitions.getD i default).Actions != 0)=true then some (actS (c.Transitions.getD i default).Actions)else none
def checkM (c:T27):Option Int :=
 if(!nm c.Name)=true then some 5
 else if((c.States.length:Int)==0)=true then some 6
 else if((((decide ((12:Int) < (c.Conds.length:Int))) || (decide ((16:Int) < (c.Never.length:Int)))) || (decide ((40:Int) < (c.States.length:Int)))) || (decide ((120:Int) < (c.Transitions.length:Int))))=true then some 3
 else orK (firstR (condF c) c.Conds.length) (orK (firstR (nevF c) c.Never.length) (orK (firstR (stF c) c.States.length) (if(!isS c c.Start)=true then some 2 else orK (firstR (trF c) c.Transitions.length) (some 0))))
theorem checkM_some (c:T27):∃ e,checkM c=some e:=ite_total (ite_total (ite_total (orK_total (orK_total (orK_total (ite_total (orK_total ⟨0,rfl⟩)))))))
theorem Check_eq (c:T27) (H:Fit c):m35 c=checkM c:=by
 have hcl:=H.conds
 have hnl:=H.never
 have hsl:=H.states
 have htl:=H.trans
 delta m35 d35
 simp only[↓JD.sg_m,↓JD.sq_m,↓JD.sc_m,↓JD.bk_m,↓JD.lp_m,↓JD.cd_m,↓JD.lu_m,↓JD.ct_m,↓JD.ce_m,↓JL.r_m,↓JL.z_m,↓JD.se_m,onE_r,↓Tr.run,↓Tr.run_nd,↓Tr.run_c3,↓Tr.run_c2,↓Tr.run_nx,↓onS,bind_ite,Option.bind_some,Option.bind_none,obR,nm_name,is_eq,checkM]
 refine ite_else (ite_else (ite_else (loop_or _ (condF c) (fun i hi=>?_) (by (simp only[lt_irr,decide_false,Bool.false_eq_true,if_false];try rfl)) (loop_or _ (nevF c) (fun i hi=>?_) (by (simp only[lt_irr,decide_false,Bool.false_eq_true,if_false];try rfl)) (on_l (loop_coll c.States.length (fun i l=>(l,(i:Int))) (fun i=>[(c.States.getD i default).Name]) Sum.inl (fun i hi=>?_) (by (simp only[lt_irr,decide_false,Bool.false_eq_true,if_false];try rfl))) (loop_or _ (stF c) (fun i hi=>?_) (by (simp only[lt_irr,decide_false,Bool.false_eq_true,if_false];try rfl)) (ite_else (loop_or _ (trF c) (fun i hi=>?_) (by (simp only[lt_irr,decide_false,Bool.false_eq_true,if_false];try rfl)) rfl))))))))
 ·unfold condF
  (simp only[exB_ite,exB_some,exB_none];simp only[listed_eq c.Conds i hi (by omega),Option.bind_some,inL hi,decide_true,Int.toNat_natCast,if_true,implies_true,wr1 hi (by omega)];try rfl)
 ·have hl:=H.lits _ (getD_mem hi)
  unfold nevF
  (simp only[exB_ite,exB_some,exB_none];simp only[literals_eq c _ (Nat.le_trans hl (by omega)),Option.bind_some,inL hi,decide_true,Int.toNat_natCast,if_true,implies_true,wr1 hi (by omega)];try rfl)
 ·have hl:=flatMap_len (g:=fun i=>[(c.States.getD i default).Name]) (m:=1) (fun i=>by simp) i
  have h3:(((List.range i).flatMap fun i=>[(c.States.getD i default).Name]).length+1) * 16≤140737488355328:=by omega
  simp only[inL hi,h3,Int.toNat_natCast,if_true,wr1 hi (by omega)];rfl
 ·unfold stF
  have e:=state_eq c H i hi
  unfold namesS at e
  (simp only[exB_ite,exB_some,exB_none];simp only[e,Option.bind_some,inL hi,decide_true,Int.toNat_natCast,if_true,implies_true,wr1 hi (by omega)];try rfl)
 ·have hw:=H.when_ _ (getD_mem hi)
  have ha:=H.acts _ (getD_mem hi)
  unfold trF
  simp only[exB_ite,exB_some,exB_none]
  simp only[inL hi,is_eq,literals_eq c _ (Nat.le_trans hw (by omega)),actions_eq _ (Nat.le_trans ha (by omega)),Option.bind_some,decide_true,Int.toNat_natCast,if_true,wr1 hi (by omega)]
  cases isS c (c.Transitions.getD i default).From<;>simp only[Bool.not_true,Bool.not_false,Bool.false_eq_true,Bool.true_or,Bool.false_or,if_true,if_false,Option.bind_some]
end Go.Av.Ch
namespace Go.Av.Mo
def C1:T27:=⟨[76,65,84,69,82,65,76],[[71,82,79,85,78,68],[72,69,65,68,73,78,71],[78,65,86],[82,69,65,68,89],[90,79,78,69],[70,73,78,65,76],[71,79]],[],[⟨[79,78],(-1),1,false,[],[]⟩,⟨[82,79,76,76],0,(-1),false,[],[]⟩,⟨[72,69,65,68,73,78,71],0,(-1),false,[],[]⟩,⟨[65,82,77,69,68],0,(-1),false,[],[]⟩,⟨[78,65,86],0,(-1),false,[],[]⟩,⟨[65,80,80,82,79,65,67,72],0,(-1),false,[],[]⟩,⟨[71,79,65,82,79,85,78,68],0,(-1),false,[],[]⟩],1,[⟨0,1,[⟨0,false⟩],[]⟩,⟨0,6,[⟨0,true⟩,⟨6,false⟩],[]⟩,⟨0,2,[⟨0,true⟩,⟨1,false⟩,⟨6,true⟩],[]⟩,⟨1,1,[⟨0,true⟩,⟨1,true⟩,⟨2,true⟩,⟨6,true⟩],[]⟩,⟨1,1,[⟨0,true⟩,⟨1,true⟩,⟨2,false⟩,⟨3,true⟩,⟨6,true⟩],[]⟩,⟨1,3,[⟨0,true⟩,⟨1,true⟩,⟨2,false⟩,⟨3,false⟩,⟨4,true⟩,⟨6,true⟩],[]⟩,⟨1,4,[⟨0,true⟩,⟨1,true⟩,⟨2,false⟩,⟨3,false⟩,⟨4,false⟩,⟨5,true⟩,⟨6,true⟩],[[67,65,80,84,85,82,69,68]]⟩,⟨1,5,[⟨0,true⟩,⟨1,true⟩,⟨2,false⟩,⟨3,false⟩,⟨4,false⟩,⟨5,false⟩,⟨6,true⟩],[[67,65,80,84,85,82,69,68]]⟩,⟨2,2,[⟨0,true⟩,⟨1,true⟩,⟨2,true⟩,⟨6,true⟩],[]⟩,⟨2,2,[⟨0,true⟩,⟨1,true⟩,⟨2,false⟩,⟨3,true⟩,⟨6,true⟩],[]⟩,⟨2,3,[⟨0,true⟩,⟨1,true⟩,⟨2,false⟩,⟨3,false⟩,⟨4,true⟩,⟨6,true⟩],[]⟩,⟨2,4,[⟨0,true⟩,⟨1,true⟩,⟨2,false⟩,⟨3,false⟩,⟨4,false⟩,⟨5,true⟩,⟨6,true⟩],[[67,65,80,84,85,82,69,68]]⟩,⟨2,5,[⟨0,true⟩,⟨1,true⟩,⟨2,false⟩,⟨3,false⟩,⟨4,false⟩,⟨5,false⟩,⟨6,true⟩],[[67,65,80,84,85,82,69,68]]⟩,⟨3,2,[⟨0,true⟩,⟨1,true⟩,⟨3,true⟩,⟨6,true⟩],[[76,65,84,82,69,86]]⟩,⟨3,3,[⟨0,true⟩,⟨1,true⟩,⟨3,false⟩,⟨4,true⟩,⟨6,true⟩],[]⟩,⟨3,4,[⟨0,true⟩,⟨1,true⟩,⟨3,false⟩,⟨4,false⟩,⟨5,true⟩,⟨6,true⟩],[[67,65,80,84,85,82,69,68]]⟩,⟨3,5,[⟨0,true⟩,⟨1,true⟩,⟨3,false⟩,⟨4,false⟩,⟨5,false⟩,⟨6,true⟩],[[67,65,80,84,85,82,69,68]]⟩,⟨4,2,[⟨0,true⟩,⟨1,true⟩,⟨3,true⟩,⟨6,true⟩],[[76,65,84,82,69,86]]⟩,⟨4,4,[⟨0,true⟩,⟨1,true⟩,⟨3,false⟩,⟨5,true⟩,⟨6,true⟩],[]⟩,⟨4,5,[⟨0,true⟩,⟨1,true⟩,⟨3,false⟩,⟨5,false⟩,⟨6,true⟩],[]⟩,⟨5,2,[⟨0,true⟩,⟨1,true⟩,⟨3,true⟩,⟨6,true⟩],[[76,65,84,82,69,86]]⟩,⟨5,4,[⟨0,true⟩,⟨1,true⟩,⟨3,false⟩,⟨5,true⟩,⟨6,true⟩],[]⟩,⟨5,5,[⟨0,true⟩,⟨1,true⟩,⟨3,false⟩,⟨5,false⟩,⟨6,true⟩],[]⟩,⟨6,6,[⟨0,true⟩,⟨1,true⟩,⟨2,true⟩,⟨6,true⟩],[]⟩,⟨6,6,[⟨0,true⟩,⟨1,true⟩,⟨2,false⟩,⟨3,true⟩,⟨6,true⟩],[]⟩,⟨6,3,[⟨0,true⟩,⟨1,true⟩,⟨2,false⟩,⟨3,false⟩,⟨4,true⟩,⟨6,true⟩],[]⟩,⟨6,4,[⟨0,true⟩,⟨1,true⟩,⟨2,false⟩,⟨3,false⟩,⟨4,false⟩,⟨5,true⟩,⟨6,true⟩],[[67,65,80,84,85,82,69,68]]⟩,⟨6,5,[⟨0,true⟩,⟨1,true⟩,⟨2,false⟩,⟨3,false⟩,⟨4,false⟩,⟨5,false⟩,⟨6,true⟩],[[67,65,80,84,85,82,69,68]]⟩]⟩
def C2:T27:=⟨[86,69,82,84,73,67,65,76],[[71,82,79,85,78,68],[82,69,65,68,89],[70,73,78,65,76],[71,79],[72,79,76,68],[83,80,69,69,68],[67,72,65,78,71,69],[65,66,79,86,69],[84,65,75,69],[78,69,65,82],[65,84]],[[⟨1,true⟩,⟨8,false⟩],[⟨9,true⟩,⟨10,false⟩]],[⟨[79,78],(-1),1,false,[],[]⟩,⟨[72,79,76,68],0,(-1),false,[],[]⟩,⟨[67,76,73,77,66],0,(-1),false,[],[]⟩,⟨[68,69,83,67,69,78,68],0,(-1),false,[],[]⟩,⟨[83,80,69,69,68],0,(-1),false,[],[]⟩,⟨[67,65,80,84,85,82,69],0,(-1),false,[],[]⟩,⟨[80,65,84,72],0,(-1),false,[],[]⟩,⟨[71,76,73,68,69],0,(-1),false,[],[]⟩,⟨[71,79,65,82,79,85,78,68],0,(-1),false,[],[]⟩],1,[⟨0,1,[⟨0,false⟩],[]⟩,⟨0,8,[⟨0,true⟩,⟨3,false⟩],[]⟩,⟨0,1,[⟨0,true⟩,⟨3,true⟩,⟨4,false⟩],[]⟩,⟨0,4,[⟨0,true⟩,⟨3,true⟩,⟨4,true⟩,⟨5,false⟩],[]⟩,⟨0,2,[⟨0,true⟩,⟨3,true⟩,⟨4,true⟩,⟨5,true⟩,⟨6,false⟩,⟨7,false⟩],[]⟩,⟨0,3,[⟨0,true⟩,⟨3,true⟩,⟨4,true⟩,⟨5,true⟩,⟨6,false⟩,⟨7,true⟩],[]⟩,⟨0,6,[⟨0,true⟩,⟨2,true⟩,⟨3,true⟩,⟨4,true⟩,⟨5,true⟩,⟨6,true⟩,⟨8,false⟩],[[67,65,80,84,85,82,69,68]]⟩,⟨0,7,[⟨0,true⟩,⟨2,false⟩,⟨3,true⟩,⟨4,true⟩,⟨5,true⟩,⟨6,true⟩,⟨8,false⟩],[[67,65,80,84,85,82,69,68]]⟩,⟨1,1,[⟨0,true⟩,⟨3,true⟩,⟨4,true⟩,⟨5,true⟩,⟨6,true⟩,⟨8,true⟩],[]⟩,⟨2,5,[⟨0,true⟩,⟨3,true⟩,⟨4,true⟩,⟨5,true⟩,⟨6,true⟩,⟨8,true⟩,⟨9,false⟩],[]⟩,⟨2,2,[⟨0,true⟩,⟨3,true⟩,⟨4,true⟩,⟨5,true⟩,⟨6,true⟩,⟨8,true⟩,⟨9,true⟩],[]⟩,⟨3,5,[⟨0,true⟩,⟨3,true⟩,⟨4,true⟩,⟨5,true⟩,⟨6,true⟩,⟨8,true⟩,⟨9,false⟩],[]⟩,⟨3,3,[⟨0,true⟩,⟨3,true⟩,⟨4,true⟩,⟨5,true⟩,⟨6,true⟩,⟨8,true⟩,⟨9,true⟩],[]⟩,⟨4,5,[⟨0,true⟩,⟨3,true⟩,⟨4,true⟩,⟨5,true⟩,⟨6,true⟩,⟨8,true⟩,⟨9,false⟩],[]⟩,⟨4,4,[⟨0,true⟩,⟨3,true⟩,⟨4,true⟩,⟨5,true⟩,⟨6,true⟩,⟨8,true⟩,⟨9,true⟩],[]⟩,⟨5,1,[⟨0,true⟩,⟨3,true⟩,⟨4,true⟩,⟨5,true⟩,⟨6,true⟩,⟨8,true⟩,⟨10,false⟩],[]⟩,⟨5,5,[⟨0,true⟩,⟨3,true⟩,⟨4,true⟩,⟨5,true⟩,⟨6,true⟩,⟨8,true⟩,⟨9,false⟩,⟨10,true⟩],[]⟩,⟨5,2,[⟨0,true⟩,⟨3,true⟩,⟨4,true⟩,⟨5,true⟩,⟨6,true⟩,⟨7,false⟩,⟨8,true⟩,⟨9,true⟩,⟨10,true⟩],[[79,86,69,82,83,72,79,84]]⟩,⟨5,3,[⟨0,true⟩,⟨3,true⟩,⟨4,true⟩,⟨5,true⟩,⟨6,true⟩,⟨7,true⟩,⟨8,true⟩,⟨9,true⟩,⟨10,true⟩],[[79,86,69,82,83,72,79,84]]⟩,⟨6,1,[⟨0,true⟩,⟨1,true⟩,⟨3,true⟩,⟨4,true⟩,⟨5,true⟩,⟨6,true⟩,⟨8,true⟩],[[86,69,82,84,82,69,86]]⟩,⟨6,6,[⟨0,true⟩,⟨1,false⟩,⟨2,true⟩,⟨3,true⟩,⟨4,true⟩,⟨5,true⟩,⟨6,true⟩,⟨8,true⟩],[]⟩,⟨6,7,[⟨0,true⟩,⟨1,false⟩,⟨2,false⟩,⟨3,true⟩,⟨4,true⟩,⟨5,true⟩,⟨6,true⟩,⟨8,true⟩],[]⟩,⟨7,1,[⟨0,true⟩,⟨1,true⟩,⟨3,true⟩,⟨4,true⟩,⟨5,true⟩,⟨6,true⟩,⟨8,true⟩],[[86,69,82,84,82,69,86]]⟩,⟨7,6,[⟨0,true⟩,⟨1,false⟩,⟨2,true⟩,⟨3,true⟩,⟨4,true⟩,⟨5,true⟩,⟨6,true⟩,⟨8,true⟩],[]⟩,⟨7,7,[⟨0,true⟩,⟨1,false⟩,⟨2,false⟩,⟨3,true⟩,⟨4,true⟩,⟨5,true⟩,⟨6,true⟩,⟨8,true⟩],[]⟩,⟨8,5,[⟨0,true⟩,⟨3,true⟩,⟨4,true⟩,⟨5,true⟩,⟨6,true⟩,⟨8,true⟩,⟨9,false⟩],[]⟩,⟨8,8,[⟨0,true⟩,⟨3,true⟩,⟨4,true⟩,⟨5,true⟩,⟨6,true⟩,⟨8,true⟩,⟨9,true⟩],[]⟩]⟩
def C3:T27:=⟨[80,72,65,83,69],[[71,82,79,85,78,68],[70,73,78,65,76],[71,79],[84,72,82,85,83,84],[65,67,67,69,76],[76,69,86,69,76],[68,79,87,78],[83,84,79,80,80,69,68]],[[⟨0,false⟩,⟨4,false⟩],[⟨0,true⟩,⟨7,false⟩]],[⟨[65,73,82],(-1),3,false,[],[]⟩,⟨[80,82,69,70,76,84],(-1),(-1),false,[],[]⟩,⟨[84,65,75,69,79,70,70],(-1),(-1),false,[],[]⟩,⟨[67,76,73,77,66],0,(-1),false,[],[]⟩,⟨[67,82,85,73,83,69],0,(-1),false,[],[]⟩,⟨[68,69,83,67,69,78,84],0,(-1),false,[],[]⟩,⟨[65,80,80,82,79,65,67,72],0,(-1),false,[],[]⟩,⟨[71,79,65,82,79,85,78,68],0,(-1),false,[],[]⟩,⟨[76,65,78,68,69,68],(-1),(-1),false,[],[]⟩],1,[⟨0,8,[⟨0,false⟩],[[76,65,78,68,73,78,71]]⟩,⟨0,7,[⟨0,true⟩,⟨2,false⟩],[]⟩,⟨1,3,[⟨0,true⟩],[]⟩,⟨1,2,[⟨0,false⟩,⟨3,false⟩],[]⟩,⟨1,1,[⟨0,false⟩,⟨3,true⟩],[]⟩,⟨2,2,[⟨0,false⟩,⟨3,false⟩],[]⟩,⟨2,1,[⟨0,false⟩,⟨3,true⟩],[[82,69,74,69,67,84,69,68]]⟩,⟨2,2,[⟨0,true⟩,⟨4,true⟩],[]⟩,⟨2,0,[⟨0,true⟩,⟨4,false⟩],[]⟩,⟨3,6,[⟨0,true⟩,⟨1,false⟩,⟨2,true⟩],[]⟩,⟨3,4,[⟨0,true⟩,⟨1,true⟩,⟨2,true⟩,⟨5,false⟩],[]⟩,⟨3,5,[⟨0,true⟩,⟨1,true⟩,⟨2,true⟩,⟨5,true⟩,⟨6,false⟩],[]⟩,⟨3,3,[⟨0,true⟩,⟨1,true⟩,⟨2,true⟩,⟨5,true⟩,⟨6,true⟩],[]⟩,⟨4,6,[⟨0,true⟩,⟨1,false⟩,⟨2,true⟩],[]⟩,⟨4,5,[⟨0,true⟩,⟨1,true⟩,⟨2,true⟩,⟨6,false⟩],[]⟩,⟨4,4,[⟨0,true⟩,⟨1,true⟩,⟨2,true⟩,⟨5,false⟩,⟨6,true⟩],[]⟩,⟨4,3,[⟨0,true⟩,⟨1,true⟩,⟨2,true⟩,⟨5,true⟩,⟨6,true⟩],[]⟩,⟨5,6,[⟨0,true⟩,⟨1,false⟩,⟨2,true⟩],[]⟩,⟨5,5,[⟨0,true⟩,⟨1,true⟩,⟨2,true⟩,⟨6,false⟩],[]⟩,⟨5,4,[⟨0,true⟩,⟨1,true⟩,⟨2,true⟩,⟨5,false⟩,⟨6,true⟩],[]⟩,⟨5,3,[⟨0,true⟩,⟨1,true⟩,⟨2,true⟩,⟨5,true⟩,⟨6,true⟩],[]⟩,⟨6,6,[⟨0,true⟩,⟨1,false⟩,⟨2,true⟩],[]⟩,⟨6,5,[⟨0,true⟩,⟨1,true⟩,⟨2,true⟩,⟨6,false⟩],[]⟩,⟨6,3,[⟨0,true⟩,⟨1,true⟩,⟨2,true⟩,⟨6,true⟩],[]⟩,⟨7,7,[⟨0,true⟩,⟨2,true⟩,⟨4,true⟩],[]⟩,⟨7,3,[⟨0,true⟩,⟨1,true⟩,⟨2,true⟩,⟨4,false⟩],[]⟩,⟨7,6,[⟨0,true⟩,⟨1,false⟩,⟨2,true⟩,⟨4,false⟩],[]⟩,⟨8,3,[⟨0,true⟩],[[84,79,85,67,72,71,79]]⟩,⟨8,2,[⟨0,false⟩,⟨3,false⟩],[]⟩,⟨8,1,[⟨0,false⟩,⟨3,true⟩,⟨7,false⟩],[]⟩,⟨8,8,[⟨0,false⟩,⟨3,true⟩,⟨7,true⟩],[]⟩]⟩
end Go.Av.Mo
namespace Go.Av
theorem bs {α β:Type} {a:α} {f:α→Option β}:Option.bind (some a) f=f a:=Eq.mpr rfl rfl
theorem ol {Y R:Type} {f:Y→Option R} {y:Y}:onS f (.inl y)=f y:=Eq.mpr rfl rfl
theorem or_ {Y R:Type} {f:Y→Option R} {r:R}:onS f (.inr r)=some r:=Eq.mpr rfl rfl
theorem oe {R:Type} {r:R}:onE (.inr r)=some r:=Eq.mpr rfl rfl
theorem bind_id {α:Type} {m:Option α}:(Option.bind m fun r=>some r)=m:=by cases m<;>rfl
end Go.Av
set_option maxRecDepth 1000000
namespace Go.Av.Mo
def headS (p:List UInt8):List (List UInt8)→List (List UInt8)
 | []=>[p]
 | l :: r=>(p++l) :: r
def linesS:List UInt8→List (List UInt8)
 | []=>[[]]
 | c :: s=>match Nat.beq c.toNat 10 with
  | true=>[] :: linesS s
  | false=>headS [c] (linesS s)
theorem linesS_t {c:UInt8} {s:List UInt8} (h:Nat.beq c.toNat 10=true):linesS (c :: s)=[] :: linesS s:=by rw[linesS,h]
theorem linesS_f {c:UInt8} {s:List UInt8} (h:Nat.beq c.toNat 10=false):linesS (c :: s)=headS [c] (linesS s):=by rw[linesS,h]
theorem linesS_ne:∀ s,∃ l r,linesS s=l :: r
 | []=>⟨_,_,rfl⟩
 | c :: s=>by
  unfold linesS
  split
  ·exact⟨_,_,rfl⟩
  ·obtain⟨l,r,h⟩:=linesS_ne s
   rw[h];exact⟨_,_,rfl⟩
theorem headS_headS (p q:List UInt8) (l:List (List UInt8)):headS p (headS q l)=headS (p++q) l:=by cases l<;>simp[headS]
theorem M141 (a0:List UInt8):m141 a0=((Option.bind (some (.inl ())) (onS fun(_:Unit)=>(Option.bind (Option.bind (some (.inl ())) (onS fun(_:Unit)=>(loopO (fun(s1:(List (List UInt8))×Int×Int)=>((if(decide (s1.2.2≤(a0.length:Int)))=true then(if(!(s1.2.2==(a0.length:Int)))=true→(0≤s1.2.2)then(if(!(s1.2.2==(a0.length:Int)))=true→(s1.2.2 < (a0.length:Int))then(if((s1.2.2==(a0.length:Int)) || ((byteAt a0 s1.2.2.toNat)==10))=true then(if(0≤s1.2.1)then(if(s1.2.1≤s1.2.2)then(if(s1.2.2≤(a0.length:Int))then(if((s1.1.length+1) * 16≤140737488355328)then(some (.inl ((s1.1++([((a0.take s1.2.2.toNat).drop s1.2.1.toNat)]:List (List UInt8))),(IntKind.wrap .i64 (s1.2.2+1)),(IntKind.wrap .i64 (s1.2.2+1)))))else none)else none)else none)else none)else(some (.inl (s1.1,s1.2.1,(IntKind.wrap .i64 (s1.2.2+1))))))else none)else none)else(some (.inr (.inl s1.1)))):Option (((List (List UInt8))×Int×Int)⊕(((List (List UInt8)))⊕((List (List UInt8))))))) ([],(0:Int),(0:Int))))) (onS fun(y2:(List (List UInt8)))=>(some y2))))):Option ((List (List UInt8)))):=by kernel_rfl
theorem M111o0 (a0:List UInt8):m111o0 a0=((Option.bind (if(decide (262144 < (a0.length:Int)))=true then(some (.inr ((([(⟨(1:Int),(1:Int),(3:Int)⟩:T100)]:List T100),[]))))else(some (.inl ()))) (onS fun(_:Unit)=>(Option.bind (Option.bind (Option.bind (Option.bind (m141 a0) fun r=>some r) fun x5=>(some (.inl (x5,(x5.length:Int))))) (onS fun(y1:(List (List UInt8))×Int)=>(loopO (fun(s2:(List T103)×(List T100)×Int)=>((if(decide (s2.2.2 < y1.2))=true then(if(0≤s2.2.2)then(if(s2.2.2 < (y1.1.length:Int))then(Option.bind (Option.bind (m142 (y1.1.getD s2.2.2.toNat default)) fun r=>some r) fun x8=>(if(x8.2.2 != 0)=true then(if(decide ((s2.2.1.length:Int) < (50:Int)))=true then(if((s2.2.1.length+1) * 24≤140737488355328)then(some (.inl (s2.1,(s2.2.1++([(⟨(IntKind.wrap .i64 (s2.2.2+1)),x8.2.1,x8.2.2⟩:T100)]:List T100)),(IntKind.wrap .i64 (s2.2.2+1)))))else none)else(some (.inl (s2.1,s2.2.1,(IntKind.wrap .i64 (s2.2.2+1))))))else(if(decide (0 < (x8.1.length:Int)))=true then(if((s2.1.length+1) * 32≤140737488355328)then(some (.inl ((s2.1++([(⟨(IntKind.wrap .i64 (s2.2.2+1)),x8.1⟩:T103)]:List T103)),s2.2.1,(IntKind.wrap .i64 (s2.2.2+1)))))else none)else(some (.inl (s2.1,s2.2.1,(IntKind.wrap .i64 (s2.2.2+1))))))))else none)else none)else(some (.inr (.inl (s2.1,s2.2.1))))):Option (((List T103)×(List T100)×Int)⊕(((List T103)×(List T100))⊕((List T100)×(List T103)))))) ([],[],(0:Int))))) (onS fun(y3:(List T103)×(List T100))=>(some (y3.2,y3.1)))))):Option ((List T100)×(List T103))):=by kernel_rfl
theorem M67 (a0:List UInt8):m67 a0=((Option.bind (Option.bind (Option.bind (m111o0 a0) fun r=>some r) fun x1=>(if(((x1.1.length:Int)==(0:Int))&&((x1.2.length:Int)==(0:Int)))=true then(if(decide ((0:Int) < (1:Int)))=true then(some (.inr (((⟨([]:List UInt8),[],[],[],(0:Int),[]⟩:T27),([(⟨(1:Int),(1:Int),(9:Int)⟩:T100)]:List T100)))))else(some (.inl (x1.2,([(⟨(1:Int),(1:Int),(9:Int)⟩:T100)]:List T100)))))else(if(decide (0 < (x1.1.length:Int)))=true then(some (.inr (((⟨([]:List UInt8),[],[],[],(0:Int),[]⟩:T27),x1.1))))else(some (.inl (x1.2,x1.1)))))) (onS fun(y1:(List T103)×(List T100))=>(Option.bind (Option.bind (some (.inl ())) (onS fun(_:Unit)=>(loopO (fun(s2:(List T100)×Int)=>((if(decide (s2.2 < (y1.1.length:Int)))=true then(if(0≤s2.2)then(if(s2.2 < (y1.1.length:Int))then(if((0:Int)≤(0:Int))then(if(0 < ((y1.1.getD s2.2.toNat default).Fields.length:Int))then(Option.bind (Option.bind (m112 (y1.1.getD s2.2.toNat default)) fun r=>some r) fun x10=>(if(decide (x10 < 0))=true then(if(true&&(decide ((s2.1.length:Int) < (50:Int))))=true then(if((s2.1.length+1) * 24≤140737488355328)then(some (.inl ((s2.1++([(⟨(y1.1.getD s2.2.toNat default).Number,((y1.1.getD s2.2.toNat default).Fields.getD (0:Int).toNat default).Column,(4:Int)⟩:T100)]:List T100)),(IntKind.wrap .i64 (s2.2+1)))))else none)else(some (.inl (s2.1,(IntKind.wrap .i64 (s2.2+1))))))else(Option.bind ((if(((!((s2.2==0)&&(x10 != 0)))&&(decide (0 < s2.2)))&&(!(x10==0)))=true→0≤(IntKind.wrap .i64 (s2.2 - 1))then(if(((!((s2.2==0)&&(x10 != 0)))&&(decide (0 < s2.2)))&&(!(x10==0)))=true→(IntKind.wrap .i64 (s2.2 - 1)) < (y1.1.length:Int)then((if(((!((s2.2==0)&&(x10 != 0)))&&(decide (0 < s2.2)))&&(!(x10==0)))=true then m112 (y1.1.getD (IntKind.wrap .i64 (s2.2 - 1)).toNat default)else some default).bind fun r14_0=>((if(((!((s2.2==0)&&(x10 != 0)))&&(decide (0 < s2.2)))&&(!(x10==0)))=true then m113 x10 r14_0 else some default).bind fun r14_1=>some (r14_0,r14_1)))else none)else none)) fun(x14:(Int×Bool))=>(if(((s2.2==0)&&(x10 != 0)) || ((decide (0 < s2.2))&&((x10==0) || (!x14.2))))=true then(if(true&&(decide ((s2.1.length:Int) < (50:Int))))=true then(if((s2.1.length+1) * 24≤140737488355328)then(some (.inl ((s2.1++([(⟨(y1.1.getD s2.2.toNat default).Number,((y1.1.getD s2.2.toNat default).Fields.getD (0:Int).toNat default).Column,(9:Int)⟩:T100)]:List T100)),(IntKind.wrap .i64 (s2.2+1)))))else none)else(some (.inl (s2.1,(IntKind.wrap .i64 (s2.2+1))))))else(Option.bind (Option.bind (m114 (y1.1.getD s2.2.toNat default)) fun r=>some r) fun x16=>(if(x16.2&&(decide ((s2.1.length:Int) < (50:Int))))=true then(if((s2.1.length+1) * 24≤140737488355328)then(some (.inl ((s2.1++([x16.1]:List T100)),(IntKind.wrap .i64 (s2.2+1)))))else none)else(some (.inl (s2.1,(IntKind.wrap .i64 (s2.2+1)))))))))))else none)else none)else none)else none)else(some (.inr (.inl s2.1)))):Option (((List T100)×Int)⊕(((List T100))⊕(T27×(List T100)))))) (y1.2,(0:Int))))) (onS fun(y3:(List T100))=>(Option.bind (if(decide (0 < (y3.length:Int)))=true then(some (.inr (((⟨([]:List UInt8),[],[],[],(0:Int),[]⟩:T27),y3))))else(some (.inl ()))) (onS fun(_:Unit)=>(Option.bind (Option.bind (some (.inl ())) (onS fun(_:Unit)=>(loopO (fun(s4:(List T100)×Int)=>((if(decide (s4.2 < (y1.1.length:Int)))=true then(if(0≤s4.2)then(if(s4.2 < (y1.1.length:Int))then(Option.bind (Option.bind (m115 y1.1 (y1.1.getD s4.2.toNat default)) fun r=>some r) fun x25=>(if((decide (0 < x25))&&(decide ((s4.1.length:Int) < (50:Int))))=true then(if((s4.1.length+1) * 24≤140737488355328)then(some (.inl ((s4.1++([(⟨(y1.1.getD s4.2.toNat default).Number,x25,(6:Int)⟩:T100)]:List T100)),(IntKind.wrap .i64 (s4.2+1)))))else none)else(some (.inl (s4.1,(IntKind.wrap .i64 (s4.2+1)))))))else none)else none)else(some (.inr (.inl s4.1)))):Option (((List T100)×Int)⊕(((List T100))⊕(T27×(List T100)))))) (y3,(0:Int))))) (onS fun(y5:(List T100))=>(if(decide (0 < (y5.length:Int)))=true then(some ((⟨([]:List UInt8),[],[],[],(0:Int),[]⟩:T27),y5))else(Option.bind (Option.bind (m116 y1.1) fun r=>some r) fun x31=>(Option.bind (Option.bind (m43 x31) fun r=>some r) fun x32=>(if(x32 != 0)=true then(some ((⟨([]:List UInt8),[],[],[],(0:Int),[]⟩:T27),([(⟨(1:Int),(1:Int),x32⟩:T100)]:List T100)))else(some (x31,[])))))))))))))):Option (T27×(List T100))):=by kernel_rfl
theorem M29 (a0:Int):m29 a0=((if((decide (a0 < 1)) || (decide (3 < a0)))=true then(some ((⟨([]:List UInt8),[],[],[],(0:Int),[]⟩:T27),(1:Int)))else(Option.bind (((m28 a0).bind fun r3_0=>((m67 r3_0).bind fun r3_1=>some (r3_0,r3_1)))) fun(x3:((List UInt8)×(T27×(List T100))))=>(some (x3.2.1,(0:Int))))):Option (T27×Int)):=by kernel_rfl
theorem Lines_eq (s:List UInt8) (hs:s.length≤1000000):m141 s=some (linesS s):=by
 simp only[M141,bs,ol]
 have key:=loop_inv (b:=fun(s1:List (List UInt8)×Int×Int)=>(if(decide (s1.2.2≤(s.length:Int)))=true then(if(!(s1.2.2==(s.length:Int)))=true→((0:Int)≤s1.2.2)then(if(!(s1.2.2==(s.length:Int)))=true→(s1.2.2 < (s.length:Int))then(if((s1.2.2==(s.length:Int)) || ((byteAt s s1.2.2.toNat)==(10:Int)))=true then(if((0:Int)≤s1.2.1)then(if(s1.2.1≤s1.2.2)then(if(s1.2.2≤(s.length:Int))then(if((s1.1.length+1) * 16≤140737488355328)then(some (.inl ((s1.1++([((s.take s1.2.2.toNat).drop s1.2.1.toNat)]:List (List UInt8))),(IntKind.wrap .i64 (s1.2.2+(1:Int))),(IntKind.wrap .i64 (s1.2.2+(1:Int))))):Option (((List (List UInt8))×Int×Int)⊕(((List (List UInt8)))⊕((List (List UInt8))))))else none)else none)else none)else none)else(some (.inl (s1.1,s1.2.1,(IntKind.wrap .i64 (s1.2.2+(1:Int))))):Option (((List (List UInt8))×Int×Int)⊕(((List (List UInt8)))⊕((List (List UInt8)))))))else none)else none)else(some (.inr (.inl s1.1)):Option (((List (List UInt8))×Int×Int)⊕(((List (List UInt8)))⊕((List (List UInt8))))))))
  (fun m st=>∃ (out:List (List UInt8)) (b i:Nat),st=(out,(b:Int),(i:Int))∧out.length≤i∧m=s.length+1 - i∧((b≤i∧i≤s.length∧out++headS ((s.take i).drop b) (linesS (s.drop i))=linesS s)∨(i=s.length+1∧out=linesS s))) (fun x=>x=.inl (linesS s)) ?_ (s.length+1) ([],(0:Int),(0:Int)) ⟨[],0,0,rfl,by simp,by omega,.inl ⟨by omega,by omega,by
   obtain⟨l,r,h⟩:=linesS_ne s
   simp[h,headS]⟩⟩
 ·obtain⟨x,h1,rfl⟩:=key
  exact on_l h1 rfl
 ·rintro m st ⟨out,b,i,rfl,ho,rfl,⟨hb,hi,he⟩ | ⟨rfl,he⟩⟩
  ·left
   have w1:IntKind.wrap .i64 ((i:Int)+1)=((i+1:Nat):Int):=w64 (by omega) (by omega)
   have d1:decide ((i:Int)≤(s.length:Int))=true:=by simp;omega
   have a1:((0:Int)≤(i:Int))=True:=eq_true (by omega)
   have a2:((0:Int)≤(b:Int))=True:=eq_true (by omega)
   have a3:((b:Int)≤(i:Int))=True:=eq_true (by omega)
   have a4:((i:Int)≤(s.length:Int))=True:=eq_true (by omega)
   have a5:((out.length+1) * 16≤140737488355328)=True:=eq_true (by omega)
   rcases Nat.lt_or_eq_of_le hi with hlt | heq
   ·have n1:((i:Int)==(s.length:Int))=false:=by simp;omega
    have a6:((i:Int) < (s.length:Int))=True:=eq_true (by omega)
    have hd:s.drop i=s[i] :: s.drop (i+1):=List.drop_eq_getElem_cons hlt
    have hb10:byteAt s i=(s[i].toNat:Int):=by simp only[byteAt,List.getElem?_eq_getElem hlt]
    rw[hd]at he
    cases hc:Nat.beq s[i].toNat 10 with
    | true =>
     have e10:(byteAt s i==(10:Int))=true:=by rw[hb10,Nat.eq_of_beq_eq_true hc];rfl
     refine⟨(out++[(s.take i).drop b],((i+1:Nat):Int),((i+1:Nat):Int)),?_,s.length+1 - (i+1),by omega,_,i+1,i+1,rfl,by simp;omega,rfl,.inl ⟨by omega,by omega,?_⟩⟩
     ·simp only[d1,decide_true,n1,a1,a2,a3,a4,a5,a6,Int.toNat_natCast,e10,Bool.or_true,implies_true,if_true,w1]
     ·rw[← he]
      rw[linesS_t hc]
      obtain⟨l,r,h⟩:=linesS_ne (s.drop (i+1))
      rw[h]
      simp[headS]
    | false =>
     have e10:(byteAt s i==(10:Int))=false:=by
      rw[hb10,beq_eq_false_iff_ne]
      intro h
      have:s[i].toNat=10:=by omega
      rw[this]at hc;cases hc
     refine⟨(out,(b:Int),((i+1:Nat):Int)),?_,s.length+1 - (i+1),by omega,_,b,i+1,rfl,by omega,rfl,.inl ⟨by omega,by omega,?_⟩⟩
     ·simp only[d1,decide_true,n1,a1,a2,a3,a4,a5,a6,Int.toNat_natCast,e10,Bool.or_false,implies_true,if_true,Bool.false_eq_true,if_false,w1]
     ·rw[← he]
      rw[linesS_f hc,headS_headS]
      have ht:(s.take (i+1)).drop b=(s.take i).drop b++[s[i]]:=by
       rw[List.take_add_one,List.getElem?_eq_getElem hlt,List.drop_append]
       simp only[List.length_take,Option.toList_some]
       rw[show b - min i s.length=0 by omega];rfl
      rw[ht]
   ·subst heq
    have n1:((s.length:Int)==(s.length:Int))=true:=by simp
    refine⟨(out++[(s.take s.length).drop b],((s.length+1:Nat):Int),((s.length+1:Nat):Int)),?_,0,by omega,_,s.length+1,s.length+1,rfl,by simp;omega,by omega,.inr ⟨rfl,?_⟩⟩
    ·simp only[d1,decide_true,n1,a1,a2,a3,a5,Int.le_refl,Int.toNat_natCast,Bool.true_or,Bool.not_true,Bool.false_eq_true,false_implies,if_true,w1]
    ·rw[← he,List.drop_length];simp[linesS,headS]
  ·right
   have d1:decide (((s.length+1:Nat):Int)≤(s.length:Int))=false:=by simp;omega
   exact⟨_,by simp only[d1,Bool.false_eq_true,if_false];rfl,by rw[he]⟩
def splitW:List UInt8→Int→Int→List UInt8→List T105
 | [],_,b,cur=>[⟨cur.reverse,b+1⟩]
 | c :: s,i,b,cur=>match Nat.beq c.toNat 32 with
  | true=>⟨cur.reverse,b+1⟩ :: splitW s (i+1) (i+1) []
  | false=>splitW s (i+1) b (c :: cur)
def linesX:Int→List (List UInt8)→List T103
 | _,[]=>[]
 | n,[] :: r=>linesX (n+1) r
 | n,(c :: s) :: r=>⟨n,splitW (c :: s) 0 0 []⟩ :: linesX (n+1) r
end Go.Av.Mo
set_option maxRecDepth 1000000
namespace Go.Av.Mo
def outB (a:Int):Bool:=decide (a < 1) || decide (3 < a)
theorem axis_cases (a:Int):outB a=true∨a=1∨a=2∨a=3:=by
 cases h:outB a with
 | true=>exact .inl rfl
 | false =>
  simp only[outB,Bool.or_eq_false_iff,decide_eq_false_iff_not]at h
  omega
def noChart:T27:=⟨[],[],[],[],0,[]⟩
theorem M20 (a0:Int):m20 a0=((if((decide (a0 < 1)) || (decide (3 < a0)))=true then(some ((⟨([]:List UInt8),[],[],[],(0:Int),[]⟩:T27),(1:Int)))else(Option.bind (((m27 a0).bind fun r3_0=>((m12 r3_0).bind fun r3_1=>some (r3_0,r3_1)))) fun(x3:((List UInt8)×(T27×(List T100))))=>(some (x3.2.1,(0:Int))))):Option (T27×Int)):=by kernel_rfl
theorem mChart_out {a:Int} (h:outB a=true):m20 a=some (noChart,1):=by
 unfold outB at h
 rw[M20,if_pos h];rfl
theorem rChart_out {a:Int} (h:outB a=true):m29 a=some (noChart,1):=by
 unfold outB at h
 rw[M29,if_pos h];rfl
end Go.Av.Mo
set_option maxRecDepth 1000000
namespace Go.Av.Mo
open Go.Av.Ch
def fitB (c:T27):Bool:=decide (c.Conds.length≤1000)&&decide (c.Never.length≤1000)&&c.Never.all (fun l=>decide (l.length≤1000))&&decide (c.States.length≤1000)&&c.States.all (fun s=>decide (s.Entry.length≤1000)&&decide (s.Exit.length≤1000)) &&
 decide (c.Transitions.length≤1000)&&c.Transitions.all (fun t=>decide (t.When.length≤1000)&&decide (t.Actions.length≤1000))
theorem fit_of {c:T27} (h:fitB c=true):Fit c:=by
 simp only[fitB,Bool.and_eq_true,decide_eq_true_eq,List.all_eq_true]at h
 obtain⟨⟨⟨⟨⟨⟨h1,h2⟩,h3⟩,h4⟩,h5⟩,h6⟩,h7⟩:=h
 exact⟨h1,h2,h3,h4,fun s hs=>(h5 s hs).1,fun s hs=>(h5 s hs).2,h6,fun t ht=>(h7 t ht).1,fun t ht=>(h7 t ht).2⟩
theorem fit1:Fit C1:=fit_of (by kernel_rfl)
theorem fit2:Fit C2:=fit_of (by kernel_rfl)
theorem fit3:Fit C3:=fit_of (by kernel_rfl)
end Go.Av.Mo
set_option maxRecDepth 100000
namespace Go.Av.Ch
abbrev stA (c:T27) (x:Int):T76:=c.States.getD x.toNat default
structure Good (c:T27):Prop where
 ne:0 < c.States.length
 cap:c.States.length≤40
 parent:∀ x,isS c x=true → -1≤(stA c x).Parent∧(stA c x).Parent < x
 init:∀ x,isS c x=true→comp c x=true→childS c (stA c x).Initial x=true
 leafI:∀ x,isS c x=true→comp c x=false→(stA c x).Initial = -1∧(stA c x).History=false
 start:isS c c.Start=true
 tr:∀ i,i < c.Transitions.length→isS c (c.Transitions.getD i default).From=true∧isS c (c.Transitions.getD i default).To=true
 entry:∀ x,isS c x=true→(stA c x).Entry.length≤8
 exit_:∀ x,isS c x=true→(stA c x).Exit.length≤8
 acts:∀ i,i < c.Transitions.length→(c.Transitions.getD i default).Actions.length≤8
theorem orK_ok {R:Type} {a b:Option R} {z:R} (h:orK a b=some z) (hn:a≠some z):a=none∧b=some z:=by
 cases a with
 | none=>exact⟨rfl,h⟩
 | some y=>exact absurd h hn
theorem ite_err {p:Prop} [Decidable p] {e z:Int} {k:Option Int} (h:(if p then some e else k)=some z) (he:e≠z):¬ p∧k=some z:=by
 split at h
 ·injection h with h;exact absurd h he
 ·rename_i hp;exact⟨hp,h⟩
theorem good_of {c:T27} (h:checkM c=some 0):Good c:=by
 unfold checkM at h
 obtain⟨-,h⟩:=ite_err h (by decide)
 obtain⟨h1,h⟩:=ite_err h (by decide)
 obtain⟨hcap,h⟩:=ite_err h (by decide)
 have n1:firstR (condF c) c.Conds.length≠some 0:=fun e=>by
  obtain⟨i,_,e⟩:=firstR_some e
  unfold condF at e
  split at e
  ·rename_i hh;injection e with e;rw[e]at hh;simp at hh
  ·cases e
 obtain⟨-,h⟩:=orK_ok h n1
 have n2:firstR (nevF c) c.Never.length≠some 0:=fun e=>by
  obtain⟨i,_,e⟩:=firstR_some e
  unfold nevF at e
  split at e
  ·cases e
  ·split at e
   ·rename_i hh;injection e with e;rw[e]at hh;simp at hh
   ·cases e
 obtain⟨-,h⟩:=orK_ok h n2
 have n3:firstR (stF c) c.States.length≠some 0:=fun e=>by
  obtain⟨i,_,e⟩:=firstR_some e
  unfold stF at e
  split at e
  ·rename_i hh;injection e with e;rw[e]at hh;simp at hh
  ·cases e
 obtain⟨hst,h⟩:=orK_ok h n3
 obtain⟨hs,h⟩:=ite_err h (by decide)
 have n4:firstR (trF c) c.Transitions.length≠some 0:=fun e=>by
  obtain⟨i,_,e⟩:=firstR_some e
  unfold trF at e
  split at e
  ·cases e
  ·split at e
   ·rename_i hh;injection e with e;rw[e]at hh;simp at hh
   ·split at e
    ·rename_i hh;injection e with e;rw[e]at hh;simp at hh
    ·cases e
 obtain⟨htr,-⟩:=orK_ok h n4
 have st:∀ i,i < c.States.length→stateT c i=0:=fun i hi=>by
  have:=firstR_none.1 hst i hi
  unfold stF at this
  split at this
  ·cases this
  ·rename_i hh
   have hh:stateS c i=0:=by simpa using hh
   unfold stateS at hh
   split at hh
   ·rename_i h2;rw[hh]at h2;simp at h2
   ·exact hh
 have key:∀ x,isS c x=true→x=(x.toNat:Int)∧x.toNat < c.States.length:=fun x hx=>by have:=isS_iff.1 hx;omega
 have rows:∀ x,isS c x=true→(-1≤(stA c x).Parent∧(stA c x).Parent < x)∧(comp c x=true→childS c (stA c x).Initial x=true)∧(comp c x=false→(stA c x).Initial = -1∧(stA c x).History=false)∧(stA c x).Entry.length≤8∧(stA c x).Exit.length≤8:=fun x hx=>by
  obtain⟨e,hlt⟩:=key x hx
  have h:=st _ hlt
  unfold stateT at h
  rw[← e]at h
  split at h
  ·cases h
  rename_i a1
  split at h
  ·cases h
  rename_i a2
  split at h
  ·cases h
  rename_i a3
  split at h
  ·rename_i a4;rw[h]at a4;simp at a4
  rename_i a4
  simp only[Bool.or_eq_true,decide_eq_true_eq,not_or,Int.not_lt,Int.not_le]at a1
  refine⟨⟨a1.1,a1.2⟩,fun hc=>?_,fun hc=>?_,actS_len (by simpa using a4),actS_len h⟩
  ·rw[hc]at a2
   simpa using a2
  ·rw[hc]at a2 a3
   exact⟨by simpa using a2,by simpa using a3⟩
 have trs:∀ i,i < c.Transitions.length→(isS c (c.Transitions.getD i default).From=true∧isS c (c.Transitions.getD i default).To=true)∧(c.Transitions.getD i default).Actions.length≤8:=fun i hi=>by
  have:=firstR_none.1 htr i hi
  unfold trF at this
  split at this
  ·cases this
  rename_i a1
  split at this
  ·cases this
  split at this
  ·cases this
  rename_i a3
  exact⟨by simpa using a1,actS_len (by simpa using a3)⟩
 refine⟨?_,by simp only[Bool.or_eq_true,decide_eq_true_eq,not_or,Int.not_lt]at hcap;omega,fun x hx=>(rows x hx).1,fun x hx=>(rows x hx).2.1,fun x hx=>(rows x hx).2.2.1,by simpa using hs,fun i hi=>(trs i hi).1,fun x hx=>(rows x hx).2.2.2.1,fun x hx=>(rows x hx).2.2.2.2,fun i hi=>(trs i hi).2⟩
 have:¬ ((c.States.length:Int)=0):=by simpa using h1
 omega
def memBad (c:T27) (i m:Int):Bool:=(m != (-1:Int))&&(!isS c m || !(stA c i).History || ((stA c m).Parent != i))
structure MemOk (c:T27) (m:List Int):Prop where
 len:m.length=c.States.length
 ok:∀ i:Nat,i < m.length→memBad c i (m.getD i default)=false
theorem MemOk.none {c:T27} {m:List Int} (h:MemOk c m) {x:Int} (hx:isS c x=true) (hh:(stA c x).History=false):m.getD x.toNat default = -1:=by
 have hi:=isS_iff.1 hx
 have:=h.ok x.toNat (by rw[h.len];omega)
 unfold memBad at this
 rw[Int.toNat_of_nonneg hi.1,hh]at this
 simpa using this
theorem MemOk.set {c:T27} {m:List Int} (h:MemOk c m) {x v:Int} (hv:v = -1∨((stA c x).History=true∧childS c v x=true)) (hx:isS c x=true):MemOk c (m.set x.toNat v):=by
 have hi:=isS_iff.1 hx
 refine⟨by rw[List.length_set];exact h.len,fun i hl=>?_⟩
 rw[List.length_set]at hl
 by_cases he:x.toNat=i
 ·subst he
  rw[List.getD_eq_getElem?_getD,List.getElem?_set_self hl,Option.getD_some,Int.toNat_of_nonneg hi.1]
  unfold memBad
  rcases hv with rfl | ⟨h1,h2⟩
  ·rfl
  ·unfold childS at h2
   simp only[Bool.and_eq_true,beq_iff_eq]at h2
   rw[h1,h2.1,h2.2];simp
 ·rw[List.getD_eq_getElem?_getD,List.getElem?_set_ne he,← List.getD_eq_getElem?_getD]
  exact h.ok i hl
end Go.Av.Ch
set_option maxRecDepth 100000
namespace Go.Av.Ch
structure Chk (c:T27):Prop where
 name:nm c.Name=true
 pos:0 < c.States.length
 conds:c.Conds.length≤12
 never:c.Never.length≤16
 states:c.States.length≤40
 trans:c.Transitions.length≤120
 cond:∀ i,i < c.Conds.length→condF c i=none
 nev:∀ i,i < c.Never.length→nevF c i=none
 st:∀ i,i < c.States.length→stF c i=none
 start:isS c c.Start=true
 tr:∀ i,i < c.Transitions.length→trF c i=none
theorem chk_of {c:T27} (h:checkM c=some 0):Chk c:=by
 unfold checkM at h
 obtain⟨hn,h⟩:=ite_err h (by decide)
 obtain⟨h1,h⟩:=ite_err h (by decide)
 obtain⟨hcap,h⟩:=ite_err h (by decide)
 have n1:firstR (condF c) c.Conds.length≠some 0:=fun e=>by
  obtain⟨i,_,e⟩:=firstR_some e
  unfold condF at e
  split at e
  ·rename_i hh;injection e with e;rw[e]at hh;simp at hh
  ·cases e
 obtain⟨hcd,h⟩:=orK_ok h n1
 have n2:firstR (nevF c) c.Never.length≠some 0:=fun e=>by
  obtain⟨i,_,e⟩:=firstR_some e
  unfold nevF at e
  split at e
  ·cases e
  ·split at e
   ·rename_i hh;injection e with e;rw[e]at hh;simp at hh
   ·cases e
 obtain⟨hnv,h⟩:=orK_ok h n2
 have n3:firstR (stF c) c.States.length≠some 0:=fun e=>by
  obtain⟨i,_,e⟩:=firstR_some e
  unfold stF at e
  split at e
  ·rename_i hh;injection e with e;rw[e]at hh;simp at hh
  ·cases e
 obtain⟨hst,h⟩:=orK_ok h n3
 obtain⟨hs,h⟩:=ite_err h (by decide)
 have n4:firstR (trF c) c.Transitions.length≠some 0:=fun e=>by
  obtain⟨i,_,e⟩:=firstR_some e
  unfold trF at e
  split at e
  ·cases e
  ·split at e
   ·rename_i hh;injection e with e;rw[e]at hh;simp at hh
   ·split at e
    ·rename_i hh;injection e with e;rw[e]at hh;simp at hh
    ·cases e
 obtain⟨htr,-⟩:=orK_ok h n4
 simp only[Bool.or_eq_true,decide_eq_true_eq,not_or,Int.not_lt]at hcap
 have h1:¬ ((c.States.length:Int)=0):=by simpa using h1
 exact⟨by simpa using hn,by omega,by omega,by omega,by omega,by omega,firstR_none.1 hcd,firstR_none.1 hnv,firstR_none.1 hst,by simpa using hs,firstR_none.1 htr⟩
def NmL (l:List (List UInt8)):Prop:=∀ a∈l,nm a=true
theorem NmL.nil:NmL []:=fun a h=>by cases h
theorem act_iff {l:List (List UInt8)}:actS l=0↔l.length≤8∧NmL l:=by
 unfold actS
 constructor
 ·intro h
  split at h
  ·cases h
  rename_i h1
  split at h
  ·cases h
  rename_i h2
  have h2:=Bool.eq_false_iff.2 h2
  refine⟨by simp only[decide_eq_true_eq]at h1;omega,fun a ha=>?_⟩
  obtain⟨i,hi,rfl⟩:=List.getElem_of_mem ha
  have:=anyR_false.1 h2 i hi
  simpa [List.getD_eq_getElem?_getD,List.getElem?_eq_getElem hi] using this
 ·rintro⟨h1,h2⟩
  rw[if_neg (by simp;omega),if_neg]
  rw[Bool.not_eq_true,anyR_false]
  intro i hi
  rw[h2 _ (getD_mem hi)];rfl
def InC (c:T27) (l:List T151):Prop:=∀ x∈l,0≤x.Cond∧x.Cond < (c.Conds.length:Int)
theorem lit_in {c:T27} {l:List T151} (h:litS c l=0):InC c l:=fun x hx=>by
 unfold litS at h
 obtain⟨i,hi,rfl⟩:=List.getElem_of_mem hx
 have h2:firstR (litF c l) l.length=none:=by
  cases hf:firstR (litF c l) l.length with
  | none=>rfl
  | some y =>
   exfalso
   rw[hf]at h
   obtain⟨j,_,hj⟩:=firstR_some hf
   have h:y=0:=h
   subst h
   unfold litF at hj
   split at hj
   ·injection hj with hj;cases hj
   ·split at hj
    ·injection hj with hj;cases hj
    ·cases hj
 have h3:=firstR_none.1 h2 i hi
 have e:l.getD i default=l[i]:=by simp[List.getD_eq_getElem?_getD,List.getElem?_eq_getElem hi]
 unfold litF at h3
 rw[e]at h3
 split at h3
 ·cases h3
 ·rename_i h4
  simp only[Bool.or_eq_true,decide_eq_true_eq,not_or]at h4
  omega
theorem Chk.condN {c:T27} (K:Chk c) {i:Nat} (hi:i < c.Conds.length):nm (c.Conds.getD i default)=true:=by
 have h:=K.cond i hi
 unfold condF at h
 split at h
 ·cases h
 ·rename_i h1
  have h1:listedS c.Conds i=0:=by simpa using h1
  unfold listedS at h1
  split at h1
  ·cases h1
  ·rename_i h2;simpa using h2
theorem Chk.nevL {c:T27} (K:Chk c) {i:Nat} (hi:i < c.Never.length):0 < (c.Never.getD i default).length∧litS c (c.Never.getD i default)=0:=by
 have h:=K.nev i hi
 unfold nevF at h
 split at h
 ·cases h
 rename_i h0
 split at h
 ·cases h
 ·rename_i h1
  have h0:¬ (((c.Never.getD i default).length:Int)=0):=by simpa using h0
  exact⟨by omega,by simpa using h1⟩
theorem Chk.state {c:T27} (K:Chk c) {i:Nat} (hi:i < c.States.length):listedS (namesS c) i=0∧stateT c i=0:=by
 have h:=K.st i hi
 unfold stF at h
 split at h
 ·cases h
 ·rename_i h1
  have h1:stateS c i=0:=by simpa using h1
  unfold stateS at h1
  split at h1
  ·rename_i h2;rw[h1]at h2;simp at h2
  ·rename_i h2
   exact⟨by simpa using h2,h1⟩
theorem Chk.stateN {c:T27} (K:Chk c) {i:Nat} (hi:i < c.States.length):nm (c.States.getD i default).Name=true:=by
 have h:=(K.state hi).1
 unfold listedS at h
 rw[namesS_getD c hi]at h
 split at h
 ·cases h
 ·rename_i h1;simpa using h1
theorem Chk.acts {c:T27} (K:Chk c) {i:Nat} (hi:i < c.States.length):((c.States.getD i default).Entry.length≤8∧NmL (c.States.getD i default).Entry)∧(c.States.getD i default).Exit.length≤8∧NmL (c.States.getD i default).Exit:=by
 have h:=(K.state hi).2
 unfold stateT at h
 split at h
 ·cases h
 split at h
 ·cases h
 split at h
 ·cases h
 split at h
 ·rename_i a4;rw[h]at a4;simp at a4
 rename_i a4
 exact⟨act_iff.1 (by simpa using a4),act_iff.1 h⟩
theorem Chk.transL {c:T27} (K:Chk c) {i:Nat} (hi:i < c.Transitions.length):(isS c (c.Transitions.getD i default).From=true∧isS c (c.Transitions.getD i default).To=true)∧litS c (c.Transitions.getD i default).When=0∧(c.Transitions.getD i default).Actions.length≤8∧NmL (c.Transitions.getD i default).Actions:=by
 have h:=K.tr i hi
 unfold trF at h
 split at h
 ·cases h
 rename_i h1
 split at h
 ·cases h
 rename_i h2
 split at h
 ·cases h
 rename_i h3
 exact⟨by simpa using h1,by simpa using h2,act_iff.1 (by simpa using h3)⟩
def orS (c:T27) (x:Int):Prop:=x < 0∨isS c x=true
theorem Chk.links {c:T27} (h:checkM c=some 0) {i:Nat} (hi:i < c.States.length):orS c (c.States.getD i default).Parent∧orS c (c.States.getD i default).Initial:=by
 have G:=good_of h
 have hx:isS c (i:Int)=true:=isS_iff.2 (by omega)
 have e:stA c (i:Int)=c.States.getD i default:=by unfold stA;rw[Int.toNat_natCast]
 have p:=G.parent _ hx
 rw[e]at p
 refine⟨?_,?_⟩
 ·by_cases h0:(c.States.getD i default).Parent < 0
  ·exact .inl h0
  ·exact .inr (isS_iff.2 (by omega))
 ·cases hc:comp c (i:Int) with
  | true =>
   have:=G.init _ hx hc
   rw[e]at this
   unfold childS at this
   simp only[Bool.and_eq_true]at this
   exact .inr this.1
  | false =>
   have h2:=((chk_of h).state hi).2
   unfold stateT at h2
   split at h2
   ·cases h2
   split at h2
   ·cases h2
   rename_i h3
   rw[hc]at h3
   simp only[Bool.false_and,Bool.not_false,Bool.true_and,Bool.false_or,bne_iff_ne,ne_eq,Decidable.not_not]at h3
   left;rw[h3];decide
theorem getD_flat {α β:Type} [Inhabited α] (f:α→List β):∀ (l:List α),(List.range l.length).flatMap (fun j=>f (l.getD j default))=l.flatMap f
 | []=>rfl
 | x :: l=>by
  rw[List.length_cons,List.range_succ_eq_map,List.flatMap_cons,List.flatMap_cons,List.flatMap_map]
  congr 1
  exact getD_flat f l
end Go.Av.Ch
set_option maxRecDepth 100000
namespace Go.Av.Ch
def recS (w:List UInt8) (l:List (List UInt8)):List UInt8:=w++(l.flatMap fun s=>32 :: s)++[10]
def optS (w:List UInt8) (l:List (List UInt8)):List UInt8:=if decide (0 < (l.length:Int))=true then recS w l else[]
def nameS (c:T27) (i:Int):List UInt8:=if decide (i < 0)=true then[45]else(c.States.getD i.toNat default).Name
def wordS (c:T27) (x:T151):List UInt8:=if x.Neg=true then([33]:List UInt8)++c.Conds.getD x.Cond.toNat default else c.Conds.getD x.Cond.toNat default
def wordsS (c:T27) (l:List T151):List (List UInt8):=l.flatMap fun x=>[wordS c x]
def stTx (c:T27) (s:T76):List UInt8:=recS [83,84,65,84,69] (if s.History=true then([s.Name,nameS c s.Parent,nameS c s.Initial]:List (List UInt8))++[[72,73,83,84,79,82,89]]else[s.Name,nameS c s.Parent,nameS c s.Initial])++optS [69,78,84,82,89] s.Entry++optS [69,88,73,84] s.Exit
def trTx (c:T27) (t:T78):List UInt8:=recS [84,82,65,78,83,73,84,73,79,78] [nameS c t.From,nameS c t.To]++optS [87,72,69,78] (wordsS c t.When)++optS [68,79] t.Actions
def hdTx (c:T27):List UInt8:=recS [67,72,65,82,84] [c.Name,nameS c c.Start]
def cdTx (s:List UInt8):List UInt8:=recS [67,79,78,68,73,84,73,79,78] [s]
def nvTx (c:T27) (l:List T151):List UInt8:=recS [78,69,86,69,82] (wordsS c l)
def textS (c:T27):List UInt8:=hdTx c++c.Conds.flatMap cdTx++c.Never.flatMap (nvTx c)++c.States.flatMap (stTx c)++c.Transitions.flatMap (trTx c)
def textM (c:T27):Option (List UInt8×Int):=(checkM c).bind fun e=>if(e != 0)=true then some ([],e)else some (textS c,0)
def Sh (l:List (List UInt8)):Prop:=∀ s∈l,s.length≤16
theorem recS_len {w:List UInt8} {l:List (List UInt8)} (h:Sh l):(recS w l).length≤w.length+17 * l.length+1:=by
 have:(l.flatMap fun s=>32 :: s).length≤17 * l.length:=by
  clear w
  induction l with
  | nil=>simp
  | cons s l ih =>
   have h1:=h s (by simp)
   have h2:=ih fun t ht=>h t (by simp[ht])
   rw[List.flatMap_cons,List.length_append,List.length_cons,List.length_cons]
   omega
 unfold recS
 simp only[List.length_append,List.length_cons,List.length_nil]
 omega
theorem optS_len {w:List UInt8} {l:List (List UInt8)} (h:Sh l):(optS w l).length≤w.length+17 * l.length+1:=by
 unfold optS
 split
 ·exact recS_len h
 ·simp
theorem nm_sh {l:List (List UInt8)} (h:NmL l):Sh l:=fun s hs=>by have:=nm_len (h s hs);omega
theorem nameS_len {c:T27} (K:Chk c) {i:Int} (h:orS c i):(nameS c i).length≤16:=by
 unfold nameS
 split
 ·simp
 ·rename_i h1
  simp only[decide_eq_true_eq]at h1
  rcases h with h | h
  ·omega
  ·have:=isS_iff.1 h
   have:=nm_len (K.stateN (i:=i.toNat) (by omega))
   omega
theorem wordS_len {c:T27} (K:Chk c) {x:T151} (h:0≤x.Cond∧x.Cond < (c.Conds.length:Int)):(c.Conds.getD x.Cond.toNat default).length≤8∧(wordS c x).length≤16:=by
 have h1:=nm_len (K.condN (i:=x.Cond.toNat) (by omega))
 refine⟨h1.2,?_⟩
 unfold wordS
 split
 ·simp only[List.length_append,List.length_cons,List.length_nil];omega
 ·omega
theorem wordsS_sh {c:T27} (K:Chk c) {l:List T151} (h:InC c l):Sh (wordsS c l)∧(wordsS c l).length=l.length:=by
 unfold wordsS
 rw[← List.map_eq_flatMap]
 refine⟨fun s hs=>?_,by simp⟩
 obtain⟨x,hx,rfl⟩:=List.mem_map.1 hs
 exact(wordS_len K (h x hx)).2
theorem bI_app (a b:List UInt8):bytesI (a++b)=bytesI a++bytesI b:=by simp[bytesI]
theorem bI_len (a:List UInt8):(bytesI a).length=a.length:=by simp[bytesI]
theorem bI_nl:bytesI [10]=([10]:List Int):=rfl
theorem M37o0 (a0:List UInt8):m37o0 a0=((Option.bind (Option.bind (mcc0) fun r=>some r) fun x1=>(Option.bind ((if a0.length≤140737488355328 then some ()else none)) fun(x2:(Unit))=>(some ()))):Option (Unit)):=by kernel_rfl
theorem M37o1 (a0:List UInt8) (a1:List Int):m37o1 a0 a1=((Option.bind (Option.bind (mcc1 a1) fun r=>some r) fun x1=>(Option.bind ((if a1.length+a0.length≤140737488355328 then some ()else none)) fun(x2:(Unit))=>(some ()))):Option (Unit)):=by kernel_rfl
theorem M38o0 (a0:Int) (a1:List Int):m38o0 a0 a1=((Option.bind (Option.bind (mcc1 a1) fun r=>some r) fun x1=>(Option.bind ((if(a1.length+1) * 1≤140737488355328 then some ()else none)) fun(x2:(Unit))=>(some ()))):Option (Unit)):=by kernel_rfl
theorem ws0 {a:List UInt8} (h:a.length≤1000000000):m37o0 a=some ():=by
 have c:(a.length≤140737488355328)=True:=eq_true (by omega)
 simp only[M37o0,mcc0,bind_id,bs,c,if_true]
theorem ws1 {a:List UInt8} {b:List Int} (h:b.length+a.length≤1000000000):m37o1 a b=some ():=by
 have c:(b.length+a.length≤140737488355328)=True:=eq_true (by omega)
 simp only[M37o1,mcc1,bind_id,bs,c,if_true]
theorem wb0 {a:Int} {b:List Int} (h:b.length≤1000000000):m38o0 a b=some ():=by
 have c:((b.length+1) * 1≤140737488355328)=True:=eq_true (by omega)
 simp only[M38o0,mcc1,bind_id,bs,c,if_true]
theorem loop_txt {X:Type} {b:Int×List Int→Option ((Int×List Int)⊕X)} (n:Nat) (p:List UInt8) (g:Nat→List UInt8) (out:List Int→X)
  (hs:∀ i,i < n→b ((i:Int),bytesI (p++(List.range i).flatMap g))=some (.inl (((i+1:Nat):Int),bytesI (p++(List.range i).flatMap g++g i)))) (he:∀ x,b ((n:Int),x)=some (.inr (out x))) :
  loopO b ((0:Int),bytesI p)=some (out (bytesI (p++(List.range n).flatMap g))):=by
 have key:∀ k i,i+k=n→loopO b ((i:Int),bytesI (p++(List.range i).flatMap g))=some (out (bytesI (p++(List.range n).flatMap g))):=by
  intro k
  induction k with
  | zero =>
   intro i hk
   obtain rfl:i=n:=by omega
   rw[loopO_eq,he];rfl
  | succ k ih =>
   intro i hk
   rw[loopO_eq,hs i (by omega),List.append_assoc,← flatMap_app]
   exact ih (i+1) (by omega)
 have:=key n 0 (by omega)
 simpa using this
theorem pre_len (p:List UInt8) {g:Nat→List UInt8} {n m:Nat} (hg:∀ i,i < n→(g i).length≤m):∀ i,i≤n→(p++(List.range i).flatMap g).length≤p.length+i * m
 | 0,_=>by simp
 | i+1,hi=>by
  have h1:=pre_len p hg i (by omega)
  have h2:=hg i (by omega)
  rw[flatMap_app,← List.append_assoc,List.length_append,Nat.succ_mul]
  omega
theorem M36o0 (a0:List UInt8) (a1:List (List UInt8)):m36o0 a0 a1=((Option.bind (Option.bind (Option.bind (m37o0 a0) fun r=>some r) fun x0=>(some (.inl ()))) (onS fun(_:Unit)=>(Option.bind (Option.bind (some (.inl ())) (onS fun(_:Unit)=>(loopO (fun(s1:Int×(List Int))=>((if(decide (s1.1 < (a1.length:Int)))=true then(if(0≤s1.1)then(if(s1.1 < (a1.length:Int))then(Option.bind ((if([32]:List UInt8).length+(a1.getD s1.1.toNat default).length≤9223372036854775807 then((m37o1 (([32]:List UInt8)++(a1.getD s1.1.toNat default)) s1.2).bind fun r4_0=>some r4_0)else none)) fun(x4:(Unit))=>(some (.inl ((IntKind.wrap .i64 (s1.1+1)),(s1.2++bytesI (([32]:List UInt8)++(a1.getD s1.1.toNat default)))))))else none)else none)else(some (.inr (.inl s1.2)))):Option ((Int×(List Int))⊕(((List Int))⊕((List Int)))))) ((0:Int),(bytesI a0))))) (onS fun(y2:(List Int))=>(Option.bind (Option.bind (m38o0 (10:Int) y2) fun r=>some r) fun x6=>(some (y2++([(10:Int)]:List Int)))))))):Option ((List Int))):=by kernel_rfl
theorem M36o1 (a0:List UInt8) (a1:List (List UInt8)) (a2:List Int):m36o1 a0 a1 a2=((Option.bind (Option.bind (Option.bind (m37o1 a0 a2) fun r=>some r) fun x0=>(some (.inl ()))) (onS fun(_:Unit)=>(Option.bind (Option.bind (some (.inl ())) (onS fun(_:Unit)=>(loopO (fun(s1:Int×(List Int))=>((if(decide (s1.1 < (a1.length:Int)))=true then(if(0≤s1.1)then(if(s1.1 < (a1.length:Int))then(Option.bind ((if([32]:List UInt8).length+(a1.getD s1.1.toNat default).length≤9223372036854775807 then((m37o1 (([32]:List UInt8)++(a1.getD s1.1.toNat default)) s1.2).bind fun r4_0=>some r4_0)else none)) fun(x4:(Unit))=>(some (.inl ((IntKind.wrap .i64 (s1.1+1)),(s1.2++bytesI (([32]:List UInt8)++(a1.getD s1.1.toNat default)))))))else none)else none)else(some (.inr (.inl s1.2)))):Option ((Int×(List Int))⊕(((List Int))⊕((List Int)))))) ((0:Int),(a2++bytesI a0))))) (onS fun(y2:(List Int))=>(Option.bind (Option.bind (m38o0 (10:Int) y2) fun r=>some r) fun x6=>(some (y2++([(10:Int)]:List Int)))))))):Option ((List Int))):=by kernel_rfl
theorem M36o2 (a0:List UInt8) (a1:List (List UInt8)) (a2:List Int):m36o2 a0 a1 a2=((Option.bind (Option.bind (Option.bind (m37o1 a0 a2) fun r=>some r) fun x0=>(some (.inl ()))) (onS fun(_:Unit)=>(Option.bind (Option.bind (some (.inl ())) (onS fun(_:Unit)=>(loopO (fun(s1:Int×(List Int))=>((if(decide (s1.1 < (a1.length:Int)))=true then(if(0≤s1.1)then(if(s1.1 < (a1.length:Int))then(Option.bind ((if([32]:List UInt8).length+(a1.getD s1.1.toNat default).length≤9223372036854775807 then((m37o1 (([32]:List UInt8)++(a1.getD s1.1.toNat default)) s1.2).bind fun r4_0=>some r4_0)else none)) fun(x4:(Unit))=>(some (.inl ((IntKind.wrap .i64 (s1.1+1)),(s1.2++bytesI (([32]:List UInt8)++(a1.getD s1.1.toNat default)))))))else none)else none)else(some (.inr (.inl s1.2)))):Option ((Int×(List Int))⊕(((List Int))⊕((List Int)))))) ((0:Int),(a2++bytesI a0))))) (onS fun(y2:(List Int))=>(Option.bind (Option.bind (m38o0 (10:Int) y2) fun r=>some r) fun x6=>(some (y2++([(10:Int)]:List Int)))))))):Option ((List Int))):=by kernel_rfl
theorem M39o0 (a0:List UInt8) (a1:List (List UInt8)) (a2:List Int):m39o0 a0 a1 a2=((if(decide (0 < (a1.length:Int)))=true then(Option.bind (Option.bind (m36o2 a0 a1 a2) fun r=>some r) fun x1=>(some x1))else(some a2)):Option ((List Int))):=by kernel_rfl
theorem sp_len {l:List (List UInt8)} (h:Sh l) {i:Nat} (hi:i < l.length):(([32]:List UInt8)++l.getD i default).length≤17:=by
 have:=h _ (getD_mem hi)
 simp only[List.length_append,List.length_cons,List.length_nil];omega
theorem rec_flat (w:List UInt8) (l:List (List UInt8)):w++(List.range l.length).flatMap (fun i=>([32]:List UInt8)++l.getD i default)++[10]=recS w l:=by
 rw[getD_flat (fun s=>([32]:List UInt8)++s) l];rfl
theorem wr0_eq {w:List UInt8} {l:List (List UInt8)} (h:Sh l) (hw:w.length≤100) (hl:l.length≤1000):m36o0 w l=some (bytesI (recS w l)):=by
 have q0:=ws0 (a:=w) (by omega)
 have q1:=fun(a:List UInt8) (b:List Int) h=>ws1 (a:=a) (b:=b) h
 have q2:=fun(b:List Int) h=>wb0 (a:=10) (b:=b) h
 simp only[M36o0,bind_id,q0,bs,ol]
 generalize m37o1=F1 at q1 ⊢
 generalize m38o0=F2 at q2 ⊢
 refine on_l (loop_txt l.length w (fun i=>([32]:List UInt8)++l.getD i default) Sum.inl (fun i hi=>?_) (fun x=>by simp only[lt_irr,decide_false,Bool.false_eq_true,if_false])) ?_
 ·have hs:=sp_len h hi
  have hp:=pre_len w (g:=fun i=>([32]:List UInt8)++l.getD i default) (n:=l.length) (m:=17) (fun i hi=>sp_len h hi) i (by omega)
  have c1:(([32]:List UInt8).length+(l.getD i default).length≤9223372036854775807)=True:=eq_true (by rw[List.length_append]at hs;omega)
  have c2:=q1 (([32]:List UInt8)++l.getD i default) (bytesI (w++(List.range i).flatMap fun i=>([32]:List UInt8)++l.getD i default)) (by rw[bI_len];omega)
  have w1:IntKind.wrap .i64 ((i:Int)+1)=((i+1:Nat):Int):=by rw[w64 (by omega) (by omega)];omega
  simp only[inL hi,decide_true,Int.toNat_natCast,if_true,c1,c2,w1,bs]
  rw[bI_app _ (([32]:List UInt8)++l.getD i default)]
 ·have hp:=pre_len w (g:=fun i=>([32]:List UInt8)++l.getD i default) (n:=l.length) (m:=17) (fun i hi=>sp_len h hi) l.length (by omega)
  have c2:=q2 (bytesI (w++(List.range l.length).flatMap fun i=>([32]:List UInt8)++l.getD i default)) (by rw[bI_len];omega)
  simp only[c2,bs]
  rw[← rec_flat w l,bI_app _ [10]];rfl
theorem wr_tail {p w:List UInt8} {l:List (List UInt8)} (h:Sh l) (hl:l.length≤1000) (hp0:p.length≤100000000) (hw:w.length≤100) {b:Int×List Int→Option ((Int×List Int)⊕(List Int⊕List Int))} {k:List Int→Option (List Int)}
  (hb:∀ i,i < l.length→(bytesI ((p++w)++(List.range i).flatMap fun i=>([32]:List UInt8)++l.getD i default)).length≤200000000→b ((i:Int),bytesI ((p++w)++(List.range i).flatMap fun i=>([32]:List UInt8)++l.getD i default))=some (.inl (((i+1:Nat):Int),bytesI ((p++w)++((List.range i).flatMap fun i=>([32]:List UInt8)++l.getD i default)++(([32]:List UInt8)++l.getD i default)))))
  (he:∀ x,b ((l.length:Int),x)=some (.inr (.inl x))) (hk:∀ x:List Int,x.length≤200000000→k x=some (x++[10])):(loopO b ((0:Int),bytesI p++bytesI w)).bind (onS k)=some (bytesI (p++recS w l)):=by
 have hp:=fun i hi=>pre_len (p++w) (g:=fun i=>([32]:List UInt8)++l.getD i default) (n:=l.length) (m:=17) (fun i hi=>sp_len h hi) i hi
 rw[← bI_app]
 refine on_l (loop_txt l.length (p++w) (fun i=>([32]:List UInt8)++l.getD i default) Sum.inl (fun i hi=>hb i hi ?_) he) ?_
 ·have:=hp i (by omega)
  rw[List.length_append]at this
  simp only[List.length_append]at this
  rw[bI_len,List.length_append,List.length_append]
  omega
 ·rw[hk _ (by
   have:=hp l.length (Nat.le_refl _)
   simp only[List.length_append]at this
   rw[bI_len,List.length_append,List.length_append]
   omega),← rec_flat w l,← bI_nl,← bI_app]
  simp only[List.append_assoc]
theorem wr1_eq {p w:List UInt8} {l:List (List UInt8)} (h:Sh l) (hl:l.length≤1000) (hp0:p.length≤100000000) (hw:w.length≤100):m36o1 w l (bytesI p)=some (bytesI (p++recS w l)):=by
 have q0:=ws1 (a:=w) (b:=bytesI p) (by rw[bI_len];omega)
 have q1:=fun(a:List UInt8) (b:List Int) h=>ws1 (a:=a) (b:=b) h
 have q2:=fun(b:List Int) h=>wb0 (a:=10) (b:=b) h
 simp only[M36o1,bind_id,q0,bs,ol]
 generalize m37o1=F1 at q1 ⊢
 generalize m38o0=F2 at q2 ⊢
 refine wr_tail h hl hp0 hw (fun i hi hb=>?_) (fun x=>by simp only[lt_irr,decide_false,Bool.false_eq_true,if_false]) (fun x hx=>by simp only[q2 x (by omega),bs])
 have hs:=sp_len h hi
 have c1:(([32]:List UInt8).length+(l.getD i default).length≤9223372036854775807)=True:=eq_true (by rw[List.length_append]at hs;omega)
 have c2:=q1 (([32]:List UInt8)++l.getD i default) _ (show (bytesI ((p++w)++(List.range i).flatMap fun i=>([32]:List UInt8)++l.getD i default)).length+_≤1000000000 by omega)
 have w1:IntKind.wrap .i64 ((i:Int)+1)=((i+1:Nat):Int):=by rw[w64 (by omega) (by omega)];omega
 simp only[inL hi,decide_true,Int.toNat_natCast,if_true,c1,c2,w1,bs]
 rw[bI_app _ (([32]:List UInt8)++l.getD i default)]
theorem wr2_eq {p w:List UInt8} {l:List (List UInt8)} (h:Sh l) (hl:l.length≤1000) (hp0:p.length≤100000000) (hw:w.length≤100):m36o2 w l (bytesI p)=some (bytesI (p++recS w l)):=by
 have q0:=ws1 (a:=w) (b:=bytesI p) (by rw[bI_len];omega)
 have q1:=fun(a:List UInt8) (b:List Int) h=>ws1 (a:=a) (b:=b) h
 have q2:=fun(b:List Int) h=>wb0 (a:=10) (b:=b) h
 simp only[M36o2,bind_id,q0,bs,ol]
 generalize m37o1=F1 at q1 ⊢
 generalize m38o0=F2 at q2 ⊢
 refine wr_tail h hl hp0 hw (fun i hi hb=>?_) (fun x=>by simp only[lt_irr,decide_false,Bool.false_eq_true,if_false]) (fun x hx=>by simp only[q2 x (by omega),bs])
 have hs:=sp_len h hi
 have c1:(([32]:List UInt8).length+(l.getD i default).length≤9223372036854775807)=True:=eq_true (by rw[List.length_append]at hs;omega)
 have c2:=q1 (([32]:List UInt8)++l.getD i default) _ (show (bytesI ((p++w)++(List.range i).flatMap fun i=>([32]:List UInt8)++l.getD i default)).length+_≤1000000000 by omega)
 have w1:IntKind.wrap .i64 ((i:Int)+1)=((i+1:Nat):Int):=by rw[w64 (by omega) (by omega)];omega
 simp only[inL hi,decide_true,Int.toNat_natCast,if_true,c1,c2,w1,bs]
 rw[bI_app _ (([32]:List UInt8)++l.getD i default)]
theorem so_eq {p w:List UInt8} {l:List (List UInt8)} (h:Sh l) (hl:l.length≤1000) (hp0:p.length≤100000000) (hw:w.length≤100):m39o0 w l (bytesI p)=some (bytesI (p++optS w l)):=by
 have q:=wr2_eq (p:=p) h hl hp0 hw
 simp only[M39o0,bind_id,q,bs]
 unfold optS
 split
 ·rfl
 ·rw[List.append_nil]
theorem M40 (a0:T27) (a1:Int):m40 a0 a1=((if(decide (a1 < 0))=true then(some ([45]:List UInt8))else(if(0≤a1)then(if(a1 < (a0.States.length:Int))then(some (a0.States.getD a1.toNat default).Name)else none)else none)):Option ((List UInt8))):=by kernel_rfl
theorem nameOf_eq {c:T27} {i:Int} (h:orS c i):m40 c i=some (nameS c i):=by
 simp only[M40]
 unfold nameS
 by_cases h1:decide (i < 0)=true
 ·rw[if_pos h1,if_pos h1]
 ·rw[if_neg h1,if_neg h1]
  simp only[decide_eq_true_eq]at h1
  rcases h with h | h
  ·omega
  ·have:=isS_iff.1 h
   rw[if_pos (by omega),if_pos (by omega)]
theorem M41 (a0:T27) (a1:List T151):m41 a0 a1=((Option.bind (some (.inl ())) (onS fun(_:Unit)=>(Option.bind (Option.bind (some (.inl ())) (onS fun(_:Unit)=>(loopO (fun(s1:(List (List UInt8))×Int)=>((if(decide (s1.2 < (a1.length:Int)))=true then(if(0≤s1.2)then(if(s1.2 < (a1.length:Int))then(if(0≤(a1.getD s1.2.toNat default).Cond)then(if((a1.getD s1.2.toNat default).Cond < (a0.Conds.length:Int))then(if(a1.getD s1.2.toNat default).Neg=true then(if(([33]:List UInt8).length+(a0.Conds.getD (a1.getD s1.2.toNat default).Cond.toNat default).length≤9223372036854775807)then(if((s1.1.length+1) * 16≤140737488355328)then(some (.inl ((s1.1++([(([33]:List UInt8)++(a0.Conds.getD (a1.getD s1.2.toNat default).Cond.toNat default))]:List (List UInt8))),(IntKind.wrap .i64 (s1.2+1)))))else none)else none)else(if((s1.1.length+1) * 16≤140737488355328)then(some (.inl ((s1.1++([(a0.Conds.getD (a1.getD s1.2.toNat default).Cond.toNat default)]:List (List UInt8))),(IntKind.wrap .i64 (s1.2+1)))))else none))else none)else none)else none)else none)else(some (.inr (.inl s1.1)))):Option (((List (List UInt8))×Int)⊕(((List (List UInt8)))⊕((List (List UInt8))))))) ([],(0:Int))))) (onS fun(y2:(List (List UInt8)))=>(some y2))))):Option ((List (List UInt8)))):=by kernel_rfl
theorem words_eq {c:T27} (K:Chk c) {l:List T151} (h:InC c l) (hl:l.length≤1000):m41 c l=some (wordsS c l):=by
 simp only[M41,bind_id,bs,ol]
 have e:wordsS c l=(List.range l.length).flatMap fun i=>[wordS c (l.getD i default)]:=(getD_flat (fun x=>[wordS c x]) l).symm
 rw[e]
 refine on_l (loop_coll l.length (fun i k=>((k,(i:Int)):List (List UInt8)×Int)) (fun i=>[wordS c (l.getD i default)]) Sum.inl (fun i hi=>?_) (by simp only[lt_irr,decide_false,Bool.false_eq_true,if_false])) rfl
 have hx:=h _ (getD_mem hi)
 have hn:=(wordS_len K hx).1
 have hgl:=flatMap_len (g:=fun i=>[wordS c (l.getD i default)]) (m:=1) (fun j=>by simp) i
 have c1:(0≤(l.getD i default).Cond)=True:=eq_true hx.1
 have c2:((l.getD i default).Cond < (c.Conds.length:Int))=True:=eq_true hx.2
 have c3:(([33]:List UInt8).length+(c.Conds.getD (l.getD i default).Cond.toNat default).length≤9223372036854775807)=True:=eq_true (by show 1+_≤_;omega)
 have c4:((((List.range i).flatMap fun i=>[wordS c (l.getD i default)]).length+1) * 16≤140737488355328)=True:=eq_true (by omega)
 have w1:IntKind.wrap .i64 ((i:Int)+1)=((i+1:Nat):Int):=by rw[w64 (by omega) (by omega)];omega
 simp only[inL hi,decide_true,Int.toNat_natCast,if_true,c1,c2,c3,c4,w1]
 have e2:wordS c (l.getD i default)=if(l.getD i default).Neg=true then([33]:List UInt8)++c.Conds.getD (l.getD i default).Cond.toNat default else c.Conds.getD (l.getD i default).Cond.toNat default:=rfl
 cases hn:(l.getD i default).Neg with
 | true=>rw[hn,if_pos rfl]at e2;simp only[if_true,e2]
 | false=>rw[hn,if_neg (by decide)]at e2;simp only[Bool.false_eq_true,if_false,e2]
end Go.Av.Ch
set_option maxRecDepth 100000
namespace Go.Av.Ch
theorem sh1 {a:List UInt8} (h:a.length≤16):Sh [a]:=fun s hs=>by simp only[List.mem_singleton]at hs;subst hs;exact h
theorem sh2 {a b:List UInt8} (h:a.length≤16) (h2:b.length≤16):Sh [a,b]:=fun s hs=>by
 simp only[List.mem_cons,List.not_mem_nil,or_false]at hs
 rcases hs with rfl | rfl<;>assumption
theorem sh_app {l k:List (List UInt8)} (h:Sh l) (h2:Sh k):Sh (l++k):=fun s hs=>(List.mem_append.1 hs).elim (h s) (h2 s)
theorem flat_len (p:List UInt8) {α:Type} [Inhabited α] {f:α→List UInt8} {l:List α} {m:Nat} (h:∀ i,i < l.length→(f (l.getD i default)).length≤m):(p++l.flatMap f).length≤p.length+l.length * m:=by
 have:=pre_len p (g:=fun i=>f (l.getD i default)) (n:=l.length) h l.length (Nat.le_refl _)
 rw[getD_flat f l]at this
 exact this
def stL (c:T27) (s:T76):List (List UInt8):=if s.History=true then([s.Name,nameS c s.Parent,nameS c s.Initial]:List (List UInt8))++[[72,73,83,84,79,82,89]]else[s.Name,nameS c s.Parent,nameS c s.Initial]
theorem stL_sh {c:T27} (h:checkM c=some 0) {i:Nat} (hi:i < c.States.length):Sh (stL c (c.States.getD i default))∧(stL c (c.States.getD i default)).length≤4:=by
 have K:=chk_of h
 have L:=Chk.links h hi
 have n1:=nm_len (K.stateN hi)
 have n2:=nameS_len K L.1
 have n3:=nameS_len K L.2
 have s3:Sh [(c.States.getD i default).Name,nameS c (c.States.getD i default).Parent,nameS c (c.States.getD i default).Initial]:=fun s hs=>by
  simp only[List.mem_cons,List.not_mem_nil,or_false]at hs
  rcases hs with rfl | rfl | rfl
  ·omega
  ·exact n2
  ·exact n3
 unfold stL
 split
 ·exact⟨sh_app s3 (sh1 (by decide)),by simp⟩
 ·exact⟨s3,by simp⟩
theorem stTx_len {c:T27} (h:checkM c=some 0) {i:Nat} (hi:i < c.States.length):(stTx c (c.States.getD i default)).length≤1000:=by
 have K:=chk_of h
 have A:=K.acts hi
 have s:=stL_sh h hi
 have l1:=recS_len (w:=[83,84,65,84,69]) s.1
 have l2:=optS_len (w:=[69,78,84,82,89]) (nm_sh A.1.2)
 have l3:=optS_len (w:=[69,88,73,84]) (nm_sh A.2.2)
 have s2:=s.2
 have a1:=A.1.1
 have a2:=A.2.1
 show (recS [83,84,65,84,69] (stL c (c.States.getD i default))++optS [69,78,84,82,89] (c.States.getD i default).Entry++optS [69,88,73,84] (c.States.getD i default).Exit).length≤1000
 simp only[List.length_append,List.length_cons,List.length_nil]at *
 omega
theorem trTx_len {c:T27} (H:Fit c) (h:checkM c=some 0) {i:Nat} (hi:i < c.Transitions.length):(trTx c (c.Transitions.getD i default)).length≤20000:=by
 have K:=chk_of h
 obtain⟨⟨t1,t2⟩,t3,t4,t5⟩:=K.transL hi
 have w:=wordsS_sh K (lit_in t3)
 have hw:=H.when_ _ (getD_mem hi)
 have l1:=recS_len (w:=[84,82,65,78,83,73,84,73,79,78]) (sh2 (nameS_len K (.inr t1)) (nameS_len K (.inr t2)))
 have l2:=optS_len (w:=[87,72,69,78]) w.1
 have l3:=optS_len (w:=[68,79]) (nm_sh t5)
 have w2:=w.2
 unfold trTx
 simp only[List.length_append,List.length_cons,List.length_nil]at *
 omega
theorem M10 (a0:T27):m10 a0=((Option.bind (Option.bind (Option.bind (m35 a0) fun r=>some r) fun x1=>(if(x1 != 0)=true then(some (.inr ((([]:List UInt8),x1))))else(Option.bind (((m40 a0 a0.Start).bind fun r7_0=>((m36o0 ([67,72,65,82,84]:List UInt8) ([a0.Name,r7_0]:List (List UInt8))).bind fun r7_1=>some (r7_0,r7_1)))) fun(x7:((List UInt8)×(List Int)))=>(some (.inl x7.2))))) (onS fun(y1:(List Int))=>(Option.bind (Option.bind (some (.inl ())) (onS fun(_:Unit)=>(loopO (fun(s2:Int×(List Int))=>((if(decide (s2.1 < (a0.Conds.length:Int)))=true then(if(0≤s2.1)then(if(s2.1 < (a0.Conds.length:Int))then(Option.bind (Option.bind (m36o1 ([67,79,78,68,73,84,73,79,78]:List UInt8) ([(a0.Conds.getD s2.1.toNat default)]:List (List UInt8)) s2.2) fun r=>some r) fun x11=>(some (.inl ((IntKind.wrap .i64 (s2.1+1)),x11))))else none)else none)else(some (.inr (.inl s2.2)))):Option ((Int×(List Int))⊕(((List Int))⊕((List UInt8)×Int))))) ((0:Int),y1)))) (onS fun(y3:(List Int))=>(Option.bind (Option.bind (some (.inl ())) (onS fun(_:Unit)=>(loopO (fun(s4:Int×(List Int))=>((if(decide (s4.1 < (a0.Never.length:Int)))=true then(if(0≤s4.1)then(if(s4.1 < (a0.Never.length:Int))then(Option.bind (((m41 a0 (a0.Never.getD s4.1.toNat default)).bind fun r16_0=>((m36o2 ([78,69,86,69,82]:List UInt8) r16_0 s4.2).bind fun r16_1=>some (r16_0,r16_1)))) fun(x16:((List (List UInt8))×(List Int)))=>(some (.inl ((IntKind.wrap .i64 (s4.1+1)),x16.2))))else none)else none)else(some (.inr (.inl s4.2)))):Option ((Int×(List Int))⊕(((List Int))⊕((List UInt8)×Int))))) ((0:Int),y3)))) (onS fun(y5:(List Int))=>(Option.bind (Option.bind (some (.inl ())) (onS fun(_:Unit)=>(loopO (fun(s6:Int×(List Int))=>((if(decide (s6.1 < (a0.States.length:Int)))=true then(if(0≤s6.1)then(if(s6.1 < (a0.States.length:Int))then(Option.bind (((m40 a0 (a0.States.getD s6.1.toNat default).Parent).bind fun r21_0=>((m40 a0 (a0.States.getD s6.1.toNat default).Initial).bind fun r21_1=>some (r21_0,r21_1)))) fun(x21:((List UInt8)×(List UInt8)))=>(if(a0.States.getD s6.1.toNat default).History=true then(if((3+1) * 16≤140737488355328)then(Option.bind (Option.bind (m36o1 ([83,84,65,84,69]:List UInt8) (([(a0.States.getD s6.1.toNat default).Name,x21.1,x21.2]:List (List UInt8))++([([72,73,83,84,79,82,89]:List UInt8)]:List (List UInt8))) s6.2) fun r=>some r) fun x24=>(Option.bind (Option.bind (m39o0 ([69,78,84,82,89]:List UInt8) (a0.States.getD s6.1.toNat default).Entry x24) fun r=>some r) fun x25=>(Option.bind (Option.bind (m39o0 ([69,88,73,84]:List UInt8) (a0.States.getD s6.1.toNat default).Exit x25) fun r=>some r) fun x26=>(some (.inl ((IntKind.wrap .i64 (s6.1+1)),x26))))))else none)else(Option.bind (Option.bind (m36o1 ([83,84,65,84,69]:List UInt8) ([(a0.States.getD s6.1.toNat default).Name,x21.1,x21.2]:List (List UInt8)) s6.2) fun r=>some r) fun x24=>(Option.bind (Option.bind (m39o0 ([69,78,84,82,89]:List UInt8) (a0.States.getD s6.1.toNat default).Entry x24) fun r=>some r) fun x25=>(Option.bind (Option.bind (m39o0 ([69,88,73,84]:List UInt8) (a0.States.getD s6.1.toNat default).Exit x25) fun r=>some r) fun x26=>(some (.inl ((IntKind.wrap .i64 (s6.1+1)),x26))))))))else none)else none)else(some (.inr (.inl s6.2)))):Option ((Int×(List Int))⊕(((List Int))⊕((List UInt8)×Int))))) ((0:Int),y5)))) (onS fun(y7:(List Int))=>(Option.bind (Option.bind (some (.inl ())) (onS fun(_:Unit)=>(loopO (fun(s8:Int×(List Int))=>((if(decide (s8.1 < (a0.Transitions.length:Int)))=true then(if(0≤s8.1)then(if(s8.1 < (a0.Transitions.length:Int))then(Option.bind (((m40 a0 (a0.Transitions.getD s8.1.toNat default).From).bind fun r31_0=>((m40 a0 (a0.Transitions.getD s8.1.toNat default).To).bind fun r31_1=>((m36o1 ([84,82,65,78,83,73,84,73,79,78]:List UInt8) ([r31_0,r31_1]:List (List UInt8)) s8.2).bind fun r31_2=>some (r31_0,r31_1,r31_2))))) fun(x31:((List UInt8)×(List UInt8)×(List Int)))=>(Option.bind (((m41 a0 (a0.Transitions.getD s8.1.toNat default).When).bind fun r32_0=>((m39o0 ([87,72,69,78]:List UInt8) r32_0 x31.2.2).bind fun r32_1=>some (r32_0,r32_1)))) fun(x32:((List (List UInt8))×(List Int)))=>(Option.bind (Option.bind (m39o0 ([68,79]:List UInt8) (a0.Transitions.getD s8.1.toNat default).Actions x32.2) fun r=>some r) fun x33=>(some (.inl ((IntKind.wrap .i64 (s8.1+1)),x33))))))else none)else none)else(some (.inr (.inl s8.2)))):Option ((Int×(List Int))⊕(((List Int))⊕((List UInt8)×Int))))) ((0:Int),y7)))) (onS fun(y9:(List Int))=>(Option.bind (Option.bind (mbs1 y9) fun r=>some r) fun x35=>(some (x35,(0:Int)))))))))))))):Option ((List UInt8)×Int)):=by kernel_rfl
theorem Text_eq (c:T27) (H:Fit c):m10 c=textM c:=by
 obtain⟨e,he⟩:=checkM_some c
 have q0:=(Check_eq c H).trans he
 unfold textM
 rw[he,Option.bind_some]
 by_cases h0:(e != 0)=true
 ·simp only[M10,bind_id,q0,bs,h0,if_true,or_]
 ·have e0:e=0:=by simpa using h0
  subst e0
  have h0:=Bool.eq_false_iff.2 h0
  have K:=chk_of he
  have k1:=K.conds
  have k2:=K.never
  have k3:=K.states
  have k4:=K.trans
  have q1:∀ i,orS c i→m40 c i=some (nameS c i):=fun i hi=>nameOf_eq hi
  have q2:∀ l,InC c l→l.length≤1000→m41 c l=some (wordsS c l):=fun l h hl=>words_eq K h hl
  have q4:∀ (p w:List UInt8) (l:List (List UInt8)),Sh l→l.length≤1000→p.length≤100000000→w.length≤100→m36o1 w l (bytesI p)=some (bytesI (p++recS w l)):=fun p w l a1 a2 a3 a4=>wr1_eq a1 a2 a3 a4
  have q5:∀ (p w:List UInt8) (l:List (List UInt8)),Sh l→l.length≤1000→p.length≤100000000→w.length≤100→m36o2 w l (bytesI p)=some (bytesI (p++recS w l)):=fun p w l a1 a2 a3 a4=>wr2_eq a1 a2 a3 a4
  have q6:∀ (p w:List UInt8) (l:List (List UInt8)),Sh l→l.length≤1000→p.length≤100000000→w.length≤100→m39o0 w l (bytesI p)=some (bytesI (p++optS w l)):=fun p w l a1 a2 a3 a4=>so_eq a1 a2 a3 a4
  have c1:=q1 c.Start (.inr K.start)
  have hsh:=sh2 (a:=c.Name) (b:=nameS c c.Start) (by have:=nm_len K.name;omega) (nameS_len K (.inr K.start))
  have c2:m36o0 [67,72,65,82,84] [c.Name,nameS c c.Start]=some (bytesI (hdTx c)):=wr0_eq hsh (by decide) (by simp)
  have b0:(hdTx c).length≤100:=by
   have:=recS_len (w:=[67,72,65,82,84]) hsh
   simp only[List.length_cons,List.length_nil]at this
   show (recS _ _).length≤100
   omega
  have g1:∀ i,i < c.Conds.length→(cdTx (c.Conds.getD i default)).length≤100:=fun i hi=>by
   have:=recS_len (w:=[67,79,78,68,73,84,73,79,78]) (sh1 (a:=c.Conds.getD i default) (by have:=nm_len (K.condN hi);omega))
   simp only[List.length_cons,List.length_nil]at this
   show (recS _ _).length≤100
   omega
  have g2:∀ i,i < c.Never.length→(nvTx c (c.Never.getD i default)).length≤20000:=fun i hi=>by
   have w:=wordsS_sh K (lit_in (K.nevL hi).2)
   have:=recS_len (w:=[78,69,86,69,82]) w.1
   have hl:=H.lits _ (getD_mem hi)
   have w2:=w.2
   simp only[List.length_cons,List.length_nil]at this
   show (recS _ _).length≤20000
   omega
  have g3:∀ i,i < c.States.length→(stTx c (c.States.getD i default)).length≤1000:=fun i hi=>stTx_len he hi
  have g4:∀ i,i < c.Transitions.length→(trTx c (c.Transitions.getD i default)).length≤20000:=fun i hi=>trTx_len H he hi
  have w1:∀ n:Nat,n≤1000→IntKind.wrap .i64 ((n:Int)+1)=((n+1:Nat):Int):=fun n hn=>by rw[w64 (by omega) (by omega)];omega
  have b1:=flat_len (hdTx c) g1
  have b2:=flat_len (hdTx c++c.Conds.flatMap cdTx) g2
  have b3:=flat_len (hdTx c++c.Conds.flatMap cdTx++c.Never.flatMap (nvTx c)) g3
  simp only[M10,bind_id,q0,bs,h0,Bool.false_eq_true,if_false,c1,c2,ol]
  generalize m40=F1 at q1 ⊢
  generalize m41=F2 at q2 ⊢
  generalize m36o1=F4 at q4 ⊢
  generalize m36o2=F5 at q5 ⊢
  generalize m39o0=F6 at q6 ⊢
  refine on_l (y:=bytesI (hdTx c++c.Conds.flatMap cdTx)) (Eq.trans (loop_txt c.Conds.length (hdTx c) (fun i=>cdTx (c.Conds.getD i default)) Sum.inl (fun i hi=>?_) (fun x=>by simp only[lt_irr,decide_false,Bool.false_eq_true,if_false])) (by rw[getD_flat cdTx c.Conds])) ?_
  ·have hp:=pre_len (hdTx c) g1 i (by omega)
   have d1:F4 [67,79,78,68,73,84,73,79,78] [c.Conds.getD i default] (bytesI (hdTx c++(List.range i).flatMap fun i=>cdTx (c.Conds.getD i default)))=some (bytesI (hdTx c++((List.range i).flatMap fun i=>cdTx (c.Conds.getD i default))++cdTx (c.Conds.getD i default))):=q4 _ _ _ (sh1 (by have:=nm_len (K.condN hi);omega)) (by simp) (by omega) (by decide)
   simp only[inL hi,decide_true,Int.toNat_natCast,if_true,bs,d1,w1 i (by omega)]
  refine on_l (y:=bytesI (hdTx c++c.Conds.flatMap cdTx++c.Never.flatMap (nvTx c))) (Eq.trans (loop_txt c.Never.length (hdTx c++c.Conds.flatMap cdTx) (fun i=>nvTx c (c.Never.getD i default)) Sum.inl (fun i hi=>?_) (fun x=>by simp only[lt_irr,decide_false,Bool.false_eq_true,if_false])) (by rw[getD_flat (nvTx c) c.Never])) ?_
  ·have hp:=pre_len (hdTx c++c.Conds.flatMap cdTx) g2 i (by omega)
   have hin:=lit_in (K.nevL hi).2
   have hl:=H.lits _ (getD_mem hi)
   have w:=wordsS_sh K hin
   have w2:=w.2
   have d0:=q2 _ hin hl
   have d1:F5 [78,69,86,69,82] (wordsS c (c.Never.getD i default)) (bytesI (hdTx c++c.Conds.flatMap cdTx++(List.range i).flatMap fun i=>nvTx c (c.Never.getD i default)))=some (bytesI (hdTx c++c.Conds.flatMap cdTx++((List.range i).flatMap fun i=>nvTx c (c.Never.getD i default))++nvTx c (c.Never.getD i default))):=q5 _ _ _ w.1 (by omega) (by omega) (by decide)
   simp only[inL hi,decide_true,Int.toNat_natCast,if_true,bs,d0,d1,w1 i (by omega)]
  refine on_l (y:=bytesI (hdTx c++c.Conds.flatMap cdTx++c.Never.flatMap (nvTx c)++c.States.flatMap (stTx c))) (Eq.trans (loop_txt c.States.length (hdTx c++c.Conds.flatMap cdTx++c.Never.flatMap (nvTx c)) (fun i=>stTx c (c.States.getD i default)) Sum.inl (fun i hi=>?_) (fun x=>by simp only[lt_irr,decide_false,Bool.false_eq_true,if_false])) (by rw[getD_flat (stTx c) c.States])) ?_
  ·have hp:=pre_len (hdTx c++c.Conds.flatMap cdTx++c.Never.flatMap (nvTx c)) g3 i (by omega)
   have A:=K.acts hi
   have L:=Chk.links he hi
   have s:=stL_sh he hi
   have s2:=s.2
   have a1:=A.1.1
   have a2:=A.2.1
   obtain⟨P,hP⟩:∃ P,P=hdTx c++c.Conds.flatMap cdTx++c.Never.flatMap (nvTx c)++(List.range i).flatMap fun i=>stTx c (c.States.getD i default):=⟨_,rfl⟩
   rw[← hP]at hp ⊢
   have d1:=q1 _ L.1
   have d2:=q1 _ L.2
   have l1:=recS_len (w:=[83,84,65,84,69]) s.1
   have l2:=optS_len (w:=[69,78,84,82,89]) (nm_sh A.1.2)
   simp only[List.length_cons,List.length_nil]at l1 l2
   have d3:=q4 P [83,84,65,84,69] _ s.1 (by omega) (by omega) (by decide)
   have d4:=q6 (P++recS [83,84,65,84,69] (stL c (c.States.getD i default))) [69,78,84,82,89] _ (nm_sh A.1.2) (by omega) (by rw[List.length_append];omega) (by decide)
   have d5:=q6 (P++recS [83,84,65,84,69] (stL c (c.States.getD i default))++optS [69,78,84,82,89] (c.States.getD i default).Entry) [69,88,73,84] _ (nm_sh A.2.2) (by omega) (by rw[List.length_append,List.length_append];omega) (by decide)
   have e5:P++recS [83,84,65,84,69] (stL c (c.States.getD i default))++optS [69,78,84,82,89] (c.States.getD i default).Entry++optS [69,88,73,84] (c.States.getD i default).Exit=P++stTx c (c.States.getD i default):=by
    show _=P++(recS [83,84,65,84,69] (stL c (c.States.getD i default))++optS [69,78,84,82,89] (c.States.getD i default).Entry++optS [69,88,73,84] (c.States.getD i default).Exit)
    simp only[List.append_assoc]
   rw[e5]at d5
   have e6:stL c (c.States.getD i default)=if(c.States.getD i default).History=true then([(c.States.getD i default).Name,nameS c (c.States.getD i default).Parent,nameS c (c.States.getD i default).Initial]:List (List UInt8))++[[72,73,83,84,79,82,89]]else[(c.States.getD i default).Name,nameS c (c.States.getD i default).Parent,nameS c (c.States.getD i default).Initial]:=rfl
   have c5:((3+1) * 16≤140737488355328)=True:=eq_true (by omega)
   cases hh:(c.States.getD i default).History with
   | true =>
    rw[hh,if_pos rfl]at e6
    rw[e6]at d3 d4 d5
    simp only[inL hi,decide_true,Int.toNat_natCast,if_true,bs,hh,d1,d2,c5,d3,d4,d5,w1 i (by omega)]
   | false =>
    rw[hh,if_neg (by decide)]at e6
    rw[e6]at d3 d4 d5
    simp only[inL hi,decide_true,Int.toNat_natCast,if_true,bs,hh,Bool.false_eq_true,if_false,d1,d2,d3,d4,d5,w1 i (by omega)]
  refine on_l (y:=bytesI (hdTx c++c.Conds.flatMap cdTx++c.Never.flatMap (nvTx c)++c.States.flatMap (stTx c)++c.Transitions.flatMap (trTx c))) (Eq.trans (loop_txt c.Transitions.length (hdTx c++c.Conds.flatMap cdTx++c.Never.flatMap (nvTx c)++c.States.flatMap (stTx c)) (fun i=>trTx c (c.Transitions.getD i default)) Sum.inl (fun i hi=>?_) (fun x=>by simp only[lt_irr,decide_false,Bool.false_eq_true,if_false])) (by rw[getD_flat (trTx c) c.Transitions])) ?_
  ·have hp:=pre_len (hdTx c++c.Conds.flatMap cdTx++c.Never.flatMap (nvTx c)++c.States.flatMap (stTx c)) g4 i (by omega)
   obtain⟨⟨t1,t2⟩,t3,t4,t5⟩:=K.transL hi
   have hin:=lit_in t3
   have w:=wordsS_sh K hin
   have hl:=H.when_ _ (getD_mem hi)
   have w2:=w.2
   obtain⟨P,hP⟩:∃ P,P=hdTx c++c.Conds.flatMap cdTx++c.Never.flatMap (nvTx c)++c.States.flatMap (stTx c)++(List.range i).flatMap fun i=>trTx c (c.Transitions.getD i default):=⟨_,rfl⟩
   rw[← hP]at hp ⊢
   have d1:=q1 _ (.inr t1)
   have d2:=q1 _ (.inr t2)
   have hsh:=sh2 (nameS_len K (.inr t1)) (nameS_len K (.inr t2))
   have l1:=recS_len (w:=[84,82,65,78,83,73,84,73,79,78]) hsh
   have l2:=optS_len (w:=[87,72,69,78]) w.1
   simp only[List.length_cons,List.length_nil]at l1 l2
   have d3:=q4 P [84,82,65,78,83,73,84,73,79,78] _ hsh (by simp) (by omega) (by decide)
   have d0:=q2 _ hin hl
   have d4:=q6 (P++recS [84,82,65,78,83,73,84,73,79,78] [nameS c (c.Transitions.getD i default).From,nameS c (c.Transitions.getD i default).To]) [87,72,69,78] _ w.1 (by omega) (by rw[List.length_append];omega) (by decide)
   have d5:=q6 (P++recS [84,82,65,78,83,73,84,73,79,78] [nameS c (c.Transitions.getD i default).From,nameS c (c.Transitions.getD i default).To]++optS [87,72,69,78] (wordsS c (c.Transitions.getD i default).When)) [68,79] _ (nm_sh t5) (by omega) (by rw[List.length_append,List.length_append];omega) (by decide)
   have e5:P++recS [84,82,65,78,83,73,84,73,79,78] [nameS c (c.Transitions.getD i default).From,nameS c (c.Transitions.getD i default).To]++optS [87,72,69,78] (wordsS c (c.Transitions.getD i default).When)++optS [68,79] (c.Transitions.getD i default).Actions=P++trTx c (c.Transitions.getD i default):=by
    unfold trTx
    simp only[List.append_assoc]
   rw[e5]at d5
   simp only[inL hi,decide_true,Int.toNat_natCast,if_true,bs,d0,d1,d2,d3,d4,d5,w1 i (by omega)]
  ·have ne:bytesI (textS c)≠[]:=fun h=>by
    have:=congrArg List.length h
    rw[bI_len]at this
    simp[textS,hdTx,recS]at this
   have all:(bytesI (textS c)).all (fun x=>decide (0≤x∧x < 256))=true:=by
    rw[List.all_eq_true]
    intro x hx
    unfold bytesI at hx
    obtain⟨b,_,rfl⟩:=List.mem_map.1 hx
    have:=b.toNat_lt
    simp;omega
   have back:(bytesI (textS c)).map (fun x=>x.toNat.toUInt8)=textS c:=by
    unfold bytesI
    rw[List.map_map]
    have:((fun x:Int=>x.toNat.toUInt8) ∘ fun c:UInt8=>(c.toNat:Int))=id:=by
     funext b
     simp
    rw[this,List.map_id]
   have m:mbs1 (bytesI (textS c))=some (textS c):=by
    unfold mbs1
    rw[if_pos ⟨ne,all⟩,back]
   have m':mbs1 (bytesI (hdTx c++c.Conds.flatMap cdTx++c.Never.flatMap (nvTx c)++c.States.flatMap (stTx c)++c.Transitions.flatMap (trTx c)))=some (textS c):=m
   simp only[m',bs,Bool.false_eq_true,if_false]
end Go.Av.Ch
set_option maxRecDepth 1000000
namespace Go.Av.Mo
theorem M19 (a0:T49) (a1:Int):m19 a0 a1=((Option.bind (Option.bind (Option.bind (m23 a0) fun r=>some r) fun x1=>(if(!x1)=true then(some (.inr (((⟨(0:Int),(0:Int),(0:Int)⟩:T49),[],(8:Int)))))else(Option.bind (((m24 ).bind fun r3_0=>(if 0≤(r3_0.length:Int)then some r3_0 else none))) fun(x3:((List (List UInt8))))=>(if((Int.fdiv a1 (2 ^ (min (x3.length:Int).toNat (IntKind.bits .u32)))) != 0)=true then(some (.inr (((⟨(0:Int),(0:Int),(0:Int)⟩:T49),[],(1:Int)))))else(some (.inl ())))))) (onS fun(_:Unit)=>(Option.bind (Option.bind (some (.inl ())) (onS fun(_:Unit)=>(Option.bind (Option.bind (some (.inl ())) (onS fun(_:Unit)=>(Option.bind (some (.inl ())) (onS fun(_:Unit)=>(Option.bind (Option.bind (Option.bind (Option.bind (m20 (1:Int)) fun r=>some r) fun x11=>(Option.bind (Option.bind (m61 x11.1 a1) fun r=>some r) fun x12=>(some (.inl (x12.1,x12.2,x11.1))))) (onS fun(y1:Int×Bool×T27)=>(Option.bind (Option.bind (some (.inl ())) (onS fun(_:Unit)=>(if(!y1.2.1)=true then(some (.inr (.inr (.inr (.inr (((⟨(0:Int),(0:Int),(0:Int)⟩:T49),[],(11:Int))))))))else(some (.inl ()))))) (onS fun(_:Unit)=>(some (.inl (y1.2.2,y1.1))))))) (onS fun(y2:T27×Int)=>(some (.inl (y2.1,y2.2))))))))) (onS fun(y3:T27×Int)=>(Option.bind (Option.bind (some (.inl ())) (onS fun(_:Unit)=>(Option.bind (some (.inl ())) (onS fun(_:Unit)=>(Option.bind (Option.bind (Option.bind (Option.bind (m20 (2:Int)) fun r=>some r) fun x11=>(Option.bind (Option.bind (m61 x11.1 a1) fun r=>some r) fun x12=>(some (.inl (x12.1,x12.2,x11.1))))) (onS fun(y4:Int×Bool×T27)=>(Option.bind (Option.bind (some (.inl ())) (onS fun(_:Unit)=>(if(!y4.2.1)=true then(some (.inr (.inr (.inr (.inr (((⟨(0:Int),(0:Int),(0:Int)⟩:T49),[],(11:Int))))))))else(some (.inl ()))))) (onS fun(_:Unit)=>(some (.inl (y4.2.2,y4.1))))))) (onS fun(y5:T27×Int)=>(some (.inl (y5.1,y5.2))))))))) (onS fun(y6:T27×Int)=>(Option.bind (Option.bind (some (.inl ())) (onS fun(_:Unit)=>(Option.bind (some (.inl ())) (onS fun(_:Unit)=>(Option.bind (Option.bind (Option.bind (Option.bind (m20 (3:Int)) fun r=>some r) fun x11=>(Option.bind (Option.bind (m61 x11.1 a1) fun r=>some r) fun x12=>(some (.inl (x12.1,x12.2,x11.1))))) (onS fun(y7:Int×Bool×T27)=>(Option.bind (Option.bind (some (.inl ())) (onS fun(_:Unit)=>(if(!y7.2.1)=true then(some (.inr (.inr (.inr (.inr (((⟨(0:Int),(0:Int),(0:Int)⟩:T49),[],(11:Int))))))))else(some (.inl ()))))) (onS fun(_:Unit)=>(some (.inl (y7.2.2,y7.1))))))) (onS fun(y8:T27×Int)=>(some (.inl (y8.1,y8.2))))))))) (onS fun(y9:T27×Int)=>(Option.bind (Option.bind (some (.inl ())) (onS fun(_:Unit)=>(Option.bind (some (.inr (.inr (.inl (y3.1,y6.1,y9.1,y3.2,y6.2,y9.2))))) onE))) onE))))))))) (onS fun(y10:T27×T27×T27×Int×Int×Int)=>(Option.bind (some (.inl ())) (onS fun(_:Unit)=>(Option.bind (Option.bind (some (.inl ())) (onS fun(_:Unit)=>(Option.bind (Option.bind (some (.inl ())) (onS fun(_:Unit)=>(Option.bind (some (.inl ())) (onS fun(_:Unit)=>(Option.bind (Option.bind (Option.bind (Option.bind (m55 ([(-1:Int)]:List Int) (y10.1.States.length:Int)) fun r=>some r) fun x22=>(Option.bind (Option.bind (m16 y10.1 (⟨(IntKind.wrap .i64 (a0.Lateral)),x22⟩:T41) y10.2.2.2.1) fun r=>some r) fun x23=>(some (.inl (x23.2.1,x23.2.2,x23.1))))) (onS fun(y11:(List (List UInt8))×Int×T41)=>(Option.bind (Option.bind (some (.inl ())) (onS fun(_:Unit)=>(if(y11.2.1 != 0)=true then(some (.inr (.inr (.inr (.inr (((⟨(0:Int),(0:Int),(0:Int)⟩:T49),[],y11.2.1)))))))else(some (.inl ()))))) (onS fun(_:Unit)=>(if(y11.1.length * 16≤140737488355328)then(some (.inl (y11.1,(IntKind.wrap .u8 (y11.2.2.Leaf)))))else none))))) (onS fun(y12:(List (List UInt8))×Int)=>(some (.inl (y12.1,y12.2))))))))) (onS fun(y13:(List (List UInt8))×Int)=>(Option.bind (Option.bind (some (.inl ())) (onS fun(_:Unit)=>(Option.bind (some (.inl ())) (onS fun(_:Unit)=>(Option.bind (Option.bind (Option.bind (Option.bind (m55 ([(-1:Int)]:List Int) (y10.2.1.States.length:Int)) fun r=>some r) fun x22=>(Option.bind (Option.bind (m16 y10.2.1 (⟨(IntKind.wrap .i64 (a0.Vertical)),x22⟩:T41) y10.2.2.2.2.1) fun r=>some r) fun x23=>(some (.inl (x23.2.1,x23.2.2,x23.1))))) (onS fun(y14:(List (List UInt8))×Int×T41)=>(Option.bind (Option.bind (some (.inl ())) (onS fun(_:Unit)=>(if(y14.2.1 != 0)=true then(some (.inr (.inr (.inr (.inr (((⟨(0:Int),(0:Int),(0:Int)⟩:T49),[],y14.2.1)))))))else(some (.inl ()))))) (onS fun(_:Unit)=>(if((y13.1.length+y14.1.length) * 16≤140737488355328)then(some (.inl ((y13.1++y14.1),(IntKind.wrap .u8 (y14.2.2.Leaf)))))else none))))) (onS fun(y15:(List (List UInt8))×Int)=>(some (.inl (y15.1,y15.2))))))))) (onS fun(y16:(List (List UInt8))×Int)=>(Option.bind (Option.bind (some (.inl ())) (onS fun(_:Unit)=>(Option.bind (some (.inl ())) (onS fun(_:Unit)=>(Option.bind (Option.bind (Option.bind (Option.bind (m55 ([(-1:Int)]:List Int) (y10.2.2.1.States.length:Int)) fun r=>some r) fun x22=>(Option.bind (Option.bind (m16 y10.2.2.1 (⟨(IntKind.wrap .i64 (a0.Phase)),x22⟩:T41) y10.2.2.2.2.2) fun r=>some r) fun x23=>(some (.inl (x23.2.1,x23.2.2,x23.1))))) (onS fun(y17:(List (List UInt8))×Int×T41)=>(Option.bind (Option.bind (some (.inl ())) (onS fun(_:Unit)=>(if(y17.2.1 != 0)=true then(some (.inr (.inr (.inr (.inr (((⟨(0:Int),(0:Int),(0:Int)⟩:T49),[],y17.2.1)))))))else(some (.inl ()))))) (onS fun(_:Unit)=>(if((y16.1.length+y17.1.length) * 16≤140737488355328)then(some (.inl ((y16.1++y17.1),(IntKind.wrap .u8 (y17.2.2.Leaf)))))else none))))) (onS fun(y18:(List (List UInt8))×Int)=>(some (.inl (y18.1,y18.2))))))))) (onS fun(y19:(List (List UInt8))×Int)=>(Option.bind (Option.bind (some (.inl ())) (onS fun(_:Unit)=>(Option.bind (some (.inr (.inr (.inl (y19.1,y13.2,y16.2,y19.2))))) onE))) onE))))))))) (onS fun(y20:(List (List UInt8))×Int×Int×Int)=>(some ((⟨y20.2.1,y20.2.2.1,y20.2.2.2⟩:T49),y20.1,(0:Int))))))))))):Option (T49×(List (List UInt8))×Int)):=by kernel_rfl
theorem Step_of {l v p b:Int} {c1 c2 c3:T27} {v1 v2 v3:Int} {g1 g2 g3:T41×List (List UInt8)×Int} {nl:List (List UInt8)} {q1 q2 q3:List Int}
  (e0:m23 ⟨l,v,p⟩=some true) (en:m24=some nl) (hn:(0:Int)≤(nl.length:Int)) (hs:(Int.fdiv b (2 ^ (min (nl.length:Int).toNat (IntKind.bits .u32))) != (0:Int))=false)
  (r1:m20 1=some (c1,0)) (r2:m20 2=some (c2,0)) (r3:m20 3=some (c3,0)) (w1:m61 c1 b=some (v1,true)) (w2:m61 c2 b=some (v2,true)) (w3:m61 c3 b=some (v3,true))
  (p1:m55 ([-1]:List Int) (c1.States.length:Int)=some q1) (p2:m55 ([-1]:List Int) (c2.States.length:Int)=some q2) (p3:m55 ([-1]:List Int) (c3.States.length:Int)=some q3)
  (s1:m16 c1 ⟨l,q1⟩ v1=some g1) (s2:m16 c2 ⟨v,q2⟩ v2=some g2) (s3:m16 c3 ⟨p,q3⟩ v3=some g3) (o1:g1.2.2=0) (o2:g2.2.2=0) (o3:g3.2.2=0)
  (f1:g1.2.1.length≤100000) (f2:g2.2.1.length≤100000) (f3:g3.2.1.length≤100000) (hl:0≤l∧l < 256) (hv:0≤v∧v < 256) (hp:0≤p∧p < 256)
  (k1:0≤g1.1.Leaf∧g1.1.Leaf < 256) (k2:0≤g2.1.Leaf∧g2.1.Leaf < 256) (k3:0≤g3.1.Leaf∧g3.1.Leaf < 256) :
  m19 ⟨l,v,p⟩ b=some (⟨g1.1.Leaf,g2.1.Leaf,g3.1.Leaf⟩,g1.2.1++g2.2.1++g3.2.1,0):=by
 have z1:IntKind.wrap .i64 l=l:=w64 (by omega) (by omega)
 have z2:IntKind.wrap .i64 v=v:=w64 (by omega) (by omega)
 have z3:IntKind.wrap .i64 p=p:=w64 (by omega) (by omega)
 have k1:IntKind.wrap .u8 g1.1.Leaf=g1.1.Leaf:=IntWalk.u8_in _ (by omega)
 have k2:IntKind.wrap .u8 g2.1.Leaf=g2.1.Leaf:=IntWalk.u8_in _ (by omega)
 have k3:IntKind.wrap .u8 g3.1.Leaf=g3.1.Leaf:=IntWalk.u8_in _ (by omega)
 have m1:g1.2.1.length * 16≤140737488355328:=by omega
 have m2:(g1.2.1.length+g2.2.1.length) * 16≤140737488355328:=by omega
 have m3:((g1.2.1++g2.2.1).length+g3.2.1.length) * 16≤140737488355328:=by rw[List.length_append];omega
 simp only[M19,bind_id]
 generalize m20=F at r1 r2 r3 ⊢
 generalize m61=G at w1 w2 w3 ⊢
 generalize m16=S at s1 s2 s3 ⊢
 generalize m55=Q at p1 p2 p3 ⊢
 generalize m23=V at e0 ⊢
 generalize m24=M at en ⊢
 simp only[e0,en,hn,hs,r1,w1,r2,w2,r3,w3,p1,p2,p3,z1,z2,z3,s1,s2,s3,o1,o2,o3,m1,m2,m3,k1,k2,k3,
  bs,ol,or_,oe,bne_self_eq_false,Bool.not_true,Bool.not_false,Bool.true_and,Bool.false_and,Bool.false_eq_true,if_false,if_true]
end Go.Av.Mo
set_option maxRecDepth 1000000
namespace Go.Av.Mo
theorem read1:(m20 1)=some (C1,0):=by kernel_rfl
end Go.Av.Mo
set_option maxRecDepth 1000000
namespace Go.Av.Mo
theorem read2:(m20 2)=some (C2,0):=by kernel_rfl
end Go.Av.Mo
set_option maxRecDepth 1000000
namespace Go.Av.Mo
theorem read3:(m20 3)=some (C3,0):=by kernel_rfl
end Go.Av.Mo
set_option maxRecDepth 1000000
namespace Go.Av.Mo
theorem M18:m18  = ((Option.bind (((m59 ).bind fun r1_0=>((m19 r1_0 (16385:Int)).bind fun r1_1=>some (r1_0,r1_1)))) fun(x1:(T49×(T49×(List (List UInt8))×Int)))=>(Option.bind (Option.bind (m19 x1.2.1 (28:Int)) fun r=>some r) fun x2=>(Option.bind (((m60 x1.2.1).bind fun r3_0=>((if(((r3_0==([82,79,76,76,32,72,79,76,68,32,84,65,75,69,79,70,70]:List UInt8))&&((x1.2.2.1.length:Int)==(0:Int)))&&(x1.2.2.2==0))=true then m60 x2.1 else some default).bind fun r3_1=>(if(((((r3_0==([82,79,76,76,32,72,79,76,68,32,84,65,75,69,79,70,70]:List UInt8))&&((x1.2.2.1.length:Int)==(0:Int)))&&(x1.2.2.2==0))&&(r3_1==([78,65,86,32,72,79,76,68,32,84,65,75,69,79,70,70]:List UInt8)))&&((x2.2.1.length:Int)==(1:Int)))=true→(0:Int)≤(0:Int)then(if(((((r3_0==([82,79,76,76,32,72,79,76,68,32,84,65,75,69,79,70,70]:List UInt8))&&((x1.2.2.1.length:Int)==(0:Int)))&&(x1.2.2.2==0))&&(r3_1==([78,65,86,32,72,79,76,68,32,84,65,75,69,79,70,70]:List UInt8)))&&((x2.2.1.length:Int)==(1:Int)))=true→0 < (x2.2.1.length:Int)then some (r3_0,r3_1)else none)else none)))) fun(x3:((List UInt8)×(List UInt8)))=>(some (((((((x3.1==([82,79,76,76,32,72,79,76,68,32,84,65,75,69,79,70,70]:List UInt8))&&((x1.2.2.1.length:Int)==(0:Int)))&&(x1.2.2.2==0))&&(x3.2==([78,65,86,32,72,79,76,68,32,84,65,75,69,79,70,70]:List UInt8)))&&((x2.2.1.length:Int)==(1:Int)))&&((x2.2.1.getD (0:Int).toNat default)==([67,65,80,84,85,82,69,68]:List UInt8)))&&(x2.2.2==0)))))):Option (Bool)):=by kernel_rfl
theorem names_len:∃ nl,m24=some nl∧nl.length=19:=⟨(m24).getD [],by kernel_rfl,by kernel_rfl⟩
theorem wakeS1:m19 ⟨1,1,1⟩ 16385=some (⟨1,1,2⟩,[],0):=by
 obtain⟨nl,hn,hl⟩:=names_len
 exact Step_of (g1:=(⟨1,[-1,-1,-1,-1,-1,-1,-1]⟩,[],0)) (g2:=(⟨1,[-1,-1,-1,-1,-1,-1,-1,-1,-1]⟩,[],0)) (g3:=(⟨2,[-1,-1,-1,-1,-1,-1,-1,-1,-1]⟩,[],0)) (v1:=1) (v2:=1) (v3:=9) (q1:=[-1,-1,-1,-1,-1,-1,-1]) (q2:=[-1,-1,-1,-1,-1,-1,-1,-1,-1]) (q3:=[-1,-1,-1,-1,-1,-1,-1,-1,-1]) (by kernel_rfl) hn (by omega) (by rw[hl];rfl) read1 read2 read3 (by kernel_rfl) (by kernel_rfl) (by kernel_rfl) (by kernel_rfl) (by kernel_rfl) (by kernel_rfl) (by kernel_rfl) (by kernel_rfl) (by kernel_rfl) rfl rfl rfl (by decide) (by decide) (by decide) (by decide) (by decide) (by decide) (by decide) (by decide) (by decide)
theorem wakeS2:m19 ⟨1,1,2⟩ 28=some (⟨4,1,2⟩,[[67,65,80,84,85,82,69,68]],0):=by
 obtain⟨nl,hn,hl⟩:=names_len
 exact Step_of (g1:=(⟨4,[-1,-1,-1,-1,-1,-1,-1]⟩,[[67,65,80,84,85,82,69,68]],0)) (g2:=(⟨1,[-1,-1,-1,-1,-1,-1,-1,-1,-1]⟩,[],0)) (g3:=(⟨2,[-1,-1,-1,-1,-1,-1,-1,-1,-1]⟩,[],0)) (v1:=28) (v2:=2) (v3:=0) (q1:=[-1,-1,-1,-1,-1,-1,-1]) (q2:=[-1,-1,-1,-1,-1,-1,-1,-1,-1]) (q3:=[-1,-1,-1,-1,-1,-1,-1,-1,-1]) (by kernel_rfl) hn (by omega) (by rw[hl];rfl) read1 read2 read3 (by kernel_rfl) (by kernel_rfl) (by kernel_rfl) (by kernel_rfl) (by kernel_rfl) (by kernel_rfl) (by kernel_rfl) (by kernel_rfl) (by kernel_rfl) rfl rfl rfl (by decide) (by decide) (by decide) (by decide) (by decide) (by decide) (by decide) (by decide) (by decide)
theorem wakeT1:m60 ⟨1,1,2⟩=some [82,79,76,76,32,72,79,76,68,32,84,65,75,69,79,70,70]:=by kernel_rfl
theorem wakeT2:m60 ⟨4,1,2⟩=some [78,65,86,32,72,79,76,68,32,84,65,75,69,79,70,70]:=by kernel_rfl
theorem start_eq:m59=some ⟨1,1,1⟩:=by kernel_rfl
theorem awake_true:m18=some true:=by
 have e1:=wakeS1
 have e2:=wakeS2
 have e3:=wakeT1
 have e4:=wakeT2
 have e5:=start_eq
 simp only[M18,bind_id]
 generalize m19=F at e1 e2 ⊢
 generalize m60=G at e3 e4 ⊢
 generalize m59=S at e5 ⊢
 simp only[e5,bs,e1,e2,e3,e4]
 rfl
end Go.Av.Mo
set_option maxRecDepth 1000000
namespace Go.Av.Mo
noncomputable def src1:List UInt8:=(m28 1).getD []
theorem src1_eq:m28 1=some src1:=by kernel_rfl
theorem rRead1:m111o0 src1=some ([],linesX 1 (linesS src1)):=by
 have h:=Lines_eq src1 (of_decide_eq_true (by kernel_rfl))
 rw[M111o0,h]
 show _=some _
 kernel_rfl
theorem rParse1:m67 src1=some (C1,[]):=by
 rw[M67,rRead1]
 show _=some _
 kernel_rfl
theorem rread1:(m29 1)=some (C1,0):=by
 have h:=rParse1
 have h2:=src1_eq
 rw[M29]
 generalize m67=F at h ⊢
 generalize m28=G at h2 ⊢
 rw[if_neg (by decide),h2,Option.bind_some,h];rfl
end Go.Av.Mo
set_option maxRecDepth 1000000
namespace Go.Av.Mo
noncomputable def src2:List UInt8:=(m28 2).getD []
theorem src2_eq:m28 2=some src2:=by kernel_rfl
theorem rRead2:m111o0 src2=some ([],linesX 1 (linesS src2)):=by
 have h:=Lines_eq src2 (of_decide_eq_true (by kernel_rfl))
 rw[M111o0,h]
 show _=some _
 kernel_rfl
theorem rParse2:m67 src2=some (C2,[]):=by
 rw[M67,rRead2]
 show _=some _
 kernel_rfl
theorem rread2:(m29 2)=some (C2,0):=by
 have h:=rParse2
 have h2:=src2_eq
 rw[M29]
 generalize m67=F at h ⊢
 generalize m28=G at h2 ⊢
 rw[if_neg (by decide),h2,Option.bind_some,h];rfl
end Go.Av.Mo
set_option maxRecDepth 1000000
namespace Go.Av.Mo
noncomputable def src3:List UInt8:=(m28 3).getD []
theorem src3_eq:m28 3=some src3:=by kernel_rfl
theorem rRead3:m111o0 src3=some ([],linesX 1 (linesS src3)):=by
 have h:=Lines_eq src3 (of_decide_eq_true (by kernel_rfl))
 rw[M111o0,h]
 show _=some _
 kernel_rfl
theorem rParse3:m67 src3=some (C3,[]):=by
 rw[M67,rRead3]
 show _=some _
 kernel_rfl
theorem rread3:(m29 3)=some (C3,0):=by
 have h:=rParse3
 have h2:=src3_eq
 rw[M29]
 generalize m67=F at h ⊢
 generalize m28=G at h2 ⊢
 rw[if_neg (by decide),h2,Option.bind_some,h];rfl
end Go.Av.Mo
set_option maxRecDepth 1000000
namespace Go.Av
open Mo
theorem M6 (a0:Int):m6 a0=((Option.bind (Option.bind (m18) fun r=>some r) fun x1=>(if(!x1)=true then(some false)else(Option.bind (Option.bind (m24) fun r=>some r) fun x3=>(Option.bind (((m26 ).bind fun r4_0=>((m25 x3 r4_0).bind fun r4_1=>((if(!(!r4_1))=true then m27 a0 else some default).bind fun r4_2=>((if(!(!r4_1))=true then m28 a0 else some default).bind fun r4_3=>some (r4_0,r4_1,r4_2,r4_3)))))) fun(x4:((List (List UInt8))×Bool×(List UInt8)×(List UInt8)))=>(if((!x4.2.1) || (x4.2.2.1 != x4.2.2.2))=true then(some false)else(Option.bind (Option.bind (m20 a0) fun r=>some r) fun x6=>(Option.bind (Option.bind (m29 a0) fun r=>some r) fun x7=>(Option.bind (((if(!(x6.2 != x7.2))=true then m13 x6.1 x7.1 else some default).bind fun r8_0=>some r8_0)) fun(x8:(Bool))=>(if((x6.2 != x7.2) || (!x8))=true then(some false)else(if(x6.2 != 0)=true then(some true)else(Option.bind (Option.bind (m10 x6.1) fun r=>some r) fun x12=>(Option.bind (Option.bind (m27 a0) fun r=>some r) fun x13=>(some ((x12.1==x13)&&(x12.2==0))))))))))))))):Option (Bool)):=by kernel_rfl
theorem M27 (a0:Int):m27 a0=((if(a0==1)=true then(some K0)else(if(a0==2)=true then(some K1)else(if(a0==3)=true then(some K2)else(some ([]:List UInt8))))):Option ((List UInt8))):=by kernel_rfl
theorem M28 (a0:Int):m28 a0=((if(a0==1)=true then(Option.bind (Option.bind (m64) fun r=>some r) fun x2=>(some x2))else(if(a0==2)=true then(Option.bind (Option.bind (m65) fun r=>some r) fun x4=>(some x4))else(if(a0==3)=true then(Option.bind (Option.bind (m66) fun r=>some r) fun x6=>(some x6))else(some ([]:List UInt8))))):Option ((List UInt8))):=by kernel_rfl
theorem Mo.names2:∃ l,m24=some l∧m26=some l∧m25 l l=some true:=⟨(m24).getD [],by kernel_rfl,by kernel_rfl,by kernel_rfl⟩
theorem Mo.sources_of {a e:Int} {c:T27} {s:List UInt8} (h1:m27 a=some s) (h2:m28 a=some s) (h3:m20 a=some (c,e)) (h4:m29 a=some (c,e)) (h5:m13 c c=some true) (h6:e=0→m10 c=some (s,0)):m6 a=some true:=by
 obtain⟨l,n1,n2,n3⟩:=names2
 have hw:=awake_true
 simp only[M6,bind_id]
 generalize m18=A at hw ⊢
 generalize m24=N1 at n1 ⊢
 generalize m26=N2 at n2 ⊢
 generalize m25=N3 at n3 ⊢
 generalize m27=S1 at h1 ⊢
 generalize m28=S2 at h2 ⊢
 generalize m20=F1 at h3 ⊢
 generalize m29=F2 at h4 ⊢
 generalize m13=F3 at h5 ⊢
 generalize m10=F4 at h6 ⊢
 have b1:(s != s)=false:=by simp
 have b2:(e != e)=false:=by simp
 by_cases he:e=0
 ·subst he
  simp only[hw,bs,n1,n2,n3,h1,h2,h3,h4,h5,h6 rfl,b1,b2,bne_self_eq_false,beq_self_eq_true,Bool.not_true,Bool.not_false,Bool.false_or,Bool.or_false,Bool.or_self,Bool.and_self,Bool.false_eq_true,if_false,if_true]
 ·have he':(e != (0:Int))=true:=by simpa using he
  simp only[hw,bs,n1,n2,n3,h1,h2,h3,h4,h5,he',b1,b2,bne_self_eq_false,Bool.not_true,Bool.not_false,Bool.false_or,Bool.or_false,Bool.or_self,Bool.false_eq_true,if_false,if_true]
theorem Mo.same1:m13 C1 C1=some true:=by kernel_rfl
theorem Mo.same2:m13 C2 C2=some true:=by kernel_rfl
theorem Mo.same3:m13 C3 C3=some true:=by kernel_rfl
theorem Mo.same0:m13 noChart noChart=some true:=by kernel_rfl
theorem Mo.text1:m10 C1=some (src1,0):=(Ch.Text_eq C1 fit1).trans (by kernel_rfl)
theorem Mo.text2:m10 C2=some (src2,0):=(Ch.Text_eq C2 fit2).trans (by kernel_rfl)
theorem Mo.text3:m10 C3=some (src3,0):=(Ch.Text_eq C3 fit3).trans (by kernel_rfl)
theorem Mo.source1:m27 1=some src1:=by kernel_rfl
theorem Mo.source2:m27 2=some src2:=by kernel_rfl
theorem Mo.source3:m27 3=some src3:=by kernel_rfl
theorem Mo.ne_of_out {a:Int} (h:outB a=true):(a==(1:Int))=false∧(a==(2:Int))=false∧(a==(3:Int))=false:=by
 simp only[outB,Bool.or_eq_true,decide_eq_true_eq]at h
 refine⟨?_,?_,?_⟩<;>(rw[beq_eq_false_iff_ne];omega)
theorem plain6 {a:Int} (ha:(Lit.int .i64 a).wf=true):m6 a=some true:=by
 rcases axis_cases a with h | rfl | rfl | rfl
 ·obtain⟨n1,n2,n3⟩:=ne_of_out h
  refine sources_of (s:=[]) (e:=1) (c:=noChart) ?_ ?_ (mChart_out h) (rChart_out h) same0 (fun e=>absurd e (by decide))
  ·simp only[M27,n1,n2,n3,Bool.false_eq_true,if_false]
  ·simp only[M28,n1,n2,n3,Bool.false_eq_true,if_false]
 ·exact sources_of source1 src1_eq Mo.read1 rread1 same1 (fun _=>text1)
 ·exact sources_of source2 src2_eq Mo.read2 rread2 same2 (fun _=>text2)
 ·exact sources_of source3 src3_eq Mo.read3 rread3 same3 (fun _=>text3)
end Go.Av
