/- A part of the proof. -/
import Derived.Test.YtaflbimagjafiaaGreatDoorPart5
import Derived.Lib.IndexLaws
import Derived.Lib.ParseIntB
import Derived.Lib.ItoaLen
set_option linter.unusedVariables false
set_option linter.unusedSimpArgs false
set_option linter.unusedSectionVars false
set_option maxRecDepth 100000
noncomputable section
namespace Go.Av
open Go.RowKit Go.Base Go.Proofs Go.ChangeShapes Go.WideShapes
def yr (a0:List A7):JD Tryz.prog Tryz.f54.ntmps (C2 1 (Xx (C2 3 (body Tryz.f54)))) (z54_d a0) (w54_0 a0) :=
 (.bk (.lp (fun(s1:Ot)=>⟨[(0,(.d (A3 2 At a0))),(2,(.ptr 16 0)),(3,(.ptr 32 0)),(5,(.ptr 112 0)),(20,(.d (A3 2 At a0))),(21,(aI (a0.length:Int))),(22,(aI s1.1))],[(16,Ch),(32,Gg),(112,(.cells [(aS s1.2.1),(aI s1.2.2.1),(aI s1.2.2.2.1),(Sv s1),(.d (A3 1 dI s1.2.2.2.2.2.1)),(Pu s1),(Pt s1),(Ps s1),(Su s1),(Ss s1),(Sr s1),(.d (A3 1 dI s1.2.2.2.2.2.2.2.2.2.2.2.2.1)),(aI s1.2.2.2.2.2.2.2.2.2.2.2.2.2.1),(aI s1.2.2.2.2.2.2.2.2.2.2.2.2.2.2.1),(aI s1.2.2.2.2.2.2.2.2.2.2.2.2.2.2.2)]))],[816,16,880,17,944,1072,1200],1408⟩) ((0:Int),([]:List UInt8),(0:Int),(0:Int),[],[],[],[],[],[],[],[],[],(0:Int),(0:Int),(0:Int)) (wk (B8 [16,32,112]) []) fun s1=>(.sg [(13,⟨Unit,fun x=>[],fun x=>[(1632,(o54_0 a0 s1 x))],[]⟩),(14,⟨(Bk),fun x=>[],fun x=>[(1696,(o54_1 x))],[]⟩),(15,⟨(P45),fun x=>[],fun x=>[(1728,(o54_2 x))],[]⟩),(16,⟨(Bk),fun x=>[],fun x=>[(1792,(M7 x))],[]⟩),(17,⟨(Bk),fun x=>[],fun x=>[(1856,(M7 x))],[]⟩),(18,⟨(Bk),fun x=>[],fun x=>[(1920,(M7 x))],[]⟩),(19,⟨(Bk),fun x=>[],fun x=>[(1984,(M7 x))],[]⟩),(20,⟨(Bk),fun x=>[],fun x=>[(2048,(M7 x))],[]⟩),(21,⟨(Js)×(Bk),fun x=>[],fun x=>[(2112,(o54_4 x))],[]⟩),(23,B4 75 (fun(x:(X0))=>(.tup [(A3 1 dI x.1),(Bs x.2.1),(.bool x.2.2)]))),(25,B4 85 (fun(x:(X0))=>(.tup [(A3 1 dI x.1),(Bs x.2.1),(.bool x.2.2)]))),(27,⟨Unit,fun x=>[],fun x=>[(1792,(o54_5 a0 s1 x))],[]⟩),(28,⟨(Bk),fun x=>[],fun x=>[(1856,(o54_6 x))],[]⟩),(30,⟨(P6)×(Bk),fun x=>[],fun x=>[(1952,(o54_7 x))],[]⟩),(31,⟨(Bk),fun x=>[],fun x=>[(2016,(Fi x)),(1984,(Fi x))],[]⟩),(32,⟨(Bk),fun x=>[],fun x=>[(2144,(Fi x)),(2112,(Fi x))],[]⟩),(33,⟨(Bk),fun x=>[],fun x=>[(2272,(Fi x)),(2240,(Fi x))],[]⟩),(34,⟨(Bk),fun x=>[],fun x=>[(2400,(Fi x)),(2368,(Fi x))],[]⟩),(35,⟨(Js)×(Bk),fun x=>[],fun x=>[(2496,(l7 x)),(2464,(l7 x))],[]⟩),(37,B4 144 (fun(x:(X0))=>(.tup [(A3 1 dI x.1),(Bs x.2.1),(.bool x.2.2)]))),(40,B4 160 (fun(x:(X0))=>(.tup [(A3 1 dI x.1),(Bs x.2.1),(.bool x.2.2)]))),(10,B4 29 (fun(x:(X0))=>(.tup [(A3 1 dI x.1),(Bs x.2.1),(.bool x.2.2)])))] [(1,[2,3,4],[16,32]),(0,[0,2,3,5,20,21,22],[16,32,112]),(2,[0,2,3,5],[16,32,112])] (.ite (decide (s1.1 < (a0.length:Int))) (Bf s1.1 a0 (.ite (s1.1==0) (c3 (p:=fun x13=>Am Tryz.prog 91 [(.d (.agg [(dI (a0.getD s1.1.toNat default).A8),(A3 2 Ag (a0.getD s1.1.toNat default).A2)]))] [] 1632 (o54_0 a0 s1 x13)) (fun x13 (h1:N5 (a0.getD s1.1.toNat default)=some _)=>ok [] [] [(1632,80)] [] (px h1)) fun x13=>(c3 (p:=fun x14=>Am Tryz.prog 92 [(.ptr 1632 0),(.ap 1 1 (As [(.str ([80,69,82,70]:List UInt8))]) (.tok 1680 9))] [(1632,some (li a0 s1))] 1696 (o54_1 x14)) (fun x14 (h1:Jg ([([80,69,82,70]:List UInt8)]:List (List UInt8)) (⟨(a0.getD s1.1.toNat default),(0:Int),(1:Int),(⟨(0:Int),(0:Int),(0:Int)⟩:A5),false⟩:Ab)=some _)=>Lk (py h1) [(0,1632)] [(0,1680)] [(1632,0)] [(1696,0)] (by kernel_rfl) ⟨⟨rfl,rfl⟩,⟨rfl,rfl,rfl,(Aq rfl rfl)⟩,trivial⟩ ⟨_,_,rfl,rfl,⟨dr,dr,dr,dr,dr,dr,dr,dr,trivial⟩⟩ (by kernel_rfl) dr ⟨_,_,rfl,rfl,⟨dr,dr,dr,dr,dr,dr,dr,dr,trivial⟩⟩) fun x14=>(c3 (p:=fun x15=>Am Tryz.prog 116 [(.ptr 1632 0),(aI 8)] [(1632,some (.cells [(aI x14.2.1),(.d (A3 2 Ag x14.2.2.1)),(aI x14.2.2.2.1),(aI x14.2.2.2.2.1),(aI x14.2.2.2.2.2.1),(aI x14.2.2.2.2.2.2.1),(aI x14.2.2.2.2.2.2.2.1),(aB x14.2.2.2.2.2.2.2.2)]))] 1728 (o54_2 x15)) (fun x15 (h1:Qq (8:Int) (⟨(⟨x14.2.1,x14.2.2.1⟩:A7),x14.2.2.2.1,x14.2.2.2.2.1,(⟨x14.2.2.2.2.2.1,x14.2.2.2.2.2.2.1,x14.2.2.2.2.2.2.2.1⟩:A5),x14.2.2.2.2.2.2.2.2⟩:Ab)=some _)=>ok [(0,1632)] [] [(1632,0)] [] (po116o0 h1)) fun x15=>(c3 (p:=fun x16=>Am Tryz.prog 93 [(.ptr 1632 0),(aI 0),(aI 3000000000)] [(1632,some (.cells [(aI x15.2.1),(.d (A3 2 Ag x15.2.2.1)),(aI x15.2.2.2.1),(aI x15.2.2.2.2.1),(aI x15.2.2.2.2.2.1),(aI x15.2.2.2.2.2.2.1),(aI x15.2.2.2.2.2.2.2.1),(aB x15.2.2.2.2.2.2.2.2)]))] 1792 (M7 x16)) (fun x16 (h1:Bx (0:Int) (3000000000:Int) (⟨(⟨x15.2.1,x15.2.2.1⟩:A7),x15.2.2.2.1,x15.2.2.2.2.1,(⟨x15.2.2.2.2.2.1,x15.2.2.2.2.2.2.1,x15.2.2.2.2.2.2.2.1⟩:A5),x15.2.2.2.2.2.2.2.2⟩:Ab)=some _)=>ok [(0,1632)] [] [(1632,0)] [] (Gm h1)) fun x16=>(c3 (p:=fun x17=>Am Tryz.prog 93 [(.ptr 1632 0),(aI 0),(aI 3000000000)] [(1632,some (.cells [(aI x16.2.1),(.d (A3 2 Ag x16.2.2.1)),(aI x16.2.2.2.1),(aI x16.2.2.2.2.1),(aI x16.2.2.2.2.2.1),(aI x16.2.2.2.2.2.2.1),(aI x16.2.2.2.2.2.2.2.1),(aB x16.2.2.2.2.2.2.2.2)]))] 1856 (M7 x17)) (fun x17 (h1:Bx (0:Int) (3000000000:Int) (⟨(⟨x16.2.1,x16.2.2.1⟩:A7),x16.2.2.2.1,x16.2.2.2.2.1,(⟨x16.2.2.2.2.2.1,x16.2.2.2.2.2.2.1,x16.2.2.2.2.2.2.2.1⟩:A5),x16.2.2.2.2.2.2.2.2⟩:Ab)=some _)=>ok [(0,1632)] [] [(1632,0)] [] (Gm h1)) fun x17=>(c3 (p:=fun x18=>Am Tryz.prog 93 [(.ptr 1632 0),(aI 0),(aI 3000000000)] [(1632,some (.cells [(aI x17.2.1),(.d (A3 2 Ag x17.2.2.1)),(aI x17.2.2.2.1),(aI x17.2.2.2.2.1),(aI x17.2.2.2.2.2.1),(aI x17.2.2.2.2.2.2.1),(aI x17.2.2.2.2.2.2.2.1),(aB x17.2.2.2.2.2.2.2.2)]))] 1920 (M7 x18)) (fun x18 (h1:Bx (0:Int) (3000000000:Int) (⟨(⟨x17.2.1,x17.2.2.1⟩:A7),x17.2.2.2.1,x17.2.2.2.2.1,(⟨x17.2.2.2.2.2.1,x17.2.2.2.2.2.2.1,x17.2.2.2.2.2.2.2.1⟩:A5),x17.2.2.2.2.2.2.2.2⟩:Ab)=some _)=>ok [(0,1632)] [] [(1632,0)] [] (Gm h1)) fun x18=>(c3 (p:=fun x19=>Am Tryz.prog 93 [(.ptr 1632 0),(aI 0),(aI 3000000000)] [(1632,some (.cells [(aI x18.2.1),(.d (A3 2 Ag x18.2.2.1)),(aI x18.2.2.2.1),(aI x18.2.2.2.2.1),(aI x18.2.2.2.2.2.1),(aI x18.2.2.2.2.2.2.1),(aI x18.2.2.2.2.2.2.2.1),(aB x18.2.2.2.2.2.2.2.2)]))] 1984 (M7 x19)) (fun x19 (h1:Bx (0:Int) (3000000000:Int) (⟨(⟨x18.2.1,x18.2.2.1⟩:A7),x18.2.2.2.1,x18.2.2.2.2.1,(⟨x18.2.2.2.2.2.1,x18.2.2.2.2.2.2.1,x18.2.2.2.2.2.2.2.1⟩:A5),x18.2.2.2.2.2.2.2.2⟩:Ab)=some _)=>ok [(0,1632)] [] [(1632,0)] [] (Gm h1)) fun x19=>(c3 (p:=fun x20=>Am Tryz.prog 95 [(.ptr 1632 0)] [(1632,some (.cells [(aI x19.2.1),(.d (A3 2 Ag x19.2.2.1)),(aI x19.2.2.2.1),(aI x19.2.2.2.2.1),(aI x19.2.2.2.2.2.1),(aI x19.2.2.2.2.2.2.1),(aI x19.2.2.2.2.2.2.2.1),(aB x19.2.2.2.2.2.2.2.2)]))] 2048 (M7 x20)) (fun x20 (h1:Kq (⟨(⟨x19.2.1,x19.2.2.1⟩:A7),x19.2.2.2.1,x19.2.2.2.2.1,(⟨x19.2.2.2.2.2.1,x19.2.2.2.2.2.2.1,x19.2.2.2.2.2.2.2.1⟩:A5),x19.2.2.2.2.2.2.2.2⟩:Ab)=some _)=>ok [(0,1632)] [] [(1632,0)] [] (pz h1)) fun x20=>(.exi ((Js)×(Bk)) ((Hu (⟨(⟨x20.2.1,x20.2.2.1⟩:A7),x20.2.2.2.1,x20.2.2.2.2.1,(⟨x20.2.2.2.2.2.1,x20.2.2.2.2.2.2.1,x20.2.2.2.2.2.2.2.1⟩:A5),x20.2.2.2.2.2.2.2.2⟩:Ab)).bind fun r21_0=>some (r21_0,x20)) (fun x21=>(.p (Am Tryz.prog 96 [(.ptr 1632 0)] [(1632,some (.cells [(aI x20.2.1),(.d (A3 2 Ag x20.2.2.1)),(aI x20.2.2.2.1),(aI x20.2.2.2.2.1),(aI x20.2.2.2.2.2.1),(aI x20.2.2.2.2.2.2.1),(aI x20.2.2.2.2.2.2.2.1),(aB x20.2.2.2.2.2.2.2.2)]))] 2112 (o54_4 x21)) (.fin 0))) (by intro x21 h;obtain⟨r21_0,h1,h⟩:=Ao h;cases h;exact⟨ok [(0,1632)] [] [(1632,0)] [] (cu h1),trivial⟩) (fun x21 _=>(.ite x21.1.1 (.ret .ret ⟨L1,[(16,Ch),(32,(.cells [(aI x21.1.2.1),(aI x21.1.2.2.1),(aI x21.1.2.2.2)]))],[1696,816,16,880,17,944,1072,1200],2304⟩ (.inr (.inr (((⟨([]:List UInt8),(0:Int),(0:Int),[],[],[],[],[],[],[],[],[],(0:Int),(0:Int),(0:Int)⟩:Ah),(⟨x21.1.2.1,x21.1.2.2.1,x21.1.2.2.2⟩:A5),true)))) ⟨rfl,rfl,rfl,_,Ae,⟨⟨dr,dr,dr,Aa,Aa,Aa,Aa,Aa,Aa,Aa,Aa,Aa,dr,dr,dr,trivial⟩,dr,dr,trivial⟩⟩) (.ret .normal ⟨(Pr a0 s1),[(16,Ch),(32,Gg),(112,(.cells [(aS x15.1),(aI x16.1),(aI x17.1),(Sv s1),(.d (A3 1 dI s1.2.2.2.2.2.1)),(Pu s1),(Pt s1),(Ps s1),(Su s1),(Ss s1),(Sr s1),(.d (A3 1 dI s1.2.2.2.2.2.2.2.2.2.2.2.2.1)),(aI x18.1),(aI x19.1),(aI x20.1)]))],[1696,816,16,880,17,944,1072,1200],2256⟩ (.inl ((A6 (s1.1+1)),x15.1,x16.1,x17.1,s1.2.2.2.2.1,s1.2.2.2.2.2.1,s1.2.2.2.2.2.2.1,s1.2.2.2.2.2.2.2.1,s1.2.2.2.2.2.2.2.2.1,s1.2.2.2.2.2.2.2.2.2.1,s1.2.2.2.2.2.2.2.2.2.2.1,s1.2.2.2.2.2.2.2.2.2.2.2.1,s1.2.2.2.2.2.2.2.2.2.2.2.2.1,x18.1,x19.1,x20.1)) ⟨rfl,(wk (B8 [16,32,112]) (B8 [816,16,880,17,944,1072,1200]))⟩)))))))))))) (.ite (s1.1==1) (c3 (@pm (a0.getD s1.1.toNat default) ([77,65,83,83,69,83]:List UInt8)) fun x23=>(.ite x23.2.2 (.ret .ret ⟨L1,[(16,Ch),(32,(.cells (B6 x23.2.1)))],[816,16,880,17,944,1072,1200],1920⟩ (.inr (.inr (((⟨([]:List UInt8),(0:Int),(0:Int),[],[],[],[],[],[],[],[],[],(0:Int),(0:Int),(0:Int)⟩:Ah),x23.2.1,true)))) ⟨rfl,rfl,rfl,_,Ae,⟨⟨dr,dr,dr,Aa,Aa,Aa,Aa,Aa,Aa,Aa,Aa,Aa,dr,dr,dr,trivial⟩,dr,dr,trivial⟩⟩) (.ret .normal ⟨(Pr a0 s1),[(16,Ch),(32,Gg),(112,(.cells [(aS s1.2.1),(aI s1.2.2.1),(aI s1.2.2.2.1),(Sv s1),(.d (A3 1 dI x23.1)),(Pu s1),(Pt s1),(Ps s1),(Su s1),(Ss s1),(Sr s1),(.d (A3 1 dI s1.2.2.2.2.2.2.2.2.2.2.2.2.1)),(aI s1.2.2.2.2.2.2.2.2.2.2.2.2.2.1),(aI s1.2.2.2.2.2.2.2.2.2.2.2.2.2.2.1),(aI s1.2.2.2.2.2.2.2.2.2.2.2.2.2.2.2)]))],[816,16,880,17,944,1072,1200],1872⟩ (.inl ((A6 (s1.1+1)),s1.2.1,s1.2.2.1,s1.2.2.2.1,s1.2.2.2.2.1,x23.1,s1.2.2.2.2.2.2.1,s1.2.2.2.2.2.2.2.1,s1.2.2.2.2.2.2.2.2.1,s1.2.2.2.2.2.2.2.2.2.1,s1.2.2.2.2.2.2.2.2.2.2.1,s1.2.2.2.2.2.2.2.2.2.2.2.1,s1.2.2.2.2.2.2.2.2.2.2.2.2.1,s1.2.2.2.2.2.2.2.2.2.2.2.2.2.1,s1.2.2.2.2.2.2.2.2.2.2.2.2.2.2.1,s1.2.2.2.2.2.2.2.2.2.2.2.2.2.2.2)) ⟨rfl,(wk (B8 [16,32,112]) (B8 [816,16,880,17,944,1072,1200]))⟩))) (.ite (s1.1==2) (c3 (@pm (a0.getD s1.1.toNat default) ([77,73,78,83,80,69,69,68]:List UInt8)) fun x25=>(.ite x25.2.2 (.ret .ret ⟨L1,[(16,Ch),(32,(.cells (B6 x25.2.1)))],[816,16,880,17,944,1072,1200],1968⟩ (.inr (.inr (((⟨([]:List UInt8),(0:Int),(0:Int),[],[],[],[],[],[],[],[],[],(0:Int),(0:Int),(0:Int)⟩:Ah),x25.2.1,true)))) ⟨rfl,rfl,rfl,_,Ae,⟨⟨dr,dr,dr,Aa,Aa,Aa,Aa,Aa,Aa,Aa,Aa,Aa,dr,dr,dr,trivial⟩,dr,dr,trivial⟩⟩) (.ret .normal ⟨(Pr a0 s1),[(16,Ch),(32,Gg),(112,(.cells [(aS s1.2.1),(aI s1.2.2.1),(aI s1.2.2.2.1),(Sv s1),(.d (A3 1 dI s1.2.2.2.2.2.1)),(Pu s1),(Pt s1),(Ps s1),(Su s1),(Ss s1),(Sr s1),(.d (A3 1 dI x25.1)),(aI s1.2.2.2.2.2.2.2.2.2.2.2.2.2.1),(aI s1.2.2.2.2.2.2.2.2.2.2.2.2.2.2.1),(aI s1.2.2.2.2.2.2.2.2.2.2.2.2.2.2.2)]))],[816,16,880,17,944,1072,1200],1920⟩ (.inl ((A6 (s1.1+1)),s1.2.1,s1.2.2.1,s1.2.2.2.1,s1.2.2.2.2.1,s1.2.2.2.2.2.1,s1.2.2.2.2.2.2.1,s1.2.2.2.2.2.2.2.1,s1.2.2.2.2.2.2.2.2.1,s1.2.2.2.2.2.2.2.2.2.1,s1.2.2.2.2.2.2.2.2.2.2.1,s1.2.2.2.2.2.2.2.2.2.2.2.1,x25.1,s1.2.2.2.2.2.2.2.2.2.2.2.2.2.1,s1.2.2.2.2.2.2.2.2.2.2.2.2.2.2.1,s1.2.2.2.2.2.2.2.2.2.2.2.2.2.2.2)) ⟨rfl,(wk (B8 [16,32,112]) (B8 [816,16,880,17,944,1072,1200]))⟩))) (nd ((4:Int)≠0) (.ite ((Int.tmod s1.1 (4:Int))==3) (c3 (p:=fun x27=>Am Tryz.prog 91 [(.d (.agg [(dI (a0.getD s1.1.toNat default).A8),(A3 2 Ag (a0.getD s1.1.toNat default).A2)]))] [] 1792 (o54_5 a0 s1 x27)) (fun x27 (h1:N5 (a0.getD s1.1.toNat default)=some _)=>ok [] [] [(1792,80)] [] (px h1)) fun x27=>(c3 (p:=fun x28=>Am Tryz.prog 92 [(.ptr 1792 0),(.ap 1 1 (As [(.str ([82,79,87]:List UInt8))]) (.tok 1840 9))] [(1792,some (li a0 s1))] 1856 (o54_6 x28)) (fun x28 (h1:Jg ([([82,79,87]:List UInt8)]:List (List UInt8)) (⟨(a0.getD s1.1.toNat default),(0:Int),(1:Int),(⟨(0:Int),(0:Int),(0:Int)⟩:A5),false⟩:Ab)=some _)=>Lk (py h1) [(0,1792)] [(0,1840)] [(1792,0)] [(1856,0)] (by kernel_rfl) ⟨⟨rfl,rfl⟩,⟨rfl,rfl,rfl,(Aq rfl rfl)⟩,trivial⟩ ⟨_,_,rfl,rfl,⟨dr,dr,dr,dr,dr,dr,dr,dr,trivial⟩⟩ (by kernel_rfl) dr ⟨_,_,rfl,rfl,⟨dr,dr,dr,dr,dr,dr,dr,dr,trivial⟩⟩) fun x28=>(.ite ((s1.2.2.2.2.1.length:Int)==(12:Int)) (.exi ((P6)×(Bk)) ((We (3:Int) (⟨(⟨x28.2.1,x28.2.2.1⟩:A7),x28.2.2.2.1,x28.2.2.2.2.1,(⟨x28.2.2.2.2.2.1,x28.2.2.2.2.2.2.1,x28.2.2.2.2.2.2.2.1⟩:A5),x28.2.2.2.2.2.2.2.2⟩:Ab)).bind fun r30_0=>some (r30_0,x28)) (fun x30=>(.p (Am Tryz.prog 94 [(.ptr 1792 0),(aI 3)] [(1792,some (.cells [(aI x28.2.1),(.d (A3 2 Ag x28.2.2.1)),(aI x28.2.2.2.1),(aI x28.2.2.2.2.1),(aI x28.2.2.2.2.2.1),(aI x28.2.2.2.2.2.2.1),(aI x28.2.2.2.2.2.2.2.1),(aB x28.2.2.2.2.2.2.2.2)]))] 1952 (o54_7 x30)) (.fin 0))) (by intro x30 h;obtain⟨r30_0,h1,h⟩:=Ao h;cases h;exact⟨ok [(0,1792)] [] [(1792,0)] [] (po94o0 h1),trivial⟩) (fun x30 _=>(.exi ((Bk)) ((Kq (⟨(⟨(⟨x30.2.2.1,x30.2.2.2.1⟩:A7),x30.2.2.2.2.1,x30.2.2.2.2.2.1,(⟨x30.2.2.2.2.2.2.1,x30.2.2.2.2.2.2.2.1,x30.2.2.2.2.2.2.2.2.1⟩:A5),x30.2.2.2.2.2.2.2.2.2⟩:Ab).line,(⟨(⟨x30.2.2.1,x30.2.2.2.1⟩:A7),x30.2.2.2.2.1,x30.2.2.2.2.2.1,(⟨x30.2.2.2.2.2.2.1,x30.2.2.2.2.2.2.2.1,x30.2.2.2.2.2.2.2.2.1⟩:A5),x30.2.2.2.2.2.2.2.2.2⟩:Ab).at_,(⟨(⟨x30.2.2.1,x30.2.2.2.1⟩:A7),x30.2.2.2.2.1,x30.2.2.2.2.2.1,(⟨x30.2.2.2.2.2.2.1,x30.2.2.2.2.2.2.2.1,x30.2.2.2.2.2.2.2.2.1⟩:A5),x30.2.2.2.2.2.2.2.2.2⟩:Ab).last,(⟨x30.1.1,x30.1.2.1,x30.1.2.2.1⟩:A5),x30.1.2.2.2⟩:Ab)).bind fun r31_0=>(if(s1.2.2.2.2.1.length+1) * 8≤140737488355328 then some r31_0 else none)) (fun x31=>(.p (Am Tryz.prog 95 [(.ptr 1792 0)] [(1792,some (.cells [(aI (⟨(⟨x30.2.2.1,x30.2.2.2.1⟩:A7),x30.2.2.2.2.1,x30.2.2.2.2.2.1,(⟨x30.2.2.2.2.2.2.1,x30.2.2.2.2.2.2.2.1,x30.2.2.2.2.2.2.2.2.1⟩:A5),x30.2.2.2.2.2.2.2.2.2⟩:Ab).line.A8),(.d (A3 2 Ag (⟨(⟨x30.2.2.1,x30.2.2.2.1⟩:A7),x30.2.2.2.2.1,x30.2.2.2.2.2.1,(⟨x30.2.2.2.2.2.2.1,x30.2.2.2.2.2.2.2.1,x30.2.2.2.2.2.2.2.2.1⟩:A5),x30.2.2.2.2.2.2.2.2.2⟩:Ab).line.A2)),(aI (⟨(⟨x30.2.2.1,x30.2.2.2.1⟩:A7),x30.2.2.2.2.1,x30.2.2.2.2.2.1,(⟨x30.2.2.2.2.2.2.1,x30.2.2.2.2.2.2.2.1,x30.2.2.2.2.2.2.2.2.1⟩:A5),x30.2.2.2.2.2.2.2.2.2⟩:Ab).at_),(aI (⟨(⟨x30.2.2.1,x30.2.2.2.1⟩:A7),x30.2.2.2.2.1,x30.2.2.2.2.2.1,(⟨x30.2.2.2.2.2.2.1,x30.2.2.2.2.2.2.2.1,x30.2.2.2.2.2.2.2.2.1⟩:A5),x30.2.2.2.2.2.2.2.2.2⟩:Ab).last),(aI x30.1.1),(aI x30.1.2.1),(aI x30.1.2.2.1),(aB x30.1.2.2.2)]))] 2016 (Fi x31)) (.p ((s1.2.2.2.2.1.length+1) * 8≤140737488355328) (.fin 0)))) (by intro x31 h;obtain⟨r31_0,h1,h⟩:=Ao h;obtain⟨h2,h⟩:=Ac h;cases h;exact⟨ok [(0,1792)] [] [(1792,0)] [] (pz h1),h2,trivial⟩) (fun x31 _=>(.exi ((Bk)) ((Bx (0:Int) (3000000000:Int) (⟨(⟨x31.2.1,x31.2.2.1⟩:A7),x31.2.2.2.1,x31.2.2.2.2.1,(⟨x31.2.2.2.2.2.1,x31.2.2.2.2.2.2.1,x31.2.2.2.2.2.2.2.1⟩:A5),x31.2.2.2.2.2.2.2.2⟩:Ab)).bind fun r32_0=>(if(s1.2.2.2.2.2.2.2.2.2.1.length+1) * 8≤140737488355328 then some r32_0 else none)) (fun x32=>(.p (Am Tryz.prog 93 [(.ptr 1792 0),(aI 0),(aI 3000000000)] [(1792,some (.cells [(aI x31.2.1),(.d (A3 2 Ag x31.2.2.1)),(aI x31.2.2.2.1),(aI x31.2.2.2.2.1),(aI x31.2.2.2.2.2.1),(aI x31.2.2.2.2.2.2.1),(aI x31.2.2.2.2.2.2.2.1),(aB x31.2.2.2.2.2.2.2.2)]))] 2144 (Fi x32)) (.p ((s1.2.2.2.2.2.2.2.2.2.1.length+1) * 8≤140737488355328) (.fin 0)))) (by intro x32 h;obtain⟨r32_0,h1,h⟩:=Ao h;obtain⟨h2,h⟩:=Ac h;cases h;exact⟨ok [(0,1792)] [] [(1792,0)] [] (Gm h1),h2,trivial⟩) (fun x32 _=>(.exi ((Bk)) ((Bx (0:Int) (3000000000:Int) (⟨(⟨x32.2.1,x32.2.2.1⟩:A7),x32.2.2.2.1,x32.2.2.2.2.1,(⟨x32.2.2.2.2.2.1,x32.2.2.2.2.2.2.1,x32.2.2.2.2.2.2.2.1⟩:A5),x32.2.2.2.2.2.2.2.2⟩:Ab)).bind fun r33_0=>(if(s1.2.2.2.2.2.2.2.2.2.2.1.length+1) * 8≤140737488355328 then some r33_0 else none)) (fun x33=>(.p (Am Tryz.prog 93 [(.ptr 1792 0),(aI 0),(aI 3000000000)] [(1792,some (.cells [(aI x32.2.1),(.d (A3 2 Ag x32.2.2.1)),(aI x32.2.2.2.1),(aI x32.2.2.2.2.1),(aI x32.2.2.2.2.2.1),(aI x32.2.2.2.2.2.2.1),(aI x32.2.2.2.2.2.2.2.1),(aB x32.2.2.2.2.2.2.2.2)]))] 2272 (Fi x33)) (.p ((s1.2.2.2.2.2.2.2.2.2.2.1.length+1) * 8≤140737488355328) (.fin 0)))) (by intro x33 h;obtain⟨r33_0,h1,h⟩:=Ao h;obtain⟨h2,h⟩:=Ac h;cases h;exact⟨ok [(0,1792)] [] [(1792,0)] [] (Gm h1),h2,trivial⟩) (fun x33 _=>(.exi ((Bk)) ((Bx (0:Int) (3000000000:Int) (⟨(⟨x33.2.1,x33.2.2.1⟩:A7),x33.2.2.2.1,x33.2.2.2.2.1,(⟨x33.2.2.2.2.2.1,x33.2.2.2.2.2.2.1,x33.2.2.2.2.2.2.2.1⟩:A5),x33.2.2.2.2.2.2.2.2⟩:Ab)).bind fun r34_0=>(if(s1.2.2.2.2.2.2.2.2.2.2.2.1.length+1) * 8≤140737488355328 then some r34_0 else none)) (fun x34=>(.p (Am Tryz.prog 93 [(.ptr 1792 0),(aI 0),(aI 3000000000)] [(1792,some (.cells [(aI x33.2.1),(.d (A3 2 Ag x33.2.2.1)),(aI x33.2.2.2.1),(aI x33.2.2.2.2.1),(aI x33.2.2.2.2.2.1),(aI x33.2.2.2.2.2.2.1),(aI x33.2.2.2.2.2.2.2.1),(aB x33.2.2.2.2.2.2.2.2)]))] 2400 (Fi x34)) (.p ((s1.2.2.2.2.2.2.2.2.2.2.2.1.length+1) * 8≤140737488355328) (.fin 0)))) (by intro x34 h;obtain⟨r34_0,h1,h⟩:=Ao h;obtain⟨h2,h⟩:=Ac h;cases h;exact⟨ok [(0,1792)] [] [(1792,0)] [] (Gm h1),h2,trivial⟩) (fun x34 _=>(.exi ((Js)×(Bk)) ((Hu (⟨(⟨x34.2.1,x34.2.2.1⟩:A7),x34.2.2.2.1,x34.2.2.2.2.1,(⟨x34.2.2.2.2.2.1,x34.2.2.2.2.2.2.1,x34.2.2.2.2.2.2.2.1⟩:A5),x34.2.2.2.2.2.2.2.2⟩:Ab)).bind fun r35_0=>some (r35_0,x34)) (fun x35=>(.p (Am Tryz.prog 96 [(.ptr 1792 0)] [(1792,some (.cells [(aI x34.2.1),(.d (A3 2 Ag x34.2.2.1)),(aI x34.2.2.2.1),(aI x34.2.2.2.2.1),(aI x34.2.2.2.2.2.1),(aI x34.2.2.2.2.2.2.1),(aI x34.2.2.2.2.2.2.2.1),(aB x34.2.2.2.2.2.2.2.2)]))] 2496 (l7 x35)) (.fin 0))) (by intro x35 h;obtain⟨r35_0,h1,h⟩:=Ao h;cases h;exact⟨ok [(0,1792)] [] [(1792,0)] [] (cu h1),trivial⟩) (fun x35 _=>(.ite x35.1.1 (.ret .ret ⟨L1,[(16,Ch),(32,(.cells [(aI x35.1.2.1),(aI x35.1.2.2.1),(aI x35.1.2.2.2)]))],[2432,2416,2304,2288,2176,2160,2048,2032,1856,16,880,17],2688⟩ (.inr (.inr (((⟨([]:List UInt8),(0:Int),(0:Int),[],[],[],[],[],[],[],[],[],(0:Int),(0:Int),(0:Int)⟩:Ah),(⟨x35.1.2.1,x35.1.2.2.1,x35.1.2.2.2⟩:A5),true)))) ⟨rfl,rfl,rfl,_,Ae,⟨⟨dr,dr,dr,Aa,Aa,Aa,Aa,Aa,Aa,Aa,Aa,Aa,dr,dr,dr,trivial⟩,dr,dr,trivial⟩⟩) (.ret .normal ⟨(Pr a0 s1),[(16,Ch),(32,Gg),(112,(.cells [(aS s1.2.1),(aI s1.2.2.1),(aI s1.2.2.2.1),(.ap 1 (s1.2.2.2.2.1.length+1) (Bb s1.2.2.2.2.1.length (cF dI s1.2.2.2.2.1) (As [(dI x31.1)])) (.tok 2048 2)),(.d (A3 1 dI s1.2.2.2.2.2.1)),(Pu s1),(Pt s1),(Ps s1),(.ap 1 (s1.2.2.2.2.2.2.2.2.2.1.length+1) (Bb s1.2.2.2.2.2.2.2.2.2.1.length (cF dI s1.2.2.2.2.2.2.2.2.2.1) (As [(dI x32.1)])) (.tok 2176 2)),(.ap 1 (s1.2.2.2.2.2.2.2.2.2.2.1.length+1) (Bb s1.2.2.2.2.2.2.2.2.2.2.1.length (cF dI s1.2.2.2.2.2.2.2.2.2.2.1) (As [(dI x33.1)])) (.tok 2304 2)),(.ap 1 (s1.2.2.2.2.2.2.2.2.2.2.2.1.length+1) (Bb s1.2.2.2.2.2.2.2.2.2.2.2.1.length (cF dI s1.2.2.2.2.2.2.2.2.2.2.2.1) (As [(dI x34.1)])) (.tok 2432 2)),(.d (A3 1 dI s1.2.2.2.2.2.2.2.2.2.2.2.2.1)),(aI s1.2.2.2.2.2.2.2.2.2.2.2.2.2.1),(aI s1.2.2.2.2.2.2.2.2.2.2.2.2.2.2.1),(aI s1.2.2.2.2.2.2.2.2.2.2.2.2.2.2.2)]))],[2432,2416,2304,2288,2176,2160,2048,2032,1856,16,880,17],2640⟩ (.inl ((A6 (s1.1+1)),s1.2.1,s1.2.2.1,s1.2.2.2.1,(s1.2.2.2.2.1++([x31.1]:List Int)),s1.2.2.2.2.2.1,s1.2.2.2.2.2.2.1,s1.2.2.2.2.2.2.2.1,s1.2.2.2.2.2.2.2.2.1,(s1.2.2.2.2.2.2.2.2.2.1++([x32.1]:List Int)),(s1.2.2.2.2.2.2.2.2.2.2.1++([x33.1]:List Int)),(s1.2.2.2.2.2.2.2.2.2.2.2.1++([x34.1]:List Int)),s1.2.2.2.2.2.2.2.2.2.2.2.2.1,s1.2.2.2.2.2.2.2.2.2.2.2.2.2.1,s1.2.2.2.2.2.2.2.2.2.2.2.2.2.2.1,s1.2.2.2.2.2.2.2.2.2.2.2.2.2.2.2)) ⟨rfl,(ws (B8 [16,32,112]) [(816,2048),(16,16),(880,880),(17,17),(944,2176),(1072,2304),(1200,2432)] ⟨⟨_,_,rfl,rfl,⟨dr,dr,dr,rfl,rfl,rfl,rfl,rfl,rfl,rfl,rfl,rfl,dr,dr,dr,trivial⟩⟩,⟨_,_,rfl,rfl,⟨dr,dr,dr,trivial⟩⟩,⟨_,_,rfl,rfl,⟨dr,dr,dr,⟨rfl,rfl,rfl,(B5 dr (Aq rfl rfl))⟩,dr,⟨rfl,rfl,rfl,dr⟩,⟨rfl,rfl,rfl,dr⟩,⟨rfl,rfl,rfl,dr⟩,⟨rfl,rfl,rfl,(B5 dr (Aq rfl rfl))⟩,⟨rfl,rfl,rfl,(B5 dr (Aq rfl rfl))⟩,⟨rfl,rfl,rfl,(B5 dr (Aq rfl rfl))⟩,dr,dr,dr,dr,trivial⟩⟩⟩)⟩)))))))))))))) (.exi ((Bk)) ((Kq (⟨(⟨x28.2.1,x28.2.2.1⟩:A7),x28.2.2.2.1,x28.2.2.2.2.1,(⟨x28.2.2.2.2.2.1,x28.2.2.2.2.2.2.1,x28.2.2.2.2.2.2.2.1⟩:A5),x28.2.2.2.2.2.2.2.2⟩:Ab)).bind fun r31_0=>(if(s1.2.2.2.2.1.length+1) * 8≤140737488355328 then some r31_0 else none)) (fun x31=>(.p (Am Tryz.prog 95 [(.ptr 1792 0)] [(1792,some (.cells [(aI x28.2.1),(.d (A3 2 Ag x28.2.2.1)),(aI x28.2.2.2.1),(aI x28.2.2.2.2.1),(aI x28.2.2.2.2.2.1),(aI x28.2.2.2.2.2.2.1),(aI x28.2.2.2.2.2.2.2.1),(aB x28.2.2.2.2.2.2.2.2)]))] 1984 (Fi x31)) (.p ((s1.2.2.2.2.1.length+1) * 8≤140737488355328) (.fin 0)))) (by intro x31 h;obtain⟨r31_0,h1,h⟩:=Ao h;obtain⟨h2,h⟩:=Ac h;cases h;exact⟨ok [(0,1792)] [] [(1792,0)] [] (pz h1),h2,trivial⟩) (fun x31 _=>(.exi ((Bk)) ((Bx (0:Int) (3000000000:Int) (⟨(⟨x31.2.1,x31.2.2.1⟩:A7),x31.2.2.2.1,x31.2.2.2.2.1,(⟨x31.2.2.2.2.2.1,x31.2.2.2.2.2.2.1,x31.2.2.2.2.2.2.2.1⟩:A5),x31.2.2.2.2.2.2.2.2⟩:Ab)).bind fun r32_0=>(if(s1.2.2.2.2.2.2.2.2.2.1.length+1) * 8≤140737488355328 then some r32_0 else none)) (fun x32=>(.p (Am Tryz.prog 93 [(.ptr 1792 0),(aI 0),(aI 3000000000)] [(1792,some (.cells [(aI x31.2.1),(.d (A3 2 Ag x31.2.2.1)),(aI x31.2.2.2.1),(aI x31.2.2.2.2.1),(aI x31.2.2.2.2.2.1),(aI x31.2.2.2.2.2.2.1),(aI x31.2.2.2.2.2.2.2.1),(aB x31.2.2.2.2.2.2.2.2)]))] 2112 (Fi x32)) (.p ((s1.2.2.2.2.2.2.2.2.2.1.length+1) * 8≤140737488355328) (.fin 0)))) (by intro x32 h;obtain⟨r32_0,h1,h⟩:=Ao h;obtain⟨h2,h⟩:=Ac h;cases h;exact⟨ok [(0,1792)] [] [(1792,0)] [] (Gm h1),h2,trivial⟩) (fun x32 _=>(.exi ((Bk)) ((Bx (0:Int) (3000000000:Int) (⟨(⟨x32.2.1,x32.2.2.1⟩:A7),x32.2.2.2.1,x32.2.2.2.2.1,(⟨x32.2.2.2.2.2.1,x32.2.2.2.2.2.2.1,x32.2.2.2.2.2.2.2.1⟩:A5),x32.2.2.2.2.2.2.2.2⟩:Ab)).bind fun r33_0=>(if(s1.2.2.2.2.2.2.2.2.2.2.1.length+1) * 8≤140737488355328 then some r33_0 else none)) (fun x33=>(.p (Am Tryz.prog 93 [(.ptr 1792 0),(aI 0),(aI 3000000000)] [(1792,some (.cells [(aI x32.2.1),(.d (A3 2 Ag x32.2.2.1)),(aI x32.2.2.2.1),(aI x32.2.2.2.2.1),(aI x32.2.2.2.2.2.1),(aI x32.2.2.2.2.2.2.1),(aI x32.2.2.2.2.2.2.2.1),(aB x32.2.2.2.2.2.2.2.2)]))] 2240 (Fi x33)) (.p ((s1.2.2.2.2.2.2.2.2.2.2.1.length+1) * 8≤140737488355328) (.fin 0)))) (by intro x33 h;obtain⟨r33_0,h1,h⟩:=Ao h;obtain⟨h2,h⟩:=Ac h;cases h;exact⟨ok [(0,1792)] [] [(1792,0)] [] (Gm h1),h2,trivial⟩) (fun x33 _=>(.exi ((Bk)) ((Bx (0:Int) (3000000000:Int) (⟨(⟨x33.2.1,x33.2.2.1⟩:A7),x33.2.2.2.1,x33.2.2.2.2.1,(⟨x33.2.2.2.2.2.1,x33.2.2.2.2.2.2.1,x33.2.2.2.2.2.2.2.1⟩:A5),x33.2.2.2.2.2.2.2.2⟩:Ab)).bind fun r34_0=>(if(s1.2.2.2.2.2.2.2.2.2.2.2.1.length+1) * 8≤140737488355328 then some r34_0 else none)) (fun x34=>(.p (Am Tryz.prog 93 [(.ptr 1792 0),(aI 0),(aI 3000000000)] [(1792,some (.cells [(aI x33.2.1),(.d (A3 2 Ag x33.2.2.1)),(aI x33.2.2.2.1),(aI x33.2.2.2.2.1),(aI x33.2.2.2.2.2.1),(aI x33.2.2.2.2.2.2.1),(aI x33.2.2.2.2.2.2.2.1),(aB x33.2.2.2.2.2.2.2.2)]))] 2368 (Fi x34)) (.p ((s1.2.2.2.2.2.2.2.2.2.2.2.1.length+1) * 8≤140737488355328) (.fin 0)))) (by intro x34 h;obtain⟨r34_0,h1,h⟩:=Ao h;obtain⟨h2,h⟩:=Ac h;cases h;exact⟨ok [(0,1792)] [] [(1792,0)] [] (Gm h1),h2,trivial⟩) (fun x34 _=>(.exi ((Js)×(Bk)) ((Hu (⟨(⟨x34.2.1,x34.2.2.1⟩:A7),x34.2.2.2.1,x34.2.2.2.2.1,(⟨x34.2.2.2.2.2.1,x34.2.2.2.2.2.2.1,x34.2.2.2.2.2.2.2.1⟩:A5),x34.2.2.2.2.2.2.2.2⟩:Ab)).bind fun r35_0=>some (r35_0,x34)) (fun x35=>(.p (Am Tryz.prog 96 [(.ptr 1792 0)] [(1792,some (.cells [(aI x34.2.1),(.d (A3 2 Ag x34.2.2.1)),(aI x34.2.2.2.1),(aI x34.2.2.2.2.1),(aI x34.2.2.2.2.2.1),(aI x34.2.2.2.2.2.2.1),(aI x34.2.2.2.2.2.2.2.1),(aB x34.2.2.2.2.2.2.2.2)]))] 2464 (l7 x35)) (.fin 0))) (by intro x35 h;obtain⟨r35_0,h1,h⟩:=Ao h;cases h;exact⟨ok [(0,1792)] [] [(1792,0)] [] (cu h1),trivial⟩) (fun x35 _=>(.ite x35.1.1 (.ret .ret ⟨L1,[(16,Ch),(32,(.cells [(aI x35.1.2.1),(aI x35.1.2.2.1),(aI x35.1.2.2.2)]))],[2400,2384,2272,2256,2144,2128,2016,2000,1856,16,880,17],2656⟩ (.inr (.inr (((⟨([]:List UInt8),(0:Int),(0:Int),[],[],[],[],[],[],[],[],[],(0:Int),(0:Int),(0:Int)⟩:Ah),(⟨x35.1.2.1,x35.1.2.2.1,x35.1.2.2.2⟩:A5),true)))) ⟨rfl,rfl,rfl,_,Ae,⟨⟨dr,dr,dr,Aa,Aa,Aa,Aa,Aa,Aa,Aa,Aa,Aa,dr,dr,dr,trivial⟩,dr,dr,trivial⟩⟩) (.ret .normal ⟨(Pr a0 s1),[(16,Ch),(32,Gg),(112,(.cells [(aS s1.2.1),(aI s1.2.2.1),(aI s1.2.2.2.1),(.ap 1 (s1.2.2.2.2.1.length+1) (Bb s1.2.2.2.2.1.length (cF dI s1.2.2.2.2.1) (As [(dI x31.1)])) (.tok 2016 2)),(.d (A3 1 dI s1.2.2.2.2.2.1)),(Pu s1),(Pt s1),(Ps s1),(.ap 1 (s1.2.2.2.2.2.2.2.2.2.1.length+1) (Bb s1.2.2.2.2.2.2.2.2.2.1.length (cF dI s1.2.2.2.2.2.2.2.2.2.1) (As [(dI x32.1)])) (.tok 2144 2)),(.ap 1 (s1.2.2.2.2.2.2.2.2.2.2.1.length+1) (Bb s1.2.2.2.2.2.2.2.2.2.2.1.length (cF dI s1.2.2.2.2.2.2.2.2.2.2.1) (As [(dI x33.1)])) (.tok 2272 2)),(.ap 1 (s1.2.2.2.2.2.2.2.2.2.2.2.1.length+1) (Bb s1.2.2.2.2.2.2.2.2.2.2.2.1.length (cF dI s1.2.2.2.2.2.2.2.2.2.2.2.1) (As [(dI x34.1)])) (.tok 2400 2)),(.d (A3 1 dI s1.2.2.2.2.2.2.2.2.2.2.2.2.1)),(aI s1.2.2.2.2.2.2.2.2.2.2.2.2.2.1),(aI s1.2.2.2.2.2.2.2.2.2.2.2.2.2.2.1),(aI s1.2.2.2.2.2.2.2.2.2.2.2.2.2.2.2)]))],[2400,2384,2272,2256,2144,2128,2016,2000,1856,16,880,17],2608⟩ (.inl ((A6 (s1.1+1)),s1.2.1,s1.2.2.1,s1.2.2.2.1,(s1.2.2.2.2.1++([x31.1]:List Int)),s1.2.2.2.2.2.1,s1.2.2.2.2.2.2.1,s1.2.2.2.2.2.2.2.1,s1.2.2.2.2.2.2.2.2.1,(s1.2.2.2.2.2.2.2.2.2.1++([x32.1]:List Int)),(s1.2.2.2.2.2.2.2.2.2.2.1++([x33.1]:List Int)),(s1.2.2.2.2.2.2.2.2.2.2.2.1++([x34.1]:List Int)),s1.2.2.2.2.2.2.2.2.2.2.2.2.1,s1.2.2.2.2.2.2.2.2.2.2.2.2.2.1,s1.2.2.2.2.2.2.2.2.2.2.2.2.2.2.1,s1.2.2.2.2.2.2.2.2.2.2.2.2.2.2.2)) ⟨rfl,(ws (B8 [16,32,112]) [(816,2016),(16,16),(880,880),(17,17),(944,2144),(1072,2272),(1200,2400)] ⟨⟨_,_,rfl,rfl,⟨dr,dr,dr,rfl,rfl,rfl,rfl,rfl,rfl,rfl,rfl,rfl,dr,dr,dr,trivial⟩⟩,⟨_,_,rfl,rfl,⟨dr,dr,dr,trivial⟩⟩,⟨_,_,rfl,rfl,⟨dr,dr,dr,⟨rfl,rfl,rfl,(B5 dr (Aq rfl rfl))⟩,dr,⟨rfl,rfl,rfl,dr⟩,⟨rfl,rfl,rfl,dr⟩,⟨rfl,rfl,rfl,dr⟩,⟨rfl,rfl,rfl,(B5 dr (Aq rfl rfl))⟩,⟨rfl,rfl,rfl,(B5 dr (Aq rfl rfl))⟩,⟨rfl,rfl,rfl,(B5 dr (Aq rfl rfl))⟩,dr,dr,dr,dr,trivial⟩⟩⟩)⟩))))))))))))))) (nd ((4:Int)≠0) (.ite ((Int.tmod s1.1 (4:Int))==0) (c3 (@pm (a0.getD s1.1.toNat default) ([67,76,73,77,66]:List UInt8)) fun x37=>(nd ((s1.2.2.2.2.2.2.1.length+1) * 24≤140737488355328) (.ite x37.2.2 (.ret .ret ⟨L1,[(16,Ch),(32,(.cells (B6 x37.2.1)))],[2048,2032,816,880,17,944,1072,1200],2192⟩ (.inr (.inr (((⟨([]:List UInt8),(0:Int),(0:Int),[],[],[],[],[],[],[],[],[],(0:Int),(0:Int),(0:Int)⟩:Ah),x37.2.1,true)))) ⟨rfl,rfl,rfl,_,Ae,⟨⟨dr,dr,dr,Aa,Aa,Aa,Aa,Aa,Aa,Aa,Aa,Aa,dr,dr,dr,trivial⟩,dr,dr,trivial⟩⟩) (.ret .normal ⟨(Pr a0 s1),[(16,Ch),(32,Gg),(112,(.cells [(aS s1.2.1),(aI s1.2.2.1),(aI s1.2.2.2.1),(Sv s1),(.d (A3 1 dI s1.2.2.2.2.2.1)),(.ap 1 (s1.2.2.2.2.2.2.1.length+1) (Bb s1.2.2.2.2.2.2.1.length (cF (A3 1 dI) s1.2.2.2.2.2.2.1) (As [(A3 1 dI x37.1)])) (.tok 2048 24)),(Pt s1),(Ps s1),(Su s1),(Ss s1),(Sr s1),(.d (A3 1 dI s1.2.2.2.2.2.2.2.2.2.2.2.2.1)),(aI s1.2.2.2.2.2.2.2.2.2.2.2.2.2.1),(aI s1.2.2.2.2.2.2.2.2.2.2.2.2.2.2.1),(aI s1.2.2.2.2.2.2.2.2.2.2.2.2.2.2.2)]))],[2048,2032,816,880,17,944,1072,1200],2144⟩ (.inl ((A6 (s1.1+1)),s1.2.1,s1.2.2.1,s1.2.2.2.1,s1.2.2.2.2.1,s1.2.2.2.2.2.1,(s1.2.2.2.2.2.2.1++([x37.1]:List (List Int))),s1.2.2.2.2.2.2.2.1,s1.2.2.2.2.2.2.2.2.1,s1.2.2.2.2.2.2.2.2.2.1,s1.2.2.2.2.2.2.2.2.2.2.1,s1.2.2.2.2.2.2.2.2.2.2.2.1,s1.2.2.2.2.2.2.2.2.2.2.2.2.1,s1.2.2.2.2.2.2.2.2.2.2.2.2.2.1,s1.2.2.2.2.2.2.2.2.2.2.2.2.2.2.1,s1.2.2.2.2.2.2.2.2.2.2.2.2.2.2.2)) ⟨rfl,(ws (B8 [16,32,112]) [(816,816),(16,2048),(880,880),(17,17),(944,944),(1072,1072),(1200,1200)] ⟨⟨_,_,rfl,rfl,⟨dr,dr,dr,rfl,rfl,rfl,rfl,rfl,rfl,rfl,rfl,rfl,dr,dr,dr,trivial⟩⟩,⟨_,_,rfl,rfl,⟨dr,dr,dr,trivial⟩⟩,⟨_,_,rfl,rfl,⟨dr,dr,dr,⟨rfl,rfl,rfl,dr⟩,dr,⟨rfl,rfl,rfl,(B5 dr (Aq rfl rfl))⟩,⟨rfl,rfl,rfl,dr⟩,⟨rfl,rfl,rfl,dr⟩,⟨rfl,rfl,rfl,dr⟩,⟨rfl,rfl,rfl,dr⟩,⟨rfl,rfl,rfl,dr⟩,dr,dr,dr,dr,trivial⟩⟩⟩)⟩)))) (nd ((4:Int)≠0) (.ite ((Int.tmod s1.1 (4:Int))==1) (c3 (@pm (a0.getD s1.1.toNat default) ([67,76,73,77,66,70,76,79,87]:List UInt8)) fun x40=>(nd ((s1.2.2.2.2.2.2.2.1.length+1) * 24≤140737488355328) (.ite x40.2.2 (.ret .ret ⟨L1,[(16,Ch),(32,(.cells (B6 x40.2.1)))],[2112,2096,816,16,17,944,1072,1200],2256⟩ (.inr (.inr (((⟨([]:List UInt8),(0:Int),(0:Int),[],[],[],[],[],[],[],[],[],(0:Int),(0:Int),(0:Int)⟩:Ah),x40.2.1,true)))) ⟨rfl,rfl,rfl,_,Ae,⟨⟨dr,dr,dr,Aa,Aa,Aa,Aa,Aa,Aa,Aa,Aa,Aa,dr,dr,dr,trivial⟩,dr,dr,trivial⟩⟩) (.ret .normal ⟨(Pr a0 s1),[(16,Ch),(32,Gg),(112,(.cells [(aS s1.2.1),(aI s1.2.2.1),(aI s1.2.2.2.1),(Sv s1),(.d (A3 1 dI s1.2.2.2.2.2.1)),(Pu s1),(.ap 1 (s1.2.2.2.2.2.2.2.1.length+1) (Bb s1.2.2.2.2.2.2.2.1.length (cF (A3 1 dI) s1.2.2.2.2.2.2.2.1) (As [(A3 1 dI x40.1)])) (.tok 2112 24)),(Ps s1),(Su s1),(Ss s1),(Sr s1),(.d (A3 1 dI s1.2.2.2.2.2.2.2.2.2.2.2.2.1)),(aI s1.2.2.2.2.2.2.2.2.2.2.2.2.2.1),(aI s1.2.2.2.2.2.2.2.2.2.2.2.2.2.2.1),(aI s1.2.2.2.2.2.2.2.2.2.2.2.2.2.2.2)]))],[2112,2096,816,16,17,944,1072,1200],2208⟩ (.inl ((A6 (s1.1+1)),s1.2.1,s1.2.2.1,s1.2.2.2.1,s1.2.2.2.2.1,s1.2.2.2.2.2.1,s1.2.2.2.2.2.2.1,(s1.2.2.2.2.2.2.2.1++([x40.1]:List (List Int))),s1.2.2.2.2.2.2.2.2.1,s1.2.2.2.2.2.2.2.2.2.1,s1.2.2.2.2.2.2.2.2.2.2.1,s1.2.2.2.2.2.2.2.2.2.2.2.1,s1.2.2.2.2.2.2.2.2.2.2.2.2.1,s1.2.2.2.2.2.2.2.2.2.2.2.2.2.1,s1.2.2.2.2.2.2.2.2.2.2.2.2.2.2.1,s1.2.2.2.2.2.2.2.2.2.2.2.2.2.2.2)) ⟨rfl,(ws (B8 [16,32,112]) [(816,816),(16,16),(880,2112),(17,17),(944,944),(1072,1072),(1200,1200)] ⟨⟨_,_,rfl,rfl,⟨dr,dr,dr,rfl,rfl,rfl,rfl,rfl,rfl,rfl,rfl,rfl,dr,dr,dr,trivial⟩⟩,⟨_,_,rfl,rfl,⟨dr,dr,dr,trivial⟩⟩,⟨_,_,rfl,rfl,⟨dr,dr,dr,⟨rfl,rfl,rfl,dr⟩,dr,⟨rfl,rfl,rfl,dr⟩,⟨rfl,rfl,rfl,(B5 dr (Aq rfl rfl))⟩,⟨rfl,rfl,rfl,dr⟩,⟨rfl,rfl,rfl,dr⟩,⟨rfl,rfl,rfl,dr⟩,⟨rfl,rfl,rfl,dr⟩,dr,dr,dr,dr,trivial⟩⟩⟩)⟩)))) (c3 (@pm (a0.getD s1.1.toNat default) ([67,82,85,73,83,69]:List UInt8)) fun x10=>(nd ((s1.2.2.2.2.2.2.2.2.1.length+1) * 24≤140737488355328) (.ite x10.2.2 (.ret .ret ⟨L1,[(16,Ch),(32,(.cells (B6 x10.2.1)))],[2112,2096,816,16,880,944,1072,1200],2256⟩ (.inr (.inr (((⟨([]:List UInt8),(0:Int),(0:Int),[],[],[],[],[],[],[],[],[],(0:Int),(0:Int),(0:Int)⟩:Ah),x10.2.1,true)))) ⟨rfl,rfl,rfl,_,Ae,⟨⟨dr,dr,dr,Aa,Aa,Aa,Aa,Aa,Aa,Aa,Aa,Aa,dr,dr,dr,trivial⟩,dr,dr,trivial⟩⟩) (.ret .normal ⟨(Pr a0 s1),[(16,Ch),(32,Gg),(112,(.cells [(aS s1.2.1),(aI s1.2.2.1),(aI s1.2.2.2.1),(Sv s1),(.d (A3 1 dI s1.2.2.2.2.2.1)),(Pu s1),(Pt s1),(.ap 1 (s1.2.2.2.2.2.2.2.2.1.length+1) (Bb s1.2.2.2.2.2.2.2.2.1.length (cF (A3 1 dI) s1.2.2.2.2.2.2.2.2.1) (As [(A3 1 dI x10.1)])) (.tok 2112 24)),(Su s1),(Ss s1),(Sr s1),(.d (A3 1 dI s1.2.2.2.2.2.2.2.2.2.2.2.2.1)),(aI s1.2.2.2.2.2.2.2.2.2.2.2.2.2.1),(aI s1.2.2.2.2.2.2.2.2.2.2.2.2.2.2.1),(aI s1.2.2.2.2.2.2.2.2.2.2.2.2.2.2.2)]))],[2112,2096,816,16,880,944,1072,1200],2208⟩ (.inl ((A6 (s1.1+1)),s1.2.1,s1.2.2.1,s1.2.2.2.1,s1.2.2.2.2.1,s1.2.2.2.2.2.1,s1.2.2.2.2.2.2.1,s1.2.2.2.2.2.2.2.1,(s1.2.2.2.2.2.2.2.2.1++([x10.1]:List (List Int))),s1.2.2.2.2.2.2.2.2.2.1,s1.2.2.2.2.2.2.2.2.2.2.1,s1.2.2.2.2.2.2.2.2.2.2.2.1,s1.2.2.2.2.2.2.2.2.2.2.2.2.1,s1.2.2.2.2.2.2.2.2.2.2.2.2.2.1,s1.2.2.2.2.2.2.2.2.2.2.2.2.2.2.1,s1.2.2.2.2.2.2.2.2.2.2.2.2.2.2.2)) ⟨rfl,(ws (B8 [16,32,112]) [(816,816),(16,16),(880,880),(17,2112),(944,944),(1072,1072),(1200,1200)] ⟨⟨_,_,rfl,rfl,⟨dr,dr,dr,rfl,rfl,rfl,rfl,rfl,rfl,rfl,rfl,rfl,dr,dr,dr,trivial⟩⟩,⟨_,_,rfl,rfl,⟨dr,dr,dr,trivial⟩⟩,⟨_,_,rfl,rfl,⟨dr,dr,dr,⟨rfl,rfl,rfl,dr⟩,dr,⟨rfl,rfl,rfl,dr⟩,⟨rfl,rfl,rfl,dr⟩,⟨rfl,rfl,rfl,(B5 dr (Aq rfl rfl))⟩,⟨rfl,rfl,rfl,dr⟩,⟨rfl,rfl,rfl,dr⟩,⟨rfl,rfl,rfl,dr⟩,dr,dr,dr,dr,trivial⟩⟩⟩)⟩)))))))))))))) (.ret (.exit 0) _ (.inr (.inl (s1.2.1,s1.2.2.1,s1.2.2.2.1,s1.2.2.2.2.1,s1.2.2.2.2.2.1,s1.2.2.2.2.2.2.1,s1.2.2.2.2.2.2.2.1,s1.2.2.2.2.2.2.2.2.1,s1.2.2.2.2.2.2.2.2.2.1,s1.2.2.2.2.2.2.2.2.2.2.1,s1.2.2.2.2.2.2.2.2.2.2.2.1,s1.2.2.2.2.2.2.2.2.2.2.2.2.1,s1.2.2.2.2.2.2.2.2.2.2.2.2.2.1,s1.2.2.2.2.2.2.2.2.2.2.2.2.2.2.1,s1.2.2.2.2.2.2.2.2.2.2.2.2.2.2.2))) ⟨rfl,rfl,Ae⟩)))))
def kx (a0:List A7) (y2:P4):JD Tryz.prog Tryz.f54.ntmps (C2 1 (C2 3 (body Tryz.f54))) ⟨(lj a0),[(16,Ch),(32,Gg),(112,(AAR y2))],[816,16,880,17,944,1072,1200],1424⟩ (fun x=>fin Tryz.prog Tryz.f54 (E54 x)) :=
 (.sg [(48,B4 193 dI)] [(1,[2,3,4],[16,32])] (Dl (!(decide ((a0.length:Int) < (7:Int)))) ((4:Int)≠0) (.ite ((decide ((a0.length:Int) < (7:Int))) || ((Int.tmod (a0.length:Int) (4:Int)) != 3)) (Bf (A6 ((a0.length:Int) - (1:Int))) a0 (.ret .ret ⟨L1,[(16,Ch),(32,(.cells [(aI (A6 ((a0.getD (A6 ((a0.length:Int) - (1:Int))).toNat default).A8+1))),(aI 1),(aI 4)]))],[816,16,880,17,944,1072,1200],1776⟩ ((⟨([]:List UInt8),(0:Int),(0:Int),[],[],[],[],[],[],[],[],[],(0:Int),(0:Int),(0:Int)⟩:Ah),(⟨(A6 ((a0.getD (A6 ((a0.length:Int) - (1:Int))).toNat default).A8+1)),(1:Int),(4:Int)⟩:A5),true) ⟨rfl,_,Ae,⟨⟨dr,dr,dr,Aa,Aa,Aa,Aa,Aa,Aa,Aa,Aa,Aa,dr,dr,dr,trivial⟩,dr,dr,trivial⟩⟩)) (c3 (@p43 (⟨y2.1,y2.2.1,y2.2.2.1,y2.2.2.2.1,y2.2.2.2.2.1,y2.2.2.2.2.2.1,y2.2.2.2.2.2.2.1,y2.2.2.2.2.2.2.2.1,y2.2.2.2.2.2.2.2.2.1,y2.2.2.2.2.2.2.2.2.2.1,y2.2.2.2.2.2.2.2.2.2.2.1,y2.2.2.2.2.2.2.2.2.2.2.2.1,y2.2.2.2.2.2.2.2.2.2.2.2.2.1,y2.2.2.2.2.2.2.2.2.2.2.2.2.2.1,y2.2.2.2.2.2.2.2.2.2.2.2.2.2.2⟩:Ah)) fun x48=>(.ite (x48 != 0) (nd ((0:Int)≤(0:Int)) (nd (0 < (a0.length:Int)) (nd ((0:Int)≤(0:Int)) (nd (0 < (a0.length:Int)) (nd ((0:Int)≤(0:Int)) (nd (0 < ((a0.getD (0:Int).toNat default).A2.length:Int)) (.ret .ret ⟨L1,[(16,Ch),(32,(.cells [(aI (a0.getD (0:Int).toNat default).A8),(aI ((a0.getD (0:Int).toNat default).A2.getD (0:Int).toNat default).Ai),(aI x48)]))],[816,16,880,17,944,1072,1200],1936⟩ ((⟨([]:List UInt8),(0:Int),(0:Int),[],[],[],[],[],[],[],[],[],(0:Int),(0:Int),(0:Int)⟩:Ah),(⟨(a0.getD (0:Int).toNat default).A8,((a0.getD (0:Int).toNat default).A2.getD (0:Int).toNat default).Ai,x48⟩:A5),true) ⟨rfl,_,Ae,⟨⟨dr,dr,dr,Aa,Aa,Aa,Aa,Aa,Aa,Aa,Aa,Aa,dr,dr,dr,trivial⟩,dr,dr,trivial⟩⟩))))))) (.ret .ret ⟨[(2,(.ptr 16 0)),(3,(.ptr 32 0)),(4,(aB false))],[(16,(AAR y2)),(32,Gg)],[816,16,880,17,944,1072,1200],1744⟩ ((⟨y2.1,y2.2.1,y2.2.2.1,y2.2.2.2.1,y2.2.2.2.2.1,y2.2.2.2.2.2.1,y2.2.2.2.2.2.2.1,y2.2.2.2.2.2.2.2.1,y2.2.2.2.2.2.2.2.2.1,y2.2.2.2.2.2.2.2.2.2.1,y2.2.2.2.2.2.2.2.2.2.2.1,y2.2.2.2.2.2.2.2.2.2.2.2.1,y2.2.2.2.2.2.2.2.2.2.2.2.2.1,y2.2.2.2.2.2.2.2.2.2.2.2.2.2.1,y2.2.2.2.2.2.2.2.2.2.2.2.2.2.2⟩:Ah),(⟨(0:Int),(0:Int),(0:Int)⟩:A5),false) ⟨rfl,_,Ae,⟨⟨dr,dr,dr,dr,dr,dr,dr,dr,dr,dr,dr,dr,dr,dr,dr,trivial⟩,dr,dr,trivial⟩⟩))))))
def d54 (a0:List A7):JF Tryz.prog Tryz.f54 [(A3 2 At a0)] E54 :=
 (.sq 3 [] [(1,[2,3,4],[16,32]),(0,[0,2,3,5],[16,32,112])] (fun(_:Unit)=>⟨(lj a0),[(16,Ch),(32,Gg),(112,Ch)],[],128⟩) (.ite ((a0.length:Int)==(0:Int)) (.ret .ret ⟨L1,[(16,Ch),(32,(.cells [(aI 1),(aI 1),(aI 4)]))],[],192⟩ (.inr (((⟨([]:List UInt8),(0:Int),(0:Int),[],[],[],[],[],[],[],[],[],(0:Int),(0:Int),(0:Int)⟩:Ah),(⟨(1:Int),(1:Int),(4:Int)⟩:A5),true))) ⟨rfl,rfl,_,Ae,⟨⟨dr,dr,dr,Aa,Aa,Aa,Aa,Aa,Aa,Aa,Aa,Aa,dr,dr,dr,trivial⟩,dr,dr,trivial⟩⟩) (.nx ())) (fun _=>(.sc (fun(y2:P4)=>⟨(lj a0),[(16,Ch),(32,Gg),(112,(AAR y2))],[816,16,880,17,944,1072,1200],1424⟩) (.sq 1 [] [(0,[0,2,3,5,20,21,22],[16,32,112])] (fun(_:Unit)=>(z54_d a0)) (.nx ()) (fun _=>(yr a0))) fun y2=>(kx a0 y2))))
def m54 (a0:List A7):Option (gi):=(d54 a0).m
theorem p54 {a0:List A7} {r:Ah×A5×Bool} (h:m54 a0=some r):A9 Tryz.prog 54 [(A3 2 At a0)] (E54 r):=An (d54 a0) Tryz.func54 h
def o18_0 (x:(Ea)):OT:=⟨(.tup [(.ap 2 x.2.length (cF At x.2) (.tok 65 111)),(.ap 3 x.1.length (cF Bs x.1) (.tok 64 75))]),[],[],[],[64,65]⟩
def d18 (a0:List UInt8):JF Tryz.prog Tryz.f18 [(.str a0)] (fun(r:Gh)=>(.tup [(Br r.1),(A3 3 Bs r.2)])) :=
 (.sg [(1,⟨(Ea),fun x=>[],fun x=>[(64,(o18_0 x))],[]⟩),(4,B4 21 (fun(x:(gi))=>(.tup [(Br x.1),(Bs x.2.1),(.bool x.2.2)])))] [(1,[2,3],[16])] (c3 (p:=fun x1=>Am Tryz.prog 33 [(aS a0)] [] 64 (o18_0 x1)) (fun x1 (h1:bn a0=some _)=>ok [] [] [] [(64,112),(65,608)] (po33o0 h1)) fun x1=>(.ite (decide (0 < (x1.1.length:Int))) (.ret .ret ⟨[(2,(.ptr 16 0)),(3,(.ap 3 x1.1.length (cF Bs x1.1) (.tok 64 75)))],[(16,(.cells [(aS ([]:List UInt8)),(aI 0),(aI 0),aN,aN,aN,aN,aN,aN,aN,aN,aN,(aI 0),(aI 0),(aI 0)]))],[64,65],272⟩ ((⟨([]:List UInt8),(0:Int),(0:Int),[],[],[],[],[],[],[],[],[],(0:Int),(0:Int),(0:Int)⟩:Ah),x1.1) ⟨rfl,_,Ae,⟨⟨dr,dr,dr,Aa,Aa,Aa,Aa,Aa,Aa,Aa,Aa,Aa,dr,dr,dr,trivial⟩,dr,trivial⟩⟩) (c3 (@p54 x1.2) fun x4=>(.ite x4.2.2 (.ret .ret ⟨[(2,(.ptr 16 0)),(3,(.ap 3 1 (As [(Bs x4.2.1)]) (.tok 432 75)))],[(16,(.cells [(aS ([]:List UInt8)),(aI 0),(aI 0),aN,aN,aN,aN,aN,aN,aN,aN,aN,(aI 0),(aI 0),(aI 0)]))],[432,64,65],480⟩ ((⟨([]:List UInt8),(0:Int),(0:Int),[],[],[],[],[],[],[],[],[],(0:Int),(0:Int),(0:Int)⟩:Ah),([x4.2.1]:List A5)) ⟨rfl,_,Ae,⟨⟨dr,dr,dr,Aa,Aa,Aa,Aa,Aa,Aa,Aa,Aa,Aa,dr,dr,dr,trivial⟩,(Aq rfl rfl),trivial⟩⟩) (.ret .ret ⟨[(2,(.ptr 16 0)),(3,aN)],[(16,(.cells (By x4.1)))],[64,65],448⟩ (x4.1,[]) ⟨rfl,_,Ae,⟨dr,Aa,trivial⟩⟩))))))
def m18 (a0:List UInt8):Option (Gh):=(d18 a0).m
theorem p18 {a0:List UInt8} {r:Ah×(List A5)} (h:m18 a0=some r):A9 Tryz.prog 18 [(.str a0)] (.tup [(Br r.1),(A3 3 Bs r.2)]):=An (d18 a0) Tryz.func18 h
def d19 (a0 a1:List A5):JF Tryz.prog Tryz.f19 [(A3 3 Bs a0),(A3 3 Bs a1)] (fun(r:Bool)=>(.bool r)) :=
 (.sq 2 [] [(1,[4],[]),(0,[0,1],[])] (fun(_:Unit)=>⟨[(0,(.d (A3 3 Bs a0))),(1,(.d (A3 3 Bs a1)))],[],[],112⟩) (.ite ((a0.length:Int) != (a1.length:Int)) (.ret .ret ⟨[(4,(aB false))],[],[],128⟩ (.inr (false)) ⟨rfl,rfl,_,Ae,dr⟩) (.nx ())) (fun _=>(.sc (fun(_:Unit)=>⟨[],[],[],400⟩) (.sq 1 [] [(0,[0,1,12,13],[])] (fun(_:Unit)=>⟨[(0,(.d (A3 3 Bs a0))),(1,(.d (A3 3 Bs a1))),(12,(aI (a0.length:Int))),(13,(aI 0))],[],[],160⟩) (.nx ()) (fun _=>(.bk (.lp (fun(s1:Int)=>⟨[(0,(.d (A3 3 Bs a0))),(1,(.d (A3 3 Bs a1))),(12,(aI (a0.length:Int))),(13,(aI s1))],[],[],384⟩) (0:Int) (wk [] []) fun s1=>(.sg [] [(1,[4],[]),(0,[0,1,12,13],[]),(2,[],[])] (.ite (decide (s1 < (a0.length:Int))) (Bf s1 a0 (Bf s1 a1 (.ite (!(((a0.getD s1.toNat default).Line==(a1.getD s1.toNat default).Line)&&(((a0.getD s1.toNat default).Ai==(a1.getD s1.toNat default).Ai)&&(((a0.getD s1.toNat default).Code==(a1.getD s1.toNat default).Code)&&true)))) (.ret .ret ⟨[(4,(aB false))],[],[],592⟩ (.inr (.inr (false))) ⟨rfl,rfl,rfl,_,Ae,dr⟩) (.ret .normal ⟨[(0,(.d (A3 3 Bs a0))),(1,(.d (A3 3 Bs a1))),(12,(aI (a0.length:Int))),(13,(aI (A6 (s1+1))))],[],[],608⟩ (.inl (A6 (s1+1))) ⟨rfl,(wk [] [])⟩)))) (.ret (.exit 0) _ (.inr (.inl ())) ⟨rfl,rfl,Ae⟩))))))) fun _=>(.sg [] [(1,[4],[])] (.ret .ret ⟨[(4,(aB true))],[],[],416⟩ true ⟨rfl,_,Ae,dr⟩)))))
def m19 (a0 a1:List A5):Option (Bool):=(d19 a0 a1).m
theorem p19 {a0:List A5} {a1:List A5} {r:Bool} (h:m19 a0 a1=some r):A9 Tryz.prog 19 [(A3 3 Bs a0),(A3 3 Bs a1)] (.bool r):=An (d19 a0 a1) Tryz.func19 h
def d4 (a0:Ah) (a1:List UInt8):JF Tryz.prog Tryz.f4 [(Br a0),(.str a1)] (fun(r:Bool)=>(.bool r)) :=
 (.sg [(1,B4 15 D.bool),(3,B4 19 (fun(x:(Dr))=>(.tup [(.str x.1),(dI x.2)]))),(4,B4 24 (fun(x:(Dr))=>(.tup [(.str x.1),(dI x.2)]))),(8,B4 39 (fun(x:(Gh))=>(.tup [(Br x.1),(A3 3 Bs x.2)]))),(9,B4 48 D.bool),(11,B4 53 (fun(x:(Gh))=>(.tup [(Br x.1),(A3 3 Bs x.2)]))),(12,B4 58 (fun(x:(Gh))=>(.tup [(Br x.1),(A3 3 Bs x.2)]))),(13,⟨Bool×Bool×Int,fun x=>[(63,(.bool x.1)),(67,(.bool x.2.1)),(75,(dI x.2.2))],fun x=>[],[]⟩)] [(1,[4],[])] (c3 (@p13) fun x1=>(.ite (!x1) (.ret .ret ⟨[(4,(aB false))],[],[],96⟩ false ⟨rfl,_,Ae,dr⟩) (c3 (@p14 a0) fun x3=>(c3 (@p15 a0) fun x4=>(.ite ((x3.1 != x4.1) || (x3.2 != x4.2)) (.ret .ret ⟨[(4,(aB false))],[],[],448⟩ false ⟨rfl,_,Ae,dr⟩) (.ite (x3.2==0) (c3 (@p16 x3.1) fun x8=>(.exi (Bool) ((if(!(decide (0 < (x8.2.length:Int))))=true then m17 x8.1 a0 else some default).bind fun r9_0=>some r9_0) (fun x9=>(.g (!(decide (0 < (x8.2.length:Int)))) (A9 Tryz.prog 17 [(Br x8.1),(Br a0)] (.bool x9)) (.fin 0))) (by intro x9 h;obtain⟨r9_0,h1,h⟩:=Ao h;cases h;exact⟨fun g=>p17 (by rw[if_pos g]at h1;exact h1),trivial⟩) (fun x9 _=>(.ite ((decide (0 < (x8.2.length:Int))) || (!x9)) (.ret .ret ⟨[(4,(aB false))],[],[],752⟩ false ⟨rfl,_,Ae,dr⟩) (c3 (@p16 a1) fun x11=>(c3 (@p18 a1) fun x12=>(.exi (P46) ((m17 x11.1 x12.1).bind fun r13_0=>((if r13_0=true then m19 x11.2 x12.2 else some default).bind fun r13_1=>((if((r13_0&&r13_1)&&(!(decide (0 < (x11.2.length:Int)))))=true then Pc x11.1 else some default).bind fun r13_2=>some (r13_0,r13_1,r13_2)))) (fun x13=>(.p (A9 Tryz.prog 17 [(Br x11.1),(Br x12.1)] (.bool x13.1)) (.g x13.1 (A9 Tryz.prog 19 [(A3 3 Bs x11.2),(A3 3 Bs x12.2)] (.bool x13.2.1)) (.g ((x13.1&&x13.2.1)&&(!(decide (0 < (x11.2.length:Int))))) (A9 Tryz.prog 20 [(Br x11.1)] (dI x13.2.2)) (.fin 0))))) (by intro x13 h;obtain⟨r13_0,h1,h⟩:=Ao h;obtain⟨r13_1,h2,h⟩:=Ao h;obtain⟨r13_2,h3,h⟩:=Ao h;cases h;exact⟨p17 h1,fun g=>p19 (by rw[if_pos g]at h2;exact h2),fun g=>po (by rw[if_pos g]at h3;exact h3),trivial⟩) (fun x13 _=>(.ret .ret ⟨[(4,(aB ((x13.1&&x13.2.1)&&((decide (0 < (x11.2.length:Int))) || (x13.2.2==0)))))],[],[],1296⟩ ((x13.1&&x13.2.1)&&((decide (0 < (x11.2.length:Int))) || (x13.2.2==0))) ⟨rfl,_,Ae,dr⟩))))))))) (c3 (@p16 a1) fun x11=>(c3 (@p18 a1) fun x12=>(.exi (P46) ((m17 x11.1 x12.1).bind fun r13_0=>((if r13_0=true then m19 x11.2 x12.2 else some default).bind fun r13_1=>((if((r13_0&&r13_1)&&(!(decide (0 < (x11.2.length:Int)))))=true then Pc x11.1 else some default).bind fun r13_2=>some (r13_0,r13_1,r13_2)))) (fun x13=>(.p (A9 Tryz.prog 17 [(Br x11.1),(Br x12.1)] (.bool x13.1)) (.g x13.1 (A9 Tryz.prog 19 [(A3 3 Bs x11.2),(A3 3 Bs x12.2)] (.bool x13.2.1)) (.g ((x13.1&&x13.2.1)&&(!(decide (0 < (x11.2.length:Int))))) (A9 Tryz.prog 20 [(Br x11.1)] (dI x13.2.2)) (.fin 0))))) (by intro x13 h;obtain⟨r13_0,h1,h⟩:=Ao h;obtain⟨r13_1,h2,h⟩:=Ao h;obtain⟨r13_2,h3,h⟩:=Ao h;cases h;exact⟨p17 h1,fun g=>p19 (by rw[if_pos g]at h2;exact h2),fun g=>po (by rw[if_pos g]at h3;exact h3),trivial⟩) (fun x13 _=>(.ret .ret ⟨[(4,(aB ((x13.1&&x13.2.1)&&((decide (0 < (x11.2.length:Int))) || (x13.2.2==0)))))],[],[],1024⟩ ((x13.1&&x13.2.1)&&((decide (0 < (x11.2.length:Int))) || (x13.2.2==0))) ⟨rfl,_,Ae,dr⟩))))))))))))
def m4 (a0:Ah) (a1:List UInt8):Option (Bool):=(d4 a0 a1).m
theorem p4 {a0:Ah} {a1:List UInt8} {r:Bool} (h:m4 a0 a1=some r):A9 Tryz.prog 4 [(Br a0),(.str a1)] (.bool r):=An (d4 a0 a1) Tryz.func4 h
end Go.Av
namespace Go.Av
def Dj {Y:Type} (f:Nat→Option Y) (n:Nat):Option Y:=(List.range n).findSome? f
theorem sf {Y:Type} {f:Nat→Option Y} {n:Nat}:Dj f (n+1)=match Dj f n with | some y=>some y | none=>f n:=by
 unfold Dj
 rw[List.range_succ,List.findSome?_append]
 cases (List.range n).findSome? f with
 | some y=>rfl
 | none=>simp
theorem firstR_none {Y:Type} {f:Nat→Option Y} {n:Nat}:Dj f n=none↔∀ i,i < n→f i=none:=by
 unfold Dj
 rw[List.findSome?_eq_none_iff]
 exact⟨fun h i hi=>h i (List.mem_range.2 hi),fun h i hi=>h i (List.mem_range.1 hi)⟩
theorem X7 {Y:Type} {f:Nat→Option Y} {n:Nat} {y:Y} (h:Dj f n=some y):∃ i,i < n∧f i=some y:=by
 unfold Dj at h
 obtain⟨i,hi,h⟩:=List.exists_of_findSome?_eq_some h
 exact⟨i,List.mem_range.1 hi,h⟩
theorem firstR_at {Y:Type} {f:Nat→Option Y} {n i:Nat} {y:Y} (hi:i < n) (h0:∀ j,j < i→f j=none) (h:f i=some y):Dj f n=some y:=by
 induction n with
 | zero=>omega
 | succ n ih =>
  rw[sf]
  by_cases hn:i < n
  ·rw[ih hn]
  ·obtain rfl:i=n:=by omega
   rw[firstR_none.2 h0,h]
def vu {R:Type} (o k:Option R):Option R:=match o with
 | some y=>some y
 | none=>k
theorem orK_some {R:Type} {y:R} {k:Option R}:vu (some y) k=some y:=rfl
theorem orK_none {R:Type} {k:Option R}:vu none k=k:=rfl
theorem ph {R:Type} {a:Option R} {d:R}:vu a (some d)=some (a.getD d):=by cases a<;>rfl
def j0 {S R:Type} (o:Option R) (s:S):Option (S⊕(Unit⊕R)):=match o with
 | some y=>some (.inr (.inr y))
 | none=>some (.inl s)
theorem Rs {S R:Type} {y:R} {s:S}:j0 (some y) s=some (.inr (.inr y)):=rfl
theorem Nr {S R:Type} {s:S}:j0 (none:Option R) s=some (.inl s):=rfl
theorem W3 {S R:Type} {p:Prop} [Decidable p] {a b:Option R} {s:S}:j0 (if p then a else b) s=if p then j0 a s else j0 b s:=by split<;>rfl
theorem Us {R:Type} {b:Int→Option (Int⊕(Unit⊕R))} (n:Nat) (f:Nat→Option R) (hb:∀ i:Nat,i < n→b i=j0 (f i) ((i:Int)+1)) (hd:b n=some (.inr (.inl ()))) :
  ∀ (k i0:Nat),i0+k=n→(∀ i,i < i0→f i=none)→Ak b i0=match Dj f n with | some y=>some (.inr y) | none=>some (.inl ())
 | 0,i0,hk,h0=>by
  obtain rfl:i0=n:=by omega
  rw[Ek,hd,firstR_none.2 h0];rfl
 | k+1,i0,hk,h0=>by
  rw[Ek,hb i0 (by omega)]
  cases hf:f i0 with
  | some y=>rw[firstR_at (by omega) h0 hf];rfl
  | none =>
   have:=Us n f hb hd k (i0+1) (by omega) (fun i hi=>by
    by_cases h:i < i0
    ·exact h0 i h
    ·obtain rfl:i=i0:=by omega
     exact hf)
   rw[Nr]
   simpa using this
theorem loop_ex {R:Type} {b:Int→Option (Int⊕(Unit⊕R))} {k:Unit→Option R} (n:Nat) (f:Nat→Option R) (hb:∀ i:Nat,i < n→b i=j0 (f i) ((i:Int)+1)) (hd:b n=some (.inr (.inl ()))) :
  (Ak b 0).bind (Ad k)=vu (Dj f n) (k ()):=by
 have:=Us n f hb hd n 0 (by omega) (fun i hi=>by omega)
 rw[show ((0:Nat):Int)=0 from rfl]at this
 rw[this]
 cases Dj f n<;>rfl
theorem Wb {R:Type} {b:Int→Option (Int⊕(Unit⊕R))} {k:Unit→Option R} (n:Nat) (f:Nat→Option R) (hb:∀ i:Nat,i < n→b i=j0 (f i) ((i:Int)+1)) (hd:b n=some (.inr (.inl ()))) {z:Option R} (hk:k ()=z) :
  (Ak b 0).bind (Ad k)=vu (Dj f n) z:=by rw[loop_ex n f hb hd,hk]
theorem inL {i:Nat} {n:Nat} (h:i < n):((0:Int)≤(i:Int))=True∧((i:Int) < (n:Int))=True∧(decide ((i:Int) < (n:Int))=true)=True:=by
 refine⟨eq_true (by omega),eq_true (by omega),eq_true (by simpa using h)⟩
end Go.Av
namespace Go.Av
theorem bs {α β:Type} {a:α} {f:α→Option β}:Option.bind (some a) f=f a:=Eq.mpr rfl rfl
theorem ol {Y R:Type} {f:Y→Option R} {y:Y}:Ad f (.inl y)=f y:=Eq.mpr rfl rfl
theorem V7 {Y R:Type} {f:Y→Option R} {r:R}:Ad f (.inr r)=some r:=Eq.mpr rfl rfl
theorem oe {R:Type} {r:R}:onE (.inr r)=some r:=Eq.mpr rfl rfl
theorem du {α:Type} {m:Option α}:(Option.bind m fun r=>some r)=m:=by cases m<;>rfl
theorem loop_end {S Y R:Type} {b:S→Option (S⊕(Y⊕R))} {k:Y→Option R} {z:Option R} {s0:S} (I:Nat→S→Prop) (Q:Y→Prop) (m0:Nat) (h0:I m0 s0) (step:∀ m s,I m s→(∃ s',b s=some (.inl s')∧∃ m',m' < m∧I m' s')∨∃ y,b s=some (.inr (.inl y))∧Q y) (hk:∀ y,Q y→k y=z):(Ak b s0).bind (Ad k)=z:=by
 obtain⟨x,h1,y,h2,h3⟩:=loop_inv I (fun(x:Y⊕R)=>∃ y,x=.inl y∧Q y) (fun m s hs=>by
  rcases step m s hs with h | ⟨y,h,hq⟩
  ·exact .inl h
  ·exact .inr ⟨_,h,y,rfl,hq⟩) m0 s0 h0
 subst h2
 rw[h1];exact hk y h3
end Go.Av
set_option maxRecDepth 100000
namespace Go.Av
def zb (p:List UInt8):List (List UInt8)→List (List UInt8)
 | []=>[p]
 | l :: r=>(p++l) :: r
def Bl (c:UInt8):List UInt8→List (List UInt8)
 | []=>[[]]
 | b :: s=>if b=c then[] :: Bl c s else zb [b] (Bl c s)
theorem J8 {c b:UInt8} {s:List UInt8}:Bl c (b :: s)=if b=c then[] :: Bl c s else zb [b] (Bl c s):=rfl
theorem js (c:UInt8):∀ s,∃ l r,Bl c s=l :: r
 | []=>⟨_,_,rfl⟩
 | b :: s=>by
  rw[J8]
  split
  ·exact⟨_,_,rfl⟩
  ·obtain⟨l,r,h⟩:=js c s
   rw[h];exact⟨_,_,rfl⟩
theorem Q7 {c:UInt8}:∀ {s:List UInt8},s.count c=0→Bl c s=[s]
 | [],_=>rfl
 | b :: s,h=>by
  rw[List.count_cons]at h
  have hb:¬ b=c:=fun e=>by subst e;simp at h
  rw[J8]
  rw[if_neg hb,Q7 (by omega)]
  rfl
theorem jr {c:UInt8}:∀ {s:List UInt8},s.count c≠0→∃ k:Nat,Lib.indexByte s c=(k:Int)∧k < s.length∧Bl c s=s.take k :: Bl c (s.drop (k+1))∧s.count c=(s.drop (k+1)).count c+1
 | [],h=>absurd rfl h
 | b :: s,h=>by
  by_cases hb:b=c
  ·subst hb
   refine⟨0,by simp[Lib.indexByte],by simp,by simp[Bl],by simp⟩
  ·have hc:s.count c≠0:=by rw[List.count_cons]at h;simpa [hb] using h
   obtain⟨k,h1,h2,h3,h4⟩:=jr hc
   refine⟨k+1,?_,by simpa using h2,?_,?_⟩
   ·unfold Lib.indexByte
    rw[if_neg (by simpa using hb),h1,if_neg (by simp)]
    omega
   ·rw[J8,if_neg hb,h3]
    rfl
   ·rw[List.count_cons,if_neg (by simpa using hb),h4]
    rfl
theorem da {c:UInt8}:∀ {s:List UInt8},(Bl c s).length=s.count c+1
 | []=>rfl
 | b :: s=>by
  have ih:=da (c:=c) (s:=s)
  rw[J8]
  by_cases hb:b=c
  ·rw[if_pos hb,List.length_cons,ih,hb];simp
  ·rw[if_neg hb,List.count_cons,if_neg (by simpa using hb)]
   obtain⟨l,r,h⟩:=js c s
   rw[h]at ih ⊢
   simpa [zb] using ih
theorem Xh {c:UInt8} {x y:List UInt8} (hx:c ∉ x):Bl c (x++c :: y)=x :: Bl c y:=by
 induction x with
 | nil=>simp[Bl]
 | cons b x ih =>
  have hb:¬ b=c:=fun e=>hx (by simp[e])
  rw[List.cons_append,J8,if_neg hb,ih fun h=>hx (List.mem_cons_of_mem _ h)]
  rfl
theorem ss {c:UInt8} {x:List UInt8} (hx:c ∉ x):Bl c x=[x]:=Q7 (List.count_eq_zero.2 hx)
theorem M143 (a0 a1:List UInt8):zq a0 a1=((Option.bind (Option.bind (ew a0 a1) fun r=>some r) fun x1=>(some x1)):Option (Int)):=by kernel_rfl
theorem M119 (a0 a1:List UInt8) (a2 a3:Int):zj a0 a1 a2 a3=((Option.bind (if(a3==0)=true then(some (.inr ([])))else(if(a1==([]:List UInt8))=true then(Option.bind (Option.bind (m141 a0 a3) fun r=>some r) fun x4=>(some (.inr (x4))))else(if(decide (a3 < 0))=true then(Option.bind (Option.bind (zp a0 a1) fun r=>some r) fun x6=>(if(0≤(if(IntKind.wrap .i64 ((a0.length:Int)+(1:Int))) < (IntKind.wrap .i64 (x6+1))then(IntKind.wrap .i64 ((a0.length:Int)+(1:Int)))else(IntKind.wrap .i64 (x6+1))))then(if((if(IntKind.wrap .i64 ((a0.length:Int)+(1:Int))) < (IntKind.wrap .i64 (x6+1))then(IntKind.wrap .i64 ((a0.length:Int)+(1:Int)))else(IntKind.wrap .i64 (x6+1)))=(if(IntKind.wrap .i64 ((a0.length:Int)+(1:Int))) < (IntKind.wrap .i64 (x6+1))then(IntKind.wrap .i64 ((a0.length:Int)+(1:Int)))else(IntKind.wrap .i64 (x6+1))))then(if((if(IntKind.wrap .i64 ((a0.length:Int)+(1:Int))) < (IntKind.wrap .i64 (x6+1))then(IntKind.wrap .i64 ((a0.length:Int)+(1:Int)))else(IntKind.wrap .i64 (x6+1))) * 16≤140737488355328)then(if((if(IntKind.wrap .i64 ((a0.length:Int)+(1:Int))) < (IntKind.wrap .i64 (x6+1))then(IntKind.wrap .i64 ((a0.length:Int)+(1:Int)))else(IntKind.wrap .i64 (x6+1)))≤9223372036854775807)then(some (.inl ((IntKind.wrap .i64 ((if(IntKind.wrap .i64 ((a0.length:Int)+(1:Int))) < (IntKind.wrap .i64 (x6+1))then(IntKind.wrap .i64 ((a0.length:Int)+(1:Int)))else(IntKind.wrap .i64 (x6+1))) - 1)),(List.replicate (if(IntKind.wrap .i64 ((a0.length:Int)+(1:Int))) < (IntKind.wrap .i64 (x6+1))then(IntKind.wrap .i64 ((a0.length:Int)+(1:Int)))else(IntKind.wrap .i64 (x6+1))).toNat ([]:List UInt8)),(if(IntKind.wrap .i64 ((a0.length:Int)+(1:Int))) < (IntKind.wrap .i64 (x6+1))then(IntKind.wrap .i64 ((a0.length:Int)+(1:Int)))else(IntKind.wrap .i64 (x6+1))).toNat)))else none)else none)else none)else none))else(if(0≤(if(IntKind.wrap .i64 ((a0.length:Int)+(1:Int))) < a3 then(IntKind.wrap .i64 ((a0.length:Int)+(1:Int)))else a3))then(if((if(IntKind.wrap .i64 ((a0.length:Int)+(1:Int))) < a3 then(IntKind.wrap .i64 ((a0.length:Int)+(1:Int)))else a3)=(if(IntKind.wrap .i64 ((a0.length:Int)+(1:Int))) < a3 then(IntKind.wrap .i64 ((a0.length:Int)+(1:Int)))else a3))then(if((if(IntKind.wrap .i64 ((a0.length:Int)+(1:Int))) < a3 then(IntKind.wrap .i64 ((a0.length:Int)+(1:Int)))else a3) * 16≤140737488355328)then(if((if(IntKind.wrap .i64 ((a0.length:Int)+(1:Int))) < a3 then(IntKind.wrap .i64 ((a0.length:Int)+(1:Int)))else a3)≤9223372036854775807)then(some (.inl ((IntKind.wrap .i64 ((if(IntKind.wrap .i64 ((a0.length:Int)+(1:Int))) < a3 then(IntKind.wrap .i64 ((a0.length:Int)+(1:Int)))else a3) - 1)),(List.replicate (if(IntKind.wrap .i64 ((a0.length:Int)+(1:Int))) < a3 then(IntKind.wrap .i64 ((a0.length:Int)+(1:Int)))else a3).toNat ([]:List UInt8)),(if(IntKind.wrap .i64 ((a0.length:Int)+(1:Int))) < a3 then(IntKind.wrap .i64 ((a0.length:Int)+(1:Int)))else a3).toNat)))else none)else none)else none)else none)))) (Ad fun(y1:Int×(List (List UInt8))×Nat)=>(Option.bind (Ak (fun(s2:tf)=>((if(decide (s2.2.2 < y1.1))=true then(Option.bind (Option.bind (zq s2.1 a1) fun r=>some r) fun x12=>(if(decide (x12 < 0))=true then(some (.inr (.inl (s2.1,s2.2.1,s2.2.2))))else(if(0≤(IntKind.wrap .i64 (x12+a2)))then(if((IntKind.wrap .i64 (x12+a2))≤(s2.1.length:Int))then(if(0≤s2.2.2)then(if(s2.2.2 < (y1.2.2:Int))then(if(s2.2.2.toNat < y1.2.2)then(if(0≤(IntKind.wrap .i64 (x12+(a1.length:Int))))then(if((IntKind.wrap .i64 (x12+(a1.length:Int)))≤(s2.1.length:Int))then(some (.inl ((s2.1.drop (IntKind.wrap .i64 (x12+(a1.length:Int))).toNat),((Ho s2.2.1 0 y1.2.2).set s2.2.2.toNat (s2.1.take (IntKind.wrap .i64 (x12+a2)).toNat)),(IntKind.wrap .i64 (s2.2.2+1)))))else none)else none)else none)else none)else none)else none)else none)))else(some (.inr (.inl (s2.1,s2.2.1,s2.2.2))))):Option ((tf)⊕((tf)⊕((List (List UInt8))))))) (a0,y1.2.1,(0:Int))) (Ad fun(y3:tf)=>(if(0≤y3.2.2)then(if(y3.2.2 < (y1.2.2:Int))then(if(y3.2.2.toNat < y1.2.2)then(if(0≤(IntKind.wrap .i64 (y3.2.2+1)))then(if((IntKind.wrap .i64 (y3.2.2+1))≤(y1.2.2:Int))then(some (((Ho y3.2.1 0 y1.2.2).set y3.2.2.toNat y3.1).take (IntKind.wrap .i64 (y3.2.2+1)).toNat))else none)else none)else none)else none)else none))))):Option ((List (List UInt8)))):=by kernel_rfl
theorem M80 (a0 a1:List UInt8):m80 a0 a1=((Option.bind (Option.bind (zj a0 a1 (0:Int) (-1:Int)) fun r=>some r) fun x1=>(some x1)):Option ((List (List UInt8)))):=by kernel_rfl
theorem Index_eq (s:List UInt8) (c:UInt8):zq s [c]=some (Lib.indexByte s c):=by
 simp only[M143,du]
 rfl
theorem si (s:List UInt8) (c:UInt8) (hs:s.length≤1000000):zj s [c] 0 (-1)=some (Bl c s):=by
 have hcl:s.count c≤s.length:=List.count_le_length
 have hC:zp s [c]=some ((s.count c:Nat):Int):=rfl
 have e1:((-1:Int)==0)=false:=rfl
 have e2:(([c]:List UInt8)==([]:List UInt8))=false:=rfl
 have e3:decide ((-1:Int) < 0)=true:=rfl
 have w1:IntKind.wrap .i64 ((s.length:Int)+1)=(s.length:Int)+1:=B2 (by omega) (by omega)
 have w2:IntKind.wrap .i64 (((s.count c:Nat):Int)+1)=((s.count c+1:Nat):Int):=B2 (by omega) (by omega)
 have w3:(if(s.length:Int)+1 < ((s.count c+1:Nat):Int)then(s.length:Int)+1 else((s.count c+1:Nat):Int))=((s.count c+1:Nat):Int):=if_neg (by omega)
 have w4:IntKind.wrap .i64 (((s.count c+1:Nat):Int) - 1)=((s.count c:Nat):Int):=by rw[B2 (by omega) (by omega)];omega
 have a1:((0:Int)≤((s.count c+1:Nat):Int))=True:=eq_true (by omega)
 have a2:(((s.count c+1:Nat):Int) * 16≤140737488355328)=True:=eq_true (by omega)
 have a3:(((s.count c+1:Nat):Int)≤9223372036854775807)=True:=eq_true (by omega)
 simp only[M119,du]
 simp only[e1,e2,e3,hC,bs,ol,w1,w2,w3,w4,a1,a2,a3,Int.toNat_natCast,Bool.false_eq_true,if_false,if_true]
 generalize hN:s.count c=N at *
 refine loop_end (fun m st=>∃ (rest:List UInt8) (a:List (List UInt8)) (i:Nat),st=(rest,a,(i:Int))∧m=N - i∧i≤N∧a.length=N+1∧rest.count c=N - i∧rest.length≤s.length∧Bl c s=a.take i++Bl c rest)
  (fun y=>∃ (rest:List UInt8) (a:List (List UInt8)),y=(rest,a,(N:Int))∧a.length=N+1∧Bl c s=a.take N++[rest]) N ⟨s,_,0,rfl,rfl,by omega,by simp,by rw[hN];omega,Nat.le_refl _,by simp⟩ ?_ ?_
 ·rintro m st ⟨rest,a,i,rfl,rfl,hi,hl,hc,hr,he⟩
  rcases Nat.lt_or_eq_of_le hi with hlt | heq
  ·left
   obtain⟨k,k1,k2,k3,k4⟩:=jr (c:=c) (s:=rest) (by omega)
   have hI:=Index_eq rest c
   rw[k1]at hI
   have b1:decide ((i:Int) < (N:Int))=true:=by simp;omega
   have b2:decide ((k:Int) < 0)=false:=by simp
   have b3:IntKind.wrap .i64 ((k:Int)+0)=(k:Int):=B2 (by omega) (by omega)
   have b4:IntKind.wrap .i64 ((k:Int)+(([c]:List UInt8).length:Int))=((k+1:Nat):Int):=by
    show IntKind.wrap .i64 ((k:Int)+((1:Nat):Int))=_
    rw[B2 (by omega) (by omega)];omega
   have b5:((0:Int)≤(k:Int))=True:=eq_true (by omega)
   have b6:((k:Int)≤(rest.length:Int))=True:=eq_true (by omega)
   have b7:((0:Int)≤(i:Int))=True:=eq_true (by omega)
   have b8:((i:Int) < ((N+1:Nat):Int))=True:=eq_true (by omega)
   have b9:(i < N+1)=True:=eq_true (by omega)
   have b10:((0:Int)≤((k+1:Nat):Int))=True:=eq_true (by omega)
   have b11:(((k+1:Nat):Int)≤(rest.length:Int))=True:=eq_true (by omega)
   have b12:IntKind.wrap .i64 ((i:Int)+1)=((i+1:Nat):Int):=B2 (by omega) (by omega)
   have b13:Ho a 0 (N+1)=a:=ri hl
   refine⟨(rest.drop (k+1),a.set i (rest.take k),((i+1:Nat):Int)),?_,N - (i+1),by omega,_,_,i+1,rfl,rfl,by omega,by rw[List.length_set];exact hl,by omega,by rw[List.length_drop];omega,?_⟩
   ·simp only[b1,hI,bs,b2,b3,b4,b5,b6,b7,b8,b9,b10,b11,b12,b13,Int.toNat_natCast,Bool.false_eq_true,if_false,if_true]
   ·rw[he,k3,List.take_add_one,List.getElem?_set_self (by omega),List.take_set_of_le (Nat.le_refl _)]
    simp
  ·right
   subst heq
   have b1:decide ((i:Int) < (i:Int))=false:=by simp
   refine⟨_,by simp only[b1,Bool.false_eq_true,if_false],rest,a,rfl,hl,?_⟩
   rw[he,Q7 (by omega)]
 ·rintro y ⟨rest,a,rfl,hl,he⟩
  have b1:((0:Int)≤(N:Int))=True:=eq_true (by omega)
  have b2:((N:Int) < ((N+1:Nat):Int))=True:=eq_true (by omega)
  have b3:(N < N+1)=True:=eq_true (by omega)
  have b4:IntKind.wrap .i64 ((N:Int)+1)=((N+1:Nat):Int):=B2 (by omega) (by omega)
  have b5:((0:Int)≤((N+1:Nat):Int))=True:=eq_true (by omega)
  have b6:(((N+1:Nat):Int)≤((N+1:Nat):Int))=True:=eq_true (by omega)
  have b7:Ho a 0 (N+1)=a:=ri hl
  simp only[b1,b2,b3,b4,b5,b6,b7,Int.toNat_natCast,if_true]
  rw[he,List.take_add_one,List.getElem?_set_self (by omega),List.take_set_of_le (Nat.le_refl _)]
  rfl
theorem Split_eq (s:List UInt8) (c:UInt8) (hs:s.length≤1000000):m80 s [c]=some (Bl c s):=by
 simp only[M80,du,si s c hs,bs]
end Go.Av
set_option maxRecDepth 100000
namespace Go.Av.Txs
open Go.Av
abbrev aq (y2:(List UInt8)):(Int)→Option ((Int)⊕((Int)⊕((gh)⊕(((List Aj))⊕(G3))))):=(fun(s4:Int)=>((if(decide (s4 < (y2.length:Int)))=true→(0≤s4)then(if(decide (s4 < (y2.length:Int)))=true→(s4 < (y2.length:Int))then(if((decide (s4 < (y2.length:Int)))&&((A0 y2 s4.toNat) != 32))=true then(some (.inl (IntKind.wrap .i64 (s4+1))))else(some (.inr (.inl s4))))else none)else none):Option ((Int)⊕((Int)⊕((gh)⊕(((List Aj))⊕(G3)))))))
abbrev ar (y2:(List UInt8)):(gh)→Option ((gh)⊕(((List Aj))⊕(G3))):=(fun(s3:gh)=>((Option.bind (if(decide (s3.2 < (y2.length:Int)))=true then(some (.inl ()))else(some (.inr (.inr (.inl s3.1))))) (Ad fun(_:Unit)=>(Option.bind (if(0≤s3.2)then(if(s3.2 < (y2.length:Int))then(if((A0 y2 s3.2.toNat)==32)=true then(some (.inr (.inl (s3.1,(IntKind.wrap .i64 (s3.2+1))))))else(some (.inl ())))else none)else none) (Ad fun(_:Unit)=>(Option.bind (Ak (aq y2) s3.2) (Ad fun(y5:Int)=>(if(0≤s3.2)then(if(s3.2≤y5)then(if(y5≤(y2.length:Int))then(if((s3.1.length+1) * 24≤140737488355328)then(some (.inl ((s3.1++([(⟨((y2.take y5.toNat).drop s3.2.toNat),(IntKind.wrap .i64 (s3.2+1))⟩:Aj)]:List Aj)),y5)))else none)else none)else none)else none))))))):Option ((gh)⊕(((List Aj))⊕(G3)))))
abbrev mz (a0:List UInt8):(Int)→Option ((Int)⊕((Unit)⊕(G3))):=(fun(s1:Int)=>((if(decide (s1 < (a0.length:Int)))=true then(if(0≤s1)then(if(s1 < (a0.length:Int))then(if(!(decide ((A0 a0 s1.toNat) < 32)))=true→(0≤s1)then(if(!(decide ((A0 a0 s1.toNat) < 32)))=true→(s1 < (a0.length:Int))then(if((decide ((A0 a0 s1.toNat) < 32)) || (decide (126 < (A0 a0 s1.toNat))))=true then(some (.inr (.inr (([],(IntKind.wrap .i64 (s1+1)),(4:Int))))))else(some (.inl (IntKind.wrap .i64 (s1+1)))))else none)else none)else none)else none)else(some (.inr (.inl ())))):Option ((Int)⊕((Unit)⊕(G3)))))
theorem A81  (a0:List UInt8):m81 a0=((Option.bind (if(decide (200 < (a0.length:Int)))=true then(some (.inr (([],(201:Int),(3:Int)))))else(some (.inl ()))) (Ad fun(_:Unit)=>(Option.bind (Option.bind (some (.inl ())) (Ad fun(_:Unit)=>(Ak (mz a0) (0:Int)))) (Ad fun(_:Unit)=>(Option.bind (Option.bind (Option.bind (er a0 ([35]:List UInt8)) fun r=>some r) fun x9=>(some (.inl x9.1))) (Ad fun(y2:(List UInt8))=>(Option.bind (Option.bind (some (.inl ())) (Ad fun(_:Unit)=>(Ak (ar y2) ([],(0:Int))))) (Ad fun(y6:(List Aj))=>(some (y6,(0:Int),(0:Int))))))))))):Option (G3)):=by kernel_rfl
abbrev Fp (a0:List UInt8):(G3)→Option ((G3)⊕(((List Aj))⊕(G3))):=(fun(s2:G3)=>((if(decide (s2.2.2≤(a0.length:Int)))=true then(if(!(s2.2.2==(a0.length:Int)))=true→(0≤s2.2.2)then(if(!(s2.2.2==(a0.length:Int)))=true→(s2.2.2 < (a0.length:Int))then(if(!((s2.2.2==(a0.length:Int)) || ((A0 a0 s2.2.2.toNat)==32)))=true→(0≤s2.2.2)then(if(!((s2.2.2==(a0.length:Int)) || ((A0 a0 s2.2.2.toNat)==32)))=true→(s2.2.2 < (a0.length:Int))then(if((!(((s2.2.2==(a0.length:Int)) || ((A0 a0 s2.2.2.toNat)==32)) || ((A0 a0 s2.2.2.toNat)==35)))&&(decide (s2.2.1 < 0)))=true then(if((((s2.2.2==(a0.length:Int)) || ((A0 a0 s2.2.2.toNat)==32)) || ((A0 a0 s2.2.2.toNat)==35))&&(decide (0≤s2.2.2)))=true then(if(0≤s2.2.2)then(if(s2.2.2≤s2.2.2)then(if(s2.2.2≤(a0.length:Int))then(if((s2.1.length+1) * 24≤140737488355328)then(if(decide (s2.2.2 < (a0.length:Int)))=true→(0≤s2.2.2)then(if(decide (s2.2.2 < (a0.length:Int)))=true→(s2.2.2 < (a0.length:Int))then(if((decide (s2.2.2 < (a0.length:Int)))&&((A0 a0 s2.2.2.toNat)==35))=true then(some (.inr (.inl (s2.1++([(⟨((a0.take s2.2.2.toNat).drop s2.2.2.toNat),(IntKind.wrap .i64 (s2.2.2+1))⟩:Aj)]:List Aj)))))else(some (.inl ((s2.1++([(⟨((a0.take s2.2.2.toNat).drop s2.2.2.toNat),(IntKind.wrap .i64 (s2.2.2+1))⟩:Aj)]:List Aj)),(-1:Int),(IntKind.wrap .i64 (s2.2.2+1))))))else none)else none)else none)else none)else none)else none)else(if(decide (s2.2.2 < (a0.length:Int)))=true→(0≤s2.2.2)then(if(decide (s2.2.2 < (a0.length:Int)))=true→(s2.2.2 < (a0.length:Int))then(if((decide (s2.2.2 < (a0.length:Int)))&&((A0 a0 s2.2.2.toNat)==35))=true then(some (.inr (.inl s2.1)))else(some (.inl (s2.1,s2.2.2,(IntKind.wrap .i64 (s2.2.2+1))))))else none)else none))else(if((((s2.2.2==(a0.length:Int)) || ((A0 a0 s2.2.2.toNat)==32)) || ((A0 a0 s2.2.2.toNat)==35))&&(decide (0≤s2.2.1)))=true then(if(0≤s2.2.1)then(if(s2.2.1≤s2.2.2)then(if(s2.2.2≤(a0.length:Int))then(if((s2.1.length+1) * 24≤140737488355328)then(if(decide (s2.2.2 < (a0.length:Int)))=true→(0≤s2.2.2)then(if(decide (s2.2.2 < (a0.length:Int)))=true→(s2.2.2 < (a0.length:Int))then(if((decide (s2.2.2 < (a0.length:Int)))&&((A0 a0 s2.2.2.toNat)==35))=true then(some (.inr (.inl (s2.1++([(⟨((a0.take s2.2.2.toNat).drop s2.2.1.toNat),(IntKind.wrap .i64 (s2.2.1+1))⟩:Aj)]:List Aj)))))else(some (.inl ((s2.1++([(⟨((a0.take s2.2.2.toNat).drop s2.2.1.toNat),(IntKind.wrap .i64 (s2.2.1+1))⟩:Aj)]:List Aj)),(-1:Int),(IntKind.wrap .i64 (s2.2.2+1))))))else none)else none)else none)else none)else none)else none)else(if(decide (s2.2.2 < (a0.length:Int)))=true→(0≤s2.2.2)then(if(decide (s2.2.2 < (a0.length:Int)))=true→(s2.2.2 < (a0.length:Int))then(if((decide (s2.2.2 < (a0.length:Int)))&&((A0 a0 s2.2.2.toNat)==35))=true then(some (.inr (.inl s2.1)))else(some (.inl (s2.1,s2.2.1,(IntKind.wrap .i64 (s2.2.2+1))))))else none)else none)))else none)else none)else none)else none)else(some (.inr (.inl s2.1)))):Option ((G3)⊕(((List Aj))⊕(G3)))))
abbrev n7 (a0:List UInt8):(Int)→Option ((Int)⊕((Unit)⊕(G3))):=(fun(s1:Int)=>((if(decide (s1 < (a0.length:Int)))=true then(if(0≤s1)then(if(s1 < (a0.length:Int))then(if(!(decide ((A0 a0 s1.toNat) < 32)))=true→(0≤s1)then(if(!(decide ((A0 a0 s1.toNat) < 32)))=true→(s1 < (a0.length:Int))then(if((decide ((A0 a0 s1.toNat) < 32)) || (decide (126 < (A0 a0 s1.toNat))))=true then(some (.inr (.inr (([],(IntKind.wrap .i64 (s1+1)),(4:Int))))))else(some (.inl (IntKind.wrap .i64 (s1+1)))))else none)else none)else none)else none)else(some (.inr (.inl ())))):Option ((Int)⊕((Unit)⊕(G3)))))
theorem A90  (a0:List UInt8):m90 a0=((Option.bind (if(decide (200 < (a0.length:Int)))=true then(some (.inr (([],(201:Int),(3:Int)))))else(some (.inl ()))) (Ad fun(_:Unit)=>(Option.bind (Option.bind (some (.inl ())) (Ad fun(_:Unit)=>(Ak (n7 a0) (0:Int)))) (Ad fun(_:Unit)=>(Option.bind (some (.inl ())) (Ad fun(_:Unit)=>(Option.bind (Option.bind (some (.inl ())) (Ad fun(_:Unit)=>(Ak (Fp a0) ([],(-1:Int),(0:Int))))) (Ad fun(y3:(List Aj))=>(some (y3,(0:Int),(0:Int))))))))))):Option (G3)):=by kernel_rfl
abbrev O2 (a0:List UInt8):(P38)→Option ((P38)⊕(((List (List UInt8)))⊕((List (List UInt8))))):=(fun(s1:P38)=>((if(decide (s1.2.2≤(a0.length:Int)))=true then(if(!(s1.2.2==(a0.length:Int)))=true→(0≤s1.2.2)then(if(!(s1.2.2==(a0.length:Int)))=true→(s1.2.2 < (a0.length:Int))then(if((s1.2.2==(a0.length:Int)) || ((A0 a0 s1.2.2.toNat)==10))=true then(if(0≤s1.2.1)then(if(s1.2.1≤s1.2.2)then(if(s1.2.2≤(a0.length:Int))then(if((s1.1.length+1) * 16≤140737488355328)then(some (.inl ((s1.1++([((a0.take s1.2.2.toNat).drop s1.2.1.toNat)]:List (List UInt8))),(IntKind.wrap .i64 (s1.2.2+1)),(IntKind.wrap .i64 (s1.2.2+1)))))else none)else none)else none)else none)else(some (.inl (s1.1,s1.2.1,(IntKind.wrap .i64 (s1.2.2+1))))))else none)else none)else(some (.inr (.inl s1.1)))):Option ((P38)⊕(((List (List UInt8)))⊕((List (List UInt8)))))))
theorem A89  (a0:List UInt8):m89 a0=((Option.bind (some (.inl ())) (Ad fun(_:Unit)=>(Option.bind (Option.bind (some (.inl ())) (Ad fun(_:Unit)=>(Ak (O2 a0) ([],(0:Int),(0:Int))))) (Ad fun(y2:(List (List UInt8)))=>(some y2))))):Option ((List (List UInt8)))):=by kernel_rfl
theorem A120  (a0 a1:List UInt8):er a0 a1=((Option.bind (Option.bind (m144 a0 a1) fun r=>some r) fun x1=>(some (x1.1,x1.2.1,x1.2.2))):Option (U5)):=by kernel_rfl
theorem A144  (a0 a1:List UInt8):m144 a0 a1=((Option.bind (Option.bind (ew a0 a1) fun r=>some r) fun x1=>(if(decide (0≤x1))=true then(if(0≤x1)then(if(x1≤(a0.length:Int))then(if(0≤(IntKind.wrap .i64 (x1+(a1.length:Int))))then(if((IntKind.wrap .i64 (x1+(a1.length:Int)))≤(a0.length:Int))then(some ((a0.take x1.toNat),(a0.drop (IntKind.wrap .i64 (x1+(a1.length:Int))).toNat),true))else none)else none)else none)else none)else(some (a0,([]:List UInt8),false)))):Option (U5)):=by kernel_rfl
theorem s5 {s:List UInt8} {n i:Nat} (h:i < n):A0 (s.take n) i=A0 s i:=by unfold A0;rw[List.getElem?_take_of_lt h]
def Fk (y:List UInt8) (i:Nat):Nat:=if h:i < y.length then(if A0 y i=32 then i else Fk y (i+1))else i
termination_by y.length - i
theorem W2 (y:List UInt8) (i:Nat):i≤Fk y i:=by
 unfold Fk
 split
 ·split
  ·exact Nat.le_refl _
  ·exact Nat.le_trans (Nat.le_succ i) (W2 y (i+1))
 ·exact Nat.le_refl _
termination_by y.length - i
theorem ef (y:List UInt8) (i:Nat) (h:i≤y.length):Fk y i≤y.length:=by
 unfold Fk
 split
 ·split
  ·exact h
  ·exact ef y (i+1) (by omega)
 ·exact h
termination_by y.length - i
theorem Oz {y:List UInt8} {i:Nat} (h:i < y.length) (hb:A0 y i≠32):Fk y i=Fk y (i+1):=by
 conv=>lhs;unfold Fk
 rw[dif_pos h,if_neg hb]
theorem Mc {y:List UInt8} {i:Nat} (hb:i < y.length→A0 y i=32):Fk y i=i:=by
 unfold Fk
 split
 ·rename_i h;rw[if_pos (hb h)]
 ·rfl
def C3 (y:List UInt8) (i:Nat):List Aj :=
 if h:i < y.length then(if A0 y i=32 then C3 y (i+1)else⟨(y.take (Fk y (i+1))).drop i,(i:Int)+1⟩ :: C3 y (Fk y (i+1)))else[]
termination_by y.length - i
decreasing_by
 ·omega
 ·have:=W2 y (i+1);omega
theorem Kz {y:List UInt8} {i:Nat} (h:i < y.length) (hb:A0 y i=32):C3 y i=C3 y (i+1):=by
 conv=>lhs;unfold C3
 rw[dif_pos h,if_pos hb]
theorem Pp {y:List UInt8} {i:Nat} (h:i < y.length) (hb:A0 y i≠32):C3 y i=⟨(y.take (Fk y (i+1))).drop i,(i:Int)+1⟩ :: C3 y (Fk y (i+1)):=by
 conv=>lhs;unfold C3
 rw[dif_pos h,if_neg hb]
theorem Gs {y:List UInt8} {i:Nat} (h:y.length≤i):C3 y i=[]:=by
 unfold C3
 rw[dif_neg (by omega)]
theorem F1 {n:Nat} (h:n≤1000000):(n+1) * 24≤140737488355328:=Nat.le_trans (Nat.mul_le_mul_right 24 (Nat.succ_le_succ h)) (by decide)
theorem d9 {n:Nat} (h:n≤1000000):(n+1) * 16≤140737488355328:=Nat.le_trans (Nat.mul_le_mul_right 16 (Nat.succ_le_succ h)) (by decide)
theorem size32 {n:Nat} (h:n≤1000000):(n+1) * 32≤140737488355328:=Nat.le_trans (Nat.mul_le_mul_right 32 (Nat.succ_le_succ h)) (by decide)
theorem Es {n:Nat} (h:n≤1000000):(n+1) * 8≤140737488355328:=Nat.le_trans (Nat.mul_le_mul_right 8 (Nat.succ_le_succ h)) (by decide)
theorem wn {i:Nat} (h:i≤1000000):IntKind.wrap .i64 ((i:Int)+1)=((i+1:Nat):Int):=by rw[B2 (by omega) (by omega)];omega
theorem dh {i:Nat} (h:i≤1000000):IntKind.wrap .i64 ((i:Int)+1)=(i:Int)+1:=B2 (by omega) (by omega)
theorem Bm {S X:Type} {b:S→Option (S⊕X)} {s s':S} {r:Option X} (h:b s=some (.inl s')) (h2:Ak b s'=r):Ak b s=r:=by rw[Ek,h];exact h2
theorem Bh {S X:Type} {b:S→Option (S⊕X)} {s:S} {x:X} (h:b s=some (.inr x)):Ak b s=some x:=by rw[Ek,h];rfl
theorem M2 (y:List UInt8) (hy:y.length≤1000):∀ (k j:Nat),y.length - j=k→j≤y.length→Ak (aq y) (j:Int)=some (.inl (Fk y j:Int))
 | 0,j,hk,hj=>by
  obtain rfl:j=y.length:=by omega
  rw[Ek]
  simp only[aq,Int.lt_irrefl,decide_false,Bool.false_eq_true,false_implies,if_true,Bool.false_and,if_false]
  rw[Mc (fun h=>absurd h (Nat.lt_irrefl _))]
  rfl
 | k+1,j,hk,hj=>by
  have h:j < y.length:=by omega
  have hi:(j:Int) < (y.length:Int):=by omega
  rw[Ek]
  simp only[aq,Int.toNat_natCast,hi,decide_true,forall_const,if_true,Bool.true_and,show (0:Int)≤(j:Int) from by omega]
  by_cases hb:A0 y j=32
  ·rw[Mc (fun _=>hb)]
   simp[hb]
  ·rw[Oz h hb]
   have e:((A0 y j) != 32)=true:=by simpa using hb
   rw[if_pos e,wn (by omega)]
   exact M2 y hy k (j+1) (by omega) (by omega)
theorem outer (y:List UInt8) (hy:y.length≤1000):∀ (k i:Nat) (acc:List Aj),y.length - i=k→i≤y.length→acc.length≤i→Ak (ar y) (acc,(i:Int))=some (.inl (acc++C3 y i)):=by
 intro k
 induction k using Nat.strongRecOn with
 | _ k ih =>
  intro i acc hk hi ha
  rw[Ek]
  rcases Nat.eq_or_lt_of_le hi with rfl | h
  ·simp only[ar,Int.lt_irrefl,decide_false,Bool.false_eq_true,if_false,bs,V7,ol]
   rw[Gs (Nat.le_refl _),List.append_nil]
  ·have hl:(i:Int) < (y.length:Int):=by omega
   simp only[ar,Int.toNat_natCast,hl,decide_true,if_true,bs,ol,show (0:Int)≤(i:Int) from by omega]
   by_cases hb:A0 y i=32
   ·rw[if_pos (by simpa using hb)]
    simp only[bs,V7,wn (i:=i) (by omega)]
    rw[ih (y.length - (i+1)) (by omega) (i+1) acc rfl (by omega) (by omega),Kz h hb]
   ·rw[if_neg (by simpa using hb)]
    simp only[bs,ol]
    rw[M2 y hy _ i rfl hi,Oz h hb]
    have g1:=W2 y (i+1)
    have g2:=ef y (i+1) (by omega)
    generalize hE:Fk y (i+1)=E at g1 g2
    simp only[bs,ol,Int.toNat_natCast]
    rw[if_pos (by omega:(i:Int)≤(E:Int)),if_pos (by omega:(E:Int)≤(y.length:Int)),if_pos (F1 (by omega)),dh (i:=i) (by omega)]
    refine Eq.trans (ih (y.length - E) (by omega) E (acc++[(⟨(y.take E).drop i,(i:Int)+1⟩:Aj)]) rfl (by omega) (by simp;omega)) ?_
    rw[Pp h hb,hE,List.append_assoc]
    rfl
def Di (s:List UInt8):Nat:=if Lib.indexByte s 35 < 0 then s.length else(Lib.indexByte s 35).toNat
theorem dw (s:List UInt8):Di s≤s.length:=by
 unfold Di
 split
 ·exact Nat.le_refl _
 ·rename_i h
  obtain⟨o,ho⟩:=Int.eq_ofNat_of_zero_le (by omega:0≤Lib.indexByte s 35)
  rw[ho,Int.toNat_natCast]
  exact Nat.le_of_lt (List.getElem?_eq_some_iff.1 (Lib.indexByte_some ho).1).1
theorem gq {s:List UInt8} {j:Nat} (h:s[j]?≠some 35):A0 s j≠35:=by
 unfold A0
 split
 ·rename_i b hb
  intro e
  apply h
  rw[hb]
  congr 1
  apply UInt8.toNat_inj.1
  show b.toNat=35
  omega
 ·decide
theorem cutN_lt {s:List UInt8} {j:Nat} (h:j < Di s):A0 s j≠35:=by
 unfold Di at h
 split at h
 ·rename_i hc
  have:=Lib.indexByte_ge s 35
  exact gq (Lib.indexByte_none (by omega) j)
 ·rename_i hc
  obtain⟨o,ho⟩:=Int.eq_ofNat_of_zero_le (by omega:0≤Lib.indexByte s 35)
  rw[ho,Int.toNat_natCast]at h
  exact gq ((Lib.indexByte_some ho).2 j h)
theorem tq {s:List UInt8} (h:Di s < s.length):A0 s (Di s)=35:=by
 unfold Di at h ⊢
 split at h
 ·exact absurd h (Nat.lt_irrefl _)
 ·rename_i hc
  rw[if_neg hc]
  obtain⟨o,ho⟩:=Int.eq_ofNat_of_zero_le (by omega:0≤Lib.indexByte s 35)
  rw[ho,Int.toNat_natCast]
  have:=(Lib.indexByte_some ho).1
  unfold A0
  rw[this]
  rfl
theorem cut_eq (s:List UInt8) (hs:s.length≤1000):∃ r,er s [35]=some (s.take (Di s),r):=by
 rw[A120,A144]
 have hI:ew s [35]=some (Lib.indexByte s 35):=rfl
 rw[hI]
 simp only[bs]
 unfold Di
 by_cases h:Lib.indexByte s 35 < 0
 ·rw[if_neg (by simpa using h),if_pos h,List.take_length]
  exact⟨_,rfl⟩
 ·have hle:=dw s
  unfold Di at hle
  rw[if_neg h]at hle
  rw[if_pos (by simpa using h),if_neg h,if_pos (by omega),if_pos (by omega)]
  obtain⟨o,ho⟩:=Int.eq_ofNat_of_zero_le (by omega:0≤Lib.indexByte s 35)
  have hlt:=(List.getElem?_eq_some_iff.1 (Lib.indexByte_some ho).1).1
  rw[ho]
  have:IntKind.wrap .i64 ((o:Int)+(([35]:List UInt8).length:Int))=(o:Int)+1:=B2 (by simp;omega) (by simp;omega)
  rw[this,if_pos (by omega),if_pos (by omega)]
  exact⟨_,rfl⟩
def dt (s:List UInt8) (i:Nat):Bool:=decide (A0 s i < 32) || decide (126 < A0 s i)
def Dn (s:List UInt8):List Aj×Int×Int :=
 if 200 < s.length then([],201,3)else(Dj (fun i=>if dt s i=true then some ([],(i:Int)+1,4)else none) s.length).getD (C3 (s.take (Di s)) 0,0,0)
theorem Split_p (s:List UInt8):m81 s=some (Dn s):=by
 rw[A81]
 unfold Dn
 by_cases h:200 < s.length
 ·rw[if_pos (by simpa using (by omega:(200:Int) < (s.length:Int))),if_pos h]
  rfl
 ·rw[if_neg (by simpa using (by omega:¬ (200:Int) < (s.length:Int))),if_neg h]
  simp only[bs,ol]
  obtain⟨r,hr⟩:=cut_eq s (by omega)
  have hz:=outer (s.take (Di s)) (by simp;omega) _ 0 [] rfl (Nat.zero_le _) (Nat.le_refl _)
  refine(Wb s.length (fun i=>if dt s i=true then some (([]:List Aj),(i:Int)+1,(4:Int))else none) (z:=some (C3 (s.take (Di s)) 0,0,0)) (fun i hi=>?_) ?_ ?_).trans ph
  ·have hl:(i:Int) < (s.length:Int):=by omega
   simp only[mz,Int.toNat_natCast,hl,decide_true,if_true,show (0:Int)≤(i:Int) from by omega,forall_const,implies_true,dh (i:=i) (by omega),W3,Rs,Nr]
   rfl
  ·simp only[mz,Int.lt_irrefl,decide_false,Bool.false_eq_true,if_false]
  ·rw[hr]
   simp only[bs,ol]
   rw[show ((0:Nat):Int)=0 from rfl,List.nil_append]at hz
   rw[hz]
   rfl
theorem r8loop (x : List UInt8) (hx : x.length ≤ 1000) : ∀ (k i : Nat) (acc : List Aj), Di x - i = k → i ≤ Di x → acc.length ≤ i →
    Ak (Fp x) (acc, -1, (i : Int)) = some (.inl (acc ++ C3 (x.take (Di x)) i)) ∧
    ∀ b : Nat, b < i → Ak (Fp x) (acc, (b : Int), (i : Int)) = some (.inl (acc ++ ⟨((x.take (Di x)).take (Fk (x.take (Di x)) i)).drop b, (b : Int) + 1⟩ :: C3 (x.take (Di x)) (Fk (x.take (Di x)) i))) := by
  have hN := dw x
  have hlt := fun {j} => @cutN_lt x j
  have hat := @tq x
  generalize hNe : Di x = N at hN hlt hat
  have hyl : (x.take N).length = N := by simp; omega
  have hby : ∀ {j}, j < N → A0 (x.take N) j = A0 x j := fun h => s5 h
  generalize hye : x.take N = y at hyl hby
  have htk : ∀ {e : Nat}, e ≤ N → y.take e = x.take e := fun {e} h => by rw [← hye, List.take_take]; congr 1; omega
  have fin : ∀ acc : List Aj, Ak (Fp x) (acc, -1, ((x.length + 1 : Nat) : Int)) = some (.inl acc) := fun acc => Bh (by
    simp only [Fp]
    rw [if_neg (by simpa using (by omega : ¬ (((x.length + 1 : Nat) : Int) ≤ (x.length : Int))))])
  intro k
  induction k with
  | zero =>
    intro i acc hk hi ha
    obtain rfl : i = N := by omega
    have hle : ((i : Int) ≤ (x.length : Int)) := by omega
    rw [Gs (by omega), Mc (fun h => absurd h (by omega)), Gs (by omega)]
    have hend : ((((i : Int) == (x.length : Int)) || ((A0 x i) == 32)) || ((A0 x i) == 35)) = true := by
      rcases Nat.eq_or_lt_of_le hN with e | h
      · simp [e]
      · simp [hat h]
    have g1 : (!((i : Int) == (x.length : Int))) = true → (i : Int) < (x.length : Int) := fun h => by
      have : ¬ ((i : Int) = (x.length : Int)) := by simpa using h
      omega
    have g2 : (!(((i : Int) == (x.length : Int)) || ((A0 x i) == 32))) = true → (i : Int) < (x.length : Int) := fun h => by
      apply g1
      cases hc : ((i : Int) == (x.length : Int)) with
      | true => rw [hc] at h; simp at h
      | false => rfl
    constructor
    · rcases Nat.eq_or_lt_of_le hN with e | h
      · refine Bm (s' := (acc, -1, ((i + 1 : Nat) : Int))) ?_ (by rw [e, fin acc, List.append_nil])
        simp only [Fp, Int.toNat_natCast, hle, decide_true, if_true, show (0 : Int) ≤ (i : Int) from by omega, implies_true, if_pos g1, if_pos g2, hend, Bool.not_true, Bool.false_and, Bool.false_eq_true, if_false, Bool.true_and]
        rw [if_neg (by decide : ¬ ((decide ((0 : Int) ≤ -1)) = true)), if_pos (fun h => by have : (i : Int) < (x.length : Int) := by simpa using h
                                                                                           exact this), if_neg (by simp [e]), wn (by omega)]
      · rw [List.append_nil]
        refine Bh ?_
        have hlt2 : (i : Int) < (x.length : Int) := by omega
        simp only [Fp, Int.toNat_natCast, hle, decide_true, if_true, show (0 : Int) ≤ (i : Int) from by omega, implies_true, if_pos g1, if_pos g2, hend, Bool.not_true, Bool.false_and, Bool.false_eq_true, if_false, Bool.true_and]
        rw [if_neg (by decide : ¬ ((decide ((0 : Int) ≤ -1)) = true))]
        simp only [hlt2, decide_true, forall_const, if_true, Bool.true_and, hat h, beq_self_eq_true]
    · intro b hb
      rw [htk (Nat.le_refl _)]
      rcases Nat.eq_or_lt_of_le hN with e | h
      · refine Bm (s' := (acc ++ [(⟨(x.take i).drop b, (b : Int) + 1⟩ : Aj)], -1, ((i + 1 : Nat) : Int))) ?_ (by rw [e, fin])
        simp only [Fp, Int.toNat_natCast, hle, decide_true, if_true, show (0 : Int) ≤ (i : Int) from by omega, show (0 : Int) ≤ (b : Int) from by omega, implies_true, if_pos g1, if_pos g2, hend, Bool.not_true, Bool.false_and, Bool.false_eq_true, if_false, Bool.true_and]
        rw [if_pos (by omega : (b : Int) ≤ (i : Int)), if_pos (F1 (by omega)), dh (i := b) (by omega), if_pos (fun h => by have : (i : Int) < (x.length : Int) := by simpa using h
                                                                                                                           exact this), if_neg (by simp [e]), wn (by omega)]
      · refine Bh ?_
        have hlt2 : (i : Int) < (x.length : Int) := by omega
        simp only [Fp, Int.toNat_natCast, hle, decide_true, if_true, show (0 : Int) ≤ (i : Int) from by omega, show (0 : Int) ≤ (b : Int) from by omega, implies_true, if_pos g1, if_pos g2, hend, Bool.not_true, Bool.false_and, Bool.false_eq_true, if_false, Bool.true_and]
        rw [if_pos (by omega : (b : Int) ≤ (i : Int)), if_pos (F1 (by omega)), dh (i := b) (by omega)]
        simp only [hlt2, decide_true, forall_const, if_true, Bool.true_and, hat h, beq_self_eq_true]
  | succ k ih =>
    intro i acc hk hi ha
    have h : i < N := by omega
    have hle : ((i : Int) ≤ (x.length : Int)) := by omega
    have hlt2 : ((i : Int) < (x.length : Int)) := by omega
    have hne : ((i : Int) == (x.length : Int)) = false := by simp; omega
    have h35 : ((A0 x i) == 35) = false := by simpa using hlt h
    obtain ⟨ih1, ih2⟩ := ih (i + 1) acc (by omega) (by omega) (by omega)
    by_cases hb : A0 x i = 32
    · have e32 : ((A0 x i) == 32) = true := by simpa using hb
      constructor
      · refine Bm (s' := (acc, -1, ((i + 1 : Nat) : Int))) ?_ (by rw [ih1, Kz (i := i) (by omega) (by rw [hby h]; exact hb)])
        simp only [Fp, Int.toNat_natCast, hle, hlt2, hne, e32, h35, decide_true, if_true, show (0 : Int) ≤ (i : Int) from by omega, implies_true, Bool.or_true, Bool.true_or, Bool.or_false, Bool.false_or, Bool.not_true, Bool.false_and, Bool.false_eq_true, if_false, Bool.true_and, Bool.and_false, forall_const]
        rw [if_neg (by decide : ¬ ((decide ((0 : Int) ≤ -1)) = true)), wn (by omega)]
      · intro b hbi
        refine Bm (s' := (acc ++ [(⟨(x.take i).drop b, (b : Int) + 1⟩ : Aj)], -1, ((i + 1 : Nat) : Int))) ?_ ?_
        · simp only [Fp, Int.toNat_natCast, hle, hlt2, hne, e32, h35, decide_true, if_true, show (0 : Int) ≤ (i : Int) from by omega, show (0 : Int) ≤ (b : Int) from by omega, implies_true, Bool.or_true, Bool.true_or, Bool.or_false, Bool.false_or, Bool.not_true, Bool.false_and, Bool.false_eq_true, if_false, Bool.true_and, Bool.and_false, forall_const]
          rw [if_pos (by omega : (b : Int) ≤ (i : Int)), if_pos (F1 (by omega)), dh (i := b) (by omega), wn (i := i) (by omega)]
        · rw [Mc (fun _ => by rw [hby h]; exact hb), htk (by omega), Kz (i := i) (by omega) (by rw [hby h]; exact hb)]
          rw [(ih (i + 1) (acc ++ [(⟨(x.take i).drop b, (b : Int) + 1⟩ : Aj)]) (by omega) (by omega) (by simp; omega)).1, List.append_assoc]
          rfl
    · have e32 : ((A0 x i) == 32) = false := by simpa using hb
      constructor
      · refine Bm (s' := (acc, (i : Int), ((i + 1 : Nat) : Int))) ?_ (by rw [(ih2 i (by omega)), Pp (i := i) (by omega) (by rw [hby h]; exact hb)])
        simp only [Fp, Int.toNat_natCast, hle, hlt2, hne, e32, h35, decide_true, if_true, show (0 : Int) ≤ (i : Int) from by omega, implies_true, Bool.or_false, Bool.not_false, Bool.false_and, Bool.false_eq_true, if_false, Bool.true_and, Bool.and_false, forall_const, show decide ((-1 : Int) < 0) = true from by decide]
        rw [wn (by omega)]
      · intro b hbi
        refine Bm (s' := (acc, (b : Int), ((i + 1 : Nat) : Int))) ?_ (by rw [ih2 b (by omega), Oz (i := i) (by omega) (by rw [hby h]; exact hb)])
        have hb0 : decide ((b : Int) < 0) = false := by simp
        simp only [Fp, Int.toNat_natCast, hle, hlt2, hne, e32, h35, hb0, decide_true, if_true, show (0 : Int) ≤ (i : Int) from by omega, show (0 : Int) ≤ (b : Int) from by omega, implies_true, Bool.or_false, Bool.not_false, Bool.false_and, Bool.false_eq_true, if_false, Bool.true_and, Bool.and_false, forall_const]
        rw [wn (by omega)]
theorem Split_r (s:List UInt8):m90 s=some (Dn s):=by
 rw[A90]
 unfold Dn
 by_cases h:200 < s.length
 ·rw[if_pos (by simpa using (by omega:(200:Int) < (s.length:Int))),if_pos h]
  rfl
 ·rw[if_neg (by simpa using (by omega:¬ (200:Int) < (s.length:Int))),if_neg h]
  simp only[bs,ol]
  have hz:=(r8loop s (by omega) _ 0 [] rfl (Nat.zero_le _) (Nat.le_refl _)).1
  refine(Wb s.length (fun i=>if dt s i=true then some (([]:List Aj),(i:Int)+1,(4:Int))else none) (z:=some (C3 (s.take (Di s)) 0,0,0)) (fun i hi=>?_) ?_ ?_).trans ph
  ·have hl:(i:Int) < (s.length:Int):=by omega
   simp only[n7,Int.toNat_natCast,hl,decide_true,if_true,show (0:Int)≤(i:Int) from by omega,forall_const,implies_true,dh (i:=i) (by omega),W3,Rs,Nr]
   rfl
  ·simp only[n7,Int.lt_irrefl,decide_false,Bool.false_eq_true,if_false]
  ·rw[show ((0:Nat):Int)=0 from rfl,List.nil_append]at hz
   simp only[bs,ol,hz]
end Go.Av.Txs
set_option maxRecDepth 100000
namespace Go.Av.Txs
open Go.Av
abbrev lo30o0_1 (y1:Oo):(Oq)→Option ((Oq)⊕((P7)⊕(Ea))):=(fun(s2:Oq)=>((if(decide (s2.2.2 < y1.2))=true then(if(0≤s2.2.2)then(if(s2.2.2 < (y1.1.length:Int))then(Option.bind (Option.bind (m81 (y1.1.getD s2.2.2.toNat default)) fun r=>some r) fun x8=>(if(x8.2.2 != 0)=true then(if(decide ((s2.2.1.length:Int) < (50:Int)))=true then(if((s2.2.1.length+1) * 24≤140737488355328)then(some (.inl (s2.1,(s2.2.1++([(⟨(IntKind.wrap .i64 (s2.2.2+1)),x8.2.1,x8.2.2⟩:A5)]:List A5)),(IntKind.wrap .i64 (s2.2.2+1)))))else none)else(some (.inl (s2.1,s2.2.1,(IntKind.wrap .i64 (s2.2.2+1))))))else(if(decide (0 < (x8.1.length:Int)))=true then(if((s2.1.length+1) * 32≤140737488355328)then(some (.inl ((s2.1++([(⟨(IntKind.wrap .i64 (s2.2.2+1)),x8.1⟩:A7)]:List A7)),s2.2.1,(IntKind.wrap .i64 (s2.2.2+1)))))else none)else(some (.inl (s2.1,s2.2.1,(IntKind.wrap .i64 (s2.2.2+1))))))))else none)else none)else(some (.inr (.inl (s2.1,s2.2.1))))):Option ((Oq)⊕((P7)⊕(Ea)))))
theorem A30o0  (a0:List UInt8):S1 a0=((Option.bind (if(decide (262144 < (a0.length:Int)))=true then(some (.inr ((([(⟨(1:Int),(1:Int),(3:Int)⟩:A5)]:List A5),[]))))else(some (.inl ()))) (Ad fun(_:Unit)=>(Option.bind (Option.bind (Option.bind (Option.bind (m80 a0 ([10]:List UInt8)) fun r=>some r) fun x5=>(some (.inl (x5,(x5.length:Int))))) (Ad fun(y1:Oo)=>(Ak (lo30o0_1 y1) ([],[],(0:Int))))) (Ad fun(y3:P7)=>(some (y3.2,y3.1)))))):Option (Ea)):=by kernel_rfl
abbrev lo33o0_1 (y1:Oo):(Oq)→Option ((Oq)⊕((P7)⊕(Ea))):=(fun(s2:Oq)=>((if(decide (s2.2.2 < y1.2))=true then(if(0≤s2.2.2)then(if(s2.2.2 < (y1.1.length:Int))then(Option.bind (Option.bind (m90 (y1.1.getD s2.2.2.toNat default)) fun r=>some r) fun x8=>(if(x8.2.2 != 0)=true then(if(decide ((s2.2.1.length:Int) < (50:Int)))=true then(if((s2.2.1.length+1) * 24≤140737488355328)then(some (.inl (s2.1,(s2.2.1++([(⟨(IntKind.wrap .i64 (s2.2.2+1)),x8.2.1,x8.2.2⟩:A5)]:List A5)),(IntKind.wrap .i64 (s2.2.2+1)))))else none)else(some (.inl (s2.1,s2.2.1,(IntKind.wrap .i64 (s2.2.2+1))))))else(if(decide (0 < (x8.1.length:Int)))=true then(if((s2.1.length+1) * 32≤140737488355328)then(some (.inl ((s2.1++([(⟨(IntKind.wrap .i64 (s2.2.2+1)),x8.1⟩:A7)]:List A7)),s2.2.1,(IntKind.wrap .i64 (s2.2.2+1)))))else none)else(some (.inl (s2.1,s2.2.1,(IntKind.wrap .i64 (s2.2.2+1))))))))else none)else none)else(some (.inr (.inl (s2.1,s2.2.1))))):Option ((Oq)⊕((P7)⊕(Ea)))))
theorem A33o0  (a0:List UInt8):bn a0=((Option.bind (if(decide (262144 < (a0.length:Int)))=true then(some (.inr ((([(⟨(1:Int),(1:Int),(3:Int)⟩:A5)]:List A5),[]))))else(some (.inl ()))) (Ad fun(_:Unit)=>(Option.bind (Option.bind (Option.bind (Option.bind (m89 a0) fun r=>some r) fun x5=>(some (.inl (x5,(x5.length:Int))))) (Ad fun(y1:Oo)=>(Ak (lo33o0_1 y1) ([],[],(0:Int))))) (Ad fun(y3:P7)=>(some (y3.2,y3.1)))))):Option (Ea)):=by kernel_rfl
theorem byte10 {x:List UInt8} {i:Nat} (h:i < x.length):((A0 x i)==10)=true↔x[i]=10:=by
 unfold A0
 rw[List.getElem?_eq_getElem h]
 simp only[beq_iff_eq]
 constructor
 ·intro e;apply UInt8.toNat_inj.1;show (x[i]).toNat=10;omega
 ·intro e;rw[e];rfl
theorem zh (x:List UInt8) (hx:x.length≤300000):∀ (k i b:Nat) (acc:List (List UInt8)),x.length - i=k→i≤x.length→b≤i→acc.length≤i→(10:UInt8) ∉ (x.take i).drop b →
  Ak (O2 x) (acc,(b:Int),(i:Int))=some (.inl (acc++Bl 10 (x.drop b))):=by
 have fin:∀ (acc:List (List UInt8)) (b:Int),Ak (O2 x) (acc,b,((x.length+1:Nat):Int))=some (.inl acc):=fun acc b=>Bh (by
  simp only[O2]
  rw[if_neg (by simpa using (by omega:¬ (((x.length+1:Nat):Int)≤(x.length:Int))))])
 intro k
 induction k with
 | zero =>
  intro i b acc hk hi hb ha hn
  obtain rfl:i=x.length:=by omega
  refine Bm (s':=(acc++[(x.take x.length).drop b],((x.length+1:Nat):Int),((x.length+1:Nat):Int))) ?_ ?_
  ·simp only[O2,Int.toNat_natCast,Int.le_refl,decide_true,if_true,beq_self_eq_true,Bool.not_true,Bool.false_eq_true,false_implies,Bool.true_or]
   rw[if_pos (by omega:(0:Int)≤(b:Int)),if_pos (by omega:(b:Int)≤(x.length:Int)),if_pos (d9 (by omega)),wn (by omega)]
  ·rw[fin,List.take_length]
   rw[List.take_length]at hn
   rw[ss hn]
 | succ k ih =>
  intro i b acc hk hi hb ha hn
  have h:i < x.length:=by omega
  have hle:(i:Int)≤(x.length:Int):=by omega
  have hlt:(i:Int) < (x.length:Int):=by omega
  have hne:((i:Int)==(x.length:Int))=false:=by simp;omega
  have ht:x.take (i+1)=x.take i++[x[i]]:=by rw[List.take_add_one,List.getElem?_eq_getElem h];rfl
  by_cases h10:((A0 x i)==10)=true
  ·refine Bm (s':=(acc++[(x.take i).drop b],((i+1:Nat):Int),((i+1:Nat):Int))) ?_ ?_
   ·simp only[O2,Int.toNat_natCast,hle,hlt,hne,h10,decide_true,if_true,show (0:Int)≤(i:Int) from by omega,implies_true,Bool.or_true,forall_const]
    rw[if_pos (by omega:(0:Int)≤(b:Int)),if_pos (by omega:(b:Int)≤(i:Int)),if_pos (d9 (by omega)),wn (by omega)]
   ·rw[ih (i+1) (i+1) _ (by omega) (by omega) (Nat.le_refl _) (by simp;omega) (by rw[List.drop_eq_nil_of_le (by simp;omega)];exact List.not_mem_nil),List.append_assoc]
    have e:x.drop b=(x.take i).drop b++10 :: x.drop (i+1):=by
     conv=>lhs;rw[← List.take_append_drop i x]
     rw[List.drop_append_of_le_length (by simp;omega),List.drop_eq_getElem_cons h,(byte10 h).1 h10]
    rw[e,Xh hn]
    rfl
  ·have h10':((A0 x i)==10)=false:=by simpa using h10
   refine Bm (s':=(acc,(b:Int),((i+1:Nat):Int))) ?_ (ih (i+1) b acc (by omega) (by omega) (by omega) (by omega) ?_)
   ·simp only[O2,Int.toNat_natCast,hle,hlt,hne,h10',decide_true,if_true,show (0:Int)≤(i:Int) from by omega,implies_true,Bool.or_false,Bool.false_eq_true,if_false,forall_const]
    rw[wn (by omega)]
   ·rw[ht,List.drop_append_of_le_length (by simp;omega),List.mem_append]
    rintro(hm | hm)
    ·exact hn hm
    ·rw[List.mem_singleton]at hm
     exact h10 ((byte10 h).2 hm.symm)
theorem Lines_eq (x:List UInt8) (hx:x.length≤300000):m89 x=some (Bl 10 x):=by
 rw[A89]
 have:=zh x hx _ 0 0 [] rfl (Nat.zero_le _) (Nat.le_refl _) (Nat.le_refl _) (by simp)
 rw[show ((0:Nat):Int)=0 from rfl,List.nil_append,List.drop_zero]at this
 simp only[bs,ol,this]
def Nb (i:Nat) (x:List UInt8) (o:List A7×List A5):List A7×List A5 :=
 if(Dn x).2.2≠0 then(if o.2.length < 50 then(o.1,o.2++[⟨(i:Int)+1,(Dn x).2.1,(Dn x).2.2⟩])else o)
 else if 0 < (Dn x).1.length then(o.1++[⟨(i:Int)+1,(Dn x).1⟩],o.2)else o
def D5 (l:List (List UInt8)):Nat→List A7×List A5
 | 0=>([],[])
 | n+1=>Nb n (l.getD n []) (D5 l n)
theorem Pj (l:List (List UInt8)):∀ n,(D5 l n).1.length≤n∧(D5 l n).2.length≤50
 | 0=>⟨Nat.le_refl _,Nat.zero_le _⟩
 | n+1=>by
  obtain⟨h1,h2⟩:=Pj l n
  unfold D5 Nb
  split
  ·split
   ·exact⟨by simp;omega,by simp;omega⟩
   ·exact⟨by omega,h2⟩
  ·split
   ·exact⟨by simp;omega,h2⟩
   ·exact⟨by omega,h2⟩
theorem ji (l:List (List UInt8)) (hl:l.length≤300001) {b:List A7×List A5×Int→Option ((List A7×List A5×Int)⊕((List A7×List A5)⊕(List A5×List A7)))} (f:List UInt8→Option (List Aj×P9)) (hf:∀ x,f x=some (Dn x))
  (hb:b=(fun(s2:Oq)=>((if(decide (s2.2.2 < (l.length:Int)))=true then(if(0≤s2.2.2)then(if(s2.2.2 < (l.length:Int))then(Option.bind (Option.bind (f (l.getD s2.2.2.toNat default)) fun r=>some r) fun x8=>(if(x8.2.2 != 0)=true then(if(decide ((s2.2.1.length:Int) < (50:Int)))=true then(if((s2.2.1.length+1) * 24≤140737488355328)then(some (.inl (s2.1,(s2.2.1++([(⟨(IntKind.wrap .i64 (s2.2.2+1)),x8.2.1,x8.2.2⟩:A5)]:List A5)),(IntKind.wrap .i64 (s2.2.2+1)))))else none)else(some (.inl (s2.1,s2.2.1,(IntKind.wrap .i64 (s2.2.2+1))))))else(if(decide (0 < (x8.1.length:Int)))=true then(if((s2.1.length+1) * 32≤140737488355328)then(some (.inl ((s2.1++([(⟨(IntKind.wrap .i64 (s2.2.2+1)),x8.1⟩:A7)]:List A7)),s2.2.1,(IntKind.wrap .i64 (s2.2.2+1)))))else none)else(some (.inl (s2.1,s2.2.1,(IntKind.wrap .i64 (s2.2.2+1))))))))else none)else none)else(some (.inr (.inl (s2.1,s2.2.1))))):Option ((Oq)⊕((P7)⊕(Ea)))))) :
  Ak b ([],[],(0:Int))=some (.inl (D5 l l.length)):=by
 have key:∀ k i,i+k=l.length→Ak b ((D5 l i).1,(D5 l i).2,(i:Int))=some (.inl (D5 l l.length)):=by
  intro k
  induction k with
  | zero =>
   intro i hi
   obtain rfl:i=l.length:=by omega
   refine Bh ?_
   rw[hb]
   simp only[Int.lt_irrefl,decide_false,Bool.false_eq_true,if_false]
  | succ k ih =>
   intro i hi
   obtain⟨h1,h2⟩:=Pj l i
   refine Bm (s':=((D5 l (i+1)).1,(D5 l (i+1)).2,((i+1:Nat):Int))) ?_ (ih (i+1) (by omega))
   have hlt:(i:Int) < (l.length:Int):=by omega
   rw[hb]
   simp only[Int.toNat_natCast,hlt,decide_true,if_true,show (0:Int)≤(i:Int) from by omega,hf,bs]
   rw[dh (i:=i) (by omega)]
   show _=some (Sum.inl ((Nb i (l.getD i []) (D5 l i)).1,(Nb i (l.getD i []) (D5 l i)).2,((i+1:Nat):Int)))
   rw[show ((i+1:Nat):Int)=(i:Int)+1 from by omega,show (default:List UInt8)=[] from rfl]
   unfold Nb
   generalize Dn (l.getD i [])=G
   generalize D5 l i=O at h1 h2 ⊢
   by_cases c1:G.2.2=0
   ·rw[show (G.2.2 != 0)=false from by simp[c1],if_neg (by decide:¬ (false=true)),if_neg (show ¬ (G.2.2≠0) from fun h=>h c1)]
    by_cases c2:0 < G.1.length
    ·rw[if_pos (show decide ((0:Int) < (G.1.length:Int))=true from by simpa using c2),if_pos (size32 (by omega)),if_pos c2]
    ·rw[if_neg (show ¬ decide ((0:Int) < (G.1.length:Int))=true from by simpa using c2),if_neg c2]
   ·rw[show (G.2.2 != 0)=true from by simp[c1],if_pos (rfl:true=true),if_pos (show G.2.2≠0 from c1)]
    by_cases c2:O.2.length < 50
    ·rw[if_pos (show decide ((O.2.length:Int) < (50:Int))=true from by simpa using (by omega:(O.2.length:Int) < 50)),if_pos (F1 (by omega)),if_pos c2]
    ·rw[if_neg (show ¬ decide ((O.2.length:Int) < (50:Int))=true from by simpa using (by omega:¬ (O.2.length:Int) < 50)),if_neg c2]
 exact key l.length 0 (by omega)
def Dh (s:List UInt8):List A5×List A7 :=
 if 262144 < s.length then([⟨1,1,3⟩],[])else((D5 (Bl 10 s) (Bl 10 s).length).2,(D5 (Bl 10 s) (Bl 10 s).length).1)
theorem Vm (s:List UInt8):(Bl 10 s).length≤s.length+1:=by
 rw[da]
 have:=List.count_le_length (a:=(10:UInt8)) (l:=s)
 omega
theorem Read_p (s:List UInt8):S1 s=some (Dh s):=by
 rw[A30o0]
 unfold Dh
 by_cases h:262144 < s.length
 ·rw[if_pos (by simpa using (by omega:(262144:Int) < (s.length:Int))),if_pos h];rfl
 ·rw[if_neg (by simpa using (by omega:¬ (262144:Int) < (s.length:Int))),if_neg h]
  simp only[bs,ol]
  rw[Split_eq s 10 (by omega)]
  simp only[bs,ol]
  have hl:=Vm s
  rw[ji (Bl 10 s) (by omega) _ Split_p rfl]
  rfl
theorem Read_r (s:List UInt8):bn s=some (Dh s):=by
 rw[A33o0]
 unfold Dh
 by_cases h:262144 < s.length
 ·rw[if_pos (by simpa using (by omega:(262144:Int) < (s.length:Int))),if_pos h];rfl
 ·rw[if_neg (by simpa using (by omega:¬ (262144:Int) < (s.length:Int))),if_neg h]
  simp only[bs,ol]
  rw[Lines_eq s (by omega)]
  simp only[bs,ol]
  have hl:=Vm s
  rw[ji (Bl 10 s) (by omega) _ Split_r rfl]
  rfl
structure Cv (L:A7):Prop where
 num:1≤L.A8∧L.A8≤300001
 ne:0 < L.A2.length
 len:L.A2.length≤200
 fld:∀ f∈L.A2,1≤f.Ai∧f.Ai≤200∧f.Text.length≤200
theorem AAJ (y:List UInt8) (hy:y.length≤200):∀ (k i:Nat),y.length - i=k→(C3 y i).length≤k∧∀ f∈C3 y i,1≤f.Ai∧f.Ai≤200∧f.Text.length≤200:=by
 intro k
 induction k using Nat.strongRecOn with
 | _ k ih =>
  intro i hk
  by_cases h:i < y.length
  ·by_cases hb:A0 y i=32
   ·rw[Kz h hb]
    obtain⟨h1,h2⟩:=ih (k - 1) (by omega) (i+1) (by omega)
    exact⟨by omega,h2⟩
   ·rw[Pp h hb]
    have g1:=W2 y (i+1)
    have g2:=ef y (i+1) (by omega)
    obtain⟨h1,h2⟩:=ih (y.length - Fk y (i+1)) (by omega) _ rfl
    refine⟨by rw[List.length_cons];omega,fun f hf=>?_⟩
    rcases List.mem_cons.1 hf with rfl | hf
    ·exact⟨by show (1:Int)≤(i:Int)+1;omega,by show (i:Int)+1≤200;omega,by simp;omega⟩
    ·exact h2 f hf
  ·rw[Gs (by omega)]
   exact⟨Nat.zero_le _,fun f hf=>absurd hf List.not_mem_nil⟩
theorem splitF_ok (x : List UInt8) : (Dn x).1.length ≤ 200 ∧ ∀ f ∈ (Dn x).1, 1 ≤ f.Ai ∧ f.Ai ≤ 200 ∧ f.Text.length ≤ 200 := by
  unfold Dn
  split
  · exact ⟨Nat.zero_le _, fun f hf => absurd hf List.not_mem_nil⟩
  · cases hc : Dj (fun i => if dt x i = true then some (([] : List Aj), (i : Int) + 1, (4 : Int)) else none) x.length with
    | none =>
      obtain ⟨h1, h2⟩ := AAJ (x.take (Di x)) (by simp; omega) _ 0 rfl
      exact ⟨by simp only [Option.getD_none]; have : (x.take (Di x)).length ≤ 200 := by simp; omega
                omega, h2⟩
    | some r =>
      obtain ⟨i, _, hi⟩ := X7 hc
      split at hi
      · injection hi with hi
        subst hi
        exact ⟨Nat.zero_le _, fun f hf => absurd hf List.not_mem_nil⟩
      · cases hi
theorem Sa (l:List (List UInt8)):∀ n,n≤300001→∀ L∈(D5 l n).1,Cv L
 | 0,_,L,h=>absurd h List.not_mem_nil
 | n+1,hn,L,h=>by
  unfold D5 Nb at h
  split at h
  ·split at h<;>exact Sa l n (by omega) L h
  ·split at h
   ·rename_i h0
    rcases List.mem_append.1 h with h | h
    ·exact Sa l n (by omega) L h
    ·rw[List.mem_singleton]at h
     subst h
     obtain⟨h1,h2⟩:=splitF_ok (l.getD n [])
     exact⟨⟨by show (1:Int)≤(n:Int)+1;omega,by show (n:Int)+1≤300001;omega⟩,h0,h1,h2⟩
   ·exact Sa l n (by omega) L h
theorem Yc (s:List UInt8):(Dh s).2.length≤300001∧∀ L∈(Dh s).2,Cv L:=by
 unfold Dh
 split
 ·exact⟨Nat.zero_le _,fun L h=>absurd h List.not_mem_nil⟩
 ·have hl:=Vm s
  exact⟨by have:=(Pj (Bl 10 s) (Bl 10 s).length).1;show (D5 _ _).1.length≤_;omega,Sa _ _ (by omega)⟩
end Go.Av.Txs
set_option maxRecDepth 100000
namespace Go.Av.Txs
open Go.Av
abbrev ej (a0:List UInt8):(Int)→Option ((Int)⊕((Unit)⊕(Bool))):=(fun(s1:Int)=>((if(decide (s1 < (a0.length:Int)))=true then(if(0≤s1)then(if(s1 < (a0.length:Int))then(if(!(decide ((A0 a0 s1.toNat) < 48)))=true→(0≤s1)then(if(!(decide ((A0 a0 s1.toNat) < 48)))=true→(s1 < (a0.length:Int))then(if((decide ((A0 a0 s1.toNat) < 48)) || (decide (57 < (A0 a0 s1.toNat))))=true then(some (.inr (.inr (false))))else(some (.inl (IntKind.wrap .i64 (s1+1)))))else none)else none)else none)else none)else(some (.inr (.inl ())))):Option ((Int)⊕((Unit)⊕(Bool)))))
theorem A146  (a0:List UInt8):nh a0=((Option.bind (if((!((a0.length:Int)==(0:Int)))&&(decide (1 < (a0.length:Int))))=true→((0:Int)≤(0:Int))then(if((!((a0.length:Int)==(0:Int)))&&(decide (1 < (a0.length:Int))))=true→(0 < (a0.length:Int))then(if(((a0.length:Int)==(0:Int)) || ((decide (1 < (a0.length:Int)))&&((A0 a0 (0:Int).toNat)==48)))=true then(some (.inr (false)))else(some (.inl ())))else none)else none) (Ad fun(_:Unit)=>(Option.bind (Option.bind (some (.inl ())) (Ad fun(_:Unit)=>(Ak (ej a0) (0:Int)))) (Ad fun(_:Unit)=>(some true))))):Option (Bool)):=by kernel_rfl
abbrev eo (a0:List UInt8):(Int)→Option ((Int)⊕((Unit)⊕(Bool))):=(fun(s1:Int)=>((if(decide (s1 < (a0.length:Int)))=true then(if(0≤s1)then(if(s1 < (a0.length:Int))then(if(!(decide ((A0 a0 s1.toNat) < 48)))=true→(0≤s1)then(if(!(decide ((A0 a0 s1.toNat) < 48)))=true→(s1 < (a0.length:Int))then(if((decide ((A0 a0 s1.toNat) < 48)) || (decide (57 < (A0 a0 s1.toNat))))=true then(some (.inr (.inr (false))))else(some (.inl (IntKind.wrap .i64 (s1+1)))))else none)else none)else none)else none)else(some (.inr (.inl ())))):Option ((Int)⊕((Unit)⊕(Bool)))))
theorem A148  (a0:List UInt8):eu a0=((Option.bind (if((!((a0.length:Int)==(0:Int)))&&(decide (1 < (a0.length:Int))))=true→((0:Int)≤(0:Int))then(if((!((a0.length:Int)==(0:Int)))&&(decide (1 < (a0.length:Int))))=true→(0 < (a0.length:Int))then(if(((a0.length:Int)==(0:Int)) || ((decide (1 < (a0.length:Int)))&&((A0 a0 (0:Int).toNat)==48)))=true then(some (.inr (false)))else(some (.inl ())))else none)else none) (Ad fun(_:Unit)=>(Option.bind (Option.bind (some (.inl ())) (Ad fun(_:Unit)=>(Ak (eo a0) (0:Int)))) (Ad fun(_:Unit)=>(some true))))):Option (Bool)):=by kernel_rfl
theorem A145  (a0 a1:List UInt8):nf a0 a1=((Option.bind (Option.bind (m164 a0 a1) fun r=>some r) fun x1=>(some (x1.1,x1.2))):Option (Wz)):=by kernel_rfl
theorem A164  (a0 a1:List UInt8):m164 a0 a1=((Option.bind (Option.bind (m176 a0 a1) fun r=>some r) fun x1=>(if(!x1)=true then(some (a0,false))else(if(0≤(a1.length:Int))then(if((a1.length:Int)≤(a0.length:Int))then(some ((a0.drop (a1.length:Int).toNat),true))else none)else none))):Option (Wz)):=by kernel_rfl
theorem A176  (a0 a1:List UInt8):m176 a0 a1=((if(decide ((a1.length:Int)≤(a0.length:Int)))=true→(0≤(a1.length:Int))then(if(decide ((a1.length:Int)≤(a0.length:Int)))=true→((a1.length:Int)≤(a0.length:Int))then(some ((decide ((a1.length:Int)≤(a0.length:Int)))&&((a0.take (a1.length:Int).toNat)==a1)))else none)else none):Option (Bool)):=by kernel_rfl
theorem A124  (a0:List UInt8) (a1 a2:Int):zk a0 a1 a2=((Option.bind (Option.bind (nf a0 ([45]:List UInt8)) fun r=>some r) fun x1=>(Option.bind (Option.bind (nh x1.1) fun r=>some r) fun x2=>(if((!x2) || (x1.2&&(x1.1==([48]:List UInt8))))=true then(some ((0:Int),(4:Int)))else(Option.bind (Option.bind (Ux a0 (10:Int) (64:Int)) fun r=>some r) fun x4=>(if((x4.2 || (decide (x4.1 < a1))) || (decide (a2 < x4.1)))=true then(some ((0:Int),(2:Int)))else(some (x4.1,(0:Int)))))))):Option (P9)):=by kernel_rfl
abbrev Qn (y1:(List UInt8)):(P9)→Option ((P9)⊕((Int)⊕(P9))):=(fun(s3:P9)=>((Option.bind (Option.bind (some (.inl ())) (Ad fun(_:Unit)=>(if(decide (s3.2 < (y1.length:Int)))=true then(some (.inl ()))else(some (.inr (.inr (.inl s3.1))))))) (Ad fun(_:Unit)=>(Option.bind (Option.bind (if(0≤s3.2)then(if(s3.2 < (y1.length:Int))then(some (.inl ()))else none)else none) (Ad fun(_:Unit)=>(Option.bind (Option.bind (if((10:Int)≠0)then(some (.inl ()))else none) (Ad fun(_:Unit)=>(if(decide (s3.1 < (IntKind.wrap .i64 (Int.tdiv (IntKind.wrap .i64 ((-9223372036854775808:Int)+(IntKind.wrap .i64 ((IntKind.wrap .u8 ((A0 y1 s3.2.toNat) - 48)))))) (10:Int)))))=true then(some (.inr (.inr (.inr (.inr (((0:Int),(2:Int))))))))else(some (.inl ()))))) (Ad fun(_:Unit)=>(some (.inl ())))))) (Ad fun(_:Unit)=>(some (.inl ((IntKind.wrap .i64 ((IntKind.wrap .i64 ((10:Int) * s3.1)) - (IntKind.wrap .i64 ((IntKind.wrap .u8 ((A0 y1 s3.2.toNat) - 48)))))),(IntKind.wrap .i64 (s3.2+1))))))))):Option ((P9)⊕((Int)⊕(P9)))))
theorem A128  (a0:List UInt8) (a1 a2:Int):zl a0 a1 a2=((Option.bind (if(decide (0 < (a0.length:Int)))=true→((0:Int)≤(0:Int))then(if(decide (0 < (a0.length:Int)))=true→(0 < (a0.length:Int))then(some (.inl ()))else none)else none) (Ad fun(_:Unit)=>(Option.bind (Option.bind (some (.inl ())) (Ad fun(_:Unit)=>(if((decide (0 < (a0.length:Int)))&&((A0 a0 (0:Int).toNat)==45))=true then(if((0:Int)≤(1:Int))then(if(1≤(a0.length:Int))then(some (.inl (a0.drop (1:Int).toNat)))else none)else none)else(some (.inl a0))))) (Ad fun(y1:(List UInt8))=>(Option.bind (Option.bind (Option.bind (Option.bind (eu y1) fun r=>some r) fun x5=>(some (.inl ((!x5) || (((decide (0 < (a0.length:Int)))&&((A0 a0 (0:Int).toNat)==45))&&(y1==([48]:List UInt8))))))) (Ad fun(y2:Bool)=>(if y2=true then(some (.inr (((0:Int),(4:Int)))))else(some (.inl ()))))) (Ad fun(_:Unit)=>(Option.bind (some (.inl ())) (Ad fun(_:Unit)=>(Option.bind (Option.bind (some (.inl ())) (Ad fun(_:Unit)=>(Ak (Qn y1) ((0:Int),(0:Int))))) (Ad fun(y4:Int)=>(Option.bind (Option.bind (some (.inl ())) (Ad fun(_:Unit)=>(if(!((decide (0 < (a0.length:Int)))&&((A0 a0 (0:Int).toNat)==45)))=true then(Option.bind (Option.bind (some (.inl ())) (Ad fun(_:Unit)=>(if(y4==(-9223372036854775808:Int))=true then(some (.inr (.inr (((0:Int),(2:Int))))))else(some (.inl ()))))) (Ad fun(_:Unit)=>(some (.inl (IntKind.wrap .i64 (0 - y4))))))else(some (.inl y4))))) (Ad fun(y5:Int)=>(Option.bind (Option.bind (some (.inl ())) (Ad fun(_:Unit)=>(if((decide (y5 < a1)) || (decide (a2 < y5)))=true then(some (.inr (((0:Int),(2:Int)))))else(some (.inl ()))))) (Ad fun(_:Unit)=>(some (y5,(0:Int))))))))))))))))):Option (P9)):=by kernel_rfl
def Jv (b:UInt8):Bool:=decide (48≤b.toNat)&&decide (b.toNat≤57)
def Eb (s:List UInt8):Bool:=!((s.length==0) || (decide (1 < s.length)&&(A0 s 0==48)))&&s.all Jv
theorem Jt {s:List UInt8} {i:Nat} (h:i < s.length):A0 s i=(s[i].toNat:Int):=by unfold A0;rw[List.getElem?_eq_getElem h]
theorem odd_dg {s:List UInt8} {i:Nat} (h:i < s.length):((decide (A0 s i < 48)) || (decide (57 < A0 s i)))=!Jv s[i]:=by
 rw[Jt h]
 unfold Jv
 by_cases h1:48≤(s[i]).toNat<;>by_cases h2:(s[i]).toNat≤57<;>simp[h1,h2]<;>omega
theorem mg (s:List UInt8):vu (Dj (fun i=>if((decide (A0 s i < 48)) || (decide (57 < A0 s i)))=true then some false else none) s.length) (some true)=some (s.all Jv):=by
 cases hc:Dj (fun i=>if((decide (A0 s i < 48)) || (decide (57 < A0 s i)))=true then some false else none) s.length with
 | none =>
  rw[orK_none]
  have:=firstR_none.1 hc
  congr 1
  symm
  rw[List.all_eq_true]
  intro x hx
  obtain⟨i,hi,rfl⟩:=List.mem_iff_getElem.1 hx
  have h:=this i hi
  rw[odd_dg hi]at h
  cases hd:Jv s[i] with
  | true=>rfl
  | false=>rw[hd]at h;simp at h
 | some r =>
  obtain⟨i,hi,h⟩:=X7 hc
  rw[odd_dg hi]at h
  rw[orK_some]
  cases hd:Jv s[i] with
  | true=>rw[hd]at h;simp at h
  | false =>
   rw[hd]at h
   simp at h
   subst h
   congr 1
   symm
   rw[Bool.eq_false_iff]
   intro ha
   rw[List.all_eq_true]at ha
   rw[ha _ (List.getElem_mem hi)]at hd
   cases hd
theorem vx (s:List UInt8) (hs:s.length≤1000):nh s=some (Eb s):=by
 rw[A146]
 unfold Eb
 have e0:((s.length:Int)==(0:Int))=(s.length==0):=by rw[show (0:Int)=((0:Nat):Int) from rfl,Ro]
 have e1:(decide (1 < (s.length:Int)))=decide (1 < s.length):=decide_eq_decide.2 (by omega)
 rw[e0,e1]
 rw[if_pos (by intro _;decide),if_pos (by intro h;cases s with | nil=>simp at h | cons a l=>simp)]
 cases hc:((s.length==0) || (decide (1 < s.length)&&(A0 s 0==48))) with
 | true=>rw[show (0:Int).toNat=0 from rfl,hc];rfl
 | false =>
  rw[show (0:Int).toNat=0 from rfl,hc]
  simp only[Bool.false_eq_true,if_false,bs,ol,Bool.not_false,Bool.true_and]
  refine(Wb s.length (fun i=>if((decide (A0 s i < 48)) || (decide (57 < A0 s i)))=true then some false else none) (z:=some true) (fun i hi=>?_) ?_ rfl).trans (mg s)
  ·have hl:(i:Int) < (s.length:Int):=by omega
   simp only[ej,Int.toNat_natCast,hl,decide_true,if_true,show (0:Int)≤(i:Int) from by omega,forall_const,implies_true,dh (i:=i) (by omega),W3,Rs,Nr]
  ·simp only[ej,Int.lt_irrefl,decide_false,Bool.false_eq_true,if_false]
theorem vy (s:List UInt8) (hs:s.length≤1000):eu s=some (Eb s):=by
 rw[A148]
 unfold Eb
 have e0:((s.length:Int)==(0:Int))=(s.length==0):=by rw[show (0:Int)=((0:Nat):Int) from rfl,Ro]
 have e1:(decide (1 < (s.length:Int)))=decide (1 < s.length):=decide_eq_decide.2 (by omega)
 rw[e0,e1]
 rw[if_pos (by intro _;decide),if_pos (by intro h;cases s with | nil=>simp at h | cons a l=>simp)]
 cases hc:((s.length==0) || (decide (1 < s.length)&&(A0 s 0==48))) with
 | true=>rw[show (0:Int).toNat=0 from rfl,hc];rfl
 | false =>
  rw[show (0:Int).toNat=0 from rfl,hc]
  simp only[Bool.false_eq_true,if_false,bs,ol,Bool.not_false,Bool.true_and]
  refine(Wb s.length (fun i=>if((decide (A0 s i < 48)) || (decide (57 < A0 s i)))=true then some false else none) (z:=some true) (fun i hi=>?_) ?_ rfl).trans (mg s)
  ·have hl:(i:Int) < (s.length:Int):=by omega
   simp only[eo,Int.toNat_natCast,hl,decide_true,if_true,show (0:Int)≤(i:Int) from by omega,forall_const,implies_true,dh (i:=i) (by omega),W3,Rs,Nr]
  ·simp only[eo,Int.lt_irrefl,decide_false,Bool.false_eq_true,if_false]
def ng (s:List UInt8):Bool:=decide (0 < s.length)&&(A0 s 0==45)
def bd (s:List UInt8):List UInt8:=if ng s=true then s.drop 1 else s
theorem ng_int (s:List UInt8):((decide (0 < (s.length:Int)))&&((A0 s (0:Int).toNat)==45))=ng s:=by
 unfold ng
 rw[show decide (0 < (s.length:Int))=decide (0 < s.length) from decide_eq_decide.2 (by omega)]
 rfl
theorem Za (s:List UInt8):(bd s).length≤s.length:=by unfold bd;split;(· simp);exact Nat.le_refl _
theorem U4 (s:List UInt8) (hs:s.length≤1000):nf s [45]=some (bd s,ng s):=by
 rw[A145,A164,A176]
 cases s with
 | nil=>rfl
 | cons a l =>
  rw[if_pos (by intro _;decide),if_pos (by intro _;simp;omega)]
  have e:((decide ((([45]:List UInt8).length:Int)≤((a :: l).length:Int)))&&(((a :: l).take ((([45]:List UInt8).length:Int)).toNat)==[45]))=ng (a :: l):=by
   unfold ng
   rw[show decide (0 < (a :: l).length)=true from by simp,show decide ((([45]:List UInt8).length:Int)≤((a :: l).length:Int))=true from by simp;omega]
   have e2:A0 (a :: l) 0=(a.toNat:Int):=rfl
   have e3:((a :: l).take ((([45]:List UInt8).length:Int)).toNat)=[a]:=rfl
   rw[e2,e3,Bool.eq_iff_iff,Bool.true_and,Bool.true_and]
   simp only[beq_iff_eq,List.cons.injEq,and_true]
   exact⟨fun h=>by rw[h];rfl,fun h=>UInt8.toNat_inj.1 (show a.toNat=45 by omega)⟩
  rw[e]
  simp only[bs]
  unfold bd
  cases hn:ng (a :: l) with
  | false=>rfl
  | true =>
   have p1:(0:Int)≤(([45]:List UInt8).length:Int):=Int.natCast_nonneg _
   have p2:(([45]:List UInt8).length:Int)≤((a :: l).length:Int):=by simp;omega
   rw[if_neg (show ¬ (!true)=true from by decide),if_pos p1,if_pos p2]
   rfl
def Az (acc:Nat) (l:List UInt8):Nat:=l.foldl (fun a b=>10 * a+(b.toNat - 48)) acc
theorem K9 (acc:Nat) (b:UInt8) (l:List UInt8):Az acc (b :: l)=Az (10 * acc+(b.toNat - 48)) l:=by unfold Az;rw[List.foldl_cons]
theorem R9:∀ (l:List UInt8) (acc:Nat),acc≤Az acc l
 | [],acc=>Nat.le_refl _
 | b :: l,acc=>by rw[K9];have:=R9 l (10 * acc+(b.toNat - 48));omega
theorem M0 {b:UInt8} (h:Jv b=true):48≤b.toNat∧b.toNat≤57:=by unfold Jv at h;simpa using h
theorem wl:∀ (l:List UInt8) (acc:Nat),l.all Jv=true→Az acc l < (acc+1) * 10 ^ l.length
 | [],acc,_=>by simp[Az]
 | b :: l,acc,h=>by
  rw[List.all_cons,Bool.and_eq_true]at h
  have hb:=M0 h.1
  rw[K9,List.length_cons]
  refine Nat.lt_of_lt_of_le (wl l _ h.2) ?_
  rw[Nat.pow_succ',← Nat.mul_assoc]
  exact Nat.mul_le_mul_right _ (by omega)
theorem rn:∀ (l:List UInt8) (acc:Nat),acc * 10 ^ l.length≤Az acc l
 | [],acc=>by simp[Az]
 | b :: l,acc=>by
  rw[K9,List.length_cons]
  refine Nat.le_trans ?_ (rn l _)
  rw[Nat.pow_succ',← Nat.mul_assoc]
  exact Nat.mul_le_mul_right _ (by omega)
structure Pl (s:List UInt8):Prop where
 ne:s≠[]
 dg:s.all Jv=true
 hd:∀ a l,s=a :: l→l≠[]→49≤a.toNat
theorem Ph {s:List UInt8} (h:Eb s=true):Pl s:=by
 unfold Eb at h
 rw[Bool.and_eq_true,Bool.not_eq_true',Bool.or_eq_false_iff]at h
 obtain⟨⟨h1,h2⟩,h3⟩:=h
 refine⟨fun e=>by subst e;simp at h1,h3,fun a l e hl=>?_⟩
 subst e
 rw[List.all_cons,Bool.and_eq_true]at h3
 have:=M0 h3.1
 rw[show decide (1 < (a :: l).length)=true from by cases l with | nil=>exact absurd rfl hl | cons _ _=>simp,Bool.true_and]at h2
 rw[show A0 (a :: l) 0=(a.toNat:Int) from rfl]at h2
 have h4:¬ ((a.toNat:Int)=48):=by simpa using h2
 omega
theorem pl_zero {s:List UInt8} (h:Pl s):Az 0 s=0↔s=[48]:=by
 constructor
 ·intro hv
  cases s with
  | nil=>exact absurd rfl h.ne
  | cons a l =>
   have hd:=h.dg
   rw[List.all_cons,Bool.and_eq_true]at hd
   have ha:=M0 hd.1
   rw[K9]at hv
   have h1:=R9 l (10 * 0+(a.toNat - 48))
   cases l with
   | nil=>rw[show a=48 from UInt8.toNat_inj.1 (show a.toNat=48 by omega)]
   | cons b l=>have:=h.hd a (b :: l) rfl (by simp);omega
 ·rintro rfl;rfl
theorem pl_big {s:List UInt8} (h:Pl s) (hl:10≤s.length):1000000000≤Az 0 s:=by
 cases s with
 | nil=>simp at hl
 | cons a l =>
  rw[List.length_cons]at hl
  have ha:=h.hd a l rfl (fun e=>by subst e;simp at hl)
  rw[K9]
  refine Nat.le_trans ?_ (rn l _)
  have h9:10 ^ 9≤10 ^ l.length:=Nat.pow_le_pow_right (by decide) (by omega)
  calc 1000000000=1 * 10 ^ 9:=by decide
   _≤(10 * 0+(a.toNat - 48)) * 10 ^ l.length:=Nat.mul_le_mul (by omega) h9
theorem Ya {s:List UInt8} (h:Pl s) (hl:s.length < 10):Az 0 s < 1000000000:=by
 have:=wl s 0 h.dg
 refine Nat.lt_of_lt_of_le this ?_
 calc (0+1) * 10 ^ s.length≤1 * 10 ^ 9:=Nat.mul_le_mul (by decide) (Nat.pow_le_pow_right (by decide) (by omega))
  _=1000000000:=by decide
theorem Ms:∀ (l:List UInt8) (acc:Nat),acc≤18446744073709551615→l.all Jv=true →
  Lib.parseUintM 18446744073709551615 acc l=if Az acc l≤18446744073709551615 then .ok (Az acc l)else .range
 | [],acc,ha,_=>by simp[Lib.parseUintM,Az,ha]
 | b :: l,acc,ha,h=>by
  rw[List.all_cons,Bool.and_eq_true]at h
  have hb:=M0 h.1
  unfold Lib.parseUintM
  rw[if_pos hb,K9]
  have hg:=R9 l (10 * acc+(b.toNat - 48))
  split
  ·rw[if_neg (by omega)]
  ·split
   ·rw[if_neg (by omega)]
   ·rw[show acc * 10+(b.toNat - 48)=10 * acc+(b.toNat - 48) from by omega]
    exact Ms l _ (by omega) h.2
def Pv (s:List UInt8):Int:=if ng s=true then -(Az 0 (bd s):Int)else(Az 0 (bd s):Int)
theorem piV_pl {s:List UInt8} (h:Eb (bd s)=true):jf s=(Pv s,false)∨((jf s).2=true∧(Pv s < -9223372036854775808∨9223372036854775807 < Pv s)):=by
 have P:=Ph h
 unfold jf Pv
 unfold bd at P ⊢
 cases s with
 | nil=>exact absurd (by simp:(if ng []=true then List.drop 1 []else([]:List UInt8))=[]) P.ne
 | cons c r =>
  by_cases hn:ng (c :: r)=true
  ·rw[if_pos hn]at P
   simp only[hn,if_true]
   rw[show (c :: r).drop 1=r from rfl]at P ⊢
   have hc:c.toNat=45:=by
    unfold ng at hn
    rw[Bool.and_eq_true]at hn
    have:((c.toNat:Int))=45:=by simpa [A0] using hn.2
    omega
   have e:Lib.parseIntB 64 (c :: r)=if Az 0 r≤9223372036854775808 then .ok (-(Az 0 r:Int))else .range:=by
    simp only[Lib.parseIntB,hc,or_true,if_true,Lib.parseUintB,if_neg P.ne]
    rw[show (2:Nat) ^ 64 - 1=18446744073709551615 from by decide,Ms r 0 (by decide) P.dg]
    by_cases h1:Az 0 r≤9223372036854775808
    ·rw[if_pos (by omega),if_pos h1]
     simp only[not_true_eq_false,false_and,if_false,true_and]
     rw[if_neg (by rw[show (2:Nat) ^ (64 - 1)=9223372036854775808 from by decide];omega)]
    ·rw[if_neg h1]
     by_cases h2:Az 0 r≤18446744073709551615
     ·rw[if_pos h2]
      simp only[not_true_eq_false,false_and,if_false,true_and]
      rw[if_pos (by rw[show (2:Nat) ^ (64 - 1)=9223372036854775808 from by decide];omega)]
     ·rw[if_neg h2]
   rw[e]
   by_cases h1:Az 0 r≤9223372036854775808
   ·rw[if_pos h1];exact .inl rfl
   ·rw[if_neg h1];exact .inr ⟨rfl,.inl (by omega)⟩
  ·rw[if_neg hn]at P
   simp only[hn,if_false,Bool.false_eq_true]
   have hcd:48≤c.toNat∧c.toNat≤57:=by have:=P.dg;rw[List.all_cons,Bool.and_eq_true]at this;exact M0 this.1
   have e:Lib.parseIntB 64 (c :: r)=if Az 0 (c :: r)≤9223372036854775807 then .ok (Az 0 (c :: r):Int)else .range:=by
    simp only[Lib.parseIntB,show (c.toNat=45)=False from eq_false (by omega),show (c.toNat=43)=False from eq_false (by omega),or_false,if_false,Lib.parseUintB,if_neg P.ne]
    rw[show (2:Nat) ^ 64 - 1=18446744073709551615 from by decide,Ms (c :: r) 0 (by decide) P.dg]
    by_cases h1:Az 0 (c :: r)≤9223372036854775807
    ·rw[if_pos (by omega),if_pos h1]
     simp only[not_false_eq_true,true_and,false_and,if_false]
     rw[if_neg (by rw[show (2:Nat) ^ (64 - 1)=9223372036854775808 from by decide];omega)]
    ·rw[if_neg h1]
     by_cases h2:Az 0 (c :: r)≤18446744073709551615
     ·rw[if_pos h2]
      simp only[not_false_eq_true,true_and,false_and,if_false]
      rw[if_pos (by rw[show (2:Nat) ^ (64 - 1)=9223372036854775808 from by decide];omega)]
     ·rw[if_neg h2]
   rw[e]
   by_cases h1:Az 0 (c :: r)≤9223372036854775807
   ·rw[if_pos h1];exact .inl rfl
   ·rw[if_neg h1];exact .inr ⟨rfl,.inr (by omega)⟩
def pn (s:List UInt8) (lo hi:Int):Int×Int :=
 if(!Eb (bd s) || (ng s&&(bd s==[48])))=true then(0,4)else if lo≤Pv s∧Pv s≤hi then(Pv s,0)else(0,2)
theorem pn_p (s:List UInt8) (hs:s.length≤1000) (lo hi:Int) (h1 : -9223372036854775808≤lo) (h2:hi≤9223372036854775807):zk s lo hi=some (pn s lo hi):=by
 have hb:=Za s
 rw[A124,U4 s hs]
 simp only[bs]
 rw[vx (bd s) (by omega)]
 simp only[bs]
 unfold pn
 cases hc:(!Eb (bd s) || (ng s&&(bd s==[48]))) with
 | true=>rfl
 | false =>
  simp only[Bool.false_eq_true,if_false]
  rw[show Ux s 10 64=some (jf s) from if_pos ⟨by omega,rfl,rfl⟩]
  simp only[bs]
  have hp:Eb (bd s)=true:=by
   cases h:Eb (bd s) with
   | true=>rfl
   | false=>rw[h]at hc;simp at hc
  rcases piV_pl hp with h | ⟨h3,h4⟩
  ·rw[h]
   by_cases hr:lo≤Pv s∧Pv s≤hi
   ·rw[if_pos hr,if_neg (by simp;omega)]
   ·rw[if_neg hr,if_pos (by simp;omega)]
  ·rw[if_pos (by rw[h3];rfl),if_neg (by omega)]
theorem u8d {b:UInt8} (h:48≤b.toNat∧b.toNat≤57):IntKind.wrap .i64 (IntKind.wrap .u8 ((b.toNat:Int) - 48))=((b.toNat - 48:Nat):Int):=by
 rw[show IntKind.wrap .u8 ((b.toNat:Int) - 48)=(b.toNat:Int) - 48 from IntWalk.u8_in _ (by omega),B2 (by omega) (by omega)]
 omega
theorem num_loop (y:List UInt8) (hy:y.length≤1000) (hd:y.all Jv=true):∀ (k i:Nat),i+k=y.length→Az 0 (y.take i)≤9223372036854775808 →
  Ak (Qn y) (-(Az 0 (y.take i):Int),(i:Int))=some (if Az 0 y≤9223372036854775808 then .inl (-(Az 0 y:Int))else .inr (0,2)):=by
 intro k
 induction k with
 | zero =>
  intro i hi hv
  obtain rfl:i=y.length:=by omega
  rw[List.take_length]at hv ⊢
  refine Bh ?_
  simp only[Qn,Int.lt_irrefl,decide_false,Bool.false_eq_true,if_false,bs,ol,V7]
  rw[if_pos hv]
 | succ k ih =>
  intro i hi hv
  have hl:i < y.length:=by omega
  have hli:(i:Int) < (y.length:Int):=by omega
  have hb:Jv y[i]=true:=List.all_eq_true.1 hd _ (List.getElem_mem hl)
  have hb2:=M0 hb
  have ht:Az 0 (y.take (i+1))=10 * Az 0 (y.take i)+((y[i]).toNat - 48):=by
   rw[List.take_add_one,List.getElem?_eq_getElem hl]
   unfold Az
   rw[List.foldl_append]
   rfl
  have hsplit:Az 0 y=Az (Az 0 (y.take (i+1))) (y.drop (i+1)):=by
   conv=>lhs;rw[← List.take_append_drop (i+1) y]
   unfold Az
   rw[List.foldl_append]
  have hge:=R9 (y.drop (i+1)) (Az 0 (y.take (i+1)))
  generalize Az 0 (y.take i)=v at hv ht ⊢
  generalize hdd:(y[i]).toNat - 48=d at ht
  have hd9:d≤9:=by omega
  have e1:IntKind.wrap .i64 (IntKind.wrap .u8 ((A0 y i) - 48))=(d:Int):=by rw[Jt hl,u8d hb2,hdd]
  have e2:IntKind.wrap .i64 ((-9223372036854775808:Int)+(d:Int)) = -((9223372036854775808 - d:Nat):Int):=by rw[B2 (by omega) (by omega)];omega
  have e3:Int.tdiv (-((9223372036854775808 - d:Nat):Int)) 10 = -(((9223372036854775808 - d) / 10:Nat):Int):=by rw[Int.neg_tdiv];rfl
  by_cases hc:10 * v+d≤9223372036854775808
  ·refine Bm (s':=(-((10 * v+d:Nat):Int),((i+1:Nat):Int))) ?_ ?_
   ·simp only[Qn,Int.toNat_natCast,hli,decide_true,if_true,show (0:Int)≤(i:Int) from by omega,bs,ol,V7,e1,e2,e3,show ((10:Int)≠0)=True from by decide]
    rw[show IntKind.wrap .i64 (-(((9223372036854775808 - d) / 10:Nat):Int)) = -(((9223372036854775808 - d) / 10:Nat):Int) from B2 (by omega) (by omega)]
    rw[if_neg (by simp;omega)]
    simp only[bs,ol]
    rw[show IntKind.wrap .i64 ((10:Int) * (-(v:Int))) = -((10 * v:Nat):Int) from by rw[B2 (by omega) (by omega)];omega]
    rw[show IntKind.wrap .i64 (-((10 * v:Nat):Int) - (d:Int)) = -((10 * v+d:Nat):Int) from by rw[B2 (by omega) (by omega)];omega,wn (by omega)]
   ·have:=ih (i+1) (by omega) (by rw[ht];exact hc)
    rw[ht]at this
    exact this
  ·rw[if_neg (by omega)]
   refine Bh ?_
   simp only[Qn,Int.toNat_natCast,hli,decide_true,if_true,show (0:Int)≤(i:Int) from by omega,bs,ol,V7,e1,e2,e3,show ((10:Int)≠0)=True from by decide]
   rw[show IntKind.wrap .i64 (-(((9223372036854775808 - d) / 10:Nat):Int)) = -(((9223372036854775808 - d) / 10:Nat):Int) from B2 (by omega) (by omega)]
   rw[if_pos (by simp;omega)]
   simp only[bs,ol,V7]
theorem pn_r (s:List UInt8) (hs:s.length≤1000) (lo hi:Int) (h1 : -9223372036854775808≤lo) (h2:hi≤9223372036854775807):zl s lo hi=some (pn s lo hi):=by
 have hb:=Za s
 rw[A128,ng_int]
 rw[if_pos (by intro _;decide),if_pos (by intro h;simpa using h)]
 simp only[bs,ol]
 have e:(if ng s=true then(if((0:Int)≤(1:Int))then(if(1≤(s.length:Int))then(some (.inl (s.drop (1:Int).toNat)))else none)else none)else(some (.inl s)))=(some (.inl (bd s)):Option (List UInt8⊕(P9))):=by
  unfold bd
  by_cases hn:ng s=true
  ·rw[if_pos hn,if_pos hn,if_pos (by decide),if_pos (by unfold ng at hn;rw[Bool.and_eq_true]at hn;have:=of_decide_eq_true hn.1;omega)]
   rfl
  ·rw[if_neg hn,if_neg hn]
 rw[e]
 simp only[bs,ol]
 rw[vy (bd s) (by omega)]
 simp only[bs,ol]
 unfold pn
 cases hc:(!Eb (bd s) || (ng s&&(bd s==[48]))) with
 | true=>rfl
 | false =>
  simp only[Bool.false_eq_true,if_false,bs,ol]
  have hp:Eb (bd s)=true:=by
   cases h:Eb (bd s) with
   | true=>rfl
   | false=>rw[h]at hc;simp at hc
  have hl:=num_loop (bd s) (by omega) (Ph hp).dg _ 0 (Nat.zero_add _) (by show (0:Nat)≤_;omega)
  rw[show (-(Az 0 ((bd s).take 0):Int),((0:Nat):Int))=((0:Int),(0:Int)) from rfl]at hl
  rw[hl]
  unfold Pv
  generalize Az 0 (bd s)=v
  by_cases hv:v≤9223372036854775808
  ·rw[if_pos hv]
   simp only[bs,ol]
   cases hn:ng s with
   | true =>
    simp only[Bool.not_true,Bool.false_eq_true,if_false,bs,ol,if_true]
    by_cases hr:lo ≤ -(v:Int) ∧ -(v:Int)≤hi
    ·rw[if_pos hr,if_neg (by simp;omega)];rfl
    ·rw[if_neg hr,if_pos (by simp;omega)];rfl
   | false =>
    simp only[Bool.not_false,if_true,bs,ol,Bool.false_eq_true,if_false]
    by_cases h8:v=9223372036854775808
    ·subst h8
     rw[if_pos (by decide),if_neg (by omega)];rfl
    ·rw[if_neg (by simp;omega)]
     simp only[bs,ol]
     rw[show IntKind.wrap .i64 (0 - -(v:Int))=(v:Int) from by rw[B2 (by omega) (by omega)];omega]
     by_cases hr:lo≤(v:Int)∧(v:Int)≤hi
     ·rw[if_pos hr,if_neg (by simp;omega)];rfl
     ·rw[if_neg hr,if_pos (by simp;omega)];rfl
  ·rw[if_neg hv,if_neg (by cases ng s<;>simp<;>omega)]
   simp only[bs,V7]
end Go.Av.Txs
set_option maxRecDepth 100000
namespace Go.Av.Txs
open Go.Av
theorem A137  (a0:List UInt8):zn a0=((Option.bind (Option.bind (Option.bind (nf a0 ([45]:List UInt8)) fun r=>some r) fun x1=>(Option.bind (Option.bind (er x1.1 ([46]:List UInt8)) fun r=>some r) fun x2=>(some (.inl (x1.2,x2.1,x2.2.1,x2.2.2))))) (Ad fun(y1:Bool×U5)=>(Option.bind (Option.bind (Option.bind (Option.bind (nh y1.2.1) fun r=>some r) fun x3=>(some (.inl (!x3)))) (Ad fun(y2:Bool)=>(if y2=true then(some (.inr (((0:Int),false))))else(some (.inl ()))))) (Ad fun(_:Unit)=>(Option.bind (some (.inl ())) (Ad fun(_:Unit)=>(Option.bind (Option.bind (some (.inl ())) (Ad fun(_:Unit)=>(if y1.2.2.2=true then(Option.bind (Option.bind (if(!((y1.2.2.1.length:Int) != (2:Int)))=true→((0:Int)≤(0:Int))then(if(!((y1.2.2.1.length:Int) != (2:Int)))=true→(0 < (y1.2.2.1.length:Int))then(if(!(((y1.2.2.1.length:Int) != (2:Int)) || (decide ((A0 y1.2.2.1 (0:Int).toNat) < 48))))=true→((0:Int)≤(0:Int))then(if(!(((y1.2.2.1.length:Int) != (2:Int)) || (decide ((A0 y1.2.2.1 (0:Int).toNat) < 48))))=true→(0 < (y1.2.2.1.length:Int))then(if(!((((y1.2.2.1.length:Int) != (2:Int)) || (decide ((A0 y1.2.2.1 (0:Int).toNat) < 48))) || (decide (57 < (A0 y1.2.2.1 (0:Int).toNat)))))=true→((0:Int)≤(1:Int))then(if(!((((y1.2.2.1.length:Int) != (2:Int)) || (decide ((A0 y1.2.2.1 (0:Int).toNat) < 48))) || (decide (57 < (A0 y1.2.2.1 (0:Int).toNat)))))=true→(1 < (y1.2.2.1.length:Int))then(if(!(((((y1.2.2.1.length:Int) != (2:Int)) || (decide ((A0 y1.2.2.1 (0:Int).toNat) < 48))) || (decide (57 < (A0 y1.2.2.1 (0:Int).toNat)))) || (decide ((A0 y1.2.2.1 (1:Int).toNat) < 48))))=true→((0:Int)≤(1:Int))then(if(!(((((y1.2.2.1.length:Int) != (2:Int)) || (decide ((A0 y1.2.2.1 (0:Int).toNat) < 48))) || (decide (57 < (A0 y1.2.2.1 (0:Int).toNat)))) || (decide ((A0 y1.2.2.1 (1:Int).toNat) < 48))))=true→(1 < (y1.2.2.1.length:Int))then(some (.inl ()))else none)else none)else none)else none)else none)else none)else none)else none) (Ad fun(_:Unit)=>(if(((((((y1.2.2.1.length:Int) != (2:Int)) || (decide ((A0 y1.2.2.1 (0:Int).toNat) < 48))) || (decide (57 < (A0 y1.2.2.1 (0:Int).toNat)))) || (decide ((A0 y1.2.2.1 (1:Int).toNat) < 48))) || (decide (57 < (A0 y1.2.2.1 (1:Int).toNat)))) || (y1.2.2.1==([48,48]:List UInt8)))=true then(some (.inr (.inr (((0:Int),false)))))else(some (.inl ()))))) (Ad fun(_:Unit)=>(if((0:Int)≤(0:Int))then(if(0 < (y1.2.2.1.length:Int))then(if((0:Int)≤(1:Int))then(if(1 < (y1.2.2.1.length:Int))then(some (.inl (IntKind.wrap .i64 ((IntKind.wrap .i64 ((IntKind.wrap .i64 ((IntKind.wrap .u8 ((A0 y1.2.2.1 (0:Int).toNat) - 48)))) * (10:Int)))+(IntKind.wrap .i64 ((IntKind.wrap .u8 ((A0 y1.2.2.1 (1:Int).toNat) - 48))))))))else none)else none)else none)else none)))else(some (.inl (0:Int)))))) (Ad fun(y3:Int)=>(Option.bind (some (.inl ())) (Ad fun(_:Unit)=>(Option.bind (Option.bind (some (.inl ())) (Ad fun(_:Unit)=>(if(decide ((y1.2.1.length:Int) < (10:Int)))=true then(Option.bind (Option.bind (Ux y1.2.1 (10:Int) (64:Int)) fun r=>some r) fun x12=>(some (.inl x12.1)))else(some (.inl Xz))))) (Ad fun(y4:Int)=>(Option.bind (some (.inl ())) (Ad fun(_:Unit)=>(Option.bind (Option.bind (some (.inl ())) (Ad fun(_:Unit)=>(if y1.1=true then(some (.inr (((IntKind.wrap .i64 (0 - (IntKind.wrap .i64 ((IntKind.wrap .i64 (y4 * (100:Int)))+y3)))),((IntKind.wrap .i64 ((IntKind.wrap .i64 (y4 * (100:Int)))+y3)) != 0)))))else(some (.inl ()))))) (Ad fun(_:Unit)=>(some ((IntKind.wrap .i64 ((IntKind.wrap .i64 (y4 * (100:Int)))+y3)),true)))))))))))))))))):Option (Jr)):=by kernel_rfl
theorem A138  (a0:Int):zo a0=((some ((decide ((-200000:Int)≤a0))&&(decide (a0≤6000000)))):Option (Bool)):=by kernel_rfl
theorem A114o0  (a0:List UInt8):Ut a0=((Option.bind (Option.bind (zn a0) fun r=>some r) fun x1=>(if(!x1.2)=true then(some ((4:Int),(0:Int)))else(Option.bind (Option.bind (zo x1.1) fun r=>some r) fun x4=>(if(!x4)=true then(some ((2:Int),(0:Int)))else(some ((0:Int),x1.1)))))):Option (P9)):=by kernel_rfl
abbrev Qo (a0:List UInt8):(P9)→Option ((P9)⊕((Int)⊕(Jr))):=(fun(s1:P9)=>((if(decide (s1.2 < (a0.length:Int)))=true then(if(0≤s1.2)then(if(s1.2 < (a0.length:Int))then(if((10:Int)≠0)then(if(decide ((IntKind.wrap .i64 (Int.tdiv (IntKind.wrap .i64 ((4611686018427387904:Int) - (IntKind.wrap .i64 ((IntKind.wrap .u8 ((A0 a0 s1.2.toNat) - 48)))))) (10:Int))) < s1.1))=true then(some (.inr (.inr (((0:Int),false)))))else(some (.inl ((IntKind.wrap .i64 ((IntKind.wrap .i64 ((10:Int) * s1.1))+(IntKind.wrap .i64 ((IntKind.wrap .u8 ((A0 a0 s1.2.toNat) - 48)))))),(IntKind.wrap .i64 (s1.2+1))))))else none)else none)else none)else(some (.inr (.inl s1.1)))):Option ((P9)⊕((Int)⊕(Jr)))))
theorem A167  (a0:List UInt8):ni a0=((Option.bind (some (.inl ())) (Ad fun(_:Unit)=>(Option.bind (Option.bind (some (.inl ())) (Ad fun(_:Unit)=>(Ak (Qo a0) ((0:Int),(0:Int))))) (Ad fun(y2:Int)=>(some (y2,true)))))):Option (Jr)):=by kernel_rfl
theorem A149  (a0:List UInt8):zr a0=((Option.bind (if(decide (0 < (a0.length:Int)))=true→((0:Int)≤(0:Int))then(if(decide (0 < (a0.length:Int)))=true→(0 < (a0.length:Int))then(some (.inl ()))else none)else none) (Ad fun(_:Unit)=>(Option.bind (Option.bind (some (.inl ())) (Ad fun(_:Unit)=>(if((decide (0 < (a0.length:Int)))&&((A0 a0 (0:Int).toNat)==45))=true then(if((0:Int)≤(1:Int))then(if(1≤(a0.length:Int))then(some (.inl (a0.drop (1:Int).toNat)))else none)else none)else(some (.inl a0))))) (Ad fun(y1:(List UInt8))=>(Option.bind (some (.inl ())) (Ad fun(_:Unit)=>(Option.bind (Option.bind (if(decide (3 < (y1.length:Int)))=true→(0≤(IntKind.wrap .i64 ((y1.length:Int) - (3:Int))))then(if(decide (3 < (y1.length:Int)))=true→((IntKind.wrap .i64 ((y1.length:Int) - (3:Int))) < (y1.length:Int))then(some (.inl ()))else none)else none) (Ad fun(_:Unit)=>(if((decide (3 < (y1.length:Int)))&&((A0 y1 (IntKind.wrap .i64 ((y1.length:Int) - (3:Int))).toNat)==46))=true then(Option.bind (if(0≤(IntKind.wrap .i64 ((y1.length:Int) - (3:Int))))then(if((IntKind.wrap .i64 ((y1.length:Int) - (3:Int)))≤(y1.length:Int))then(if(0≤(IntKind.wrap .i64 ((y1.length:Int) - (2:Int))))then(if((IntKind.wrap .i64 ((y1.length:Int) - (2:Int)))≤(y1.length:Int))then(if(!((y1.drop (IntKind.wrap .i64 ((y1.length:Int) - (2:Int))).toNat)==([48,48]:List UInt8)))=true→((0:Int)≤(0:Int))then(if(!((y1.drop (IntKind.wrap .i64 ((y1.length:Int) - (2:Int))).toNat)==([48,48]:List UInt8)))=true→(0 < ((y1.drop (IntKind.wrap .i64 ((y1.length:Int) - (2:Int))).toNat).length:Int))then(if(!(((y1.drop (IntKind.wrap .i64 ((y1.length:Int) - (2:Int))).toNat)==([48,48]:List UInt8)) || (decide ((A0 (y1.drop (IntKind.wrap .i64 ((y1.length:Int) - (2:Int))).toNat) (0:Int).toNat) < 48))))=true→((0:Int)≤(0:Int))then(if(!(((y1.drop (IntKind.wrap .i64 ((y1.length:Int) - (2:Int))).toNat)==([48,48]:List UInt8)) || (decide ((A0 (y1.drop (IntKind.wrap .i64 ((y1.length:Int) - (2:Int))).toNat) (0:Int).toNat) < 48))))=true→(0 < ((y1.drop (IntKind.wrap .i64 ((y1.length:Int) - (2:Int))).toNat).length:Int))then(if(!((((y1.drop (IntKind.wrap .i64 ((y1.length:Int) - (2:Int))).toNat)==([48,48]:List UInt8)) || (decide ((A0 (y1.drop (IntKind.wrap .i64 ((y1.length:Int) - (2:Int))).toNat) (0:Int).toNat) < 48))) || (decide (57 < (A0 (y1.drop (IntKind.wrap .i64 ((y1.length:Int) - (2:Int))).toNat) (0:Int).toNat)))))=true→((0:Int)≤(1:Int))then(if(!((((y1.drop (IntKind.wrap .i64 ((y1.length:Int) - (2:Int))).toNat)==([48,48]:List UInt8)) || (decide ((A0 (y1.drop (IntKind.wrap .i64 ((y1.length:Int) - (2:Int))).toNat) (0:Int).toNat) < 48))) || (decide (57 < (A0 (y1.drop (IntKind.wrap .i64 ((y1.length:Int) - (2:Int))).toNat) (0:Int).toNat)))))=true→(1 < ((y1.drop (IntKind.wrap .i64 ((y1.length:Int) - (2:Int))).toNat).length:Int))then(if(!(((((y1.drop (IntKind.wrap .i64 ((y1.length:Int) - (2:Int))).toNat)==([48,48]:List UInt8)) || (decide ((A0 (y1.drop (IntKind.wrap .i64 ((y1.length:Int) - (2:Int))).toNat) (0:Int).toNat) < 48))) || (decide (57 < (A0 (y1.drop (IntKind.wrap .i64 ((y1.length:Int) - (2:Int))).toNat) (0:Int).toNat)))) || (decide ((A0 (y1.drop (IntKind.wrap .i64 ((y1.length:Int) - (2:Int))).toNat) (1:Int).toNat) < 48))))=true→((0:Int)≤(1:Int))then(if(!(((((y1.drop (IntKind.wrap .i64 ((y1.length:Int) - (2:Int))).toNat)==([48,48]:List UInt8)) || (decide ((A0 (y1.drop (IntKind.wrap .i64 ((y1.length:Int) - (2:Int))).toNat) (0:Int).toNat) < 48))) || (decide (57 < (A0 (y1.drop (IntKind.wrap .i64 ((y1.length:Int) - (2:Int))).toNat) (0:Int).toNat)))) || (decide ((A0 (y1.drop (IntKind.wrap .i64 ((y1.length:Int) - (2:Int))).toNat) (1:Int).toNat) < 48))))=true→(1 < ((y1.drop (IntKind.wrap .i64 ((y1.length:Int) - (2:Int))).toNat).length:Int))then(some (.inl ()))else none)else none)else none)else none)else none)else none)else none)else none)else none)else none)else none)else none) (Ad fun(_:Unit)=>(if((((((y1.drop (IntKind.wrap .i64 ((y1.length:Int) - (2:Int))).toNat)==([48,48]:List UInt8)) || (decide ((A0 (y1.drop (IntKind.wrap .i64 ((y1.length:Int) - (2:Int))).toNat) (0:Int).toNat) < 48))) || (decide (57 < (A0 (y1.drop (IntKind.wrap .i64 ((y1.length:Int) - (2:Int))).toNat) (0:Int).toNat)))) || (decide ((A0 (y1.drop (IntKind.wrap .i64 ((y1.length:Int) - (2:Int))).toNat) (1:Int).toNat) < 48))) || (decide (57 < (A0 (y1.drop (IntKind.wrap .i64 ((y1.length:Int) - (2:Int))).toNat) (1:Int).toNat))))=true then(some (.inr (((0:Int),false,false))))else(some (.inl ((y1.take (IntKind.wrap .i64 ((y1.length:Int) - (3:Int))).toNat),(y1.drop (IntKind.wrap .i64 ((y1.length:Int) - (2:Int))).toNat)))))))else(some (.inl (y1,([48,48]:List UInt8))))))) (Ad fun(y2:L2)=>(Option.bind (Option.bind (Option.bind (Option.bind (eu y2.1) fun r=>some r) fun x10=>(some (.inl ((!x10) || ((((decide (0 < (a0.length:Int)))&&((A0 a0 (0:Int).toNat)==45))&&(y2.1==([48]:List UInt8)))&&(y2.2==([48,48]:List UInt8))))))) (Ad fun(y3:Bool)=>(if y3=true then(some (.inr (((0:Int),false,false))))else(some (.inl ()))))) (Ad fun(_:Unit)=>(Option.bind (Option.bind (Option.bind (ni y2.1) fun r=>some r) fun x12=>(some (.inl (x12.1,x12.2)))) (Ad fun(y4:Jr)=>(Option.bind (Option.bind (some (.inl ())) (Ad fun(_:Unit)=>(if((!y4.2) || (decide (1125899906842624 < y4.1)))=true then(some (.inr (((0:Int),true,false))))else(some (.inl ()))))) (Ad fun(_:Unit)=>(Option.bind (if((0:Int)≤(0:Int))then(if(0 < (y2.2.length:Int))then(if((0:Int)≤(1:Int))then(if(1 < (y2.2.length:Int))then(some (.inl ()))else none)else none)else none)else none) (Ad fun(_:Unit)=>(Option.bind (Option.bind (some (.inl ())) (Ad fun(_:Unit)=>(if((decide (0 < (a0.length:Int)))&&((A0 a0 (0:Int).toNat)==45))=true then(some (.inl (IntKind.wrap .i64 (0 - (IntKind.wrap .i64 ((IntKind.wrap .i64 ((IntKind.wrap .i64 ((100:Int) * y4.1))+(IntKind.wrap .i64 ((10:Int) * (IntKind.wrap .i64 ((IntKind.wrap .u8 ((A0 y2.2 (0:Int).toNat) - 48))))))))+(IntKind.wrap .i64 ((IntKind.wrap .u8 ((A0 y2.2 (1:Int).toNat) - 48))))))))))else(some (.inl (IntKind.wrap .i64 ((IntKind.wrap .i64 ((IntKind.wrap .i64 ((100:Int) * y4.1))+(IntKind.wrap .i64 ((10:Int) * (IntKind.wrap .i64 ((IntKind.wrap .u8 ((A0 y2.2 (0:Int).toNat) - 48))))))))+(IntKind.wrap .i64 ((IntKind.wrap .u8 ((A0 y2.2 (1:Int).toNat) - 48))))))))))) (Ad fun(y5:Int)=>(some (y5,true,((decide ((-200000:Int)≤y5))&&(decide (y5≤6000000))))))))))))))))))))))):Option (Int×Et)):=by kernel_rfl
theorem A129  (a0:List UInt8):zm a0=((Option.bind (Option.bind (zr a0) fun r=>some r) fun x1=>(if(!x1.2.1)=true then(some ((0:Int),(4:Int)))else(if(!x1.2.2)=true then(some ((0:Int),(2:Int)))else(some (x1.1,(0:Int)))))):Option (P9)):=by kernel_rfl
def Ds (t:List UInt8):List UInt8×List UInt8×Bool:=if Lib.indexByte t 46 < 0 then(t,[],false)else(t.take (Lib.indexByte t 46).toNat,t.drop ((Lib.indexByte t 46).toNat+1),true)
theorem cutAt_eq (s:List UInt8) (hs:s.length≤1000):er s [46]=some (Ds s):=by
 rw[A120,A144]
 have hI:ew s [46]=some (Lib.indexByte s 46):=rfl
 rw[hI]
 simp only[bs]
 unfold Ds
 by_cases h:Lib.indexByte s 46 < 0
 ·rw[if_neg (by simpa using h),if_pos h]
  rfl
 ·obtain⟨o,ho⟩:=Int.eq_ofNat_of_zero_le (by omega:0≤Lib.indexByte s 46)
  have hlt:=(List.getElem?_eq_some_iff.1 (Lib.indexByte_some ho).1).1
  rw[if_pos (by simpa using h),if_neg h,ho]
  have e:IntKind.wrap .i64 ((o:Int)+(([46]:List UInt8).length:Int))=((o+1:Nat):Int):=by rw[show (([46]:List UInt8).length:Int)=1 from rfl];exact wn (by omega)
  rw[e,if_pos (by omega),if_pos (by omega),if_pos (by omega),if_pos (by omega)]
  rfl
def k2 (h:List UInt8):Int:=(A0 h 0 - 48) * 10+(A0 h 1 - 48)
def No (h:List UInt8):Bool:=((((((h.length:Int) != (2:Int)) || (decide (A0 h 0 < 48))) || (decide (57 < A0 h 0))) || (decide (A0 h 1 < 48))) || (decide (57 < A0 h 1))) || (h==[48,48])
def Fa (f:List UInt8):Int:=if f.length < 10 then(Az 0 f:Int)else 1099511627776
theorem za {h:List UInt8} (hb:No h=false):h.length=2∧(48≤A0 h 0∧A0 h 0≤57)∧(48≤A0 h 1∧A0 h 1≤57)∧h≠[48,48]:=by
 unfold No at hb
 simp only[Bool.or_eq_false_iff,bne_eq_false_iff_eq,decide_eq_false_iff_not,beq_eq_false_iff_ne]at hb
 obtain⟨⟨⟨⟨⟨h1,h2⟩,h3⟩,h4⟩,h5⟩,h6⟩:=hb
 exact⟨by omega,⟨by omega,by omega⟩,⟨by omega,by omega⟩,h6⟩
theorem k2_ne {h:List UInt8} (hb:No h=false):0 < k2 h∧k2 h≤99:=by
 obtain⟨h1,h2,h3,h4⟩:=za hb
 unfold k2
 refine⟨?_,by omega⟩
 match h,h1 with
 | [a,b],_ =>
  simp only[show A0 [a,b] 0=(a.toNat:Int) from rfl,show A0 [a,b] 1=(b.toNat:Int) from rfl]at h2 h3 ⊢
  by_cases hc:a.toNat=48∧b.toNat=48
  ·exact absurd (by rw[show a=48 from UInt8.toNat_inj.1 hc.1,show b=48 from UInt8.toNat_inj.1 hc.2]) h4
  ·omega
def cb (f h:List UInt8) (p:Bool):Int:=Fa f * 100+(if p=true then k2 h else 0)
def Nl (s:List UInt8):Int×Bool :=
 if Eb (Ds (bd s)).1=false then(0,false)
 else if(Ds (bd s)).2.2=true∧No (Ds (bd s)).2.1=true then(0,false)
 else if ng s=true then(-(cb (Ds (bd s)).1 (Ds (bd s)).2.1 (Ds (bd s)).2.2),cb (Ds (bd s)).1 (Ds (bd s)).2.1 (Ds (bd s)).2.2 != 0)
 else(cb (Ds (bd s)).1 (Ds (bd s)).2.1 (Ds (bd s)).2.2,true)
theorem D1 {b:Bool} {p:Prop} [Decidable p] {α:Type} {x y:Option α} (h:b=true→p):(if b=true→p then x else y)=x:=if_pos h
theorem Zb {h:List UInt8} {i:Nat} (hb:48≤A0 h i∧A0 h i≤57):IntKind.wrap .i64 (IntKind.wrap .u8 ((A0 h i) - 48))=A0 h i - 48:=by
 rw[show IntKind.wrap .u8 (A0 h i - 48)=A0 h i - 48 from IntWalk.u8_in _ (by omega),B2 (by omega) (by omega)]
theorem piV_feet {f:List UInt8} (h:Eb f=true) (hl:f.length < 10):(jf f).1=(Az 0 f:Int):=by
 have P:=Ph h
 have hng:ng f=false:=by
  cases f with
  | nil=>rfl
  | cons a l =>
   have:=P.dg
   rw[List.all_cons,Bool.and_eq_true]at this
   have:=M0 this.1
   unfold ng
   rw[show A0 (a :: l) 0=(a.toNat:Int) from rfl,show ((a.toNat:Int)==45)=false from by simp;omega]
   simp
 have hbd:bd f=f:=by unfold bd;rw[hng];rfl
 have hs:=Ya P hl
 have hz:Pv f=(Az 0 f:Int):=by unfold Pv;rw[hng,hbd];rfl
 rcases piV_pl (s:=f) (by rw[hbd];exact h) with e | ⟨_,e⟩
 ·rw[e,← hz]
 ·rw[hz]at e;omega
theorem tn {f:List UInt8} (h:Eb f=true):0≤Fa f∧Fa f≤1099511627776:=by
 unfold Fa
 split
 ·rename_i hl;have:=Ya (Ph h) hl;omega
 ·exact⟨by decide,Int.le_refl _⟩
theorem rz (s:List UInt8) (hs:s.length≤1000):zn s=some (Nl s):=by
 have hb:=Za s
 rw[A137,U4 s hs]
 simp only[bs]
 rw[cutAt_eq (bd s) (by omega)]
 simp only[bs,ol]
 unfold Nl
 have hfl:(Ds (bd s)).1.length≤1000:=by unfold Ds;split;(· simp;omega);simp;omega
 generalize (Ds (bd s))=C at hfl
 obtain⟨f,h,p⟩:=C
 simp only at hfl ⊢
 rw[vx f hfl]
 simp only[bs,ol]
 cases hp:Eb f with
 | false=>rfl
 | true =>
  rw[if_neg (by decide:¬ (true=false))]
  simp only[Bool.not_true,Bool.false_eq_true,if_false,bs,ol]
  have tail:∀ y3:Int,0≤y3→y3≤99→(Option.bind (Option.bind (some (.inl ())) (Ad fun(_:Unit)=>(if(decide ((f.length:Int) < (10:Int)))=true then(Option.bind (Option.bind (Ux f (10:Int) (64:Int)) fun r=>some r) fun x12=>(some (.inl x12.1)))else(some (.inl Xz))))) (Ad fun(y4:Int)=>(Option.bind (some (.inl ())) (Ad fun(_:Unit)=>(Option.bind (Option.bind (some (.inl ())) (Ad fun(_:Unit)=>(if ng s=true then(some (.inr (((IntKind.wrap .i64 (0 - (IntKind.wrap .i64 ((IntKind.wrap .i64 (y4 * (100:Int)))+y3)))),((IntKind.wrap .i64 ((IntKind.wrap .i64 (y4 * (100:Int)))+y3)) != 0)))))else(some (.inl ()))))) (Ad fun(_:Unit)=>(some ((IntKind.wrap .i64 ((IntKind.wrap .i64 (y4 * (100:Int)))+y3)),true))))))):Option (Jr))=some (if ng s=true then(-(Fa f * 100+y3),(Fa f * 100+y3) != 0)else(Fa f * 100+y3,true)):=fun y3 g1 g2=>by
   have hy:(if(decide ((f.length:Int) < (10:Int)))=true then(Option.bind (Option.bind (Ux f (10:Int) (64:Int)) fun r=>some r) fun x12=>(some (.inl x12.1)))else(some (.inl Xz)):Option (Int⊕(Jr)))=some (.inl (Fa f)):=by
    unfold Fa
    by_cases hl:f.length < 10
    ·rw[if_pos (by simpa using (by omega:(f.length:Int) < 10)),if_pos hl,show Ux f 10 64=some (jf f) from if_pos ⟨by omega,rfl,rfl⟩]
     simp only[bs]
     rw[piV_feet hp hl]
    ·rw[if_neg (by simpa using (by omega:¬ (f.length:Int) < 10)),if_neg hl]
     rfl
   simp only[bs,ol]
   rw[hy]
   have hN:=tn hp
   generalize Fa f=N at hN
   simp only[bs,ol]
   rw[show IntKind.wrap .i64 (N * 100)=N * 100 from B2 (by omega) (by omega),show IntKind.wrap .i64 (N * 100+y3)=N * 100+y3 from B2 (by omega) (by omega),show IntKind.wrap .i64 (0 - (N * 100+y3)) = -(N * 100+y3) from by rw[B2 (by omega) (by omega)];omega]
   cases ng s<;>rfl
  cases p with
  | false =>
   simp only[Bool.false_eq_true,if_false,false_and,bs,ol]
   have:=tail 0 (by decide) (by decide)
   simp only[bs,ol]at this
   rw[this]
   unfold cb
   rfl
  | true =>
   simp only[if_true,true_and]
   have gA:∀ {b:Bool},(b=true→((h.length:Int) != 2)=false)→(b=true→(0:Int) < (h.length:Int)):=fun e hb=>by
    have:=e hb
    rw[bne_eq_false_iff_eq]at this
    omega
   have gB:∀ {b:Bool},(b=true→((h.length:Int) != 2)=false)→(b=true→(1:Int) < (h.length:Int)):=fun e hb=>by
    have:=e hb
    rw[bne_eq_false_iff_eq]at this
    omega
   have hcond:((((((((h.length:Int) != (2:Int)) || (decide ((A0 h (0:Int).toNat) < 48))) || (decide (57 < (A0 h (0:Int).toNat)))) || (decide ((A0 h (1:Int).toNat) < 48))) || (decide (57 < (A0 h (1:Int).toNat)))) || (h==([48,48]:List UInt8))))=No h:=rfl
   rw[D1 (fun _=>by decide),D1 (gA (fun h=>by simpa using h)),D1 (fun _=>by decide),D1 (gA (fun h=>by simp at h ⊢;exact h.1)),D1 (fun _=>by decide),D1 (gB (fun h=>by simp at h ⊢;exact h.1.1)),D1 (fun _=>by decide),D1 (gB (fun h=>by simp at h ⊢;exact h.1.1.1))]
   simp only[bs,ol]
   rw[hcond]
   cases hbh:No h with
   | true=>rfl
   | false =>
    obtain⟨g1,g2,g3,g4⟩:=za hbh
    have hk:=k2_ne hbh
    simp only[Bool.false_eq_true,if_false,bs,ol]
    rw[if_pos (by decide),if_pos (by omega),if_pos (by decide),if_pos (by omega)]
    rw[show (0:Int).toNat=0 from rfl,show (1:Int).toNat=1 from rfl,Zb g2,Zb g3]
    have ek:IntKind.wrap .i64 (IntKind.wrap .i64 ((A0 h 0 - 48) * 10)+(A0 h 1 - 48))=k2 h:=by
     unfold k2
     rw[B2 (x:=(A0 h 0 - 48) * 10) (by omega) (by omega),B2 (by omega) (by omega)]
    rw[ek]
    have:=tail (k2 h) (by omega) hk.2
    simp only[bs,ol]at this ⊢
    rw[this]
    unfold cb
    rfl
theorem ranged_eq (n:Int):zo n=some ((decide ((-200000:Int)≤n))&&(decide (n≤6000000))):=by rw[A138]
theorem val_loop (y:List UInt8) (hy:y.length≤1000) (hd:y.all Jv=true):∀ (k i:Nat),i+k=y.length→Az 0 (y.take i)≤4611686018427387904 →
  Ak (Qo y) ((Az 0 (y.take i):Int),(i:Int))=some (if Az 0 y≤4611686018427387904 then .inl (Az 0 y:Int)else .inr (0,false)):=by
 intro k
 induction k with
 | zero =>
  intro i hi hv
  obtain rfl:i=y.length:=by omega
  rw[List.take_length]at hv ⊢
  refine Bh ?_
  simp only[Qo,Int.lt_irrefl,decide_false,Bool.false_eq_true,if_false,bs,ol,V7]
  rw[if_pos hv]
 | succ k ih =>
  intro i hi hv
  have hl:i < y.length:=by omega
  have hli:(i:Int) < (y.length:Int):=by omega
  have hb:Jv y[i]=true:=List.all_eq_true.1 hd _ (List.getElem_mem hl)
  have hb2:=M0 hb
  have ht:Az 0 (y.take (i+1))=10 * Az 0 (y.take i)+((y[i]).toNat - 48):=by
   rw[List.take_add_one,List.getElem?_eq_getElem hl]
   unfold Az
   rw[List.foldl_append]
   rfl
  have hsplit:Az 0 y=Az (Az 0 (y.take (i+1))) (y.drop (i+1)):=by
   conv=>lhs;rw[← List.take_append_drop (i+1) y]
   unfold Az
   rw[List.foldl_append]
  have hge:=R9 (y.drop (i+1)) (Az 0 (y.take (i+1)))
  generalize Az 0 (y.take i)=v at hv ht ⊢
  generalize hdd:(y[i]).toNat - 48=d at ht
  have hd9:d≤9:=by omega
  have e1:IntKind.wrap .i64 (IntKind.wrap .u8 ((A0 y i) - 48))=(d:Int):=by rw[Jt hl,u8d hb2,hdd]
  have e2:IntKind.wrap .i64 ((4611686018427387904:Int) - (d:Int))=((4611686018427387904 - d:Nat):Int):=by rw[B2 (by omega) (by omega)];omega
  have e3:Int.tdiv ((4611686018427387904 - d:Nat):Int) 10=(((4611686018427387904 - d) / 10:Nat):Int):=rfl
  by_cases hc:10 * v+d≤4611686018427387904
  ·refine Bm (s':=(((10 * v+d:Nat):Int),((i+1:Nat):Int))) ?_ ?_
   ·simp only[Qo,Int.toNat_natCast,hli,decide_true,if_true,show (0:Int)≤(i:Int) from by omega,bs,ol,V7,e1,e2,e3,show ((10:Int)≠0)=True from by decide]
    rw[show IntKind.wrap .i64 (((4611686018427387904 - d) / 10:Nat):Int)=(((4611686018427387904 - d) / 10:Nat):Int) from B2 (by omega) (by omega)]
    rw[if_neg (by simp;omega)]
    rw[show IntKind.wrap .i64 ((10:Int) * (v:Int))=((10 * v:Nat):Int) from by rw[B2 (by omega) (by omega)];omega]
    rw[show IntKind.wrap .i64 (((10 * v:Nat):Int)+(d:Int))=((10 * v+d:Nat):Int) from by rw[B2 (by omega) (by omega)];omega,wn (by omega)]
   ·have:=ih (i+1) (by omega) (by rw[ht];exact hc)
    rw[ht]at this
    exact this
  ·rw[if_neg (by omega)]
   refine Bh ?_
   simp only[Qo,Int.toNat_natCast,hli,decide_true,if_true,show (0:Int)≤(i:Int) from by omega,bs,ol,V7,e1,e2,e3,show ((10:Int)≠0)=True from by decide]
   rw[show IntKind.wrap .i64 (((4611686018427387904 - d) / 10:Nat):Int)=(((4611686018427387904 - d) / 10:Nat):Int) from B2 (by omega) (by omega)]
   rw[if_pos (by simp;omega)]
theorem value_eq (y:List UInt8) (hy:y.length≤1000) (hd:y.all Jv=true):ni y=some (if Az 0 y≤4611686018427387904 then((Az 0 y:Int),true)else(0,false)):=by
 rw[A167]
 have:=val_loop y hy hd _ 0 (Nat.zero_add _) (by show (0:Nat)≤_;omega)
 rw[show ((Az 0 (y.take 0):Int),((0:Nat):Int))=((0:Int),(0:Int)) from rfl]at this
 simp only[bs,ol]
 rw[this]
 split<;>rfl
def Cx (t:List UInt8):Bool:=decide (3 < t.length)&&(A0 t (t.length - 3)==46)
def Mp (h:List UInt8):Bool:=((((h==[48,48]) || (decide (A0 h 0 < 48))) || (decide (57 < A0 h 0))) || (decide (A0 h 1 < 48))) || (decide (57 < A0 h 1))
def wp (t:List UInt8):List UInt8×List UInt8:=if Cx t=true then(t.take (t.length - 3),t.drop (t.length - 2))else(t,[48,48])
def Gt (s:List UInt8):Int×Bool×Bool :=
 if Cx (bd s)=true∧Mp ((bd s).drop ((bd s).length - 2))=true then(0,false,false)
 else if(!Eb (wp (bd s)).1 || ((ng s&&((wp (bd s)).1==[48]))&&((wp (bd s)).2==[48,48])))=true then(0,false,false)
 else if 1125899906842624 < Az 0 (wp (bd s)).1 then(0,true,false)
 else let n:=100 * (Az 0 (wp (bd s)).1:Int)+k2 (wp (bd s)).2
  let z:=if ng s=true then -n else n
  (z,true,(decide ((-200000:Int)≤z))&&(decide (z≤6000000)))
theorem yb (s:List UInt8) (hs:s.length≤1000):zr s=some (Gt s):=by
 have hb:=Za s
 rw[A149,ng_int]
 rw[if_pos (by intro _;decide),if_pos (by intro h;simpa using h)]
 simp only[bs,ol]
 have e:(if ng s=true then(if((0:Int)≤(1:Int))then(if(1≤(s.length:Int))then(some (.inl (s.drop (1:Int).toNat)))else none)else none)else(some (.inl s)))=(some (.inl (bd s)):Option (List UInt8⊕(Int×Et))):=by
  unfold bd
  by_cases hn:ng s=true
  ·rw[if_pos hn,if_pos hn,if_pos (by decide),if_pos (by unfold ng at hn;rw[Bool.and_eq_true]at hn;have:=of_decide_eq_true hn.1;omega)]
   rfl
  ·rw[if_neg hn,if_neg hn]
 rw[e]
 simp only[bs,ol]
 unfold Gt
 generalize ht:bd s=t at hb
 have hlen:t.length≤1000:=by omega
 have e3:3 < t.length→IntKind.wrap .i64 ((t.length:Int) - (3:Int))=((t.length - 3:Nat):Int):=fun h=>by rw[B2 (by omega) (by omega)];omega
 have e2:3 < t.length→IntKind.wrap .i64 ((t.length:Int) - (2:Int))=((t.length - 2:Nat):Int):=fun h=>by rw[B2 (by omega) (by omega)];omega
 have d3:decide (3 < (t.length:Int))=decide (3 < t.length):=decide_eq_decide.2 (by omega)
 rw[d3,if_pos (by intro h;rw[e3 (of_decide_eq_true h)];omega),if_pos (by intro h;rw[e3 (of_decide_eq_true h)];have:=of_decide_eq_true h;omega)]
 simp only[bs,ol]
 have hdot:((decide (3 < t.length))&&((A0 t (IntKind.wrap .i64 ((t.length:Int) - (3:Int))).toNat)==46))=Cx t:=by
  unfold Cx
  by_cases h:3 < t.length
  ·rw[e3 h,Int.toNat_natCast]
  ·simp[h]
 rw[hdot]
 have tail:∀ (w q:List UInt8),w.length≤1000→q.length=2→(48≤A0 q 0∧A0 q 0≤57)→(48≤A0 q 1∧A0 q 1≤57) →
   ((Option.bind (Option.bind (Option.bind (Option.bind (eu w) fun r=>some r) fun x10=>(some (.inl ((!x10) || ((ng s&&(w==([48]:List UInt8)))&&(q==([48,48]:List UInt8))))))) (Ad fun(y3:Bool)=>(if y3=true then(some (.inr (((0:Int),false,false))))else(some (.inl ()))))) (Ad fun(_:Unit)=>(Option.bind (Option.bind (Option.bind (ni w) fun r=>some r) fun x12=>(some (.inl (x12.1,x12.2)))) (Ad fun(y4:Jr)=>(Option.bind (Option.bind (some (.inl ())) (Ad fun(_:Unit)=>(if((!y4.2) || (decide (1125899906842624 < y4.1)))=true then(some (.inr (((0:Int),true,false))))else(some (.inl ()))))) (Ad fun(_:Unit)=>(Option.bind (if((0:Int)≤(0:Int))then(if(0 < (q.length:Int))then(if((0:Int)≤(1:Int))then(if(1 < (q.length:Int))then(some (.inl ()))else none)else none)else none)else none) (Ad fun(_:Unit)=>(Option.bind (Option.bind (some (.inl ())) (Ad fun(_:Unit)=>(if ng s=true then(some (.inl (IntKind.wrap .i64 (0 - (IntKind.wrap .i64 ((IntKind.wrap .i64 ((IntKind.wrap .i64 ((100:Int) * y4.1))+(IntKind.wrap .i64 ((10:Int) * (IntKind.wrap .i64 ((IntKind.wrap .u8 ((A0 q (0:Int).toNat) - 48))))))))+(IntKind.wrap .i64 ((IntKind.wrap .u8 ((A0 q (1:Int).toNat) - 48))))))))))else(some (.inl (IntKind.wrap .i64 ((IntKind.wrap .i64 ((IntKind.wrap .i64 ((100:Int) * y4.1))+(IntKind.wrap .i64 ((10:Int) * (IntKind.wrap .i64 ((IntKind.wrap .u8 ((A0 q (0:Int).toNat) - 48))))))))+(IntKind.wrap .i64 ((IntKind.wrap .u8 ((A0 q (1:Int).toNat) - 48))))))))))) (Ad fun(y5:Int)=>(some (y5,true,((decide ((-200000:Int)≤y5))&&(decide (y5≤6000000))))))))))))))):Option (Int×Et)) =
   some (if(!Eb w || ((ng s&&(w==[48]))&&(q==[48,48])))=true then(0,false,false)
    else if 1125899906842624 < Az 0 w then(0,true,false)
    else let n:=100 * (Az 0 w:Int)+k2 q
     let z:=if ng s=true then -n else n
     (z,true,(decide ((-200000:Int)≤z))&&(decide (z≤6000000)))):=fun w q hw hq q0 q1=>by
  rw[vy w hw]
  simp only[bs,ol]
  cases hc:(!Eb w || ((ng s&&(w==[48]))&&(q==[48,48]))) with
  | true=>rfl
  | false =>
   have hp:Eb w=true:=by
    cases h:Eb w with
    | true=>rfl
    | false=>rw[h]at hc;simp at hc
   simp only[Bool.false_eq_true,if_false,bs,ol]
   rw[value_eq w hw (Ph hp).dg]
   generalize Az 0 w=v
   simp only[bs,ol]
   by_cases hv:v≤1125899906842624
   ·rw[if_pos (by omega:v≤4611686018427387904),if_neg (show ¬ ((!true) || (decide (1125899906842624 < (v:Int))))=true from by simp;omega),if_neg (show ¬ 1125899906842624 < v from by omega)]
    simp only[bs,ol]
    rw[if_pos (by decide),if_pos (by omega),if_pos (by decide),if_pos (by omega)]
    simp only[bs,ol]
    rw[show (0:Int).toNat=0 from rfl,show (1:Int).toNat=1 from rfl,Zb q0,Zb q1]
    have ek:IntKind.wrap .i64 (IntKind.wrap .i64 (IntKind.wrap .i64 (100 * (v:Int))+IntKind.wrap .i64 (10 * (A0 q 0 - 48)))+(A0 q 1 - 48))=100 * (v:Int)+k2 q:=by
     unfold k2
     rw[B2 (x:=100 * (v:Int)) (by omega) (by omega),B2 (x:=10 * (A0 q 0 - 48)) (by omega) (by omega),B2 (x:=100 * (v:Int)+10 * (A0 q 0 - 48)) (by omega) (by omega),B2 (by omega) (by omega)]
     omega
    rw[ek]
    have hk:0≤k2 q∧k2 q≤99:=by unfold k2;omega
    cases hn:ng s with
    | true =>
     simp only[if_true,bs,ol]
     rw[show IntKind.wrap .i64 (0 - (100 * (v:Int)+k2 q)) = -(100 * (v:Int)+k2 q) from by rw[B2 (by omega) (by omega)];omega]
    | false=>simp only[Bool.false_eq_true,if_false,bs,ol]
   ·rw[if_pos (show 1125899906842624 < v from by omega)]
    by_cases h62:v≤4611686018427387904
    ·rw[if_pos h62,if_pos (show ((!true) || (decide (1125899906842624 < (v:Int))))=true from by simp;omega)]
     rfl
    ·rw[if_neg h62];rfl
 unfold wp
 cases hd:Cx t with
 | false =>
  simp only[Bool.false_eq_true,if_false,false_and,bs,ol]
  have:=tail t [48,48] hlen rfl (by decide) (by decide)
  simp only[bs,ol]at this ⊢
  exact this
 | true =>
  have h3:3 < t.length:=by unfold Cx at hd;rw[Bool.and_eq_true]at hd;exact of_decide_eq_true hd.1
  simp only[if_true,true_and]
  rw[e3 h3,e2 h3,if_pos (by omega),if_pos (by omega),if_pos (by omega),if_pos (by omega)]
  simp only[Int.toNat_natCast]
  have hl2:((t.drop (t.length - 2)).length:Int)=2:=by simp;omega
  have g0:∀ {b:Bool},b=true→(0:Int) < ((t.drop (t.length - 2)).length:Int):=fun _=>by omega
  have g1:∀ {b:Bool},b=true→(1:Int) < ((t.drop (t.length - 2)).length:Int):=fun _=>by omega
  rw[D1 (fun _=>by decide),D1 g0,D1 (fun _=>by decide),D1 g0,D1 (fun _=>by decide),D1 g1,D1 (fun _=>by decide),D1 g1]
  simp only[bs,ol]
  have hcond:((((((t.drop (t.length - 2))==([48,48]:List UInt8)) || (decide ((A0 (t.drop (t.length - 2)) (0:Int).toNat) < 48))) || (decide (57 < (A0 (t.drop (t.length - 2)) (0:Int).toNat)))) || (decide ((A0 (t.drop (t.length - 2)) (1:Int).toNat) < 48))) || (decide (57 < (A0 (t.drop (t.length - 2)) (1:Int).toNat))))=Mp (t.drop (t.length - 2)):=rfl
  rw[hcond]
  cases hbp:Mp (t.drop (t.length - 2)) with
  | true=>rfl
  | false =>
   have hq:=hbp
   unfold Mp at hq
   simp only[Bool.or_eq_false_iff,decide_eq_false_iff_not]at hq
   simp only[Bool.false_eq_true,if_false,bs,ol]
   have:=tail (t.take (t.length - 3)) (t.drop (t.length - 2)) (by simp;omega) (by omega) (by omega) (by omega)
   simp only[bs,ol]at this ⊢
   exact this
end Go.Av.Txs
set_option maxRecDepth 100000
namespace Go.Av.Txs
open Go.Av
def qk (f q:List UInt8) (b:Bool):Int×Et:=if 1125899906842624 < Az 0 f then(0,true,false)
 else let n:=100 * (Az 0 f:Int)+k2 q
  let z:=if b=true then -n else n
  (z,true,(decide ((-200000:Int)≤z))&&(decide (z≤6000000)))
theorem core {f q:List UInt8} {b:Bool} (hp:Eb f=true) (h0:0≤k2 q) (h1:k2 q≤99) :
  let P:=if b=true then -(Fa f * 100+k2 q)else Fa f * 100+k2 q
  (qk f q b).2.1=true∧((-200000≤P∧P≤6000000)↔(qk f q b).2.2=true)∧((qk f q b).2.2=true→P=(qk f q b).1):=by
 have P0:=Ph hp
 unfold qk Fa
 by_cases hl:f.length < 10
 ·have hs:=Ya P0 hl
  rw[if_pos hl,if_neg (show ¬ 1125899906842624 < Az 0 f from by omega)]
  cases b with
  | true =>
   simp only[if_true,Bool.and_eq_true,decide_eq_true_eq]
   exact⟨trivial,by omega,fun _=>by omega⟩
  | false =>
   simp only[Bool.false_eq_true,if_false,Bool.and_eq_true,decide_eq_true_eq]
   exact⟨trivial,by omega,fun _=>by omega⟩
 ·have hb:=pl_big P0 (by omega)
  rw[if_neg hl]
  by_cases hv:1125899906842624 < Az 0 f
  ·rw[if_pos hv]
   refine⟨rfl,⟨fun h=>?_,fun h=>by cases h⟩,fun h=>by cases h⟩
   cases b with
   | true=>simp only[if_true]at h;omega
   | false=>simp only[Bool.false_eq_true,if_false]at h;omega
  ·rw[if_neg hv]
   cases b with
   | true =>
    simp only[if_true,Bool.and_eq_true,decide_eq_true_eq]
    exact⟨trivial,⟨fun h=>by omega,fun h=>by omega⟩,fun h=>by omega⟩
   | false =>
    simp only[Bool.false_eq_true,if_false,Bool.and_eq_true,decide_eq_true_eq]
    exact⟨trivial,⟨fun h=>by omega,fun h=>by omega⟩,fun h=>by omega⟩
theorem plB_46 {s:List UInt8} {i:Nat} (h:s[i]?=some 46):Eb s=false:=by
 unfold Eb
 rw[Bool.and_eq_false_iff]
 right
 rw[Bool.eq_false_iff]
 intro ha
 rw[List.all_eq_true]at ha
 have:=ha _ (List.mem_of_getElem? h)
 revert this
 decide
theorem badHP {h:List UInt8} (hl:h.length=2):No h=Mp h:=by
 unfold No Mp
 rw[show ((h.length:Int) != 2)=false from by simp[hl],Bool.false_or]
 cases decide (A0 h 0 < 48)<;>cases decide (57 < A0 h 0)<;>cases decide (A0 h 1 < 48)<;>cases decide (57 < A0 h 1)<;>cases (h==[48,48])<;>rfl
theorem byteAt_46 {t:List UInt8} {i:Nat}:(A0 t i==46)=true↔t[i]?=some 46:=by
 unfold A0
 constructor
 ·intro h
  split at h
  ·rename_i b hb
   rw[hb]
   have h2:((b.toNat:Int))=46:=by simpa using h
   rw[show b=46 from UInt8.toNat_inj.1 (show b.toNat=46 by omega)]
  ·cases h
 ·intro h;rw[h];rfl
theorem alt_rel (s:List UInt8):(Nl s).2=(Gt s).2.1∧((Nl s).2=true→((-200000≤(Nl s).1∧(Nl s).1≤6000000)↔(Gt s).2.2=true)∧((Gt s).2.2=true→(Nl s).1=(Gt s).1)):=by
 unfold Nl Gt
 generalize bd s=t
 generalize ng s=b
 -- the two ways to be no altitude
 have no:∀ {p:Int×Bool} {r:Int×Bool×Bool},p.2=false→r.2.1=false→p.2=r.2.1∧(p.2=true→((-200000≤p.1∧p.1≤6000000)↔r.2.2=true)∧(r.2.2=true→p.1=r.1)):=fun h1 h2=>⟨by rw[h1,h2],fun h=>by rw[h1]at h;cases h⟩
 by_cases hx:Lib.indexByte t 46 < 0
 ·have hn:∀ i:Nat,t[i]?≠some (46:UInt8):=fun i=>Lib.indexByte_none (l:=t) (c:=46) (by have:=Lib.indexByte_ge t 46;omega) i
  have hd:Cx t=false:=by
   cases h:Cx t with
   | false=>rfl
   | true =>
    unfold Cx at h
    rw[Bool.and_eq_true]at h
    exact absurd (byteAt_46.1 h.2) (hn _)
  have hc:Ds t=(t,[],false):=if_pos hx
  have hw:wp t=(t,[48,48]):=by unfold wp;rw[hd];rfl
  rw[hc,hw,hd]
  simp only[Bool.false_eq_true,false_and,if_false]
  cases hp:Eb t with
  | false=>exact no rfl rfl
  | true =>
   rw[if_neg (by decide:¬ (true=false))]
   have C:=core (f:=t) (q:=[48,48]) (b:=b) hp (by decide) (by decide)
   have hnOf:cb t [] false=Fa t * 100+k2 [48,48]:=by unfold cb;rfl
   rw[hnOf]
   simp only[Bool.not_true,Bool.false_or,beq_self_eq_true,Bool.and_true]
   have hz:Fa t * 100+k2 [48,48]=0↔t=[48]:=by
    rw[show k2 [48,48]=0 from rfl]
    unfold Fa
    split
    ·rw[← pl_zero (Ph hp)];omega
    ·rename_i h;constructor
     ·intro h;omega
     ·rintro rfl;simp at h
   cases b with
   | true =>
    simp only[Bool.true_and,if_true]at C ⊢
    by_cases h48:t=[48]
    ·subst h48
     have e:(Fa [48] * 100+k2 [48,48] != 0)=false:=rfl
     rw[e]
     exact⟨rfl,fun h=>by cases h⟩
    ·rw[if_neg (show ¬ (t==[48])=true from by simpa using h48)]
     have e:((Fa t * 100+k2 [48,48]) != 0)=true:=by simpa using fun h=>h48 (hz.1 h)
     obtain⟨c1,c2,c3⟩:=C
     refine⟨?_,fun _=>⟨c2,c3⟩⟩
     show ((Fa t * 100+k2 [48,48]) != 0)=_
     rw[e]
     exact c1.symm
   | false =>
    simp only[Bool.false_and,Bool.false_eq_true,if_false]at C ⊢
    obtain⟨c1,c2,c3⟩:=C
    exact⟨c1.symm,fun _=>⟨c2,c3⟩⟩
 ·obtain⟨o,ho⟩:=Int.eq_ofNat_of_zero_le (by omega:0≤Lib.indexByte t 46)
  obtain⟨h46,hfst⟩:=Lib.indexByte_some ho
  have holt:=(List.getElem?_eq_some_iff.1 h46).1
  have hc:Ds t=(t.take o,t.drop (o+1),true):=by unfold Ds;rw[if_neg hx,ho];rfl
  rw[hc]
  simp only[true_and]
  cases hd:Cx t with
  | true =>
   unfold Cx at hd
   rw[Bool.and_eq_true]at hd
   have h3:=of_decide_eq_true hd.1
   have hat:=byteAt_46.1 hd.2
   have hdd:Cx t=true:=by unfold Cx;rw[Bool.and_eq_true];exact hd
   have hw:wp t=(t.take (t.length - 3),t.drop (t.length - 2)):=by unfold wp;rw[hdd];rfl
   rw[hw]
   simp only[true_and]
   by_cases ho3:o=t.length - 3
   ·rw[← ho3,show t.length - 2=o+1 from by omega]
    have hl2:(t.drop (o+1)).length=2:=by simp;omega
    rw[badHP hl2]
    generalize t.drop (o+1)=q at hl2
    generalize t.take o=f
    cases hp:Eb f with
    | false =>
     rw[if_pos rfl]
     refine no rfl ?_
     cases Mp q with
     | true=>rfl
     | false=>simp
    | true =>
     rw[if_neg (by decide:¬ (true=false))]
     cases hq:Mp q with
     | true=>exact no rfl rfl
     | false =>
      have hq2:=k2_ne (h:=q) (by rw[badHP hl2];exact hq)
      have hne:(q==[48,48])=false:=by
       unfold Mp at hq
       simp only[Bool.or_eq_false_iff]at hq
       exact hq.1.1.1.1
      have C:=core (f:=f) (q:=q) (b:=b) hp (by omega) hq2.2
      have hnOf:cb f q true=Fa f * 100+k2 q:=by unfold cb;rfl
      have hb:=tn hp
      rw[hnOf,hne]
      simp only[Bool.not_true,Bool.and_false,Bool.or_false,Bool.false_eq_true,if_false]
      obtain⟨c1,c2,c3⟩:=C
      cases b with
      | true =>
       simp only[if_true]at c1 c2 c3 ⊢
       refine⟨?_,fun _=>⟨c2,c3⟩⟩
       rw[show ((Fa f * 100+k2 q) != 0)=true from by simp;omega]
       exact c1.symm
      | false =>
       simp only[Bool.false_eq_true,if_false]at c1 c2 c3 ⊢
       exact⟨c1.symm,fun _=>⟨c2,c3⟩⟩
   ·have holt3:o < t.length - 3:=by
     rcases Nat.lt_or_ge o (t.length - 3) with h | h
     ·exact h
     ·exact absurd hat (hfst _ (by omega))
    refine no ?_ ?_
    ·rw[show No (t.drop (o+1))=true from by
      unfold No
      rw[show (((t.drop (o+1)).length:Int) != 2)=true from by simp;omega]
      simp]
     split<;>rfl
    ·have:Eb (t.take (t.length - 3))=false:=plB_46 (i:=o) (by rw[List.getElem?_take_of_lt holt3];exact h46)
     rw[this]
     cases Mp (t.drop (t.length - 2))<;>simp
  | false =>
   have hw:wp t=(t,[48,48]):=by unfold wp;rw[hd];rfl
   rw[hw]
   simp only[Bool.false_eq_true,false_and,if_false]
   refine no ?_ ?_
   ·cases hp:Eb (t.take o) with
    | false=>rfl
    | true =>
     rw[if_neg (by decide:¬ (true=false))]
     cases hb:No (t.drop (o+1)) with
     | true=>rfl
     | false =>
      exfalso
      have h2:=(za hb).1
      rw[List.length_drop]at h2
      have hne:=(Ph hp).ne
      have ho0:0 < o:=by
       rcases Nat.eq_zero_or_pos o with h | h
       ·subst h;exact absurd rfl hne
       ·exact h
      unfold Cx at hd
      rw[show t.length - 3=o from by omega,byteAt_46.2 h46,show decide (3 < t.length)=true from decide_eq_true (by omega)]at hd
      cases hd
   ·rw[plB_46 h46];rfl
def pa (s:List UInt8):P9:=if(!(Gt s).2.1)=true then(0,4)else if(!(Gt s).2.2)=true then(0,2)else((Gt s).1,0)
theorem pa_r (s:List UInt8) (hs:s.length≤1000):zm s=some (pa s):=by
 rw[A129,yb s hs]
 simp only[bs]
 unfold pa
 split
 ·rfl
 ·split<;>rfl
theorem pa_p (s:List UInt8) (hs:s.length≤1000):Ut s=some ((pa s).2,(pa s).1):=by
 rw[A114o0,rz s hs]
 simp only[bs,ranged_eq]
 unfold pa
 obtain⟨h1,h2⟩:=alt_rel s
 rw[← h1]
 cases hp:(Nl s).2 with
 | false=>rfl
 | true =>
  obtain⟨h3,h4⟩:=h2 hp
  simp only[Bool.not_true,Bool.false_eq_true,if_false]
  cases hr:(Gt s).2.2 with
  | true =>
   have:=h3.2 hr
   rw[if_neg (by simp;omega),h4 hr]
   rfl
  | false =>
   have:¬ (-200000≤(Nl s).1∧(Nl s).1≤6000000):=fun h=>by have:=h3.1 h;rw[hr]at this;cases this
   rw[if_pos (by simp;omega)]
   rfl
end Go.Av.Txs
set_option maxRecDepth 100000
namespace Go.Av.Txs
open Go.Av
theorem A83o0  (a0:A7):S2 a0=((if(a0.A2.length * 24≤140737488355328)then(some ())else none):Option (Unit)):=by kernel_rfl
theorem A121o0  (a0:Int) (a1:List Aj) (a2 a3:Int) (a4:A5):He a0 a1 a2 a3 a4=((Option.bind (Option.bind (J5 a0 a1 a2 a3 a4) fun r=>some r) fun x1=>(if(false || (a4.Code != 0))=true then(some (false,([]:List UInt8),a2,a3,a4.Line,a4.Ai,a4.Code))else(if(a2==(a1.length:Int))=true then(if(decide (0 < (a1.length:Int)))=true then(if(0≤(IntKind.wrap .i64 ((a1.length:Int) - (1:Int))))then(if((IntKind.wrap .i64 ((a1.length:Int) - (1:Int))) < (a1.length:Int))then(Option.bind (Option.bind (D8 (IntKind.wrap .i64 ((a1.getD (IntKind.wrap .i64 ((a1.length:Int) - (1:Int))).toNat default).Ai+((a1.getD (IntKind.wrap .i64 ((a1.length:Int) - (1:Int))).toNat default).Text.length:Int))) (4:Int) a0 a1 a2 a3 a4) fun r=>some r) fun x9=>(some (false,([]:List UInt8),a2,a3,x9.1,x9.2.1,x9.2.2)))else none)else none)else(Option.bind (Option.bind (D8 (1:Int) (4:Int) a0 a1 a2 a3 a4) fun r=>some r) fun x9=>(some (false,([]:List UInt8),a2,a3,x9.1,x9.2.1,x9.2.2))))else(if(0≤a2)then(if(a2 < (a1.length:Int))then(some (true,(a1.getD a2.toNat default).Text,(IntKind.wrap .i64 (a2+1)),(a1.getD a2.toNat default).Ai,a4.Line,a4.Ai,a4.Code))else none)else none)))):Option (Gw)):=by kernel_rfl
theorem A122o0  (a0 a1 a2:Int) (a3:List Aj) (a4 a5:Int) (a6:A5):D8 a0 a1 a2 a3 a4 a5 a6=((Option.bind (Option.bind (J5 a2 a3 a4 a5 a6) fun r=>some r) fun x0=>(if((!(false || (a6.Code != 0)))&&(a1 != 0))=true then(some (a2,a0,a1))else(some (a6.Line,a6.Ai,a6.Code)))):Option (Eu)):=by kernel_rfl
theorem Yu  (a0:Int) (a1:List Aj) (a2 a3:Int) (a4:A5):J5 a0 a1 a2 a3 a4=((some ()):Option (Unit)):=by kernel_rfl
abbrev lo84o0_1 (a0:List (List UInt8)) (y1:Nj):(Int)→Option ((Int)⊕((Unit)⊕(Aw))):=(fun(s2:Int)=>((if(decide (s2 < (a0.length:Int)))=true then(if(0≤s2)then(if(s2 < (a0.length:Int))then(if((a0.getD s2.toNat default)==y1.1)=true then(some (.inr (.inr ((s2,y1.2.1,y1.2.2.1,y1.2.2.2.1,y1.2.2.2.2.1,y1.2.2.2.2.2)))))else(some (.inl (IntKind.wrap .i64 (s2+1)))))else none)else none)else(some (.inr (.inl ())))):Option ((Int)⊕((Unit)⊕(Aw)))))
theorem A84o0  (a0:List (List UInt8)) (a1:Int) (a2:List Aj) (a3 a4:Int) (a5:A5):Pd a0 a1 a2 a3 a4 a5=((Option.bind (Option.bind (Option.bind (He a1 a2 a3 a4 a5) fun r=>some r) fun x1=>(if(!x1.1)=true then(some (.inr (((-1:Int),x1.2.2.1,x1.2.2.2.1,x1.2.2.2.2.1,x1.2.2.2.2.2.1,x1.2.2.2.2.2.2))))else(some (.inl (x1.2.1,x1.2.2.1,x1.2.2.2.1,x1.2.2.2.2.1,x1.2.2.2.2.2.1,x1.2.2.2.2.2.2))))) (Ad fun(y1:Nj)=>(Option.bind (Option.bind (some (.inl ())) (Ad fun(_:Unit)=>(Ak (lo84o0_1 a0 y1) (0:Int)))) (Ad fun(_:Unit)=>(Option.bind (Option.bind (D8 y1.2.2.1 (4:Int) a1 a2 y1.2.1 y1.2.2.1 (⟨y1.2.2.2.1,y1.2.2.2.2.1,y1.2.2.2.2.2⟩:A5)) fun r=>some r) fun x10=>(some ((-1:Int),y1.2.1,y1.2.2.1,x10.1,x10.2.1,x10.2.2))))))):Option (Aw)):=by kernel_rfl
theorem A123o0  (a0:List UInt8) (a1 a2:Int):bj a0 a1 a2=((Option.bind (Option.bind (zk a0 a1 a2) fun r=>some r) fun x1=>(some (x1.2,x1.1))):Option (P9)):=by kernel_rfl
theorem A113o1  (a0:Int) (a1:List Aj) (a2 a3:Int) (a4:A5) (a5 a6:Int):bh a0 a1 a2 a3 a4 a5 a6=((Option.bind (Option.bind (He a0 a1 a2 a3 a4) fun r=>some r) fun x2=>(if(!x2.1)=true then(some ((0:Int),x2.2.2.1,x2.2.2.2.1,x2.2.2.2.2.1,x2.2.2.2.2.2.1,x2.2.2.2.2.2.2))else(Option.bind (Option.bind (bj x2.2.1 a5 a6) fun r=>some r) fun x5=>(if(x5.1 != 0)=true then(Option.bind (((D8 x2.2.2.2.1 x5.1 a0 a1 x2.2.2.1 x2.2.2.2.1 (⟨x2.2.2.2.2.1,x2.2.2.2.2.2.1,x2.2.2.2.2.2.2⟩:A5)).bind fun r7_0=>some (r7_0,x2))) fun(x7:((Eu)×(Gw)))=>(some ((0:Int),x7.2.2.2.1,x7.2.2.2.2.1,x7.1.1,x7.1.2.1,x7.1.2.2)))else(some (x5.2,x2.2.2.1,x2.2.2.2.1,x2.2.2.2.2.1,x2.2.2.2.2.2.1,x2.2.2.2.2.2.2)))))):Option (Aw)):=by kernel_rfl
theorem A113o3  (a0:Int) (a1:List Aj) (a2 a3:Int) (a4:A5):bi a0 a1 a2 a3 a4=((Option.bind (Option.bind (He a0 a1 a2 a3 a4) fun r=>some r) fun x2=>(if(!x2.1)=true then(some ((0:Int),x2.2.2.1,x2.2.2.2.1,x2.2.2.2.2.1,x2.2.2.2.2.2.1,x2.2.2.2.2.2.2))else(Option.bind (Option.bind (Ut x2.2.1) fun r=>some r) fun x5=>(if(x5.1 != 0)=true then(Option.bind (((D8 x2.2.2.2.1 x5.1 a0 a1 x2.2.2.1 x2.2.2.2.1 (⟨x2.2.2.2.2.1,x2.2.2.2.2.2.1,x2.2.2.2.2.2.2⟩:A5)).bind fun r7_0=>some (r7_0,x2))) fun(x7:((Eu)×(Gw)))=>(some ((0:Int),x7.2.2.2.1,x7.2.2.2.2.1,x7.1.1,x7.1.2.1,x7.1.2.2)))else(some (x5.2,x2.2.2.1,x2.2.2.2.1,x2.2.2.2.2.1,x2.2.2.2.2.2.1,x2.2.2.2.2.2.2)))))):Option (Aw)):=by kernel_rfl
theorem A85o1  (a0 a1 a2:Int) (a3:List Aj) (a4 a5:Int) (a6:A5):bv a0 a1 a2 a3 a4 a5 a6=((Option.bind (Option.bind (bh a2 a3 a4 a5 a6 a0 a1) fun r=>some r) fun x1=>(some (x1.1,x1.2.1,x1.2.2.1,x1.2.2.2.1,x1.2.2.2.2.1,x1.2.2.2.2.2))):Option (Aw)):=by kernel_rfl
theorem A48o1  (a0:Int) (a1:List Aj) (a2 a3:Int) (a4:A5):Ko a0 a1 a2 a3 a4=((Option.bind (Option.bind (bi a0 a1 a2 a3 a4) fun r=>some r) fun x1=>(some (x1.1,x1.2.1,x1.2.2.1,x1.2.2.2.1,x1.2.2.2.2.1,x1.2.2.2.2.2))):Option (Aw)):=by kernel_rfl
theorem A86o0  (a0:Int) (a1:List Aj) (a2 a3:Int) (a4:A5):bw a0 a1 a2 a3 a4=((if false=true then(some (false,(0:Int),(0:Int),(0:Int)))else(Option.bind (Option.bind (J5 a0 a1 a2 a3 a4) fun r=>some r) fun x3=>(if(false || (a4.Code != 0))=true then(some (true,a4.Line,a4.Ai,a4.Code))else(if(decide (a2 < (a1.length:Int)))=true then(if(0≤a2)then(if(a2 < (a1.length:Int))then(some (true,a0,(a1.getD a2.toNat default).Ai,(4:Int)))else none)else none)else(some (false,(0:Int),(0:Int),(0:Int))))))):Option (Js)):=by kernel_rfl
theorem A87o1  (a0 a1:Int) (a2:List Aj) (a3 a4:Int) (a5:A5):bz a0 a1 a2 a3 a4 a5=((if true=true then(Option.bind (Option.bind (D8 a4 a0 a1 a2 a3 a4 a5) fun r=>some r) fun x1=>(some (x1.1,x1.2.1,x1.2.2)))else(some (a5.Line,a5.Ai,a5.Code))):Option (Eu)):=by kernel_rfl
theorem A91o0  (a0:A7):N5 a0=((some ()):Option (Unit)):=by kernel_rfl
theorem A126o0  (a0:Ab):Hf a0=((if a0.failed=true then(some (false,([]:List UInt8),a0.at_,a0.last,a0.diag.Line,a0.diag.Ai,a0.diag.Code,a0.failed))else(if(decide ((a0.line.A2.length:Int)≤a0.at_))=true then(if(decide (0 < (a0.line.A2.length:Int)))=true then(if(0≤(IntKind.wrap .i64 ((a0.line.A2.length:Int) - (1:Int))))then(if((IntKind.wrap .i64 ((a0.line.A2.length:Int) - (1:Int))) < (a0.line.A2.length:Int))then(Option.bind (Option.bind (Ci (IntKind.wrap .i64 ((a0.line.A2.getD (IntKind.wrap .i64 ((a0.line.A2.length:Int) - (1:Int))).toNat default).Ai+((a0.line.A2.getD (IntKind.wrap .i64 ((a0.line.A2.length:Int) - (1:Int))).toNat default).Text.length:Int))) (4:Int) a0) fun r=>some r) fun x9=>(some (false,([]:List UInt8),a0.at_,a0.last,x9.1,x9.2.1,x9.2.2.1,x9.2.2.2)))else none)else none)else(Option.bind (Option.bind (Ci (1:Int) (4:Int) a0) fun r=>some r) fun x9=>(some (false,([]:List UInt8),a0.at_,a0.last,x9.1,x9.2.1,x9.2.2.1,x9.2.2.2))))else(if(0≤a0.at_)then(if(a0.at_ < (a0.line.A2.length:Int))then(some (true,(a0.line.A2.getD a0.at_.toNat default).Text,(IntKind.wrap .i64 (a0.at_+1)),(a0.line.A2.getD a0.at_.toNat default).Ai,a0.diag.Line,a0.diag.Ai,a0.diag.Code,a0.failed))else none)else none))):Option (H6)):=by kernel_rfl
theorem A127o0  (a0 a1:Int) (a2:Ab):Ci a0 a1 a2=((if((!a2.failed)&&(a1 != 0))=true then(some (a2.line.A8,a0,a1,true))else(some (a2.diag.Line,a2.diag.Ai,a2.diag.Code,a2.failed))):Option (P6)):=by kernel_rfl
abbrev lo92o0_1 (a0:List (List UInt8)) (y1:P37) (a1:Ab):(Int)→Option ((Int)⊕((Unit)⊕(Bk))):=(fun(s2:Int)=>((if(decide (s2 < (a0.length:Int)))=true then(if(0≤s2)then(if(s2 < (a0.length:Int))then(if((a0.getD s2.toNat default)==y1.1)=true then(some (.inr (.inr ((s2,a1.line.A8,a1.line.A2,y1.2.1,y1.2.2.1,y1.2.2.2.1,y1.2.2.2.2.1,y1.2.2.2.2.2.1,y1.2.2.2.2.2.2)))))else(some (.inl (IntKind.wrap .i64 (s2+1)))))else none)else none)else(some (.inr (.inl ())))):Option ((Int)⊕((Unit)⊕(Bk)))))
theorem A92o0  (a0:List (List UInt8)) (a1:Ab):Jg a0 a1=((Option.bind (Option.bind (Option.bind (Hf a1) fun r=>some r) fun x1=>(if(!x1.1)=true then(some (.inr (((-1:Int),a1.line.A8,a1.line.A2,x1.2.2.1,x1.2.2.2.1,x1.2.2.2.2.1,x1.2.2.2.2.2.1,x1.2.2.2.2.2.2.1,x1.2.2.2.2.2.2.2))))else(some (.inl (x1.2.1,x1.2.2.1,x1.2.2.2.1,x1.2.2.2.2.1,x1.2.2.2.2.2.1,x1.2.2.2.2.2.2.1,x1.2.2.2.2.2.2.2))))) (Ad fun(y1:P37)=>(Option.bind (Option.bind (some (.inl ())) (Ad fun(_:Unit)=>(Ak (lo92o0_1 a0 y1 a1) (0:Int)))) (Ad fun(_:Unit)=>(Option.bind (Option.bind (Ci y1.2.2.1 (4:Int) (⟨a1.line,y1.2.1,y1.2.2.1,(⟨y1.2.2.2.1,y1.2.2.2.2.1,y1.2.2.2.2.2.1⟩:A5),y1.2.2.2.2.2.2⟩:Ab)) fun r=>some r) fun x10=>(some ((-1:Int),(⟨a1.line,y1.2.1,y1.2.2.1,(⟨y1.2.2.2.1,y1.2.2.2.2.1,y1.2.2.2.2.2.1⟩:A5),y1.2.2.2.2.2.2⟩:Ab).line.A8,(⟨a1.line,y1.2.1,y1.2.2.1,(⟨y1.2.2.2.1,y1.2.2.2.2.1,y1.2.2.2.2.2.1⟩:A5),y1.2.2.2.2.2.2⟩:Ab).line.A2,(⟨a1.line,y1.2.1,y1.2.2.1,(⟨y1.2.2.2.1,y1.2.2.2.2.1,y1.2.2.2.2.2.1⟩:A5),y1.2.2.2.2.2.2⟩:Ab).at_,(⟨a1.line,y1.2.1,y1.2.2.1,(⟨y1.2.2.2.1,y1.2.2.2.2.1,y1.2.2.2.2.2.1⟩:A5),y1.2.2.2.2.2.2⟩:Ab).last,x10.1,x10.2.1,x10.2.2.1,x10.2.2.2))))))):Option (Bk)):=by kernel_rfl
theorem A93o0  (a0 a1:Int) (a2:Ab):Bx a0 a1 a2=((Option.bind (Option.bind (Hf a2) fun r=>some r) fun x1=>(if(!x1.1)=true then(some ((0:Int),a2.line.A8,a2.line.A2,x1.2.2.1,x1.2.2.2.1,x1.2.2.2.2.1,x1.2.2.2.2.2.1,x1.2.2.2.2.2.2.1,x1.2.2.2.2.2.2.2))else(Option.bind (Option.bind (zl x1.2.1 a0 a1) fun r=>some r) fun x4=>(Option.bind (((Ci x1.2.2.2.1 x4.2 (⟨a2.line,x1.2.2.1,x1.2.2.2.1,(⟨x1.2.2.2.2.1,x1.2.2.2.2.2.1,x1.2.2.2.2.2.2.1⟩:A5),x1.2.2.2.2.2.2.2⟩:Ab)).bind fun r5_0=>some (r5_0,x1))) fun(x5:((P6)×(H6)))=>(some (x4.1,(⟨a2.line,x5.2.2.2.1,x5.2.2.2.2.1,(⟨x5.2.2.2.2.2.1,x5.2.2.2.2.2.2.1,x5.2.2.2.2.2.2.2.1⟩:A5),x5.2.2.2.2.2.2.2.2⟩:Ab).line.A8,(⟨a2.line,x5.2.2.2.1,x5.2.2.2.2.1,(⟨x5.2.2.2.2.2.1,x5.2.2.2.2.2.2.1,x5.2.2.2.2.2.2.2.1⟩:A5),x5.2.2.2.2.2.2.2.2⟩:Ab).line.A2,(⟨a2.line,x5.2.2.2.1,x5.2.2.2.2.1,(⟨x5.2.2.2.2.2.1,x5.2.2.2.2.2.2.1,x5.2.2.2.2.2.2.2.1⟩:A5),x5.2.2.2.2.2.2.2.2⟩:Ab).at_,(⟨a2.line,x5.2.2.2.1,x5.2.2.2.2.1,(⟨x5.2.2.2.2.2.1,x5.2.2.2.2.2.2.1,x5.2.2.2.2.2.2.2.1⟩:A5),x5.2.2.2.2.2.2.2.2⟩:Ab).last,x5.1.1,x5.1.2.1,x5.1.2.2.1,x5.1.2.2.2)))))):Option (Bk)):=by kernel_rfl
theorem A95o0  (a0:Ab):Kq a0=((Option.bind (Option.bind (Hf a0) fun r=>some r) fun x1=>(if(!x1.1)=true then(some ((0:Int),a0.line.A8,a0.line.A2,x1.2.2.1,x1.2.2.2.1,x1.2.2.2.2.1,x1.2.2.2.2.2.1,x1.2.2.2.2.2.2.1,x1.2.2.2.2.2.2.2))else(Option.bind (Option.bind (zm x1.2.1) fun r=>some r) fun x4=>(Option.bind (((Ci x1.2.2.2.1 x4.2 (⟨a0.line,x1.2.2.1,x1.2.2.2.1,(⟨x1.2.2.2.2.1,x1.2.2.2.2.2.1,x1.2.2.2.2.2.2.1⟩:A5),x1.2.2.2.2.2.2.2⟩:Ab)).bind fun r5_0=>some (r5_0,x1))) fun(x5:((P6)×(H6)))=>(some (x4.1,(⟨a0.line,x5.2.2.2.1,x5.2.2.2.2.1,(⟨x5.2.2.2.2.2.1,x5.2.2.2.2.2.2.1,x5.2.2.2.2.2.2.2.1⟩:A5),x5.2.2.2.2.2.2.2.2⟩:Ab).line.A8,(⟨a0.line,x5.2.2.2.1,x5.2.2.2.2.1,(⟨x5.2.2.2.2.2.1,x5.2.2.2.2.2.2.1,x5.2.2.2.2.2.2.2.1⟩:A5),x5.2.2.2.2.2.2.2.2⟩:Ab).line.A2,(⟨a0.line,x5.2.2.2.1,x5.2.2.2.2.1,(⟨x5.2.2.2.2.2.1,x5.2.2.2.2.2.2.1,x5.2.2.2.2.2.2.2.1⟩:A5),x5.2.2.2.2.2.2.2.2⟩:Ab).at_,(⟨a0.line,x5.2.2.2.1,x5.2.2.2.2.1,(⟨x5.2.2.2.2.2.1,x5.2.2.2.2.2.2.1,x5.2.2.2.2.2.2.2.1⟩:A5),x5.2.2.2.2.2.2.2.2⟩:Ab).last,x5.1.1,x5.1.2.1,x5.1.2.2.1,x5.1.2.2.2)))))):Option (Bk)):=by kernel_rfl
theorem A94o0  (a0:Int) (a1:Ab):We a0 a1=((Option.bind (Option.bind (Ci a1.last a0 a1) fun r=>some r) fun x0=>(some (x0.1,x0.2.1,x0.2.2.1,x0.2.2.2))):Option (P6)):=by kernel_rfl
theorem A96o0  (a0:Ab):Hu a0=((if a0.failed=true then(some (true,a0.diag.Line,a0.diag.Ai,a0.diag.Code))else(if(decide (a0.at_ < (a0.line.A2.length:Int)))=true then(if(0≤a0.at_)then(if(a0.at_ < (a0.line.A2.length:Int))then(some (true,a0.line.A8,(a0.line.A2.getD a0.at_.toNat default).Ai,(4:Int)))else none)else none)else(some (false,(0:Int),(0:Int),(0:Int))))):Option (Js)):=by kernel_rfl
structure Sc where
 n:Nat
 l:Int
 d:A5
def Sc.fail (N c e:Int) (s:Sc):Sc:=if s.d.Code=0∧e≠0 then { s with d:=⟨N,c,e⟩ } else s
theorem D6 (N c e:Int) (s:Sc):(s.fail N c e).n=s.n:=by unfold Sc.fail;split<;>rfl
theorem Gi (N c e:Int) (s:Sc):(s.fail N c e).l=s.l:=by unfold Sc.fail;split<;>rfl
def endC (F:List Aj):Int:=if 0 < F.length then(F.getD (F.length - 1) default).Ai+((F.getD (F.length - 1) default).Text.length:Int)else 1
def C9 (L:A7) (s:Sc):Option (List UInt8)×Sc :=
 if s.d.Code≠0 then(none,s)else if s.n=L.A2.length then(none,s.fail L.A8 (endC L.A2) 4)else(some (L.A2.getD s.n default).Text,⟨s.n+1,(L.A2.getD s.n default).Ai,s.d⟩)
theorem M9 {L:A7} {s:Sc} (h:s.n≤L.A2.length):(C9 L s).2.n≤L.A2.length:=by
 unfold C9
 split
 ·exact h
 ·split
  ·rw[D6];exact h
  ·show s.n+1≤_;omega
theorem Sm {L:A7} (O:Cv L) {s:Sc} (h:s.n≤L.A2.length) {t:List UInt8} (ht:(C9 L s).1=some t):t.length≤200:=by
 unfold C9 at ht
 split at ht
 ·cases ht
 ·split at ht
  ·cases ht
  ·injection ht with ht
   subst ht
   exact(O.fld _ (Ay (by omega))).2.2
def C8 (s:Sc):P2:=((s.n:Int),s.l,s.d.Line,s.d.Ai,s.d.Code)
def C7 (s:Sc):Int×Int×P6:=((s.n:Int),s.l,s.d.Line,s.d.Ai,s.d.Code,s.d.Code != 0)
def rS (L:A7) (s:Sc):Ab:=⟨L,(s.n:Int),s.l,s.d,s.d.Code != 0⟩
theorem Nh (c e N:Int) (F:List Aj) (a b:Int) (s:Sc):D8 c e N F a b s.d=some ((s.fail N c e).d.Line,(s.fail N c e).d.Ai,(s.fail N c e).d.Code):=by
 rw[A122o0,Yu]
 simp only[bs,Bool.false_or]
 unfold Sc.fail
 by_cases h:s.d.Code=0∧e≠0
 ·rw[if_pos (by simp[h.1,h.2]),if_pos h]
 ·rw[if_neg (by simpa using fun a b=>h ⟨a,b⟩),if_neg h]
theorem Lp (c e:Int) (L:A7) (s:Sc):Ci c e (rS L s)=some ((s.fail L.A8 c e).d.Line,(s.fail L.A8 c e).d.Ai,(s.fail L.A8 c e).d.Code,(s.fail L.A8 c e).d.Code != 0):=by
 rw[A127o0]
 unfold Sc.fail rS
 by_cases h:s.d.Code=0∧e≠0
 ·rw[if_pos (by simp[h.1,h.2]),if_pos h]
  show some (L.A8,c,e,true)=some (L.A8,c,e,e != 0)
  rw[show (e != 0)=true from by simpa using h.2]
 ·rw[if_neg (by simpa using fun a b=>h ⟨a,b⟩),if_neg h]
theorem mb {L:A7} (O:Cv L):IntKind.wrap .i64 ((L.A2.length:Int) - (1:Int))=((L.A2.length - 1:Nat):Int)∧IntKind.wrap .i64 ((L.A2.getD (L.A2.length - 1) default).Ai+((L.A2.getD (L.A2.length - 1) default).Text.length:Int))=endC L.A2:=by
 have h1:=O.ne
 have h2:=O.len
 have hf:=O.fld _ (Ay (l:=L.A2) (i:=L.A2.length - 1) (by omega))
 refine⟨by rw[B2 (by omega) (by omega)];omega,?_⟩
 unfold endC
 rw[if_pos h1,B2 (by omega) (by omega)]
theorem Wn {L:A7} (O:Cv L) {s:Sc} (h:s.n≤L.A2.length):He L.A8 L.A2 (s.n:Int) s.l s.d=some ((C9 L s).1.isSome,(C9 L s).1.getD [],C8 (C9 L s).2):=by
 have h1:=O.ne
 have h2:=O.len
 obtain⟨e1,e2⟩:=mb O
 rw[A121o0,Yu]
 simp only[bs,Bool.false_or]
 unfold C9
 by_cases hc:s.d.Code=0
 ·rw[show (s.d.Code != 0)=false from by simp[hc],if_neg (show ¬ (s.d.Code≠0) from fun h=>h hc)]
  simp only[Bool.false_eq_true,if_false]
  by_cases hn:s.n=L.A2.length
  ·rw[if_pos (show ((s.n:Int)==(L.A2.length:Int))=true from by simp[hn]),if_pos hn,if_pos (show decide ((0:Int) < (L.A2.length:Int))=true from decide_eq_true (by omega)),e1,if_pos (by omega),if_pos (by omega),Int.toNat_natCast,e2,Nh]
   simp only[bs,Option.isSome_none,Option.getD_none,C8,D6,Gi]
  ·rw[if_neg (show ¬ ((s.n:Int)==(L.A2.length:Int))=true from by simp;omega),if_neg hn,if_pos (by omega),if_pos (by omega),Int.toNat_natCast,wn (by omega)]
   rfl
 ·rw[show (s.d.Code != 0)=true from by simp[hc],if_pos (rfl:true=true),if_pos (show s.d.Code≠0 from hc)]
  rfl
theorem Si {L:A7} (O:Cv L) {s:Sc} (h:s.n≤L.A2.length):Hf (rS L s)=some ((C9 L s).1.isSome,(C9 L s).1.getD [],C7 (C9 L s).2):=by
 have h1:=O.ne
 have h2:=O.len
 obtain⟨e1,e2⟩:=mb O
 rw[A126o0]
 unfold C9
 show (if(s.d.Code != 0)=true then _ else _)=_
 by_cases hc:s.d.Code=0
 ·rw[show (s.d.Code != 0)=false from by simp[hc],if_neg (show ¬ (s.d.Code≠0) from fun h=>h hc)]
  simp only[Bool.false_eq_true,if_false]
  show (if(decide ((L.A2.length:Int)≤(s.n:Int)))=true then _ else _)=_
  by_cases hn:s.n=L.A2.length
  ·rw[if_pos (decide_eq_true (by omega)),if_pos hn]
   show (if(decide ((0:Int) < (L.A2.length:Int)))=true then(if(0≤(IntKind.wrap .i64 ((L.A2.length:Int) - (1:Int))))then(if((IntKind.wrap .i64 ((L.A2.length:Int) - (1:Int))) < (L.A2.length:Int))then(Option.bind (Option.bind (Ci (IntKind.wrap .i64 ((L.A2.getD (IntKind.wrap .i64 ((L.A2.length:Int) - (1:Int))).toNat default).Ai+((L.A2.getD (IntKind.wrap .i64 ((L.A2.length:Int) - (1:Int))).toNat default).Text.length:Int))) (4:Int) (rS L s)) fun r=>some r) fun x9=>(some (false,([]:List UInt8),(rS L s).at_,(rS L s).last,x9.1,x9.2.1,x9.2.2.1,x9.2.2.2)))else none)else none)else _)=_
   rw[if_pos (decide_eq_true (by omega)),e1,if_pos (by omega),if_pos (by omega),Int.toNat_natCast,e2,Lp]
   simp only[bs,Option.isSome_none,Option.getD_none,C7,D6,Gi]
   rfl
  ·rw[if_neg (show ¬ decide ((L.A2.length:Int)≤(s.n:Int))=true from by simp;omega),if_neg hn]
   show (if(0≤(s.n:Int))then(if((s.n:Int) < (L.A2.length:Int))then(some (true,(L.A2.getD (s.n:Int).toNat default).Text,(IntKind.wrap .i64 ((s.n:Int)+1)),(L.A2.getD (s.n:Int).toNat default).Ai,s.d.Line,s.d.Ai,s.d.Code,_))else none)else none)=_
   rw[if_pos (by omega),if_pos (by omega),Int.toNat_natCast,wn (by omega)]
   rfl
 ·rw[show (s.d.Code != 0)=true from by simp[hc],if_pos (rfl:true=true),if_pos (show s.d.Code≠0 from hc)]
  show some (false,([]:List UInt8),(s.n:Int),s.l,s.d.Line,s.d.Ai,s.d.Code,(s.d.Code != 0))=_
  rfl
def C4 (w:List UInt8) (L:A7) (s:Sc):Sc:=match (C9 L s).1 with
 | none=>(C9 L s).2
 | some t=>if w=t then(C9 L s).2 else(C9 L s).2.fail L.A8 (C9 L s).2.l 4
def Lj (lo hi:Int) (L:A7) (s:Sc):Int×Sc:=match (C9 L s).1 with
 | none=>(0,(C9 L s).2)
 | some t=>((pn t lo hi).1,(C9 L s).2.fail L.A8 (C9 L s).2.l (pn t lo hi).2)
def Jl (L:A7) (s:Sc):Int×Sc:=match (C9 L s).1 with
 | none=>(0,(C9 L s).2)
 | some t=>((pa t).1,(C9 L s).2.fail L.A8 (C9 L s).2.l (pa t).2)
def C5 (L:A7) (s:Sc):Bool×A5:=if s.d.Code≠0 then(true,s.d)else if s.n < L.A2.length then(true,⟨L.A8,(L.A2.getD s.n default).Ai,4⟩)else(false,⟨0,0,0⟩)
theorem Ra {w:List UInt8} {L:A7} {s:Sc} (h:s.n≤L.A2.length):(C4 w L s).n≤L.A2.length:=by
 unfold C4;split;(· exact M9 h);split;(· exact M9 h);rw[D6];exact M9 h
theorem Hi {lo hi:Int} {L:A7} {s:Sc} (h:s.n≤L.A2.length):(Lj lo hi L s).2.n≤L.A2.length:=by
 unfold Lj;split;(· exact M9 h);show (Sc.fail _ _ _ _).n≤_;rw[D6];exact M9 h
theorem altS_n {L:A7} {s:Sc} (h:s.n≤L.A2.length):(Jl L s).2.n≤L.A2.length:=by
 unfold Jl;split;(· exact M9 h);show (Sc.fail _ _ _ _).n≤_;rw[D6];exact M9 h
theorem tu {X:Type} {b:Int→Option (Int⊕(Unit⊕X))} {w t:List UInt8} {x:X} (h0:b 0=if(w==t)=true then some (.inr (.inr x))else some (.inl 1)) (h1:b 1=some (.inr (.inl ()))):Ak b 0=some (if w=t then .inr x else .inl ()):=by
 by_cases h:w=t
 ·rw[if_pos h];exact Bh (by rw[h0,if_pos (by simpa using h)])
 ·rw[if_neg h];exact Bm (s':=1) (by rw[h0,if_neg (by simpa using h)]) (Bh h1)
theorem word_eq {w:List UInt8} {L:A7} (O:Cv L) {s:Sc} (h:s.n≤L.A2.length):∃ v,Pd [w] L.A8 L.A2 (s.n:Int) s.l s.d=some (v,C8 (C4 w L s)):=by
 rw[A84o0,Wn O h]
 simp only[bs]
 unfold C4
 cases hk:(C9 L s).1 with
 | none=>exact⟨_,rfl⟩
 | some t =>
  simp only[Option.isSome_some,Bool.not_true,Bool.false_eq_true,if_false,bs,ol,Option.getD_some]
  generalize (C9 L s).2=q
  rw[tu (w:=w) (t:=t) (x:=((0:Int),C8 q)) rfl rfl]
  by_cases hw:w=t
  ·rw[if_pos hw,if_pos hw];exact⟨_,rfl⟩
  ·rw[if_neg hw,if_neg hw]
   simp only[bs,ol]
   have:=Nh q.l 4 L.A8 L.A2 (q.n:Int) q.l q
   refine⟨-1,?_⟩
   show (Option.bind (Option.bind (D8 q.l (4:Int) L.A8 L.A2 (q.n:Int) q.l q.d) fun r=>some r) fun x10=>(some ((-1:Int),(q.n:Int),q.l,x10.1,x10.2.1,x10.2.2)))=_
   rw[this]
   simp only[bs,C8,D6,Gi]
theorem Yj {w:List UInt8} {L:A7} (O:Cv L) {s:Sc} (h:s.n≤L.A2.length):∃ v,Jg [w] (rS L s)=some (v,L.A8,L.A2,C7 (C4 w L s)):=by
 rw[A92o0,Si O h]
 simp only[bs]
 unfold C4
 cases hk:(C9 L s).1 with
 | none=>exact⟨_,rfl⟩
 | some t =>
  simp only[Option.isSome_some,Bool.not_true,Bool.false_eq_true,if_false,bs,ol,Option.getD_some]
  generalize (C9 L s).2=q
  rw[tu (w:=w) (t:=t) (x:=((0:Int),L.A8,L.A2,C7 q)) rfl rfl]
  by_cases hw:w=t
  ·rw[if_pos hw,if_pos hw];exact⟨_,rfl⟩
  ·rw[if_neg hw,if_neg hw]
   simp only[bs,ol]
   refine⟨-1,?_⟩
   show (Option.bind (Option.bind (Ci q.l (4:Int) (rS L q)) fun r=>some r) fun x10=>(some ((-1:Int),L.A8,L.A2,(q.n:Int),q.l,x10.1,x10.2.1,x10.2.2.1,x10.2.2.2)))=_
   rw[Lp]
   simp only[bs,C7,D6,Gi]
theorem pn_err (t:List UInt8) (lo hi:Int):(pn t lo hi).2≠0→(pn t lo hi).1=0:=by
 unfold pn
 split
 ·intro _;rfl
 ·split
  ·intro h;exact absurd rfl h
  ·intro _;rfl
theorem pa_err (t:List UInt8):(pa t).2≠0→(pa t).1=0:=by
 unfold pa
 split
 ·intro _;rfl
 ·split
  ·intro _;rfl
  ·intro h;exact absurd rfl h
theorem Zj (N c:Int) (s:Sc):s.fail N c 0=s:=by unfold Sc.fail;rw[if_neg (fun h=>h.2 rfl)]
theorem nu {lo hi:Int} (b1 : -9223372036854775808≤lo) (b2:hi≤9223372036854775807) {L:A7} (O:Cv L) {s:Sc} (h:s.n≤L.A2.length):bv lo hi L.A8 L.A2 (s.n:Int) s.l s.d=some ((Lj lo hi L s).1,C8 (Lj lo hi L s).2):=by
 rw[A85o1,A113o1,Wn O h]
 simp only[bs]
 unfold Lj
 cases hk:(C9 L s).1 with
 | none=>rfl
 | some t =>
  simp only[Option.isSome_some,Bool.not_true,Bool.false_eq_true,if_false,bs,ol,Option.getD_some]
  rw[A123o0,pn_p t (by have:=Sm O h hk;omega) lo hi b1 b2]
  simp only[bs]
  generalize (C9 L s).2=q
  by_cases he:(pn t lo hi).2=0
  ·rw[he,Zj];rfl
  ·rw[if_pos (show ((pn t lo hi).2 != 0)=true from by simpa using he),pn_err t lo hi he]
   have:=Nh q.l (pn t lo hi).2 L.A8 L.A2 (q.n:Int) q.l q
   simp only[C8]
   rw[this]
   simp only[bs,D6,Gi]
theorem Hx {lo hi:Int} (b1 : -9223372036854775808≤lo) (b2:hi≤9223372036854775807) {L:A7} (O:Cv L) {s:Sc} (h:s.n≤L.A2.length):Bx lo hi (rS L s)=some ((Lj lo hi L s).1,L.A8,L.A2,C7 (Lj lo hi L s).2):=by
 rw[A93o0,Si O h]
 simp only[bs]
 unfold Lj
 cases hk:(C9 L s).1 with
 | none=>rfl
 | some t =>
  simp only[Option.isSome_some,Bool.not_true,Bool.false_eq_true,if_false,bs,ol,Option.getD_some]
  rw[pn_r t (by have:=Sm O h hk;omega) lo hi b1 b2]
  simp only[bs]
  generalize (C9 L s).2=q
  have:=Lp q.l (pn t lo hi).2 L q
  unfold rS at this
  simp only[C7]
  show (Option.bind ((Ci q.l (pn t lo hi).2 (⟨L,(q.n:Int),q.l,q.d,q.d.Code != 0⟩:Ab)).bind _) _)=_
  rw[this]
  simp only[bs,D6,Gi]
  rfl
theorem alt_eq {L:A7} (O:Cv L) {s:Sc} (h:s.n≤L.A2.length):Ko L.A8 L.A2 (s.n:Int) s.l s.d=some ((Jl L s).1,C8 (Jl L s).2):=by
 rw[A48o1,A113o3,Wn O h]
 simp only[bs]
 unfold Jl
 cases hk:(C9 L s).1 with
 | none=>rfl
 | some t =>
  simp only[Option.isSome_some,Bool.not_true,Bool.false_eq_true,if_false,bs,ol,Option.getD_some]
  rw[pa_p t (by have:=Sm O h hk;omega)]
  simp only[bs]
  generalize (C9 L s).2=q
  by_cases he:(pa t).2=0
  ·rw[he,Zj];rfl
  ·rw[if_pos (show ((pa t).2 != 0)=true from by simpa using he),pa_err t he]
   have:=Nh q.l (pa t).2 L.A8 L.A2 (q.n:Int) q.l q
   simp only[C8]
   rw[this]
   simp only[bs,D6,Gi]
theorem vz {L:A7} (O:Cv L) {s:Sc} (h:s.n≤L.A2.length):Kq (rS L s)=some ((Jl L s).1,L.A8,L.A2,C7 (Jl L s).2):=by
 rw[A95o0,Si O h]
 simp only[bs]
 unfold Jl
 cases hk:(C9 L s).1 with
 | none=>rfl
 | some t =>
  simp only[Option.isSome_some,Bool.not_true,Bool.false_eq_true,if_false,bs,ol,Option.getD_some]
  rw[pa_r t (by have:=Sm O h hk;omega)]
  simp only[bs]
  generalize (C9 L s).2=q
  have:=Lp q.l (pa t).2 L q
  unfold rS at this
  simp only[C7]
  show (Option.bind ((Ci q.l (pa t).2 (⟨L,(q.n:Int),q.l,q.d,q.d.Code != 0⟩:Ab)).bind _) _)=_
  rw[this]
  simp only[bs,D6,Gi]
  rfl
theorem end_eq {L:A7} {s:Sc} (h:s.n≤L.A2.length):bw L.A8 L.A2 (s.n:Int) s.l s.d=some ((C5 L s).1,(C5 L s).2.Line,(C5 L s).2.Ai,(C5 L s).2.Code):=by
 rw[A86o0,Yu]
 rw[if_neg (by decide)]
 simp only[bs,Bool.false_or]
 unfold C5
 by_cases hc:s.d.Code=0
 ·rw[if_neg (show ¬ (s.d.Code != 0)=true from by simp[hc]),if_neg (show ¬ (s.d.Code≠0) from fun h=>h hc)]
  by_cases hn:s.n < L.A2.length
  ·rw[if_pos (decide_eq_true (show (s.n:Int) < (L.A2.length:Int) from by omega)),if_pos hn,if_pos (by omega),if_pos (by omega),Int.toNat_natCast]
  ·rw[if_neg (by simp;omega),if_neg hn]
 ·rw[if_pos (show (s.d.Code != 0)=true from by simp[hc]),if_pos (show s.d.Code≠0 from hc)]
theorem fb {L:A7} {s:Sc} (h:s.n≤L.A2.length):Hu (rS L s)=some ((C5 L s).1,(C5 L s).2.Line,(C5 L s).2.Ai,(C5 L s).2.Code):=by
 rw[A96o0]
 unfold C5 rS
 by_cases hc:s.d.Code=0
 ·rw[if_neg (show ¬ (s.d.Code != 0)=true from by simp[hc]),if_neg (show ¬ (s.d.Code≠0) from fun h=>h hc)]
  by_cases hn:s.n < L.A2.length
  ·rw[if_pos (decide_eq_true (show (s.n:Int) < (L.A2.length:Int) from by omega)),if_pos hn,if_pos (show (0:Int)≤(s.n:Int) from by omega),if_pos (show (s.n:Int) < (L.A2.length:Int) from by omega),Int.toNat_natCast]
  ·rw[if_neg (by simp;omega),if_neg hn]
 ·rw[if_pos (show (s.d.Code != 0)=true from by simp[hc]),if_pos (show s.d.Code≠0 from hc)]
theorem Fail_eq (e:Int) {L:A7} {s:Sc}:bz e L.A8 L.A2 (s.n:Int) s.l s.d=some ((s.fail L.A8 s.l e).d.Line,(s.fail L.A8 s.l e).d.Ai,(s.fail L.A8 s.l e).d.Code):=by
 rw[A87o1,if_pos (rfl:true=true),Nh]
 rfl
theorem rFail_eq (e:Int) {L:A7} {s:Sc}:We e (rS L s)=some ((s.fail L.A8 s.l e).d.Line,(s.fail L.A8 s.l e).d.Ai,(s.fail L.A8 s.l e).d.Code,(s.fail L.A8 s.l e).d.Code != 0):=by
 rw[A94o0,show (rS L s).last=s.l from rfl,Lp]
 rfl
end Go.Av.Txs
set_option maxRecDepth 100000
namespace Go.Av.Txs
open Go.Av
theorem A25  (a0:Int):m25 a0=((if((decide (a0 < (-200000:Int))) || (decide (6000000 < a0)))=true then(some (([]:List UInt8),(2:Int)))else(if(decide (a0 < 0))=true then(Option.bind ((if(100:Int)≠0 then((Gk (IntKind.wrap .i64 (Int.tdiv (IntKind.wrap .i64 (0 - a0)) (100:Int))) (10:Int)).bind fun r6_0=>(if([45]:List UInt8).length+r6_0.length≤9223372036854775807 then some r6_0 else none))else none)) fun(x6:((List UInt8)))=>(if((100:Int)≠0)then(if((Int.tmod (IntKind.wrap .i64 (0 - a0)) (100:Int)) != 0)=true then(Option.bind ((if(10:Int)≠0 then((Gk (IntKind.wrap .i64 (Int.tdiv (Int.tmod (IntKind.wrap .i64 (0 - a0)) (100:Int)) (10:Int))) (10:Int)).bind fun r9_0=>(if([46]:List UInt8).length+r9_0.length≤9223372036854775807 then(if(10:Int)≠0 then((Gk (Int.tmod (Int.tmod (IntKind.wrap .i64 (0 - a0)) (100:Int)) (10:Int)) (10:Int)).bind fun r9_1=>(if(([46]:List UInt8)++r9_0).length+r9_1.length≤9223372036854775807 then(if(([45]:List UInt8)++x6).length+((([46]:List UInt8)++r9_0)++r9_1).length≤9223372036854775807 then some (r9_0,r9_1)else none)else none))else none)else none))else none)) fun(x9:(L2))=>(some (((([45]:List UInt8)++x6)++((([46]:List UInt8)++x9.1)++x9.2)),(0:Int))))else(some ((([45]:List UInt8)++x6),(0:Int))))else none))else(Option.bind ((if(100:Int)≠0 then((Gk (IntKind.wrap .i64 (Int.tdiv a0 (100:Int))) (10:Int)).bind fun r6_0=>(if([]:List UInt8).length+r6_0.length≤9223372036854775807 then some r6_0 else none))else none)) fun(x6:((List UInt8)))=>(if((100:Int)≠0)then(if((Int.tmod a0 (100:Int)) != 0)=true then(Option.bind ((if(10:Int)≠0 then((Gk (IntKind.wrap .i64 (Int.tdiv (Int.tmod a0 (100:Int)) (10:Int))) (10:Int)).bind fun r9_0=>(if([46]:List UInt8).length+r9_0.length≤9223372036854775807 then(if(10:Int)≠0 then((Gk (Int.tmod (Int.tmod a0 (100:Int)) (10:Int)) (10:Int)).bind fun r9_1=>(if(([46]:List UInt8)++r9_0).length+r9_1.length≤9223372036854775807 then(if(([]:List UInt8)++x6).length+((([46]:List UInt8)++r9_0)++r9_1).length≤9223372036854775807 then some (r9_0,r9_1)else none)else none))else none)else none))else none)) fun(x9:(L2))=>(some (((([]:List UInt8)++x6)++((([46]:List UInt8)++x9.1)++x9.2)),(0:Int))))else(some ((([]:List UInt8)++x6),(0:Int))))else none)))):Option (Dr)):=by kernel_rfl
theorem A29  (a0:Int):m29 a0=((if((decide (a0 < (-200000:Int))) || (decide (6000000 < a0)))=true then(some (([]:List UInt8),(2:Int)))else(if(decide (a0 < 0))=true then(Option.bind ((if(100:Int)≠0 then((Mi (IntKind.wrap .i64 (Int.tdiv (IntKind.wrap .i64 (0 - a0)) (100:Int)))).bind fun r7_0=>(if([45]:List UInt8).length+r7_0.length≤9223372036854775807 then some r7_0 else none))else none)) fun(x7:((List UInt8)))=>(if((100:Int)≠0)then(if((Int.tmod (IntKind.wrap .i64 (0 - a0)) (100:Int)) != 0)=true then(Option.bind ((if(([45]:List UInt8)++x7).length+([46]:List UInt8).length≤9223372036854775807 then(if(100:Int)≠0 then(if(10:Int)≠0 then((Mi (IntKind.wrap .i64 (Int.tdiv (Int.tmod (IntKind.wrap .i64 (0 - a0)) (100:Int)) (10:Int)))).bind fun r9_0=>(if((([45]:List UInt8)++x7)++([46]:List UInt8)).length+r9_0.length≤9223372036854775807 then(if(10:Int)≠0 then((Mi (Int.tmod (IntKind.wrap .i64 (0 - a0)) (10:Int))).bind fun r9_1=>(if(((([45]:List UInt8)++x7)++([46]:List UInt8))++r9_0).length+r9_1.length≤9223372036854775807 then some (r9_0,r9_1)else none))else none)else none))else none)else none)else none)) fun(x9:(L2))=>(some (((((([45]:List UInt8)++x7)++([46]:List UInt8))++x9.1)++x9.2),(0:Int))))else(some ((([45]:List UInt8)++x7),(0:Int))))else none))else(Option.bind ((if(100:Int)≠0 then((Mi (IntKind.wrap .i64 (Int.tdiv a0 (100:Int)))).bind fun r7_0=>(if([]:List UInt8).length+r7_0.length≤9223372036854775807 then some r7_0 else none))else none)) fun(x7:((List UInt8)))=>(if((100:Int)≠0)then(if((Int.tmod a0 (100:Int)) != 0)=true then(Option.bind ((if(([]:List UInt8)++x7).length+([46]:List UInt8).length≤9223372036854775807 then(if(100:Int)≠0 then(if(10:Int)≠0 then((Mi (IntKind.wrap .i64 (Int.tdiv (Int.tmod a0 (100:Int)) (10:Int)))).bind fun r9_0=>(if((([]:List UInt8)++x7)++([46]:List UInt8)).length+r9_0.length≤9223372036854775807 then(if(10:Int)≠0 then((Mi (Int.tmod a0 (10:Int))).bind fun r9_1=>(if(((([]:List UInt8)++x7)++([46]:List UInt8))++r9_0).length+r9_1.length≤9223372036854775807 then some (r9_0,r9_1)else none))else none)else none))else none)else none)else none)) fun(x9:(L2))=>(some (((((([]:List UInt8)++x7)++([46]:List UInt8))++x9.1)++x9.2),(0:Int))))else(some ((([]:List UInt8)++x7),(0:Int))))else none)))):Option (Dr)):=by kernel_rfl
theorem Nq {n:Nat} (h:¬ n < 10):Lib.decDigits n=Lib.decDigits (n / 10)++Lib.decDigits (n % 10):=by
 rw[Lib.decDigits,dif_neg h,Lib.decDigits_one (i:=n % 10) (by omega)]
theorem enc_all:(List.range 10).all (fun m=>(Utf8.encode (48+(m:Int))).data==#[UInt8.ofNat (48+m)])=true:=by kernel_rfl
theorem enc_one {m:Nat} (h:m < 10):(Utf8.encode (48+(m:Int))).data.toList=Lib.decDigits m:=by
 have:=enc_all
 simp only[List.all_eq_true]at this
 have h2:=this m (List.mem_range.2 h)
 rw[Lib.decDigits_one h,eq_of_beq h2]
theorem Jo (n:Nat):Lib.itoa (n:Int)=Lib.decDigits n:=by unfold Lib.itoa;rw[if_neg (by omega)];simp
theorem Xy (n:Nat) (h:0 < n):Lib.itoa (-(n:Int))=45 :: Lib.decDigits n:=by unfold Lib.itoa;rw[if_pos (by omega)];simp
theorem Da {n:Nat} (h:n≤9223372036854775807):(Lib.decDigits n).length≤21:=by rw[← Jo];exact Lib.itoa_length_le _ (by omega) (by omega)
theorem digits_s (f:Nat) (n:Int):(Xa (f+1)).1 n=(if(decide (n < 10))=true then some (Utf8.encode (IntKind.wrap .i32 ((IntKind.wrap .i64 ((48:Int)+n))))).data.toList else Option.bind (if(10:Int)≠0 then(((Xa f).1 (IntKind.wrap .i64 (Int.tdiv n (10:Int)))).bind fun r3_0=>(if(10:Int)≠0 then(((Xa f).1 (Int.tmod n (10:Int))).bind fun r3_1=>(if r3_0.length+r3_1.length≤9223372036854775807 then some (r3_0,r3_1)else none))else none))else none) fun x3=>some (x3.1++x3.2)):=by kernel_rfl
theorem Xt : ∀ (f n : Nat), n < 10 ^ (f + 1) → n ≤ 1000000000000000 → (Xa (f + 1)).1 (n : Int) = some (Lib.decDigits n)
  | f, n, hn, hb => by
    rw [digits_s]
    by_cases h : n < 10
    · rw [if_pos (decide_eq_true (by omega)), B2 (by omega) (by omega), show IntKind.wrap .i32 (48 + (n : Int)) = 48 + (n : Int) from IntWalk.i32_in _ (by omega), enc_one h]
    · rw [if_neg (by simp; omega)]
      have e1 : Int.tdiv (n : Int) 10 = ((n / 10 : Nat) : Int) := rfl
      have e2 : Int.tmod (n : Int) 10 = ((n % 10 : Nat) : Int) := rfl
      cases f with
      | zero => simp at hn; omega
      | succ f =>
        rw [e1, e2, B2 (by omega) (by omega), if_pos (by decide), Xt f (n / 10) (by rw [Nat.pow_succ] at hn; omega) (by omega)]
        simp only [bs]
        rw [if_pos (by decide), Xt f (n % 10) (by have : 10 ^ 1 ≤ 10 ^ (f + 1) := Nat.pow_le_pow_right (by decide) (by omega)
                                                  omega) (by omega)]
        simp only [bs]
        rw [if_pos (by have := Da (n := n / 10) (by omega); have := Da (n := n % 10) (by omega); omega)]
        simp only [bs]
        rw [← Nq h]
theorem Uc {n:Nat} (h:n≤1000000000000000):Mi (n:Int)=some (Lib.decDigits n) :=
 Xt 63 n (Nat.lt_of_le_of_lt h (by decide)) h
theorem gx (f:Nat) (n:Int):(Uj (f+1)).1 n=(if(decide (n < 0))=true then Option.bind (((Uj f).1 (IntKind.wrap .i64 (0 - n))).bind fun r2_0=>(if([45]:List UInt8).length+r2_0.length≤9223372036854775807 then some r2_0 else none)) fun x2=>some (([45]:List UInt8)++x2)
  else(if(decide (n < 10))=true then(if 0 < 1 then(if Rl 1 (As [(.int .u8 (IntKind.wrap .u8 ((IntKind.wrap .i64 ((48:Int)+n)))))])=true then some (Ey 1 (As [(.int .u8 (IntKind.wrap .u8 ((IntKind.wrap .i64 ((48:Int)+n)))))]))else none)else none)
  else Option.bind (if(10:Int)≠0 then(((Uj f).1 (IntKind.wrap .i64 (Int.tdiv n (10:Int)))).bind fun r5_0=>(if(10:Int)≠0 then(if 0 < 1 then(if Rl 1 (As [(.int .u8 (IntKind.wrap .u8 ((IntKind.wrap .i64 ((48:Int)+(Int.tmod n (10:Int)))))))])=true then(if r5_0.length+(Ey 1 (As [(.int .u8 (IntKind.wrap .u8 ((IntKind.wrap .i64 ((48:Int)+(Int.tmod n (10:Int)))))))])).length≤9223372036854775807 then some r5_0 else none)else none)else none)else none))else none) fun x5=>some (x5++(Ey 1 (As [(.int .u8 (IntKind.wrap .u8 ((IntKind.wrap .i64 ((48:Int)+(Int.tmod n (10:Int)))))))]))))):=by kernel_rfl
theorem m5 {m:Nat} (h:m < 10):Ey 1 (As [(.int .u8 (IntKind.wrap .u8 ((IntKind.wrap .i64 ((48:Int)+(m:Int))))))])=Lib.decDigits m:=by
 rw[Lib.decDigits_one h,B2 (by omega) (by omega),show IntKind.wrap .u8 (48+(m:Int))=((48+m:Nat):Int) from by rw[show IntKind.wrap .u8 (48+(m:Int))=48+(m:Int) from IntWalk.u8_in _ (by omega)];omega]
 rfl
theorem tj {z:Int}:Rl 1 (As [(.int .u8 z)])=true:=rfl
theorem Ub:∀ (f n:Nat),n < 10 ^ (f+1)→n≤1000000000000000→(Uj (f+1)).1 (n:Int)=some (Lib.decDigits n)
 | f,n,hn,hb=>by
  rw[gx,if_neg (show ¬ decide ((n:Int) < 0)=true from by simp)]
  by_cases h:n < 10
  ·rw[if_pos (decide_eq_true (by omega)),if_pos (by decide),if_pos tj,m5 h]
  ·rw[if_neg (by simp;omega)]
   have e1:Int.tdiv (n:Int) 10=((n / 10:Nat):Int):=rfl
   have e2:Int.tmod (n:Int) 10=((n % 10:Nat):Int):=rfl
   cases f with
   | zero=>simp at hn;omega
   | succ f =>
    rw[e1,e2,show IntKind.wrap .i64 ((n / 10:Nat):Int)=((n / 10:Nat):Int) from B2 (by omega) (by omega),if_pos (by decide),Ub f (n / 10) (by rw[Nat.pow_succ]at hn;omega) (by omega)]
    simp only[bs]
    rw[if_pos (by decide),if_pos (by decide),if_pos tj,m5 (m:=n % 10) (by omega)]
    rw[if_pos (by have:=Da (n:=n / 10) (by omega);have:=Da (n:=n % 10) (by omega);omega)]
    simp only[bs]
    rw[← Nq h]
theorem Ki {z:Int} (h1 : -1000000000000000≤z) (h2:z≤1000000000000000):U0 z=some (Lib.itoa z):=by
 show (Uj (63+1)).1 z=_
 by_cases h:z < 0
 ·obtain⟨n,hn⟩:=Int.eq_ofNat_of_zero_le (by omega:0 ≤ -z)
  obtain rfl:z = -(n:Int):=by omega
  rw[gx,if_pos (decide_eq_true (by omega)),show IntKind.wrap .i64 (0 - -(n:Int))=(n:Int) from by rw[B2 (by omega) (by omega)];omega]
  rw[show (63:Nat)=62+1 from rfl,Ub 62 n (Nat.lt_of_le_of_lt (by omega:n≤1000000000000000) (by decide)) (by omega)]
  simp only[bs]
  rw[if_pos (by have:=Da (n:=n) (by omega);simp;omega),Xy n (by omega)]
  rfl
 ·obtain⟨n,rfl⟩:=Int.eq_ofNat_of_zero_le (by omega:0≤z)
  rw[Ub 63 n (Nat.lt_of_le_of_lt (by omega:n≤1000000000000000) (by decide)) (by omega),Jo]
theorem Ue {z:Int} (h1 : -9223372036854775808≤z) (h2:z≤9223372036854775807):Gk z 10=some (Lib.itoa z):=if_pos ⟨⟨h1,h2⟩,rfl⟩
def Hb (n:Nat):List UInt8:=if n % 100=0 then[]else[46]++Lib.decDigits (n % 100 / 10)++Lib.decDigits (n % 10)
def Cm (z:Int):List UInt8:=(if z < 0 then[45]else[])++Lib.decDigits (z.natAbs / 100)++Hb z.natAbs
theorem Nn {z:Int} (h1 : -200000≤z) (h2:z≤6000000):(Cm z).length≤100:=by
 unfold Cm Hb
 have a:=Da (n:=z.natAbs / 100) (by omega)
 have b:=Da (n:=z.natAbs % 100 / 10) (by omega)
 have c:=Da (n:=z.natAbs % 10) (by omega)
 split<;>split<;>simp<;>omega
theorem gc {z:Int} (h1 : -200000≤z) (h2:z≤6000000):m25 z=some (Cm z,0):=by
 rw[A25,if_neg (by simp;omega)]
 have key:∀ (n:Nat) (s:List UInt8),n≤6000000→s.length≤1 →
   (Option.bind ((if(100:Int)≠0 then((Gk (IntKind.wrap .i64 (Int.tdiv (n:Int) (100:Int))) (10:Int)).bind fun r6_0=>(if s.length+r6_0.length≤9223372036854775807 then some r6_0 else none))else none)) fun(x6:((List UInt8)))=>(if((100:Int)≠0)then(if((Int.tmod (n:Int) (100:Int)) != 0)=true then(Option.bind ((if(10:Int)≠0 then((Gk (IntKind.wrap .i64 (Int.tdiv (Int.tmod (n:Int) (100:Int)) (10:Int))) (10:Int)).bind fun r9_0=>(if([46]:List UInt8).length+r9_0.length≤9223372036854775807 then(if(10:Int)≠0 then((Gk (Int.tmod (Int.tmod (n:Int) (100:Int)) (10:Int)) (10:Int)).bind fun r9_1=>(if(([46]:List UInt8)++r9_0).length+r9_1.length≤9223372036854775807 then(if(s++x6).length+((([46]:List UInt8)++r9_0)++r9_1).length≤9223372036854775807 then some (r9_0,r9_1)else none)else none))else none)else none))else none)) fun(x9:(L2))=>(some (((s++x6)++((([46]:List UInt8)++x9.1)++x9.2)),(0:Int))))else(some ((s++x6),(0:Int))))else none):Option (List UInt8×Int))=some (s++Lib.decDigits (n / 100)++Hb n,0):=fun n s hn hs=>by
  have a:=Da (n:=n / 100) (by omega)
  have b:=Da (n:=n % 100 / 10) (by omega)
  have c:=Da (n:=n % 10) (by omega)
  have e1:Int.tdiv (n:Int) 100=((n / 100:Nat):Int):=rfl
  have e2:Int.tmod (n:Int) 100=((n % 100:Nat):Int):=rfl
  have e3:Int.tdiv ((n % 100:Nat):Int) 10=((n % 100 / 10:Nat):Int):=rfl
  have e4:Int.tmod ((n % 100:Nat):Int) 10=((n % 10:Nat):Int):=by show ((n % 100 % 10:Nat):Int)=_;omega
  rw[e1,show IntKind.wrap .i64 ((n / 100:Nat):Int)=((n / 100:Nat):Int) from B2 (by omega) (by omega),Ue (by omega) (by omega),Jo,if_pos (by decide)]
  simp only[bs]
  rw[if_pos (by omega)]
  simp only[bs]
  rw[if_pos (by decide),e2]
  unfold Hb
  by_cases h0:n % 100=0
  ·rw[if_neg (by simp[h0]),if_pos h0,List.append_nil]
  ·rw[if_pos (show (((n % 100:Nat):Int) != 0)=true from by rw[bne_iff_ne];omega),if_neg h0,e3,e4,show IntKind.wrap .i64 ((n % 100 / 10:Nat):Int)=((n % 100 / 10:Nat):Int) from B2 (by omega) (by omega),Ue (by omega) (by omega),Ue (by omega) (by omega),Jo,Jo,if_pos (by decide)]
   simp only[bs]
   rw[if_pos (by simp;omega),if_pos (by decide)]
   rw[if_pos (by simp;omega),if_pos (by simp;omega)]
   rfl
 by_cases h:z < 0
 ·obtain⟨n,hn⟩:=Int.eq_ofNat_of_zero_le (by omega:0 ≤ -z)
  obtain rfl:z = -(n:Int):=by omega
  rw[if_pos (decide_eq_true h),show IntKind.wrap .i64 (0 - -(n:Int))=(n:Int) from by rw[B2 (by omega) (by omega)];omega,key n [45] (by omega) (by decide)]
  unfold Cm
  rw[if_pos h,show (-(n:Int)).natAbs=n from by omega]
 ·obtain⟨n,rfl⟩:=Int.eq_ofNat_of_zero_le (by omega:0≤z)
  rw[if_neg (by simp),key n [] (by omega) (by decide)]
  unfold Cm
  rw[if_neg h]
  rfl
theorem gf {z:Int} (h1 : -200000≤z) (h2:z≤6000000):m29 z=some (Cm z,0):=by
 rw[A29,if_neg (by simp;omega)]
 have key:∀ (n:Nat) (s:List UInt8),n≤6000000→s.length≤1 →
   (Option.bind ((if(100:Int)≠0 then((Mi (IntKind.wrap .i64 (Int.tdiv (n:Int) (100:Int)))).bind fun r7_0=>(if s.length+r7_0.length≤9223372036854775807 then some r7_0 else none))else none)) fun(x7:((List UInt8)))=>(if((100:Int)≠0)then(if((Int.tmod (n:Int) (100:Int)) != 0)=true then(Option.bind ((if(s++x7).length+([46]:List UInt8).length≤9223372036854775807 then(if(100:Int)≠0 then(if(10:Int)≠0 then((Mi (IntKind.wrap .i64 (Int.tdiv (Int.tmod (n:Int) (100:Int)) (10:Int)))).bind fun r9_0=>(if((s++x7)++([46]:List UInt8)).length+r9_0.length≤9223372036854775807 then(if(10:Int)≠0 then((Mi (Int.tmod (n:Int) (10:Int))).bind fun r9_1=>(if(((s++x7)++([46]:List UInt8))++r9_0).length+r9_1.length≤9223372036854775807 then some (r9_0,r9_1)else none))else none)else none))else none)else none)else none)) fun(x9:(L2))=>(some (((((s++x7)++([46]:List UInt8))++x9.1)++x9.2),(0:Int))))else(some ((s++x7),(0:Int))))else none):Option (List UInt8×Int))=some (s++Lib.decDigits (n / 100)++Hb n,0):=fun n s hn hs=>by
  have a:=Da (n:=n / 100) (by omega)
  have b:=Da (n:=n % 100 / 10) (by omega)
  have c:=Da (n:=n % 10) (by omega)
  have e1:Int.tdiv (n:Int) 100=((n / 100:Nat):Int):=rfl
  have e2:Int.tmod (n:Int) 100=((n % 100:Nat):Int):=rfl
  have e3:Int.tdiv ((n % 100:Nat):Int) 10=((n % 100 / 10:Nat):Int):=rfl
  have e4:Int.tmod (n:Int) 10=((n % 10:Nat):Int):=rfl
  rw[e1,show IntKind.wrap .i64 ((n / 100:Nat):Int)=((n / 100:Nat):Int) from B2 (by omega) (by omega),Uc (by omega),if_pos (by decide)]
  simp only[bs]
  rw[if_pos (by omega)]
  simp only[bs]
  rw[if_pos (by decide),e2]
  unfold Hb
  by_cases h0:n % 100=0
  ·rw[if_neg (by simp[h0]),if_pos h0,List.append_nil]
  ·rw[if_pos (show (((n % 100:Nat):Int) != 0)=true from by rw[bne_iff_ne];omega),if_neg h0,e3,e4,show IntKind.wrap .i64 ((n % 100 / 10:Nat):Int)=((n % 100 / 10:Nat):Int) from B2 (by omega) (by omega),Uc (by omega),Uc (by omega),if_pos (by simp;omega),if_pos (by decide),if_pos (by decide)]
   simp only[bs]
   rw[if_pos (by simp;omega),if_pos (by decide)]
   rw[if_pos (by simp;omega)]
   show some (_,(0:Int))=some (_,(0:Int))
   simp only[List.append_assoc]
 by_cases h:z < 0
 ·obtain⟨n,hn⟩:=Int.eq_ofNat_of_zero_le (by omega:0 ≤ -z)
  obtain rfl:z = -(n:Int):=by omega
  rw[if_pos (decide_eq_true h),show IntKind.wrap .i64 (0 - -(n:Int))=(n:Int) from by rw[B2 (by omega) (by omega)];omega,key n [45] (by omega) (by decide)]
  unfold Cm
  rw[if_pos h,show (-(n:Int)).natAbs=n from by omega]
 ·obtain⟨n,rfl⟩:=Int.eq_ofNat_of_zero_le (by omega:0≤z)
  rw[if_neg (by simp),key n [] (by omega) (by decide)]
  unfold Cm
  rw[if_neg h]
  rfl
end Go.Av.Txs
