/- A part of the proof. -/
import Derived.Test.YtaflbimagjafiaaGreatDoorPart6
import Derived.Lib.ItoaLen
set_option linter.unusedSectionVars false
set_option linter.unusedVariables false
set_option linter.unusedSimpArgs false
set_option maxRecDepth 100000
noncomputable section
namespace Go.Av.Txs
open Go.Av
theorem M34 (a0:List A4):mj a0=((Option.bind (if((a0.length:Int)==(0:Int))=true then(some (.inr (((⟨(⟨(0:Int),(0:Int)⟩:Ax),(0:Int),(0:Int),(0:Int),[],[],[],(0:Int)⟩:Aa),(⟨(1:Int),(1:Int),(4:Int)⟩:Ac),true))))else(some (.inl ()))) (Af fun(_:Unit)=>(Option.bind (Option.bind (some (.inl ())) (Af fun(_:Unit)=>(Am (fun(s1:Int×Int×Int×Int×Int×Int×(List Int)×(List Ao)×(List Int)×Int)=>((Option.bind (some (.inl ())) (Af fun(_:Unit)=>(Option.bind (if(decide (s1.1 < (a0.length:Int)))=true then(some (.inl ()))else(some (.inr (.inr (.inl (s1.2.1,s1.2.2.1,s1.2.2.2.1,s1.2.2.2.2.1,s1.2.2.2.2.2.1,s1.2.2.2.2.2.2.1,s1.2.2.2.2.2.2.2.1,s1.2.2.2.2.2.2.2.2.1,s1.2.2.2.2.2.2.2.2.2)))))) (Af fun(_:Unit)=>(Option.bind (Option.bind (if(0≤s1.1)then(if(s1.1 < (a0.length:Int))then(some (.inl ()))else none)else none) (Af fun(_:Unit)=>(Option.bind (Option.bind (Option.bind (Q4 (a0.getD s1.1.toNat default)) fun r=>some r) fun x7=>(some (.inl ()))) (Af fun(_:Unit)=>(Option.bind (Option.bind (some (.inl ())) (Af fun(_:Unit)=>(if(s1.1==0)=true then(Option.bind (Option.bind (Em ([([71,82,73,68]:List UInt8)]:List (List UInt8)) (⟨(a0.getD s1.1.toNat default),(0:Int),(1:Int),(⟨(0:Int),(0:Int),(0:Int)⟩:Ac),false⟩:Ag)) fun r=>some r) fun x15=>(Option.bind (Option.bind (Bj (-2000000:Int) (2000000:Int) (⟨(⟨x15.2.1,x15.2.2.1⟩:A4),x15.2.2.2.1,x15.2.2.2.2.1,(⟨x15.2.2.2.2.2.1,x15.2.2.2.2.2.2.1,x15.2.2.2.2.2.2.2.1⟩:Ac),x15.2.2.2.2.2.2.2.2⟩:Ag)) fun r=>some r) fun x16=>(Option.bind (Option.bind (Bj (-2000000:Int) (2000000:Int) (⟨(⟨x16.2.1,x16.2.2.1⟩:A4),x16.2.2.2.1,x16.2.2.2.2.1,(⟨x16.2.2.2.2.2.1,x16.2.2.2.2.2.2.1,x16.2.2.2.2.2.2.2.1⟩:Ac),x16.2.2.2.2.2.2.2.2⟩:Ag)) fun r=>some r) fun x17=>(Option.bind (Option.bind (Bj (1:Int) (2000000:Int) (⟨(⟨x17.2.1,x17.2.2.1⟩:A4),x17.2.2.2.1,x17.2.2.2.2.1,(⟨x17.2.2.2.2.2.1,x17.2.2.2.2.2.2.1,x17.2.2.2.2.2.2.2.1⟩:Ac),x17.2.2.2.2.2.2.2.2⟩:Ag)) fun r=>some r) fun x18=>(Option.bind (Option.bind (Bj (1:Int) (16:Int) (⟨(⟨x18.2.1,x18.2.2.1⟩:A4),x18.2.2.2.1,x18.2.2.2.2.1,(⟨x18.2.2.2.2.2.1,x18.2.2.2.2.2.2.1,x18.2.2.2.2.2.2.2.1⟩:Ac),x18.2.2.2.2.2.2.2.2⟩:Ag)) fun r=>some r) fun x19=>(Option.bind (Option.bind (Bj (1:Int) (16:Int) (⟨(⟨x19.2.1,x19.2.2.1⟩:A4),x19.2.2.2.1,x19.2.2.2.2.1,(⟨x19.2.2.2.2.2.1,x19.2.2.2.2.2.2.1,x19.2.2.2.2.2.2.2.1⟩:Ac),x19.2.2.2.2.2.2.2.2⟩:Ag)) fun r=>some r) fun x20=>(Option.bind (Option.bind (Bj (0:Int) (60:Int) (⟨(⟨x20.2.1,x20.2.2.1⟩:A4),x20.2.2.2.1,x20.2.2.2.2.1,(⟨x20.2.2.2.2.2.1,x20.2.2.2.2.2.2.1,x20.2.2.2.2.2.2.2.1⟩:Ac),x20.2.2.2.2.2.2.2.2⟩:Ag)) fun r=>some r) fun x21=>(some (.inl (x16.1,x17.1,x18.1,x19.1,x20.1,s1.2.2.2.2.2.2.1,s1.2.2.2.2.2.2.2.1,s1.2.2.2.2.2.2.2.2.1,x21.1,x21.2.1,x21.2.2.1,x21.2.2.2.1,x21.2.2.2.2.1,x21.2.2.2.2.2.1,x21.2.2.2.2.2.2.1,x21.2.2.2.2.2.2.2.1,x21.2.2.2.2.2.2.2.2))))))))))else(Option.bind (if((IntKind.wrap .i64 ((IntKind.wrap .i64 (s1.2.2.2.2.1 * s1.2.2.2.2.2.1))+1))≠0)then(some (.inl ()))else none) (Af fun(_:Unit)=>(if((Int.tmod (IntKind.wrap .i64 (s1.1 - 1)) (IntKind.wrap .i64 ((IntKind.wrap .i64 (s1.2.2.2.2.1 * s1.2.2.2.2.2.1))+1)))==0)=true then(Option.bind (Option.bind (Option.bind (Em ([([76,69,86,69,76]:List UInt8)]:List (List UInt8)) (⟨(a0.getD s1.1.toNat default),(0:Int),(1:Int),(⟨(0:Int),(0:Int),(0:Int)⟩:Ac),false⟩:Ag)) fun r=>some r) fun x23=>(some (.inl (x23.2.1,x23.2.2.1,x23.2.2.2.1,x23.2.2.2.2.1,x23.2.2.2.2.2.1,x23.2.2.2.2.2.2.1,x23.2.2.2.2.2.2.2.1,x23.2.2.2.2.2.2.2.2)))) (Af fun(y2:Int×(List Ad)×Int×Int×Int×Int×Int×Bool)=>(Option.bind (some (.inl ())) (Af fun(_:Unit)=>(Option.bind (if((s1.2.2.2.2.2.2.1.length:Int)==(8:Int))=true then(Option.bind (Option.bind (Np (3:Int) (⟨(⟨y2.1,y2.2.1⟩:A4),y2.2.2.1,y2.2.2.2.1,(⟨y2.2.2.2.2.1,y2.2.2.2.2.2.1,y2.2.2.2.2.2.2.1⟩:Ac),y2.2.2.2.2.2.2.2⟩:Ag)) fun r=>some r) fun x26=>(some (.inl ((⟨(⟨y2.1,y2.2.1⟩:A4),y2.2.2.1,y2.2.2.2.1,(⟨y2.2.2.2.2.1,y2.2.2.2.2.2.1,y2.2.2.2.2.2.2.1⟩:Ac),y2.2.2.2.2.2.2.2⟩:Ag).line.Ae,(⟨(⟨y2.1,y2.2.1⟩:A4),y2.2.2.1,y2.2.2.2.1,(⟨y2.2.2.2.2.1,y2.2.2.2.2.2.1,y2.2.2.2.2.2.2.1⟩:Ac),y2.2.2.2.2.2.2.2⟩:Ag).line.A5,(⟨(⟨y2.1,y2.2.1⟩:A4),y2.2.2.1,y2.2.2.2.1,(⟨y2.2.2.2.2.1,y2.2.2.2.2.2.1,y2.2.2.2.2.2.2.1⟩:Ac),y2.2.2.2.2.2.2.2⟩:Ag).at_,(⟨(⟨y2.1,y2.2.1⟩:A4),y2.2.2.1,y2.2.2.2.1,(⟨y2.2.2.2.2.1,y2.2.2.2.2.2.1,y2.2.2.2.2.2.2.1⟩:Ac),y2.2.2.2.2.2.2.2⟩:Ag).last,x26.1,x26.2.1,x26.2.2.1,x26.2.2.2))))else(some (.inl (y2.1,y2.2.1,y2.2.2.1,y2.2.2.2.1,y2.2.2.2.2.1,y2.2.2.2.2.2.1,y2.2.2.2.2.2.2.1,y2.2.2.2.2.2.2.2)))) (Af fun(y3:Int×(List Ad)×Int×Int×Int×Int×Int×Bool)=>(Option.bind (Option.bind (((Nq (⟨(⟨y3.1,y3.2.1⟩:A4),y3.2.2.1,y3.2.2.2.1,(⟨y3.2.2.2.2.1,y3.2.2.2.2.2.1,y3.2.2.2.2.2.2.1⟩:Ac),y3.2.2.2.2.2.2.2⟩:Ag)).bind fun r27_0=>(if(s1.2.2.2.2.2.2.1.length+1) * 8≤140737488355328 then some r27_0 else none))) fun(x27:((Int×Int×(List Ad)×Int×Int×Int×Int×Int×Bool)))=>(some (.inl ((s1.2.2.2.2.2.2.1++([x27.1]:List Int)),x27.2.1,x27.2.2.1,x27.2.2.2.1,x27.2.2.2.2.1,x27.2.2.2.2.2.1,x27.2.2.2.2.2.2.1,x27.2.2.2.2.2.2.2.1,x27.2.2.2.2.2.2.2.2)))) (Af fun(y4:(List Int)×Int×(List Ad)×Int×Int×Int×Int×Int×Bool)=>(Option.bind (Option.bind (Gr (⟨(⟨y4.2.1,y4.2.2.1⟩:A4),y4.2.2.2.1,y4.2.2.2.2.1,(⟨y4.2.2.2.2.2.1,y4.2.2.2.2.2.2.1,y4.2.2.2.2.2.2.2.1⟩:Ac),y4.2.2.2.2.2.2.2.2⟩:Ag)) fun r=>some r) fun x28=>(if x28.1=true then(some (.inr (.inr (.inr (.inr (((⟨(⟨(0:Int),(0:Int)⟩:Ax),(0:Int),(0:Int),(0:Int),[],[],[],(0:Int)⟩:Aa),(⟨x28.2.1,x28.2.2.1,x28.2.2.2⟩:Ac),true)))))))else(if(decide (0 < (s1.2.2.2.2.2.2.1.length:Int)))=true→(0≤(s1.2.2.2.2.2.2.1.length:Int))then(if(decide (0 < (s1.2.2.2.2.2.2.1.length:Int)))=true→((s1.2.2.2.2.2.2.1.length:Int) < (y4.1.length:Int))then(if(decide (0 < (s1.2.2.2.2.2.2.1.length:Int)))=true→(0≤(IntKind.wrap .i64 ((s1.2.2.2.2.2.2.1.length:Int) - (1:Int))))then(if(decide (0 < (s1.2.2.2.2.2.2.1.length:Int)))=true→((IntKind.wrap .i64 ((s1.2.2.2.2.2.2.1.length:Int) - (1:Int))) < (y4.1.length:Int))then(if((decide (0 < (s1.2.2.2.2.2.2.1.length:Int)))&&(decide ((y4.1.getD (s1.2.2.2.2.2.2.1.length:Int).toNat default)≤(y4.1.getD (IntKind.wrap .i64 ((s1.2.2.2.2.2.2.1.length:Int) - (1:Int))).toNat default))))=true then(if((0:Int)≤(0:Int))then(if(0 < ((a0.getD s1.1.toNat default).A5.length:Int))then(some (.inr (.inr (.inr (.inr (((⟨(⟨(0:Int),(0:Int)⟩:Ax),(0:Int),(0:Int),(0:Int),[],[],[],(0:Int)⟩:Aa),(⟨(a0.getD s1.1.toNat default).Ae,((a0.getD s1.1.toNat default).A5.getD (0:Int).toNat default).Aj,(9:Int)⟩:Ac),true)))))))else none)else none)else(some (.inl (s1.2.1,s1.2.2.1,s1.2.2.2.1,s1.2.2.2.2.1,s1.2.2.2.2.2.1,y4.1,s1.2.2.2.2.2.2.2.1,s1.2.2.2.2.2.2.2.2.1,s1.2.2.2.2.2.2.2.2.2,(⟨(⟨y4.2.1,y4.2.2.1⟩:A4),y4.2.2.2.1,y4.2.2.2.2.1,(⟨y4.2.2.2.2.2.1,y4.2.2.2.2.2.2.1,y4.2.2.2.2.2.2.2.1⟩:Ac),y4.2.2.2.2.2.2.2.2⟩:Ag).line.Ae,(⟨(⟨y4.2.1,y4.2.2.1⟩:A4),y4.2.2.2.1,y4.2.2.2.2.1,(⟨y4.2.2.2.2.2.1,y4.2.2.2.2.2.2.1,y4.2.2.2.2.2.2.2.1⟩:Ac),y4.2.2.2.2.2.2.2.2⟩:Ag).line.A5,(⟨(⟨y4.2.1,y4.2.2.1⟩:A4),y4.2.2.2.1,y4.2.2.2.2.1,(⟨y4.2.2.2.2.2.1,y4.2.2.2.2.2.2.1,y4.2.2.2.2.2.2.2.1⟩:Ac),y4.2.2.2.2.2.2.2.2⟩:Ag).at_,(⟨(⟨y4.2.1,y4.2.2.1⟩:A4),y4.2.2.2.1,y4.2.2.2.2.1,(⟨y4.2.2.2.2.2.1,y4.2.2.2.2.2.2.1,y4.2.2.2.2.2.2.2.1⟩:Ac),y4.2.2.2.2.2.2.2.2⟩:Ag).last,(⟨(⟨y4.2.1,y4.2.2.1⟩:A4),y4.2.2.2.1,y4.2.2.2.2.1,(⟨y4.2.2.2.2.2.1,y4.2.2.2.2.2.2.1,y4.2.2.2.2.2.2.2.1⟩:Ac),y4.2.2.2.2.2.2.2.2⟩:Ag).diag.Line,(⟨(⟨y4.2.1,y4.2.2.1⟩:A4),y4.2.2.2.1,y4.2.2.2.2.1,(⟨y4.2.2.2.2.2.1,y4.2.2.2.2.2.2.1,y4.2.2.2.2.2.2.2.1⟩:Ac),y4.2.2.2.2.2.2.2.2⟩:Ag).diag.Aj,(⟨(⟨y4.2.1,y4.2.2.1⟩:A4),y4.2.2.2.1,y4.2.2.2.2.1,(⟨y4.2.2.2.2.2.1,y4.2.2.2.2.2.2.1,y4.2.2.2.2.2.2.2.1⟩:Ac),y4.2.2.2.2.2.2.2.2⟩:Ag).diag.Code,(⟨(⟨y4.2.1,y4.2.2.1⟩:A4),y4.2.2.2.1,y4.2.2.2.2.1,(⟨y4.2.2.2.2.2.1,y4.2.2.2.2.2.2.1,y4.2.2.2.2.2.2.2.1⟩:Ac),y4.2.2.2.2.2.2.2.2⟩:Ag).failed))))else none)else none)else none)else none)))))))))))else(Option.bind (Option.bind (Em ([([87,73,78,68]:List UInt8)]:List (List UInt8)) (⟨(a0.getD s1.1.toNat default),(0:Int),(1:Int),(⟨(0:Int),(0:Int),(0:Int)⟩:Ac),false⟩:Ag)) fun r=>some r) fun x8=>(Option.bind (Option.bind (Bj (-340:Int) (340:Int) (⟨(⟨x8.2.1,x8.2.2.1⟩:A4),x8.2.2.2.1,x8.2.2.2.2.1,(⟨x8.2.2.2.2.2.1,x8.2.2.2.2.2.2.1,x8.2.2.2.2.2.2.2.1⟩:Ac),x8.2.2.2.2.2.2.2.2⟩:Ag)) fun r=>some r) fun x10=>(Option.bind (Option.bind (Bj (-340:Int) (340:Int) (⟨(⟨x10.2.1,x10.2.2.1⟩:A4),x10.2.2.2.1,x10.2.2.2.2.1,(⟨x10.2.2.2.2.2.1,x10.2.2.2.2.2.2.1,x10.2.2.2.2.2.2.2.1⟩:Ac),x10.2.2.2.2.2.2.2.2⟩:Ag)) fun r=>some r) fun x11=>(if((s1.2.2.2.2.2.2.2.1.length+1) * 16≤140737488355328)then(Option.bind (((Bj (-4000:Int) (4000:Int) (⟨(⟨x11.2.1,x11.2.2.1⟩:A4),x11.2.2.2.1,x11.2.2.2.2.1,(⟨x11.2.2.2.2.2.1,x11.2.2.2.2.2.2.1,x11.2.2.2.2.2.2.2.1⟩:Ac),x11.2.2.2.2.2.2.2.2⟩:Ag)).bind fun r13_0=>(if(s1.2.2.2.2.2.2.2.2.1.length+1) * 8≤140737488355328 then some r13_0 else none))) fun(x13:((Int×Int×(List Ad)×Int×Int×Int×Int×Int×Bool)))=>(some (.inl (s1.2.1,s1.2.2.1,s1.2.2.2.1,s1.2.2.2.2.1,s1.2.2.2.2.2.1,s1.2.2.2.2.2.2.1,(s1.2.2.2.2.2.2.2.1++([(⟨x10.1,x11.1⟩:Ao)]:List Ao)),(s1.2.2.2.2.2.2.2.2.1++([x13.1]:List Int)),s1.2.2.2.2.2.2.2.2.2,x13.2.1,x13.2.2.1,x13.2.2.2.1,x13.2.2.2.2.1,x13.2.2.2.2.2.1,x13.2.2.2.2.2.2.1,x13.2.2.2.2.2.2.2.1,x13.2.2.2.2.2.2.2.2))))else none)))))))))) (Af fun(y5:Int×Int×Int×Int×Int×(List Int)×(List Ao)×(List Int)×Int×Int×(List Ad)×Int×Int×Int×Int×Int×Bool)=>(Option.bind (Option.bind (Gr (⟨(⟨y5.2.2.2.2.2.2.2.2.2.1,y5.2.2.2.2.2.2.2.2.2.2.1⟩:A4),y5.2.2.2.2.2.2.2.2.2.2.2.1,y5.2.2.2.2.2.2.2.2.2.2.2.2.1,(⟨y5.2.2.2.2.2.2.2.2.2.2.2.2.2.1,y5.2.2.2.2.2.2.2.2.2.2.2.2.2.2.1,y5.2.2.2.2.2.2.2.2.2.2.2.2.2.2.2.1⟩:Ac),y5.2.2.2.2.2.2.2.2.2.2.2.2.2.2.2.2⟩:Ag)) fun r=>some r) fun x33=>(if x33.1=true then(some (.inr (.inr (.inr (((⟨(⟨(0:Int),(0:Int)⟩:Ax),(0:Int),(0:Int),(0:Int),[],[],[],(0:Int)⟩:Aa),(⟨x33.2.1,x33.2.2.1,x33.2.2.2⟩:Ac),true))))))else(some (.inl (y5.1,y5.2.1,y5.2.2.1,y5.2.2.2.1,y5.2.2.2.2.1,y5.2.2.2.2.2.1,y5.2.2.2.2.2.2.1,y5.2.2.2.2.2.2.2.1,y5.2.2.2.2.2.2.2.2.1))))))))))) (Af fun(y6:Int×Int×Int×Int×Int×(List Int)×(List Ao)×(List Int)×Int)=>(some (.inl ((IntKind.wrap .i64 (s1.1+1)),y6.1,y6.2.1,y6.2.2.1,y6.2.2.2.1,y6.2.2.2.2.1,y6.2.2.2.2.2.1,y6.2.2.2.2.2.2.1,y6.2.2.2.2.2.2.2.1,y6.2.2.2.2.2.2.2.2))))))))):Option ((Int×Int×Int×Int×Int×Int×(List Int)×(List Ao)×(List Int)×Int)⊕((Int×Int×Int×Int×Int×(List Int)×(List Ao)×(List Int)×Int)⊕(Aa×Ac×Bool))))) ((0:Int),(0:Int),(0:Int),(0:Int),(0:Int),(0:Int),[],[],[],(0:Int))))) (Af fun(y7:Int×Int×Int×Int×Int×(List Int)×(List Ao)×(List Int)×Int)=>(if(!((a0.length:Int)==(1:Int)))=true→((IntKind.wrap .i64 ((IntKind.wrap .i64 (y7.2.2.2.1 * y7.2.2.2.2.1))+1))≠0)then(if(((a0.length:Int)==(1:Int)) || ((Int.tmod (IntKind.wrap .i64 ((a0.length:Int) - (1:Int))) (IntKind.wrap .i64 ((IntKind.wrap .i64 (y7.2.2.2.1 * y7.2.2.2.2.1))+1))) != 0))=true then(if(0≤(IntKind.wrap .i64 ((a0.length:Int) - (1:Int))))then(if((IntKind.wrap .i64 ((a0.length:Int) - (1:Int))) < (a0.length:Int))then(some ((⟨(⟨(0:Int),(0:Int)⟩:Ax),(0:Int),(0:Int),(0:Int),[],[],[],(0:Int)⟩:Aa),(⟨(IntKind.wrap .i64 ((a0.getD (IntKind.wrap .i64 ((a0.length:Int) - (1:Int))).toNat default).Ae+1)),(1:Int),(4:Int)⟩:Ac),true))else none)else none)else(some ((⟨(⟨y7.1,y7.2.1⟩:Ax),y7.2.2.1,y7.2.2.2.1,y7.2.2.2.2.1,y7.2.2.2.2.2.1,y7.2.2.2.2.2.2.1,y7.2.2.2.2.2.2.2.1,y7.2.2.2.2.2.2.2.2⟩:Aa),(⟨(0:Int),(0:Int),(0:Int)⟩:Ac),false)))else none))))):Option (Aa×Ac×Bool)):=by kernel_rfl
abbrev Fl (a0:List A4):(Int×Int×Int×Int×Int×Int×(List Int)×(List Ao)×(List Int)×Int)→Option ((Int×Int×Int×Int×Int×Int×(List Int)×(List Ao)×(List Int)×Int)⊕((Int×Int×Int×Int×Int×(List Int)×(List Ao)×(List Int)×Int)⊕(Aa×Ac×Bool))):=(fun(s1:Int×Int×Int×Int×Int×Int×(List Int)×(List Ao)×(List Int)×Int)=>((Option.bind (some (.inl ())) (Af fun(_:Unit)=>(Option.bind (if(decide (s1.1 < (a0.length:Int)))=true then(some (.inl ()))else(some (.inr (.inr (.inl (s1.2.1,s1.2.2.1,s1.2.2.2.1,s1.2.2.2.2.1,s1.2.2.2.2.2.1,s1.2.2.2.2.2.2.1,s1.2.2.2.2.2.2.2.1,s1.2.2.2.2.2.2.2.2.1,s1.2.2.2.2.2.2.2.2.2)))))) (Af fun(_:Unit)=>(Option.bind (Option.bind (if(0≤s1.1)then(if(s1.1 < (a0.length:Int))then(some (.inl ()))else none)else none) (Af fun(_:Unit)=>(Option.bind (Option.bind (Option.bind (Q4 (a0.getD s1.1.toNat default)) fun r=>some r) fun x7=>(some (.inl ()))) (Af fun(_:Unit)=>(Option.bind (Option.bind (some (.inl ())) (Af fun(_:Unit)=>(if(s1.1==0)=true then(Option.bind (Option.bind (Em ([([71,82,73,68]:List UInt8)]:List (List UInt8)) (⟨(a0.getD s1.1.toNat default),(0:Int),(1:Int),(⟨(0:Int),(0:Int),(0:Int)⟩:Ac),false⟩:Ag)) fun r=>some r) fun x15=>(Option.bind (Option.bind (Bj (-2000000:Int) (2000000:Int) (⟨(⟨x15.2.1,x15.2.2.1⟩:A4),x15.2.2.2.1,x15.2.2.2.2.1,(⟨x15.2.2.2.2.2.1,x15.2.2.2.2.2.2.1,x15.2.2.2.2.2.2.2.1⟩:Ac),x15.2.2.2.2.2.2.2.2⟩:Ag)) fun r=>some r) fun x16=>(Option.bind (Option.bind (Bj (-2000000:Int) (2000000:Int) (⟨(⟨x16.2.1,x16.2.2.1⟩:A4),x16.2.2.2.1,x16.2.2.2.2.1,(⟨x16.2.2.2.2.2.1,x16.2.2.2.2.2.2.1,x16.2.2.2.2.2.2.2.1⟩:Ac),x16.2.2.2.2.2.2.2.2⟩:Ag)) fun r=>some r) fun x17=>(Option.bind (Option.bind (Bj (1:Int) (2000000:Int) (⟨(⟨x17.2.1,x17.2.2.1⟩:A4),x17.2.2.2.1,x17.2.2.2.2.1,(⟨x17.2.2.2.2.2.1,x17.2.2.2.2.2.2.1,x17.2.2.2.2.2.2.2.1⟩:Ac),x17.2.2.2.2.2.2.2.2⟩:Ag)) fun r=>some r) fun x18=>(Option.bind (Option.bind (Bj (1:Int) (16:Int) (⟨(⟨x18.2.1,x18.2.2.1⟩:A4),x18.2.2.2.1,x18.2.2.2.2.1,(⟨x18.2.2.2.2.2.1,x18.2.2.2.2.2.2.1,x18.2.2.2.2.2.2.2.1⟩:Ac),x18.2.2.2.2.2.2.2.2⟩:Ag)) fun r=>some r) fun x19=>(Option.bind (Option.bind (Bj (1:Int) (16:Int) (⟨(⟨x19.2.1,x19.2.2.1⟩:A4),x19.2.2.2.1,x19.2.2.2.2.1,(⟨x19.2.2.2.2.2.1,x19.2.2.2.2.2.2.1,x19.2.2.2.2.2.2.2.1⟩:Ac),x19.2.2.2.2.2.2.2.2⟩:Ag)) fun r=>some r) fun x20=>(Option.bind (Option.bind (Bj (0:Int) (60:Int) (⟨(⟨x20.2.1,x20.2.2.1⟩:A4),x20.2.2.2.1,x20.2.2.2.2.1,(⟨x20.2.2.2.2.2.1,x20.2.2.2.2.2.2.1,x20.2.2.2.2.2.2.2.1⟩:Ac),x20.2.2.2.2.2.2.2.2⟩:Ag)) fun r=>some r) fun x21=>(some (.inl (x16.1,x17.1,x18.1,x19.1,x20.1,s1.2.2.2.2.2.2.1,s1.2.2.2.2.2.2.2.1,s1.2.2.2.2.2.2.2.2.1,x21.1,x21.2.1,x21.2.2.1,x21.2.2.2.1,x21.2.2.2.2.1,x21.2.2.2.2.2.1,x21.2.2.2.2.2.2.1,x21.2.2.2.2.2.2.2.1,x21.2.2.2.2.2.2.2.2))))))))))else(Option.bind (if((IntKind.wrap .i64 ((IntKind.wrap .i64 (s1.2.2.2.2.1 * s1.2.2.2.2.2.1))+1))≠0)then(some (.inl ()))else none) (Af fun(_:Unit)=>(if((Int.tmod (IntKind.wrap .i64 (s1.1 - 1)) (IntKind.wrap .i64 ((IntKind.wrap .i64 (s1.2.2.2.2.1 * s1.2.2.2.2.2.1))+1)))==0)=true then(Option.bind (Option.bind (Option.bind (Em ([([76,69,86,69,76]:List UInt8)]:List (List UInt8)) (⟨(a0.getD s1.1.toNat default),(0:Int),(1:Int),(⟨(0:Int),(0:Int),(0:Int)⟩:Ac),false⟩:Ag)) fun r=>some r) fun x23=>(some (.inl (x23.2.1,x23.2.2.1,x23.2.2.2.1,x23.2.2.2.2.1,x23.2.2.2.2.2.1,x23.2.2.2.2.2.2.1,x23.2.2.2.2.2.2.2.1,x23.2.2.2.2.2.2.2.2)))) (Af fun(y2:Int×(List Ad)×Int×Int×Int×Int×Int×Bool)=>(Option.bind (some (.inl ())) (Af fun(_:Unit)=>(Option.bind (if((s1.2.2.2.2.2.2.1.length:Int)==(8:Int))=true then(Option.bind (Option.bind (Np (3:Int) (⟨(⟨y2.1,y2.2.1⟩:A4),y2.2.2.1,y2.2.2.2.1,(⟨y2.2.2.2.2.1,y2.2.2.2.2.2.1,y2.2.2.2.2.2.2.1⟩:Ac),y2.2.2.2.2.2.2.2⟩:Ag)) fun r=>some r) fun x26=>(some (.inl ((⟨(⟨y2.1,y2.2.1⟩:A4),y2.2.2.1,y2.2.2.2.1,(⟨y2.2.2.2.2.1,y2.2.2.2.2.2.1,y2.2.2.2.2.2.2.1⟩:Ac),y2.2.2.2.2.2.2.2⟩:Ag).line.Ae,(⟨(⟨y2.1,y2.2.1⟩:A4),y2.2.2.1,y2.2.2.2.1,(⟨y2.2.2.2.2.1,y2.2.2.2.2.2.1,y2.2.2.2.2.2.2.1⟩:Ac),y2.2.2.2.2.2.2.2⟩:Ag).line.A5,(⟨(⟨y2.1,y2.2.1⟩:A4),y2.2.2.1,y2.2.2.2.1,(⟨y2.2.2.2.2.1,y2.2.2.2.2.2.1,y2.2.2.2.2.2.2.1⟩:Ac),y2.2.2.2.2.2.2.2⟩:Ag).at_,(⟨(⟨y2.1,y2.2.1⟩:A4),y2.2.2.1,y2.2.2.2.1,(⟨y2.2.2.2.2.1,y2.2.2.2.2.2.1,y2.2.2.2.2.2.2.1⟩:Ac),y2.2.2.2.2.2.2.2⟩:Ag).last,x26.1,x26.2.1,x26.2.2.1,x26.2.2.2))))else(some (.inl (y2.1,y2.2.1,y2.2.2.1,y2.2.2.2.1,y2.2.2.2.2.1,y2.2.2.2.2.2.1,y2.2.2.2.2.2.2.1,y2.2.2.2.2.2.2.2)))) (Af fun(y3:Int×(List Ad)×Int×Int×Int×Int×Int×Bool)=>(Option.bind (Option.bind (((Nq (⟨(⟨y3.1,y3.2.1⟩:A4),y3.2.2.1,y3.2.2.2.1,(⟨y3.2.2.2.2.1,y3.2.2.2.2.2.1,y3.2.2.2.2.2.2.1⟩:Ac),y3.2.2.2.2.2.2.2⟩:Ag)).bind fun r27_0=>(if(s1.2.2.2.2.2.2.1.length+1) * 8≤140737488355328 then some r27_0 else none))) fun(x27:((Int×Int×(List Ad)×Int×Int×Int×Int×Int×Bool)))=>(some (.inl ((s1.2.2.2.2.2.2.1++([x27.1]:List Int)),x27.2.1,x27.2.2.1,x27.2.2.2.1,x27.2.2.2.2.1,x27.2.2.2.2.2.1,x27.2.2.2.2.2.2.1,x27.2.2.2.2.2.2.2.1,x27.2.2.2.2.2.2.2.2)))) (Af fun(y4:(List Int)×Int×(List Ad)×Int×Int×Int×Int×Int×Bool)=>(Option.bind (Option.bind (Gr (⟨(⟨y4.2.1,y4.2.2.1⟩:A4),y4.2.2.2.1,y4.2.2.2.2.1,(⟨y4.2.2.2.2.2.1,y4.2.2.2.2.2.2.1,y4.2.2.2.2.2.2.2.1⟩:Ac),y4.2.2.2.2.2.2.2.2⟩:Ag)) fun r=>some r) fun x28=>(if x28.1=true then(some (.inr (.inr (.inr (.inr (((⟨(⟨(0:Int),(0:Int)⟩:Ax),(0:Int),(0:Int),(0:Int),[],[],[],(0:Int)⟩:Aa),(⟨x28.2.1,x28.2.2.1,x28.2.2.2⟩:Ac),true)))))))else(if(decide (0 < (s1.2.2.2.2.2.2.1.length:Int)))=true→(0≤(s1.2.2.2.2.2.2.1.length:Int))then(if(decide (0 < (s1.2.2.2.2.2.2.1.length:Int)))=true→((s1.2.2.2.2.2.2.1.length:Int) < (y4.1.length:Int))then(if(decide (0 < (s1.2.2.2.2.2.2.1.length:Int)))=true→(0≤(IntKind.wrap .i64 ((s1.2.2.2.2.2.2.1.length:Int) - (1:Int))))then(if(decide (0 < (s1.2.2.2.2.2.2.1.length:Int)))=true→((IntKind.wrap .i64 ((s1.2.2.2.2.2.2.1.length:Int) - (1:Int))) < (y4.1.length:Int))then(if((decide (0 < (s1.2.2.2.2.2.2.1.length:Int)))&&(decide ((y4.1.getD (s1.2.2.2.2.2.2.1.length:Int).toNat default)≤(y4.1.getD (IntKind.wrap .i64 ((s1.2.2.2.2.2.2.1.length:Int) - (1:Int))).toNat default))))=true then(if((0:Int)≤(0:Int))then(if(0 < ((a0.getD s1.1.toNat default).A5.length:Int))then(some (.inr (.inr (.inr (.inr (((⟨(⟨(0:Int),(0:Int)⟩:Ax),(0:Int),(0:Int),(0:Int),[],[],[],(0:Int)⟩:Aa),(⟨(a0.getD s1.1.toNat default).Ae,((a0.getD s1.1.toNat default).A5.getD (0:Int).toNat default).Aj,(9:Int)⟩:Ac),true)))))))else none)else none)else(some (.inl (s1.2.1,s1.2.2.1,s1.2.2.2.1,s1.2.2.2.2.1,s1.2.2.2.2.2.1,y4.1,s1.2.2.2.2.2.2.2.1,s1.2.2.2.2.2.2.2.2.1,s1.2.2.2.2.2.2.2.2.2,(⟨(⟨y4.2.1,y4.2.2.1⟩:A4),y4.2.2.2.1,y4.2.2.2.2.1,(⟨y4.2.2.2.2.2.1,y4.2.2.2.2.2.2.1,y4.2.2.2.2.2.2.2.1⟩:Ac),y4.2.2.2.2.2.2.2.2⟩:Ag).line.Ae,(⟨(⟨y4.2.1,y4.2.2.1⟩:A4),y4.2.2.2.1,y4.2.2.2.2.1,(⟨y4.2.2.2.2.2.1,y4.2.2.2.2.2.2.1,y4.2.2.2.2.2.2.2.1⟩:Ac),y4.2.2.2.2.2.2.2.2⟩:Ag).line.A5,(⟨(⟨y4.2.1,y4.2.2.1⟩:A4),y4.2.2.2.1,y4.2.2.2.2.1,(⟨y4.2.2.2.2.2.1,y4.2.2.2.2.2.2.1,y4.2.2.2.2.2.2.2.1⟩:Ac),y4.2.2.2.2.2.2.2.2⟩:Ag).at_,(⟨(⟨y4.2.1,y4.2.2.1⟩:A4),y4.2.2.2.1,y4.2.2.2.2.1,(⟨y4.2.2.2.2.2.1,y4.2.2.2.2.2.2.1,y4.2.2.2.2.2.2.2.1⟩:Ac),y4.2.2.2.2.2.2.2.2⟩:Ag).last,(⟨(⟨y4.2.1,y4.2.2.1⟩:A4),y4.2.2.2.1,y4.2.2.2.2.1,(⟨y4.2.2.2.2.2.1,y4.2.2.2.2.2.2.1,y4.2.2.2.2.2.2.2.1⟩:Ac),y4.2.2.2.2.2.2.2.2⟩:Ag).diag.Line,(⟨(⟨y4.2.1,y4.2.2.1⟩:A4),y4.2.2.2.1,y4.2.2.2.2.1,(⟨y4.2.2.2.2.2.1,y4.2.2.2.2.2.2.1,y4.2.2.2.2.2.2.2.1⟩:Ac),y4.2.2.2.2.2.2.2.2⟩:Ag).diag.Aj,(⟨(⟨y4.2.1,y4.2.2.1⟩:A4),y4.2.2.2.1,y4.2.2.2.2.1,(⟨y4.2.2.2.2.2.1,y4.2.2.2.2.2.2.1,y4.2.2.2.2.2.2.2.1⟩:Ac),y4.2.2.2.2.2.2.2.2⟩:Ag).diag.Code,(⟨(⟨y4.2.1,y4.2.2.1⟩:A4),y4.2.2.2.1,y4.2.2.2.2.1,(⟨y4.2.2.2.2.2.1,y4.2.2.2.2.2.2.1,y4.2.2.2.2.2.2.2.1⟩:Ac),y4.2.2.2.2.2.2.2.2⟩:Ag).failed))))else none)else none)else none)else none)))))))))))else(Option.bind (Option.bind (Em ([([87,73,78,68]:List UInt8)]:List (List UInt8)) (⟨(a0.getD s1.1.toNat default),(0:Int),(1:Int),(⟨(0:Int),(0:Int),(0:Int)⟩:Ac),false⟩:Ag)) fun r=>some r) fun x8=>(Option.bind (Option.bind (Bj (-340:Int) (340:Int) (⟨(⟨x8.2.1,x8.2.2.1⟩:A4),x8.2.2.2.1,x8.2.2.2.2.1,(⟨x8.2.2.2.2.2.1,x8.2.2.2.2.2.2.1,x8.2.2.2.2.2.2.2.1⟩:Ac),x8.2.2.2.2.2.2.2.2⟩:Ag)) fun r=>some r) fun x10=>(Option.bind (Option.bind (Bj (-340:Int) (340:Int) (⟨(⟨x10.2.1,x10.2.2.1⟩:A4),x10.2.2.2.1,x10.2.2.2.2.1,(⟨x10.2.2.2.2.2.1,x10.2.2.2.2.2.2.1,x10.2.2.2.2.2.2.2.1⟩:Ac),x10.2.2.2.2.2.2.2.2⟩:Ag)) fun r=>some r) fun x11=>(if((s1.2.2.2.2.2.2.2.1.length+1) * 16≤140737488355328)then(Option.bind (((Bj (-4000:Int) (4000:Int) (⟨(⟨x11.2.1,x11.2.2.1⟩:A4),x11.2.2.2.1,x11.2.2.2.2.1,(⟨x11.2.2.2.2.2.1,x11.2.2.2.2.2.2.1,x11.2.2.2.2.2.2.2.1⟩:Ac),x11.2.2.2.2.2.2.2.2⟩:Ag)).bind fun r13_0=>(if(s1.2.2.2.2.2.2.2.2.1.length+1) * 8≤140737488355328 then some r13_0 else none))) fun(x13:((Int×Int×(List Ad)×Int×Int×Int×Int×Int×Bool)))=>(some (.inl (s1.2.1,s1.2.2.1,s1.2.2.2.1,s1.2.2.2.2.1,s1.2.2.2.2.2.1,s1.2.2.2.2.2.2.1,(s1.2.2.2.2.2.2.2.1++([(⟨x10.1,x11.1⟩:Ao)]:List Ao)),(s1.2.2.2.2.2.2.2.2.1++([x13.1]:List Int)),s1.2.2.2.2.2.2.2.2.2,x13.2.1,x13.2.2.1,x13.2.2.2.1,x13.2.2.2.2.1,x13.2.2.2.2.2.1,x13.2.2.2.2.2.2.1,x13.2.2.2.2.2.2.2.1,x13.2.2.2.2.2.2.2.2))))else none)))))))))) (Af fun(y5:Int×Int×Int×Int×Int×(List Int)×(List Ao)×(List Int)×Int×Int×(List Ad)×Int×Int×Int×Int×Int×Bool)=>(Option.bind (Option.bind (Gr (⟨(⟨y5.2.2.2.2.2.2.2.2.2.1,y5.2.2.2.2.2.2.2.2.2.2.1⟩:A4),y5.2.2.2.2.2.2.2.2.2.2.2.1,y5.2.2.2.2.2.2.2.2.2.2.2.2.1,(⟨y5.2.2.2.2.2.2.2.2.2.2.2.2.2.1,y5.2.2.2.2.2.2.2.2.2.2.2.2.2.2.1,y5.2.2.2.2.2.2.2.2.2.2.2.2.2.2.2.1⟩:Ac),y5.2.2.2.2.2.2.2.2.2.2.2.2.2.2.2.2⟩:Ag)) fun r=>some r) fun x33=>(if x33.1=true then(some (.inr (.inr (.inr (((⟨(⟨(0:Int),(0:Int)⟩:Ax),(0:Int),(0:Int),(0:Int),[],[],[],(0:Int)⟩:Aa),(⟨x33.2.1,x33.2.2.1,x33.2.2.2⟩:Ac),true))))))else(some (.inl (y5.1,y5.2.1,y5.2.2.1,y5.2.2.2.1,y5.2.2.2.2.1,y5.2.2.2.2.2.1,y5.2.2.2.2.2.2.1,y5.2.2.2.2.2.2.2.1,y5.2.2.2.2.2.2.2.2.1))))))))))) (Af fun(y6:Int×Int×Int×Int×Int×(List Int)×(List Ao)×(List Int)×Int)=>(some (.inl ((IntKind.wrap .i64 (s1.1+1)),y6.1,y6.2.1,y6.2.2.1,y6.2.2.2.1,y6.2.2.2.2.1,y6.2.2.2.2.2.1,y6.2.2.2.2.2.2.1,y6.2.2.2.2.2.2.2.1,y6.2.2.2.2.2.2.2.2))))))))):Option ((Int×Int×Int×Int×Int×Int×(List Int)×(List Ao)×(List Int)×Int)⊕((Int×Int×Int×Int×Int×(List Int)×(List Ao)×(List Int)×Int)⊕(Aa×Ac×Bool)))))
theorem A34  (a0:List A4):mj a0=((Option.bind (if((a0.length:Int)==(0:Int))=true then(some (.inr (((⟨(⟨(0:Int),(0:Int)⟩:Ax),(0:Int),(0:Int),(0:Int),[],[],[],(0:Int)⟩:Aa),(⟨(1:Int),(1:Int),(4:Int)⟩:Ac),true))))else(some (.inl ()))) (Af fun(_:Unit)=>(Option.bind (Option.bind (some (.inl ())) (Af fun(_:Unit)=>(Am (Fl a0) ((0:Int),(0:Int),(0:Int),(0:Int),(0:Int),(0:Int),[],[],[],(0:Int))))) (Af fun(y7:Int×Int×Int×Int×Int×(List Int)×(List Ao)×(List Int)×Int)=>(if(!((a0.length:Int)==(1:Int)))=true→((IntKind.wrap .i64 ((IntKind.wrap .i64 (y7.2.2.2.1 * y7.2.2.2.2.1))+1))≠0)then(if(((a0.length:Int)==(1:Int)) || ((Int.tmod (IntKind.wrap .i64 ((a0.length:Int) - (1:Int))) (IntKind.wrap .i64 ((IntKind.wrap .i64 (y7.2.2.2.1 * y7.2.2.2.2.1))+1))) != 0))=true then(if(0≤(IntKind.wrap .i64 ((a0.length:Int) - (1:Int))))then(if((IntKind.wrap .i64 ((a0.length:Int) - (1:Int))) < (a0.length:Int))then(some ((⟨(⟨(0:Int),(0:Int)⟩:Ax),(0:Int),(0:Int),(0:Int),[],[],[],(0:Int)⟩:Aa),(⟨(IntKind.wrap .i64 ((a0.getD (IntKind.wrap .i64 ((a0.length:Int) - (1:Int))).toNat default).Ae+1)),(1:Int),(4:Int)⟩:Ac),true))else none)else none)else(some ((⟨(⟨y7.1,y7.2.1⟩:Ax),y7.2.2.1,y7.2.2.2.1,y7.2.2.2.2.1,y7.2.2.2.2.2.1,y7.2.2.2.2.2.2.1,y7.2.2.2.2.2.2.2.1,y7.2.2.2.2.2.2.2.2⟩:Aa),(⟨(0:Int),(0:Int),(0:Int)⟩:Ac),false)))else none))))):Option (Aa×Ac×Bool)):=M34 _
theorem M10 (a0:List UInt8):Xd a0=((Option.bind (Option.bind (Q1 a0) fun r=>some r) fun x1=>(if(decide (0 < (x1.1.length:Int)))=true then(some ((⟨(⟨(0:Int),(0:Int)⟩:Ax),(0:Int),(0:Int),(0:Int),[],[],[],(0:Int)⟩:Aa),x1.1))else(Option.bind (Option.bind (mj x1.2) fun r=>some r) fun x4=>(if x4.2.2=true then(some ((⟨(⟨(0:Int),(0:Int)⟩:Ax),(0:Int),(0:Int),(0:Int),[],[],[],(0:Int)⟩:Aa),([x4.2.1]:List Ac)))else(some (x4.1,[])))))):Option (Aa×(List Ac))):=by kernel_rfl
theorem A10  (a0:List UInt8):Xd a0=((Option.bind (Option.bind (Q1 a0) fun r=>some r) fun x1=>(if(decide (0 < (x1.1.length:Int)))=true then(some ((⟨(⟨(0:Int),(0:Int)⟩:Ax),(0:Int),(0:Int),(0:Int),[],[],[],(0:Int)⟩:Aa),x1.1))else(Option.bind (Option.bind (mj x1.2) fun r=>some r) fun x4=>(if x4.2.2=true then(some ((⟨(⟨(0:Int),(0:Int)⟩:Ax),(0:Int),(0:Int),(0:Int),[],[],[],(0:Int)⟩:Aa),([x4.2.1]:List Ac)))else(some (x4.1,[])))))):Option (Aa×(List Ac))):=M10 _
theorem Vi (L:A4):Q4 L=some ():=by rw[A91o0]
abbrev tG (i:Int) (g:Aa):Int×Int×Int×Int×Int×Int×(List Int)×(List Ao)×(List Int)×Int:=(i,g.Corner.X,g.Corner.Y,g.Cell,g.NX,g.NY,g.Alts,g.Winds,g.Devs,g.Err)
theorem zq {ls:List A4} (hl:ls.length≤300001) (ho:∀ L∈ls,Dd L) (h:0 < ls.length) {L:A4} (hL:ls.getD 0 default=L) (g:Aa) :
  Fl ls (tG 0 g)=if(Cl L).f.1=true then some (.inr (.inr (zG,(Cl L).f.2,true)))else some (.inl (tG 1 ⟨⟨(Cl L).x,(Cl L).y⟩,(Cl L).c,(Cl L).a,(Cl L).b,g.Alts,g.Winds,g.Devs,(Cl L).e⟩)):=by
 have O:Dd L:=hL ▸ ho _ (Ce h)
 obtain⟨v,hw⟩:=Vo (w:=wGRID) O (s:=s0) (Nat.zero_le _)
 obtain⟨n0,n1,n2,n3,n4,n5,n6⟩:=hq_n (L:=L)
 have k0:Em [wGRID] ⟨L,0,1,⟨0,0,0⟩,false⟩=some (v,L.Ae,L.A5,Cq (On L)):=hw
 have k1:Bj (-2000000) 2000000 ⟨L,((On L).n:Int),(On L).l,(On L).d,(On L).d.Code != 0⟩=some ((J0 L).1,L.Ae,L.A5,Cq (J0 L).2):=Gv (by decide) (by decide) O n0
 have k2:Bj (-2000000) 2000000 ⟨L,((J0 L).2.n:Int),(J0 L).2.l,(J0 L).2.d,(J0 L).2.d.Code != 0⟩=some ((hq2 L).1,L.Ae,L.A5,Cq (hq2 L).2):=Gv (by decide) (by decide) O n1
 have k3:Bj 1 2000000 ⟨L,((hq2 L).2.n:Int),(hq2 L).2.l,(hq2 L).2.d,(hq2 L).2.d.Code != 0⟩=some ((K4 L).1,L.Ae,L.A5,Cq (K4 L).2):=Gv (by decide) (by decide) O n2
 have k4:Bj 1 16 ⟨L,((K4 L).2.n:Int),(K4 L).2.l,(K4 L).2.d,(K4 L).2.d.Code != 0⟩=some ((K5 L).1,L.Ae,L.A5,Cq (K5 L).2):=Gv (by decide) (by decide) O n3
 have k5:Bj 1 16 ⟨L,((K5 L).2.n:Int),(K5 L).2.l,(K5 L).2.d,(K5 L).2.d.Code != 0⟩=some ((K6 L).1,L.Ae,L.A5,Cq (K6 L).2):=Gv (by decide) (by decide) O n4
 have k6:Bj 0 60 ⟨L,((K6 L).2.n:Int),(K6 L).2.l,(K6 L).2.d,(K6 L).2.d.Code != 0⟩=some ((Mq L).1,L.Ae,L.A5,Cq (Mq L).2):=Gv (by decide) (by decide) O n5
 have k7:Gr ⟨L,((Mq L).2.n:Int),(Mq L).2.l,(Mq L).2.d,(Mq L).2.d.Code != 0⟩=some ((Cl L).f.1,(Cl L).f.2.Line,(Cl L).f.2.Aj,(Cl L).f.2.Code):=Z2 n6
 simp only[Fl]
 rw[if_pos (decide_eq_true (show (0:Int) < (ls.length:Int) from by omega)),show (0:Int).toNat=0 from rfl,hL]
 simp only[bs,ol]
 rw[if_pos (by decide),if_pos (by omega)]
 simp only[bs,ol,Vi]
 rw[if_pos (by decide),show ([71,82,73,68]:List UInt8)=wGRID from rfl,k0]
 simp only[bs,Cq]
 rw[k1]
 simp only[bs,Cq]
 rw[k2]
 simp only[bs,Cq]
 rw[k3]
 simp only[bs,Cq]
 rw[k4]
 simp only[bs,Cq]
 rw[k5]
 simp only[bs,Cq]
 rw[k6]
 simp only[bs,Cq,ol]
 rw[k7]
 simp only[bs]
 cases hb:(Cl L).f.1 with
 | true=>rfl
 | false=>rfl
theorem zu {ls:List A4} (hl:ls.length≤300001) (ho:∀ L∈ls,Dd L) {i:Nat} (h:i < ls.length) (h1:1≤i) {L:A4} (hL:ls.getD i default=L) (g:Aa) {K:Nat} (hK:K≤256) (hK2:IntKind.wrap .i64 (g.NX * g.NY)=(K:Int)) (hm:(i - 1) % (K+1)≠0) (hw1:g.Winds.length≤1000000) (hd1:g.Devs.length≤1000000) :
  Fl ls (tG (i:Int) g)=if(Gm L).1=true then some (.inr (.inr (zG,(Gm L).2,true)))else some (.inl (tG ((i+1:Nat):Int) { g with Winds:=g.Winds++[Lj L],Devs:=g.Devs++[Nc L] })):=by
 have O:Dd L:=hL ▸ ho _ (Ce h)
 obtain⟨v,hw⟩:=Vo (w:=wWIND) O (s:=s0) (Nat.zero_le _)
 obtain⟨n0,n1,n2,n3⟩:=wq_n (L:=L)
 have k0:Em [wWIND] ⟨L,0,1,⟨0,0,0⟩,false⟩=some (v,L.Ae,L.A5,Cq (Pa L)):=hw
 have k1:Bj (-340) 340 ⟨L,((Pa L).n:Int),(Pa L).l,(Pa L).d,(Pa L).d.Code != 0⟩=some ((Lk L).1,L.Ae,L.A5,Cq (Lk L).2):=Gv (by decide) (by decide) O n0
 have k2:Bj (-340) 340 ⟨L,((Lk L).2.n:Int),(Lk L).2.l,(Lk L).2.d,(Lk L).2.d.Code != 0⟩=some ((Ll L).1,L.Ae,L.A5,Cq (Ll L).2):=Gv (by decide) (by decide) O n1
 have k3:Bj (-4000) 4000 ⟨L,((Ll L).2.n:Int),(Ll L).2.l,(Ll L).2.d,(Ll L).2.d.Code != 0⟩=some ((S8 L).1,L.Ae,L.A5,Cq (S8 L).2):=Gv (by decide) (by decide) O n2
 have k7:Gr ⟨L,((S8 L).2.n:Int),(S8 L).2.l,(S8 L).2.d,(S8 L).2.d.Code != 0⟩=some ((Gm L).1,(Gm L).2.Line,(Gm L).2.Aj,(Gm L).2.Code):=Z2 n3
 have e1:IntKind.wrap .i64 ((i:Int) - 1)=((i - 1:Nat):Int):=by rw[Bh (by omega) (by omega)];omega
 have e2:IntKind.wrap .i64 ((K:Int)+1)=((K+1:Nat):Int):=wn (by omega)
 have e3:Int.tmod ((i - 1:Nat):Int) ((K+1:Nat):Int)=(((i - 1) % (K+1):Nat):Int):=rfl
 simp only[Fl,Int.toNat_natCast]
 rw[if_pos (decide_eq_true (show (i:Int) < (ls.length:Int) from by omega)),hL,hK2,e2,e1,e3]
 simp only[bs,ol]
 rw[if_pos (show (0:Int)≤(i:Int) from by omega),if_pos (show (i:Int) < (ls.length:Int) from by omega)]
 simp only[bs,ol,Vi]
 rw[if_neg (show ¬ ((i:Int)==0)=true from by simp;omega),if_pos (show ((K+1:Nat):Int)≠0 from by omega)]
 simp only[bs,ol]
 rw[if_neg (show ¬ ((((i - 1) % (K+1):Nat):Int)==0)=true from fun e=>hm (by have h:=eq_of_beq e;generalize (i - 1) % (K+1)=r at h ⊢;omega)),show ([87,73,78,68]:List UInt8)=wWIND from rfl,k0]
 simp only[bs,Cq]
 rw[k1]
 simp only[bs,Cq]
 rw[k2]
 simp only[bs,Cq]
 rw[if_pos (Xu hw1),k3]
 simp only[bs,Cq]
 rw[if_pos (Xv hd1)]
 simp only[bs,ol]
 rw[k7]
 simp only[bs]
 cases hb:(Gm L).1 with
 | true=>rfl
 | false =>
  simp only[Bool.false_eq_true,if_false,bs,ol]
  rw[wn (by omega)]
  rfl
theorem ul {ls : List A4} (hl : ls.length ≤ 300001) (ho : ∀ L ∈ ls, Dd L) {i : Nat} (h : i < ls.length) (h1 : 1 ≤ i) {L : A4} (hL : ls.getD i default = L) (g : Aa) {K : Nat} (hK : K ≤ 256) (hK2 : IntKind.wrap .i64 (g.NX * g.NY) = (K : Int)) (hm : (i - 1) % (K + 1) = 0) (ha : g.Alts.length ≤ 1000) :
    Fl ls (tG (i : Int) g) = match Lg g.Alts L with
      | .inr d => some (.inr (.inr (zG, d, true)))
      | .inl z => some (.inl (tG ((i + 1 : Nat) : Int) { g with Alts := g.Alts ++ [z] })) := by
  have O : Dd L := hL ▸ ho _ (Ce h)
  have hne := O.ne
  obtain ⟨v, hw⟩ := Vo (w := wLEVEL) O (s := s0) (Nat.zero_le _)
  obtain ⟨n0, n1, n2⟩ := lq_n (k := g.Alts.length) (L := L)
  have k0 : Em [wLEVEL] ⟨L, 0, 1, ⟨0, 0, 0⟩, false⟩ = some (v, L.Ae, L.A5, Cq (E3 L)) := hw
  have k1 : Nq ⟨L, ((Ew g.Alts.length L).n : Int), (Ew g.Alts.length L).l, (Ew g.Alts.length L).d, (Ew g.Alts.length L).d.Code != 0⟩ = some ((Nl g.Alts.length L).1, L.Ae, L.A5, Cq (Nl g.Alts.length L).2) := ralt_eq O n1
  have k7 : Gr ⟨L, ((Nl g.Alts.length L).2.n : Int), (Nl g.Alts.length L).2.l, (Nl g.Alts.length L).2.d, (Nl g.Alts.length L).2.d.Code != 0⟩ = some ((Lf g.Alts.length L).1, (Lf g.Alts.length L).2.Line, (Lf g.Alts.length L).2.Aj, (Lf g.Alts.length L).2.Code) := Z2 n2
  have kF : Np 3 ⟨L, ((E3 L).n : Int), (E3 L).l, (E3 L).d, (E3 L).d.Code != 0⟩ = some (((E3 L).fail L.Ae (E3 L).l 3).d.Line, ((E3 L).fail L.Ae (E3 L).l 3).d.Aj, ((E3 L).fail L.Ae (E3 L).l 3).d.Code, ((E3 L).fail L.Ae (E3 L).l 3).d.Code != 0) := AAo 3
  have e1 : IntKind.wrap .i64 ((i : Int) - 1) = ((i - 1 : Nat) : Int) := by rw [Bh (by omega) (by omega)]; omega
  have e2 : IntKind.wrap .i64 ((K : Int) + 1) = ((K + 1 : Nat) : Int) := wn (by omega)
  have e3 : Int.tmod ((i - 1 : Nat) : Int) ((K + 1 : Nat) : Int) = (((i - 1) % (K + 1) : Nat) : Int) := rfl
  have ew : 0 < g.Alts.length → IntKind.wrap .i64 ((g.Alts.length : Int) - (1 : Int)) = ((g.Alts.length - 1 : Nat) : Int) := fun h0 => by rw [Bh (by omega) (by omega)]; omega
  have hst : ∀ q : Sc, q = Ew g.Alts.length L → (((g.Alts.length : Int) == (8 : Int)) = true → (E3 L).fail L.Ae (E3 L).l 3 = q) ∧ (¬ ((g.Alts.length : Int) == (8 : Int)) = true → E3 L = q) := fun q hq => by
    subst hq
    refine ⟨fun h8 => ?_, fun h8 => ?_⟩
    · unfold Ew; rw [if_pos (by have : (g.Alts.length : Int) = 8 := by simpa using h8
                                omega)]
    · unfold Ew; rw [if_neg (fun e => h8 (by simp [e]))]
  obtain ⟨hs1, hs2⟩ := hst _ rfl
  simp only [Fl, Int.toNat_natCast]
  rw [if_pos (decide_eq_true (show (i : Int) < (ls.length : Int) from by omega)), hL, hK2, e2, e1, e3]
  simp only [bs, ol]
  rw [if_pos (show (0 : Int) ≤ (i : Int) from by omega), if_pos (show (i : Int) < (ls.length : Int) from by omega)]
  simp only [bs, ol, Vi]
  rw [if_neg (show ¬ ((i : Int) == 0) = true from by simp; omega), if_pos (show ((K + 1 : Nat) : Int) ≠ 0 from by omega)]
  simp only [bs, ol]
  rw [if_pos (show ((((i - 1) % (K + 1) : Nat) : Int) == 0) = true from by rw [hm]; rfl), show ([76, 69, 86, 69, 76] : List UInt8) = wLEVEL from rfl, k0]
  simp only [bs, Cq, ol]
  have mid : ∀ {β : Type} (f : Int × (List Ad) × Int × Int × Int × Int × Int × Bool → Option β) (X : Option ((Int × (List Ad) × Int × Int × Int × Int × Int × Bool) ⊕ β)), X = some (.inl (L.Ae, L.A5, Cq (Ew g.Alts.length L))) → Option.bind X (Af f) = f (L.Ae, L.A5, Cq (Ew g.Alts.length L)) := fun f X h => by rw [h]; rfl
  rw [mid _ _ (by
    by_cases h8 : ((g.Alts.length : Int) == (8 : Int)) = true
    · rw [if_pos h8, kF, hs1 h8]
      simp only [bs]
      have q1 : (E3 L).n = (Ew g.Alts.length L).n := by rw [← hs1 h8, Dz]
      have q2 : (E3 L).l = (Ew g.Alts.length L).l := by rw [← hs1 h8, H7]
      rw [q1, q2]
      rfl
    · rw [if_neg h8, hs2 h8]
      rfl)]
  simp only [Cq]
  rw [k1]
  simp only [bs, Cq]
  rw [if_pos (Xv (by omega))]
  simp only [bs, ol]
  rw [k7]
  simp only [bs]
  have hlen1 : ((g.Alts ++ [(Nl g.Alts.length L).1]).length : Int) = (g.Alts.length : Int) + 1 := by simp
  have hg1 : (g.Alts ++ [(Nl g.Alts.length L).1]).getD g.Alts.length default = Qr g.Alts.length L := by simp [Qr]
  unfold Lg
  cases hb : (Lf g.Alts.length L).1 with
  | true => rfl
  | false =>
    simp only [Bool.false_eq_true, if_false]
    rw [if_pos (by intro _; omega), if_pos (by intro _; omega), if_pos (by intro hp; have := of_decide_eq_true hp; rw [ew (by omega)]; omega), if_pos (by intro hp; have := of_decide_eq_true hp; rw [ew (by omega)]; omega)]
    simp only [hg1]
    by_cases h0 : 0 < g.Alts.length
    · rw [ew h0, Int.toNat_natCast, show decide ((0 : Int) < (g.Alts.length : Int)) = true from decide_eq_true (by omega), Bool.true_and]
      rw [show (g.Alts ++ [(Nl g.Alts.length L).1]).getD (g.Alts.length - 1) default = g.Alts.getD (g.Alts.length - 1) default from by
        rw [List.getD_eq_getElem?_getD, List.getD_eq_getElem?_getD, List.getElem?_append_left (by omega)]]
      by_cases hle : Qr g.Alts.length L ≤ g.Alts.getD (g.Alts.length - 1) default
      · rw [if_pos (decide_eq_true hle), if_pos (by decide), if_pos (by omega), if_pos (show 0 < g.Alts.length ∧ _ from ⟨h0, hle⟩)]
        rfl
      · rw [if_neg (by simpa using hle), if_neg (show ¬ (0 < g.Alts.length ∧ _) from fun h => hle h.2)]
        simp only [bs, ol]
        rw [k7]
        simp only [bs, hb, Bool.false_eq_true, if_false, ol]
        rw [wn (by omega)]
        rfl
    · rw [show decide ((0 : Int) < (g.Alts.length : Int)) = false from decide_eq_false (by omega), Bool.false_and, if_neg (by decide), if_neg (show ¬ (0 < g.Alts.length ∧ _) from fun h => h0 h.1)]
      simp only [bs, ol]
      rw [k7]
      simp only [bs, hb, Bool.false_eq_true, if_false, ol]
      rw [wn (by omega)]
      rfl
theorem rloop {ls:List A4} (hl:ls.length≤300001) (ho:∀ L∈ls,Dd L) {K:Nat} (hK:K≤256):∀ (k i:Nat) (g:Aa),i+k=ls.length→1≤i→IntKind.wrap .i64 (g.NX * g.NY)=(K:Int)→g.Alts.length≤8→g.Winds.length≤i→g.Devs.length≤i →
  (∃ d,Am (Fl ls) (tG (i:Int) g)=some (.inr (zG,d,true))∧E9 K ls k i g=.inr d) ∨
  (∃ g',Am (Fl ls) (tG (i:Int) g)=some (.inl (tG 0 g').2)∧E9 K ls k i g=.inl g'∧g'.NX=g.NX∧g'.NY=g.NY):=by
 intro k
 induction k with
 | zero =>
  intro i g hi h1 hK2 ha hw hd
  obtain rfl:i=ls.length:=by omega
  refine .inr ⟨g,Be ?_,rfl,rfl,rfl⟩
  simp only[Fl,Int.lt_irrefl,decide_false,Bool.false_eq_true,if_false,bs,ol,Lh]
 | succ k ih =>
  intro i g hi h1 hK2 ha hw hd
  have h:i < ls.length:=by omega
  have hrun:E9 K ls (k+1) i g=match Dp K (ls.getD i default) i g with | .inr d=>(Sum.inr d:Aa⊕Ac) | .inl g'=>E9 K ls k (i+1) g':=rfl
  rw[hrun]
  unfold Dp
  by_cases hm:(i - 1) % (K+1)=0
  ·rw[if_pos hm]
   have T:=ul hl ho h h1 rfl g hK hK2 hm (by omega)
   cases hlv:Lg g.Alts (ls.getD i default) with
   | inr d=>rw[hlv]at T;exact .inl ⟨d,Be T,rfl⟩
   | inl z =>
    rw[hlv]at T
    have hz:=(fq hlv).1
    rcases ih (i+1) { g with Alts:=g.Alts++[z] } (by omega) (by omega) hK2 (by show (g.Alts++[z]).length≤8;simp;omega) (by show g.Winds.length≤_;omega) (by show g.Devs.length≤_;omega) with⟨d,q1,q2⟩ | ⟨g',q1,q2,q3,q4⟩
    ·exact .inl ⟨d,Bg T q1,q2⟩
    ·exact .inr ⟨g',Bg T q1,q2,q3,q4⟩
  ·rw[if_neg hm]
   have T:=zu hl ho h h1 rfl g hK hK2 hm (by omega) (by omega)
   cases hb:(Gm (ls.getD i default)).1 with
   | true=>rw[hb]at T;exact .inl ⟨_,Be T,rfl⟩
   | false =>
    rw[hb]at T
    rcases ih (i+1) { g with Winds:=g.Winds++[Lj (ls.getD i default)],Devs:=g.Devs++[Nc (ls.getD i default)] } (by omega) (by omega) hK2 ha (by simp;omega) (by simp;omega) with⟨d,q1,q2⟩ | ⟨g',q1,q2,q3,q4⟩
    ·exact .inl ⟨d,Bg T q1,q2⟩
    ·exact .inr ⟨g',Bg T q1,q2,q3,q4⟩
theorem AB1 {ls:List A4} (hl:ls.length≤300001) (ho:∀ L∈ls,Dd L):∃ g d b,mj ls=some (g,d,b)∧(if b=true then(zG,[d])else(g,[]))=pG ls:=by
 rw[A34]
 unfold pG
 by_cases h0:ls.length=0
 ·rw[if_pos (show ((ls.length:Int)==(0:Int))=true from by simp[h0]),if_pos h0]
  refine⟨zG,⟨1,1,4⟩,true,rfl,?_⟩
  rw[show Cm ls=⟨1,1,4⟩ from if_neg (by omega)]
  rfl
 ·rw[if_neg (show ¬ ((ls.length:Int)==(0:Int))=true from fun e=>h0 (by have:=eq_of_beq e;omega)),if_neg h0]
  simp only[bs,ol]
  have hpos:0 < ls.length:=by omega
  have TH:=zq hl ho hpos rfl zG
  rw[show Am (Fl ls) ((0:Int),(0:Int),(0:Int),(0:Int),(0:Int),(0:Int),([]:List Int),([]:List Ao),([]:List Int),(0:Int))=Am (Fl ls) (tG 0 zG) from rfl]
  generalize hh:Cl (ls.getD 0 default)=hd at TH
  cases hb:hd.f.1 with
  | true =>
   rw[hb]at TH
   rw[if_pos rfl,Be TH]
   simp only[bs,Lh]
   exact⟨_,_,_,rfl,rfl⟩
  | false =>
   rw[hb]at TH
   rw[if_neg (show ¬ (false=true) from by decide)]
   have H:AA3 hd:=by rw[← hh];exact sy (by rw[hh];exact hb)
   obtain⟨k1,k2',k3⟩:=Sd H.a H.b
   generalize (hd.a * hd.b).toNat=K at k1 k2'
   have e2:IntKind.wrap .i64 ((K:Int)+1)=((K+1:Nat):Int):=wn (by omega)
   have e1:IntKind.wrap .i64 ((ls.length:Int) - (1:Int))=((ls.length - 1:Nat):Int):=by rw[Bh (by omega) (by omega)];omega
   have e3:Int.tmod ((ls.length - 1:Nat):Int) ((K+1:Nat):Int)=(((ls.length - 1) % (K+1):Nat):Int):=rfl
   rcases rloop hl ho k1 (ls.length - 1) 1 (Wu hd) (by omega) (Nat.le_refl _) k2' (Nat.zero_le _) (Nat.zero_le _) (Nat.zero_le _) with⟨d,q1,q2⟩ | ⟨g',q1,q2,q3,q4⟩
   ·rw[Bg TH q1,q2]
    simp only[bs,Lh]
    exact⟨_,_,_,rfl,rfl⟩
   ·rw[Bg TH q1,q2]
    simp only[bs,ol]
    rw[q3,q4,show (Wu hd).NX=hd.a from rfl,show (Wu hd).NY=hd.b from rfl,k2',e2,e1,e3]
    rw[if_pos (show (!((ls.length:Int)==(1:Int)))=true→((K+1:Nat):Int)≠0 from fun _=>by omega)]
    unfold V0
    simp only
    have O:=ho _ (Ce (l:=ls) (i:=ls.length - 1) (by omega))
    by_cases hc:ls.length=1∨(ls.length - 1) % (K+1)≠0
    ·rw[if_pos (show (((ls.length:Int)==(1:Int)) || ((((ls.length - 1) % (K+1):Nat):Int) != 0))=true from by
      rcases hc with h | h
      ·simp[h]
      ·have:¬ ((((ls.length - 1) % (K+1):Nat):Int)=0):=fun e=>h (by omega)
       simp only[Bool.or_eq_true,bne_iff_ne,ne_eq]
       exact .inr this),if_pos hc,if_pos (by omega),if_pos (by omega),Int.toNat_natCast]
     refine⟨_,_,_,rfl,?_⟩
     unfold Cm
     rw[if_pos rfl,if_pos hpos,Bh (by have:=O.num;omega) (by have:=O.num;omega)]
    ·rw[if_neg (show ¬ (((ls.length:Int)==(1:Int)) || ((((ls.length - 1) % (K+1):Nat):Int) != 0))=true from fun e=>hc (by
      rw[Bool.or_eq_true]at e
      rcases e with e | e
      ·left;have:(ls.length:Int)=1:=by simpa using e
       omega
      ·right
       rw[bne_iff_ne]at e
       intro e2;rw[e2]at e;exact e rfl)),if_neg hc]
     refine⟨_,_,_,rfl,?_⟩
     rw[if_neg (show ¬ (false=true) from by decide),show hd.a=g'.NX from q3.symm,show hd.b=g'.NY from q4.symm]
theorem Parse_r (s:List UInt8):Xd s=some (C8 s):=by
 rw[A10,Read_r]
 simp only[bs]
 unfold C8
 obtain⟨hl,ho⟩:=jk s
 generalize Dn s=R at hl ho
 obtain⟨ds,ls⟩:=R
 simp only at hl ho ⊢
 by_cases hd:0 < ds.length
 ·rw[if_pos (decide_eq_true (show (0:Int) < (ds.length:Int) from by omega)),if_pos hd]
  rfl
 ·rw[if_neg (show ¬ decide ((0:Int) < (ds.length:Int))=true from fun e=>hd (by have:=of_decide_eq_true e;omega)),if_neg hd]
  obtain⟨g,d,b,q1,q2⟩:=AB1 hl ho
  rw[q1,← q2]
  simp only[bs]
  cases b<;>rfl
end Go.Av.Txs
set_option maxRecDepth 100000
namespace Go.Av.Txs
open Go.Av
theorem M25 (a0:Int):mh a0=((if((decide (a0 < (-200000:Int))) || (decide (6000000 < a0)))=true then(some (([]:List UInt8),(2:Int)))else(if(decide (a0 < 0))=true then(Option.bind ((if(100:Int)≠0 then((E4 (IntKind.wrap .i64 (Int.tdiv (IntKind.wrap .i64 (0 - a0)) (100:Int))) (10:Int)).bind fun r6_0=>(if([45]:List UInt8).length+r6_0.length≤9223372036854775807 then some r6_0 else none))else none)) fun(x6:((List UInt8)))=>(if((100:Int)≠0)then(if((Int.tmod (IntKind.wrap .i64 (0 - a0)) (100:Int)) != 0)=true then(Option.bind ((if(10:Int)≠0 then((E4 (IntKind.wrap .i64 (Int.tdiv (Int.tmod (IntKind.wrap .i64 (0 - a0)) (100:Int)) (10:Int))) (10:Int)).bind fun r9_0=>(if([46]:List UInt8).length+r9_0.length≤9223372036854775807 then(if(10:Int)≠0 then((E4 (Int.tmod (Int.tmod (IntKind.wrap .i64 (0 - a0)) (100:Int)) (10:Int)) (10:Int)).bind fun r9_1=>(if(([46]:List UInt8)++r9_0).length+r9_1.length≤9223372036854775807 then(if(([45]:List UInt8)++x6).length+((([46]:List UInt8)++r9_0)++r9_1).length≤9223372036854775807 then some (r9_0,r9_1)else none)else none))else none)else none))else none)) fun(x9:((List UInt8)×(List UInt8)))=>(some (((([45]:List UInt8)++x6)++((([46]:List UInt8)++x9.1)++x9.2)),(0:Int))))else(some ((([45]:List UInt8)++x6),(0:Int))))else none))else(Option.bind ((if(100:Int)≠0 then((E4 (IntKind.wrap .i64 (Int.tdiv a0 (100:Int))) (10:Int)).bind fun r6_0=>(if([]:List UInt8).length+r6_0.length≤9223372036854775807 then some r6_0 else none))else none)) fun(x6:((List UInt8)))=>(if((100:Int)≠0)then(if((Int.tmod a0 (100:Int)) != 0)=true then(Option.bind ((if(10:Int)≠0 then((E4 (IntKind.wrap .i64 (Int.tdiv (Int.tmod a0 (100:Int)) (10:Int))) (10:Int)).bind fun r9_0=>(if([46]:List UInt8).length+r9_0.length≤9223372036854775807 then(if(10:Int)≠0 then((E4 (Int.tmod (Int.tmod a0 (100:Int)) (10:Int)) (10:Int)).bind fun r9_1=>(if(([46]:List UInt8)++r9_0).length+r9_1.length≤9223372036854775807 then(if(([]:List UInt8)++x6).length+((([46]:List UInt8)++r9_0)++r9_1).length≤9223372036854775807 then some (r9_0,r9_1)else none)else none))else none)else none))else none)) fun(x9:((List UInt8)×(List UInt8)))=>(some (((([]:List UInt8)++x6)++((([46]:List UInt8)++x9.1)++x9.2)),(0:Int))))else(some ((([]:List UInt8)++x6),(0:Int))))else none)))):Option ((List UInt8)×Int)):=by kernel_rfl
theorem A25  (a0:Int):mh a0=((if((decide (a0 < (-200000:Int))) || (decide (6000000 < a0)))=true then(some (([]:List UInt8),(2:Int)))else(if(decide (a0 < 0))=true then(Option.bind ((if(100:Int)≠0 then((E4 (IntKind.wrap .i64 (Int.tdiv (IntKind.wrap .i64 (0 - a0)) (100:Int))) (10:Int)).bind fun r6_0=>(if([45]:List UInt8).length+r6_0.length≤9223372036854775807 then some r6_0 else none))else none)) fun(x6:((List UInt8)))=>(if((100:Int)≠0)then(if((Int.tmod (IntKind.wrap .i64 (0 - a0)) (100:Int)) != 0)=true then(Option.bind ((if(10:Int)≠0 then((E4 (IntKind.wrap .i64 (Int.tdiv (Int.tmod (IntKind.wrap .i64 (0 - a0)) (100:Int)) (10:Int))) (10:Int)).bind fun r9_0=>(if([46]:List UInt8).length+r9_0.length≤9223372036854775807 then(if(10:Int)≠0 then((E4 (Int.tmod (Int.tmod (IntKind.wrap .i64 (0 - a0)) (100:Int)) (10:Int)) (10:Int)).bind fun r9_1=>(if(([46]:List UInt8)++r9_0).length+r9_1.length≤9223372036854775807 then(if(([45]:List UInt8)++x6).length+((([46]:List UInt8)++r9_0)++r9_1).length≤9223372036854775807 then some (r9_0,r9_1)else none)else none))else none)else none))else none)) fun(x9:((List UInt8)×(List UInt8)))=>(some (((([45]:List UInt8)++x6)++((([46]:List UInt8)++x9.1)++x9.2)),(0:Int))))else(some ((([45]:List UInt8)++x6),(0:Int))))else none))else(Option.bind ((if(100:Int)≠0 then((E4 (IntKind.wrap .i64 (Int.tdiv a0 (100:Int))) (10:Int)).bind fun r6_0=>(if([]:List UInt8).length+r6_0.length≤9223372036854775807 then some r6_0 else none))else none)) fun(x6:((List UInt8)))=>(if((100:Int)≠0)then(if((Int.tmod a0 (100:Int)) != 0)=true then(Option.bind ((if(10:Int)≠0 then((E4 (IntKind.wrap .i64 (Int.tdiv (Int.tmod a0 (100:Int)) (10:Int))) (10:Int)).bind fun r9_0=>(if([46]:List UInt8).length+r9_0.length≤9223372036854775807 then(if(10:Int)≠0 then((E4 (Int.tmod (Int.tmod a0 (100:Int)) (10:Int)) (10:Int)).bind fun r9_1=>(if(([46]:List UInt8)++r9_0).length+r9_1.length≤9223372036854775807 then(if(([]:List UInt8)++x6).length+((([46]:List UInt8)++r9_0)++r9_1).length≤9223372036854775807 then some (r9_0,r9_1)else none)else none))else none)else none))else none)) fun(x9:((List UInt8)×(List UInt8)))=>(some (((([]:List UInt8)++x6)++((([46]:List UInt8)++x9.1)++x9.2)),(0:Int))))else(some ((([]:List UInt8)++x6),(0:Int))))else none)))):Option ((List UInt8)×Int)):=M25 _
theorem M29 (a0:Int):fx a0=((if((decide (a0 < (-200000:Int))) || (decide (6000000 < a0)))=true then(some (([]:List UInt8),(2:Int)))else(if(decide (a0 < 0))=true then(Option.bind ((if(100:Int)≠0 then((Gf (IntKind.wrap .i64 (Int.tdiv (IntKind.wrap .i64 (0 - a0)) (100:Int)))).bind fun r7_0=>(if([45]:List UInt8).length+r7_0.length≤9223372036854775807 then some r7_0 else none))else none)) fun(x7:((List UInt8)))=>(if((100:Int)≠0)then(if((Int.tmod (IntKind.wrap .i64 (0 - a0)) (100:Int)) != 0)=true then(Option.bind ((if(([45]:List UInt8)++x7).length+([46]:List UInt8).length≤9223372036854775807 then(if(100:Int)≠0 then(if(10:Int)≠0 then((Gf (IntKind.wrap .i64 (Int.tdiv (Int.tmod (IntKind.wrap .i64 (0 - a0)) (100:Int)) (10:Int)))).bind fun r9_0=>(if((([45]:List UInt8)++x7)++([46]:List UInt8)).length+r9_0.length≤9223372036854775807 then(if(10:Int)≠0 then((Gf (Int.tmod (IntKind.wrap .i64 (0 - a0)) (10:Int))).bind fun r9_1=>(if(((([45]:List UInt8)++x7)++([46]:List UInt8))++r9_0).length+r9_1.length≤9223372036854775807 then some (r9_0,r9_1)else none))else none)else none))else none)else none)else none)) fun(x9:((List UInt8)×(List UInt8)))=>(some (((((([45]:List UInt8)++x7)++([46]:List UInt8))++x9.1)++x9.2),(0:Int))))else(some ((([45]:List UInt8)++x7),(0:Int))))else none))else(Option.bind ((if(100:Int)≠0 then((Gf (IntKind.wrap .i64 (Int.tdiv a0 (100:Int)))).bind fun r7_0=>(if([]:List UInt8).length+r7_0.length≤9223372036854775807 then some r7_0 else none))else none)) fun(x7:((List UInt8)))=>(if((100:Int)≠0)then(if((Int.tmod a0 (100:Int)) != 0)=true then(Option.bind ((if(([]:List UInt8)++x7).length+([46]:List UInt8).length≤9223372036854775807 then(if(100:Int)≠0 then(if(10:Int)≠0 then((Gf (IntKind.wrap .i64 (Int.tdiv (Int.tmod a0 (100:Int)) (10:Int)))).bind fun r9_0=>(if((([]:List UInt8)++x7)++([46]:List UInt8)).length+r9_0.length≤9223372036854775807 then(if(10:Int)≠0 then((Gf (Int.tmod a0 (10:Int))).bind fun r9_1=>(if(((([]:List UInt8)++x7)++([46]:List UInt8))++r9_0).length+r9_1.length≤9223372036854775807 then some (r9_0,r9_1)else none))else none)else none))else none)else none)else none)) fun(x9:((List UInt8)×(List UInt8)))=>(some (((((([]:List UInt8)++x7)++([46]:List UInt8))++x9.1)++x9.2),(0:Int))))else(some ((([]:List UInt8)++x7),(0:Int))))else none)))):Option ((List UInt8)×Int)):=by kernel_rfl
theorem A29  (a0:Int):fx a0=((if((decide (a0 < (-200000:Int))) || (decide (6000000 < a0)))=true then(some (([]:List UInt8),(2:Int)))else(if(decide (a0 < 0))=true then(Option.bind ((if(100:Int)≠0 then((Gf (IntKind.wrap .i64 (Int.tdiv (IntKind.wrap .i64 (0 - a0)) (100:Int)))).bind fun r7_0=>(if([45]:List UInt8).length+r7_0.length≤9223372036854775807 then some r7_0 else none))else none)) fun(x7:((List UInt8)))=>(if((100:Int)≠0)then(if((Int.tmod (IntKind.wrap .i64 (0 - a0)) (100:Int)) != 0)=true then(Option.bind ((if(([45]:List UInt8)++x7).length+([46]:List UInt8).length≤9223372036854775807 then(if(100:Int)≠0 then(if(10:Int)≠0 then((Gf (IntKind.wrap .i64 (Int.tdiv (Int.tmod (IntKind.wrap .i64 (0 - a0)) (100:Int)) (10:Int)))).bind fun r9_0=>(if((([45]:List UInt8)++x7)++([46]:List UInt8)).length+r9_0.length≤9223372036854775807 then(if(10:Int)≠0 then((Gf (Int.tmod (IntKind.wrap .i64 (0 - a0)) (10:Int))).bind fun r9_1=>(if(((([45]:List UInt8)++x7)++([46]:List UInt8))++r9_0).length+r9_1.length≤9223372036854775807 then some (r9_0,r9_1)else none))else none)else none))else none)else none)else none)) fun(x9:((List UInt8)×(List UInt8)))=>(some (((((([45]:List UInt8)++x7)++([46]:List UInt8))++x9.1)++x9.2),(0:Int))))else(some ((([45]:List UInt8)++x7),(0:Int))))else none))else(Option.bind ((if(100:Int)≠0 then((Gf (IntKind.wrap .i64 (Int.tdiv a0 (100:Int)))).bind fun r7_0=>(if([]:List UInt8).length+r7_0.length≤9223372036854775807 then some r7_0 else none))else none)) fun(x7:((List UInt8)))=>(if((100:Int)≠0)then(if((Int.tmod a0 (100:Int)) != 0)=true then(Option.bind ((if(([]:List UInt8)++x7).length+([46]:List UInt8).length≤9223372036854775807 then(if(100:Int)≠0 then(if(10:Int)≠0 then((Gf (IntKind.wrap .i64 (Int.tdiv (Int.tmod a0 (100:Int)) (10:Int)))).bind fun r9_0=>(if((([]:List UInt8)++x7)++([46]:List UInt8)).length+r9_0.length≤9223372036854775807 then(if(10:Int)≠0 then((Gf (Int.tmod a0 (10:Int))).bind fun r9_1=>(if(((([]:List UInt8)++x7)++([46]:List UInt8))++r9_0).length+r9_1.length≤9223372036854775807 then some (r9_0,r9_1)else none))else none)else none))else none)else none)else none)) fun(x9:((List UInt8)×(List UInt8)))=>(some (((((([]:List UInt8)++x7)++([46]:List UInt8))++x9.1)++x9.2),(0:Int))))else(some ((([]:List UInt8)++x7),(0:Int))))else none)))):Option ((List UInt8)×Int)):=M29 _
theorem Ml {n:Nat} (h:¬ n < 10):Lib.decDigits n=Lib.decDigits (n / 10)++Lib.decDigits (n % 10):=by
 rw[Lib.decDigits,dif_neg h,Lib.decDigits_one (i:=n % 10) (by omega)]
theorem enc_all:(List.range 10).all (fun m=>(Utf8.encode (48+(m:Int))).data==#[UInt8.ofNat (48+m)])=true:=by kernel_rfl
theorem enc_one {m:Nat} (h:m < 10):(Utf8.encode (48+(m:Int))).data.toList=Lib.decDigits m:=by
 have:=enc_all
 simp only[List.all_eq_true]at this
 have h2:=this m (List.mem_range.2 h)
 rw[Lib.decDigits_one h,eq_of_beq h2]
theorem Hu (n:Nat):Lib.itoa (n:Int)=Lib.decDigits n:=by unfold Lib.itoa;rw[if_neg (by omega)];simp
theorem V4 (n:Nat) (h:0 < n):Lib.itoa (-(n:Int))=45 :: Lib.decDigits n:=by unfold Lib.itoa;rw[if_pos (by omega)];simp
theorem D8 {n:Nat} (h:n≤9223372036854775807):(Lib.decDigits n).length≤21:=by rw[← Hu];exact Lib.itoa_length_le _ (by omega) (by omega)
theorem AAC (f:Nat) (n:Int):(Ud (f+1)).1 n=(if(decide (n < 10))=true then some (Utf8.encode (IntKind.wrap .i32 ((IntKind.wrap .i64 ((48:Int)+n))))).data.toList else Option.bind (if(10:Int)≠0 then(((Ud f).1 (IntKind.wrap .i64 (Int.tdiv n (10:Int)))).bind fun r3_0=>(if(10:Int)≠0 then(((Ud f).1 (Int.tmod n (10:Int))).bind fun r3_1=>(if r3_0.length+r3_1.length≤9223372036854775807 then some (r3_0,r3_1)else none))else none))else none) fun x3=>some (x3.1++x3.2)):=by kernel_rfl
theorem Ux : ∀ (f n : Nat), n < 10 ^ (f + 1) → n ≤ 1000000000000000 → (Ud (f + 1)).1 (n : Int) = some (Lib.decDigits n)
  | f, n, hn, hb => by
    rw [AAC]
    by_cases h : n < 10
    · rw [if_pos (decide_eq_true (by omega)), Bh (by omega) (by omega), show IntKind.wrap .i32 (48 + (n : Int)) = 48 + (n : Int) from IntWalk.i32_in _ (by omega), enc_one h]
    · rw [if_neg (by simp; omega)]
      have e1 : Int.tdiv (n : Int) 10 = ((n / 10 : Nat) : Int) := rfl
      have e2 : Int.tmod (n : Int) 10 = ((n % 10 : Nat) : Int) := rfl
      cases f with
      | zero => simp at hn; omega
      | succ f =>
        rw [e1, e2, Bh (by omega) (by omega), if_pos (by decide), Ux f (n / 10) (by rw [Nat.pow_succ] at hn; omega) (by omega)]
        simp only [bs]
        rw [if_pos (by decide), Ux f (n % 10) (by have : 10 ^ 1 ≤ 10 ^ (f + 1) := Nat.pow_le_pow_right (by decide) (by omega)
                                                  omega) (by omega)]
        simp only [bs]
        rw [if_pos (by have := D8 (n := n / 10) (by omega); have := D8 (n := n % 10) (by omega); omega)]
        simp only [bs]
        rw [← Ml h]
theorem Qy {n:Nat} (h:n≤1000000000000000):Gf (n:Int)=some (Lib.decDigits n) :=
 Ux 63 n (Nat.lt_of_le_of_lt h (by decide)) h
theorem ah (f:Nat) (n:Int):(R7 (f+1)).1 n=(if(decide (n < 0))=true then Option.bind (((R7 f).1 (IntKind.wrap .i64 (0 - n))).bind fun r2_0=>(if([45]:List UInt8).length+r2_0.length≤9223372036854775807 then some r2_0 else none)) fun x2=>some (([45]:List UInt8)++x2)
  else(if(decide (n < 10))=true then(if 0 < 1 then(if Pj 1 (Bc [(.int .u8 (IntKind.wrap .u8 ((IntKind.wrap .i64 ((48:Int)+n)))))])=true then some (Eb 1 (Bc [(.int .u8 (IntKind.wrap .u8 ((IntKind.wrap .i64 ((48:Int)+n)))))]))else none)else none)
  else Option.bind (if(10:Int)≠0 then(((R7 f).1 (IntKind.wrap .i64 (Int.tdiv n (10:Int)))).bind fun r5_0=>(if(10:Int)≠0 then(if 0 < 1 then(if Pj 1 (Bc [(.int .u8 (IntKind.wrap .u8 ((IntKind.wrap .i64 ((48:Int)+(Int.tmod n (10:Int)))))))])=true then(if r5_0.length+(Eb 1 (Bc [(.int .u8 (IntKind.wrap .u8 ((IntKind.wrap .i64 ((48:Int)+(Int.tmod n (10:Int)))))))])).length≤9223372036854775807 then some r5_0 else none)else none)else none)else none))else none) fun x5=>some (x5++(Eb 1 (Bc [(.int .u8 (IntKind.wrap .u8 ((IntKind.wrap .i64 ((48:Int)+(Int.tmod n (10:Int)))))))]))))):=by kernel_rfl
theorem ef {m:Nat} (h:m < 10):Eb 1 (Bc [(.int .u8 (IntKind.wrap .u8 ((IntKind.wrap .i64 ((48:Int)+(m:Int))))))])=Lib.decDigits m:=by
 rw[Lib.decDigits_one h,Bh (by omega) (by omega),show IntKind.wrap .u8 (48+(m:Int))=((48+m:Nat):Int) from by rw[show IntKind.wrap .u8 (48+(m:Int))=48+(m:Int) from IntWalk.u8_in _ (by omega)];omega]
 rfl
theorem ly {z:Int}:Pj 1 (Bc [(.int .u8 z)])=true:=rfl
theorem Qx:∀ (f n:Nat),n < 10 ^ (f+1)→n≤1000000000000000→(R7 (f+1)).1 (n:Int)=some (Lib.decDigits n)
 | f,n,hn,hb=>by
  rw[ah,if_neg (show ¬ decide ((n:Int) < 0)=true from by simp)]
  by_cases h:n < 10
  ·rw[if_pos (decide_eq_true (by omega)),if_pos (by decide),if_pos ly,ef h]
  ·rw[if_neg (by simp;omega)]
   have e1:Int.tdiv (n:Int) 10=((n / 10:Nat):Int):=rfl
   have e2:Int.tmod (n:Int) 10=((n % 10:Nat):Int):=rfl
   cases f with
   | zero=>simp at hn;omega
   | succ f =>
    rw[e1,e2,show IntKind.wrap .i64 ((n / 10:Nat):Int)=((n / 10:Nat):Int) from Bh (by omega) (by omega),if_pos (by decide),Qx f (n / 10) (by rw[Nat.pow_succ]at hn;omega) (by omega)]
    simp only[bs]
    rw[if_pos (by decide),if_pos (by decide),if_pos ly,ef (m:=n % 10) (by omega)]
    rw[if_pos (by have:=D8 (n:=n / 10) (by omega);have:=D8 (n:=n % 10) (by omega);omega)]
    simp only[bs]
    rw[← Ml h]
theorem Lp {z:Int} (h1 : -1000000000000000≤z) (h2:z≤1000000000000000):G2 z=some (Lib.itoa z):=by
 show (R7 (63+1)).1 z=_
 by_cases h:z < 0
 ·obtain⟨n,hn⟩:=Int.eq_ofNat_of_zero_le (by omega:0 ≤ -z)
  obtain rfl:z = -(n:Int):=by omega
  rw[ah,if_pos (decide_eq_true (by omega)),show IntKind.wrap .i64 (0 - -(n:Int))=(n:Int) from by rw[Bh (by omega) (by omega)];omega]
  rw[show (63:Nat)=62+1 from rfl,Qx 62 n (Nat.lt_of_le_of_lt (by omega:n≤1000000000000000) (by decide)) (by omega)]
  simp only[bs]
  rw[if_pos (by have:=D8 (n:=n) (by omega);simp;omega),V4 n (by omega)]
  rfl
 ·obtain⟨n,rfl⟩:=Int.eq_ofNat_of_zero_le (by omega:0≤z)
  rw[Qx 63 n (Nat.lt_of_le_of_lt (by omega:n≤1000000000000000) (by decide)) (by omega),Hu]
theorem Wp {z:Int} (h1 : -9223372036854775808≤z) (h2:z≤9223372036854775807):E4 z 10=some (Lib.itoa z):=if_pos ⟨⟨h1,h2⟩,rfl⟩
def Hs (n:Nat):List UInt8:=if n % 100=0 then[]else[46]++Lib.decDigits (n % 100 / 10)++Lib.decDigits (n % 10)
def Dx (z:Int):List UInt8:=(if z < 0 then[45]else[])++Lib.decDigits (z.natAbs / 100)++Hs z.natAbs
theorem Uu {z:Int} (h1 : -200000≤z) (h2:z≤6000000):(Dx z).length≤100:=by
 unfold Dx Hs
 have a:=D8 (n:=z.natAbs / 100) (by omega)
 have b:=D8 (n:=z.natAbs % 100 / 10) (by omega)
 have c:=D8 (n:=z.natAbs % 10) (by omega)
 split<;>split<;>simp<;>omega
theorem v8 {z:Int} (h1 : -200000≤z) (h2:z≤6000000):mh z=some (Dx z,0):=by
 rw[A25,if_neg (by simp;omega)]
 have key:∀ (n:Nat) (s:List UInt8),n≤6000000→s.length≤1 →
   (Option.bind ((if(100:Int)≠0 then((E4 (IntKind.wrap .i64 (Int.tdiv (n:Int) (100:Int))) (10:Int)).bind fun r6_0=>(if s.length+r6_0.length≤9223372036854775807 then some r6_0 else none))else none)) fun(x6:((List UInt8)))=>(if((100:Int)≠0)then(if((Int.tmod (n:Int) (100:Int)) != 0)=true then(Option.bind ((if(10:Int)≠0 then((E4 (IntKind.wrap .i64 (Int.tdiv (Int.tmod (n:Int) (100:Int)) (10:Int))) (10:Int)).bind fun r9_0=>(if([46]:List UInt8).length+r9_0.length≤9223372036854775807 then(if(10:Int)≠0 then((E4 (Int.tmod (Int.tmod (n:Int) (100:Int)) (10:Int)) (10:Int)).bind fun r9_1=>(if(([46]:List UInt8)++r9_0).length+r9_1.length≤9223372036854775807 then(if(s++x6).length+((([46]:List UInt8)++r9_0)++r9_1).length≤9223372036854775807 then some (r9_0,r9_1)else none)else none))else none)else none))else none)) fun(x9:((List UInt8)×(List UInt8)))=>(some (((s++x6)++((([46]:List UInt8)++x9.1)++x9.2)),(0:Int))))else(some ((s++x6),(0:Int))))else none):Option (List UInt8×Int))=some (s++Lib.decDigits (n / 100)++Hs n,0):=fun n s hn hs=>by
  have a:=D8 (n:=n / 100) (by omega)
  have b:=D8 (n:=n % 100 / 10) (by omega)
  have c:=D8 (n:=n % 10) (by omega)
  have e1:Int.tdiv (n:Int) 100=((n / 100:Nat):Int):=rfl
  have e2:Int.tmod (n:Int) 100=((n % 100:Nat):Int):=rfl
  have e3:Int.tdiv ((n % 100:Nat):Int) 10=((n % 100 / 10:Nat):Int):=rfl
  have e4:Int.tmod ((n % 100:Nat):Int) 10=((n % 10:Nat):Int):=by show ((n % 100 % 10:Nat):Int)=_;omega
  rw[e1,show IntKind.wrap .i64 ((n / 100:Nat):Int)=((n / 100:Nat):Int) from Bh (by omega) (by omega),Wp (by omega) (by omega),Hu,if_pos (by decide)]
  simp only[bs]
  rw[if_pos (by omega)]
  simp only[bs]
  rw[if_pos (by decide),e2]
  unfold Hs
  by_cases h0:n % 100=0
  ·rw[if_neg (by simp[h0]),if_pos h0,List.append_nil]
  ·rw[if_pos (show (((n % 100:Nat):Int) != 0)=true from by rw[bne_iff_ne];omega),if_neg h0,e3,e4,show IntKind.wrap .i64 ((n % 100 / 10:Nat):Int)=((n % 100 / 10:Nat):Int) from Bh (by omega) (by omega),Wp (by omega) (by omega),Wp (by omega) (by omega),Hu,Hu,if_pos (by decide)]
   simp only[bs]
   rw[if_pos (by simp;omega),if_pos (by decide)]
   rw[if_pos (by simp;omega),if_pos (by simp;omega)]
   rfl
 by_cases h:z < 0
 ·obtain⟨n,hn⟩:=Int.eq_ofNat_of_zero_le (by omega:0 ≤ -z)
  obtain rfl:z = -(n:Int):=by omega
  rw[if_pos (decide_eq_true h),show IntKind.wrap .i64 (0 - -(n:Int))=(n:Int) from by rw[Bh (by omega) (by omega)];omega,key n [45] (by omega) (by decide)]
  unfold Dx
  rw[if_pos h,show (-(n:Int)).natAbs=n from by omega]
 ·obtain⟨n,rfl⟩:=Int.eq_ofNat_of_zero_le (by omega:0≤z)
  rw[if_neg (by simp),key n [] (by omega) (by decide)]
  unfold Dx
  rw[if_neg h]
  rfl
theorem va {z:Int} (h1 : -200000≤z) (h2:z≤6000000):fx z=some (Dx z,0):=by
 rw[A29,if_neg (by simp;omega)]
 have key:∀ (n:Nat) (s:List UInt8),n≤6000000→s.length≤1 →
   (Option.bind ((if(100:Int)≠0 then((Gf (IntKind.wrap .i64 (Int.tdiv (n:Int) (100:Int)))).bind fun r7_0=>(if s.length+r7_0.length≤9223372036854775807 then some r7_0 else none))else none)) fun(x7:((List UInt8)))=>(if((100:Int)≠0)then(if((Int.tmod (n:Int) (100:Int)) != 0)=true then(Option.bind ((if(s++x7).length+([46]:List UInt8).length≤9223372036854775807 then(if(100:Int)≠0 then(if(10:Int)≠0 then((Gf (IntKind.wrap .i64 (Int.tdiv (Int.tmod (n:Int) (100:Int)) (10:Int)))).bind fun r9_0=>(if((s++x7)++([46]:List UInt8)).length+r9_0.length≤9223372036854775807 then(if(10:Int)≠0 then((Gf (Int.tmod (n:Int) (10:Int))).bind fun r9_1=>(if(((s++x7)++([46]:List UInt8))++r9_0).length+r9_1.length≤9223372036854775807 then some (r9_0,r9_1)else none))else none)else none))else none)else none)else none)) fun(x9:((List UInt8)×(List UInt8)))=>(some (((((s++x7)++([46]:List UInt8))++x9.1)++x9.2),(0:Int))))else(some ((s++x7),(0:Int))))else none):Option (List UInt8×Int))=some (s++Lib.decDigits (n / 100)++Hs n,0):=fun n s hn hs=>by
  have a:=D8 (n:=n / 100) (by omega)
  have b:=D8 (n:=n % 100 / 10) (by omega)
  have c:=D8 (n:=n % 10) (by omega)
  have e1:Int.tdiv (n:Int) 100=((n / 100:Nat):Int):=rfl
  have e2:Int.tmod (n:Int) 100=((n % 100:Nat):Int):=rfl
  have e3:Int.tdiv ((n % 100:Nat):Int) 10=((n % 100 / 10:Nat):Int):=rfl
  have e4:Int.tmod (n:Int) 10=((n % 10:Nat):Int):=rfl
  rw[e1,show IntKind.wrap .i64 ((n / 100:Nat):Int)=((n / 100:Nat):Int) from Bh (by omega) (by omega),Qy (by omega),if_pos (by decide)]
  simp only[bs]
  rw[if_pos (by omega)]
  simp only[bs]
  rw[if_pos (by decide),e2]
  unfold Hs
  by_cases h0:n % 100=0
  ·rw[if_neg (by simp[h0]),if_pos h0,List.append_nil]
  ·rw[if_pos (show (((n % 100:Nat):Int) != 0)=true from by rw[bne_iff_ne];omega),if_neg h0,e3,e4,show IntKind.wrap .i64 ((n % 100 / 10:Nat):Int)=((n % 100 / 10:Nat):Int) from Bh (by omega) (by omega),Qy (by omega),Qy (by omega),if_pos (by simp;omega),if_pos (by decide),if_pos (by decide)]
   simp only[bs]
   rw[if_pos (by simp;omega),if_pos (by decide)]
   rw[if_pos (by simp;omega)]
   show some (_,(0:Int))=some (_,(0:Int))
   simp only[List.append_assoc]
 by_cases h:z < 0
 ·obtain⟨n,hn⟩:=Int.eq_ofNat_of_zero_le (by omega:0 ≤ -z)
  obtain rfl:z = -(n:Int):=by omega
  rw[if_pos (decide_eq_true h),show IntKind.wrap .i64 (0 - -(n:Int))=(n:Int) from by rw[Bh (by omega) (by omega)];omega,key n [45] (by omega) (by decide)]
  unfold Dx
  rw[if_pos h,show (-(n:Int)).natAbs=n from by omega]
 ·obtain⟨n,rfl⟩:=Int.eq_ofNat_of_zero_le (by omega:0≤z)
  rw[if_neg (by simp),key n [] (by omega) (by decide)]
  unfold Dx
  rw[if_neg h]
  rfl
end Go.Av.Txs
set_option maxRecDepth 100000
namespace Go.Av.Txs
open Go.Av
theorem M65 (a0 a1 a2:Int):Ej a0 a1 a2=((some ((decide (a1≤a0))&&(decide (a0≤a2)))):Option (Bool)):=by kernel_rfl
theorem A65  (a0 a1 a2:Int):Ej a0 a1 a2=((some ((decide (a1≤a0))&&(decide (a0≤a2)))):Option (Bool)):=M65 _ _ _
theorem M64 (a0:Ax):Uh a0=((Option.bind (((Ej a0.X (-2000000:Int) (2000000:Int)).bind fun r1_0=>((if r1_0=true then Ej a0.Y (-2000000:Int) (2000000:Int)else some default).bind fun r1_1=>some (r1_0,r1_1)))) fun(x1:(Bool×Bool))=>(some (x1.1&&x1.2))):Option (Bool)):=by kernel_rfl
theorem A64  (a0:Ax):Uh a0=((Option.bind (((Ej a0.X (-2000000:Int) (2000000:Int)).bind fun r1_0=>((if r1_0=true then Ej a0.Y (-2000000:Int) (2000000:Int)else some default).bind fun r1_1=>some (r1_0,r1_1)))) fun(x1:(Bool×Bool))=>(some (x1.1&&x1.2))):Option (Bool)):=M64 _
theorem M35 (a0:Aa):ml a0=((Option.bind (Option.bind (((Uh a0.Corner).bind fun r1_0=>((if(!(!r1_0))=true then Ej a0.Cell (1:Int) (2000000:Int)else some default).bind fun r1_1=>((if(!((!r1_0) || (!r1_1)))=true then Ej a0.Err (0:Int) (60:Int)else some default).bind fun r1_2=>some (r1_0,r1_1,r1_2))))) fun(x1:(Bool×Bool×Bool))=>(if(((!x1.1) || (!x1.2.1)) || (!x1.2.2))=true then(some (.inr (false)))else(some (.inl ())))) (Af fun(_:Unit)=>(Option.bind (Option.bind (some (.inl ())) (Af fun(_:Unit)=>(Am (fun(s1:Int)=>((if(decide (s1 < (a0.Alts.length:Int)))=true then(if(0≤s1)then(if(s1 < (a0.Alts.length:Int))then(Option.bind (Option.bind (Ej (a0.Alts.getD s1.toNat default) (-200000:Int) (6000000:Int)) fun r=>some r) fun x6=>(if(!x6)=true then(some (.inr (.inr (false))))else(some (.inl (IntKind.wrap .i64 (s1+1))))))else none)else none)else(some (.inr (.inl ())))):Option ((Int)⊕((Unit)⊕(Bool))))) (0:Int)))) (Af fun(_:Unit)=>(Option.bind (Option.bind (some (.inl ())) (Af fun(_:Unit)=>(Am (fun(s2:Int)=>((if(decide (s2 < (a0.Winds.length:Int)))=true then(if(0≤s2)then(if(s2 < (a0.Winds.length:Int))then(Option.bind (((Ej (a0.Winds.getD s2.toNat default).East (-340:Int) (340:Int)).bind fun r12_0=>((if(!(!r12_0))=true then Ej (a0.Winds.getD s2.toNat default).North (-340:Int) (340:Int)else some default).bind fun r12_1=>(if(!((!r12_0) || (!r12_1)))=true→0≤s2 then(if(!((!r12_0) || (!r12_1)))=true→s2 < (a0.Devs.length:Int)then((if(!((!r12_0) || (!r12_1)))=true then Ej (a0.Devs.getD s2.toNat default) (-4000:Int) (4000:Int)else some default).bind fun r12_2=>some (r12_0,r12_1,r12_2))else none)else none)))) fun(x12:(Bool×Bool×Bool))=>(if(((!x12.1) || (!x12.2.1)) || (!x12.2.2))=true then(some (.inr (.inr (false))))else(some (.inl (IntKind.wrap .i64 (s2+1))))))else none)else none)else(some (.inr (.inl ())))):Option ((Int)⊕((Unit)⊕(Bool))))) (0:Int)))) (Af fun(_:Unit)=>(some true))))))):Option (Bool)):=by kernel_rfl
abbrev X4 (a0:Aa):(Int)→Option ((Int)⊕((Unit)⊕(Bool))):=(fun(s2:Int)=>((if(decide (s2 < (a0.Winds.length:Int)))=true then(if(0≤s2)then(if(s2 < (a0.Winds.length:Int))then(Option.bind (((Ej (a0.Winds.getD s2.toNat default).East (-340:Int) (340:Int)).bind fun r12_0=>((if(!(!r12_0))=true then Ej (a0.Winds.getD s2.toNat default).North (-340:Int) (340:Int)else some default).bind fun r12_1=>(if(!((!r12_0) || (!r12_1)))=true→0≤s2 then(if(!((!r12_0) || (!r12_1)))=true→s2 < (a0.Devs.length:Int)then((if(!((!r12_0) || (!r12_1)))=true then Ej (a0.Devs.getD s2.toNat default) (-4000:Int) (4000:Int)else some default).bind fun r12_2=>some (r12_0,r12_1,r12_2))else none)else none)))) fun(x12:(Bool×Bool×Bool))=>(if(((!x12.1) || (!x12.2.1)) || (!x12.2.2))=true then(some (.inr (.inr (false))))else(some (.inl (IntKind.wrap .i64 (s2+1))))))else none)else none)else(some (.inr (.inl ())))):Option ((Int)⊕((Unit)⊕(Bool)))))
abbrev X5 (a0:Aa):(Int)→Option ((Int)⊕((Unit)⊕(Bool))):=(fun(s1:Int)=>((if(decide (s1 < (a0.Alts.length:Int)))=true then(if(0≤s1)then(if(s1 < (a0.Alts.length:Int))then(Option.bind (Option.bind (Ej (a0.Alts.getD s1.toNat default) (-200000:Int) (6000000:Int)) fun r=>some r) fun x6=>(if(!x6)=true then(some (.inr (.inr (false))))else(some (.inl (IntKind.wrap .i64 (s1+1))))))else none)else none)else(some (.inr (.inl ())))):Option ((Int)⊕((Unit)⊕(Bool)))))
theorem A35  (a0:Aa):ml a0=((Option.bind (Option.bind (((Uh a0.Corner).bind fun r1_0=>((if(!(!r1_0))=true then Ej a0.Cell (1:Int) (2000000:Int)else some default).bind fun r1_1=>((if(!((!r1_0) || (!r1_1)))=true then Ej a0.Err (0:Int) (60:Int)else some default).bind fun r1_2=>some (r1_0,r1_1,r1_2))))) fun(x1:(Bool×Bool×Bool))=>(if(((!x1.1) || (!x1.2.1)) || (!x1.2.2))=true then(some (.inr (false)))else(some (.inl ())))) (Af fun(_:Unit)=>(Option.bind (Option.bind (some (.inl ())) (Af fun(_:Unit)=>(Am (X5 a0) (0:Int)))) (Af fun(_:Unit)=>(Option.bind (Option.bind (some (.inl ())) (Af fun(_:Unit)=>(Am (X4 a0) (0:Int)))) (Af fun(_:Unit)=>(some true))))))):Option (Bool)):=M35 _
theorem M12 (a0:Aa):Ov a0=((Option.bind (if((((((decide (a0.NX < 1)) || (decide (16 < a0.NX))) || (decide (a0.NY < 1))) || (decide (16 < a0.NY))) || (decide ((a0.Alts.length:Int) < (1:Int)))) || (decide (8 < (a0.Alts.length:Int))))=true then(some (.inr ((3:Int))))else(if(((a0.Winds.length:Int) != (IntKind.wrap .i64 ((IntKind.wrap .i64 (a0.NX * a0.NY)) * (a0.Alts.length:Int)))) || ((a0.Devs.length:Int) != (IntKind.wrap .i64 ((IntKind.wrap .i64 (a0.NX * a0.NY)) * (a0.Alts.length:Int)))))=true then(some (.inr ((1:Int))))else(Option.bind (Option.bind (ml a0) fun r=>some r) fun x6=>(if(!x6)=true then(some (.inr ((2:Int))))else(some (.inl ())))))) (Af fun(_:Unit)=>(Option.bind (Option.bind (some (.inl ())) (Af fun(_:Unit)=>(Am (fun(s1:Int)=>((if(decide (s1 < (a0.Alts.length:Int)))=true then(if(0≤s1)then(if(s1 < (a0.Alts.length:Int))then(if(0≤(IntKind.wrap .i64 (s1 - 1)))then(if((IntKind.wrap .i64 (s1 - 1)) < (a0.Alts.length:Int))then(if(decide ((a0.Alts.getD s1.toNat default)≤(a0.Alts.getD (IntKind.wrap .i64 (s1 - 1)).toNat default)))=true then(some (.inr (.inr ((9:Int)))))else(some (.inl (IntKind.wrap .i64 (s1+1)))))else none)else none)else none)else none)else(some (.inr (.inl ())))):Option ((Int)⊕((Unit)⊕(Int))))) (1:Int)))) (Af fun(_:Unit)=>(some (0:Int)))))):Option (Int)):=by kernel_rfl
abbrev X0 (a0:Aa):(Int)→Option ((Int)⊕((Unit)⊕(Int))):=(fun(s1:Int)=>((if(decide (s1 < (a0.Alts.length:Int)))=true then(if(0≤s1)then(if(s1 < (a0.Alts.length:Int))then(if(0≤(IntKind.wrap .i64 (s1 - 1)))then(if((IntKind.wrap .i64 (s1 - 1)) < (a0.Alts.length:Int))then(if(decide ((a0.Alts.getD s1.toNat default)≤(a0.Alts.getD (IntKind.wrap .i64 (s1 - 1)).toNat default)))=true then(some (.inr (.inr ((9:Int)))))else(some (.inl (IntKind.wrap .i64 (s1+1)))))else none)else none)else none)else none)else(some (.inr (.inl ())))):Option ((Int)⊕((Unit)⊕(Int)))))
theorem A12  (a0:Aa):Ov a0=((Option.bind (if((((((decide (a0.NX < 1)) || (decide (16 < a0.NX))) || (decide (a0.NY < 1))) || (decide (16 < a0.NY))) || (decide ((a0.Alts.length:Int) < (1:Int)))) || (decide (8 < (a0.Alts.length:Int))))=true then(some (.inr ((3:Int))))else(if(((a0.Winds.length:Int) != (IntKind.wrap .i64 ((IntKind.wrap .i64 (a0.NX * a0.NY)) * (a0.Alts.length:Int)))) || ((a0.Devs.length:Int) != (IntKind.wrap .i64 ((IntKind.wrap .i64 (a0.NX * a0.NY)) * (a0.Alts.length:Int)))))=true then(some (.inr ((1:Int))))else(Option.bind (Option.bind (ml a0) fun r=>some r) fun x6=>(if(!x6)=true then(some (.inr ((2:Int))))else(some (.inl ())))))) (Af fun(_:Unit)=>(Option.bind (Option.bind (some (.inl ())) (Af fun(_:Unit)=>(Am (X0 a0) (1:Int)))) (Af fun(_:Unit)=>(some (0:Int)))))):Option (Int)):=M12 _
theorem M78 (a0:Ax):mm a0=((some ((((decide ((-2000000:Int)≤a0.X))&&(decide (a0.X≤2000000)))&&(decide ((-2000000:Int)≤a0.Y)))&&(decide (a0.Y≤2000000)))):Option (Bool)):=by kernel_rfl
theorem A78  (a0:Ax):mm a0=((some ((((decide ((-2000000:Int)≤a0.X))&&(decide (a0.X≤2000000)))&&(decide ((-2000000:Int)≤a0.Y)))&&(decide (a0.Y≤2000000)))):Option (Bool)):=M78 _
theorem M27 (a0:Aa):mi a0=((Option.bind (if((((((decide (a0.NX < 1)) || (decide (16 < a0.NX))) || (decide (a0.NY < 1))) || (decide (16 < a0.NY))) || (decide ((a0.Alts.length:Int) < (1:Int)))) || (decide (8 < (a0.Alts.length:Int))))=true then(some (.inr ((3:Int))))else(if(((a0.Winds.length:Int) != (IntKind.wrap .i64 ((IntKind.wrap .i64 (a0.NX * a0.NY)) * (a0.Alts.length:Int)))) || ((a0.Devs.length:Int) != (IntKind.wrap .i64 ((IntKind.wrap .i64 (a0.NX * a0.NY)) * (a0.Alts.length:Int)))))=true then(some (.inr ((1:Int))))else(Option.bind (Option.bind (mm a0.Corner) fun r=>some r) fun x6=>(if(((((!x6) || (decide (a0.Cell < 1))) || (decide (2000000 < a0.Cell))) || (decide (a0.Err < 0))) || (decide (60 < a0.Err)))=true then(some (.inr ((2:Int))))else(some (.inl ())))))) (Af fun(_:Unit)=>(Option.bind (Option.bind (some (.inl ())) (Af fun(_:Unit)=>(Am (fun(s1:Int)=>((if(decide (s1 < (a0.Alts.length:Int)))=true then(if(0≤s1)then(if(s1 < (a0.Alts.length:Int))then(if((decide ((a0.Alts.getD s1.toNat default) < (-200000:Int))) || (decide (6000000 < (a0.Alts.getD s1.toNat default))))=true then(some (.inr (.inr ((2:Int)))))else(some (.inl (IntKind.wrap .i64 (s1+1)))))else none)else none)else(some (.inr (.inl ())))):Option ((Int)⊕((Unit)⊕(Int))))) (0:Int)))) (Af fun(_:Unit)=>(Option.bind (Option.bind (some (.inl ())) (Af fun(_:Unit)=>(Am (fun(s2:Int)=>((if(decide (s2 < (a0.Winds.length:Int)))=true then(if(0≤s2)then(if(s2 < (a0.Winds.length:Int))then(if(!((((decide ((a0.Winds.getD s2.toNat default).East < (-340:Int))) || (decide (340 < (a0.Winds.getD s2.toNat default).East))) || (decide ((a0.Winds.getD s2.toNat default).North < (-340:Int)))) || (decide (340 < (a0.Winds.getD s2.toNat default).North))))=true→(0≤s2)then(if(!((((decide ((a0.Winds.getD s2.toNat default).East < (-340:Int))) || (decide (340 < (a0.Winds.getD s2.toNat default).East))) || (decide ((a0.Winds.getD s2.toNat default).North < (-340:Int)))) || (decide (340 < (a0.Winds.getD s2.toNat default).North))))=true→(s2 < (a0.Devs.length:Int))then(if(!(((((decide ((a0.Winds.getD s2.toNat default).East < (-340:Int))) || (decide (340 < (a0.Winds.getD s2.toNat default).East))) || (decide ((a0.Winds.getD s2.toNat default).North < (-340:Int)))) || (decide (340 < (a0.Winds.getD s2.toNat default).North))) || (decide ((a0.Devs.getD s2.toNat default) < (-4000:Int)))))=true→(0≤s2)then(if(!(((((decide ((a0.Winds.getD s2.toNat default).East < (-340:Int))) || (decide (340 < (a0.Winds.getD s2.toNat default).East))) || (decide ((a0.Winds.getD s2.toNat default).North < (-340:Int)))) || (decide (340 < (a0.Winds.getD s2.toNat default).North))) || (decide ((a0.Devs.getD s2.toNat default) < (-4000:Int)))))=true→(s2 < (a0.Devs.length:Int))then(if((((((decide ((a0.Winds.getD s2.toNat default).East < (-340:Int))) || (decide (340 < (a0.Winds.getD s2.toNat default).East))) || (decide ((a0.Winds.getD s2.toNat default).North < (-340:Int)))) || (decide (340 < (a0.Winds.getD s2.toNat default).North))) || (decide ((a0.Devs.getD s2.toNat default) < (-4000:Int)))) || (decide (4000 < (a0.Devs.getD s2.toNat default))))=true then(some (.inr (.inr ((2:Int)))))else(some (.inl (IntKind.wrap .i64 (s2+1)))))else none)else none)else none)else none)else none)else none)else(some (.inr (.inl ())))):Option ((Int)⊕((Unit)⊕(Int))))) (0:Int)))) (Af fun(_:Unit)=>(Option.bind (Option.bind (some (.inl ())) (Af fun(_:Unit)=>(Am (fun(s3:Int)=>((if(decide (s3 < (a0.Alts.length:Int)))=true then(if(0≤s3)then(if(s3 < (a0.Alts.length:Int))then(if(0≤(IntKind.wrap .i64 (s3 - 1)))then(if((IntKind.wrap .i64 (s3 - 1)) < (a0.Alts.length:Int))then(if(decide ((a0.Alts.getD s3.toNat default)≤(a0.Alts.getD (IntKind.wrap .i64 (s3 - 1)).toNat default)))=true then(some (.inr (.inr ((9:Int)))))else(some (.inl (IntKind.wrap .i64 (s3+1)))))else none)else none)else none)else none)else(some (.inr (.inl ())))):Option ((Int)⊕((Unit)⊕(Int))))) (1:Int)))) (Af fun(_:Unit)=>(some (0:Int)))))))))):Option (Int)):=by kernel_rfl
abbrev X1 (a0:Aa):(Int)→Option ((Int)⊕((Unit)⊕(Int))):=(fun(s3:Int)=>((if(decide (s3 < (a0.Alts.length:Int)))=true then(if(0≤s3)then(if(s3 < (a0.Alts.length:Int))then(if(0≤(IntKind.wrap .i64 (s3 - 1)))then(if((IntKind.wrap .i64 (s3 - 1)) < (a0.Alts.length:Int))then(if(decide ((a0.Alts.getD s3.toNat default)≤(a0.Alts.getD (IntKind.wrap .i64 (s3 - 1)).toNat default)))=true then(some (.inr (.inr ((9:Int)))))else(some (.inl (IntKind.wrap .i64 (s3+1)))))else none)else none)else none)else none)else(some (.inr (.inl ())))):Option ((Int)⊕((Unit)⊕(Int)))))
abbrev X2 (a0:Aa):(Int)→Option ((Int)⊕((Unit)⊕(Int))):=(fun(s2:Int)=>((if(decide (s2 < (a0.Winds.length:Int)))=true then(if(0≤s2)then(if(s2 < (a0.Winds.length:Int))then(if(!((((decide ((a0.Winds.getD s2.toNat default).East < (-340:Int))) || (decide (340 < (a0.Winds.getD s2.toNat default).East))) || (decide ((a0.Winds.getD s2.toNat default).North < (-340:Int)))) || (decide (340 < (a0.Winds.getD s2.toNat default).North))))=true→(0≤s2)then(if(!((((decide ((a0.Winds.getD s2.toNat default).East < (-340:Int))) || (decide (340 < (a0.Winds.getD s2.toNat default).East))) || (decide ((a0.Winds.getD s2.toNat default).North < (-340:Int)))) || (decide (340 < (a0.Winds.getD s2.toNat default).North))))=true→(s2 < (a0.Devs.length:Int))then(if(!(((((decide ((a0.Winds.getD s2.toNat default).East < (-340:Int))) || (decide (340 < (a0.Winds.getD s2.toNat default).East))) || (decide ((a0.Winds.getD s2.toNat default).North < (-340:Int)))) || (decide (340 < (a0.Winds.getD s2.toNat default).North))) || (decide ((a0.Devs.getD s2.toNat default) < (-4000:Int)))))=true→(0≤s2)then(if(!(((((decide ((a0.Winds.getD s2.toNat default).East < (-340:Int))) || (decide (340 < (a0.Winds.getD s2.toNat default).East))) || (decide ((a0.Winds.getD s2.toNat default).North < (-340:Int)))) || (decide (340 < (a0.Winds.getD s2.toNat default).North))) || (decide ((a0.Devs.getD s2.toNat default) < (-4000:Int)))))=true→(s2 < (a0.Devs.length:Int))then(if((((((decide ((a0.Winds.getD s2.toNat default).East < (-340:Int))) || (decide (340 < (a0.Winds.getD s2.toNat default).East))) || (decide ((a0.Winds.getD s2.toNat default).North < (-340:Int)))) || (decide (340 < (a0.Winds.getD s2.toNat default).North))) || (decide ((a0.Devs.getD s2.toNat default) < (-4000:Int)))) || (decide (4000 < (a0.Devs.getD s2.toNat default))))=true then(some (.inr (.inr ((2:Int)))))else(some (.inl (IntKind.wrap .i64 (s2+1)))))else none)else none)else none)else none)else none)else none)else(some (.inr (.inl ())))):Option ((Int)⊕((Unit)⊕(Int)))))
abbrev X3 (a0:Aa):(Int)→Option ((Int)⊕((Unit)⊕(Int))):=(fun(s1:Int)=>((if(decide (s1 < (a0.Alts.length:Int)))=true then(if(0≤s1)then(if(s1 < (a0.Alts.length:Int))then(if((decide ((a0.Alts.getD s1.toNat default) < (-200000:Int))) || (decide (6000000 < (a0.Alts.getD s1.toNat default))))=true then(some (.inr (.inr ((2:Int)))))else(some (.inl (IntKind.wrap .i64 (s1+1)))))else none)else none)else(some (.inr (.inl ())))):Option ((Int)⊕((Unit)⊕(Int)))))
theorem A27  (a0:Aa):mi a0=((Option.bind (if((((((decide (a0.NX < 1)) || (decide (16 < a0.NX))) || (decide (a0.NY < 1))) || (decide (16 < a0.NY))) || (decide ((a0.Alts.length:Int) < (1:Int)))) || (decide (8 < (a0.Alts.length:Int))))=true then(some (.inr ((3:Int))))else(if(((a0.Winds.length:Int) != (IntKind.wrap .i64 ((IntKind.wrap .i64 (a0.NX * a0.NY)) * (a0.Alts.length:Int)))) || ((a0.Devs.length:Int) != (IntKind.wrap .i64 ((IntKind.wrap .i64 (a0.NX * a0.NY)) * (a0.Alts.length:Int)))))=true then(some (.inr ((1:Int))))else(Option.bind (Option.bind (mm a0.Corner) fun r=>some r) fun x6=>(if(((((!x6) || (decide (a0.Cell < 1))) || (decide (2000000 < a0.Cell))) || (decide (a0.Err < 0))) || (decide (60 < a0.Err)))=true then(some (.inr ((2:Int))))else(some (.inl ())))))) (Af fun(_:Unit)=>(Option.bind (Option.bind (some (.inl ())) (Af fun(_:Unit)=>(Am (X3 a0) (0:Int)))) (Af fun(_:Unit)=>(Option.bind (Option.bind (some (.inl ())) (Af fun(_:Unit)=>(Am (X2 a0) (0:Int)))) (Af fun(_:Unit)=>(Option.bind (Option.bind (some (.inl ())) (Af fun(_:Unit)=>(Am (X1 a0) (1:Int)))) (Af fun(_:Unit)=>(some (0:Int)))))))))):Option (Int)):=M27 _
theorem M40o0 (a0:List UInt8):Q2 a0=((Option.bind (Option.bind (gf) fun r=>some r) fun x1=>(Option.bind ((if a0.length≤140737488355328 then some ()else none)) fun(x2:(Unit))=>(some ()))):Option (Unit)):=by kernel_rfl
theorem A40o0  (a0:List UInt8):Q2 a0=((Option.bind (Option.bind (gf) fun r=>some r) fun x1=>(Option.bind ((if a0.length≤140737488355328 then some ()else none)) fun(x2:(Unit))=>(some ()))):Option (Unit)):=M40o0 _
theorem M40o1 (a0:List UInt8) (a1:List Int):D9 a0 a1=((Option.bind (Option.bind (gg a1) fun r=>some r) fun x1=>(Option.bind ((if a1.length+a0.length≤140737488355328 then some ()else none)) fun(x2:(Unit))=>(some ()))):Option (Unit)):=by kernel_rfl
theorem A40o1  (a0:List UInt8) (a1:List Int):D9 a0 a1=((Option.bind (Option.bind (gg a1) fun r=>some r) fun x1=>(Option.bind ((if a1.length+a0.length≤140737488355328 then some ()else none)) fun(x2:(Unit))=>(some ()))):Option (Unit)):=M40o1 _ _
theorem M24o0 (a0:List UInt8) (a1:List Int):Pz a0 a1=((Option.bind (Option.bind (Option.bind (Q2 a0) fun r=>some r) fun x0=>(some (.inl ()))) (Af fun(_:Unit)=>(Option.bind (Option.bind (some (.inl ())) (Af fun(_:Unit)=>(Am (fun(s1:Int×(List Int))=>((if(decide (s1.1 < (a1.length:Int)))=true then(if(0≤s1.1)then(if(s1.1 < (a1.length:Int))then(Option.bind (((E4 (a1.getD s1.1.toNat default) (10:Int)).bind fun r4_0=>(if([32]:List UInt8).length+r4_0.length≤9223372036854775807 then((D9 (([32]:List UInt8)++r4_0) s1.2).bind fun r4_1=>some (r4_0,r4_1))else none))) fun(x4:((List UInt8)×Unit))=>(some (.inl ((IntKind.wrap .i64 (s1.1+1)),(s1.2++Aq (([32]:List UInt8)++x4.1))))))else none)else none)else(some (.inr (.inl s1.2)))):Option ((Int×(List Int))⊕(((List Int))⊕((List Int)))))) ((0:Int),(Aq a0))))) (Af fun(y2:(List Int))=>(Option.bind (Option.bind (D9 ([10]:List UInt8) y2) fun r=>some r) fun x6=>(some (y2++Aq ([10]:List UInt8)))))))):Option ((List Int))):=by kernel_rfl
abbrev AAV (a1:List Int):(Int×(List Int))→Option ((Int×(List Int))⊕(((List Int))⊕((List Int)))):=(fun(s1:Int×(List Int))=>((if(decide (s1.1 < (a1.length:Int)))=true then(if(0≤s1.1)then(if(s1.1 < (a1.length:Int))then(Option.bind (((E4 (a1.getD s1.1.toNat default) (10:Int)).bind fun r4_0=>(if([32]:List UInt8).length+r4_0.length≤9223372036854775807 then((D9 (([32]:List UInt8)++r4_0) s1.2).bind fun r4_1=>some (r4_0,r4_1))else none))) fun(x4:((List UInt8)×Unit))=>(some (.inl ((IntKind.wrap .i64 (s1.1+1)),(s1.2++Aq (([32]:List UInt8)++x4.1))))))else none)else none)else(some (.inr (.inl s1.2)))):Option ((Int×(List Int))⊕(((List Int))⊕((List Int))))))
theorem A24o0  (a0:List UInt8) (a1:List Int):Pz a0 a1=((Option.bind (Option.bind (Option.bind (Q2 a0) fun r=>some r) fun x0=>(some (.inl ()))) (Af fun(_:Unit)=>(Option.bind (Option.bind (some (.inl ())) (Af fun(_:Unit)=>(Am (AAV a1) ((0:Int),(Aq a0))))) (Af fun(y2:(List Int))=>(Option.bind (Option.bind (D9 ([10]:List UInt8) y2) fun r=>some r) fun x6=>(some (y2++Aq ([10]:List UInt8)))))))):Option ((List Int))):=M24o0 _ _
theorem M24o1 (a0:List UInt8) (a1 a2:List Int):Jl a0 a1 a2=((Option.bind (Option.bind (Option.bind (D9 a0 a2) fun r=>some r) fun x0=>(some (.inl ()))) (Af fun(_:Unit)=>(Option.bind (Option.bind (some (.inl ())) (Af fun(_:Unit)=>(Am (fun(s1:Int×(List Int))=>((if(decide (s1.1 < (a1.length:Int)))=true then(if(0≤s1.1)then(if(s1.1 < (a1.length:Int))then(Option.bind (((E4 (a1.getD s1.1.toNat default) (10:Int)).bind fun r4_0=>(if([32]:List UInt8).length+r4_0.length≤9223372036854775807 then((D9 (([32]:List UInt8)++r4_0) s1.2).bind fun r4_1=>some (r4_0,r4_1))else none))) fun(x4:((List UInt8)×Unit))=>(some (.inl ((IntKind.wrap .i64 (s1.1+1)),(s1.2++Aq (([32]:List UInt8)++x4.1))))))else none)else none)else(some (.inr (.inl s1.2)))):Option ((Int×(List Int))⊕(((List Int))⊕((List Int)))))) ((0:Int),(a2++Aq a0))))) (Af fun(y2:(List Int))=>(Option.bind (Option.bind (D9 ([10]:List UInt8) y2) fun r=>some r) fun x6=>(some (y2++Aq ([10]:List UInt8)))))))):Option ((List Int))):=by kernel_rfl
abbrev AAW (a1:List Int):(Int×(List Int))→Option ((Int×(List Int))⊕(((List Int))⊕((List Int)))):=(fun(s1:Int×(List Int))=>((if(decide (s1.1 < (a1.length:Int)))=true then(if(0≤s1.1)then(if(s1.1 < (a1.length:Int))then(Option.bind (((E4 (a1.getD s1.1.toNat default) (10:Int)).bind fun r4_0=>(if([32]:List UInt8).length+r4_0.length≤9223372036854775807 then((D9 (([32]:List UInt8)++r4_0) s1.2).bind fun r4_1=>some (r4_0,r4_1))else none))) fun(x4:((List UInt8)×Unit))=>(some (.inl ((IntKind.wrap .i64 (s1.1+1)),(s1.2++Aq (([32]:List UInt8)++x4.1))))))else none)else none)else(some (.inr (.inl s1.2)))):Option ((Int×(List Int))⊕(((List Int))⊕((List Int))))))
theorem A24o1  (a0:List UInt8) (a1 a2:List Int):Jl a0 a1 a2=((Option.bind (Option.bind (Option.bind (D9 a0 a2) fun r=>some r) fun x0=>(some (.inl ()))) (Af fun(_:Unit)=>(Option.bind (Option.bind (some (.inl ())) (Af fun(_:Unit)=>(Am (AAW a1) ((0:Int),(a2++Aq a0))))) (Af fun(y2:(List Int))=>(Option.bind (Option.bind (D9 ([10]:List UInt8) y2) fun r=>some r) fun x6=>(some (y2++Aq ([10]:List UInt8)))))))):Option ((List Int))):=M24o1 _ _ _
theorem M6 (a0:Aa):m6 a0=((Option.bind (Option.bind (Option.bind (Ov a0) fun r=>some r) fun x1=>(if(x1 != 0)=true then(some (.inr ((([]:List UInt8),x1))))else(Option.bind (Option.bind (Pz ([71,82,73,68]:List UInt8) ([a0.Corner.X,a0.Corner.Y,a0.Cell,a0.NX,a0.NY,a0.Err]:List Int)) fun r=>some r) fun x5=>(some (.inl x5))))) (Af fun(y1:(List Int))=>(Option.bind (Option.bind (some (.inl ())) (Af fun(_:Unit)=>(Am (fun(s2:Int×(List Int))=>((Option.bind (if(decide (s2.1 < (a0.Alts.length:Int)))=true then(some (.inl ()))else(some (.inr (.inr (.inl s2.2))))) (Af fun(_:Unit)=>(Option.bind (Option.bind (if(0≤s2.1)then(if(s2.1 < (a0.Alts.length:Int))then(Option.bind (Option.bind (mh (a0.Alts.getD s2.1.toNat default)) fun r=>some r) fun x10=>(Option.bind ((if([76,69,86,69,76,32]:List UInt8).length+x10.1.length≤9223372036854775807 then((Jl (([76,69,86,69,76,32]:List UInt8)++x10.1) ([]:List Int) s2.2).bind fun r11_0=>some r11_0)else none)) fun(x11:((List Int)))=>(some (.inl x11))))else none)else none) (Af fun(y3:(List Int))=>(Am (fun(s4:Int×(List Int))=>((if(decide (s4.1 < (IntKind.wrap .i64 ((IntKind.wrap .i64 (s2.1+1)) * (IntKind.wrap .i64 (a0.NX * a0.NY))))))=true then(Option.bind ((if 0≤s4.1 then(if s4.1 < (a0.Winds.length:Int)then(if 0≤s4.1 then(if s4.1 < (a0.Winds.length:Int)then(if 0≤s4.1 then(if s4.1 < (a0.Devs.length:Int)then((Jl ([87,73,78,68]:List UInt8) ([(a0.Winds.getD s4.1.toNat default).East,(a0.Winds.getD s4.1.toNat default).North,(a0.Devs.getD s4.1.toNat default)]:List Int) s4.2).bind fun r15_0=>some r15_0)else none)else none)else none)else none)else none)else none)) fun(x15:((List Int)))=>(some (.inl ((IntKind.wrap .i64 (s4.1+1)),x15))))else(some (.inr (.inl s4.2)))):Option ((Int×(List Int))⊕(((List Int))⊕((Int×(List Int))⊕(((List Int))⊕((List UInt8)×Int))))))) ((IntKind.wrap .i64 (s2.1 * (IntKind.wrap .i64 (a0.NX * a0.NY)))),y3)))) (Af fun(y5:(List Int))=>(some (.inl ((IntKind.wrap .i64 (s2.1+1)),y5))))))):Option ((Int×(List Int))⊕(((List Int))⊕((List UInt8)×Int))))) ((0:Int),y1)))) (Af fun(y6:(List Int))=>(Option.bind (Option.bind (V8 y6) fun r=>some r) fun x17=>(some (x17,(0:Int)))))))):Option ((List UInt8)×Int)):=by kernel_rfl
abbrev cv (s2:Int×(List Int)) (a0:Aa):(Int×(List Int))→Option ((Int×(List Int))⊕(((List Int))⊕((Int×(List Int))⊕(((List Int))⊕((List UInt8)×Int))))):=(fun(s4:Int×(List Int))=>((if(decide (s4.1 < (IntKind.wrap .i64 ((IntKind.wrap .i64 (s2.1+1)) * (IntKind.wrap .i64 (a0.NX * a0.NY))))))=true then(Option.bind ((if 0≤s4.1 then(if s4.1 < (a0.Winds.length:Int)then(if 0≤s4.1 then(if s4.1 < (a0.Winds.length:Int)then(if 0≤s4.1 then(if s4.1 < (a0.Devs.length:Int)then((Jl ([87,73,78,68]:List UInt8) ([(a0.Winds.getD s4.1.toNat default).East,(a0.Winds.getD s4.1.toNat default).North,(a0.Devs.getD s4.1.toNat default)]:List Int) s4.2).bind fun r15_0=>some r15_0)else none)else none)else none)else none)else none)else none)) fun(x15:((List Int)))=>(some (.inl ((IntKind.wrap .i64 (s4.1+1)),x15))))else(some (.inr (.inl s4.2)))):Option ((Int×(List Int))⊕(((List Int))⊕((Int×(List Int))⊕(((List Int))⊕((List UInt8)×Int)))))))
abbrev cw (a0:Aa):(Int×(List Int))→Option ((Int×(List Int))⊕(((List Int))⊕((List UInt8)×Int))):=(fun(s2:Int×(List Int))=>((Option.bind (if(decide (s2.1 < (a0.Alts.length:Int)))=true then(some (.inl ()))else(some (.inr (.inr (.inl s2.2))))) (Af fun(_:Unit)=>(Option.bind (Option.bind (if(0≤s2.1)then(if(s2.1 < (a0.Alts.length:Int))then(Option.bind (Option.bind (mh (a0.Alts.getD s2.1.toNat default)) fun r=>some r) fun x10=>(Option.bind ((if([76,69,86,69,76,32]:List UInt8).length+x10.1.length≤9223372036854775807 then((Jl (([76,69,86,69,76,32]:List UInt8)++x10.1) ([]:List Int) s2.2).bind fun r11_0=>some r11_0)else none)) fun(x11:((List Int)))=>(some (.inl x11))))else none)else none) (Af fun(y3:(List Int))=>(Am (cv s2 a0) ((IntKind.wrap .i64 (s2.1 * (IntKind.wrap .i64 (a0.NX * a0.NY)))),y3)))) (Af fun(y5:(List Int))=>(some (.inl ((IntKind.wrap .i64 (s2.1+1)),y5))))))):Option ((Int×(List Int))⊕(((List Int))⊕((List UInt8)×Int)))))
theorem A6  (a0:Aa):m6 a0=((Option.bind (Option.bind (Option.bind (Ov a0) fun r=>some r) fun x1=>(if(x1 != 0)=true then(some (.inr ((([]:List UInt8),x1))))else(Option.bind (Option.bind (Pz ([71,82,73,68]:List UInt8) ([a0.Corner.X,a0.Corner.Y,a0.Cell,a0.NX,a0.NY,a0.Err]:List Int)) fun r=>some r) fun x5=>(some (.inl x5))))) (Af fun(y1:(List Int))=>(Option.bind (Option.bind (some (.inl ())) (Af fun(_:Unit)=>(Am (cw a0) ((0:Int),y1)))) (Af fun(y6:(List Int))=>(Option.bind (Option.bind (V8 y6) fun r=>some r) fun x17=>(some (x17,(0:Int)))))))):Option ((List UInt8)×Int)):=M6 _
theorem M7 (a0:Aa):m7 a0=((Option.bind (Option.bind (Option.bind (mi a0) fun r=>some r) fun x1=>(if(x1 != 0)=true then(some (.inr ((([]:List UInt8),x1))))else(some (.inl ())))) (Af fun(_:Unit)=>(Option.bind (Option.bind (some (.inl ())) (Af fun(_:Unit)=>(Am (fun(s1:(List UInt8)×Int)=>((if(decide (s1.2 < 6))=true then(if(0≤s1.2)then(if(s1.2 < (([a0.Corner.X,a0.Corner.Y,a0.Cell,a0.NX,a0.NY,a0.Err]:List Int).length:Int))then(Option.bind (((G2 (([a0.Corner.X,a0.Corner.Y,a0.Cell,a0.NX,a0.NY,a0.Err]:List Int).getD s1.2.toNat default)).bind fun r8_0=>(if([32]:List UInt8).length+r8_0.length≤9223372036854775807 then(if s1.1.length+(([32]:List UInt8)++r8_0).length≤9223372036854775807 then some r8_0 else none)else none))) fun(x8:((List UInt8)))=>(some (.inl ((s1.1++(([32]:List UInt8)++x8)),(IntKind.wrap .i64 (s1.2+1))))))else none)else none)else(some (.inr (.inl s1.1)))):Option (((List UInt8)×Int)⊕(((List UInt8))⊕((List UInt8)×Int))))) (([71,82,73,68]:List UInt8),(0:Int))))) (Af fun(y2:(List UInt8))=>(Option.bind (if(y2.length+([10]:List UInt8).length≤9223372036854775807)then(some (.inl ()))else none) (Af fun(_:Unit)=>(Option.bind (Option.bind (some (.inl ())) (Af fun(_:Unit)=>(Am (fun(s3:(List UInt8)×Int)=>((if(decide (s3.2 < (a0.Winds.length:Int)))=true then(if(0≤s3.2)then(if(s3.2 < (a0.Winds.length:Int))then(if((IntKind.wrap .i64 (a0.NX * a0.NY))≠0)then(if((Int.tmod s3.2 (IntKind.wrap .i64 (a0.NX * a0.NY)))==0)=true then(Option.bind ((if(IntKind.wrap .i64 (a0.NX * a0.NY))≠0 then(if 0≤(IntKind.wrap .i64 (Int.tdiv s3.2 (IntKind.wrap .i64 (a0.NX * a0.NY))))then(if(IntKind.wrap .i64 (Int.tdiv s3.2 (IntKind.wrap .i64 (a0.NX * a0.NY)))) < (a0.Alts.length:Int)then((fx (a0.Alts.getD (IntKind.wrap .i64 (Int.tdiv s3.2 (IntKind.wrap .i64 (a0.NX * a0.NY)))).toNat default)).bind fun r15_0=>some r15_0)else none)else none)else none)) fun(x15:(((List UInt8)×Int)))=>(if(([76,69,86,69,76,32]:List UInt8).length+x15.1.length≤9223372036854775807)then(if((([76,69,86,69,76,32]:List UInt8)++x15.1).length+([10]:List UInt8).length≤9223372036854775807)then(if(s3.1.length+((([76,69,86,69,76,32]:List UInt8)++x15.1)++([10]:List UInt8)).length≤9223372036854775807)then(Option.bind (((G2 (a0.Winds.getD s3.2.toNat default).East).bind fun r17_0=>(if([87,73,78,68,32]:List UInt8).length+r17_0.length≤9223372036854775807 then(if(([87,73,78,68,32]:List UInt8)++r17_0).length+([32]:List UInt8).length≤9223372036854775807 then((G2 (a0.Winds.getD s3.2.toNat default).North).bind fun r17_1=>(if((([87,73,78,68,32]:List UInt8)++r17_0)++([32]:List UInt8)).length+r17_1.length≤9223372036854775807 then(if(((([87,73,78,68,32]:List UInt8)++r17_0)++([32]:List UInt8))++r17_1).length+([32]:List UInt8).length≤9223372036854775807 then(if 0≤s3.2 then(if s3.2 < (a0.Devs.length:Int)then((G2 (a0.Devs.getD s3.2.toNat default)).bind fun r17_2=>(if((((([87,73,78,68,32]:List UInt8)++r17_0)++([32]:List UInt8))++r17_1)++([32]:List UInt8)).length+r17_2.length≤9223372036854775807 then(if(((((([87,73,78,68,32]:List UInt8)++r17_0)++([32]:List UInt8))++r17_1)++([32]:List UInt8))++r17_2).length+([10]:List UInt8).length≤9223372036854775807 then(if(s3.1++((([76,69,86,69,76,32]:List UInt8)++x15.1)++([10]:List UInt8))).length+((((((([87,73,78,68,32]:List UInt8)++r17_0)++([32]:List UInt8))++r17_1)++([32]:List UInt8))++r17_2)++([10]:List UInt8)).length≤9223372036854775807 then some (r17_0,r17_1,r17_2)else none)else none)else none))else none)else none)else none)else none))else none)else none))) fun(x17:((List UInt8)×(List UInt8)×(List UInt8)))=>(some (.inl (((s3.1++((([76,69,86,69,76,32]:List UInt8)++x15.1)++([10]:List UInt8)))++((((((([87,73,78,68,32]:List UInt8)++x17.1)++([32]:List UInt8))++x17.2.1)++([32]:List UInt8))++x17.2.2)++([10]:List UInt8))),(IntKind.wrap .i64 (s3.2+1))))))else none)else none)else none))else(Option.bind (((G2 (a0.Winds.getD s3.2.toNat default).East).bind fun r17_0=>(if([87,73,78,68,32]:List UInt8).length+r17_0.length≤9223372036854775807 then(if(([87,73,78,68,32]:List UInt8)++r17_0).length+([32]:List UInt8).length≤9223372036854775807 then((G2 (a0.Winds.getD s3.2.toNat default).North).bind fun r17_1=>(if((([87,73,78,68,32]:List UInt8)++r17_0)++([32]:List UInt8)).length+r17_1.length≤9223372036854775807 then(if(((([87,73,78,68,32]:List UInt8)++r17_0)++([32]:List UInt8))++r17_1).length+([32]:List UInt8).length≤9223372036854775807 then(if 0≤s3.2 then(if s3.2 < (a0.Devs.length:Int)then((G2 (a0.Devs.getD s3.2.toNat default)).bind fun r17_2=>(if((((([87,73,78,68,32]:List UInt8)++r17_0)++([32]:List UInt8))++r17_1)++([32]:List UInt8)).length+r17_2.length≤9223372036854775807 then(if(((((([87,73,78,68,32]:List UInt8)++r17_0)++([32]:List UInt8))++r17_1)++([32]:List UInt8))++r17_2).length+([10]:List UInt8).length≤9223372036854775807 then(if s3.1.length+((((((([87,73,78,68,32]:List UInt8)++r17_0)++([32]:List UInt8))++r17_1)++([32]:List UInt8))++r17_2)++([10]:List UInt8)).length≤9223372036854775807 then some (r17_0,r17_1,r17_2)else none)else none)else none))else none)else none)else none)else none))else none)else none))) fun(x17:((List UInt8)×(List UInt8)×(List UInt8)))=>(some (.inl ((s3.1++((((((([87,73,78,68,32]:List UInt8)++x17.1)++([32]:List UInt8))++x17.2.1)++([32]:List UInt8))++x17.2.2)++([10]:List UInt8))),(IntKind.wrap .i64 (s3.2+1)))))))else none)else none)else none)else(some (.inr (.inl s3.1)))):Option (((List UInt8)×Int)⊕(((List UInt8))⊕((List UInt8)×Int))))) ((y2++([10]:List UInt8)),(0:Int))))) (Af fun(y4:(List UInt8))=>(some (y4,(0:Int))))))))))):Option ((List UInt8)×Int)):=by kernel_rfl
abbrev cy (a0:Aa):((List UInt8)×Int)→Option (((List UInt8)×Int)⊕(((List UInt8))⊕((List UInt8)×Int))):=(fun(s3:(List UInt8)×Int)=>((if(decide (s3.2 < (a0.Winds.length:Int)))=true then(if(0≤s3.2)then(if(s3.2 < (a0.Winds.length:Int))then(if((IntKind.wrap .i64 (a0.NX * a0.NY))≠0)then(if((Int.tmod s3.2 (IntKind.wrap .i64 (a0.NX * a0.NY)))==0)=true then(Option.bind ((if(IntKind.wrap .i64 (a0.NX * a0.NY))≠0 then(if 0≤(IntKind.wrap .i64 (Int.tdiv s3.2 (IntKind.wrap .i64 (a0.NX * a0.NY))))then(if(IntKind.wrap .i64 (Int.tdiv s3.2 (IntKind.wrap .i64 (a0.NX * a0.NY)))) < (a0.Alts.length:Int)then((fx (a0.Alts.getD (IntKind.wrap .i64 (Int.tdiv s3.2 (IntKind.wrap .i64 (a0.NX * a0.NY)))).toNat default)).bind fun r15_0=>some r15_0)else none)else none)else none)) fun(x15:(((List UInt8)×Int)))=>(if(([76,69,86,69,76,32]:List UInt8).length+x15.1.length≤9223372036854775807)then(if((([76,69,86,69,76,32]:List UInt8)++x15.1).length+([10]:List UInt8).length≤9223372036854775807)then(if(s3.1.length+((([76,69,86,69,76,32]:List UInt8)++x15.1)++([10]:List UInt8)).length≤9223372036854775807)then(Option.bind (((G2 (a0.Winds.getD s3.2.toNat default).East).bind fun r17_0=>(if([87,73,78,68,32]:List UInt8).length+r17_0.length≤9223372036854775807 then(if(([87,73,78,68,32]:List UInt8)++r17_0).length+([32]:List UInt8).length≤9223372036854775807 then((G2 (a0.Winds.getD s3.2.toNat default).North).bind fun r17_1=>(if((([87,73,78,68,32]:List UInt8)++r17_0)++([32]:List UInt8)).length+r17_1.length≤9223372036854775807 then(if(((([87,73,78,68,32]:List UInt8)++r17_0)++([32]:List UInt8))++r17_1).length+([32]:List UInt8).length≤9223372036854775807 then(if 0≤s3.2 then(if s3.2 < (a0.Devs.length:Int)then((G2 (a0.Devs.getD s3.2.toNat default)).bind fun r17_2=>(if((((([87,73,78,68,32]:List UInt8)++r17_0)++([32]:List UInt8))++r17_1)++([32]:List UInt8)).length+r17_2.length≤9223372036854775807 then(if(((((([87,73,78,68,32]:List UInt8)++r17_0)++([32]:List UInt8))++r17_1)++([32]:List UInt8))++r17_2).length+([10]:List UInt8).length≤9223372036854775807 then(if(s3.1++((([76,69,86,69,76,32]:List UInt8)++x15.1)++([10]:List UInt8))).length+((((((([87,73,78,68,32]:List UInt8)++r17_0)++([32]:List UInt8))++r17_1)++([32]:List UInt8))++r17_2)++([10]:List UInt8)).length≤9223372036854775807 then some (r17_0,r17_1,r17_2)else none)else none)else none))else none)else none)else none)else none))else none)else none))) fun(x17:((List UInt8)×(List UInt8)×(List UInt8)))=>(some (.inl (((s3.1++((([76,69,86,69,76,32]:List UInt8)++x15.1)++([10]:List UInt8)))++((((((([87,73,78,68,32]:List UInt8)++x17.1)++([32]:List UInt8))++x17.2.1)++([32]:List UInt8))++x17.2.2)++([10]:List UInt8))),(IntKind.wrap .i64 (s3.2+1))))))else none)else none)else none))else(Option.bind (((G2 (a0.Winds.getD s3.2.toNat default).East).bind fun r17_0=>(if([87,73,78,68,32]:List UInt8).length+r17_0.length≤9223372036854775807 then(if(([87,73,78,68,32]:List UInt8)++r17_0).length+([32]:List UInt8).length≤9223372036854775807 then((G2 (a0.Winds.getD s3.2.toNat default).North).bind fun r17_1=>(if((([87,73,78,68,32]:List UInt8)++r17_0)++([32]:List UInt8)).length+r17_1.length≤9223372036854775807 then(if(((([87,73,78,68,32]:List UInt8)++r17_0)++([32]:List UInt8))++r17_1).length+([32]:List UInt8).length≤9223372036854775807 then(if 0≤s3.2 then(if s3.2 < (a0.Devs.length:Int)then((G2 (a0.Devs.getD s3.2.toNat default)).bind fun r17_2=>(if((((([87,73,78,68,32]:List UInt8)++r17_0)++([32]:List UInt8))++r17_1)++([32]:List UInt8)).length+r17_2.length≤9223372036854775807 then(if(((((([87,73,78,68,32]:List UInt8)++r17_0)++([32]:List UInt8))++r17_1)++([32]:List UInt8))++r17_2).length+([10]:List UInt8).length≤9223372036854775807 then(if s3.1.length+((((((([87,73,78,68,32]:List UInt8)++r17_0)++([32]:List UInt8))++r17_1)++([32]:List UInt8))++r17_2)++([10]:List UInt8)).length≤9223372036854775807 then some (r17_0,r17_1,r17_2)else none)else none)else none))else none)else none)else none)else none))else none)else none))) fun(x17:((List UInt8)×(List UInt8)×(List UInt8)))=>(some (.inl ((s3.1++((((((([87,73,78,68,32]:List UInt8)++x17.1)++([32]:List UInt8))++x17.2.1)++([32]:List UInt8))++x17.2.2)++([10]:List UInt8))),(IntKind.wrap .i64 (s3.2+1)))))))else none)else none)else none)else(some (.inr (.inl s3.1)))):Option (((List UInt8)×Int)⊕(((List UInt8))⊕((List UInt8)×Int)))))
abbrev cz (a0:Aa):((List UInt8)×Int)→Option (((List UInt8)×Int)⊕(((List UInt8))⊕((List UInt8)×Int))):=(fun(s1:(List UInt8)×Int)=>((if(decide (s1.2 < 6))=true then(if(0≤s1.2)then(if(s1.2 < (([a0.Corner.X,a0.Corner.Y,a0.Cell,a0.NX,a0.NY,a0.Err]:List Int).length:Int))then(Option.bind (((G2 (([a0.Corner.X,a0.Corner.Y,a0.Cell,a0.NX,a0.NY,a0.Err]:List Int).getD s1.2.toNat default)).bind fun r8_0=>(if([32]:List UInt8).length+r8_0.length≤9223372036854775807 then(if s1.1.length+(([32]:List UInt8)++r8_0).length≤9223372036854775807 then some r8_0 else none)else none))) fun(x8:((List UInt8)))=>(some (.inl ((s1.1++(([32]:List UInt8)++x8)),(IntKind.wrap .i64 (s1.2+1))))))else none)else none)else(some (.inr (.inl s1.1)))):Option (((List UInt8)×Int)⊕(((List UInt8))⊕((List UInt8)×Int)))))
theorem A7  (a0:Aa):m7 a0=((Option.bind (Option.bind (Option.bind (mi a0) fun r=>some r) fun x1=>(if(x1 != 0)=true then(some (.inr ((([]:List UInt8),x1))))else(some (.inl ())))) (Af fun(_:Unit)=>(Option.bind (Option.bind (some (.inl ())) (Af fun(_:Unit)=>(Am (cz a0) (([71,82,73,68]:List UInt8),(0:Int))))) (Af fun(y2:(List UInt8))=>(Option.bind (if(y2.length+([10]:List UInt8).length≤9223372036854775807)then(some (.inl ()))else none) (Af fun(_:Unit)=>(Option.bind (Option.bind (some (.inl ())) (Af fun(_:Unit)=>(Am (cy a0) ((y2++([10]:List UInt8)),(0:Int))))) (Af fun(y4:(List UInt8))=>(some (y4,(0:Int))))))))))):Option ((List UInt8)×Int)):=M7 _
def Cw (n lo hi:Int):Bool:=decide (lo≤n)&&decide (n≤hi)
theorem J8 (n lo hi:Int):Ej n lo hi=some (Cw n lo hi):=by rw[A65];rfl
theorem inB_iff {n lo hi:Int}:Cw n lo hi=true↔lo≤n∧n≤hi:=by unfold Cw;simp
theorem L5 (n lo hi:Int):(decide (n < lo) || decide (hi < n))=!Cw n lo hi:=by
 unfold Cw
 by_cases h1:lo≤n<;>by_cases h2:n≤hi<;>simp[h1,h2]<;>omega
def Dm (p:Ax):Bool:=Cw p.X (-2000000) 2000000&&Cw p.Y (-2000000) 2000000
theorem AAl (p:Ax):Uh p=some (Dm p):=by
 rw[A64,J8]
 simp only[bs]
 unfold Dm
 cases h:Cw p.X (-2000000) 2000000 with
 | true=>rw[if_pos rfl,J8];rfl
 | false=>rw[if_neg (by decide)];rfl
theorem AAm (p:Ax):mm p=some (Dm p):=by
 rw[A78]
 unfold Dm Cw
 simp only[Bool.and_assoc]
def s5 (g:Aa):Bool:=Fq 0 g.Alts.length fun i=>Cw (g.Alts.getD i default) (-200000) 6000000
def Qt (g:Aa) (i:Nat):Bool:=(Cw (g.Winds.getD i default).East (-340) 340&&Cw (g.Winds.getD i default).North (-340) 340)&&Cw (g.Devs.getD i default) (-4000) 4000
def km (g:Aa):Bool:=Fq 0 g.Winds.length (Qt g)
def sa (g:Aa):Bool:=Fq 1 g.Alts.length fun i=>decide (g.Alts.getD (i - 1) default < g.Alts.getD i default)
def Gc (g:Aa):Bool:=(Dm g.Corner&&Cw g.Cell 1 2000000)&&Cw g.Err 0 60
def M5 (g:Aa):Bool:=Gc g&&(s5 g&&km g)
def S0 (g:Aa):Bool:=(((((decide (g.NX < 1)) || (decide (16 < g.NX))) || (decide (g.NY < 1))) || (decide (16 < g.NY))) || (decide ((g.Alts.length:Int) < (1:Int)))) || (decide (8 < (g.Alts.length:Int)))
def Fs (g:Aa):Int:=g.NX * g.NY * (g.Alts.length:Int)
def Kz (g:Aa):Int:=if S0 g=true then 3 else if(g.Winds.length:Int)≠Fs g∨(g.Devs.length:Int)≠Fs g then 1 else if M5 g=false then 2 else if sa g=false then 9 else 0
theorem dj {g:Aa} (h:S0 g=false):(1≤g.NX∧g.NX≤16)∧(1≤g.NY∧g.NY≤16)∧1≤g.Alts.length∧g.Alts.length≤8:=by
 unfold S0 at h
 simp only[Bool.or_eq_false_iff,decide_eq_false_iff_not]at h
 omega
theorem eg {g:Aa} (h:S0 g=false):1≤Fs g∧Fs g≤2048∧IntKind.wrap .i64 ((IntKind.wrap .i64 (g.NX * g.NY)) * (g.Alts.length:Int))=Fs g∧1≤g.NX * g.NY∧g.NX * g.NY≤256:=by
 obtain⟨h1,h2,h3,h4⟩:=dj h
 have a:=Sd h1 h2
 have b1:g.NX * g.NY≤16 * 16:=Int.mul_le_mul h1.2 h2.2 (by omega) (by omega)
 have b2:g.NX * g.NY * (g.Alts.length:Int)≤256 * 8:=Int.mul_le_mul (by omega) (by omega) (by omega) (by omega)
 have b3:1 * 1≤g.NX * g.NY * (g.Alts.length:Int):=Int.mul_le_mul a.2.2 (by omega) (by omega) (by omega)
 unfold Fs
 refine⟨by omega,by omega,?_,a.2.2,by omega⟩
 rw[Bh (x:=g.NX * g.NY) (by omega) (by omega),Bh (by omega) (by omega)]
theorem vals_p {g:Aa} (ha:g.Alts.length≤1000) (hw:g.Winds.length≤100000) (hd:g.Devs.length=g.Winds.length):ml g=some (M5 g):=by
 rw[A35,AAl]
 simp only[bs,J8]
 unfold M5 Gc
 have e1:(Option.bind (if(!(!Dm g.Corner))=true then some (Cw g.Cell 1 2000000)else some default) fun r1_1=>Option.bind (if(!((!Dm g.Corner) || (!r1_1)))=true then some (Cw g.Err 0 60)else some default) fun r1_2=>some (Dm g.Corner,r1_1,r1_2):Option (Bool×Bool×Bool))=some (Dm g.Corner,(if Dm g.Corner=true then Cw g.Cell 1 2000000 else default),(if(Dm g.Corner&&Cw g.Cell 1 2000000)=true then Cw g.Err 0 60 else default)):=by
  cases Dm g.Corner with
  | false=>rfl
  | true=>cases Cw g.Cell 1 2000000<;>rfl
 rw[e1]
 simp only[bs]
 have e2:(((!Dm g.Corner) || (!(if Dm g.Corner=true then Cw g.Cell 1 2000000 else default))) || (!(if(Dm g.Corner&&Cw g.Cell 1 2000000)=true then Cw g.Err 0 60 else default)))=!(Gc g):=by
  unfold Gc
  cases Dm g.Corner with
  | false=>rfl
  | true=>cases Cw g.Cell 1 2000000<;>cases Cw g.Err 0 60<;>rfl
 rw[e2]
 show _=some (Gc g&&(s5 g&&km g))
 cases Gc g with
 | false=>rfl
 | true =>
  simp only[Bool.not_true,Bool.false_eq_true,if_false,bs,ol,Bool.true_and]
  have l2:=Hv (b:=X5 g) (n:=g.Alts.length) (fun i=>Cw (g.Alts.getD i default) (-200000) 6000000) (Sum.inr false) (Sum.inl ()) (fun i hi=>by
    simp only[X5]
    rw[if_neg (by simp;omega)]) _ 0 rfl (fun i _ hi=>by
    simp only[X5,Int.toNat_natCast]
    rw[if_pos (decide_eq_true (show (i:Int) < (g.Alts.length:Int) from by omega)),if_pos (by omega),if_pos (by omega),J8]
    simp only[bs]
    cases Cw (g.Alts.getD i default) (-200000) 6000000 with
    | true=>rw[if_neg (by decide),if_pos rfl,O1 (by omega)]
    | false=>rfl)
  have l1:=Hv (b:=X4 g) (n:=g.Winds.length) (Qt g) (Sum.inr false) (Sum.inl ()) (fun i hi=>by
    simp only[X4]
    rw[if_neg (by simp;omega)]) _ 0 rfl (fun i _ hi=>by
    simp only[X4,Int.toNat_natCast]
    rw[if_pos (decide_eq_true (show (i:Int) < (g.Winds.length:Int) from by omega)),if_pos (by omega),if_pos (by omega),J8]
    simp only[bs,J8]
    unfold Qt
    cases Cw (g.Winds.getD i default).East (-340) 340 with
    | false=>rfl
    | true =>
     cases Cw (g.Winds.getD i default).North (-340) 340 with
     | false=>rfl
     | true =>
      simp only[Bool.not_true,Bool.not_false,if_true,bs,Bool.or_false]
      rw[if_pos (by intro _;omega),if_pos (by intro _;omega)]
      simp only[bs]
      cases Cw (g.Devs.getD i default) (-4000) 4000 with
      | true=>simp only[Bool.not_true,Bool.or_false,Bool.false_eq_true,if_false,Bool.and_true,if_true];rw[O1 (by omega)]
      | false=>rfl)
  rw[show ((0:Nat):Int)=0 from rfl]at l1 l2
  rw[l2]
  show _=some (Fq 0 g.Alts.length (fun i=>Cw (g.Alts.getD i default) (-200000) 6000000)&&Fq 0 g.Winds.length (Qt g))
  cases Fq 0 g.Alts.length (fun i=>Cw (g.Alts.getD i default) (-200000) 6000000) with
  | false=>rfl
  | true =>
   simp only[if_true,bs,ol,Bool.true_and]
   rw[l1]
   cases Fq 0 g.Winds.length (Qt g)<;>rfl
theorem e7 {g:Aa} {i:Nat} (h1:1≤i) (hi:i < g.Alts.length) (ha:g.Alts.length≤1000) {X:Type} {b:X}:(if(decide ((i:Int) < (g.Alts.length:Int)))=true then(if(0≤(i:Int))then(if((i:Int) < (g.Alts.length:Int))then(if(0≤(IntKind.wrap .i64 ((i:Int) - 1)))then(if((IntKind.wrap .i64 ((i:Int) - 1)) < (g.Alts.length:Int))then(if(decide ((g.Alts.getD i default)≤(g.Alts.getD (IntKind.wrap .i64 ((i:Int) - 1)).toNat default)))=true then(some (.inr b))else(some (.inl (IntKind.wrap .i64 ((i:Int)+1)))))else none)else none)else none)else none)else(none:Option (Int⊕X)))=some (if decide (g.Alts.getD (i - 1) default < g.Alts.getD i default)=true then .inl ((i:Int)+1)else .inr b):=by
 have e:IntKind.wrap .i64 ((i:Int) - 1)=((i - 1:Nat):Int):=by rw[Bh (by omega) (by omega)];omega
 rw[if_pos (decide_eq_true (by omega)),if_pos (by omega),if_pos (by omega),e,if_pos (by omega),if_pos (by omega),Int.toNat_natCast]
 by_cases h:g.Alts.getD (i - 1) default < g.Alts.getD i default
 ·rw[if_neg (fun e=>by have:=of_decide_eq_true e;omega),if_pos (decide_eq_true h),O1 (by omega)]
 ·rw[if_pos (decide_eq_true (by omega)),if_neg (by simpa using h)]
theorem ln (g:Aa) (hw:g.Winds.length≤9223372036854775807):Ov g=some (Kz g):=by
 rw[A12]
 show Option.bind (if S0 g=true then _ else _) _=_
 unfold Kz
 cases hs:S0 g with
 | true=>rfl
 | false =>
  obtain⟨h1,h2,h3,h4⟩:=dj hs
  obtain⟨c1,c2,c3,c4,c5⟩:=eg hs
  rw[if_neg (show ¬ (false=true) from by decide),if_neg (show ¬ (false=true) from by decide),c3]
  by_cases hc:(g.Winds.length:Int)≠Fs g∨(g.Devs.length:Int)≠Fs g
  ·rw[if_pos (by simpa using hc),if_pos hc]
   rfl
  ·rw[if_neg (by simpa using hc),if_neg hc]
   have q1:(g.Winds.length:Int)=Fs g:=by omega
   have q2:(g.Devs.length:Int)=Fs g:=by omega
   rw[vals_p (by omega) (by omega) (by omega)]
   simp only[bs]
   cases M5 g with
   | false=>rfl
   | true =>
    simp only[Bool.not_true,Bool.false_eq_true,if_false,bs,ol]
    have l:=Hv (b:=X0 g) (n:=g.Alts.length) (fun i=>decide (g.Alts.getD (i - 1) default < g.Alts.getD i default)) (Sum.inr 9) (Sum.inl ()) (fun i hi=>by
     simp only[X0]
     rw[if_neg (by simp;omega)]) _ 1 rfl (fun i h1i hi=>by
     have:=e7 (g:=g) (X:=Unit⊕Int) (b:=Sum.inr 9) h1i hi (by omega)
     simp only[X0,Int.toNat_natCast]
     rw[if_pos (decide_eq_true (show (i:Int) < (g.Alts.length:Int) from by omega))]at this ⊢
     exact this)
    rw[show ((1:Nat):Int)=1 from rfl]at l
    rw[l]
    show _=some (if Fq 1 g.Alts.length (fun i=>decide (g.Alts.getD (i - 1) default < g.Alts.getD i default))=false then 9 else 0)
    cases Fq 1 g.Alts.length (fun i=>decide (g.Alts.getD (i - 1) default < g.Alts.getD i default))<;>rfl
theorem Check_r (g:Aa):mi g=some (Kz g):=by
 rw[A27]
 show Option.bind (if S0 g=true then _ else _) _=_
 unfold Kz
 cases hs:S0 g with
 | true=>rfl
 | false =>
  obtain⟨h1,h2,h3,h4⟩:=dj hs
  obtain⟨c1,c2,c3,c4,c5⟩:=eg hs
  rw[if_neg (show ¬ (false=true) from by decide),if_neg (show ¬ (false=true) from by decide),c3]
  by_cases hc:(g.Winds.length:Int)≠Fs g∨(g.Devs.length:Int)≠Fs g
  ·rw[if_pos (by simpa using hc),if_pos hc]
   rfl
  ·rw[if_neg (by simpa using hc),if_neg hc]
   have q1:(g.Winds.length:Int)=Fs g:=by omega
   have q2:(g.Devs.length:Int)=Fs g:=by omega
   rw[AAm]
   simp only[bs]
   have e2:(((((!Dm g.Corner) || (decide (g.Cell < 1))) || (decide (2000000 < g.Cell))) || (decide (g.Err < 0))) || (decide (60 < g.Err)))=!(Gc g):=by
    have:=L5 g.Cell 1 2000000
    have:=L5 g.Err 0 60
    unfold Gc
    rw[Bool.not_and,Bool.not_and,← L5 g.Cell 1 2000000,← L5 g.Err 0 60]
    simp only[Bool.or_assoc]
   rw[e2]
   unfold M5
   cases Gc g with
   | false=>rfl
   | true =>
    simp only[Bool.not_true,Bool.false_eq_true,if_false,bs,ol,Bool.true_and]
    have l3:=Hv (b:=X3 g) (n:=g.Alts.length) (fun i=>Cw (g.Alts.getD i default) (-200000) 6000000) (Sum.inr 2) (Sum.inl ()) (fun i hi=>by
     simp only[X3]
     rw[if_neg (by simp;omega)]) _ 0 rfl (fun i _ hi=>by
     simp only[X3,Int.toNat_natCast]
     rw[if_pos (decide_eq_true (show (i:Int) < (g.Alts.length:Int) from by omega)),if_pos (by omega),if_pos (by omega)]
     simp only[L5]
     cases Cw (g.Alts.getD i default) (-200000) 6000000 with
     | true=>rw[if_neg (by decide),if_pos rfl,O1 (by omega)]
     | false=>rfl)
    have l2:=Hv (b:=X2 g) (n:=g.Winds.length) (Qt g) (Sum.inr 2) (Sum.inl ()) (fun i hi=>by
     simp only[X2]
     rw[if_neg (by simp;omega)]) _ 0 rfl (fun i _ hi=>by
     simp only[X2,Int.toNat_natCast]
     rw[if_pos (decide_eq_true (show (i:Int) < (g.Winds.length:Int) from by omega)),if_pos (by omega),if_pos (by omega),if_pos (by intro _;omega),if_pos (by intro _;omega),if_pos (by intro _;omega),if_pos (by intro _;omega)]
     have e3:((((((decide ((g.Winds.getD i default).East < (-340:Int))) || (decide (340 < (g.Winds.getD i default).East))) || (decide ((g.Winds.getD i default).North < (-340:Int)))) || (decide (340 < (g.Winds.getD i default).North))) || (decide ((g.Devs.getD i default) < (-4000:Int)))) || (decide (4000 < (g.Devs.getD i default))))=!(Qt g i):=by
      unfold Qt
      rw[Bool.not_and,Bool.not_and,← L5,← L5,← L5]
      simp only[Bool.or_assoc]
     simp only[e3]
     cases Qt g i with
     | true=>rw[if_neg (by decide),if_pos rfl,O1 (by omega)]
     | false=>rfl)
    have l1:=Hv (b:=X1 g) (n:=g.Alts.length) (fun i=>decide (g.Alts.getD (i - 1) default < g.Alts.getD i default)) (Sum.inr 9) (Sum.inl ()) (fun i hi=>by
     simp only[X1]
     rw[if_neg (by simp;omega)]) _ 1 rfl (fun i h1i hi=>by
     have:=e7 (g:=g) (X:=Unit⊕Int) (b:=Sum.inr 9) h1i hi (by omega)
     simp only[X1,Int.toNat_natCast]
     rw[if_pos (decide_eq_true (show (i:Int) < (g.Alts.length:Int) from by omega))]at this ⊢
     exact this)
    rw[show ((0:Nat):Int)=0 from rfl]at l2 l3
    rw[show ((1:Nat):Int)=1 from rfl]at l1
    rw[l3]
    unfold s5 km sa
    cases Fq 0 g.Alts.length (fun i=>Cw (g.Alts.getD i default) (-200000) 6000000) with
    | false=>rfl
    | true =>
     simp only[if_true,bs,ol,Bool.true_and]
     rw[l2]
     cases Fq 0 g.Winds.length (Qt g) with
     | false=>rfl
     | true =>
      simp only[if_true,bs,ol]
      rw[l1]
      cases Fq 1 g.Alts.length (fun i=>decide (g.Alts.getD (i - 1) default < g.Alts.getD i default))<;>rfl
end Go.Av.Txs
set_option maxRecDepth 100000
namespace Go.Av.Txs
open Go.Av
theorem W5 (a b:List UInt8):Aq (a++b)=Aq a++Aq b:=by simp[Aq]
theorem W6 (a:List UInt8):(Aq a).length=a.length:=by simp[Aq]
def Cz (l:List Int):List UInt8:=l.flatMap fun n=>32 :: Lib.itoa n
def C2 (w:List UInt8) (l:List Int):List UInt8:=w++Cz l++[10]
theorem Xg {l:List Int} {i:Nat} (h:i < l.length):Cz (l.take (i+1))=Cz (l.take i)++(32 :: Lib.itoa (l.getD i default)):=by
 unfold Cz
 rw[List.take_add_one,List.getElem?_eq_getElem h,List.flatMap_append,List.getD_eq_getElem?_getD,List.getElem?_eq_getElem h]
 simp
def az (l:List Int):Prop:=∀ x∈l,-1000000000000000≤x∧x≤1000000000000000
theorem Kd {z:Int} (h1 : -1000000000000000≤z) (h2:z≤1000000000000000):(Lib.itoa z).length≤21:=Lib.itoa_length_le z (by omega) (by omega)
theorem L4 {l:List Int} (h:az l):(Cz l).length≤22 * l.length:=by
 induction l with
 | nil=>exact Nat.le_refl _
 | cons a l ih =>
  have h1:=Kd (h a List.mem_cons_self).1 (h a List.mem_cons_self).2
  have h2:=ih fun x hx=>h x (List.mem_cons_of_mem _ hx)
  unfold Cz at h2 ⊢
  rw[List.flatMap_cons,List.length_append,List.length_cons,List.length_cons]
  omega
theorem F8 {w:List UInt8} {l:List Int} (h:az l):(C2 w l).length≤w.length+22 * l.length+1:=by
 have:=L4 h
 unfold C2
 simp only[List.length_append,List.length_cons,List.length_nil]
 omega
theorem ws1 {a:List UInt8} {b:List Int} (h:b.length+a.length≤2000000):D9 a b=some ():=by
 rw[A40o1]
 unfold gg
 simp only[bs]
 rw[if_pos (by omega)]
 rfl
theorem ws0 {a:List UInt8} (h:a.length≤2000000):Q2 a=some ():=by
 rw[A40o0]
 unfold gf
 simp only[bs]
 rw[if_pos (by omega)]
 rfl
theorem jg {b:Int×List Int→Option ((Int×List Int)⊕(List Int⊕List Int))} {l:List Int} (hl:l.length≤20) (hn:az l) (p:List UInt8) (hp:p.length≤1000000)
  (hb:∀ s1:Int×List Int,b s1=((if(decide (s1.1 < (l.length:Int)))=true then(if(0≤s1.1)then(if(s1.1 < (l.length:Int))then(Option.bind (((E4 (l.getD s1.1.toNat default) (10:Int)).bind fun r4_0=>(if([32]:List UInt8).length+r4_0.length≤9223372036854775807 then((D9 (([32]:List UInt8)++r4_0) s1.2).bind fun r4_1=>some (r4_0,r4_1))else none))) fun(x4:((List UInt8)×Unit))=>(some (.inl ((IntKind.wrap .i64 (s1.1+1)),(s1.2++Aq (([32]:List UInt8)++x4.1))))))else none)else none)else(some (.inr (.inl s1.2)))))) :
  Am b ((0:Int),Aq p)=some (.inl (Aq (p++Cz l))):=by
 have key:∀ k i,i+k=l.length→Am b ((i:Int),Aq (p++Cz (l.take i)))=some (.inl (Aq (p++Cz l))):=by
  intro k
  induction k with
  | zero =>
   intro i hi
   obtain rfl:i=l.length:=by omega
   refine Be ?_
   rw[hb]
   simp only[Int.lt_irrefl,decide_false,Bool.false_eq_true,if_false,List.take_length]
  | succ k ih =>
   intro i hi
   have h:i < l.length:=by omega
   have hz:=hn _ (Ce h)
   have h1:=Kd hz.1 hz.2
   have h2:=L4 (l:=l.take i) fun x hx=>hn x (List.mem_of_mem_take hx)
   rw[List.length_take]at h2
   refine Bg (s':=(((i+1:Nat):Int),Aq (p++Cz (l.take (i+1))))) ?_ (ih (i+1) (by omega))
   rw[hb]
   simp only[Int.toNat_natCast]
   rw[if_pos (decide_eq_true (show (i:Int) < (l.length:Int) from by omega)),if_pos (by omega),if_pos (by omega),Wp (by omega) (by omega)]
   simp only[bs]
   rw[Xg h]
   generalize Lib.itoa (l.getD i default)=T at h1 ⊢
   rw[if_pos (by simp;omega),ws1 (by rw[W6];simp;omega)]
   simp only[bs]
   rw[wn (by omega),← W5,List.append_assoc]
   rfl
 have:=key l.length 0 (by omega)
 rw[List.take_zero,show Cz []=[] from rfl,List.append_nil,show ((0:Nat):Int)=0 from rfl]at this
 exact this
theorem put0_eq (w:List UInt8) (l:List Int) (hl:l.length≤20) (hn:az l) (hw:w.length≤1000):Pz w l=some (Aq (C2 w l)):=by
 rw[A24o0,ws0 (by omega)]
 simp only[bs,ol]
 rw[jg hl hn w (by omega) (fun s1=>rfl)]
 have:=L4 hn
 simp only[bs,ol]
 rw[ws1 (by rw[W6];simp;omega)]
 simp only[bs]
 rw[← W5]
 rfl
theorem r8 (p w:List UInt8) (l:List Int) (hl:l.length≤20) (hn:az l) (hw:w.length≤1000) (hp:p.length≤900000):Jl w l (Aq p)=some (Aq (p++C2 w l)):=by
 rw[A24o1,ws1 (by rw[W6];omega)]
 simp only[bs,ol]
 rw[← W5,jg hl hn (p++w) (by simp;omega) (fun s1=>rfl)]
 have:=L4 hn
 simp only[bs,ol]
 rw[ws1 (by rw[W6];simp;omega)]
 simp only[bs]
 rw[← W5]
 unfold C2
 simp only[List.append_assoc]
structure aa (g:Aa) (K:Nat):Prop where
 k:1≤K∧K≤256
 kk:g.NX * g.NY=(K:Int)
 a:1≤g.NX∧g.NX≤16
 b:1≤g.NY∧g.NY≤16
 n:1≤g.Alts.length∧g.Alts.length≤8
 w:g.Winds.length=g.Alts.length * K
 d:g.Devs.length=g.Alts.length * K
 x:(-2000000≤g.Corner.X∧g.Corner.X≤2000000)∧(-2000000≤g.Corner.Y∧g.Corner.Y≤2000000)
 c:1≤g.Cell∧g.Cell≤2000000
 e:0≤g.Err∧g.Err≤60
 al:∀ i,i < g.Alts.length → -200000≤g.Alts.getD i default∧g.Alts.getD i default≤6000000
 wn:∀ i,i < g.Winds.length→(-340≤(g.Winds.getD i default).East∧(g.Winds.getD i default).East≤340)∧(-340≤(g.Winds.getD i default).North∧(g.Winds.getD i default).North≤340)∧(-4000≤g.Devs.getD i default∧g.Devs.getD i default≤4000)
 asv:∀ i,1≤i→i < g.Alts.length→g.Alts.getD (i - 1) default < g.Alts.getD i default
theorem chk_ok {g:Aa}:Kz g=0↔aa g (g.NX * g.NY).toNat:=by
 constructor
 ·intro h
  unfold Kz at h
  split at h
  ·cases h
  ·rename_i h1
   have hs:S0 g=false:=by simpa using h1
   obtain⟨s1,s2,s3,s4⟩:=dj hs
   obtain⟨c1,c2,c3,c4,c5⟩:=eg hs
   split at h
   ·cases h
   ·rename_i h2
    split at h
    ·cases h
    ·rename_i h3
     split at h
     ·cases h
     ·rename_i h4
      have v:M5 g=true:=by simpa using h3
      have asv:sa g=true:=by simpa using h4
      unfold M5 Gc Dm at v
      simp only[Bool.and_eq_true,inB_iff]at v
      obtain⟨⟨⟨⟨v1,v2⟩,v3⟩,v4⟩,v5,v6⟩:=v
      have hk:((g.NX * g.NY).toNat:Int)=g.NX * g.NY:=by omega
      have hcnt:Fs g=((g.Alts.length * (g.NX * g.NY).toNat:Nat):Int):=by unfold Fs;rw[Int.natCast_mul,hk,Int.mul_comm]
      refine⟨by omega,hk.symm,s1,s2,⟨s3,s4⟩,by omega,by omega,⟨v1,v2⟩,v3,v4,fun i hi=>?_,fun i hi=>?_,fun i h1 hi=>?_⟩
      ·exact inB_iff.1 (allR_iff.1 v5 i (Nat.zero_le _) hi)
      ·have:=allR_iff.1 v6 i (Nat.zero_le _) hi
       unfold Qt at this
       simp only[Bool.and_eq_true,inB_iff]at this
       exact⟨this.1.1,this.1.2,this.2⟩
      ·exact of_decide_eq_true (allR_iff.1 asv i h1 hi)
 ·intro O
  have hk:=O.kk
  have hcnt:Fs g=((g.Alts.length * (g.NX * g.NY).toNat:Nat):Int):=by unfold Fs;rw[Int.natCast_mul,← hk,Int.mul_comm]
  have hs:S0 g=false:=by
   have:=O.a;have:=O.b;have:=O.n
   unfold S0
   simp only[Bool.or_eq_false_iff,decide_eq_false_iff_not]
   omega
  have v:M5 g=true:=by
   unfold M5 Gc Dm
   simp only[Bool.and_eq_true,inB_iff]
   refine⟨⟨⟨⟨O.x.1,O.x.2⟩,O.c⟩,O.e⟩,allR_iff.2 fun i _ hi=>inB_iff.2 (O.al i hi),allR_iff.2 fun i _ hi=>?_⟩
   unfold Qt
   simp only[Bool.and_eq_true,inB_iff]
   exact⟨⟨(O.wn i hi).1,(O.wn i hi).2.1⟩,(O.wn i hi).2.2⟩
  have asv:sa g=true:=allR_iff.2 fun i h1 hi=>decide_eq_true (O.asv i h1 hi)
  unfold Kz
  rw[hs,v,asv,if_neg (by decide),if_neg (by have:=O.w;have:=O.d;omega),if_neg (by decide),if_neg (by decide)]
def O0 (g:Aa) (t:Nat):List UInt8:=C2 wWIND [(g.Winds.getD t default).East,(g.Winds.getD t default).North,g.Devs.getD t default]
def Ms (g:Aa) (i:Nat):List UInt8:=wLEVEL++[32]++Dx (g.Alts.getD i default)++[10]
def qx (g:Aa) (K t:Nat):List UInt8:=(if t % K=0 then Ms g (t / K)else[])++O0 g t
def pP (g:Aa) (K t:Nat):List UInt8:=(List.range t).flatMap (qx g K)
def Bz (g:Aa):List Int:=[g.Corner.X,g.Corner.Y,g.Cell,g.NX,g.NY,g.Err]
def Ql (g:Aa):List UInt8:=C2 wGRID (Bz g)++pP g (g.NX * g.NY).toNat g.Winds.length
section
variable {g:Aa} {K:Nat} (O:aa g K)
include O
theorem L2:az (Bz g):=by
 have:=O.x;have:=O.c;have:=O.a;have:=O.b;have:=O.e
 intro x hx
 simp only[Bz,List.mem_cons,List.not_mem_nil,or_false]at hx
 rcases hx with rfl | rfl | rfl | rfl | rfl | rfl<;>omega
theorem kn {t:Nat} (h:t < g.Winds.length):az [(g.Winds.getD t default).East,(g.Winds.getD t default).North,g.Devs.getD t default]:=by
 have:=O.wn t h
 intro x hx
 simp only[List.mem_cons,List.not_mem_nil,or_false]at hx
 rcases hx with rfl | rfl | rfl<;>omega
theorem Z8 {t:Nat} (h:t < g.Winds.length):(O0 g t).length≤80:=by
 have:=F8 (w:=wWIND) (kn O h)
 unfold O0
 simp only[List.length_cons,List.length_nil,show wWIND.length=4 from rfl]at this ⊢
 omega
theorem Sp {i:Nat} (h:i < g.Alts.length):(Ms g i).length≤120:=by
 have:=Uu (O.al i h).1 (O.al i h).2
 unfold Ms
 simp only[List.length_append,List.length_cons,List.length_nil,show wLEVEL.length=5 from rfl]
 omega
theorem pce_len {t:Nat} (h:t < g.Winds.length):(qx g K t).length≤200:=by
 have h1:=Z8 O h
 have hk:=O.k
 have h2:(if t % K=0 then Ms g (t / K)else[]).length≤120:=by
  split
  ·exact Sp O ((Nat.div_lt_iff_lt_mul (by omega)).2 (by have:=O.w;omega))
  ·exact Nat.zero_le _
 unfold qx
 rw[List.length_append]
 omega
theorem Xk:∀ {t:Nat},t≤g.Winds.length→(pP g K t).length≤200 * t
 | 0,_=>Nat.le_refl _
 | t+1,h=>by
  have h1:=Xk (t:=t) (by omega)
  have h2:=pce_len O (t:=t) (by omega)
  unfold pP at h1 ⊢
  rw[Ch,List.length_append]
  omega
theorem gh:g.Winds.length≤2048:=by
 have h1:=O.w;have h2:=O.n;have h3:=O.k
 rw[h1]
 exact Nat.le_trans (Nat.mul_le_mul h2.2 h3.2) (by decide)
omit O in
theorem am {A:List UInt8} {f:Nat→List UInt8}:∀ j,1≤j→(List.range j).flatMap (fun r=>(if r=0 then A else[])++f r)=A++(List.range j).flatMap f
 | 0,h=>absurd h (by decide)
 | 1,_=>by simp
 | j+2,_=>by
  rw[Ch (fun r=>(if r=0 then A else[])++f r) (j+1),am (j+1) (by omega),if_neg (by omega),Ch f (j+1),List.append_assoc]
  rfl
omit O in
theorem fa {α:Type} {f h:α→List UInt8}:∀ {l:List α},(∀ x∈l,f x=h x)→l.flatMap f=l.flatMap h
 | [],_=>rfl
 | a :: l,e=>by rw[List.flatMap_cons,List.flatMap_cons,e a List.mem_cons_self,fa fun x hx=>e x (List.mem_cons_of_mem _ hx)]
theorem Vf {i:Nat}:pP g K ((i+1) * K)=pP g K (i * K)++(Ms g i++(List.range K).flatMap fun r=>O0 g (i * K+r)):=by
 have hk:=O.k
 unfold pP
 rw[Nat.add_mul,Nat.one_mul,List.range_add,List.flatMap_append,← am K hk.1]
 congr 1
 rw[List.flatMap_map]
 refine fa fun r hr=>?_
 have hr:=List.mem_range.1 hr
 unfold qx
 rw[show (i * K+r) % K=r from by rw[Nat.add_comm,Nat.add_mul_mod_self_right,Nat.mod_eq_of_lt hr]]
 by_cases h0:r=0
 ·subst h0
  rw[if_pos rfl,if_pos rfl,Nat.add_zero,Nat.mul_div_cancel _ (by omega)]
 ·rw[if_neg h0,if_neg h0]
theorem text_in {i:Nat} (hi:i < g.Alts.length) {s:List Int}:∀ (k j:Nat),j+k=K →
  Am (cv ((i:Int),s) g) (((i * K+j:Nat):Int),Aq (C2 wGRID (Bz g)++(pP g K (i * K)++(Ms g i++(List.range j).flatMap fun r=>O0 g (i * K+r)))))=some (.inl (Aq (C2 wGRID (Bz g)++pP g K ((i+1) * K)))):=by
 have hk:=O.k
 have hn:=gh O
 have hw:=O.w
 have hd:=O.d
 have hiK:(i+1) * K≤g.Winds.length:=by rw[hw];exact Nat.mul_le_mul_right _ hi
 have hik2:(i+1) * K=i * K+K:=by rw[Nat.add_mul,Nat.one_mul]
 have e1:IntKind.wrap .i64 ((i:Int)+1)=((i+1:Nat):Int):=wn (by have:=O.n;omega)
 have e2:IntKind.wrap .i64 (g.NX * g.NY)=(K:Int):=by rw[O.kk,Bh (by omega) (by omega)]
 have e3:IntKind.wrap .i64 (((i+1:Nat):Int) * (K:Int))=(((i+1) * K:Nat):Int):=by rw[← Int.natCast_mul,Bh (by omega) (by omega)]
 intro k
 induction k with
 | zero =>
  intro j hj
  obtain rfl:j=K:=by omega
  refine Be ?_
  simp only[cv]
  rw[e1,e2,e3,hik2,if_neg (by simp),← hik2,Vf O]
 | succ k ih =>
  intro j hj
  have ht:i * K+j < g.Winds.length:=by omega
  refine Bg (s':=(((i * K+(j+1):Nat):Int),Aq (C2 wGRID (Bz g)++(pP g K (i * K)++(Ms g i++(List.range (j+1)).flatMap fun r=>O0 g (i * K+r)))))) ?_ (ih (j+1) (by omega))
  simp only[cv,Int.toNat_natCast]
  rw[e1,e2,e3,if_pos (decide_eq_true (by omega)),if_pos (by omega),if_pos (by omega),if_pos (by omega),if_pos (by omega),if_pos (by omega),if_pos (by omega)]
  have hlen:(C2 wGRID (Bz g)++(pP g K (i * K)++(Ms g i++(List.range j).flatMap fun r=>O0 g (i * K+r)))).length≤900000:=by
   have a:=F8 (w:=wGRID) (L2 O)
   have b:=Xk O (t:=i * K) (by omega)
   have c:=Sp O hi
   have d:((List.range j).flatMap fun r=>O0 g (i * K+r)).length≤80 * j:=by
    have:∀ m,m≤j→((List.range m).flatMap fun r=>O0 g (i * K+r)).length≤80 * m:=by
     intro m
     induction m with
     | zero=>intro _;exact Nat.le_refl _
     | succ m ihm =>
      intro hm
      have:=Z8 O (t:=i * K+m) (by omega)
      have:=ihm (by omega)
      rw[Ch,List.length_append]
      omega
    exact this j (Nat.le_refl _)
   simp only[List.length_append,Bz,List.length_cons,List.length_nil,show wGRID.length=4 from rfl]at a ⊢
   omega
  rw[show ([87,73,78,68]:List UInt8)=wWIND from rfl,r8 _ _ _ (by simp) (kn O ht) (by decide) hlen]
  simp only[bs]
  rw[wn (i:=i * K+j) (by omega),Ch]
  simp only[List.append_assoc]
  rfl
theorem AB2:∀ (k i:Nat),i+k=g.Alts.length →
  Am (cw g) ((i:Int),Aq (C2 wGRID (Bz g)++pP g K (i * K)))=some (.inl (Aq (C2 wGRID (Bz g)++pP g K g.Winds.length))):=by
 have hk:=O.k
 have hn:=gh O
 have hN:=O.n
 have hw:=O.w
 have e2:IntKind.wrap .i64 (g.NX * g.NY)=(K:Int):=by rw[O.kk,Bh (by omega) (by omega)]
 intro k
 induction k with
 | zero =>
  intro i hi
  obtain rfl:i=g.Alts.length:=by omega
  refine Be ?_
  simp only[cw,Int.lt_irrefl,decide_false,Bool.false_eq_true,if_false,bs,ol,Lh]
  rw[hw]
 | succ k ih =>
  intro i hi
  have h:i < g.Alts.length:=by omega
  have hiK:i * K≤g.Winds.length:=by rw[hw];exact Nat.mul_le_mul_right _ (by omega)
  refine Bg (s':=(((i+1:Nat):Int),Aq (C2 wGRID (Bz g)++pP g K ((i+1) * K)))) ?_ (ih (i+1) (by omega))
  have hz:=O.al i h
  have hal:=Uu hz.1 hz.2
  have hlen:(C2 wGRID (Bz g)++pP g K (i * K)).length≤900000:=by
   have a:=F8 (w:=wGRID) (L2 O)
   have b:=Xk O (t:=i * K) hiK
   simp only[List.length_append,Bz,List.length_cons,List.length_nil,show wGRID.length=4 from rfl]at a ⊢
   omega
  have hp:Jl (([76,69,86,69,76,32]:List UInt8)++Dx (g.Alts.getD i default)) [] (Aq (C2 wGRID (Bz g)++pP g K (i * K)))=some (Aq (C2 wGRID (Bz g)++(pP g K (i * K)++Ms g i))):=by
   rw[r8 _ _ _ (by simp) (fun x hx=>absurd hx List.not_mem_nil) (by rw[List.length_append,show ([76,69,86,69,76,32]:List UInt8).length=6 from rfl];omega) hlen,List.append_assoc]
   unfold C2 Ms
   rw[show Cz []=[] from rfl,List.append_nil]
   rfl
  have hin:=text_in O h (s:=Aq (C2 wGRID (Bz g)++pP g K (i * K))) K 0 (by omega)
  rw[List.range_zero,List.flatMap_nil,List.append_nil,Nat.add_zero]at hin
  simp only[cw,Int.toNat_natCast]
  rw[if_pos (decide_eq_true (show (i:Int) < (g.Alts.length:Int) from by omega))]
  simp only[bs,ol]
  rw[if_pos (by omega),if_pos (by omega),v8 hz.1 hz.2]
  simp only[bs]
  rw[if_pos (by rw[show ([76,69,86,69,76,32]:List UInt8).length=6 from rfl];omega),hp]
  simp only[bs,ol]
  rw[e2,← Int.natCast_mul,show IntKind.wrap .i64 ((i * K:Nat):Int)=((i * K:Nat):Int) from Bh (by omega) (by omega),hin]
  simp only[bs,ol]
  rw[wn (by omega)]
omit O in
theorem mbs_eq {t:List UInt8} (h:t≠[]):V8 (Aq t)=some t:=by
 unfold V8
 rw[if_pos ⟨by unfold Aq;simpa using h,by
  unfold Aq
  rw[List.all_map,List.all_eq_true]
  intro x _
  have:=x.toNat_lt
  simp
  omega⟩]
 congr 1
 unfold Aq
 rw[List.map_map]
 conv=>rhs;rw[← List.map_id t]
 refine List.map_congr_left fun x _=>?_
 simp
end
def Ny (g:Aa):List UInt8×Int:=if Kz g=0 then(Ql g,0)else([],Kz g)
theorem Text_p (g:Aa) (hw:g.Winds.length≤9223372036854775807):m6 g=some (Ny g):=by
 rw[A6,ln g hw]
 simp only[bs]
 unfold Ny
 by_cases h:Kz g=0
 ·have O:=chk_ok.1 h
  have hz:=AB2 O g.Alts.length 0 (by omega)
  rw[if_neg (show ¬ (Kz g != 0)=true from by simp[h]),if_pos h]
  rw[show ([71,82,73,68]:List UInt8)=wGRID from rfl,show ([g.Corner.X,g.Corner.Y,g.Cell,g.NX,g.NY,g.Err]:List Int)=Bz g from rfl,put0_eq wGRID (Bz g) (by simp[Bz]) (L2 O) (by decide)]
  simp only[bs,ol]
  rw[Nat.zero_mul,show pP g (g.NX * g.NY).toNat 0=[] from rfl,List.append_nil,show ((0:Nat):Int)=0 from rfl]at hz
  rw[hz]
  simp only[bs,ol]
  rw[mbs_eq (by unfold C2;simp)]
  rfl
 ·rw[if_pos (show (Kz g != 0)=true from by simpa using h),if_neg h]
  rfl
end Go.Av.Txs
set_option maxRecDepth 100000
namespace Go.Av.Txs
open Go.Av
theorem we {g:Aa} {K:Nat} (O:aa g K):Am (cz g) (wGRID,(0:Int))=some (.inl (wGRID++Cz (Bz g))):=by
 have hok:=L2 O
 have hlen:(Bz g).length=6:=rfl
 have key:∀ k i,i+k=6→Am (cz g) (wGRID++Cz ((Bz g).take i),(i:Int))=some (.inl (wGRID++Cz (Bz g))):=by
  intro k
  induction k with
  | zero =>
   intro i hi
   obtain rfl:i=6:=by omega
   exact Be rfl
  | succ k ih =>
   intro i hi
   have h:i < (Bz g).length:=by omega
   have hz:=hok _ (Ce h)
   have h1:=Kd hz.1 hz.2
   have h2:=L4 (l:=(Bz g).take i) fun x hx=>hok x (List.mem_of_mem_take hx)
   rw[List.length_take]at h2
   refine Bg (s':=(wGRID++Cz ((Bz g).take (i+1)),((i+1:Nat):Int))) ?_ (ih (i+1) (by omega))
   have hD:G2 ((Bz g).getD i default)=some (Lib.itoa ((Bz g).getD i default)):=Lp hz.1 hz.2
   simp only[cz,Int.toNat_natCast]
   rw[show ([g.Corner.X,g.Corner.Y,g.Cell,g.NX,g.NY,g.Err]:List Int)=Bz g from rfl]
   rw[if_pos (decide_eq_true (show (i:Int) < 6 from by omega)),if_pos (by omega),if_pos (show (i:Int) < ((Bz g).length:Int) from by omega),hD]
   simp only[bs]
   rw[Xg h]
   generalize Lib.itoa ((Bz g).getD i default)=T at h1 ⊢
   have a1:([32]:List UInt8).length=1:=rfl
   have a2:wGRID.length=4:=rfl
   have a3:min i (Bz g).length≤6:=by omega
   rw[if_pos (by omega),if_pos (by rw[List.length_append,List.length_append,a1,a2];omega)]
   simp only[bs]
   rw[wn (by omega),List.append_assoc]
   rfl
 have:=key 6 0 (by omega)
 rw[List.take_zero,show Cz []=[] from rfl,List.append_nil,show ((0:Nat):Int)=0 from rfl]at this
 exact this
theorem wq {q:Nat} (h:q≤1000000):IntKind.wrap .i64 (q:Int)=(q:Int):=Bh (by omega) (by omega)
theorem Gd {a:Nat} (h:a≤2000000):a≤9223372036854775807:=Nat.le_trans h (by decide)
section
variable {g:Aa} {K:Nat} (O:aa g K)
include O
theorem vh:∀ (k t:Nat),t+k=g.Winds.length →
  Am (cy g) (C2 wGRID (Bz g)++pP g K t,(t:Int))=some (.inl (C2 wGRID (Bz g)++pP g K g.Winds.length)):=by
 have hk:=O.k
 have hn:=gh O
 have hN:=O.n
 have hw:=O.w
 have hd:=O.d
 have e2:IntKind.wrap .i64 (g.NX * g.NY)=(K:Int):=by rw[O.kk,Bh (by omega) (by omega)]
 intro k
 induction k with
 | zero =>
  intro t ht
  obtain rfl:t=g.Winds.length:=by omega
  refine Be ?_
  simp only[cy,Int.lt_irrefl,decide_false,Bool.false_eq_true,if_false]
 | succ k ih =>
  intro t ht
  have h:t < g.Winds.length:=by omega
  have hz:=O.wn t h
  have a1:=Kd (z:=(g.Winds.getD t default).East) (by omega) (by omega)
  have a2:=Kd (z:=(g.Winds.getD t default).North) (by omega) (by omega)
  have a3:=Kd (z:=g.Devs.getD t default) (by omega) (by omega)
  have d1:=Lp (z:=(g.Winds.getD t default).East) (by omega) (by omega)
  have d2:=Lp (z:=(g.Winds.getD t default).North) (by omega) (by omega)
  have d3:=Lp (z:=g.Devs.getD t default) (by omega) (by omega)
  have hacc:(C2 wGRID (Bz g)++pP g K t).length≤900000:=by
   have a:=F8 (w:=wGRID) (L2 O)
   have b:=Xk O (t:=t) (by omega)
   simp only[List.length_append,Bz,List.length_cons,List.length_nil,show wGRID.length=4 from rfl]at a ⊢
   omega
  have hwl:O0 g t=((((([87,73,78,68,32]:List UInt8)++Lib.itoa (g.Winds.getD t default).East)++[32])++Lib.itoa (g.Winds.getD t default).North)++[32])++Lib.itoa (g.Devs.getD t default)++[10]:=by
   unfold O0 C2 Cz
   simp[wWIND]
  have hdiv:t / K < g.Alts.length:=(Nat.div_lt_iff_lt_mul (by omega)).2 (by omega)
  have hal:=O.al _ hdiv
  have hA:=va hal.1 hal.2
  have hAl:=Uu hal.1 hal.2
  have e3:Int.tmod (t:Int) (K:Int)=((t % K:Nat):Int):=rfl
  have e4:Int.tdiv (t:Int) (K:Int)=((t / K:Nat):Int):=rfl
  have e5:IntKind.wrap .i64 ((t / K:Nat):Int)=((t / K:Nat):Int):=wq (Nat.le_trans (Nat.div_le_self t K) (by omega))
  have hK0:(K:Int)≠0:=by omega
  have hpp:pP g K (t+1)=pP g K t++qx g K t:=by unfold pP;rw[Ch]
  refine Bg (s':=(C2 wGRID (Bz g)++pP g K (t+1),((t+1:Nat):Int))) ?_ (ih (t+1) (by omega))
  rw[hpp,show qx g K t=(if t % K=0 then Ms g (t / K)else[])++O0 g t from rfl]
  simp only[cy,Int.toNat_natCast]
  rw[if_pos (decide_eq_true (show (t:Int) < (g.Winds.length:Int) from by omega)),if_pos (by omega),if_pos (by omega),e2,if_pos hK0,e3,d1,hwl]
  simp only[bs,d2,d3]
  generalize Lib.itoa (g.Winds.getD t default).East=A1 at a1 ⊢
  generalize Lib.itoa (g.Winds.getD t default).North=A2 at a2 ⊢
  generalize Lib.itoa (g.Devs.getD t default)=A3 at a3 ⊢
  generalize hacc2:C2 wGRID (Bz g)++pP g K t=acc at hacc ⊢
  have c1:([87,73,78,68,32]:List UInt8).length=5:=rfl
  have c2:([32]:List UInt8).length=1:=rfl
  have c3:([10]:List UInt8).length=1:=rfl
  have c4:([76,69,86,69,76,32]:List UInt8).length=6:=rfl
  by_cases hm:t % K=0
  ·rw[if_pos (show (((t % K:Nat):Int)==0)=true from by rw[hm];rfl),if_pos hm,if_pos hK0,e4,e5,if_pos (Int.natCast_nonneg _),if_pos (Int.ofNat_lt.2 hdiv),Int.toNat_natCast,hA]
   simp only[bs]
   have hl:Ms g (t / K)=(([76,69,86,69,76,32]:List UInt8)++Dx (g.Alts.getD (t / K) default))++[10]:=by unfold Ms;simp[wLEVEL]
   rw[hl]
   generalize Dx (g.Alts.getD (t / K) default)=B at hAl ⊢
   rw[if_pos (Gd (by omega)),if_pos (Gd (by rw[List.length_append];omega)),if_pos (Gd (by simp only[List.length_append];omega)),if_pos (Gd (by omega)),if_pos (Gd (by simp only[List.length_append];omega)),if_pos (Gd (by simp only[List.length_append];omega)),if_pos (Gd (by simp only[List.length_append];omega)),if_pos (by omega),if_pos (by omega),if_pos (Gd (by simp only[List.length_append];omega)),if_pos (Gd (by simp only[List.length_append];omega)),if_pos (Gd (by simp only[List.length_append];omega))]
   simp only[bs]
   rw[wn (by omega),← hacc2]
   simp only[List.append_assoc]
  ·rw[if_neg (show ¬ (((t % K:Nat):Int)==0)=true from fun e=>hm (by have h:=eq_of_beq e;generalize t % K=r at h ⊢;omega)),if_neg hm]
   rw[if_pos (Gd (by omega)),if_pos (Gd (by simp only[List.length_append];omega)),if_pos (Gd (by simp only[List.length_append];omega)),if_pos (Gd (by simp only[List.length_append];omega)),if_pos (by omega),if_pos (by omega),if_pos (Gd (by simp only[List.length_append];omega)),if_pos (Gd (by simp only[List.length_append];omega)),if_pos (Gd (by simp only[List.length_append];omega))]
   simp only[bs]
   rw[wn (by omega),← hacc2]
   simp only[List.append_assoc,List.nil_append]
end
theorem Text_r (g:Aa):m7 g=some (Ny g):=by
 rw[A7,Check_r g]
 simp only[bs]
 unfold Ny
 by_cases h:Kz g=0
 ·have O:=chk_ok.1 h
  have hz:=vh O g.Winds.length 0 (by omega)
  have hlen:=F8 (w:=wGRID) (L2 O)
  rw[if_neg (show ¬ (Kz g != 0)=true from by simp[h]),if_pos h]
  simp only[bs,ol]
  rw[show ([71,82,73,68]:List UInt8)=wGRID from rfl,we O]
  simp only[bs,ol]
  have e:wGRID++Cz (Bz g)++[10]=C2 wGRID (Bz g):=rfl
  rw[if_pos (by
   rw[← e,List.length_append]at hlen
   rw[show (Bz g).length=6 from rfl,show wGRID.length=4 from rfl]at hlen
   omega)]
  simp only[bs,ol]
  rw[e]
  rw[show pP g (g.NX * g.NY).toNat 0=[] from rfl,List.append_nil,show ((0:Nat):Int)=0 from rfl]at hz
  rw[hz]
  rfl
 ·rw[if_pos (show (Kz g != 0)=true from by simpa using h),if_neg h]
  rfl
end Go.Av.Txs
set_option maxRecDepth 100000
namespace Go.Av.Txs
open Go.Av
def qn (b:UInt8):Bool:=decide (33≤b.toNat)&&decide (b.toNat≤126)&&!(b==35)
def Uj (w:List UInt8):Prop:=0 < w.length∧∀ b∈w,qn b=true
def G4 (l:List (List UInt8)):List UInt8:=l.flatMap fun s=>32 :: s
def Bt:List (List UInt8)→List UInt8
 | []=>[]
 | w :: l=>w++G4 l
def Bn:Nat→List (List UInt8)→List Ad
 | _,[]=>[]
 | p,w :: l=>⟨w,(p:Int)+1⟩ :: Bn (p+w.length+1) l
theorem Nh:∀ (l:List (List UInt8)) (p:Nat),(Bn p l).length=l.length
 | [],_=>rfl
 | w :: l,p=>by unfold Bn;rw[List.length_cons,List.length_cons,Nh l]
theorem Wo:∀ (l:List (List UInt8)) (p i:Nat),i < l.length→((Bn p l).getD i default).Text=l.getD i []
 | [],_,_,h=>by simp at h
 | w :: l,p,0,_=>rfl
 | w :: l,p,i+1,h=>by
  unfold Bn
  have:=Wo l (p+w.length+1) i (by simpa using h)
  simpa using this
theorem Yu {b:UInt8} (h:qn b=true):33≤b.toNat∧b.toNat≤126∧b≠35:=by
 simp only[qn,Bool.and_eq_true,decide_eq_true_eq,Bool.not_eq_true',beq_eq_false_iff_ne,ne_eq]at h
 exact⟨h.1.1,h.1.2,h.2⟩
theorem Ks {y s r:List UInt8} {q i:Nat} (h:y.drop q=s++r) (hi:i < s.length):q+i < y.length∧A0 y (q+i)=(s[i].toNat:Int):=by
 have h1:(y.drop q)[i]?=some s[i]:=by rw[h,List.getElem?_append_left hi,List.getElem?_eq_getElem hi]
 rw[List.getElem?_drop]at h1
 exact⟨(List.getElem?_eq_some_iff.1 h1).1,by unfold A0;rw[h1]⟩
theorem Nb {a:List UInt8} {q:Nat} {s r:List UInt8} (h:a.drop q=s++r):a.drop (q+s.length)=r:=by
 rw[← List.drop_drop,h,List.drop_left]
theorem zw {a:List UInt8} {q:Nat} {s r:List UInt8} (h:a.drop q=s++r):(a.take (q+s.length)).drop q=s:=by
 rw[List.drop_take,h,Nat.add_sub_cancel_left,List.take_left]
theorem aj {y w r:List UInt8} {q:Nat} (h:y.drop q=w++r) (hw:Uj w) (hr:r=[]∨∃ t,r=32 :: t):∀ (k j:Nat),j+k=w.length→Ep y (q+j)=q+w.length
 | 0,j,hj=>by
  obtain rfl:j=w.length:=by omega
  refine L0 fun hlt=>?_
  have h2:=Nb h
  rcases hr with rfl | ⟨t,rfl⟩
  ·have:=congrArg List.length h2
   rw[List.length_drop]at this
   simp at this
   omega
  ·have:=(Ks (s:=[32]) (i:=0) h2 (by simp)).2
   rw[Nat.add_zero]at this
   exact this
 | k+1,j,hj=>by
  obtain⟨h1,h2⟩:=Ks h (show j < w.length by omega)
  have h3:=Yu (hw.2 _ (List.getElem_mem (show j < w.length by omega)))
  rw[Nf h1 (by rw[h2];omega)]
  exact aj h hw hr k (j+1) (by omega)
theorem S7 {y w r:List UInt8} {q:Nat} (h:y.drop q=w++r) (hw:Uj w) (hr:r=[]∨∃ t,r=32 :: t):Bx y q=⟨w,(q:Int)+1⟩ :: Bx y (q+w.length):=by
 obtain⟨h1,h2⟩:=Ks h hw.1
 rw[Nat.add_zero]at h1 h2
 have h3:=Yu (hw.2 _ (List.getElem_mem hw.1))
 rw[O2 h1 (by rw[h2];omega),aj h hw hr (w.length - 1) 1 (by have:=hw.1;omega),zw h]
theorem rm (l:List (List UInt8)):G4 l=[]∨∃ t,G4 l=32 :: t:=by
 cases l with
 | nil=>exact .inl rfl
 | cons s l=>exact .inr ⟨s++G4 l,rfl⟩
theorem S6:∀ (l:List (List UInt8)) (y:List UInt8) (q:Nat),(∀ s∈l,Uj s)→q≤y.length→y.drop q=G4 l→Bx y q=Bn (q+1) l
 | [],y,q,_,hq,h=>by
  have:=congrArg List.length h
  rw[List.length_drop]at this
  simp[G4]at this
  rw[Fp (by omega)]
  rfl
 | s :: l,y,q,hl,hq,h=>by
  have h':y.drop q=[32]++(s++G4 l):=h
  obtain⟨h1,h2⟩:=Ks (i:=0) h' (by simp)
  rw[Nat.add_zero]at h1 h2
  rw[Jz h1 h2]
  have hd:y.drop (q+1)=s++G4 l:=Nb h'
  rw[S7 hd (hl s (by simp)) (rm l)]
  have hd2:=Nb hd
  have hlen:q+1+s.length≤y.length:=by
   have:=congrArg List.length hd
   rw[List.length_drop,List.length_append]at this
   have:=(hl s (by simp)).1
   omega
  rw[S6 l y _ (fun t ht=>hl t (by simp[ht])) hlen hd2]
  rfl
theorem ko {l:List (List UInt8)} (hl:∀ s∈l,Uj s):Bx (Bt l) 0=Bn 0 l:=by
 cases l with
 | nil=>exact Fp (y:=[]) (i:=0) (Nat.le_refl _)
 | cons w l =>
  rw[S7 (y:=Bt (w :: l)) (q:=0) (w:=w) (r:=G4 l) rfl (hl w (by simp)) (rm l)]
  rw[S6 l (Bt (w :: l)) (0+w.length) (fun t ht=>hl t (by simp[ht])) (by simp[Bt]) (Nb (a:=Bt (w :: l)) (q:=0) (s:=w) (r:=G4 l) rfl)]
  rfl
theorem Wy:∀ {l:List (List UInt8)},(∀ s∈l,Uj s)→∀ b∈Bt l,32≤b.toNat∧b.toNat≤126∧b≠35:=by
 intro l hl b hb
 have ok1:∀ {b:UInt8},qn b=true→32≤b.toNat∧b.toNat≤126∧b≠35:=fun {b} h=>by have:=Yu h;exact⟨by omega,this.2.1,this.2.2⟩
 cases l with
 | nil=>cases hb
 | cons w l =>
  rcases List.mem_append.1 hb with hb | hb
  ·exact ok1 ((hl w (by simp)).2 b hb)
  ·unfold G4 at hb
   obtain⟨s,hs,hb⟩:=List.mem_flatMap.1 hb
   rcases List.mem_cons.1 hb with rfl | hb
   ·exact⟨by decide,by decide,by decide⟩
   ·exact ok1 ((hl s (by simp[hs])).2 b hb)
theorem Un {l:List (List UInt8)} (hl:∀ s∈l,Uj s) (hn:(Bt l).length≤200):D4 (Bt l)=(Bn 0 l,0,0):=by
 have hb:=Wy hl
 unfold D4
 rw[if_neg (by omega)]
 have h1:D2 (fun i=>if Y9 (Bt l) i=true then some (([]:List Ad),(i:Int)+1,(4:Int))else none) (Bt l).length=none:=firstR_none.2 fun i hi=>by
  have:=hb _ (List.getElem_mem hi)
  rw[if_neg]
  unfold Y9
  rw[Ky hi]
  simp
  omega
 have h2:D1 (Bt l)=(Bt l).length:=by
  rcases Nat.eq_or_lt_of_le (Yc (Bt l)) with h | h
  ·exact h
  ·have h3:=mb h
   rw[Ky h]at h3
   have:=(hb _ (List.getElem_mem h)).2.2
   exact absurd (UInt8.toNat_inj.1 (show ((Bt l)[D1 (Bt l)]).toNat=35 by omega)) this
 rw[h1,h2,List.take_length,ko hl]
 rfl
structure lr (l:List (List UInt8)):Prop where
 words:∀ s∈l,Uj s
 pos:0 < l.length
 len:(Bt l).length≤200
def En (rs:List (List (List UInt8))):List UInt8:=rs.flatMap fun l=>Bt l++[10]
def Et (rs:List (List (List UInt8))):List A4:=(List.range rs.length).map fun i:Nat=>⟨(i:Int)+1,Bn 0 (rs.getD i [])⟩
theorem ta (rs:List (List (List UInt8))):(Et rs).length=rs.length:=by simp[Et]
theorem O7 {rs:List (List (List UInt8))} {i:Nat} (h:i < rs.length):(Et rs).getD i default=⟨(i:Int)+1,Bn 0 (rs.getD i [])⟩:=by
 unfold Et
 rw[List.getD_eq_getElem?_getD,List.getElem?_map,List.getElem?_range h];rfl
theorem Xx:∀ (rs:List (List (List UInt8))),(∀ l∈rs,lr l)→Bm 10 (En rs)=rs.map Bt++[[]]
 | [],_=>rfl
 | l :: rs,h=>by
  have hn:(10:UInt8) ∉ Bt l:=fun hm=>by
   have:=(Wy (h l (by simp)).words _ hm).1
   exact absurd this (by decide)
  have e:En (l :: rs)=Bt l++10 :: En rs:=by
   unfold En
   rw[List.flatMap_cons,List.append_assoc];rfl
  rw[e,Um hn,Xx rs (fun k hk=>h k (by simp[hk]))];rfl
theorem u6 {rs:List (List (List UInt8))} (h:∀ l∈rs,lr l) (hn:(En rs).length≤262144):Dn (En rs)=([],Et rs):=by
 unfold Dn
 rw[if_neg (by omega),Xx rs h]
 have key:∀ n,n≤rs.length→Ct (rs.map Bt++[[]]) n=((List.range n).map fun i:Nat=>(⟨(i:Int)+1,Bn 0 (rs.getD i [])⟩:A4),[]):=by
  intro n
  induction n with
  | zero=>intro _;rfl
  | succ n ih =>
   intro hn
   unfold Ct
   rw[ih (by omega)]
   have hm:rs.getD n []∈rs:=by
    rw[List.getD_eq_getElem?_getD,List.getElem?_eq_getElem (by omega)];exact List.getElem_mem (by omega)
   have O:=h _ hm
   have e:(rs.map Bt++[[]]).getD n []=Bt (rs.getD n []):=by
    rw[List.getD_eq_getElem?_getD,List.getElem?_append_left (by rw[List.length_map];omega),List.getElem?_map,List.getElem?_eq_getElem (by omega),List.getD_eq_getElem?_getD,List.getElem?_eq_getElem (by omega)];rfl
   rw[e]
   unfold M4
   rw[Un O.words O.len,if_neg (fun h=>h rfl),if_pos (by show 0 < (Bn 0 (rs.getD n [])).length;rw[Nh];exact O.pos),List.range_succ,List.map_append]
   rfl
 have hlast:Ct (rs.map Bt++[[]]) (rs.length+1)=Ct (rs.map Bt++[[]]) rs.length:=by
  have e:(rs.map Bt++[[]]).getD rs.length []=[]:=by
   rw[List.getD_eq_getElem?_getD,List.getElem?_append_right (by simp)];simp
  show M4 rs.length ((rs.map Bt++[[]]).getD rs.length []) _=_
  rw[e]
  unfold M4
  rw[show D4 []=(([]:List Ad),(0:Int),(0:Int)) from Un (l:=[]) (fun s hs=>by cases hs) (by simp[Bt]),if_neg (fun h=>h rfl),if_neg (by simp)]
 have elen:(rs.map Bt++[[]]).length=rs.length+1:=by simp
 rw[elen,hlast,key _ (Nat.le_refl _)]
 rfl
theorem Wc:∀ (n:Nat),∀ b∈Lib.decDigits n,Hy b=true:=by
 intro n
 induction n using Nat.strongRecOn with
 | _ n ih =>
  intro b hb
  by_cases h:n < 10
  ·rw[Lib.decDigits_one h,List.mem_singleton]at hb
   subst hb
   unfold Hy
   rw[show (UInt8.ofNat (48+n)).toNat=48+n from by simp;omega]
   simp
   omega
  ·rw[Ml h]at hb
   rcases List.mem_append.1 hb with hb | hb
   ·exact ih _ (by omega) b hb
   ·exact ih _ (by omega) b hb
theorem dec_all (n:Nat):(Lib.decDigits n).all Hy=true:=List.all_eq_true.2 (Wc n)
theorem Ye:∀ (n:Nat),B5 0 (Lib.decDigits n)=n:=by
 intro n
 induction n using Nat.strongRecOn with
 | _ n ih =>
  by_cases h:n < 10
  ·rw[Lib.decDigits_one h]
   show 10 * 0+((UInt8.ofNat (48+n)).toNat - 48)=n
   rw[show (UInt8.ofNat (48+n)).toNat=48+n from by simp;omega]
   omega
  ·rw[Ml h,Lib.decDigits_one (i:=n % 10) (by omega)]
   have:=ih (n / 10) (by omega)
   unfold B5 at this ⊢
   rw[List.foldl_append,this]
   show 10 * (n / 10)+((UInt8.ofNat (48+n % 10)).toNat - 48)=n
   rw[show (UInt8.ofNat (48+n % 10)).toNat=48+n % 10 from by simp;omega]
   omega
theorem Pp:∀ (n:Nat),∃ a l,Lib.decDigits n=a :: l∧(1≤n→49≤a.toNat):=by
 intro n
 induction n using Nat.strongRecOn with
 | _ n ih =>
  by_cases h:n < 10
  ·refine⟨_,_,Lib.decDigits_one h,fun h1=>?_⟩
   rw[show (UInt8.ofNat (48+n)).toNat=48+n from by simp;omega]
   omega
  ·obtain⟨a,l,h1,h2⟩:=ih (n / 10) (by omega)
   refine⟨a,l++Lib.decDigits (n % 10),by rw[Ml h,h1];rfl,fun _=>h2 (by omega)⟩
theorem eh (n:Nat):Dr (Lib.decDigits n)=true:=by
 obtain⟨a,l,h1,h2⟩:=Pp n
 unfold Dr
 rw[dec_all,Bool.and_true]
 by_cases h:n < 10
 ·rw[Lib.decDigits_one h];rfl
 ·rw[h1]
  rw[show A0 (a :: l) 0=(a.toNat:Int) from rfl,show ((a.toNat:Int)==48)=false from by simp;have:=h2 (by omega);omega]
  simp
theorem vx (n:Nat) (r:List UInt8):ng (Lib.decDigits n++r)=false:=by
 obtain⟨a,l,h1,h2⟩:=Pp n
 have ha:=Kt (Wc n a (by rw[h1];simp))
 unfold ng
 rw[h1,show A0 (a :: l++r) 0=(a.toNat:Int) from rfl,show ((a.toNat:Int)==45)=false from by simp;omega]
 simp
theorem itoa_ng (z:Int):ng (Lib.itoa z)=decide (z < 0)∧bd (Lib.itoa z)=Lib.decDigits z.natAbs:=by
 by_cases h:z < 0
 ·obtain⟨n,hn⟩:=Int.eq_ofNat_of_zero_le (by omega:0 ≤ -z)
  obtain rfl:z = -(n:Int):=by omega
  rw[V4 n (by omega)]
  have:ng (45 :: Lib.decDigits n)=true:=by unfold ng;rw[show A0 (45 :: Lib.decDigits n) 0=45 from rfl];simp
  refine⟨by rw[this];symm;exact decide_eq_true h,?_⟩
  unfold bd
  rw[this,if_pos rfl,show (-(n:Int)).natAbs=n from by omega]
  rfl
 ·obtain⟨n,rfl⟩:=Int.eq_ofNat_of_zero_le (by omega:0≤z)
  rw[Hu]
  have:ng (Lib.decDigits n)=false:=by have:=vx n [];rwa [List.append_nil]at this
  refine⟨by rw[this];symm;exact decide_eq_false h,?_⟩
  unfold bd
  rw[this,if_neg (by decide)]
  rfl
theorem AC6 {n:Nat} (h:1≤n):(Lib.decDigits n==[48])=false:=by
 rw[beq_eq_false_iff_ne]
 intro e
 have:=Ye n
 rw[e]at this
 have h0:B5 0 [48]=0:=rfl
 omega
theorem pn_itoa {z lo hi:Int} (h1:lo≤z) (h2:z≤hi):pn (Lib.itoa z) lo hi=(z,0):=by
 obtain⟨e1,e2⟩:=itoa_ng z
 have hz:O4 (Lib.itoa z)=z:=by
  unfold O4
  rw[e1,e2,Ye]
  by_cases h:z < 0
  ·rw[if_pos (decide_eq_true h)];omega
  ·rw[if_neg (by simpa using h)];omega
 unfold pn
 rw[hz,e1,e2,eh,if_neg,if_pos ⟨h1,h2⟩]
 by_cases h:z < 0
 ·rw[AC6 (by omega)];simp
 ·rw[show decide (z < 0)=false from decide_eq_false h];simp
theorem pa_alt {z:Int} (h1 : -200000≤z) (h2:z≤6000000):pa (Dx z)=(z,0):=by
 have e1:ng (Dx z)=decide (z < 0)∧bd (Dx z)=Lib.decDigits (z.natAbs / 100)++Hs z.natAbs:=by
  unfold Dx
  by_cases h:z < 0
  ·rw[if_pos h,List.append_assoc]
   have:ng ([45]++(Lib.decDigits (z.natAbs / 100)++Hs z.natAbs))=true:=by
    unfold ng
    rw[show A0 ([45]++(Lib.decDigits (z.natAbs / 100)++Hs z.natAbs)) 0=45 from rfl]
    simp
   refine⟨by rw[this];symm;exact decide_eq_true h,?_⟩
   unfold bd
   rw[this,if_pos rfl]
   rfl
  ·rw[if_neg h,List.nil_append]
   have:=vx (z.natAbs / 100) (Hs z.natAbs)
   refine⟨by rw[this];symm;exact decide_eq_false h,?_⟩
   unfold bd
   rw[this,if_neg (by decide)]
 obtain⟨e1,e2⟩:=e1
 have hr:G7 (Dx z)=(z,true,true):=by
  unfold G7
  rw[e1,e2]
  generalize hn:z.natAbs=n
  have hn6:n≤6000000:=by omega
  have hz:z=if z < 0 then -(n:Int)else(n:Int):=by split<;>omega
  have hv:=Ye (n / 100)
  obtain⟨a0,l0,hh,_⟩:=Pp (n / 100)
  have fin:∀ q:List UInt8,k2 q=((n % 100:Nat):Int)→(if 1125899906842624 < B5 0 (Lib.decDigits (n / 100))then((0:Int),true,false)else(let m:=100 * (B5 0 (Lib.decDigits (n / 100)):Int)+k2 q
    let y:=if decide (z < 0)=true then -m else m
    (y,true,(decide ((-200000:Int)≤y))&&(decide (y≤6000000)))))=(z,true,true):=fun q hq=>by
   rw[hv,if_neg (by omega),hq]
   have hm:100 * ((n / 100:Nat):Int)+((n % 100:Nat):Int)=(n:Int):=by omega
   simp only[hm,decide_eq_true_eq]
   rw[← hz]
   rw[show decide ((-200000:Int)≤z)=true from decide_eq_true h1,show decide (z≤6000000)=true from decide_eq_true h2]
   rfl
  by_cases h0:n % 100=0
  ·have hf:Hs n=[]:=by unfold Hs;rw[if_pos h0]
   rw[hf,List.append_nil]
   have hd:Cj (Lib.decDigits (n / 100))=false:=by
    cases h:Cj (Lib.decDigits (n / 100)) with
    | false=>rfl
    | true =>
     unfold Cj at h
     rw[Bool.and_eq_true]at h
     have:=Wc _ _ (List.mem_of_getElem? (byteAt_46.1 h.2))
     revert this
     decide
   have hw:wp (Lib.decDigits (n / 100))=(Lib.decDigits (n / 100),[48,48]):=by unfold wp;rw[hd];rfl
   rw[hd,hw,if_neg (fun h=>by cases h.1),if_neg]
   ·exact fin [48,48] (by rw[h0];rfl)
   ·rw[eh]
    by_cases hz0:z < 0
    ·simp only[AC6 (n:=n / 100) (by omega)];simp
    ·rw[show decide (z < 0)=false from decide_eq_false hz0];simp
  ·have hf:Hs n=[46]++Lib.decDigits (n % 100 / 10)++Lib.decDigits (n % 10):=by unfold Hs;rw[if_neg h0]
   rw[Lib.decDigits_one (i:=n % 100 / 10) (by omega),Lib.decDigits_one (i:=n % 10) (by omega)]at hf
   generalize hA:UInt8.ofNat (48+n % 100 / 10)=A at hf
   generalize hB:UInt8.ofNat (48+n % 10)=B at hf
   have hA2:A.toNat=48+n % 100 / 10:=by rw[← hA];simp;omega
   have hB2:B.toNat=48+n % 10:=by rw[← hB];simp;omega
   rw[hf]
   have hpl:=eh (n / 100)
   generalize Lib.decDigits (n / 100)=Dg at hh fin hpl
   have hDl:0 < Dg.length:=by rw[hh];simp
   have hlen:(Dg++([46]++[A]++[B])).length=Dg.length+3:=by simp
   have hd:Cj (Dg++([46]++[A]++[B]))=true:=by
    unfold Cj
    rw[hlen,Nat.add_sub_cancel,show decide (3 < Dg.length+3)=true from decide_eq_true (by omega),Bool.true_and]
    refine byteAt_46.2 ?_
    rw[List.getElem?_append_right (Nat.le_refl _),Nat.sub_self]
    rfl
   have hdr:(Dg++([46]++[A]++[B])).drop (Dg.length+3 - 2)=[A,B]:=by
    rw[show Dg.length+3 - 2=Dg.length+1 from by omega,← List.drop_drop,List.drop_left]
    rfl
   have hw:wp (Dg++([46]++[A]++[B]))=(Dg,[A,B]):=by
    unfold wp
    rw[hd,if_pos rfl,hlen,hdr,Nat.add_sub_cancel,List.take_left]
   have b0:A0 [A,B] 0=(A.toNat:Int):=rfl
   have b1:A0 [A,B] 1=(B.toNat:Int):=rfl
   have hne:(([A,B]:List UInt8)==[48,48])=false:=by
    rw[beq_eq_false_iff_ne]
    intro e
    injection e with e1 e2
    injection e2 with e2
    subst e1 e2
    have:(48:UInt8).toNat=48:=rfl
    omega
   have hbp:L9 [A,B]=false:=by
    unfold L9
    rw[hne,b0,b1,hA2,hB2]
    simp
    omega
   rw[hd,hw,hlen,hdr,hbp,if_neg (fun h=>by cases h.2),hne,Bool.and_false,Bool.or_false,hpl,if_neg (by decide)]
   exact fin [A,B] (by unfold k2;rw[b0,b1,hA2,hB2];omega)
 unfold pa
 rw[hr]
 rfl
end Go.Av.Txs
set_option maxRecDepth 100000
namespace Go.Av.Txs
open Go.Av
def G5 (i:Nat) (s:Sc):Prop:=s.n=i∧s.d=⟨0,0,0⟩
theorem sb:G5 0 s0:=⟨rfl,rfl⟩
section
variable {l:List (List UInt8)} {N:Int} {i:Nat} {s:Sc}
theorem um (h:G5 i s) (hi:i < l.length):(Cb ⟨N,Bn 0 l⟩ s).1=some (l.getD i [])∧G5 (i+1) (Cb ⟨N,Bn 0 l⟩ s).2:=by
 obtain⟨rfl,hd⟩:=h
 unfold Cb
 rw[if_neg (show ¬ s.d.Code≠0 from by rw[hd];exact fun h=>h rfl),if_neg (show ¬ s.n=(Bn 0 l).length from by rw[Nh];omega)]
 exact⟨by rw[← Wo l 0 s.n hi],rfl,hd⟩
theorem Za {w:List UInt8} (h:G5 i s) (hi:i < l.length) (hw:l.getD i []=w):G5 (i+1) (Jy w ⟨N,Bn 0 l⟩ s):=by
 obtain⟨h1,h2⟩:=um (N:=N) h hi
 unfold Jy
 rw[h1,hw]
 show G5 _ (if w=w then _ else _)
 rw[if_pos rfl]
 exact h2
theorem Jp {lo hi z:Int} (h:G5 i s) (hi':i < l.length) (hw:l.getD i []=Lib.itoa z) (h1:lo≤z) (h2:z≤hi):(Dl lo hi ⟨N,Bn 0 l⟩ s).1=z∧G5 (i+1) (Dl lo hi ⟨N,Bn 0 l⟩ s).2:=by
 obtain⟨k1,k2⟩:=um (N:=N) h hi'
 unfold Dl
 rw[k1,hw]
 show (pn (Lib.itoa z) lo hi).1=z∧G5 _ (Sc.fail _ _ (pn (Lib.itoa z) lo hi).2 _)
 rw[pn_itoa h1 h2,Wg]
 exact⟨rfl,k2⟩
theorem alt_at {z:Int} (h:G5 i s) (hi':i < l.length) (hw:l.getD i []=Dx z) (h1 : -200000≤z) (h2:z≤6000000):(Gz ⟨N,Bn 0 l⟩ s).1=z∧G5 (i+1) (Gz ⟨N,Bn 0 l⟩ s).2:=by
 obtain⟨k1,k2⟩:=um (N:=N) h hi'
 unfold Gz
 rw[k1,hw]
 show (pa (Dx z)).1=z∧G5 _ (Sc.fail _ _ (pa (Dx z)).2 _)
 rw[pa_alt h1 h2,Wg]
 exact⟨rfl,k2⟩
theorem er (h:G5 l.length s):Ft ⟨N,Bn 0 l⟩ s=(false,⟨0,0,0⟩):=by
 unfold Ft
 rw[if_neg (show ¬ s.d.Code≠0 from by rw[h.2];exact fun h=>h rfl),if_neg (show ¬ s.n < (Bn 0 l).length from by rw[Nh,h.1];omega)]
end
theorem ok_dg {b:UInt8} (h:Hy b=true):qn b=true:=by
 have:=Kt h
 unfold qn
 simp only[Bool.and_eq_true,decide_eq_true_eq,Bool.not_eq_true',beq_eq_false_iff_ne,ne_eq]
 refine⟨⟨by omega,by omega⟩,fun e=>?_⟩
 subst e
 revert this
 decide
theorem Rm (n:Nat):Uj (Lib.decDigits n):=by
 obtain⟨a,l,h,_⟩:=Pp n
 exact⟨by rw[h];simp,fun b hb=>ok_dg (Wc n b hb)⟩
theorem qo (z:Int):Uj (Lib.itoa z):=by
 by_cases h:z < 0
 ·obtain⟨n,hn⟩:=Int.eq_ofNat_of_zero_le (by omega:0 ≤ -z)
  obtain rfl:z = -(n:Int):=by omega
  rw[V4 n (by omega)]
  refine⟨by simp,fun b hb=>?_⟩
  rcases List.mem_cons.1 hb with rfl | hb
  ·decide
  ·exact(Rm n).2 b hb
 ·obtain⟨n,rfl⟩:=Int.eq_ofNat_of_zero_le (by omega:0≤z)
  rw[Hu]
  exact Rm n
theorem ok_alt (z:Int):Uj (Dx z):=by
 have hd:=Rm (z.natAbs / 100)
 unfold Dx
 refine⟨by have:=hd.1;simp only[List.length_append];omega,fun b hb=>?_⟩
 rcases List.mem_append.1 hb with hb | hb
 ·rcases List.mem_append.1 hb with hb | hb
  ·split at hb
   ·rcases List.mem_singleton.1 hb with rfl
    decide
   ·cases hb
  ·exact hd.2 b hb
 ·unfold Hs at hb
  split at hb
  ·cases hb
  ·rcases List.mem_append.1 hb with hb | hb
   ·rcases List.mem_append.1 hb with hb | hb
    ·rcases List.mem_singleton.1 hb with rfl
     decide
    ·exact(Rm _).2 b hb
   ·exact(Rm _).2 b hb
def Cn (w:List UInt8) (l:List Int):List (List UInt8):=w :: l.map Lib.itoa
def Hb (g:Aa) (t:Nat):List Int:=[(g.Winds.getD t default).East,(g.Winds.getD t default).North,g.Devs.getD t default]
def Gi (g:Aa) (q:Nat):List (List UInt8):=[wLEVEL,Dx (g.Alts.getD q default)]
def blk (g:Aa) (K q:Nat):List (List (List UInt8)):=Gi g q :: (List.range K).map fun r=>Cn wWIND (Hb g (q * K+r))
def Do (g:Aa) (K:Nat):List (List (List UInt8)):=Cn wGRID (Bz g) :: (List.range g.Alts.length).flatMap (blk g K)
theorem Rb (w:List UInt8) (l:List Int):Bt (Cn w l)++[10]=C2 w l:=by
 show w++G4 (l.map Lib.itoa)++[10]=w++Cz l++[10]
 unfold G4 Cz
 rw[List.flatMap_map]
theorem mg (g:Aa) (q:Nat):Bt (Gi g q)++[10]=Ms g q:=by
 unfold Gi Bt Ms G4
 simp
theorem Xz (a:List (List UInt8)) (b:List (List (List UInt8))):En (a :: b)=(Bt a++[10])++En b:=by
 unfold En;rw[List.flatMap_cons]
theorem bw (a b:List (List (List UInt8))):En (a++b)=En a++En b:=by unfold En;rw[List.flatMap_append]
theorem Up (g:Aa) (m:Nat):∀ K:Nat,En ((List.range K).map fun r=>Cn wWIND (Hb g (m+r)))=(List.range K).flatMap fun r=>O0 g (m+r)
 | 0=>rfl
 | K+1=>by
  rw[List.range_succ,List.map_append,bw,Up g m K,List.flatMap_append]
  congr 1
theorem Yb (g:Aa) (K q:Nat):(blk g K q).length=K+1:=by simp[blk]
theorem fc {α:Type} {f:Nat→List α} {m:Nat} (h:∀ q,(f q).length=m):∀ n:Nat,((List.range n).flatMap f).length=n * m
 | 0=>by simp
 | n+1=>by rw[Ch,List.length_append,fc h n,h,Nat.add_mul,Nat.one_mul]
theorem fb {α:Type} {f:Nat→List α} {m:Nat} (h:∀ q,(f q).length=m) {d:α} {r:Nat} (hr:r < m):∀ (n q:Nat),q < n→((List.range n).flatMap f).getD (q * m+r) d=(f q).getD r d
 | 0,_,hq=>absurd hq (Nat.not_lt_zero _)
 | n+1,q,hq=>by
  rw[Ch]
  have hl:=fc h n
  rcases Nat.lt_or_ge q n with hlt | hge
  ·have h1:(q+1) * m≤n * m:=Nat.mul_le_mul_right _ hlt
   rw[Nat.add_mul,Nat.one_mul]at h1
   rw[List.getD_eq_getElem?_getD,List.getElem?_append_left (by rw[hl];omega),← List.getD_eq_getElem?_getD,fb h hr n q hlt]
  ·obtain rfl:q=n:=by omega
   rw[List.getD_eq_getElem?_getD,List.getElem?_append_right (by rw[hl];omega),hl,Nat.add_sub_cancel_left,← List.getD_eq_getElem?_getD]
section
variable {g:Aa} {K:Nat} (O:aa g K)
include O
theorem bz:En (Do g K)=Ql g:=by
 unfold Do Ql
 rw[Xz,Rb,O.kk,Int.toNat_natCast,O.w]
 congr 1
 have key:∀ n:Nat,En ((List.range n).flatMap (blk g K))=pP g K (n * K):=by
  intro n
  induction n with
  | zero=>rw[Nat.zero_mul];rfl
  | succ n ih =>
   rw[Ch,bw,ih,Vf O]
   unfold blk
   rw[Xz,mg,Up]
 exact key _
theorem wv_in {t:Nat} (h:t < g.Winds.length):az (Hb g t):=kn O h
theorem wrec_ok {t:Nat} (h:t < g.Winds.length):lr (Cn wWIND (Hb g t)):=by
 have h1:=F8 (w:=wWIND) (wv_in O h)
 rw[← Rb,List.length_append]at h1
 refine⟨fun s hs=>?_,by simp[Cn],by simp only[Hb,List.length_cons,List.length_nil,show wWIND.length=4 from rfl]at h1 ⊢;omega⟩
 rcases List.mem_cons.1 hs with rfl | hs
 ·exact⟨by decide,by decide⟩
 ·obtain⟨z,_,rfl⟩:=List.mem_map.1 hs
  exact qo z
theorem hrec_ok:lr (Cn wGRID (Bz g)):=by
 have h1:=F8 (w:=wGRID) (L2 O)
 rw[← Rb,List.length_append]at h1
 refine⟨fun s hs=>?_,by simp[Cn],by simp only[Bz,List.length_cons,List.length_nil,show wGRID.length=4 from rfl]at h1 ⊢;omega⟩
 rcases List.mem_cons.1 hs with rfl | hs
 ·exact⟨by decide,by decide⟩
 ·obtain⟨z,_,rfl⟩:=List.mem_map.1 hs
  exact qo z
theorem lrec_ok {q:Nat} (h:q < g.Alts.length):lr (Gi g q):=by
 have h1:=Sp O h
 rw[← mg,List.length_append]at h1
 refine⟨fun s hs=>?_,by simp[Gi],by omega⟩
 unfold Gi at hs
 simp only[List.mem_cons,List.not_mem_nil,or_false]at hs
 rcases hs with rfl | rfl
 ·exact⟨by decide,by decide⟩
 ·exact ok_alt _
theorem recs_ok:∀ l∈Do g K,lr l:=by
 intro l hl
 rcases List.mem_cons.1 hl with rfl | hl
 ·exact hrec_ok O
 ·obtain⟨q,hq,hl⟩:=List.mem_flatMap.1 hl
  have hq:=List.mem_range.1 hq
  rcases List.mem_cons.1 hl with rfl | hl
  ·exact lrec_ok O hq
  ·obtain⟨r,hr,rfl⟩:=List.mem_map.1 hl
   have hr:=List.mem_range.1 hr
   refine wrec_ok O ?_
   have:(q+1) * K≤g.Alts.length * K:=Nat.mul_le_mul_right _ hq
   rw[Nat.add_mul,Nat.one_mul]at this
   have:=O.w
   omega
theorem qw:∀ n:Nat,n≤g.Alts.length→(pP g K (n * K)).length≤120 * n+80 * (n * K)
 | 0,_=>by rw[Nat.zero_mul];exact Nat.le_refl _
 | n+1,hn=>by
  have h1:=qw n (by omega)
  have h2:=Sp O (i:=n) hn
  have hw:(n+1) * K≤g.Winds.length:=by rw[O.w];exact Nat.mul_le_mul_right _ hn
  have e:(n+1) * K=n * K+K:=by rw[Nat.add_mul,Nat.one_mul]
  have d:∀ m,m≤K→((List.range m).flatMap fun r=>O0 g (n * K+r)).length≤80 * m:=by
   intro m
   induction m with
   | zero=>intro _;exact Nat.le_refl _
   | succ m ihm =>
    intro hm
    have:=Z8 O (t:=n * K+m) (by omega)
    have:=ihm (by omega)
    rw[Ch,List.length_append]
    omega
  have:=d K (Nat.le_refl _)
  rw[Vf O,List.length_append,List.length_append]
  omega
theorem txt_len:(Ql g).length≤262144:=by
 have a:=F8 (w:=wGRID) (L2 O)
 have b:=qw O g.Alts.length (Nat.le_refl _)
 have c:=gh O
 have d:=O.n
 unfold Ql
 rw[O.kk,Int.toNat_natCast,List.length_append]
 rw[← O.w]at b
 simp only[Bz,List.length_cons,List.length_nil,show wGRID.length=4 from rfl]at a ⊢
 omega
theorem ze:Dn (Ql g)=([],Et (Do g K)):=by
 rw[← bz O]
 exact u6 (recs_ok O) (by rw[bz O];exact txt_len O)
theorem Qd:(Do g K).length=1+g.Alts.length * (K+1):=by
 unfold Do
 rw[List.length_cons,fc (Yb g K)]
 omega
theorem zf {q:Nat} (h:q < g.Alts.length):(Do g K).getD (q * (K+1)+1) []=Gi g q:=by
 unfold Do
 rw[List.getD_cons_succ]
 exact fb (Yb g K) (r:=0) (by omega) _ q h
theorem AAp {q r:Nat} (h:q < g.Alts.length) (hr:r < K):(Do g K).getD (q * (K+1)+2+r) []=Cn wWIND (Hb g (q * K+r)):=by
 unfold Do
 rw[show q * (K+1)+2+r=(q * (K+1)+(r+1))+1 from by omega,List.getD_cons_succ,fb (Yb g K) (r:=r+1) (by omega) _ q h]
 unfold blk
 rw[List.getD_cons_succ,List.getD_eq_getElem?_getD,List.getElem?_map,List.getElem?_range hr]
 rfl
omit O in
theorem hd_eq {L:A4} {a b c d e f:Int} {E:Bool×Ac} (h1:(J0 L).1=a) (h2:(hq2 L).1=b) (h3:(K4 L).1=c) (h4:(K5 L).1=d) (h5:(K6 L).1=e) (h6:(Mq L).1=f) (h7:Ft L (Mq L).2=E):Cl L=⟨a,b,c,d,e,f,E⟩:=by
 unfold Cl
 rw[h1,h2,h3,h4,h5,h6,h7]
abbrev Ni (g:Aa) (N:Int):A4:=⟨N,Bn 0 (Cn wGRID (Bz g))⟩
theorem hd_of {N:Int}:Cl (Ni g N)=⟨g.Corner.X,g.Corner.Y,g.Cell,g.NX,g.NY,g.Err,(false,⟨0,0,0⟩)⟩:=by
 have hl:(Cn wGRID (Bz g)).length=7:=rfl
 have q0:G5 1 (On (Ni g N)):=Za sb (by rw[hl];decide) rfl
 have q1:(J0 (Ni g N)).1=g.Corner.X∧G5 2 (J0 (Ni g N)).2:=Jp q0 (by rw[hl];decide) rfl O.x.1.1 O.x.1.2
 have q2:(hq2 (Ni g N)).1=g.Corner.Y∧G5 3 (hq2 (Ni g N)).2:=Jp q1.2 (by rw[hl];decide) rfl O.x.2.1 O.x.2.2
 have q3:(K4 (Ni g N)).1=g.Cell∧G5 4 (K4 (Ni g N)).2:=Jp q2.2 (by rw[hl];decide) rfl O.c.1 O.c.2
 have q4:(K5 (Ni g N)).1=g.NX∧G5 5 (K5 (Ni g N)).2:=Jp q3.2 (by rw[hl];decide) rfl O.a.1 O.a.2
 have q5:(K6 (Ni g N)).1=g.NY∧G5 6 (K6 (Ni g N)).2:=Jp q4.2 (by rw[hl];decide) rfl O.b.1 O.b.2
 have q6:(Mq (Ni g N)).1=g.Err∧G5 7 (Mq (Ni g N)).2:=Jp q5.2 (by rw[hl];decide) rfl O.e.1 O.e.2
 exact hd_eq q1.1 q2.1 q3.1 q4.1 q5.1 q6.1 (er (l:=Cn wGRID (Bz g)) q6.2)
theorem lv_of {N:Int} {q:Nat} (h:q < g.Alts.length):Lg (g.Alts.take q) ⟨N,Bn 0 (Gi g q)⟩=.inl (g.Alts.getD q default):=by
 have hn:=O.n
 have hl:(g.Alts.take q).length=q:=by rw[List.length_take];omega
 have q0:G5 1 (E3 ⟨N,Bn 0 (Gi g q)⟩):=Za sb (by simp[Gi]) rfl
 have q1:G5 1 (Ew q ⟨N,Bn 0 (Gi g q)⟩):=by unfold Ew;rw[if_neg (by omega)];exact q0
 obtain⟨v2,q2⟩:=alt_at (N:=N) (l:=Gi g q) (z:=g.Alts.getD q default) q1 (by simp[Gi]) rfl (O.al q h).1 (O.al q h).2
 have q3:=er (N:=N) (l:=Gi g q) q2
 have e1:Lf q ⟨N,Bn 0 (Gi g q)⟩=(false,⟨0,0,0⟩):=q3
 have e2:Qr q ⟨N,Bn 0 (Gi g q)⟩=g.Alts.getD q default:=v2
 unfold Lg
 rw[hl,e1,e2,if_neg (by decide),if_neg]
 rintro⟨h0,hle⟩
 have e3:(g.Alts.take q).getD (q - 1) default=g.Alts.getD (q - 1) default:=by
  rw[List.getD_eq_getElem?_getD,List.getElem?_take_of_lt (by omega),← List.getD_eq_getElem?_getD]
 rw[e3]at hle
 have:=O.asv q h0 h
 omega
theorem wn_of {N:Int} {t:Nat} (h:t < g.Winds.length):Gm ⟨N,Bn 0 (Cn wWIND (Hb g t))⟩=(false,⟨0,0,0⟩)∧Lj ⟨N,Bn 0 (Cn wWIND (Hb g t))⟩=g.Winds.getD t default∧Nc ⟨N,Bn 0 (Cn wWIND (Hb g t))⟩=g.Devs.getD t default:=by
 have hr:=O.wn t h
 have q0:G5 1 (Pa ⟨N,Bn 0 (Cn wWIND (Hb g t))⟩):=Za sb (by simp[Cn,Hb]) rfl
 obtain⟨v1,q1⟩:=Jp (N:=N) (l:=Cn wWIND (Hb g t)) (lo := -340) (hi:=340) (z:=(g.Winds.getD t default).East) q0 (by simp[Cn,Hb]) rfl hr.1.1 hr.1.2
 obtain⟨v2,q2⟩:=Jp (N:=N) (l:=Cn wWIND (Hb g t)) (lo := -340) (hi:=340) (z:=(g.Winds.getD t default).North) q1 (by simp[Cn,Hb]) rfl hr.2.1.1 hr.2.1.2
 obtain⟨v3,q3⟩:=Jp (N:=N) (l:=Cn wWIND (Hb g t)) (lo := -4000) (hi:=4000) (z:=g.Devs.getD t default) q2 (by simp[Cn,Hb]) rfl hr.2.2.1 hr.2.2.2
 have q4:=er (N:=N) (l:=Cn wWIND (Hb g t)) q3
 refine⟨q4,?_,v3⟩
 show (⟨_,_⟩:Ao)=_
 have e1:(Lk ⟨N,Bn 0 (Cn wWIND (Hb g t))⟩).1=(g.Winds.getD t default).East:=v1
 have e2:(Ll ⟨N,Bn 0 (Cn wWIND (Hb g t))⟩).1=(g.Winds.getD t default).North:=v2
 rw[e1,e2]
def Mo (g:Aa) (a w:Nat):Aa:={ g with Alts:=g.Alts.take a,Winds:=g.Winds.take w,Devs:=g.Devs.take w }
omit O in
theorem S1 {α:Type} {d:α} {l:List α} {i:Nat} (h:i < l.length):l.take i++[l.getD i d]=l.take (i+1):=by
 rw[List.take_add_one,List.getElem?_eq_getElem h,List.getD_eq_getElem?_getD,List.getElem?_eq_getElem h]
 rfl
theorem bq {q:Nat} (h:q < g.Alts.length) (k:Nat):∀ (m j:Nat),j+m=K→E9 K (Et (Do g K)) (m+k) (q * (K+1)+2+j) (Mo g (q+1) (q * K+j))=E9 K (Et (Do g K)) k (q * (K+1)+2+K) (Mo g (q+1) (q * K+K))
 | 0,j,hj=>by
  obtain rfl:j=K:=by omega
  rw[Nat.zero_add]
 | m+1,j,hj=>by
  have hK:(q+1) * (K+1)≤g.Alts.length * (K+1):=Nat.mul_le_mul_right _ h
  have hK2:(q+1) * K≤g.Alts.length * K:=Nat.mul_le_mul_right _ h
  rw[Nat.add_mul,Nat.one_mul]at hK hK2
  have hw:=O.w
  have hd:=O.d
  have hlt:q * (K+1)+2+j < (Do g K).length:=by rw[Qd O];omega
  have ht:q * K+j < g.Winds.length:=by omega
  rw[show m+1+k=(m+k)+1 from by omega]
  show (match Dp K ((Et (Do g K)).getD (q * (K+1)+2+j) default) (q * (K+1)+2+j) (Mo g (q+1) (q * K+j)) with | .inr d=>_ | .inl g'=>_)=_
  rw[O7 hlt,AAp O h (by omega)]
  obtain⟨e1,e2,e3⟩:=wn_of O (N:=((q * (K+1)+2+j:Nat):Int)+1) ht
  have hs:Dp K ⟨((q * (K+1)+2+j:Nat):Int)+1,Bn 0 (Cn wWIND (Hb g (q * K+j)))⟩ (q * (K+1)+2+j) (Mo g (q+1) (q * K+j))=.inl (Mo g (q+1) (q * K+(j+1))):=by
   unfold Dp
   rw[if_neg (by rw[mod_w (by omega)];omega),e1,e2,e3,if_neg (by decide)]
   unfold Mo
   simp only
   rw[S1 ht,S1 (by omega)]
   rfl
  rw[hs]
  exact bq h k m (j+1) (by omega)
theorem Xt:∀ (m q:Nat),q+m=g.Alts.length→E9 K (Et (Do g K)) (m * (K+1)) (q * (K+1)+1) (Mo g q (q * K))=.inl g
 | 0,q,hq=>by
  obtain rfl:q=g.Alts.length:=by omega
  rw[Nat.zero_mul]
  show Sum.inl _=_
  congr 1
  unfold Mo
  rw[← O.w,List.take_length,List.take_length,O.w,← O.d,List.take_length]
 | m+1,q,hq=>by
  have h:q < g.Alts.length:=by omega
  have hK:(q+1) * (K+1)≤g.Alts.length * (K+1):=Nat.mul_le_mul_right _ h
  rw[Nat.add_mul,Nat.one_mul]at hK
  have hlt:q * (K+1)+1 < (Do g K).length:=by rw[Qd O];omega
  rw[show (m+1) * (K+1)=(K+m * (K+1))+1 from by rw[Nat.add_mul,Nat.one_mul];omega]
  show (match Dp K ((Et (Do g K)).getD (q * (K+1)+1) default) (q * (K+1)+1) (Mo g q (q * K)) with | .inr d=>_ | .inl g'=>_)=_
  rw[O7 hlt,zf O h]
  have hs:Dp K ⟨((q * (K+1)+1:Nat):Int)+1,Bn 0 (Gi g q)⟩ (q * (K+1)+1) (Mo g q (q * K))=.inl (Mo g (q+1) (q * K+0)):=by
   unfold Dp
   rw[if_pos (by rw[Nat.add_sub_cancel];exact Nat.mul_mod_left _ _),show (Mo g q (q * K)).Alts=g.Alts.take q from rfl,lv_of O h]
   show Sum.inl _=_
   unfold Mo
   simp only
   rw[S1 h]
   rfl
  rw[hs]
  have:=bq O h (m * (K+1)) K 0 (by omega)
  rw[Nat.add_zero]at this
  refine Eq.trans this ?_
  have e1:q * (K+1)+2+K=(q+1) * (K+1)+1:=by rw[Nat.add_mul q 1 (K+1),Nat.one_mul];omega
  have e2:q * K+K=(q+1) * K:=by rw[Nat.add_mul,Nat.one_mul]
  rw[e1,e2]
  exact Xt m (q+1) (by omega)
theorem ya:C8 (Ql g)=(g,[]):=by
 have hn:=O.n
 have hlen:(Et (Do g K)).length=1+g.Alts.length * (K+1):=by rw[ta,Qd O]
 have hh:=hd_of O (N:=1)
 have h0:(Et (Do g K)).getD 0 default=⟨1,Bn 0 (Cn wGRID (Bz g))⟩:=O7 (i:=0) (by rw[Qd O];omega)
 unfold C8
 rw[ze O,if_neg (by simp)]
 simp only
 unfold pG
 rw[if_neg (by rw[hlen];omega),h0,show Cl ⟨1,Bn 0 (Cn wGRID (Bz g))⟩=_ from hh]
 simp only[Bool.false_eq_true,if_false]
 rw[O.kk,Int.toNat_natCast,hlen,Nat.add_sub_cancel_left]
 have hr:=Xt O g.Alts.length 0 (by omega)
 rw[Nat.zero_mul,Nat.zero_mul,Nat.zero_add]at hr
 rw[show Wu ⟨g.Corner.X,g.Corner.Y,g.Cell,g.NX,g.NY,g.Err,(false,⟨0,0,0⟩)⟩=Mo g 0 0 from by
  unfold Mo Wu
  rw[List.take_zero,List.take_zero,List.take_zero],hr]
 show (if _ then _ else _)=_
 rw[if_neg]
 rw[hlen,Nat.add_sub_cancel_left,Nat.mul_mod_left]
 have:1 * (K+1)≤g.Alts.length * (K+1):=Nat.mul_le_mul_right _ hn.1
 omega
end
end Go.Av.Txs
set_option maxRecDepth 100000
namespace Go.Av.Txs
open Go.Av
structure PI (h:Hd) (K:Nat) (g:Aa) (q r:Nat):Prop where
 rr:r≤K
 hd:g.Corner=⟨h.x,h.y⟩∧g.Cell=h.c∧g.NX=h.a∧g.NY=h.b∧g.Err=h.e
 a:g.Alts.length=q+min r 1∧g.Alts.length≤8
 w:g.Winds.length=q * K+(r - 1)
 d:g.Devs.length=q * K+(r - 1)
 al:∀ z∈g.Alts,-200000≤z∧z≤6000000
 wi:∀ x∈g.Winds,(-340≤x.East∧x.East≤340)∧(-340≤x.North∧x.North≤340)
 de:∀ z∈g.Devs,-4000≤z∧z≤4000
 asv:∀ i,1≤i→i < g.Alts.length→g.Alts.getD (i - 1) default < g.Alts.getD i default
theorem wn_vals {L:A4} (h:(Gm L).1=false):((-340≤(Lj L).East∧(Lj L).East≤340)∧(-340≤(Lj L).North∧(Lj L).North≤340))∧(-4000≤Nc L∧Nc L≤4000):=by
 obtain⟨c3,_⟩:=Uy h
 obtain⟨c2,e3⟩:=Fd c3
 obtain⟨c1,e2⟩:=Fd c2
 obtain⟨c0,e1⟩:=Fd c1
 exact⟨⟨e1,e2⟩,e3⟩
theorem Pt {α:Type} {d:α} {l:List α} {x:α} {i:Nat} (h:i < l.length):(l++[x]).getD i d=l.getD i d:=by
 rw[List.getD_eq_getElem?_getD,List.getElem?_append_left h,← List.getD_eq_getElem?_getD]
theorem sv {α:Type} {d:α} {l:List α} {x:α}:(l++[x]).getD l.length d=x:=by
 rw[List.getD_eq_getElem?_getD,List.getElem?_append_right (Nat.le_refl _),Nat.sub_self];rfl
theorem AAy {h:Hd} {K:Nat} {g g':Aa} {L:A4} {q r i:Nat} (hk:1≤K) (I:PI h K g q r) (hi:i=q * (K+1)+1+r) (e:Dp K L i g=.inl g'):∃ q' r',PI h K g' q' r'∧i+1=q' * (K+1)+1+r':=by
 unfold Dp at e
 have hm:(i - 1) % (K+1)=r:=by
  rw[hi,show q * (K+1)+1+r - 1=r+q * (K+1) from by omega,Nat.add_mul_mod_self_right,Nat.mod_eq_of_lt (by have:=I.rr;omega)]
 rw[hm]at e
 have hr:=I.rr
 have ha:=I.a
 have hw:=I.w
 have hd:=I.d
 by_cases h0:r=0
 ·rw[if_pos h0]at e
  subst h0
  cases hl:Lg g.Alts L with
  | inr d=>rw[hl]at e;cases e
  | inl z =>
   rw[hl]at e
   injection e with e
   subst e
   obtain⟨z8,zr,za⟩:=fq hl
   refine⟨q,1,⟨hk,I.hd,⟨?_,?_⟩,hw,hd,fun x hx=>?_,I.wi,I.de,fun j h1 hj=>?_⟩,by omega⟩
   ·show (g.Alts++[z]).length=_
    rw[List.length_append,List.length_singleton];omega
   ·show (g.Alts++[z]).length≤8
    rw[List.length_append,List.length_singleton];omega
   ·rcases List.mem_append.1 hx with hx | hx
    ·exact I.al x hx
    ·rcases List.mem_singleton.1 hx with rfl;exact zr
   ·have hj:j < (g.Alts++[z]).length:=hj
    rw[List.length_append,List.length_singleton]at hj
    show (g.Alts++[z]).getD (j - 1) default < (g.Alts++[z]).getD j default
    rcases Nat.lt_or_ge j g.Alts.length with hlt | hge
    ·rw[Pt hlt,Pt (by omega)];exact I.asv j h1 hlt
    ·obtain rfl:j=g.Alts.length:=by omega
     rw[sv,Pt (by omega)]
     exact za (by omega)
 ·rw[if_neg h0]at e
  split at e
  ·cases e
  ·rename_i hb
   injection e with e
   subst e
   obtain⟨v1,v2⟩:=wn_vals (L:=L) (by simpa using hb)
   have new:∀ q' r':Nat,r'≤K→g.Alts.length=q'+min r' 1→q * K+r=q' * K+(r' - 1)→PI h K { g with Winds:=g.Winds++[Lj L],Devs:=g.Devs++[Nc L] } q' r':=fun q' r' k1 k2 k3=>by
    refine⟨k1,I.hd,⟨k2,ha.2⟩,?_,?_,I.al,fun x hx=>?_,fun x hx=>?_,I.asv⟩
    ·show (g.Winds++[Lj L]).length=_
     rw[List.length_append,List.length_singleton];omega
    ·show (g.Devs++[Nc L]).length=_
     rw[List.length_append,List.length_singleton];omega
    ·rcases List.mem_append.1 hx with hx | hx
     ·exact I.wi x hx
     ·rcases List.mem_singleton.1 hx with rfl;exact v1
    ·rcases List.mem_append.1 hx with hx | hx
     ·exact I.de x hx
     ·rcases List.mem_singleton.1 hx with rfl;exact v2
   rcases Nat.eq_or_lt_of_le hr with e1 | h1
   ·refine⟨q+1,0,new (q+1) 0 (Nat.zero_le _) (by omega) (by rw[Nat.add_mul,Nat.one_mul];omega),?_⟩
    rw[Nat.add_mul q 1 (K+1),Nat.one_mul];omega
   ·exact⟨q,r+1,new q (r+1) h1 (by omega) (by omega),by omega⟩
theorem rf {h:Hd} {K:Nat} {ls:List A4} (hk:1≤K):∀ (k i q r:Nat) (g g':Aa),PI h K g q r→i=q * (K+1)+1+r→E9 K ls k i g=.inl g'→∃ q' r',PI h K g' q' r'∧i+k=q' * (K+1)+1+r'
 | 0,i,q,r,g,g',I,hi,e=>by
  injection e with e
  subst e
  exact⟨q,r,I,hi⟩
 | k+1,i,q,r,g,g',I,hi,e=>by
  have e':(match Dp K (ls.getD i default) i g with | .inr d=>.inr d | .inl g1=>E9 K ls k (i+1) g1)=Sum.inl g':=e
  cases hs:Dp K (ls.getD i default) i g with
  | inr d=>rw[hs]at e';cases e'
  | inl g1 =>
   rw[hs]at e'
   obtain⟨q1,r1,I1,h1⟩:=AAy hk I hi hs
   obtain⟨q2,r2,I2,h2⟩:=rf hk k (i+1) q1 r1 g1 g' I1 h1 e'
   exact⟨q2,r2,I2,by omega⟩
theorem j9 {s:List UInt8} (h:(C8 s).2=[]):aa (C8 s).1 ((C8 s).1.NX * (C8 s).1.NY).toNat:=by
 unfold C8 at h ⊢
 split at h
 ·rename_i h1
  have h:(Dn s).1=[]:=h
  rw[h]at h1
  exact absurd h1 (Nat.lt_irrefl _)
 ·rename_i h1
  rw[if_neg h1]
  generalize (Dn s).2=ls at h
  unfold pG at h ⊢
  split at h
  ·cases h
  ·rename_i h2
   rw[if_neg h2]
   split at h
   ·cases h
   ·rename_i h3
    rw[if_neg h3]
    have H:=sy (L:=ls.getD 0 default) (by simpa using h3)
    generalize Cl (ls.getD 0 default)=hd at H h
    obtain⟨k1,_,k3⟩:=Sd H.a H.b
    have hkk:((hd.a * hd.b).toNat:Int)=hd.a * hd.b:=by omega
    generalize hK:(hd.a * hd.b).toNat=K at h k1 hkk
    have hk1:1≤K:=by omega
    cases hr:E9 K ls (ls.length - 1) 1 (Wu hd) with
    | inr d=>rw[hr]at h;cases h
    | inl g =>
     rw[hr]at h
     have h':(if ls.length=1∨(ls.length - 1) % (K+1)≠0 then((zG,[Cm ls]):Aa×List Ac)else(g,[])).2=[]:=h
     show aa (if ls.length=1∨(ls.length - 1) % (K+1)≠0 then((zG,[Cm ls]):Aa×List Ac)else(g,[])).1 ((if ls.length=1∨(ls.length - 1) % (K+1)≠0 then((zG,[Cm ls]):Aa×List Ac)else(g,[])).1.NX * (if ls.length=1∨(ls.length - 1) % (K+1)≠0 then((zG,[Cm ls]):Aa×List Ac)else(g,[])).1.NY).toNat
     by_cases hc:ls.length=1∨(ls.length - 1) % (K+1)≠0
     ·rw[if_pos hc]at h';cases h'
     ·rw[if_neg hc]
      have I0:PI hd K (Wu hd) 0 0:=⟨Nat.zero_le _,⟨rfl,rfl,rfl,rfl,rfl⟩,⟨rfl,Nat.zero_le _⟩,by rw[Nat.zero_mul];rfl,by rw[Nat.zero_mul];rfl,fun z hz=>absurd hz List.not_mem_nil,fun z hz=>absurd hz List.not_mem_nil,fun z hz=>absurd hz List.not_mem_nil,fun i _ hi=>absurd hi (Nat.not_lt_zero _)⟩
      obtain⟨q,r,I,e⟩:=rf hk1 (ls.length - 1) 1 0 0 _ g I0 (by rw[Nat.zero_mul]) hr
      have hm:(ls.length - 1) % (K+1)=r:=by
       rw[show ls.length - 1=r+q * (K+1) from by omega,Nat.add_mul_mod_self_right,Nat.mod_eq_of_lt (by have:=I.rr;omega)]
      have hr0:r=0:=by
       rcases Nat.eq_zero_or_pos r with h | h
       ·exact h
       ·exact absurd (Or.inr (by omega)) hc
      subst hr0
      have hq:q≠0:=fun hq=>hc (Or.inl (by rw[hq,Nat.zero_mul]at e;omega))
      obtain⟨e1,e2,e3,e4,e5⟩:=I.hd
      have ha:=I.a
      have hw:=I.w
      have hd2:=I.d
      have ha':g.Alts.length=q:=by omega
      show aa g (g.NX * g.NY).toNat
      rw[e3,e4,hK]
      refine⟨⟨hk1,k1⟩,by rw[e3,e4,hkk],by rw[e3];exact H.a,by rw[e4];exact H.b,⟨by omega,ha.2⟩,by rw[ha'];exact hw,by rw[ha'];exact hd2,by rw[e1];exact⟨H.x,H.y⟩,by rw[e2];exact H.c,by rw[e5];exact H.e,fun i hi=>I.al _ (Ce hi),fun i hi=>?_,I.asv⟩
      have:=I.wi _ (Ce hi)
      exact⟨this.1,this.2,I.de _ (Ce (by omega))⟩
theorem u3 (s:List UInt8):(C8 s).2.length≤50:=by
 unfold C8
 split
 ·show (Dn s).1.length≤50
  unfold Dn
  split
  ·decide
  ·exact(Nv _ _).2
 ·unfold pG
  split
  ·exact(by decide:1≤50)
  ·split
   ·exact(by decide:1≤50)
   ·unfold V0
    split
    ·exact(by decide:1≤50)
    ·split
     ·exact(by decide:1≤50)
     ·exact Nat.zero_le _
theorem la (s:List UInt8):(C8 s).1.Alts.length≤8∧(C8 s).1.Winds.length≤2048∧(C8 s).1.Devs.length≤2048:=by
 by_cases h:(C8 s).2=[]
 ·have O:=j9 h
  have:=gh O
  have:=O.w
  have:=O.d
  have:=O.n
  omega
 ·have hz:(C8 s).1=zG:=by
   revert h
   unfold C8
   split
   ·exact fun _=>rfl
   ·unfold pG
    split
    ·exact fun _=>rfl
    ·split
     ·exact fun _=>rfl
     ·unfold V0
      split
      ·exact fun _=>rfl
      ·split
       ·exact fun _=>rfl
       ·exact fun h=>absurd rfl h
  rw[hz]
  exact⟨Nat.zero_le _,Nat.zero_le _,Nat.zero_le _⟩
theorem M9 (a0 a1:Aa):m9 a0 a1=((Option.bind (if((((((((!((a0.Corner.X==a1.Corner.X)&&((a0.Corner.Y==a1.Corner.Y)&&true))) || (a0.Cell != a1.Cell)) || (a0.NX != a1.NX)) || (a0.NY != a1.NY)) || (a0.Err != a1.Err)) || ((a0.Alts.length:Int) != (a1.Alts.length:Int))) || ((a0.Winds.length:Int) != (a1.Winds.length:Int))) || ((a0.Devs.length:Int) != (a1.Devs.length:Int)))=true then(some (.inr (false)))else(some (.inl ()))) (Af fun(_:Unit)=>(Option.bind (Option.bind (some (.inl ())) (Af fun(_:Unit)=>(Am (fun(s1:Int)=>((if(decide (s1 < (a0.Alts.length:Int)))=true then(if(0≤s1)then(if(s1 < (a0.Alts.length:Int))then(if(0≤s1)then(if(s1 < (a1.Alts.length:Int))then(if((a0.Alts.getD s1.toNat default) != (a1.Alts.getD s1.toNat default))=true then(some (.inr (.inr (false))))else(some (.inl (IntKind.wrap .i64 (s1+1)))))else none)else none)else none)else none)else(some (.inr (.inl ())))):Option ((Int)⊕((Unit)⊕(Bool))))) (0:Int)))) (Af fun(_:Unit)=>(Option.bind (Option.bind (some (.inl ())) (Af fun(_:Unit)=>(Am (fun(s2:Int)=>((if(decide (s2 < (a0.Winds.length:Int)))=true then(if(0≤s2)then(if(s2 < (a0.Winds.length:Int))then(if(0≤s2)then(if(s2 < (a1.Winds.length:Int))then(if(!(((a0.Winds.getD s2.toNat default).East==(a1.Winds.getD s2.toNat default).East)&&(((a0.Winds.getD s2.toNat default).North==(a1.Winds.getD s2.toNat default).North)&&true)))=true then(some (.inr (.inr (false))))else(some (.inl (IntKind.wrap .i64 (s2+1)))))else none)else none)else none)else none)else(some (.inr (.inl ())))):Option ((Int)⊕((Unit)⊕(Bool))))) (0:Int)))) (Af fun(_:Unit)=>(Option.bind (Option.bind (some (.inl ())) (Af fun(_:Unit)=>(Am (fun(s3:Int)=>((if(decide (s3 < (a0.Devs.length:Int)))=true then(if(0≤s3)then(if(s3 < (a0.Devs.length:Int))then(if(0≤s3)then(if(s3 < (a1.Devs.length:Int))then(if((a0.Devs.getD s3.toNat default) != (a1.Devs.getD s3.toNat default))=true then(some (.inr (.inr (false))))else(some (.inl (IntKind.wrap .i64 (s3+1)))))else none)else none)else none)else none)else(some (.inr (.inl ())))):Option ((Int)⊕((Unit)⊕(Bool))))) (0:Int)))) (Af fun(_:Unit)=>(some true))))))))):Option (Bool)):=by kernel_rfl
abbrev da (a0:Aa) (a1:Aa):(Int)→Option ((Int)⊕((Unit)⊕(Bool))):=(fun(s3:Int)=>((if(decide (s3 < (a0.Devs.length:Int)))=true then(if(0≤s3)then(if(s3 < (a0.Devs.length:Int))then(if(0≤s3)then(if(s3 < (a1.Devs.length:Int))then(if((a0.Devs.getD s3.toNat default) != (a1.Devs.getD s3.toNat default))=true then(some (.inr (.inr (false))))else(some (.inl (IntKind.wrap .i64 (s3+1)))))else none)else none)else none)else none)else(some (.inr (.inl ())))):Option ((Int)⊕((Unit)⊕(Bool)))))
abbrev db (a0:Aa) (a1:Aa):(Int)→Option ((Int)⊕((Unit)⊕(Bool))):=(fun(s2:Int)=>((if(decide (s2 < (a0.Winds.length:Int)))=true then(if(0≤s2)then(if(s2 < (a0.Winds.length:Int))then(if(0≤s2)then(if(s2 < (a1.Winds.length:Int))then(if(!(((a0.Winds.getD s2.toNat default).East==(a1.Winds.getD s2.toNat default).East)&&(((a0.Winds.getD s2.toNat default).North==(a1.Winds.getD s2.toNat default).North)&&true)))=true then(some (.inr (.inr (false))))else(some (.inl (IntKind.wrap .i64 (s2+1)))))else none)else none)else none)else none)else(some (.inr (.inl ())))):Option ((Int)⊕((Unit)⊕(Bool)))))
abbrev dc (a0:Aa) (a1:Aa):(Int)→Option ((Int)⊕((Unit)⊕(Bool))):=(fun(s1:Int)=>((if(decide (s1 < (a0.Alts.length:Int)))=true then(if(0≤s1)then(if(s1 < (a0.Alts.length:Int))then(if(0≤s1)then(if(s1 < (a1.Alts.length:Int))then(if((a0.Alts.getD s1.toNat default) != (a1.Alts.getD s1.toNat default))=true then(some (.inr (.inr (false))))else(some (.inl (IntKind.wrap .i64 (s1+1)))))else none)else none)else none)else none)else(some (.inr (.inl ())))):Option ((Int)⊕((Unit)⊕(Bool)))))
theorem A9  (a0 a1:Aa):m9 a0 a1=((Option.bind (if((((((((!((a0.Corner.X==a1.Corner.X)&&((a0.Corner.Y==a1.Corner.Y)&&true))) || (a0.Cell != a1.Cell)) || (a0.NX != a1.NX)) || (a0.NY != a1.NY)) || (a0.Err != a1.Err)) || ((a0.Alts.length:Int) != (a1.Alts.length:Int))) || ((a0.Winds.length:Int) != (a1.Winds.length:Int))) || ((a0.Devs.length:Int) != (a1.Devs.length:Int)))=true then(some (.inr (false)))else(some (.inl ()))) (Af fun(_:Unit)=>(Option.bind (Option.bind (some (.inl ())) (Af fun(_:Unit)=>(Am (dc a0 a1) (0:Int)))) (Af fun(_:Unit)=>(Option.bind (Option.bind (some (.inl ())) (Af fun(_:Unit)=>(Am (db a0 a1) (0:Int)))) (Af fun(_:Unit)=>(Option.bind (Option.bind (some (.inl ())) (Af fun(_:Unit)=>(Am (da a0 a1) (0:Int)))) (Af fun(_:Unit)=>(some true))))))))):Option (Bool)):=M9 _ _
theorem M11 (a0 a1:List Ac):Re a0 a1=((Option.bind (if((a0.length:Int) != (a1.length:Int))=true then(some (.inr (false)))else(some (.inl ()))) (Af fun(_:Unit)=>(Option.bind (Option.bind (some (.inl ())) (Af fun(_:Unit)=>(Am (fun(s1:Int)=>((if(decide (s1 < (a0.length:Int)))=true then(if(0≤s1)then(if(s1 < (a0.length:Int))then(if(0≤s1)then(if(s1 < (a1.length:Int))then(if(!(((a0.getD s1.toNat default).Line==(a1.getD s1.toNat default).Line)&&(((a0.getD s1.toNat default).Aj==(a1.getD s1.toNat default).Aj)&&(((a0.getD s1.toNat default).Code==(a1.getD s1.toNat default).Code)&&true))))=true then(some (.inr (.inr (false))))else(some (.inl (IntKind.wrap .i64 (s1+1)))))else none)else none)else none)else none)else(some (.inr (.inl ())))):Option ((Int)⊕((Unit)⊕(Bool))))) (0:Int)))) (Af fun(_:Unit)=>(some true))))):Option (Bool)):=by kernel_rfl
abbrev Wz (a0:List Ac) (a1:List Ac):(Int)→Option ((Int)⊕((Unit)⊕(Bool))):=(fun(s1:Int)=>((if(decide (s1 < (a0.length:Int)))=true then(if(0≤s1)then(if(s1 < (a0.length:Int))then(if(0≤s1)then(if(s1 < (a1.length:Int))then(if(!(((a0.getD s1.toNat default).Line==(a1.getD s1.toNat default).Line)&&(((a0.getD s1.toNat default).Aj==(a1.getD s1.toNat default).Aj)&&(((a0.getD s1.toNat default).Code==(a1.getD s1.toNat default).Code)&&true))))=true then(some (.inr (.inr (false))))else(some (.inl (IntKind.wrap .i64 (s1+1)))))else none)else none)else none)else none)else(some (.inr (.inl ())))):Option ((Int)⊕((Unit)⊕(Bool)))))
theorem A11  (a0 a1:List Ac):Re a0 a1=((Option.bind (if((a0.length:Int) != (a1.length:Int))=true then(some (.inr (false)))else(some (.inl ()))) (Af fun(_:Unit)=>(Option.bind (Option.bind (some (.inl ())) (Af fun(_:Unit)=>(Am (Wz a0 a1) (0:Int)))) (Af fun(_:Unit)=>(some true))))):Option (Bool)):=M11 _ _
theorem Sw {b : Int → Option (Int ⊕ (Unit ⊕ Bool))} {n : Nat} (h : ∀ i : Nat, i < n → b (i : Int) = some (.inl ((i + 1 : Nat) : Int))) (he : b (n : Int) = some (.inr (.inl ()))) : Am b 0 = some (.inl ()) := by
  have key : ∀ k i : Nat, i + k = n → Am b (i : Int) = some (.inl ()) := by
    intro k
    induction k with
    | zero => intro i hi; obtain rfl : i = n := by omega
              exact Be he
    | succ k ih => intro i hi; exact Bg (h i (by omega)) (ih (i + 1) (by omega))
  exact key n 0 (by omega)
theorem wnL {i n:Nat} (h:i < n) (hn:n≤9223372036854775807):IntKind.wrap .i64 ((i:Int)+1)=((i+1:Nat):Int):=by rw[Bh (by omega) (by omega)];omega
theorem zj {g:Aa} (h1:g.Alts.length≤9223372036854775807) (h2:g.Winds.length≤9223372036854775807) (h3:g.Devs.length≤9223372036854775807):m9 g g=some true:=by
 have l3:Am (dc g g) 0=some (.inl ()):=Sw (n:=g.Alts.length) (fun i hi=>by
  simp only[dc,Int.toNat_natCast]
  rw[if_pos (decide_eq_true (show (i:Int) < (g.Alts.length:Int) from by omega)),if_pos (by omega),if_pos (by omega),if_pos (by omega),if_pos (by omega),if_neg (by simp),wnL hi (by omega)]) (by
  simp only[dc]
  rw[if_neg (by simp)])
 have l2:Am (db g g) 0=some (.inl ()):=Sw (n:=g.Winds.length) (fun i hi=>by
  simp only[db,Int.toNat_natCast]
  rw[if_pos (decide_eq_true (show (i:Int) < (g.Winds.length:Int) from by omega)),if_pos (by omega),if_pos (by omega),if_pos (by omega),if_pos (by omega),if_neg (by simp),wnL hi (by omega)]) (by
  simp only[db]
  rw[if_neg (by simp)])
 have l1:Am (da g g) 0=some (.inl ()):=Sw (n:=g.Devs.length) (fun i hi=>by
  simp only[da,Int.toNat_natCast]
  rw[if_pos (decide_eq_true (show (i:Int) < (g.Devs.length:Int) from by omega)),if_pos (by omega),if_pos (by omega),if_pos (by omega),if_pos (by omega),if_neg (by simp),wnL hi (by omega)]) (by
  simp only[da]
  rw[if_neg (by simp)])
 rw[A9]
 simp only[beq_self_eq_true,bne_self_eq_false,Bool.and_self,Bool.not_true,Bool.or_self,Bool.false_eq_true,if_false,bs,ol,l1,l2,l3]
theorem diags_t {l:List Ac} (h:l.length≤9223372036854775807):Re l l=some true:=by
 have l1:Am (Wz l l) 0=some (.inl ()):=Sw (n:=l.length) (fun i hi=>by
  simp only[Wz,Int.toNat_natCast]
  rw[if_pos (decide_eq_true (show (i:Int) < (l.length:Int) from by omega)),if_pos (by omega),if_pos (by omega),if_pos (by omega),if_pos (by omega),if_neg (by simp),wnL hi (by omega)]) (by
  simp only[Wz]
  rw[if_neg (by simp)])
 rw[A11]
 simp only[bne_self_eq_false,Bool.false_eq_true,if_false,bs,ol,l1]
theorem awake_t:m5=some true:=by kernel_rfl
theorem M3 (a0:Aa) (a1:List UInt8):m3 a0 a1=((Option.bind (Option.bind (m5) fun r=>some r) fun x1=>(if(!x1)=true then(some false)else(Option.bind (Option.bind (m6 a0) fun r=>some r) fun x3=>(Option.bind (Option.bind (m7 a0) fun r=>some r) fun x4=>(if((x3.1 != x4.1) || (x3.2 != x4.2))=true then(some false)else(if(x3.2==0)=true then(Option.bind (Option.bind (m8 x3.1) fun r=>some r) fun x8=>(Option.bind (((if(!(decide (0 < (x8.2.length:Int))))=true then m9 x8.1 a0 else some default).bind fun r9_0=>some r9_0)) fun(x9:(Bool))=>(if((decide (0 < (x8.2.length:Int))) || (!x9))=true then(some false)else(Option.bind (Option.bind (m8 a1) fun r=>some r) fun x11=>(Option.bind (Option.bind (Xd a1) fun r=>some r) fun x12=>(Option.bind (((m9 x11.1 x12.1).bind fun r13_0=>((if r13_0=true then Re x11.2 x12.2 else some default).bind fun r13_1=>((if((r13_0&&r13_1)&&(!(decide (0 < (x11.2.length:Int)))))=true then Ov x11.1 else some default).bind fun r13_2=>some (r13_0,r13_1,r13_2))))) fun(x13:(Bool×Bool×Int))=>(some ((x13.1&&x13.2.1)&&((decide (0 < (x11.2.length:Int))) || (x13.2.2==0))))))))))else(Option.bind (Option.bind (m8 a1) fun r=>some r) fun x11=>(Option.bind (Option.bind (Xd a1) fun r=>some r) fun x12=>(Option.bind (((m9 x11.1 x12.1).bind fun r13_0=>((if r13_0=true then Re x11.2 x12.2 else some default).bind fun r13_1=>((if((r13_0&&r13_1)&&(!(decide (0 < (x11.2.length:Int)))))=true then Ov x11.1 else some default).bind fun r13_2=>some (r13_0,r13_1,r13_2))))) fun(x13:(Bool×Bool×Int))=>(some ((x13.1&&x13.2.1)&&((decide (0 < (x11.2.length:Int))) || (x13.2.2==0))))))))))))):Option (Bool)):=by kernel_rfl
theorem A3  (a0:Aa) (a1:List UInt8):m3 a0 a1=((Option.bind (Option.bind (m5) fun r=>some r) fun x1=>(if(!x1)=true then(some false)else(Option.bind (Option.bind (m6 a0) fun r=>some r) fun x3=>(Option.bind (Option.bind (m7 a0) fun r=>some r) fun x4=>(if((x3.1 != x4.1) || (x3.2 != x4.2))=true then(some false)else(if(x3.2==0)=true then(Option.bind (Option.bind (m8 x3.1) fun r=>some r) fun x8=>(Option.bind (((if(!(decide (0 < (x8.2.length:Int))))=true then m9 x8.1 a0 else some default).bind fun r9_0=>some r9_0)) fun(x9:(Bool))=>(if((decide (0 < (x8.2.length:Int))) || (!x9))=true then(some false)else(Option.bind (Option.bind (m8 a1) fun r=>some r) fun x11=>(Option.bind (Option.bind (Xd a1) fun r=>some r) fun x12=>(Option.bind (((m9 x11.1 x12.1).bind fun r13_0=>((if r13_0=true then Re x11.2 x12.2 else some default).bind fun r13_1=>((if((r13_0&&r13_1)&&(!(decide (0 < (x11.2.length:Int)))))=true then Ov x11.1 else some default).bind fun r13_2=>some (r13_0,r13_1,r13_2))))) fun(x13:(Bool×Bool×Int))=>(some ((x13.1&&x13.2.1)&&((decide (0 < (x11.2.length:Int))) || (x13.2.2==0))))))))))else(Option.bind (Option.bind (m8 a1) fun r=>some r) fun x11=>(Option.bind (Option.bind (Xd a1) fun r=>some r) fun x12=>(Option.bind (((m9 x11.1 x12.1).bind fun r13_0=>((if r13_0=true then Re x11.2 x12.2 else some default).bind fun r13_1=>((if((r13_0&&r13_1)&&(!(decide (0 < (x11.2.length:Int)))))=true then Ov x11.1 else some default).bind fun r13_2=>some (r13_0,r13_1,r13_2))))) fun(x13:(Bool×Bool×Int))=>(some ((x13.1&&x13.2.1)&&((decide (0 < (x11.2.length:Int))) || (x13.2.2==0))))))))))))):Option (Bool)):=M3 _ _
theorem wt_true {g:Aa} (h1:g.Alts.length≤9223372036854775807) (h2:g.Winds.length≤9223372036854775807) (h3:g.Devs.length≤9223372036854775807) (s:List UInt8):m3 g s=some true:=by
 have P:=la s
 have D:=u3 s
 have back:Option.bind (Option.bind (m8 s) fun r=>some r) (fun x11=>(Option.bind (Option.bind (Xd s) fun r=>some r) fun x12=>(Option.bind (((m9 x11.1 x12.1).bind fun r13_0=>((if r13_0=true then Re x11.2 x12.2 else some default).bind fun r13_1=>((if((r13_0&&r13_1)&&(!(decide (0 < (x11.2.length:Int)))))=true then Ov x11.1 else some default).bind fun r13_2=>some (r13_0,r13_1,r13_2))))) fun(x13:(Bool×Bool×Int))=>(some ((x13.1&&x13.2.1)&&((decide (0 < (x11.2.length:Int))) || (x13.2.2==0)))))) )=some true:=by
  rw[lw,Parse_r]
  simp only[bs]
  rw[zj (by omega) (by omega) (by omega)]
  simp only[bs,if_true]
  rw[diags_t (by omega)]
  simp only[bs,Bool.and_self,Bool.true_and]
  by_cases h:(C8 s).2=[]
  ·rw[ln _ (by omega),chk_ok.2 (j9 h),h]
   rfl
  ·have h0:0 < (C8 s).2.length:=List.length_pos_iff.2 h
   rw[show decide ((0:Int) < ((C8 s).2.length:Int))=true from decide_eq_true (by omega)]
   rfl
 rw[A3,awake_t]
 simp only[bs,Bool.not_true,Bool.false_eq_true,if_false]
 rw[Text_p g h2,Text_r g]
 simp only[bs,bne_self_eq_false,Bool.or_self,Bool.false_eq_true,if_false]
 by_cases h:Kz g=0
 ·have O:=chk_ok.1 h
  have e1:Ny g=(Ql g,0):=by unfold Ny;rw[if_pos h]
  rw[e1]
  simp only[beq_self_eq_true,if_true]
  rw[lw (Ql g),ya O]
  simp only[bs,List.length_nil]
  rw[if_pos (show (!(decide ((0:Int) < ((0:Nat):Int))))=true from rfl),zj h1 h2 h3]
  simp only[bs]
  exact back
 ·have e1:Ny g=([],Kz g):=by unfold Ny;rw[if_neg h]
  rw[e1]
  simp only
  rw[if_neg (by simpa using h)]
  exact back
end Go.Av.Txs
namespace Go.Av
theorem plain3 {g:Aa} {s:List UInt8} (b:ok27 g) (_:s.length≤maxLen):m3 g s=some true:=by
 obtain⟨_,_,_,_,⟨a,_⟩,⟨w,_⟩,⟨d,_⟩,_⟩:=b
 have hm:maxLen≤9223372036854775807:=by decide
 exact Txs.wt_true (by omega) (by omega) (by omega) s
end Go.Av
