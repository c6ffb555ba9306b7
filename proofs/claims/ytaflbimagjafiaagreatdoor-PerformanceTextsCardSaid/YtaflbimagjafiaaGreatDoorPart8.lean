/- A part of the proof. -/
import Derived.Test.YtaflbimagjafiaaGreatDoorPart7
set_option linter.unusedVariables false
set_option linter.unusedSimpArgs false
set_option linter.unusedSectionVars false
set_option maxRecDepth 100000
namespace Go.Av.Txs
open Go.Av
theorem M54_2 (a0:List A7) (y2:P4):(kx a0 y2).m=((if(!(decide ((a0.length:Int) < (7:Int))))=true→((4:Int)≠0)then(if((decide ((a0.length:Int) < (7:Int))) || ((Int.tmod (a0.length:Int) (4:Int)) != 3))=true then(if(0≤(IntKind.wrap .i64 ((a0.length:Int) - (1:Int))))then(if((IntKind.wrap .i64 ((a0.length:Int) - (1:Int))) < (a0.length:Int))then(some ((⟨([]:List UInt8),(0:Int),(0:Int),[],[],[],[],[],[],[],[],[],(0:Int),(0:Int),(0:Int)⟩:Ah),(⟨(IntKind.wrap .i64 ((a0.getD (IntKind.wrap .i64 ((a0.length:Int) - (1:Int))).toNat default).A8+1)),(1:Int),(4:Int)⟩:A5),true))else none)else none)else(Option.bind (Option.bind (tz (⟨y2.1,y2.2.1,y2.2.2.1,y2.2.2.2.1,y2.2.2.2.2.1,y2.2.2.2.2.2.1,y2.2.2.2.2.2.2.1,y2.2.2.2.2.2.2.2.1,y2.2.2.2.2.2.2.2.2.1,y2.2.2.2.2.2.2.2.2.2.1,y2.2.2.2.2.2.2.2.2.2.2.1,y2.2.2.2.2.2.2.2.2.2.2.2.1,y2.2.2.2.2.2.2.2.2.2.2.2.2.1,y2.2.2.2.2.2.2.2.2.2.2.2.2.2.1,y2.2.2.2.2.2.2.2.2.2.2.2.2.2.2⟩:Ah)) fun r=>some r) fun x48=>(if(x48 != 0)=true then(if((0:Int)≤(0:Int))then(if(0 < (a0.length:Int))then(if((0:Int)≤(0:Int))then(if(0 < (a0.length:Int))then(if((0:Int)≤(0:Int))then(if(0 < ((a0.getD (0:Int).toNat default).A2.length:Int))then(some ((⟨([]:List UInt8),(0:Int),(0:Int),[],[],[],[],[],[],[],[],[],(0:Int),(0:Int),(0:Int)⟩:Ah),(⟨(a0.getD (0:Int).toNat default).A8,((a0.getD (0:Int).toNat default).A2.getD (0:Int).toNat default).Ai,x48⟩:A5),true))else none)else none)else none)else none)else none)else none)else(some ((⟨y2.1,y2.2.1,y2.2.2.1,y2.2.2.2.1,y2.2.2.2.2.1,y2.2.2.2.2.2.1,y2.2.2.2.2.2.2.1,y2.2.2.2.2.2.2.2.1,y2.2.2.2.2.2.2.2.2.1,y2.2.2.2.2.2.2.2.2.2.1,y2.2.2.2.2.2.2.2.2.2.2.1,y2.2.2.2.2.2.2.2.2.2.2.2.1,y2.2.2.2.2.2.2.2.2.2.2.2.2.1,y2.2.2.2.2.2.2.2.2.2.2.2.2.2.1,y2.2.2.2.2.2.2.2.2.2.2.2.2.2.2⟩:Ah),(⟨(0:Int),(0:Int),(0:Int)⟩:A5),false)))))else none):Option (gi)):=by kernel_rfl
theorem M54 (a0:List A7):m54 a0=((Option.bind (if((a0.length:Int)==(0:Int))=true then(some (.inr (((⟨([]:List UInt8),(0:Int),(0:Int),[],[],[],[],[],[],[],[],[],(0:Int),(0:Int),(0:Int)⟩:Ah),(⟨(1:Int),(1:Int),(4:Int)⟩:A5),true))))else(some (.inl ()))) (Ad fun(_:Unit)=>(Option.bind (Option.bind (some (.inl ())) (Ad fun(_:Unit)=>(yr a0).m)) (Ad fun(y2:P4)=>(kx a0 y2).m)))):Option (gi)):=by kernel_rfl
noncomputable abbrev D7 (a0:List A7):=(fun(s1:Ot)=>((if(decide (s1.1 < (a0.length:Int)))=true then(if(0≤s1.1)then(if(s1.1 < (a0.length:Int))then(if(s1.1==0)=true then(Option.bind (Option.bind (N5 (a0.getD s1.1.toNat default)) fun r=>some r) fun x13=>(Option.bind (Option.bind (Jg ([([80,69,82,70]:List UInt8)]:List (List UInt8)) (⟨(a0.getD s1.1.toNat default),(0:Int),(1:Int),(⟨(0:Int),(0:Int),(0:Int)⟩:A5),false⟩:Ab)) fun r=>some r) fun x14=>(Option.bind (Option.bind (Qq (8:Int) (⟨(⟨x14.2.1,x14.2.2.1⟩:A7),x14.2.2.2.1,x14.2.2.2.2.1,(⟨x14.2.2.2.2.2.1,x14.2.2.2.2.2.2.1,x14.2.2.2.2.2.2.2.1⟩:A5),x14.2.2.2.2.2.2.2.2⟩:Ab)) fun r=>some r) fun x15=>(Option.bind (Option.bind (Bx (0:Int) (3000000000:Int) (⟨(⟨x15.2.1,x15.2.2.1⟩:A7),x15.2.2.2.1,x15.2.2.2.2.1,(⟨x15.2.2.2.2.2.1,x15.2.2.2.2.2.2.1,x15.2.2.2.2.2.2.2.1⟩:A5),x15.2.2.2.2.2.2.2.2⟩:Ab)) fun r=>some r) fun x16=>(Option.bind (Option.bind (Bx (0:Int) (3000000000:Int) (⟨(⟨x16.2.1,x16.2.2.1⟩:A7),x16.2.2.2.1,x16.2.2.2.2.1,(⟨x16.2.2.2.2.2.1,x16.2.2.2.2.2.2.1,x16.2.2.2.2.2.2.2.1⟩:A5),x16.2.2.2.2.2.2.2.2⟩:Ab)) fun r=>some r) fun x17=>(Option.bind (Option.bind (Bx (0:Int) (3000000000:Int) (⟨(⟨x17.2.1,x17.2.2.1⟩:A7),x17.2.2.2.1,x17.2.2.2.2.1,(⟨x17.2.2.2.2.2.1,x17.2.2.2.2.2.2.1,x17.2.2.2.2.2.2.2.1⟩:A5),x17.2.2.2.2.2.2.2.2⟩:Ab)) fun r=>some r) fun x18=>(Option.bind (Option.bind (Bx (0:Int) (3000000000:Int) (⟨(⟨x18.2.1,x18.2.2.1⟩:A7),x18.2.2.2.1,x18.2.2.2.2.1,(⟨x18.2.2.2.2.2.1,x18.2.2.2.2.2.2.1,x18.2.2.2.2.2.2.2.1⟩:A5),x18.2.2.2.2.2.2.2.2⟩:Ab)) fun r=>some r) fun x19=>(Option.bind (Option.bind (Kq (⟨(⟨x19.2.1,x19.2.2.1⟩:A7),x19.2.2.2.1,x19.2.2.2.2.1,(⟨x19.2.2.2.2.2.1,x19.2.2.2.2.2.2.1,x19.2.2.2.2.2.2.2.1⟩:A5),x19.2.2.2.2.2.2.2.2⟩:Ab)) fun r=>some r) fun x20=>(Option.bind (((Hu (⟨(⟨x20.2.1,x20.2.2.1⟩:A7),x20.2.2.2.1,x20.2.2.2.2.1,(⟨x20.2.2.2.2.2.1,x20.2.2.2.2.2.2.1,x20.2.2.2.2.2.2.2.1⟩:A5),x20.2.2.2.2.2.2.2.2⟩:Ab)).bind fun r21_0=>some (r21_0,x20))) fun(x21:((Js)×(Bk)))=>(if x21.1.1=true then(some (.inr (.inr (((⟨([]:List UInt8),(0:Int),(0:Int),[],[],[],[],[],[],[],[],[],(0:Int),(0:Int),(0:Int)⟩:Ah),(⟨x21.1.2.1,x21.1.2.2.1,x21.1.2.2.2⟩:A5),true)))))else(some (.inl ((IntKind.wrap .i64 (s1.1+1)),x15.1,x16.1,x17.1,s1.2.2.2.2.1,s1.2.2.2.2.2.1,s1.2.2.2.2.2.2.1,s1.2.2.2.2.2.2.2.1,s1.2.2.2.2.2.2.2.2.1,s1.2.2.2.2.2.2.2.2.2.1,s1.2.2.2.2.2.2.2.2.2.2.1,s1.2.2.2.2.2.2.2.2.2.2.2.1,s1.2.2.2.2.2.2.2.2.2.2.2.2.1,x18.1,x19.1,x20.1)))))))))))))else(if(s1.1==1)=true then(Option.bind (Option.bind (Uv (a0.getD s1.1.toNat default) ([77,65,83,83,69,83]:List UInt8)) fun r=>some r) fun x23=>(if x23.2.2=true then(some (.inr (.inr (((⟨([]:List UInt8),(0:Int),(0:Int),[],[],[],[],[],[],[],[],[],(0:Int),(0:Int),(0:Int)⟩:Ah),x23.2.1,true)))))else(some (.inl ((IntKind.wrap .i64 (s1.1+1)),s1.2.1,s1.2.2.1,s1.2.2.2.1,s1.2.2.2.2.1,x23.1,s1.2.2.2.2.2.2.1,s1.2.2.2.2.2.2.2.1,s1.2.2.2.2.2.2.2.2.1,s1.2.2.2.2.2.2.2.2.2.1,s1.2.2.2.2.2.2.2.2.2.2.1,s1.2.2.2.2.2.2.2.2.2.2.2.1,s1.2.2.2.2.2.2.2.2.2.2.2.2.1,s1.2.2.2.2.2.2.2.2.2.2.2.2.2.1,s1.2.2.2.2.2.2.2.2.2.2.2.2.2.2.1,s1.2.2.2.2.2.2.2.2.2.2.2.2.2.2.2)))))else(if(s1.1==2)=true then(Option.bind (Option.bind (Uv (a0.getD s1.1.toNat default) ([77,73,78,83,80,69,69,68]:List UInt8)) fun r=>some r) fun x25=>(if x25.2.2=true then(some (.inr (.inr (((⟨([]:List UInt8),(0:Int),(0:Int),[],[],[],[],[],[],[],[],[],(0:Int),(0:Int),(0:Int)⟩:Ah),x25.2.1,true)))))else(some (.inl ((IntKind.wrap .i64 (s1.1+1)),s1.2.1,s1.2.2.1,s1.2.2.2.1,s1.2.2.2.2.1,s1.2.2.2.2.2.1,s1.2.2.2.2.2.2.1,s1.2.2.2.2.2.2.2.1,s1.2.2.2.2.2.2.2.2.1,s1.2.2.2.2.2.2.2.2.2.1,s1.2.2.2.2.2.2.2.2.2.2.1,s1.2.2.2.2.2.2.2.2.2.2.2.1,x25.1,s1.2.2.2.2.2.2.2.2.2.2.2.2.2.1,s1.2.2.2.2.2.2.2.2.2.2.2.2.2.2.1,s1.2.2.2.2.2.2.2.2.2.2.2.2.2.2.2)))))else(if((4:Int)≠0)then(if((Int.tmod s1.1 (4:Int))==3)=true then(Option.bind (Option.bind (N5 (a0.getD s1.1.toNat default)) fun r=>some r) fun x27=>(Option.bind (Option.bind (Jg ([([82,79,87]:List UInt8)]:List (List UInt8)) (⟨(a0.getD s1.1.toNat default),(0:Int),(1:Int),(⟨(0:Int),(0:Int),(0:Int)⟩:A5),false⟩:Ab)) fun r=>some r) fun x28=>(if((s1.2.2.2.2.1.length:Int)==(12:Int))=true then(Option.bind (((We (3:Int) (⟨(⟨x28.2.1,x28.2.2.1⟩:A7),x28.2.2.2.1,x28.2.2.2.2.1,(⟨x28.2.2.2.2.2.1,x28.2.2.2.2.2.2.1,x28.2.2.2.2.2.2.2.1⟩:A5),x28.2.2.2.2.2.2.2.2⟩:Ab)).bind fun r30_0=>some (r30_0,x28))) fun(x30:((P6)×(Bk)))=>(Option.bind (((Kq (⟨(⟨(⟨x30.2.2.1,x30.2.2.2.1⟩:A7),x30.2.2.2.2.1,x30.2.2.2.2.2.1,(⟨x30.2.2.2.2.2.2.1,x30.2.2.2.2.2.2.2.1,x30.2.2.2.2.2.2.2.2.1⟩:A5),x30.2.2.2.2.2.2.2.2.2⟩:Ab).line,(⟨(⟨x30.2.2.1,x30.2.2.2.1⟩:A7),x30.2.2.2.2.1,x30.2.2.2.2.2.1,(⟨x30.2.2.2.2.2.2.1,x30.2.2.2.2.2.2.2.1,x30.2.2.2.2.2.2.2.2.1⟩:A5),x30.2.2.2.2.2.2.2.2.2⟩:Ab).at_,(⟨(⟨x30.2.2.1,x30.2.2.2.1⟩:A7),x30.2.2.2.2.1,x30.2.2.2.2.2.1,(⟨x30.2.2.2.2.2.2.1,x30.2.2.2.2.2.2.2.1,x30.2.2.2.2.2.2.2.2.1⟩:A5),x30.2.2.2.2.2.2.2.2.2⟩:Ab).last,(⟨x30.1.1,x30.1.2.1,x30.1.2.2.1⟩:A5),x30.1.2.2.2⟩:Ab)).bind fun r31_0=>(if(s1.2.2.2.2.1.length+1) * 8≤140737488355328 then some r31_0 else none))) fun(x31:((Bk)))=>(Option.bind (((Bx (0:Int) (3000000000:Int) (⟨(⟨x31.2.1,x31.2.2.1⟩:A7),x31.2.2.2.1,x31.2.2.2.2.1,(⟨x31.2.2.2.2.2.1,x31.2.2.2.2.2.2.1,x31.2.2.2.2.2.2.2.1⟩:A5),x31.2.2.2.2.2.2.2.2⟩:Ab)).bind fun r32_0=>(if(s1.2.2.2.2.2.2.2.2.2.1.length+1) * 8≤140737488355328 then some r32_0 else none))) fun(x32:((Bk)))=>(Option.bind (((Bx (0:Int) (3000000000:Int) (⟨(⟨x32.2.1,x32.2.2.1⟩:A7),x32.2.2.2.1,x32.2.2.2.2.1,(⟨x32.2.2.2.2.2.1,x32.2.2.2.2.2.2.1,x32.2.2.2.2.2.2.2.1⟩:A5),x32.2.2.2.2.2.2.2.2⟩:Ab)).bind fun r33_0=>(if(s1.2.2.2.2.2.2.2.2.2.2.1.length+1) * 8≤140737488355328 then some r33_0 else none))) fun(x33:((Bk)))=>(Option.bind (((Bx (0:Int) (3000000000:Int) (⟨(⟨x33.2.1,x33.2.2.1⟩:A7),x33.2.2.2.1,x33.2.2.2.2.1,(⟨x33.2.2.2.2.2.1,x33.2.2.2.2.2.2.1,x33.2.2.2.2.2.2.2.1⟩:A5),x33.2.2.2.2.2.2.2.2⟩:Ab)).bind fun r34_0=>(if(s1.2.2.2.2.2.2.2.2.2.2.2.1.length+1) * 8≤140737488355328 then some r34_0 else none))) fun(x34:((Bk)))=>(Option.bind (((Hu (⟨(⟨x34.2.1,x34.2.2.1⟩:A7),x34.2.2.2.1,x34.2.2.2.2.1,(⟨x34.2.2.2.2.2.1,x34.2.2.2.2.2.2.1,x34.2.2.2.2.2.2.2.1⟩:A5),x34.2.2.2.2.2.2.2.2⟩:Ab)).bind fun r35_0=>some (r35_0,x34))) fun(x35:((Js)×(Bk)))=>(if x35.1.1=true then(some (.inr (.inr (((⟨([]:List UInt8),(0:Int),(0:Int),[],[],[],[],[],[],[],[],[],(0:Int),(0:Int),(0:Int)⟩:Ah),(⟨x35.1.2.1,x35.1.2.2.1,x35.1.2.2.2⟩:A5),true)))))else(some (.inl ((IntKind.wrap .i64 (s1.1+1)),s1.2.1,s1.2.2.1,s1.2.2.2.1,(s1.2.2.2.2.1++([x31.1]:List Int)),s1.2.2.2.2.2.1,s1.2.2.2.2.2.2.1,s1.2.2.2.2.2.2.2.1,s1.2.2.2.2.2.2.2.2.1,(s1.2.2.2.2.2.2.2.2.2.1++([x32.1]:List Int)),(s1.2.2.2.2.2.2.2.2.2.2.1++([x33.1]:List Int)),(s1.2.2.2.2.2.2.2.2.2.2.2.1++([x34.1]:List Int)),s1.2.2.2.2.2.2.2.2.2.2.2.2.1,s1.2.2.2.2.2.2.2.2.2.2.2.2.2.1,s1.2.2.2.2.2.2.2.2.2.2.2.2.2.2.1,s1.2.2.2.2.2.2.2.2.2.2.2.2.2.2.2))))))))))else(Option.bind (((Kq (⟨(⟨x28.2.1,x28.2.2.1⟩:A7),x28.2.2.2.1,x28.2.2.2.2.1,(⟨x28.2.2.2.2.2.1,x28.2.2.2.2.2.2.1,x28.2.2.2.2.2.2.2.1⟩:A5),x28.2.2.2.2.2.2.2.2⟩:Ab)).bind fun r31_0=>(if(s1.2.2.2.2.1.length+1) * 8≤140737488355328 then some r31_0 else none))) fun(x31:((Bk)))=>(Option.bind (((Bx (0:Int) (3000000000:Int) (⟨(⟨x31.2.1,x31.2.2.1⟩:A7),x31.2.2.2.1,x31.2.2.2.2.1,(⟨x31.2.2.2.2.2.1,x31.2.2.2.2.2.2.1,x31.2.2.2.2.2.2.2.1⟩:A5),x31.2.2.2.2.2.2.2.2⟩:Ab)).bind fun r32_0=>(if(s1.2.2.2.2.2.2.2.2.2.1.length+1) * 8≤140737488355328 then some r32_0 else none))) fun(x32:((Bk)))=>(Option.bind (((Bx (0:Int) (3000000000:Int) (⟨(⟨x32.2.1,x32.2.2.1⟩:A7),x32.2.2.2.1,x32.2.2.2.2.1,(⟨x32.2.2.2.2.2.1,x32.2.2.2.2.2.2.1,x32.2.2.2.2.2.2.2.1⟩:A5),x32.2.2.2.2.2.2.2.2⟩:Ab)).bind fun r33_0=>(if(s1.2.2.2.2.2.2.2.2.2.2.1.length+1) * 8≤140737488355328 then some r33_0 else none))) fun(x33:((Bk)))=>(Option.bind (((Bx (0:Int) (3000000000:Int) (⟨(⟨x33.2.1,x33.2.2.1⟩:A7),x33.2.2.2.1,x33.2.2.2.2.1,(⟨x33.2.2.2.2.2.1,x33.2.2.2.2.2.2.1,x33.2.2.2.2.2.2.2.1⟩:A5),x33.2.2.2.2.2.2.2.2⟩:Ab)).bind fun r34_0=>(if(s1.2.2.2.2.2.2.2.2.2.2.2.1.length+1) * 8≤140737488355328 then some r34_0 else none))) fun(x34:((Bk)))=>(Option.bind (((Hu (⟨(⟨x34.2.1,x34.2.2.1⟩:A7),x34.2.2.2.1,x34.2.2.2.2.1,(⟨x34.2.2.2.2.2.1,x34.2.2.2.2.2.2.1,x34.2.2.2.2.2.2.2.1⟩:A5),x34.2.2.2.2.2.2.2.2⟩:Ab)).bind fun r35_0=>some (r35_0,x34))) fun(x35:((Js)×(Bk)))=>(if x35.1.1=true then(some (.inr (.inr (((⟨([]:List UInt8),(0:Int),(0:Int),[],[],[],[],[],[],[],[],[],(0:Int),(0:Int),(0:Int)⟩:Ah),(⟨x35.1.2.1,x35.1.2.2.1,x35.1.2.2.2⟩:A5),true)))))else(some (.inl ((IntKind.wrap .i64 (s1.1+1)),s1.2.1,s1.2.2.1,s1.2.2.2.1,(s1.2.2.2.2.1++([x31.1]:List Int)),s1.2.2.2.2.2.1,s1.2.2.2.2.2.2.1,s1.2.2.2.2.2.2.2.1,s1.2.2.2.2.2.2.2.2.1,(s1.2.2.2.2.2.2.2.2.2.1++([x32.1]:List Int)),(s1.2.2.2.2.2.2.2.2.2.2.1++([x33.1]:List Int)),(s1.2.2.2.2.2.2.2.2.2.2.2.1++([x34.1]:List Int)),s1.2.2.2.2.2.2.2.2.2.2.2.2.1,s1.2.2.2.2.2.2.2.2.2.2.2.2.2.1,s1.2.2.2.2.2.2.2.2.2.2.2.2.2.2.1,s1.2.2.2.2.2.2.2.2.2.2.2.2.2.2.2))))))))))))else(if((4:Int)≠0)then(if((Int.tmod s1.1 (4:Int))==0)=true then(Option.bind (Option.bind (Uv (a0.getD s1.1.toNat default) ([67,76,73,77,66]:List UInt8)) fun r=>some r) fun x37=>(if((s1.2.2.2.2.2.2.1.length+1) * 24≤140737488355328)then(if x37.2.2=true then(some (.inr (.inr (((⟨([]:List UInt8),(0:Int),(0:Int),[],[],[],[],[],[],[],[],[],(0:Int),(0:Int),(0:Int)⟩:Ah),x37.2.1,true)))))else(some (.inl ((IntKind.wrap .i64 (s1.1+1)),s1.2.1,s1.2.2.1,s1.2.2.2.1,s1.2.2.2.2.1,s1.2.2.2.2.2.1,(s1.2.2.2.2.2.2.1++([x37.1]:List (List Int))),s1.2.2.2.2.2.2.2.1,s1.2.2.2.2.2.2.2.2.1,s1.2.2.2.2.2.2.2.2.2.1,s1.2.2.2.2.2.2.2.2.2.2.1,s1.2.2.2.2.2.2.2.2.2.2.2.1,s1.2.2.2.2.2.2.2.2.2.2.2.2.1,s1.2.2.2.2.2.2.2.2.2.2.2.2.2.1,s1.2.2.2.2.2.2.2.2.2.2.2.2.2.2.1,s1.2.2.2.2.2.2.2.2.2.2.2.2.2.2.2))))else none))else(if((4:Int)≠0)then(if((Int.tmod s1.1 (4:Int))==1)=true then(Option.bind (Option.bind (Uv (a0.getD s1.1.toNat default) ([67,76,73,77,66,70,76,79,87]:List UInt8)) fun r=>some r) fun x40=>(if((s1.2.2.2.2.2.2.2.1.length+1) * 24≤140737488355328)then(if x40.2.2=true then(some (.inr (.inr (((⟨([]:List UInt8),(0:Int),(0:Int),[],[],[],[],[],[],[],[],[],(0:Int),(0:Int),(0:Int)⟩:Ah),x40.2.1,true)))))else(some (.inl ((IntKind.wrap .i64 (s1.1+1)),s1.2.1,s1.2.2.1,s1.2.2.2.1,s1.2.2.2.2.1,s1.2.2.2.2.2.1,s1.2.2.2.2.2.2.1,(s1.2.2.2.2.2.2.2.1++([x40.1]:List (List Int))),s1.2.2.2.2.2.2.2.2.1,s1.2.2.2.2.2.2.2.2.2.1,s1.2.2.2.2.2.2.2.2.2.2.1,s1.2.2.2.2.2.2.2.2.2.2.2.1,s1.2.2.2.2.2.2.2.2.2.2.2.2.1,s1.2.2.2.2.2.2.2.2.2.2.2.2.2.1,s1.2.2.2.2.2.2.2.2.2.2.2.2.2.2.1,s1.2.2.2.2.2.2.2.2.2.2.2.2.2.2.2))))else none))else(Option.bind (Option.bind (Uv (a0.getD s1.1.toNat default) ([67,82,85,73,83,69]:List UInt8)) fun r=>some r) fun x10=>(if((s1.2.2.2.2.2.2.2.2.1.length+1) * 24≤140737488355328)then(if x10.2.2=true then(some (.inr (.inr (((⟨([]:List UInt8),(0:Int),(0:Int),[],[],[],[],[],[],[],[],[],(0:Int),(0:Int),(0:Int)⟩:Ah),x10.2.1,true)))))else(some (.inl ((IntKind.wrap .i64 (s1.1+1)),s1.2.1,s1.2.2.1,s1.2.2.2.1,s1.2.2.2.2.1,s1.2.2.2.2.2.1,s1.2.2.2.2.2.2.1,s1.2.2.2.2.2.2.2.1,(s1.2.2.2.2.2.2.2.2.1++([x10.1]:List (List Int))),s1.2.2.2.2.2.2.2.2.2.1,s1.2.2.2.2.2.2.2.2.2.2.1,s1.2.2.2.2.2.2.2.2.2.2.2.1,s1.2.2.2.2.2.2.2.2.2.2.2.2.1,s1.2.2.2.2.2.2.2.2.2.2.2.2.2.1,s1.2.2.2.2.2.2.2.2.2.2.2.2.2.2.1,s1.2.2.2.2.2.2.2.2.2.2.2.2.2.2.2))))else none)))else none))else none))else none))))else none)else none)else(some (.inr (.inl (s1.2.1,s1.2.2.1,s1.2.2.2.1,s1.2.2.2.2.1,s1.2.2.2.2.2.1,s1.2.2.2.2.2.2.1,s1.2.2.2.2.2.2.2.1,s1.2.2.2.2.2.2.2.2.1,s1.2.2.2.2.2.2.2.2.2.1,s1.2.2.2.2.2.2.2.2.2.2.1,s1.2.2.2.2.2.2.2.2.2.2.2.1,s1.2.2.2.2.2.2.2.2.2.2.2.2.1,s1.2.2.2.2.2.2.2.2.2.2.2.2.2.1,s1.2.2.2.2.2.2.2.2.2.2.2.2.2.2.1,s1.2.2.2.2.2.2.2.2.2.2.2.2.2.2.2))))):Option ((Ot)⊕((P4)⊕(gi)))))
theorem E54_1 (a0:List A7):(yr a0).m=Ak (D7 a0) ((0:Int),([]:List UInt8),(0:Int),(0:Int),[],[],[],[],[],[],[],[],[],(0:Int),(0:Int),(0:Int)):=by kernel_rfl
theorem A18  (a0:List UInt8):m18 a0=((Option.bind (Option.bind (bn a0) fun r=>some r) fun x1=>(if(decide (0 < (x1.1.length:Int)))=true then(some ((⟨([]:List UInt8),(0:Int),(0:Int),[],[],[],[],[],[],[],[],[],(0:Int),(0:Int),(0:Int)⟩:Ah),x1.1))else(Option.bind (Option.bind (m54 x1.2) fun r=>some r) fun x4=>(if x4.2.2=true then(some ((⟨([]:List UInt8),(0:Int),(0:Int),[],[],[],[],[],[],[],[],[],(0:Int),(0:Int),(0:Int)⟩:Ah),([x4.2.1]:List A5)))else(some (x4.1,[])))))):Option (Gh)):=by kernel_rfl
abbrev TQ:=Int×P4
def tQ (i:Int) (g:Ah):TQ:=(i,g.Name,g.Empty,g.MaxFuel,g.Alts,g.Masses,g.Climb,g.ClimbFlow,g.Cruise,g.Descent,g.Idle,g.MaxSpeed,g.MinSpeed,g.Ref,g.Extra,g.Ceiling)
def Of {X:Type} (i:Nat) (r:Ah⊕A5):Option (TQ⊕(X⊕(gi))):=match r with
 | .inr d=>some (.inr (.inr (zP,d,true)))
 | .inl g=>some (.inl (tQ ((i+1:Nat):Int) g))
def pk:Ah×List A5→gi
 | (g,d :: r)=>(zP,d,true)
 | (g,[])=>(g,⟨0,0,0⟩,false)
section
variable {ls:List A7} (hl:ls.length≤300001) (ho:∀ L∈ls,Cv L)
include hl ho
theorem take_head (hpos:0 < ls.length) (g:Ah):D7 ls (tQ ((0:Nat):Int) g)=Of 0 (B3 (ls.getD 0 default) 0 g):=by
 generalize hL:ls.getD 0 default=L
 have hL':ls.getD ((0:Nat):Int).toNat default=L:=hL
 have O:Cv L:=hL ▸ ho _ (Ay hpos)
 obtain⟨n0,n1,n2,n3,n4,n5,n6⟩:=pq_n (L:=L)
 obtain⟨v,hw⟩:=Yj (w:=wPERF) O (s:=s0) (Nat.zero_le _)
 have k0:Jg [wPERF] ⟨L,0,1,⟨0,0,0⟩,false⟩=some (v,L.A8,L.A2,C7 (Qx L)):=hw
 have kN:Qq (8:Int) ⟨L,((Qx L).n:Int),(Qx L).l,(Qx L).d,(Qx L).d.Code != 0⟩=some ((L3 L).1,L.A8,L.A2,C7 (L3 L).2):=rname_eq O n0
 have k2:Bx 0 3000000000 ⟨L,((L3 L).2.n:Int),(L3 L).2.l,(L3 L).2.d,(L3 L).2.d.Code != 0⟩=some ((L4 L).1,L.A8,L.A2,C7 (L4 L).2):=Hx (by decide) (by decide) O n1
 have k3:Bx 0 3000000000 ⟨L,((L4 L).2.n:Int),(L4 L).2.l,(L4 L).2.d,(L4 L).2.d.Code != 0⟩=some ((L5 L).1,L.A8,L.A2,C7 (L5 L).2):=Hx (by decide) (by decide) O n2
 have k4:Bx 0 3000000000 ⟨L,((L5 L).2.n:Int),(L5 L).2.l,(L5 L).2.d,(L5 L).2.d.Code != 0⟩=some ((L6 L).1,L.A8,L.A2,C7 (L6 L).2):=Hx (by decide) (by decide) O n3
 have k5:Bx 0 3000000000 ⟨L,((L6 L).2.n:Int),(L6 L).2.l,(L6 L).2.d,(L6 L).2.d.Code != 0⟩=some ((L7 L).1,L.A8,L.A2,C7 (L7 L).2):=Hx (by decide) (by decide) O n4
 have kA:Kq ⟨L,((L7 L).2.n:Int),(L7 L).2.l,(L7 L).2.d,(L7 L).2.d.Code != 0⟩=some ((K5 L).1,L.A8,L.A2,C7 (K5 L).2):=vz O n5
 have kE:Hu ⟨L,((K5 L).2.n:Int),(K5 L).2.l,(K5 L).2.d,(K5 L).2.d.Code != 0⟩=some ((C5 L (K5 L).2).1,(C5 L (K5 L).2).2.Line,(C5 L (K5 L).2).2.Ai,(C5 L (K5 L).2).2.Code):=fb n6
 unfold B3
 rw[if_pos rfl]
 unfold tQ
 simp only[D7,hL']
 rw[if_pos (decide_eq_true (show ((0:Nat):Int) < (ls.length:Int) from by omega)),if_pos (by decide),if_pos (by omega),if_pos (show (((0:Nat):Int)==0)=true from rfl)]
 simp only[Ye,bs]
 rw[show ([80,69,82,70]:List UInt8)=wPERF from rfl,k0]
 simp only[bs,C7]
 rw[kN]
 simp only[bs,C7]
 rw[k2]
 simp only[bs,C7]
 rw[k3]
 simp only[bs,C7]
 rw[k4]
 simp only[bs,C7]
 rw[k5]
 simp only[bs,C7]
 rw[kA]
 simp only[bs,C7]
 rw[kE]
 simp only[bs]
 unfold Of Hj Zx
 simp only
 cases (C5 L (K5 L).2).1<;>rfl
theorem take_1 (h:1 < ls.length) (g:Ah):D7 ls (tQ ((1:Nat):Int) g)=Of 1 (B3 (ls.getD 1 default) 1 g):=by
 generalize hL:ls.getD 1 default=L
 have hL':ls.getD ((1:Nat):Int).toNat default=L:=hL
 have O:Cv L:=hL ▸ ho _ (Ay h)
 unfold B3
 rw[if_neg (by decide),if_pos rfl]
 unfold tQ
 simp only[D7,hL']
 rw[if_pos (decide_eq_true (show ((1:Nat):Int) < (ls.length:Int) from by omega)),if_pos (by decide),if_pos (by omega),if_neg (show ¬ (((1:Nat):Int)==0)=true from by decide),if_pos (show (((1:Nat):Int)==1)=true from rfl)]
 rw[show ([77,65,83,83,69,83]:List UInt8)=wMASSES from rfl,Ks O]
 simp only[bs]
 unfold Of Hj
 cases (Ff wMASSES L).2.1<;>rfl
theorem take_2 (h:2 < ls.length) (g:Ah):D7 ls (tQ ((2:Nat):Int) g)=Of 2 (B3 (ls.getD 2 default) 2 g):=by
 generalize hL:ls.getD 2 default=L
 have hL':ls.getD ((2:Nat):Int).toNat default=L:=hL
 have O:Cv L:=hL ▸ ho _ (Ay h)
 unfold B3
 rw[if_neg (by decide),if_neg (by decide),if_pos rfl]
 unfold tQ
 simp only[D7,hL']
 rw[if_pos (decide_eq_true (show ((2:Nat):Int) < (ls.length:Int) from by omega)),if_pos (by decide),if_pos (by omega),if_neg (show ¬ (((2:Nat):Int)==0)=true from by decide),if_neg (show ¬ (((2:Nat):Int)==1)=true from by decide),if_pos (show (((2:Nat):Int)==2)=true from rfl)]
 rw[show ([77,73,78,83,80,69,69,68]:List UInt8)=wMINSPEED from rfl,Ks O]
 simp only[bs]
 unfold Of Hj
 cases (Ff wMINSPEED L).2.1<;>rfl
omit hl ho in
theorem tm4 (i:Nat):Int.tmod (i:Int) (4:Int)=((i % 4:Nat):Int):=rfl
omit hl ho in
theorem ko {i:Nat}:((i:Int)==0)=decide (i=0):=by
 by_cases h:i=0
 ·rw[h];simp
 ·rw[decide_eq_false h,beq_eq_false_iff_ne];omega
omit hl ho in
theorem kq {i:Nat}:((i:Int)==1)=decide (i=1):=by
 by_cases h:i=1
 ·rw[h];simp
 ·rw[decide_eq_false h,beq_eq_false_iff_ne];omega
omit hl ho in
theorem kr {i:Nat}:((i:Int)==2)=decide (i=2):=by
 by_cases h:i=2
 ·rw[h];simp
 ·rw[decide_eq_false h,beq_eq_false_iff_ne];omega
theorem take_row {i:Nat} (h:i < ls.length) (h3:3≤i) (hm:i % 4=3) {g:Ah} (hz:lu g):D7 ls (tQ (i:Int) g)=Of i (B3 (ls.getD i default) i g):=by
 generalize hL:ls.getD i default=L
 have O:Cv L:=hL ▸ ho _ (Ay h)
 obtain⟨n0,n1,n2,n3,n4,n5⟩:=rq_n (k:=g.Alts.length) (L:=L)
 obtain⟨v,hw⟩:=Yj (w:=wROW) O (s:=s0) (Nat.zero_le _)
 have k0:Jg [wROW] ⟨L,0,1,⟨0,0,0⟩,false⟩=some (v,L.A8,L.A2,C7 (En L)):=hw
 have kF:We 3 ⟨L,((En L).n:Int),(En L).l,(En L).d,(En L).d.Code != 0⟩=some (((En L).fail L.A8 (En L).l 3).d.Line,((En L).fail L.A8 (En L).l 3).d.Ai,((En L).fail L.A8 (En L).l 3).d.Code,((En L).fail L.A8 (En L).l 3).d.Code != 0):=rFail_eq 3
 have kA:Kq ⟨L,((Gn g.Alts.length L).n:Int),(Gn g.Alts.length L).l,(Gn g.Alts.length L).d,(Gn g.Alts.length L).d.Code != 0⟩=some ((L8 g.Alts.length L).1,L.A8,L.A2,C7 (L8 g.Alts.length L).2):=vz O n1
 have k3:Bx 0 3000000000 ⟨L,((L8 g.Alts.length L).2.n:Int),(L8 g.Alts.length L).2.l,(L8 g.Alts.length L).2.d,(L8 g.Alts.length L).2.d.Code != 0⟩=some ((L9 g.Alts.length L).1,L.A8,L.A2,C7 (L9 g.Alts.length L).2):=Hx (by decide) (by decide) O n2
 have k4:Bx 0 3000000000 ⟨L,((L9 g.Alts.length L).2.n:Int),(L9 g.Alts.length L).2.l,(L9 g.Alts.length L).2.d,(L9 g.Alts.length L).2.d.Code != 0⟩=some ((La g.Alts.length L).1,L.A8,L.A2,C7 (La g.Alts.length L).2):=Hx (by decide) (by decide) O n3
 have k5:Bx 0 3000000000 ⟨L,((La g.Alts.length L).2.n:Int),(La g.Alts.length L).2.l,(La g.Alts.length L).2.d,(La g.Alts.length L).2.d.Code != 0⟩=some ((Gp g.Alts.length L).1,L.A8,L.A2,C7 (Gp g.Alts.length L).2):=Hx (by decide) (by decide) O n4
 have kE:Hu ⟨L,((Gp g.Alts.length L).2.n:Int),(Gp g.Alts.length L).2.l,(Gp g.Alts.length L).2.d,(Gp g.Alts.length L).2.d.Code != 0⟩=some ((C5 L (Gp g.Alts.length L).2).1,(C5 L (Gp g.Alts.length L).2).2.Line,(C5 L (Gp g.Alts.length L).2).2.Ai,(C5 L (Gp g.Alts.length L).2).2.Code):=fb n5
 unfold B3
 rw[if_neg (by omega),if_neg (by omega),if_neg (by omega),if_pos hm]
 unfold tQ
 simp only[D7,Int.toNat_natCast,hL]
 rw[if_pos (decide_eq_true (show (i:Int) < (ls.length:Int) from by omega)),if_pos (by omega),if_pos (by omega),ko,kq,kr,if_neg (by rw[decide_eq_true_eq];omega),if_neg (by rw[decide_eq_true_eq];omega),if_neg (by rw[decide_eq_true_eq];omega),if_pos (by decide),tm4,hm,if_pos (show (((3:Nat):Int)==3)=true from rfl)]
 simp only[Ye,bs]
 rw[show ([82,79,87]:List UInt8)=wROW from rfl,k0]
 simp only[bs,C7]
 rw[wn (by omega)]
 unfold Of Hj
 by_cases h12:g.Alts.length=12
 ·rw[if_pos (show ((g.Alts.length:Int)==(12:Int))=true from by simp[h12]),kF]
  have e1:(En L).fail L.A8 (En L).l 3=Gn g.Alts.length L:=by unfold Gn;rw[if_pos h12]
  rw[e1]
  simp only[bs]
  rw[show ((En L).n:Int)=((Gn g.Alts.length L).n:Int) from by rw[← e1,D6],show (En L).l=(Gn g.Alts.length L).l from by rw[← e1,Gi]]
  rw[kA]
  simp only[bs,C7]
  rw[if_pos (Es hz.1)]
  simp only[bs]
  rw[k3]
  simp only[bs,C7]
  rw[if_pos (Es hz.2.1)]
  simp only[bs]
  rw[k4]
  simp only[bs,C7]
  rw[if_pos (Es hz.2.2.1)]
  simp only[bs]
  rw[k5]
  simp only[bs,C7]
  rw[if_pos (Es hz.2.2.2.1)]
  simp only[bs]
  rw[kE]
  simp only[bs]
  unfold R7
  simp only
  cases (C5 L (Gp g.Alts.length L).2).1<;>rfl
 ·rw[if_neg (show ¬ ((g.Alts.length:Int)==(12:Int))=true from by simp;omega)]
  rw[show En L=Gn g.Alts.length L from by unfold Gn;rw[if_neg h12]]
  rw[kA]
  simp only[bs,C7]
  rw[if_pos (Es hz.1)]
  simp only[bs]
  rw[k3]
  simp only[bs,C7]
  rw[if_pos (Es hz.2.1)]
  simp only[bs]
  rw[k4]
  simp only[bs,C7]
  rw[if_pos (Es hz.2.2.1)]
  simp only[bs]
  rw[k5]
  simp only[bs,C7]
  rw[if_pos (Es hz.2.2.2.1)]
  simp only[bs]
  rw[kE]
  simp only[bs]
  unfold R7
  simp only
  cases (C5 L (Gp g.Alts.length L).2).1<;>rfl
theorem take_c {i:Nat} (h:i < ls.length) (h3:3≤i) (hm:i % 4=0) {g:Ah} (hz:lu g):D7 ls (tQ (i:Int) g)=Of i (B3 (ls.getD i default) i g):=by
 generalize hL:ls.getD i default=L
 have O:Cv L:=hL ▸ ho _ (Ay h)
 unfold B3
 rw[if_neg (by omega),if_neg (by omega),if_neg (by omega),if_neg (by omega),if_pos hm]
 unfold tQ
 simp only[D7,Int.toNat_natCast,hL]
 rw[if_pos (decide_eq_true (show (i:Int) < (ls.length:Int) from by omega)),if_pos (by omega),if_pos (by omega),ko,kq,kr,if_neg (by rw[decide_eq_true_eq];omega),if_neg (by rw[decide_eq_true_eq];omega),if_neg (by rw[decide_eq_true_eq];omega),if_pos (by decide),tm4,hm,if_neg (show ¬ (((0:Nat):Int)==3)=true from by decide),if_pos (by decide),if_pos (show (((0:Nat):Int)==0)=true from rfl)]
 rw[show ([67,76,73,77,66]:List UInt8)=wCLIMB from rfl,Ks O]
 simp only[bs]
 rw[wn (by omega),if_pos (F1 hz.2.2.2.2.1)]
 unfold Of Hj
 cases (Ff wCLIMB L).2.1<;>rfl
theorem take_f {i:Nat} (h:i < ls.length) (h3:3≤i) (hm:i % 4=1) {g:Ah} (hz:lu g):D7 ls (tQ (i:Int) g)=Of i (B3 (ls.getD i default) i g):=by
 generalize hL:ls.getD i default=L
 have O:Cv L:=hL ▸ ho _ (Ay h)
 unfold B3
 rw[if_neg (by omega),if_neg (by omega),if_neg (by omega),if_neg (by omega),if_neg (by omega),if_pos hm]
 unfold tQ
 simp only[D7,Int.toNat_natCast,hL]
 rw[if_pos (decide_eq_true (show (i:Int) < (ls.length:Int) from by omega)),if_pos (by omega),if_pos (by omega),ko,kq,kr,if_neg (by rw[decide_eq_true_eq];omega),if_neg (by rw[decide_eq_true_eq];omega),if_neg (by rw[decide_eq_true_eq];omega),if_pos (by decide),tm4,hm,if_neg (show ¬ (((1:Nat):Int)==3)=true from by decide),if_pos (by decide),if_neg (show ¬ (((1:Nat):Int)==0)=true from by decide),if_pos (by decide),if_pos (show (((1:Nat):Int)==1)=true from rfl)]
 rw[show ([67,76,73,77,66,70,76,79,87]:List UInt8)=wCLIMBFLOW from rfl,Ks O]
 simp only[bs]
 rw[wn (by omega),if_pos (F1 hz.2.2.2.2.2.1)]
 unfold Of Hj
 cases (Ff wCLIMBFLOW L).2.1<;>rfl
theorem take_u {i:Nat} (h:i < ls.length) (h3:3≤i) (hm:i % 4=2) {g:Ah} (hz:lu g):D7 ls (tQ (i:Int) g)=Of i (B3 (ls.getD i default) i g):=by
 generalize hL:ls.getD i default=L
 have O:Cv L:=hL ▸ ho _ (Ay h)
 unfold B3
 rw[if_neg (by omega),if_neg (by omega),if_neg (by omega),if_neg (by omega),if_neg (by omega),if_neg (by omega)]
 unfold tQ
 simp only[D7,Int.toNat_natCast,hL]
 rw[if_pos (decide_eq_true (show (i:Int) < (ls.length:Int) from by omega)),if_pos (by omega),if_pos (by omega),ko,kq,kr,if_neg (by rw[decide_eq_true_eq];omega),if_neg (by rw[decide_eq_true_eq];omega),if_neg (by rw[decide_eq_true_eq];omega),if_pos (by decide),tm4,hm,if_neg (show ¬ (((2:Nat):Int)==3)=true from by decide),if_pos (by decide),if_neg (show ¬ (((2:Nat):Int)==0)=true from by decide),if_pos (by decide),if_neg (show ¬ (((2:Nat):Int)==1)=true from by decide)]
 rw[show ([67,82,85,73,83,69]:List UInt8)=wCRUISE from rfl,Ks O]
 simp only[bs]
 rw[wn (by omega),if_pos (F1 hz.2.2.2.2.2.2)]
 unfold Of Hj
 cases (Ff wCRUISE L).2.1<;>rfl
theorem take_step {i:Nat} (h:i < ls.length) {g:Ah} (I:OkQ i g):D7 ls (tQ (i:Int) g)=Of i (B3 (ls.getD i default) i g):=by
 have hz:=I.sz (by omega)
 rcases Nat.lt_or_ge i 3 with h3 | h3
 ·match i,h3 with
  | 0,_=>exact take_head hl ho h g
  | 1,_=>exact take_1 hl ho h g
  | 2,_=>exact take_2 hl ho h g
 ·have:i % 4 < 4:=Nat.mod_lt _ (by decide)
  rcases (show i % 4=3∨i % 4=0∨i % 4=1∨i % 4=2 from by omega) with hm | hm | hm | hm
  ·exact take_row hl ho h h3 hm hz
  ·exact take_c hl ho h h3 hm hz
  ·exact take_f hl ho h h3 hm hz
  ·exact take_u hl ho h h3 hm hz
theorem jv:∀ (k i:Nat) (g:Ah),i+k=ls.length→OkQ i g→Ak (D7 ls) (tQ (i:Int) g)=match Dv ls k i g with
  | .inr d=>some (.inr (zP,d,true))
  | .inl g'=>some (.inl (tQ (ls.length:Int) g').2)
 | 0,i,g,hi,I=>by
  obtain rfl:i=ls.length:=by omega
  refine Bh ?_
  unfold tQ
  simp only[D7]
  rw[if_neg (by simp)]
 | k+1,i,g,hi,I=>by
  have hlt:i < ls.length:=by omega
  have hs:=take_step hl ho hlt I
  have hr:Dv ls (k+1) i g=match B3 (ls.getD i default) i g with | .inr d=>(Sum.inr d:Ah⊕A5) | .inl g'=>Dv ls k (i+1) g':=rfl
  rw[hr]
  cases he:B3 (ls.getD i default) i g with
  | inr d =>
   rw[he]at hs
   exact Bh hs
  | inl g' =>
   rw[he]at hs
   exact Bm hs (jv k (i+1) g' (by omega) (fg (ho _ (Ay hlt)) I he))
omit hl ho in
theorem md (d:A5):Lh ls (.inr d)=(zP,[d]):=rfl
omit hl ho in
theorem Nt (g:Ah):Lh ls (.inl g)=if ls.length < 7∨ls.length % 4≠3 then(zP,[M6 ls])else if Cw g≠0 then(zP,[⟨(ls.getD 0 default).A8,((ls.getD 0 default).A2.getD 0 default).Ai,Cw g⟩])else(g,[]):=rfl
omit hl ho in
theorem V8 (d:A5):pk (zP,[d])=(zP,d,true):=rfl
omit hl ho in
theorem outQ_0 (g:Ah):pk (g,[])=(g,⟨0,0,0⟩,false):=rfl
theorem end_r (hpos:0 < ls.length) {g:Ah} (I:OkQ ls.length g):(kx ls (tQ (ls.length:Int) g).2).m=some (pk (Lh ls (.inl g))):=by
 rw[M54_2,Nt]
 rw[if_pos (by intro _;decide),tm4]
 have O:=ho _ (Ay (l:=ls) (i:=ls.length - 1) (by omega))
 have O0:=ho _ (Ay (l:=ls) (i:=0) (by omega))
 have hne:=O0.ne
 by_cases hc:ls.length < 7∨ls.length % 4≠3
 ·have e:IntKind.wrap .i64 ((ls.length:Int) - 1)=((ls.length - 1:Nat):Int):=by rw[B2 (by omega) (by omega)];omega
  rw[if_pos hc,if_pos (show ((decide ((ls.length:Int) < (7:Int))) || (((ls.length % 4:Nat):Int) != 3))=true from by
   rcases hc with hc | hc
   ·rw[decide_eq_true (show (ls.length:Int) < 7 from by omega)];rfl
   ·rw[show ((((ls.length % 4:Nat):Int)) != 3)=true from by rw[bne_iff_ne];omega];simp),e,if_pos (by omega),if_pos (by omega),Int.toNat_natCast,B2 (by have:=O.num;omega) (by have:=O.num;omega),V8]
  unfold M6
  rw[if_pos hpos]
  rfl
 ·rw[if_neg hc,if_neg (show ¬ ((decide ((ls.length:Int) < (7:Int))) || (((ls.length % 4:Nat):Int) != 3))=true from by
   rw[decide_eq_false (show ¬ (ls.length:Int) < 7 from by omega),show ((((ls.length % 4:Nat):Int)) != 3)=false from by rw[bne_eq_false_iff_eq];omega];decide)]
  have hck:=chk_r (cj (by omega) I)
  unfold tQ
  simp only
  rw[show (⟨g.Name,g.Empty,g.MaxFuel,g.Alts,g.Masses,g.Climb,g.ClimbFlow,g.Cruise,g.Descent,g.Idle,g.MaxSpeed,g.MinSpeed,g.Ref,g.Extra,g.Ceiling⟩:Ah)=g from rfl,hck]
  simp only[bs]
  generalize Cw g=c
  by_cases hz:c=0
  ·rw[if_neg (show ¬ (c != 0)=true from by simpa using hz),if_neg (fun h=>h hz),outQ_0]
  ·rw[if_pos (show (c != 0)=true from by simpa using hz),if_pos hz,V8]
   rw[if_pos (by omega),if_pos (by omega),if_pos (by omega),if_pos (by omega),if_pos (by omega),if_pos (by show (0:Int) < (((ls.getD 0 default).A2.length:Nat):Int);omega)]
   rfl
omit hl ho in
theorem take_nil:m54 []=some (pk (Lh [] (Dv [] ([]:List A7).length 0 zP))):=by
 rw[show Dv [] ([]:List A7).length 0 zP=.inl zP from rfl,Nt,if_pos (Or.inl (by decide)),V8,M54,if_pos (show ((([]:List A7).length:Int)==(0:Int))=true from rfl)]
 rfl
theorem take_eq31:m54 ls=some (pk (Lh ls (Dv ls ls.length 0 zP))):=by
 by_cases h0:ls.length=0
 ·have hnil:ls=[]:=List.length_eq_zero_iff.1 h0
  subst hnil
  exact take_nil
 ·have hpos:0 < ls.length:=by omega
  rw[M54]
  rw[if_neg (show ¬ ((ls.length:Int)==(0:Int))=true from by rw[beq_iff_eq];omega)]
  simp only[bs,ol]
  rw[E54_1]
  have lp:=jv hl ho ls.length 0 zP (Nat.zero_add _) zP_ok
  rw[show ((0:Int),([]:List UInt8),(0:Int),(0:Int),([]:List Int),([]:List Int),([]:List (List Int)),([]:List (List Int)),([]:List (List Int)),([]:List Int),([]:List Int),([]:List Int),([]:List Int),(0:Int),(0:Int),(0:Int))=tQ ((0:Nat):Int) zP from rfl,lp]
  cases hr:Dv ls ls.length 0 zP with
  | inr d =>
   rw[md,V8]
   simp only[bs,ol]
   rfl
  | inl g =>
   have I:=fd ho ls.length 0 (by omega) zP_ok hr
   rw[Nat.zero_add]at I
   simp only[bs,ol]
   exact end_r hl ho hpos I
end
theorem finQ_two (ls:List A7) (r:Ah⊕A5):(∃ d,Lh ls r=(zP,[d]))∨(∃ g,Lh ls r=(g,[])∧r=.inl g∧Cw g=0):=by
 cases r with
 | inr d=>exact .inl ⟨d,md d⟩
 | inl g =>
  rw[Nt]
  split
  ·exact .inl ⟨_,rfl⟩
  ·split
   ·exact .inl ⟨_,rfl⟩
   ·rename_i h
    exact .inr ⟨g,rfl,rfl,by
     by_cases hz:Cw g=0
     ·exact hz
     ·exact absurd hz h⟩
theorem Parse_r31 (s:List UInt8):m18 s=some (Hk s):=by
 rw[A18]
 simp only[Read_r,bs]
 unfold Hk
 obtain⟨hl,ho⟩:=Yc s
 generalize Dh s=R at hl ho
 obtain⟨ds,ls⟩:=R
 simp only at hl ho ⊢
 by_cases hd:0 < ds.length
 ·rw[if_pos (decide_eq_true (show (0:Int) < (ds.length:Int) from by omega)),if_pos hd]
  rfl
 ·rw[if_neg (show ¬ decide ((0:Int) < (ds.length:Int))=true from fun e=>hd (by have:=of_decide_eq_true e;omega)),if_neg hd]
  rw[take_eq31 hl ho]
  rcases finQ_two ls (Dv ls ls.length 0 zP) with⟨d,h⟩ | ⟨g,h,_⟩
  ·rw[h,V8]
   simp only[bs]
   rw[if_pos trivial]
   rfl
  ·rw[h,outQ_0]
   simp only[bs]
   rw[if_neg (by decide)]
end Go.Av.Txs
set_option maxRecDepth 100000
namespace Go.Av.Txs
open Go.Av
theorem A40o0  (a0:List UInt8):bo a0=((Option.bind (Option.bind (l5) fun r=>some r) fun x1=>(Option.bind ((if a0.length≤140737488355328 then some ()else none)) fun(x2:(Unit))=>(some ()))):Option (Unit)):=by kernel_rfl
theorem A40o1  (a0:List UInt8) (a1:List Int):Fg a0 a1=((Option.bind (Option.bind (zw a1) fun r=>some r) fun x1=>(Option.bind ((if a1.length+a0.length≤140737488355328 then some ()else none)) fun(x2:(Unit))=>(some ()))):Option (Unit)):=by kernel_rfl
noncomputable abbrev lo42o0_1 (a1:List Int):(Jq)→Option ((Jq)⊕(((List Int))⊕((List Int)))):=(fun(s1:Jq)=>((if(decide (s1.1 < (a1.length:Int)))=true then(if(0≤s1.1)then(if(s1.1 < (a1.length:Int))then(Option.bind (((Gk (a1.getD s1.1.toNat default) (10:Int)).bind fun r4_0=>(if([32]:List UInt8).length+r4_0.length≤9223372036854775807 then((Fg (([32]:List UInt8)++r4_0) s1.2).bind fun r4_1=>some (r4_0,r4_1))else none))) fun(x4:(X1))=>(some (.inl ((IntKind.wrap .i64 (s1.1+1)),(s1.2++Al (([32]:List UInt8)++x4.1))))))else none)else none)else(some (.inr (.inl s1.2)))):Option ((Jq)⊕(((List Int))⊕((List Int))))))
theorem A42o0  (a0:List UInt8) (a1 a2:List Int):Hs a0 a1 a2=((Option.bind (Option.bind (Option.bind (Fg a0 a2) fun r=>some r) fun x0=>(some (.inl ()))) (Ad fun(_:Unit)=>(Option.bind (Option.bind (some (.inl ())) (Ad fun(_:Unit)=>(Ak (lo42o0_1 a1) ((0:Int),(a2++Al a0))))) (Ad fun(y2:(List Int))=>(Option.bind (Option.bind (Fg ([10]:List UInt8) y2) fun r=>some r) fun x6=>(some (y2++Al ([10]:List UInt8)))))))):Option ((List Int))):=by kernel_rfl
noncomputable abbrev lo42o1_1 (a1:List Int):(Jq)→Option ((Jq)⊕(((List Int))⊕((List Int)))):=(fun(s1:Jq)=>((if(decide (s1.1 < (a1.length:Int)))=true then(if(0≤s1.1)then(if(s1.1 < (a1.length:Int))then(Option.bind (((Gk (a1.getD s1.1.toNat default) (10:Int)).bind fun r4_0=>(if([32]:List UInt8).length+r4_0.length≤9223372036854775807 then((Fg (([32]:List UInt8)++r4_0) s1.2).bind fun r4_1=>some (r4_0,r4_1))else none))) fun(x4:(X1))=>(some (.inl ((IntKind.wrap .i64 (s1.1+1)),(s1.2++Al (([32]:List UInt8)++x4.1))))))else none)else none)else(some (.inr (.inl s1.2)))):Option ((Jq)⊕(((List Int))⊕((List Int))))))
theorem A42o1  (a0:List UInt8) (a1 a2:List Int):bp a0 a1 a2=((Option.bind (Option.bind (Option.bind (Fg a0 a2) fun r=>some r) fun x0=>(some (.inl ()))) (Ad fun(_:Unit)=>(Option.bind (Option.bind (some (.inl ())) (Ad fun(_:Unit)=>(Ak (lo42o1_1 a1) ((0:Int),(a2++Al a0))))) (Ad fun(y2:(List Int))=>(Option.bind (Option.bind (Fg ([10]:List UInt8) y2) fun r=>some r) fun x6=>(some (y2++Al ([10]:List UInt8)))))))):Option ((List Int))):=by kernel_rfl
noncomputable abbrev ac (a0:Ah):(Jq)→Option ((Jq)⊕(((List Int))⊕(Dr))):=(fun(s7:Jq)=>((Option.bind (some (.inl ())) (Ad fun(_:Unit)=>(Option.bind (if(decide (s7.1 < (a0.Alts.length:Int)))=true then(some (.inl ()))else(some (.inr (.inr (.inl s7.2))))) (Ad fun(_:Unit)=>(Option.bind (Option.bind (if(0≤s7.1)then(if(s7.1 < (a0.Alts.length:Int))then(some (.inl ()))else none)else none) (Ad fun(_:Unit)=>(Option.bind (Option.bind (Option.bind (m25 (a0.Alts.getD s7.1.toNat default)) fun r=>some r) fun x18=>(some (.inl x18.1))) (Ad fun(y8:(List UInt8))=>(Option.bind (Option.bind ((if([82,79,87,32]:List UInt8).length+y8.length≤9223372036854775807 then(if 0≤s7.1 then(if s7.1 < (a0.Descent.length:Int)then(if 0≤s7.1 then(if s7.1 < (a0.Idle.length:Int)then(if 0≤s7.1 then(if s7.1 < (a0.MaxSpeed.length:Int)then((bp (([82,79,87,32]:List UInt8)++y8) ([(a0.Descent.getD s7.1.toNat default),(a0.Idle.getD s7.1.toNat default),(a0.MaxSpeed.getD s7.1.toNat default)]:List Int) s7.2).bind fun r19_0=>some r19_0)else none)else none)else none)else none)else none)else none)else none)) fun(x19:((List Int)))=>(some (.inl x19))) (Ad fun(y9:(List Int))=>(Option.bind (Option.bind ((if 0≤s7.1 then(if s7.1 < (a0.Climb.length:Int)then((Hs ([67,76,73,77,66]:List UInt8) (a0.Climb.getD s7.1.toNat default) y9).bind fun r20_0=>some r20_0)else none)else none)) fun(x20:((List Int)))=>(some (.inl x20))) (Ad fun(y10:(List Int))=>(Option.bind (Option.bind ((if 0≤s7.1 then(if s7.1 < (a0.ClimbFlow.length:Int)then((Hs ([67,76,73,77,66,70,76,79,87]:List UInt8) (a0.ClimbFlow.getD s7.1.toNat default) y10).bind fun r21_0=>some r21_0)else none)else none)) fun(x21:((List Int)))=>(some (.inl x21))) (Ad fun(y11:(List Int))=>(Option.bind ((if 0≤s7.1 then(if s7.1 < (a0.Cruise.length:Int)then((Hs ([67,82,85,73,83,69]:List UInt8) (a0.Cruise.getD s7.1.toNat default) y11).bind fun r22_0=>some r22_0)else none)else none)) fun(x22:((List Int)))=>(some (.inl x22))))))))))))) (Ad fun(y12:(List Int))=>(some (.inl ((IntKind.wrap .i64 (s7.1+1)),y12))))))))):Option ((Jq)⊕(((List Int))⊕(Dr)))))
noncomputable abbrev Um (a0:Ah):(Oo)→Option ((Oo)⊕(((List (List UInt8)))⊕(Dr))):=(fun(s2:Oo)=>((if(decide (s2.2 < 4))=true then(if(0≤s2.2)then(if(s2.2 < (([a0.Empty,a0.MaxFuel,a0.Ref,a0.Extra]:List Int).length:Int))then(Option.bind (((Gk (([a0.Empty,a0.MaxFuel,a0.Ref,a0.Extra]:List Int).getD s2.2.toNat default) (10:Int)).bind fun r10_0=>(if(s2.1.length+1) * 16≤140737488355328 then some r10_0 else none))) fun(x10:((List UInt8)))=>(some (.inl ((s2.1++([x10]:List (List UInt8))),(IntKind.wrap .i64 (s2.2+1))))))else none)else none)else(some (.inr (.inl s2.1)))):Option ((Oo)⊕(((List (List UInt8)))⊕(Dr)))))
theorem A14  (a0:Ah):m14 a0=((Option.bind (Option.bind (Option.bind (Pc a0) fun r=>some r) fun x1=>(if(x1 != 0)=true then(some (.inr ((([]:List UInt8),x1))))else(Option.bind (Option.bind (m25 a0.Ceiling) fun r=>some r) fun x5=>(some (.inl x5.1))))) (Ad fun(y1:(List UInt8))=>(Option.bind (Option.bind (some (.inl ())) (Ad fun(_:Unit)=>(Ak (Um a0) (([([80,69,82,70]:List UInt8),a0.Name]:List (List UInt8)),(0:Int))))) (Ad fun(y3:(List (List UInt8)))=>(Option.bind (Option.bind ((if(y3.length+1) * 16≤140737488355328 then((m41 (y3++([y1]:List (List UInt8))) ([32]:List UInt8)).bind fun r12_0=>(if r12_0.length+([10]:List UInt8).length≤9223372036854775807 then((bo (r12_0++([10]:List UInt8))).bind fun r12_1=>some (r12_0,r12_1))else none))else none)) fun(x12:(X1))=>(some (.inl (Al (x12.1++([10]:List UInt8)))))) (Ad fun(y4:(List Int))=>(Option.bind (Option.bind (Option.bind (Hs ([77,65,83,83,69,83]:List UInt8) a0.Masses y4) fun r=>some r) fun x13=>(some (.inl x13))) (Ad fun(y5:(List Int))=>(Option.bind (Option.bind (Option.bind (Hs ([77,73,78,83,80,69,69,68]:List UInt8) a0.MinSpeed y5) fun r=>some r) fun x14=>(some (.inl x14))) (Ad fun(y6:(List Int))=>(Option.bind (Option.bind (some (.inl ())) (Ad fun(_:Unit)=>(Ak (ac a0) ((0:Int),y6)))) (Ad fun(y13:(List Int))=>(Option.bind (Option.bind (ey y13) fun r=>some r) fun x24=>(some (x24,(0:Int)))))))))))))))):Option (Dr)):=by kernel_rfl
noncomputable abbrev Un (a1:List Int):(Dr)→Option ((Dr)⊕(((List UInt8))⊕((List UInt8)))):=(fun(s1:Dr)=>((if(decide (s1.2 < (a1.length:Int)))=true then(if(0≤s1.2)then(if(s1.2 < (a1.length:Int))then(Option.bind (((U0 (a1.getD s1.2.toNat default)).bind fun r5_0=>(if([32]:List UInt8).length+r5_0.length≤9223372036854775807 then(if s1.1.length+(([32]:List UInt8)++r5_0).length≤9223372036854775807 then some r5_0 else none)else none))) fun(x5:((List UInt8)))=>(some (.inl ((s1.1++(([32]:List UInt8)++x5)),(IntKind.wrap .i64 (s1.2+1))))))else none)else none)else(some (.inr (.inl s1.1)))):Option ((Dr)⊕(((List UInt8))⊕((List UInt8))))))
theorem A44  (a0:List UInt8) (a1:List Int):O3 a0 a1=((Option.bind (some (.inl ())) (Ad fun(_:Unit)=>(Option.bind (Option.bind (some (.inl ())) (Ad fun(_:Unit)=>(Ak (Un a1) (a0,(0:Int))))) (Ad fun(y2:(List UInt8))=>(if(y2.length+([10]:List UInt8).length≤9223372036854775807)then(some (y2++([10]:List UInt8)))else none))))):Option ((List UInt8))):=by kernel_rfl
noncomputable abbrev ae (a0:Ah):(Dr)→Option ((Dr)⊕(((List UInt8))⊕(Dr))):=(fun(s2:Dr)=>((if(decide (s2.2 < (a0.Alts.length:Int)))=true then(if(0≤s2.2)then(if(s2.2 < (a0.Alts.length:Int))then(Option.bind (Option.bind (m29 (a0.Alts.getD s2.2.toNat default)) fun r=>some r) fun x10=>(Option.bind ((if([82,79,87,32]:List UInt8).length+x10.1.length≤9223372036854775807 then(if 0≤s2.2 then(if s2.2 < (a0.Descent.length:Int)then(if 0≤s2.2 then(if s2.2 < (a0.Idle.length:Int)then(if 0≤s2.2 then(if s2.2 < (a0.MaxSpeed.length:Int)then((O3 ([]:List UInt8) ([(a0.Descent.getD s2.2.toNat default),(a0.Idle.getD s2.2.toNat default),(a0.MaxSpeed.getD s2.2.toNat default)]:List Int)).bind fun r11_0=>(if(([82,79,87,32]:List UInt8)++x10.1).length+r11_0.length≤9223372036854775807 then(if s2.1.length+((([82,79,87,32]:List UInt8)++x10.1)++r11_0).length≤9223372036854775807 then some r11_0 else none)else none))else none)else none)else none)else none)else none)else none)else none)) fun(x11:((List UInt8)))=>(Option.bind ((if 0≤s2.2 then(if s2.2 < (a0.Climb.length:Int)then((O3 ([67,76,73,77,66]:List UInt8) (a0.Climb.getD s2.2.toNat default)).bind fun r12_0=>(if 0≤s2.2 then(if s2.2 < (a0.ClimbFlow.length:Int)then((O3 ([67,76,73,77,66,70,76,79,87]:List UInt8) (a0.ClimbFlow.getD s2.2.toNat default)).bind fun r12_1=>(if r12_0.length+r12_1.length≤9223372036854775807 then(if 0≤s2.2 then(if s2.2 < (a0.Cruise.length:Int)then((O3 ([67,82,85,73,83,69]:List UInt8) (a0.Cruise.getD s2.2.toNat default)).bind fun r12_2=>(if(r12_0++r12_1).length+r12_2.length≤9223372036854775807 then(if(s2.1++((([82,79,87,32]:List UInt8)++x10.1)++x11)).length+((r12_0++r12_1)++r12_2).length≤9223372036854775807 then some (r12_0,r12_1,r12_2)else none)else none))else none)else none)else none))else none)else none))else none)else none)) fun(x12:(P43))=>(some (.inl (((s2.1++((([82,79,87,32]:List UInt8)++x10.1)++x11))++((x12.1++x12.2.1)++x12.2.2)),(IntKind.wrap .i64 (s2.2+1))))))))else none)else none)else(some (.inr (.inl s2.1)))):Option ((Dr)⊕(((List UInt8))⊕(Dr)))))
theorem A15  (a0:Ah):m15 a0=((Option.bind (Option.bind (Option.bind (tz a0) fun r=>some r) fun x1=>(if(x1 != 0)=true then(some (.inr ((([]:List UInt8),x1))))else(Option.bind (Option.bind (m29 a0.Ceiling) fun r=>some r) fun x4=>(Option.bind ((if([80,69,82,70,32]:List UInt8).length+a0.Name.length≤9223372036854775807 then(if(([80,69,82,70,32]:List UInt8)++a0.Name).length+([32]:List UInt8).length≤9223372036854775807 then((U0 a0.Empty).bind fun r5_0=>(if((([80,69,82,70,32]:List UInt8)++a0.Name)++([32]:List UInt8)).length+r5_0.length≤9223372036854775807 then(if(((([80,69,82,70,32]:List UInt8)++a0.Name)++([32]:List UInt8))++r5_0).length+([32]:List UInt8).length≤9223372036854775807 then((U0 a0.MaxFuel).bind fun r5_1=>(if((((([80,69,82,70,32]:List UInt8)++a0.Name)++([32]:List UInt8))++r5_0)++([32]:List UInt8)).length+r5_1.length≤9223372036854775807 then(if(((((([80,69,82,70,32]:List UInt8)++a0.Name)++([32]:List UInt8))++r5_0)++([32]:List UInt8))++r5_1).length+([32]:List UInt8).length≤9223372036854775807 then((U0 a0.Ref).bind fun r5_2=>(if((((((([80,69,82,70,32]:List UInt8)++a0.Name)++([32]:List UInt8))++r5_0)++([32]:List UInt8))++r5_1)++([32]:List UInt8)).length+r5_2.length≤9223372036854775807 then(if(((((((([80,69,82,70,32]:List UInt8)++a0.Name)++([32]:List UInt8))++r5_0)++([32]:List UInt8))++r5_1)++([32]:List UInt8))++r5_2).length+([32]:List UInt8).length≤9223372036854775807 then((U0 a0.Extra).bind fun r5_3=>(if((((((((([80,69,82,70,32]:List UInt8)++a0.Name)++([32]:List UInt8))++r5_0)++([32]:List UInt8))++r5_1)++([32]:List UInt8))++r5_2)++([32]:List UInt8)).length+r5_3.length≤9223372036854775807 then(if(((((((((([80,69,82,70,32]:List UInt8)++a0.Name)++([32]:List UInt8))++r5_0)++([32]:List UInt8))++r5_1)++([32]:List UInt8))++r5_2)++([32]:List UInt8))++r5_3).length+([32]:List UInt8).length≤9223372036854775807 then(if((((((((((([80,69,82,70,32]:List UInt8)++a0.Name)++([32]:List UInt8))++r5_0)++([32]:List UInt8))++r5_1)++([32]:List UInt8))++r5_2)++([32]:List UInt8))++r5_3)++([32]:List UInt8)).length+x4.1.length≤9223372036854775807 then(if(((((((((((([80,69,82,70,32]:List UInt8)++a0.Name)++([32]:List UInt8))++r5_0)++([32]:List UInt8))++r5_1)++([32]:List UInt8))++r5_2)++([32]:List UInt8))++r5_3)++([32]:List UInt8))++x4.1).length+([10]:List UInt8).length≤9223372036854775807 then some (r5_0,r5_1,r5_2,r5_3)else none)else none)else none)else none))else none)else none))else none)else none))else none)else none))else none)else none)) fun(x5:((List UInt8)×P43))=>(Option.bind (((O3 ([77,65,83,83,69,83]:List UInt8) a0.Masses).bind fun r6_0=>((O3 ([77,73,78,83,80,69,69,68]:List UInt8) a0.MinSpeed).bind fun r6_1=>(if r6_0.length+r6_1.length≤9223372036854775807 then(if((((((((((((([80,69,82,70,32]:List UInt8)++a0.Name)++([32]:List UInt8))++x5.1)++([32]:List UInt8))++x5.2.1)++([32]:List UInt8))++x5.2.2.1)++([32]:List UInt8))++x5.2.2.2)++([32]:List UInt8))++x4.1)++([10]:List UInt8)).length+(r6_0++r6_1).length≤9223372036854775807 then some (r6_0,r6_1)else none)else none)))) fun(x6:(L2))=>(some (.inl (((((((((((((([80,69,82,70,32]:List UInt8)++a0.Name)++([32]:List UInt8))++x5.1)++([32]:List UInt8))++x5.2.1)++([32]:List UInt8))++x5.2.2.1)++([32]:List UInt8))++x5.2.2.2)++([32]:List UInt8))++x4.1)++([10]:List UInt8))++(x6.1++x6.2))))))))) (Ad fun(y1:(List UInt8))=>(Option.bind (Option.bind (some (.inl ())) (Ad fun(_:Unit)=>(Ak (ae a0) (y1,(0:Int))))) (Ad fun(y3:(List UInt8))=>(some (y3,(0:Int))))))):Option (Dr)):=by kernel_rfl
theorem U7 (a b:List UInt8):Al (a++b)=Al a++Al b:=by simp[Al]
theorem U8 (a:List UInt8):(Al a).length=a.length:=by simp[Al]
def E9 (l:List Int):List UInt8:=l.flatMap fun n=>32 :: Lib.itoa n
def Ca (w:List UInt8) (l:List Int):List UInt8:=w++E9 l++[10]
theorem cg {l:List Int} {i:Nat} (h:i < l.length):E9 (l.take (i+1))=E9 (l.take i)++(32 :: Lib.itoa (l.getD i default)):=by
 unfold E9
 rw[List.take_add_one,List.getElem?_eq_getElem h,List.flatMap_append,List.getD_eq_getElem?_getD,List.getElem?_eq_getElem h]
 simp
def ci (l:List Int):Prop:=∀ x∈l,-1000000000000000≤x∧x≤1000000000000000
theorem C6 {z:Int} (h1 : -1000000000000000≤z) (h2:z≤1000000000000000):(Lib.itoa z).length≤21:=Lib.itoa_length_le z (by omega) (by omega)
theorem K2 {l:List Int} (h:ci l):(E9 l).length≤22 * l.length:=by
 induction l with
 | nil=>exact Nat.le_refl _
 | cons a l ih =>
  have h1:=C6 (h a List.mem_cons_self).1 (h a List.mem_cons_self).2
  have h2:=ih fun x hx=>h x (List.mem_cons_of_mem _ hx)
  unfold E9 at h2 ⊢
  rw[List.flatMap_cons,List.length_append,List.length_cons,List.length_cons]
  omega
theorem Cr {w:List UInt8} {l:List Int} (h:ci l):(Ca w l).length≤w.length+22 * l.length+1:=by
 have:=K2 h
 unfold Ca
 simp only[List.length_append,List.length_cons,List.length_nil]
 omega
theorem ws1 {a:List UInt8} {b:List Int} (h:b.length+a.length≤2000000):Fg a b=some ():=by
 rw[A40o1]
 unfold zw
 simp only[bs]
 rw[if_pos (by omega)]
 rfl
theorem ws0 {a:List UInt8} (h:a.length≤2000000):bo a=some ():=by
 rw[A40o0]
 unfold l5
 simp only[bs]
 rw[if_pos (by omega)]
 rfl
theorem q8 {b:Int×List Int→Option ((Int×List Int)⊕(List Int⊕List Int))} {l:List Int} (hl:l.length≤20) (hn:ci l) (p:List UInt8) (hp:p.length≤1000000)
  (hb:∀ s1:Int×List Int,b s1=((if(decide (s1.1 < (l.length:Int)))=true then(if(0≤s1.1)then(if(s1.1 < (l.length:Int))then(Option.bind (((Gk (l.getD s1.1.toNat default) (10:Int)).bind fun r4_0=>(if([32]:List UInt8).length+r4_0.length≤9223372036854775807 then((Fg (([32]:List UInt8)++r4_0) s1.2).bind fun r4_1=>some (r4_0,r4_1))else none))) fun(x4:(X1))=>(some (.inl ((IntKind.wrap .i64 (s1.1+1)),(s1.2++Al (([32]:List UInt8)++x4.1))))))else none)else none)else(some (.inr (.inl s1.2)))))) :
  Ak b ((0:Int),Al p)=some (.inl (Al (p++E9 l))):=by
 have key:∀ k i,i+k=l.length→Ak b ((i:Int),Al (p++E9 (l.take i)))=some (.inl (Al (p++E9 l))):=by
  intro k
  induction k with
  | zero =>
   intro i hi
   obtain rfl:i=l.length:=by omega
   refine Bh ?_
   rw[hb]
   simp only[Int.lt_irrefl,decide_false,Bool.false_eq_true,if_false,List.take_length]
  | succ k ih =>
   intro i hi
   have h:i < l.length:=by omega
   have hz:=hn _ (Ay h)
   have h1:=C6 hz.1 hz.2
   have h2:=K2 (l:=l.take i) fun x hx=>hn x (List.mem_of_mem_take hx)
   rw[List.length_take]at h2
   refine Bm (s':=(((i+1:Nat):Int),Al (p++E9 (l.take (i+1))))) ?_ (ih (i+1) (by omega))
   rw[hb]
   simp only[Int.toNat_natCast]
   rw[if_pos (decide_eq_true (show (i:Int) < (l.length:Int) from by omega)),if_pos (by omega),if_pos (by omega),Ue (by omega) (by omega)]
   simp only[bs]
   rw[cg h]
   generalize Lib.itoa (l.getD i default)=T at h1 ⊢
   rw[if_pos (by simp;omega),ws1 (by rw[U8];simp;omega)]
   simp only[bs]
   rw[wn (by omega),← U7,List.append_assoc]
   rfl
 have:=key l.length 0 (by omega)
 rw[List.take_zero,show E9 []=[] from rfl,List.append_nil,show ((0:Nat):Int)=0 from rfl]at this
 exact this
theorem mbs_eq {t:List UInt8} (h:t≠[]):ey (Al t)=some t:=by
 unfold ey
 rw[if_pos ⟨by unfold Al;simpa using h,by
  unfold Al
  rw[List.all_map,List.all_eq_true]
  intro x _
  have:=x.toNat_lt
  simp
  omega⟩]
 congr 1
 unfold Al
 rw[List.map_map]
 conv=>rhs;rw[← List.map_id t]
 refine List.map_congr_left fun x _=>?_
 simp
structure OkT (g:Ah):Prop where
 nm:Pk.nmB g.Name 8=true
 em:1≤g.Empty∧g.Empty≤3000000000
 mf:1≤g.MaxFuel∧g.MaxFuel≤3000000000
 n:2≤g.Alts.length∧g.Alts.length≤12
 m:2≤g.Masses.length∧g.Masses.length≤6
 cl:g.Climb.length=g.Alts.length∧∀ i,i < g.Alts.length→(g.Climb.getD i default).length=g.Masses.length∧∀ x∈g.Climb.getD i default,0≤x∧x≤3000000000
 cf:g.ClimbFlow.length=g.Alts.length∧∀ i,i < g.Alts.length→(g.ClimbFlow.getD i default).length=g.Masses.length∧∀ x∈g.ClimbFlow.getD i default,0≤x∧x≤3000000000
 cr:g.Cruise.length=g.Alts.length∧∀ i,i < g.Alts.length→(g.Cruise.getD i default).length=g.Masses.length∧∀ x∈g.Cruise.getD i default,0≤x∧x≤3000000000
 de:g.Descent.length=g.Alts.length∧∀ x∈g.Descent,0≤x∧x≤3000000000
 id:g.Idle.length=g.Alts.length∧∀ x∈g.Idle,0≤x∧x≤3000000000
 ms:g.MaxSpeed.length=g.Alts.length∧∀ x∈g.MaxSpeed,0≤x∧x≤3000000000
 mi:g.MinSpeed.length=g.Masses.length∧∀ x∈g.MinSpeed,0≤x∧x≤3000000000
 ma:∀ x∈g.Masses,0≤x∧x≤3000000000
 al:∀ i,i < g.Alts.length → -200000≤g.Alts.getD i default∧g.Alts.getD i default≤6000000
 ce : -200000≤g.Ceiling∧g.Ceiling≤6000000
 rf:1≤g.Ref∧g.Ref≤3000000000
 ex:0≤g.Extra∧g.Extra≤3000000000
theorem Nw {lo hi x:Int} (h:Pk.inI lo hi x=true):lo≤x∧x≤hi:=by
 unfold Pk.inI at h
 simpa only[Bool.and_eq_true,decide_eq_true_eq] using h
theorem inL_of {lo hi:Int} {l:List Int} (h:Pk.inL lo hi l=true):∀ i,i < l.length→lo≤l.getD i default∧l.getD i default≤hi:=fun i hi'=>by
 unfold Pk.inL at h
 have:=allR_iff.1 h i (Nat.zero_le _) hi'
 simpa only[Bool.and_eq_true,decide_eq_true_eq] using this
theorem Nf {lo hi:Int} {l:List Int} (h:Pk.inL lo hi l=true) (h1:0≤lo) (h2:hi≤3000000000):∀ x∈l,0≤x∧x≤3000000000:=fun x hx=>by
 obtain⟨i,hi',rfl⟩:=List.getElem_of_mem hx
 have:=inL_of h i hi'
 rw[List.getD_eq_getElem?_getD,List.getElem?_eq_getElem hi']at this
 have t:lo≤l[i]∧l[i]≤hi:=this
 omega
theorem mv {hi:Int} {n m:Nat} {t:List (List Int)} (hs:Pk.shT n m t=true) (h:Pk.inT 0 hi t=true) (h2:hi≤3000000000):t.length=n∧∀ i,i < n→(t.getD i default).length=m∧∀ x∈t.getD i default,0≤x∧x≤3000000000:=by
 obtain⟨s1,s2⟩:=Pk.sh_of hs
 refine⟨s2,fun i hi'=>⟨s1 i (by omega),?_⟩⟩
 unfold Pk.inT at h
 exact Nf (allR_iff.1 h i (Nat.zero_le _) (by omega)) (by decide) h2
theorem pe {g:Ah} (h:Pk.good g=true):OkT g:=by
 simp only[Pk.good,Bool.and_eq_true]at h
 obtain⟨⟨⟨⟨⟨⟨⟨⟨⟨⟨⟨⟨⟨⟨⟨⟨⟨⟨⟨⟨⟨⟨⟨⟨⟨⟨⟨⟨⟨⟨h1,h2⟩,h3⟩,h4⟩,h5⟩,h6⟩,h7⟩,h8⟩,h9⟩,h10⟩,h11⟩,h12⟩,h13⟩,h14⟩,h15⟩,h16⟩,h17⟩,h18⟩,h19⟩,h20⟩,h21⟩,h22⟩,h23⟩,h24⟩,h25⟩,h26⟩,h27⟩,h28⟩,h29⟩,h30⟩,h31⟩:=h
 have e2:=Nw h2
 have e3:=Nw h3
 have e4:=Nw h4
 have e5:=Nw h5
 rw[B2 (by omega) (by omega)]at e3
 simp only[Bool.not_eq_true',Bool.or_eq_false_iff,bne_eq_false_iff_eq]at h9
 obtain⟨⟨⟨d1,d2⟩,d3⟩,d4⟩:=h9
 have e13:=Nw h13
 have e22:=Nw h22
 have e23:=Nw h23
 exact⟨h1,e2,⟨e3.1,by omega⟩,⟨by omega,by omega⟩,⟨by omega,by omega⟩,mv h6 h15 (by decide),mv h7 h17 (by decide),mv h8 h18 (by decide),
  ⟨by omega,Nf h16 (by decide) (by decide)⟩,⟨by omega,Nf h19 (by decide) (by decide)⟩,⟨by omega,Nf h20 (by decide) (by decide)⟩,⟨by omega,Nf h21 (by decide) (by decide)⟩,Nf h14 (by decide) (by decide),
  inL_of h12,e13,⟨e22.1,by omega⟩,⟨e23.1,by omega⟩⟩
theorem Cn {l:List Int} (h:∀ x∈l,0≤x∧x≤3000000000):ci l:=fun x hx=>by have:=h x hx;omega
theorem Nx (p w:List UInt8) (l:List Int) (hl:l.length≤20) (hn:ci l) (hw:w.length≤1000) (hp:p.length≤900000):Hs w l (Al p)=some (Al (p++Ca w l)):=by
 rw[A42o0,ws1 (by rw[U8];omega)]
 simp only[bs,ol]
 rw[← U7,q8 hl hn (p++w) (by simp;omega) (fun s1=>rfl)]
 have:=K2 hn
 simp only[bs,ol]
 rw[ws1 (by rw[U8];simp;omega)]
 simp only[bs]
 rw[← U7]
 unfold Ca
 simp only[List.append_assoc]
theorem line1_eq (p w:List UInt8) (l:List Int) (hl:l.length≤20) (hn:ci l) (hw:w.length≤1000) (hp:p.length≤900000):bp w l (Al p)=some (Al (p++Ca w l)):=by
 rw[A42o1,ws1 (by rw[U8];omega)]
 simp only[bs,ol]
 rw[← U7,q8 hl hn (p++w) (by simp;omega) (fun s1=>rfl)]
 have:=K2 hn
 simp only[bs,ol]
 rw[ws1 (by rw[U8];simp;omega)]
 simp only[bs]
 rw[← U7]
 unfold Ca
 simp only[List.append_assoc]
theorem AA4 {l:List Int} (hl:l.length≤20) (hn:ci l) (w:List UInt8) (hw:w.length≤1000):Ak (Un l) (w,(0:Int))=some (.inl (w++E9 l)):=by
 have key:∀ k i,i+k=l.length→Ak (Un l) (w++E9 (l.take i),(i:Int))=some (.inl (w++E9 l)):=by
  intro k
  induction k with
  | zero =>
   intro i hi
   obtain rfl:i=l.length:=by omega
   refine Bh ?_
   simp only[Un,Int.lt_irrefl,decide_false,Bool.false_eq_true,if_false,List.take_length]
  | succ k ih =>
   intro i hi
   have h:i < l.length:=by omega
   have hz:=hn _ (Ay h)
   have h1:=C6 hz.1 hz.2
   have h2:=K2 (l:=l.take i) fun x hx=>hn x (List.mem_of_mem_take hx)
   rw[List.length_take]at h2
   refine Bm (s':=(w++E9 (l.take (i+1)),((i+1:Nat):Int))) ?_ (ih (i+1) (by omega))
   simp only[Un,Int.toNat_natCast]
   rw[if_pos (decide_eq_true (show (i:Int) < (l.length:Int) from by omega)),if_pos (by omega),if_pos (by omega),Ki hz.1 hz.2]
   simp only[bs]
   rw[cg h]
   generalize Lib.itoa (l.getD i default)=T at h1 ⊢
   rw[if_pos (by simp;omega),if_pos (by simp;omega)]
   simp only[bs]
   rw[wn (by omega),List.append_assoc]
   rfl
 have:=key l.length 0 (by omega)
 rw[List.take_zero,show E9 []=[] from rfl,List.append_nil,show ((0:Nat):Int)=0 from rfl]at this
 exact this
theorem Lq (w:List UInt8) (l:List Int) (hl:l.length≤20) (hn:ci l) (hw:w.length≤1000):O3 w l=some (Ca w l):=by
 have:=K2 hn
 rw[A44]
 simp only[bs,ol]
 rw[AA4 hl hn w hw]
 simp only[bs,ol]
 rw[if_pos (by simp;omega)]
 rfl
def Dk (g:Ah):List (List UInt8):=[wPERF,g.Name,Lib.itoa g.Empty,Lib.itoa g.MaxFuel,Lib.itoa g.Ref,Lib.itoa g.Extra,Cm g.Ceiling]
def J0 (g:Ah) (i:Nat):List Int:=[g.Descent.getD i default,g.Idle.getD i default,g.MaxSpeed.getD i default]
def Vk (g:Ah) (i:Nat):List UInt8:=Ca (([82,79,87,32]:List UInt8)++Cm (g.Alts.getD i default)) (J0 g i)++(Ca wCLIMB (g.Climb.getD i default)++(Ca wCLIMBFLOW (g.ClimbFlow.getD i default)++Ca wCRUISE (g.Cruise.getD i default)))
def Cu (g:Ah) (n:Nat):List UInt8:=(List.range n).flatMap (Vk g)
def D4 (g:Ah):List UInt8:=(Bg (Dk g)++[10])++(Ca wMASSES g.Masses++Ca wMINSPEED g.MinSpeed)
def Mu (g:Ah):List UInt8:=D4 g++Cu g g.Alts.length
theorem Nu {α:Type} (f:Nat→List α) (n:Nat):(List.range (n+1)).flatMap f=(List.range n).flatMap f++f n:=by
 rw[List.range_succ,List.flatMap_append]
 simp
section
variable {g:Ah} (O:OkT g)
include O
theorem nt:0 < g.Name.length∧g.Name.length≤8:=by
 have h:=O.nm
 unfold Pk.nmB at h
 simp only[Bool.and_eq_true,Bool.not_eq_true',beq_eq_false_iff_ne,decide_eq_false_iff_not]at h
 obtain⟨⟨⟨⟨a,b⟩,_⟩,_⟩,_⟩:=h
 omega
theorem hd_len:(Bg (Dk g)).length≤250:=by
 have h0:=(nt O).2
 have h1:=C6 (z:=g.Empty) (by have:=O.em;omega) (by have:=O.em;omega)
 have h2:=C6 (z:=g.MaxFuel) (by have:=O.mf;omega) (by have:=O.mf;omega)
 have h3:=C6 (z:=g.Ref) (by have:=O.rf;omega) (by have:=O.rf;omega)
 have h4:=C6 (z:=g.Extra) (by have:=O.ex;omega) (by have:=O.ex;omega)
 have h5:=Nn O.ce.1 O.ce.2
 unfold Dk Bg Dt
 simp only[List.flatMap_cons,List.flatMap_nil,List.length_append,List.length_cons,List.length_nil,show wPERF.length=4 from rfl]
 omega
theorem d8 {i:Nat} (hi:i < g.Alts.length):ci (J0 g i):=by
 have a:=O.de.2 _ (Ay (i:=i) (by have:=O.de.1;omega))
 have b:=O.id.2 _ (Ay (i:=i) (by have:=O.id.1;omega))
 have c:=O.ms.2 _ (Ay (i:=i) (by have:=O.ms.1;omega))
 intro x hx
 simp only[J0,List.mem_cons,List.not_mem_nil,or_false]at hx
 rcases hx with rfl | rfl | rfl<;>omega
theorem rw_len {i:Nat} (hi:i < g.Alts.length):(Vk g i).length≤900:=by
 have h1:=Nn (O.al i hi).1 (O.al i hi).2
 have h2:=Cr (w:=([82,79,87,32]:List UInt8)++Cm (g.Alts.getD i default)) (d8 O hi)
 have h3:=Cr (w:=wCLIMB) (Cn (O.cl.2 i hi).2)
 have h4:=Cr (w:=wCLIMBFLOW) (Cn (O.cf.2 i hi).2)
 have h5:=Cr (w:=wCRUISE) (Cn (O.cr.2 i hi).2)
 have c3:=(O.cl.2 i hi).1
 have c4:=(O.cf.2 i hi).1
 have c5:=(O.cr.2 i hi).1
 have hm:=O.m
 unfold Vk
 simp only[List.length_append,List.length_cons,List.length_nil,J0,show wCLIMB.length=5 from rfl,show wCLIMBFLOW.length=9 from rfl,show wCRUISE.length=6 from rfl]at h2 h3 h4 h5 ⊢
 omega
theorem Rw:(D4 g).length≤900:=by
 have h1:=hd_len O
 have h2:=Cr (w:=wMASSES) (Cn O.ma)
 have h3:=Cr (w:=wMINSPEED) (Cn O.mi.2)
 have c3:=O.mi.1
 have hm:=O.m
 unfold D4
 simp only[List.length_append,List.length_cons,List.length_nil,show wMASSES.length=6 from rfl,show wMINSPEED.length=8 from rfl]at h2 h3 ⊢
 omega
theorem Sg:∀ n,n≤g.Alts.length→(Cu g n).length≤900 * n
 | 0,_=>Nat.le_refl _
 | n+1,h=>by
  have h1:=Sg n (by omega)
  have h2:=rw_len O (i:=n) h
  unfold Cu at h1 ⊢
  rw[Nu,List.length_append]
  omega
theorem txtQ_len:(Mu g).length≤20000:=by
 have h1:=Rw O
 have h2:=Sg O g.Alts.length (Nat.le_refl _)
 have h3:=O.n
 unfold Mu
 rw[List.length_append]
 omega
theorem join_hd:Lib.join (Dk g) [32]=Bg (Dk g):=by
 unfold Dk
 rw[Lib.join_cons]
 show wPERF++Lib.joinTail [32] _=wPERF++Dt _
 unfold Dt Lib.joinTail
 rw[List.flatMap_def]
 rfl
theorem jh:∀ (k i:Nat),i+k=g.Alts.length→Ak (ac g) ((i:Int),Al (D4 g++Cu g i))=some (.inl (Al (Mu g)))
 | 0,i,hi=>by
  obtain rfl:i=g.Alts.length:=by omega
  refine Bh ?_
  simp only[ac,Int.lt_irrefl,decide_false,Bool.false_eq_true,if_false,bs,ol,V7]
  rfl
 | k+1,i,hi=>by
  have h:i < g.Alts.length:=by omega
  have hz:=O.al i h
  have hal:=Nn hz.1 hz.2
  have hn:=O.n
  have hm:=O.m
  have b0:=Rw O
  have b1:=Sg O i (by omega)
  have b2:=rw_len O h
  have hlen:(D4 g++Cu g i).length≤20000:=by rw[List.length_append];omega
  have hb2:(D4 g++Cu g i).length+(Vk g i).length≤30000:=by omega
  unfold Vk at hb2
  simp only[List.length_append]at hb2 hlen
  refine Bm (s':=(((i+1:Nat):Int),Al (D4 g++Cu g (i+1)))) ?_ (jh k (i+1) (by omega))
  have q1:=line1_eq (D4 g++Cu g i) (([82,79,87,32]:List UInt8)++Cm (g.Alts.getD i default)) (J0 g i) (by simp[J0]) (d8 O h) (by rw[List.length_append,show ([82,79,87,32]:List UInt8).length=4 from rfl];omega) (by rw[List.length_append];omega)
  have q2:=Nx ((D4 g++Cu g i)++Ca (([82,79,87,32]:List UInt8)++Cm (g.Alts.getD i default)) (J0 g i)) wCLIMB (g.Climb.getD i default) (by rw[(O.cl.2 i h).1];omega) (Cn (O.cl.2 i h).2) (by decide) (by simp only[List.length_append];omega)
  have q3:=Nx (((D4 g++Cu g i)++Ca (([82,79,87,32]:List UInt8)++Cm (g.Alts.getD i default)) (J0 g i))++Ca wCLIMB (g.Climb.getD i default)) wCLIMBFLOW (g.ClimbFlow.getD i default) (by rw[(O.cf.2 i h).1];omega) (Cn (O.cf.2 i h).2) (by decide) (by simp only[List.length_append];omega)
  have q4:=Nx ((((D4 g++Cu g i)++Ca (([82,79,87,32]:List UInt8)++Cm (g.Alts.getD i default)) (J0 g i))++Ca wCLIMB (g.Climb.getD i default))++Ca wCLIMBFLOW (g.ClimbFlow.getD i default)) wCRUISE (g.Cruise.getD i default) (by rw[(O.cr.2 i h).1];omega) (Cn (O.cr.2 i h).2) (by decide) (by simp only[List.length_append];omega)
  have c1:=O.cl.1
  have c2:=O.cf.1
  have c3:=O.cr.1
  have c4:=O.de.1
  have c5:=O.id.1
  have c6:=O.ms.1
  simp only[ac,Int.toNat_natCast]
  simp only[bs,ol]
  rw[if_pos (decide_eq_true (show (i:Int) < (g.Alts.length:Int) from by omega))]
  simp only[bs,ol]
  rw[if_pos (by omega),if_pos (by omega)]
  simp only[bs,ol]
  rw[gc hz.1 hz.2]
  simp only[bs,ol]
  rw[if_pos (by rw[show ([82,79,87,32]:List UInt8).length=4 from rfl];omega),if_pos (by omega),if_pos (by omega),if_pos (by omega),if_pos (by omega),if_pos (by omega),if_pos (by omega)]
  rw[show ([g.Descent.getD i default,g.Idle.getD i default,g.MaxSpeed.getD i default]:List Int)=J0 g i from rfl,q1]
  simp only[bs,ol]
  rw[if_pos (by omega),if_pos (by omega),show ([67,76,73,77,66]:List UInt8)=wCLIMB from rfl,q2]
  simp only[bs,ol]
  rw[if_pos (by omega),if_pos (by omega),show ([67,76,73,77,66,70,76,79,87]:List UInt8)=wCLIMBFLOW from rfl,q3]
  simp only[bs,ol]
  rw[if_pos (by omega),if_pos (by omega),show ([67,82,85,73,83,69]:List UInt8)=wCRUISE from rfl,q4]
  simp only[bs,ol]
  rw[wn (by omega)]
  unfold Cu
  rw[Nu]
  unfold Vk
  simp only[List.append_assoc]
theorem AA0:Ak (Um g) (([([80,69,82,70]:List UInt8),g.Name]:List (List UInt8)),(0:Int))=some (.inl [wPERF,g.Name,Lib.itoa g.Empty,Lib.itoa g.MaxFuel,Lib.itoa g.Ref,Lib.itoa g.Extra]):=by
 have e1:=O.em
 have e2:=O.mf
 have e3:=O.rf
 have e4:=O.ex
 have st:∀ (i:Nat) (l:List (List UInt8)) (z:Int),i < 4→l.length≤100→([g.Empty,g.MaxFuel,g.Ref,g.Extra]:List Int).getD i default=z→0≤z→z≤3000000000→Um g (l,(i:Int))=some (.inl (l++[Lib.itoa z],((i+1:Nat):Int))):=fun i l z hi hl hz z0 z1=>by
  simp only[Um,Int.toNat_natCast,hz]
  rw[if_pos (decide_eq_true (show (i:Int) < 4 from by omega)),if_pos (by omega),if_pos (show (i:Int) < (([g.Empty,g.MaxFuel,g.Ref,g.Extra]:List Int).length:Int) from by show (i:Int) < ((4:Nat):Int);omega),Ue (by omega) (by omega)]
  simp only[bs]
  rw[if_pos (d9 (by omega))]
  simp only[bs]
  rw[wn (by omega)]
 refine Bm (st 0 _ g.Empty (by decide) (by show 2≤100;decide) rfl (by omega) (by omega)) ?_
 refine Bm (st 1 _ g.MaxFuel (by decide) (by show 3≤100;decide) rfl (by omega) (by omega)) ?_
 refine Bm (st 2 _ g.Ref (by decide) (by show 4≤100;decide) rfl (by omega) (by omega)) ?_
 refine Bm (st 3 _ g.Extra (by decide) (by show 5≤100;decide) rfl (by omega) (by omega)) ?_
 refine Bh ?_
 simp only[Um]
 rw[if_neg (show ¬ decide (((3+1:Nat):Int) < 4)=true from by decide)]
 rfl
end
noncomputable def Po (g:Ah):List UInt8×Int:=if Cw g=0 then(Mu g,0)else([],Cw g)
theorem Text_p31 {g:Ah} (hg:Kt g):m14 g=some (Po g):=by
 rw[A14,ym hg]
 simp only[bs]
 unfold Po
 by_cases h:Cw g=0
 ·have O:=pe ((Xs hg).1 h)
  rw[if_neg (show ¬ (Cw g != 0)=true from by simp[h]),if_pos h,gc O.ce.1 O.ce.2]
  have hm:=O.m
  have ml:=O.mi.1
  have b0:=hd_len O
  have b1:=Rw O
  have hj:(Dk g).length=7:=rfl
  have q0:m41 ([wPERF,g.Name,Lib.itoa g.Empty,Lib.itoa g.MaxFuel,Lib.itoa g.Ref,Lib.itoa g.Extra]++[Cm g.Ceiling]) ([32]:List UInt8)=some (Bg (Dk g)):=by
   show (if(Dk g).length≤1000000∧(Lib.join (Dk g) [32]).length≤100000000 then some (Lib.join (Dk g) [32])else none)=_
   rw[join_hd O,if_pos ⟨by rw[hj];decide,by omega⟩]
  have q1:=Nx (Bg (Dk g)++[10]) wMASSES g.Masses (by omega) (Cn O.ma) (by decide) (by simp;omega)
  have q2:=Nx ((Bg (Dk g)++[10])++Ca wMASSES g.Masses) wMINSPEED g.MinSpeed (by omega) (Cn O.mi.2) (by decide) (by
   unfold D4 at b1
   simp only[List.length_append]at b1 ⊢
   omega)
  have q3:=jh O g.Alts.length 0 (by omega)
  rw[show Cu g 0=[] from rfl,List.append_nil,show ((0:Nat):Int)=0 from rfl]at q3
  unfold D4 at q3
  rw[← List.append_assoc]at q3
  simp only[bs,ol]
  rw[AA0 O]
  simp only[bs,ol]
  rw[if_pos (show (([wPERF,g.Name,Lib.itoa g.Empty,Lib.itoa g.MaxFuel,Lib.itoa g.Ref,Lib.itoa g.Extra]:List (List UInt8)).length+1) * 16≤140737488355328 from d9 (show 6≤1000000 from by decide)),q0]
  simp only[bs]
  rw[if_pos (by rw[show ([10]:List UInt8).length=1 from rfl];omega),ws0 (by simp;omega)]
  simp only[bs,ol]
  rw[show ([77,65,83,83,69,83]:List UInt8)=wMASSES from rfl,q1]
  simp only[bs,ol]
  rw[show ([77,73,78,83,80,69,69,68]:List UInt8)=wMINSPEED from rfl,q2]
  simp only[bs,ol]
  rw[q3]
  simp only[bs,ol]
  rw[mbs_eq (by unfold Mu D4;simp)]
  rfl
 ·rw[if_pos (show (Cw g != 0)=true from by simpa using h),if_neg h]
  rfl
end Go.Av.Txs
set_option maxRecDepth 100000
namespace Go.Av.Txs
open Go.Av
section
variable {g:Ah} (O:OkT g)
include O
theorem jo:∀ (k i:Nat),i+k=g.Alts.length→Ak (ae g) (D4 g++Cu g i,(i:Int))=some (.inl (Mu g))
 | 0,i,hi=>by
  obtain rfl:i=g.Alts.length:=by omega
  refine Bh ?_
  simp only[ae,Int.lt_irrefl,decide_false,Bool.false_eq_true,if_false]
  rfl
 | k+1,i,hi=>by
  have h:i < g.Alts.length:=by omega
  have hz:=O.al i h
  have hal:=Nn hz.1 hz.2
  have hn:=O.n
  have hm:=O.m
  have b0:=Rw O
  have b1:=Sg O i (by omega)
  have hlen:(D4 g++Cu g i).length≤20000:=by rw[List.length_append];omega
  have w1:=Cr (w:=[]) (d8 O h)
  have w2:=Cr (w:=wCLIMB) (Cn (O.cl.2 i h).2)
  have w3:=Cr (w:=wCLIMBFLOW) (Cn (O.cf.2 i h).2)
  have w4:=Cr (w:=wCRUISE) (Cn (O.cr.2 i h).2)
  have d2:=(O.cl.2 i h).1
  have d3:=(O.cf.2 i h).1
  have d4:=(O.cr.2 i h).1
  simp only[List.length_nil,J0,List.length_cons,show wCLIMB.length=5 from rfl,show wCLIMBFLOW.length=9 from rfl,show wCRUISE.length=6 from rfl]at w1 w2 w3 w4
  have q1:=Lq [] (J0 g i) (by simp[J0]) (d8 O h) (by decide)
  have q2:=Lq wCLIMB (g.Climb.getD i default) (by rw[(O.cl.2 i h).1];omega) (Cn (O.cl.2 i h).2) (by decide)
  have q3:=Lq wCLIMBFLOW (g.ClimbFlow.getD i default) (by rw[(O.cf.2 i h).1];omega) (Cn (O.cf.2 i h).2) (by decide)
  have q4:=Lq wCRUISE (g.Cruise.getD i default) (by rw[(O.cr.2 i h).1];omega) (Cn (O.cr.2 i h).2) (by decide)
  have c1:=O.cl.1
  have c2:=O.cf.1
  have c3:=O.cr.1
  have c4:=O.de.1
  have c5:=O.id.1
  have c6:=O.ms.1
  refine Bm (s':=(D4 g++Cu g (i+1),((i+1:Nat):Int))) ?_ (jo k (i+1) (by omega))
  have eT:Cu g (i+1)=Cu g i++Vk g i:=by unfold Cu;rw[Nu]
  rw[eT,← List.append_assoc (D4 g) (Cu g i) (Vk g i)]
  unfold Vk
  generalize D4 g++Cu g i=B at hlen
  have e4:([82,79,87,32]:List UInt8).length=4:=rfl
  simp only[ae,Int.toNat_natCast]
  rw[if_pos (decide_eq_true (show (i:Int) < (g.Alts.length:Int) from by omega)),if_pos (by omega),if_pos (by omega),gf hz.1 hz.2]
  simp only[bs]
  rw[if_pos (by rw[e4];omega),if_pos (by omega),if_pos (by omega),if_pos (by omega),if_pos (by omega),if_pos (by omega),if_pos (by omega)]
  rw[show ([g.Descent.getD i default,g.Idle.getD i default,g.MaxSpeed.getD i default]:List Int)=J0 g i from rfl,q1]
  simp only[bs]
  rw[if_pos (by simp only[List.length_append,e4,J0];omega),if_pos (by simp only[List.length_append,e4,J0];omega)]
  simp only[bs]
  rw[if_pos (by omega),if_pos (by omega),show ([67,76,73,77,66]:List UInt8)=wCLIMB from rfl,q2]
  simp only[bs]
  rw[if_pos (by omega),if_pos (by omega),show ([67,76,73,77,66,70,76,79,87]:List UInt8)=wCLIMBFLOW from rfl,q3]
  simp only[bs]
  rw[if_pos (by omega),if_pos (by omega),if_pos (by omega),show ([67,82,85,73,83,69]:List UInt8)=wCRUISE from rfl,q4]
  simp only[bs]
  rw[if_pos (by simp only[List.length_append];omega),if_pos (by simp only[List.length_append,e4,J0];omega)]
  simp only[bs]
  rw[wn (by omega)]
  unfold Ca
  simp only[List.append_assoc,List.nil_append]
end
theorem Text_r31 {g:Ah} (hg:Kt g):m15 g=some (Po g):=by
 rw[A15,chk_r hg]
 simp only[bs]
 unfold Po
 by_cases h:Cw g=0
 ·have O:=pe ((Xs hg).1 h)
  rw[if_neg (show ¬ (Cw g != 0)=true from by simp[h]),if_pos h,gf O.ce.1 O.ce.2]
  have hm:=O.m
  have ml:=O.mi.1
  have h0:=(nt O).2
  have h1:=C6 (z:=g.Empty) (by have:=O.em;omega) (by have:=O.em;omega)
  have h2:=C6 (z:=g.MaxFuel) (by have:=O.mf;omega) (by have:=O.mf;omega)
  have h3:=C6 (z:=g.Ref) (by have:=O.rf;omega) (by have:=O.rf;omega)
  have h4:=C6 (z:=g.Extra) (by have:=O.ex;omega) (by have:=O.ex;omega)
  have h5:=Nn O.ce.1 O.ce.2
  have w2:=Cr (w:=wMASSES) (Cn O.ma)
  have w3:=Cr (w:=wMINSPEED) (Cn O.mi.2)
  simp only[show wMASSES.length=6 from rfl,show wMINSPEED.length=8 from rfl]at w2 w3
  have q1:=Lq wMASSES g.Masses (by omega) (Cn O.ma) (by decide)
  have q2:=Lq wMINSPEED g.MinSpeed (by omega) (Cn O.mi.2) (by decide)
  have q3:=jo O g.Alts.length 0 (by omega)
  rw[show Cu g 0=[] from rfl,List.append_nil,show ((0:Nat):Int)=0 from rfl]at q3
  have d1:=Ki (z:=g.Empty) (by have:=O.em;omega) (by have:=O.em;omega)
  have d2:=Ki (z:=g.MaxFuel) (by have:=O.mf;omega) (by have:=O.mf;omega)
  have d3:=Ki (z:=g.Ref) (by have:=O.rf;omega) (by have:=O.rf;omega)
  have d4:=Ki (z:=g.Extra) (by have:=O.ex;omega) (by have:=O.ex;omega)
  have eh:D4 g=(((((((((((((([80,69,82,70,32]:List UInt8)++g.Name)++([32]:List UInt8))++Lib.itoa g.Empty)++([32]:List UInt8))++Lib.itoa g.MaxFuel)++([32]:List UInt8))++Lib.itoa g.Ref)++([32]:List UInt8))++Lib.itoa g.Extra)++([32]:List UInt8))++Cm g.Ceiling)++([10]:List UInt8))++(Ca wMASSES g.Masses++Ca wMINSPEED g.MinSpeed)):=by
   unfold D4 Dk Bg Dt wPERF
   simp
  generalize Lib.itoa g.Empty=E1 at h1 d1 eh
  generalize Lib.itoa g.MaxFuel=E2 at h2 d2 eh
  generalize Lib.itoa g.Ref=E3 at h3 d3 eh
  generalize Lib.itoa g.Extra=E4 at h4 d4 eh
  generalize Cm g.Ceiling=E5 at h5 eh
  generalize Ca wMASSES g.Masses=E6 at w2 q1 eh
  generalize Ca wMINSPEED g.MinSpeed=E7 at w3 q2 eh
  simp only[bs,List.length_append,List.length_cons,List.length_nil]
  rw[if_pos (by omega),if_pos (by omega),d1]
  simp only[bs]
  rw[if_pos (by omega),if_pos (by omega),d2]
  simp only[bs]
  rw[if_pos (by omega),if_pos (by omega),d3]
  simp only[bs]
  rw[if_pos (by omega),if_pos (by omega),d4]
  simp only[bs]
  rw[if_pos (by omega),if_pos (by omega),if_pos (by omega),if_pos (by omega)]
  simp only[bs]
  rw[show ([77,65,83,83,69,83]:List UInt8)=wMASSES from rfl,q1]
  simp only[bs]
  rw[show ([77,73,78,83,80,69,69,68]:List UInt8)=wMINSPEED from rfl,q2]
  simp only[bs]
  rw[if_pos (by omega),if_pos (by omega)]
  simp only[bs,ol]
  rw[← eh,q3]
  simp only[bs,ol]
 ·rw[if_pos (show (Cw g != 0)=true from by simpa using h),if_neg h]
  rfl
end Go.Av.Txs
set_option maxRecDepth 100000
namespace Go.Av.Txs
open Go.Av
def Dq (i:Nat) (s:Sc):Prop:=s.n=i∧s.d=⟨0,0,0⟩
theorem yg:Dq 0 s0:=⟨rfl,rfl⟩
section
variable {l:List (List UInt8)} {N:Int} {i:Nat} {s:Sc}
theorem la (h:Dq i s) (hi:i < l.length):(C9 ⟨N,Ax 0 l⟩ s).1=some (l.getD i [])∧Dq (i+1) (C9 ⟨N,Ax 0 l⟩ s).2:=by
 obtain⟨rfl,hd⟩:=h
 unfold C9
 rw[if_neg (show ¬ s.d.Code≠0 from by rw[hd];exact fun h=>h rfl),if_neg (show ¬ s.n=(Ax 0 l).length from by rw[Md];omega)]
 exact⟨by rw[← Zr l 0 s.n hi],rfl,hd⟩
theorem fm {w:List UInt8} (h:Dq i s) (hi:i < l.length) (hw:l.getD i []=w):Dq (i+1) (C4 w ⟨N,Ax 0 l⟩ s):=by
 obtain⟨h1,h2⟩:=la (N:=N) h hi
 unfold C4
 rw[h1,hw]
 show Dq _ (if w=w then _ else _)
 rw[if_pos rfl]
 exact h2
theorem Ml {lo hi z:Int} (h:Dq i s) (hi':i < l.length) (hw:l.getD i []=Lib.itoa z) (h1:lo≤z) (h2:z≤hi):(Lj lo hi ⟨N,Ax 0 l⟩ s).1=z∧Dq (i+1) (Lj lo hi ⟨N,Ax 0 l⟩ s).2:=by
 obtain⟨k1,k2⟩:=la (N:=N) h hi'
 unfold Lj
 rw[k1,hw]
 show (pn (Lib.itoa z) lo hi).1=z∧Dq _ (Sc.fail _ _ (pn (Lib.itoa z) lo hi).2 _)
 rw[pn_itoa h1 h2,Zj]
 exact⟨rfl,k2⟩
theorem alt_at {z:Int} (h:Dq i s) (hi':i < l.length) (hw:l.getD i []=Cm z) (h1 : -200000≤z) (h2:z≤6000000):(Jl ⟨N,Ax 0 l⟩ s).1=z∧Dq (i+1) (Jl ⟨N,Ax 0 l⟩ s).2:=by
 obtain⟨k1,k2⟩:=la (N:=N) h hi'
 unfold Jl
 rw[k1,hw]
 show (pa (Cm z)).1=z∧Dq _ (Sc.fail _ _ (pa (Cm z)).2 _)
 rw[pa_alt h1 h2,Zj]
 exact⟨rfl,k2⟩
theorem mc (h:Dq l.length s):C5 ⟨N,Ax 0 l⟩ s=(false,⟨0,0,0⟩):=by
 unfold C5
 rw[if_neg (show ¬ s.d.Code≠0 from by rw[h.2];exact fun h=>h rfl),if_neg (show ¬ s.n < (Ax 0 l).length from by rw[Md,h.1];omega)]
end
theorem ok_dg {b:UInt8} (h:Jv b=true):pd b=true:=by
 have:=M0 h
 unfold pd
 simp only[Bool.and_eq_true,decide_eq_true_eq,Bool.not_eq_true',beq_eq_false_iff_ne,ne_eq]
 refine⟨⟨by omega,by omega⟩,fun e=>?_⟩
 subst e
 revert this
 decide
theorem V4 (n:Nat):U3 (Lib.decDigits n):=by
 obtain⟨a,l,h,_⟩:=Rr n
 exact⟨by rw[h];simp,fun b hb=>ok_dg (Zf n b hb)⟩
theorem K3 (z:Int):U3 (Lib.itoa z):=by
 by_cases h:z < 0
 ·obtain⟨n,hn⟩:=Int.eq_ofNat_of_zero_le (by omega:0 ≤ -z)
  obtain rfl:z = -(n:Int):=by omega
  rw[Xy n (by omega)]
  refine⟨by simp,fun b hb=>?_⟩
  rcases List.mem_cons.1 hb with rfl | hb
  ·decide
  ·exact(V4 n).2 b hb
 ·obtain⟨n,rfl⟩:=Int.eq_ofNat_of_zero_le (by omega:0≤z)
  rw[Jo]
  exact V4 n
theorem ok_alt (z:Int):U3 (Cm z):=by
 have hd:=V4 (z.natAbs / 100)
 unfold Cm
 refine⟨by have:=hd.1;simp only[List.length_append];omega,fun b hb=>?_⟩
 rcases List.mem_append.1 hb with hb | hb
 ·rcases List.mem_append.1 hb with hb | hb
  ·split at hb
   ·rcases List.mem_singleton.1 hb with rfl
    decide
   ·cases hb
  ·exact hd.2 b hb
 ·unfold Hb at hb
  split at hb
  ·cases hb
  ·rcases List.mem_append.1 hb with hb | hb
   ·rcases List.mem_append.1 hb with hb | hb
    ·rcases List.mem_singleton.1 hb with rfl
     decide
    ·exact(V4 _).2 b hb
   ·exact(V4 _).2 b hb
theorem gp {z:Int} (h1 : -200000≤z) (h2:z≤6000000):(Cm z).length≤25:=by
 have h:=Da (n:=z.natAbs / 100) (by omega)
 have hf:(Hb z.natAbs).length≤3:=by
  unfold Hb
  split
  ·exact Nat.zero_le _
  ·rw[Lib.decDigits_one (i:=z.natAbs % 100 / 10) (by omega),Lib.decDigits_one (i:=z.natAbs % 10) (by omega)]
   exact Nat.le_refl _
 have hs:(if z < 0 then([45]:List UInt8)else[]).length≤1:=by split<;>decide
 unfold Cm
 simp only[List.length_append]
 omega
theorem ok_name {t:List UInt8} (h:Pk.nmB t 8=true):U3 t:=by
 unfold Pk.nmB at h
 simp only[Bool.and_eq_true,Bool.not_eq_true',beq_eq_false_iff_ne,decide_eq_false_iff_not]at h
 obtain⟨⟨⟨⟨a,b⟩,_⟩,_⟩,hc⟩:=h
 refine⟨by omega,fun x hx=>?_⟩
 obtain⟨i,hi,rfl⟩:=List.getElem_of_mem hx
 have h1:=allR_iff.1 hc i (Nat.zero_le _) hi
 unfold Pk.nmC at h1
 rw[Jt hi]at h1
 simp only[Bool.not_eq_true',Bool.and_eq_false_iff,Bool.or_eq_false_iff,decide_eq_false_iff_not]at h1
 generalize t[i]=x at h1
 unfold pd
 simp only[Bool.and_eq_true,decide_eq_true_eq,Bool.not_eq_true',beq_eq_false_iff_ne,ne_eq]
 refine⟨⟨by omega,by omega⟩,fun e=>?_⟩
 subst e
 have:(35:UInt8).toNat=35:=rfl
 omega
section
variable {l:List (List UInt8)} {N:Int} {i:Nat} {s:Sc}
theorem name_at (h:Dq i s) (hi:i < l.length) {t:List UInt8} (hw:l.getD i []=t) (hn:Pk.nmB t 8=true):(H5 ⟨N,Ax 0 l⟩ s).1=t∧Dq (i+1) (H5 ⟨N,Ax 0 l⟩ s).2:=by
 obtain⟨k1,k2⟩:=la (N:=N) h hi
 unfold H5
 rw[k1,hw]
 simp only[hn,if_true,true_and]
 exact k2
theorem left_at (h:Dq i s):Jd ⟨N,Ax 0 l⟩ s=(l.length:Int) - (i:Int):=by
 obtain⟨rfl,hd⟩:=h
 unfold Jd
 rw[if_neg (show ¬ s.d.Code≠0 from by rw[hd];exact fun h=>h rfl)]
 show ((Ax 0 l).length:Int) - _=_
 rw[Md]
end
def Dc (w:List UInt8) (l:List Int):List (List UInt8):=w :: l.map Lib.itoa
def in3 (l:List Int):Prop:=∀ x∈l,0≤x∧x≤3000000000
theorem Jx (w:List UInt8) (l:List Int):Bg (Dc w l)++[10]=Ca w l:=by
 show w++Dt (l.map Lib.itoa)++[10]=w++E9 l++[10]
 unfold Dt E9
 rw[List.flatMap_map]
theorem O8 (w:List UInt8) (l:List Int):(Dc w l).length=l.length+1:=by simp[Dc]
theorem recW_get {w:List UInt8} {l:List Int} {j:Nat} (h:j < l.length):(Dc w l).getD (j+1) []=Lib.itoa (l.getD j default):=by
 unfold Dc
 rw[List.getD_cons_succ,List.getD_eq_getElem?_getD,List.getElem?_map,List.getElem?_eq_getElem h,List.getD_eq_getElem?_getD,List.getElem?_eq_getElem h]
 rfl
theorem F6 {α:Type} {d:α} {l:List α} {i:Nat} (h:i < l.length):l.take i++[l.getD i d]=l.take (i+1):=by
 rw[List.take_add_one,List.getElem?_eq_getElem h,List.getD_eq_getElem?_getD,List.getElem?_eq_getElem h]
 rfl
section
variable {w:List UInt8} {l:List Int} {N:Int} (hl:in3 l)
include hl
theorem u3 {j:Nat} {s:Sc} (h:j < l.length) (a:Dq (j+1) s):(Dx ⟨N,Ax 0 (Dc w l)⟩ s).1=l.getD j default∧Dq (j+2) (Dx ⟨N,Ax 0 (Dc w l)⟩ s).2:=by
 have hz:=hl _ (Ay h)
 exact Ml a (by rw[O8];omega) (recW_get h) hz.1 hz.2
theorem mr_at:∀ (k j:Nat) (s:Sc),j≤l.length→l.length - j≤k→Dq (j+1) s→(Mj ⟨N,Ax 0 (Dc w l)⟩ k (l.take j) s).1=l∧Dq (l.length+1) (Mj ⟨N,Ax 0 (Dc w l)⟩ k (l.take j) s).2
 | 0,j,s,h,hk,a=>by
  obtain rfl:j=l.length:=by omega
  exact⟨List.take_length,a⟩
 | k+1,j,s,h,hk,a=>by
  have e:=left_at (l:=Dc w l) (N:=N) a
  rw[O8]at e
  unfold Mj
  rcases Nat.eq_or_lt_of_le h with rfl | hlt
  ·rw[if_neg (by rw[e];omega)]
   exact⟨List.take_length,a⟩
  ·obtain⟨k1,k2⟩:=u3 (w:=w) (N:=N) hl hlt a
   rw[if_pos (by rw[e];omega),k1,F6 hlt]
   exact mr_at k (j+1) _ hlt (by omega) k2
theorem bc (h1:1≤l.length) (h6:l.length≤6):Ff w ⟨N,Ax 0 (Dc w l)⟩=(l,false,⟨0,0,0⟩):=by
 have q0:Dq 1 (C4 w ⟨N,Ax 0 (Dc w l)⟩ s0):=fm yg (by rw[O8];omega) rfl
 obtain⟨k1,k2⟩:=u3 (w:=w) (N:=N) (j:=0) hl h1 q0
 have e:ba w ⟨N,Ax 0 (Dc w l)⟩=Mj ⟨N,Ax 0 (Dc w l)⟩ 5 (l.take 1) (Dx ⟨N,Ax 0 (Dc w l)⟩ (C4 w ⟨N,Ax 0 (Dc w l)⟩ s0)).2:=by
  unfold ba
  rw[k1,← F6 (d:=default) (i:=0) h1]
  rfl
 obtain⟨m1,m2⟩:=mr_at (w:=w) (N:=N) hl 5 1 _ h1 (by omega) k2
 unfold Ff
 rw[e,m1,mc (by rw[O8];exact m2)]
theorem Ve (hw:U3 w) (h9:w.length≤9) (h6:l.length≤6):td (Dc w l):=by
 have h1:=Cr (w:=w) (Cn hl)
 rw[← Jx,List.length_append]at h1
 refine⟨fun s hs=>?_,by rw[O8];omega,by omega⟩
 rcases List.mem_cons.1 hs with rfl | hs
 ·exact hw
 ·obtain⟨z,_,rfl⟩:=List.mem_map.1 hs
  exact K3 z
end
def Fv (g:Ah) (i:Nat):List (List UInt8):=[wROW,Cm (g.Alts.getD i default),Lib.itoa (g.Descent.getD i default),Lib.itoa (g.Idle.getD i default),Lib.itoa (g.MaxSpeed.getD i default)]
def Mq (g:Ah) (i:Nat):List (List (List UInt8)):=[Fv g i,Dc wCLIMB (g.Climb.getD i default),Dc wCLIMBFLOW (g.ClimbFlow.getD i default),Dc wCRUISE (g.Cruise.getD i default)]
def Cp (g:Ah):List (List (List UInt8)):=Dk g :: Dc wMASSES g.Masses :: Dc wMINSPEED g.MinSpeed :: (List.range g.Alts.length).flatMap (Mq g)
theorem Gd (a:List (List UInt8)) (b:List (List (List UInt8))):F7 (a :: b)=(Bg a++[10])++F7 b:=by
 unfold F7;rw[List.flatMap_cons]
theorem textR_app (a b:List (List (List UInt8))):F7 (a++b)=F7 a++F7 b:=by unfold F7;rw[List.flatMap_append]
theorem row_rec (g:Ah) (i:Nat):Bg (Fv g i)++[10]=Ca (([82,79,87,32]:List UInt8)++Cm (g.Alts.getD i default)) (J0 g i):=by
 unfold Fv Bg Ca Dt E9 J0 wROW
 simp
theorem text_blk (g:Ah) (i:Nat):F7 (Mq g i)=Vk g i:=by
 unfold Mq Vk
 rw[Gd,Gd,Gd,Gd,row_rec,Jx,Jx,Jx,show F7 []=[] from rfl,List.append_nil]
theorem jy (g:Ah):∀ n:Nat,F7 ((List.range n).flatMap (Mq g))=Cu g n
 | 0=>rfl
 | n+1=>by
  unfold Cu
  rw[Nu,Nu,textR_app,jy g n,text_blk]
  rfl
theorem jx (g:Ah):F7 (Cp g)=Mu g:=by
 unfold Cp Mu D4
 rw[Gd,Gd,Gd,jy,Jx,Jx]
 simp only[List.append_assoc]
theorem mh {α:Type} {f:Nat→List α} {m:Nat} (h:∀ q,(f q).length=m):∀ n:Nat,((List.range n).flatMap f).length=n * m
 | 0=>by simp
 | n+1=>by rw[Nu,List.length_append,mh h n,h,Nat.add_mul,Nat.one_mul]
theorem fm_get {α:Type} {f:Nat→List α} {m:Nat} (h:∀ q,(f q).length=m) {d:α} {r:Nat} (hr:r < m):∀ (n q:Nat),q < n→((List.range n).flatMap f).getD (q * m+r) d=(f q).getD r d
 | 0,_,hq=>absurd hq (Nat.not_lt_zero _)
 | n+1,q,hq=>by
  rw[Nu]
  have hl:=mh h n
  rcases Nat.lt_or_ge q n with hlt | hge
  ·have h1:(q+1) * m≤n * m:=Nat.mul_le_mul_right _ hlt
   rw[Nat.add_mul,Nat.one_mul]at h1
   rw[List.getD_eq_getElem?_getD,List.getElem?_append_left (by rw[hl];omega),← List.getD_eq_getElem?_getD,fm_get h hr n q hlt]
  ·obtain rfl:q=n:=by omega
   rw[List.getD_eq_getElem?_getD,List.getElem?_append_right (by rw[hl];omega),hl,Nat.add_sub_cancel_left,← List.getD_eq_getElem?_getD]
theorem O9 (g:Ah):(Cp g).length=g.Alts.length * 4+3:=by
 unfold Cp
 rw[List.length_cons,List.length_cons,List.length_cons,mh (m:=4) fun _=>rfl]
theorem rec_at {g:Ah} {q r:Nat} (h:q < g.Alts.length) (hr:r < 4):(Cp g).getD (q * 4+3+r) []=(Mq g q).getD r []:=by
 unfold Cp
 rw[show q * 4+3+r=(q * 4+r)+1+1+1 from by omega,List.getD_cons_succ,List.getD_cons_succ,List.getD_cons_succ]
 exact fm_get (f:=Mq g) (m:=4) (fun _=>rfl) hr _ q h
def gP (g:Ah) (n:Nat):Ah:={ g with Alts:=g.Alts.take n,Climb:=g.Climb.take n,ClimbFlow:=g.ClimbFlow.take n,Cruise:=g.Cruise.take n,Descent:=g.Descent.take n,Idle:=g.Idle.take n,MaxSpeed:=g.MaxSpeed.take n }
theorem Sk {ls:List A7} {k i:Nat} {g g':Ah} (hs:B3 (ls.getD i default) i g=.inl g'):Dv ls (k+1) i g=Dv ls k (i+1) g':=by
 show (match B3 (ls.getD i default) i g with | .inr d=>(Sum.inr d:Ah⊕A5) | .inl g'=>Dv ls k (i+1) g')=_
 rw[hs]
theorem hdP_eq {L:A7} {a:List UInt8} {b c d e f:Int} {E:Bool×A5} (h1:(L3 L).1=a) (h2:(L4 L).1=b) (h3:(L5 L).1=c) (h4:(L6 L).1=d) (h5:(L7 L).1=e) (h6:(K5 L).1=f) (h7:C5 L (K5 L).2=E):Zx L=⟨a,b,c,d,e,f,E⟩:=by
 unfold Zx
 rw[h1,h2,h3,h4,h5,h6,h7]
theorem rwH_eq {L:A7} {k:Nat} {a b c d:Int} {E:Bool×A5} (h1:(L8 k L).1=a) (h2:(L9 k L).1=b) (h3:(La k L).1=c) (h4:(Gp k L).1=d) (h5:C5 L (Gp k L).2=E):R7 k L=⟨a,b,c,d,E⟩:=by
 unfold R7
 rw[h1,h2,h3,h4,h5]
section
variable {g:Ah} (O:OkT g)
include O
theorem hd_ok:td (Dk g):=by
 have h0:=nt O
 have h1:=C6 (z:=g.Empty) (by have:=O.em;omega) (by have:=O.em;omega)
 have h2:=C6 (z:=g.MaxFuel) (by have:=O.mf;omega) (by have:=O.mf;omega)
 have h3:=C6 (z:=g.Ref) (by have:=O.rf;omega) (by have:=O.rf;omega)
 have h4:=C6 (z:=g.Extra) (by have:=O.ex;omega) (by have:=O.ex;omega)
 have h5:=gp O.ce.1 O.ce.2
 refine⟨fun s hs=>?_,by show 0 < 7;decide,?_⟩
 ·unfold Dk at hs
  simp only[List.mem_cons,List.not_mem_nil,or_false]at hs
  rcases hs with rfl | rfl | rfl | rfl | rfl | rfl | rfl
  ·exact⟨by decide,by decide⟩
  ·exact ok_name O.nm
  ·exact K3 _
  ·exact K3 _
  ·exact K3 _
  ·exact K3 _
  ·exact ok_alt _
 ·unfold Dk Bg Dt
  simp only[List.flatMap_cons,List.flatMap_nil,List.length_append,List.length_cons,List.length_nil,show wPERF.length=4 from rfl]
  omega
theorem row_ok {i:Nat} (hi:i < g.Alts.length):td (Fv g i):=by
 have a:=d8 O hi
 have h0:=a (g.Descent.getD i default) (by simp[J0])
 have h1:=a (g.Idle.getD i default) (by simp[J0])
 have h2:=a (g.MaxSpeed.getD i default) (by simp[J0])
 have l0:=C6 h0.1 h0.2
 have l1:=C6 h1.1 h1.2
 have l2:=C6 h2.1 h2.2
 have h5:=gp (O.al i hi).1 (O.al i hi).2
 refine⟨fun s hs=>?_,by show 0 < 5;decide,?_⟩
 ·unfold Fv at hs
  simp only[List.mem_cons,List.not_mem_nil,or_false]at hs
  rcases hs with rfl | rfl | rfl | rfl | rfl
  ·exact⟨by decide,by decide⟩
  ·exact ok_alt _
  ·exact K3 _
  ·exact K3 _
  ·exact K3 _
 ·unfold Fv Bg Dt
  simp only[List.flatMap_cons,List.flatMap_nil,List.length_append,List.length_cons,List.length_nil,show wROW.length=3 from rfl]
  omega
theorem recs_ok:∀ l∈Cp g,td l:=by
 have hm:=O.m
 intro l hl
 unfold Cp at hl
 rcases List.mem_cons.1 hl with rfl | hl
 ·exact hd_ok O
 rcases List.mem_cons.1 hl with rfl | hl
 ·exact Ve O.ma ⟨by decide,by decide⟩ (by decide) hm.2
 rcases List.mem_cons.1 hl with rfl | hl
 ·exact Ve O.mi.2 ⟨by decide,by decide⟩ (by decide) (by rw[O.mi.1];exact hm.2)
 obtain⟨q,hq,hl⟩:=List.mem_flatMap.1 hl
 have hq:=List.mem_range.1 hq
 unfold Mq at hl
 simp only[List.mem_cons,List.not_mem_nil,or_false]at hl
 rcases hl with rfl | rfl | rfl | rfl
 ·exact row_ok O hq
 ·exact Ve (O.cl.2 q hq).2 ⟨by decide,by decide⟩ (by decide) (by rw[(O.cl.2 q hq).1];exact hm.2)
 ·exact Ve (O.cf.2 q hq).2 ⟨by decide,by decide⟩ (by decide) (by rw[(O.cf.2 q hq).1];exact hm.2)
 ·exact Ve (O.cr.2 q hq).2 ⟨by decide,by decide⟩ (by decide) (by rw[(O.cr.2 q hq).1];exact hm.2)
theorem read_recs:Dh (Mu g)=([],Cz (Cp g)):=by
 rw[← jx g]
 exact AA2 (recs_ok O) (by rw[jx g];exact Nat.le_trans (txtQ_len O) (by decide))
theorem hd_of {N:Int}:Zx ⟨N,Ax 0 (Dk g)⟩=⟨g.Name,g.Empty,g.MaxFuel,g.Ref,g.Extra,g.Ceiling,(false,⟨0,0,0⟩)⟩:=by
 have hl:(Dk g).length=7:=rfl
 have q0:Dq 1 (Qx ⟨N,Ax 0 (Dk g)⟩):=fm yg (by rw[hl];decide) rfl
 have q1:(L3 ⟨N,Ax 0 (Dk g)⟩).1=g.Name∧Dq 2 (L3 ⟨N,Ax 0 (Dk g)⟩).2:=name_at q0 (by rw[hl];decide) rfl O.nm
 have q2:(L4 ⟨N,Ax 0 (Dk g)⟩).1=g.Empty∧Dq 3 (L4 ⟨N,Ax 0 (Dk g)⟩).2:=Ml q1.2 (by rw[hl];decide) rfl (by have:=O.em;omega) O.em.2
 have q3:(L5 ⟨N,Ax 0 (Dk g)⟩).1=g.MaxFuel∧Dq 4 (L5 ⟨N,Ax 0 (Dk g)⟩).2:=Ml q2.2 (by rw[hl];decide) rfl (by have:=O.mf;omega) O.mf.2
 have q4:(L6 ⟨N,Ax 0 (Dk g)⟩).1=g.Ref∧Dq 5 (L6 ⟨N,Ax 0 (Dk g)⟩).2:=Ml q3.2 (by rw[hl];decide) rfl (by have:=O.rf;omega) O.rf.2
 have q5:(L7 ⟨N,Ax 0 (Dk g)⟩).1=g.Extra∧Dq 6 (L7 ⟨N,Ax 0 (Dk g)⟩).2:=Ml q4.2 (by rw[hl];decide) rfl (by have:=O.ex;omega) O.ex.2
 have q6:(K5 ⟨N,Ax 0 (Dk g)⟩).1=g.Ceiling∧Dq 7 (K5 ⟨N,Ax 0 (Dk g)⟩).2:=alt_at q5.2 (by rw[hl];decide) rfl O.ce.1 O.ce.2
 exact hdP_eq q1.1 q2.1 q3.1 q4.1 q5.1 q6.1 (mc (l:=Dk g) q6.2)
theorem row_of {N:Int} {i k:Nat} (hi:i < g.Alts.length) (hk:k≠12):R7 k ⟨N,Ax 0 (Fv g i)⟩=⟨g.Alts.getD i default,g.Descent.getD i default,g.Idle.getD i default,g.MaxSpeed.getD i default,(false,⟨0,0,0⟩)⟩:=by
 have hl:(Fv g i).length=5:=rfl
 have d1:=O.de.2 _ (Ay (i:=i) (by have:=O.de.1;omega))
 have d2:=O.id.2 _ (Ay (i:=i) (by have:=O.id.1;omega))
 have d3:=O.ms.2 _ (Ay (i:=i) (by have:=O.ms.1;omega))
 have q0:Dq 1 (En ⟨N,Ax 0 (Fv g i)⟩):=fm yg (by rw[hl];decide) rfl
 have q1:Dq 1 (Gn k ⟨N,Ax 0 (Fv g i)⟩):=by unfold Gn;rw[if_neg hk];exact q0
 have q2:(L8 k ⟨N,Ax 0 (Fv g i)⟩).1=g.Alts.getD i default∧Dq 2 (L8 k ⟨N,Ax 0 (Fv g i)⟩).2:=alt_at q1 (by rw[hl];decide) rfl (O.al i hi).1 (O.al i hi).2
 have q3:(L9 k ⟨N,Ax 0 (Fv g i)⟩).1=g.Descent.getD i default∧Dq 3 (L9 k ⟨N,Ax 0 (Fv g i)⟩).2:=Ml q2.2 (by rw[hl];decide) rfl d1.1 d1.2
 have q4:(La k ⟨N,Ax 0 (Fv g i)⟩).1=g.Idle.getD i default∧Dq 4 (La k ⟨N,Ax 0 (Fv g i)⟩).2:=Ml q3.2 (by rw[hl];decide) rfl d2.1 d2.2
 have q5:(Gp k ⟨N,Ax 0 (Fv g i)⟩).1=g.MaxSpeed.getD i default∧Dq 5 (Gp k ⟨N,Ax 0 (Fv g i)⟩).2:=Ml q4.2 (by rw[hl];decide) rfl d3.1 d3.2
 exact rwH_eq q2.1 q3.1 q4.1 q5.1 (mc (l:=Fv g i) q5.2)
theorem W8 {q r:Nat} (h:q < g.Alts.length) (hr:r < 4) {x:List (List UInt8)} (hx:(Mq g q).getD r []=x):(Cz (Cp g)).getD (q * 4+3+r) default=⟨((q * 4+3+r:Nat):Int)+1,Ax 0 x⟩:=by
 rw[M3 (by rw[O9];omega),rec_at h hr,hx]
theorem run_row {q:Nat} (h:q < g.Alts.length) (k:Nat):Dv (Cz (Cp g)) (k+1+1+1+1) (q * 4+3) (gP g q)=Dv (Cz (Cp g)) k ((q+1) * 4+3) (gP g (q+1)):=by
 have hn:=O.n
 have hm:=O.m
 have c1:=O.cl.2 q h
 have c2:=O.cf.2 q h
 have c3:=O.cr.2 q h
 have hal:(gP g q).Alts.length=q:=by show (g.Alts.take q).length=q;rw[List.length_take];omega
 have s1:B3 ((Cz (Cp g)).getD (q * 4+3) default) (q * 4+3) (gP g q)=.inl (Pz (gP g q) ⟨g.Alts.getD q default,g.Descent.getD q default,g.Idle.getD q default,g.MaxSpeed.getD q default,(false,⟨0,0,0⟩)⟩):=by
  have e:=W8 O (r:=0) h (by decide) rfl
  rw[Nat.add_zero]at e
  rw[e]
  unfold B3
  rw[if_neg (by omega),if_neg (by omega),if_neg (by omega),if_pos (by omega),hal]
  rw[show (Mq g q).getD 0 []=Fv g q from rfl,row_of O h (by omega)]
  rfl
 rw[Sk s1]
 generalize hA:Pz (gP g q) ⟨g.Alts.getD q default,g.Descent.getD q default,g.Idle.getD q default,g.MaxSpeed.getD q default,(false,⟨0,0,0⟩)⟩=A
 have s2:B3 ((Cz (Cp g)).getD (q * 4+3+1) default) (q * 4+3+1) A=.inl (Xm A (g.Climb.getD q default)):=by
  rw[W8 O (r:=1) h (by decide) rfl]
  unfold B3
  rw[if_neg (by omega),if_neg (by omega),if_neg (by omega),if_neg (by omega),if_pos (by omega)]
  rw[show (Mq g q).getD 1 []=Dc wCLIMB (g.Climb.getD q default) from rfl,bc c1.2 (by omega) (by omega)]
  rfl
 rw[Sk s2]
 generalize hB:Xm A (g.Climb.getD q default)=B
 have s3:B3 ((Cz (Cp g)).getD (q * 4+3+1+1) default) (q * 4+3+1+1) B=.inl (Cb B (g.ClimbFlow.getD q default)):=by
  rw[show q * 4+3+1+1=q * 4+3+2 from rfl,W8 O (r:=2) h (by decide) rfl]
  unfold B3
  rw[if_neg (by omega),if_neg (by omega),if_neg (by omega),if_neg (by omega),if_neg (by omega),if_pos (by omega)]
  rw[show (Mq g q).getD 2 []=Dc wCLIMBFLOW (g.ClimbFlow.getD q default) from rfl,bc c2.2 (by omega) (by omega)]
  rfl
 rw[Sk s3]
 generalize hC:Cb B (g.ClimbFlow.getD q default)=C
 have s4:B3 ((Cz (Cp g)).getD (q * 4+3+1+1+1) default) (q * 4+3+1+1+1) C=.inl (lw C (g.Cruise.getD q default)):=by
  rw[show q * 4+3+1+1+1=q * 4+3+3 from rfl,W8 O (r:=3) h (by decide) rfl]
  unfold B3
  rw[if_neg (by omega),if_neg (by omega),if_neg (by omega),if_neg (by omega),if_neg (by omega),if_neg (by omega)]
  rw[show (Mq g q).getD 3 []=Dc wCRUISE (g.Cruise.getD q default) from rfl,bc c3.2 (by omega) (by omega)]
  rfl
 rw[Sk s4]
 have e:lw C (g.Cruise.getD q default)=gP g (q+1):=by
  have a1:=O.cl.1
  have a2:=O.cf.1
  have a3:=O.cr.1
  have a4:=O.de.1
  have a5:=O.id.1
  have a6:=O.ms.1
  subst hC hB hA
  unfold lw Cb Xm Pz gP
  simp only
  rw[F6 h,F6 (l:=g.Climb) (by omega),F6 (l:=g.ClimbFlow) (by omega),F6 (l:=g.Cruise) (by omega),F6 (l:=g.Descent) (by omega),F6 (l:=g.Idle) (by omega),F6 (l:=g.MaxSpeed) (by omega)]
 rw[e,show q * 4+3+1+1+1+1=(q+1) * 4+3 from by omega]
theorem qv:∀ (m q:Nat),q+m=g.Alts.length→Dv (Cz (Cp g)) (m * 4) (q * 4+3) (gP g q)=.inl g
 | 0,q,hq=>by
  obtain rfl:q=g.Alts.length:=by omega
  show Sum.inl _=_
  have a1:=O.cl.1
  have a2:=O.cf.1
  have a3:=O.cr.1
  have a4:=O.de.1
  have a5:=O.id.1
  have a6:=O.ms.1
  congr 1
  unfold gP
  rw[List.take_of_length_le (Nat.le_refl _),List.take_of_length_le (l:=g.Climb) (by omega),List.take_of_length_le (l:=g.ClimbFlow) (by omega),List.take_of_length_le (l:=g.Cruise) (by omega),List.take_of_length_le (l:=g.Descent) (by omega),List.take_of_length_le (l:=g.Idle) (by omega),List.take_of_length_le (l:=g.MaxSpeed) (by omega)]
 | m+1,q,hq=>by
  rw[show (m+1) * 4=m * 4+1+1+1+1 from by omega,run_row O (by omega)]
  exact qv m (q+1) (by omega)
theorem run_all:Dv (Cz (Cp g)) (g.Alts.length * 4+1+1+1) 0 zP=.inl g:=by
 have hm:=O.m
 have t1:B3 ((Cz (Cp g)).getD 0 default) 0 zP=.inl (Gu zP ⟨g.Name,g.Empty,g.MaxFuel,g.Ref,g.Extra,g.Ceiling,(false,⟨0,0,0⟩)⟩):=by
  rw[M3 (i:=0) (by rw[O9];omega)]
  unfold B3
  rw[if_pos rfl,show (Cp g).getD 0 []=Dk g from rfl,hd_of O]
  rfl
 rw[Sk t1]
 generalize hA:Gu zP ⟨g.Name,g.Empty,g.MaxFuel,g.Ref,g.Extra,g.Ceiling,(false,⟨0,0,0⟩)⟩=A
 have t2:B3 ((Cz (Cp g)).getD (0+1) default) (0+1) A=.inl { A with Masses:=g.Masses }:=by
  rw[M3 (i:=0+1) (by rw[O9];omega)]
  unfold B3
  rw[if_neg (by decide),if_pos rfl,show (Cp g).getD (0+1) []=Dc wMASSES g.Masses from rfl,bc O.ma (by omega) (by omega)]
  rfl
 rw[Sk t2]
 generalize hB:({ A with Masses:=g.Masses }:Ah)=B
 have t3:B3 ((Cz (Cp g)).getD (0+1+1) default) (0+1+1) B=.inl { B with MinSpeed:=g.MinSpeed }:=by
  rw[M3 (i:=0+1+1) (by rw[O9];omega)]
  unfold B3
  rw[if_neg (by decide),if_neg (by decide),if_pos rfl,show (Cp g).getD (0+1+1) []=Dc wMINSPEED g.MinSpeed from rfl,bc O.mi.2 (by rw[O.mi.1];omega) (by rw[O.mi.1];omega)]
  rfl
 rw[Sk t3]
 have e:({ B with MinSpeed:=g.MinSpeed }:Ah)=gP g 0:=by
  subst hB hA
  rfl
 rw[e]
 exact qv O g.Alts.length 0 (by omega)
theorem parse_txt (h0:Cw g=0):Hk (Mu g)=(g,[]):=by
 have hn:=O.n
 have hlen:(Cz (Cp g)).length=g.Alts.length * 4+3:=by rw[zg,O9]
 unfold Hk
 rw[read_recs O,if_neg (by simp)]
 simp only
 rw[hlen,run_all O,Nt,if_neg (by rw[hlen];omega),if_neg (fun h=>h h0)]
end
end Go.Av.Txs
set_option maxRecDepth 100000
namespace Go.Av.Txs
open Go.Av
noncomputable abbrev ag (a0:List Int) (a1:List Int):(Int)→Option ((Int)⊕((Unit)⊕(Bool))):=(fun(s1:Int)=>((if(decide (s1 < (a0.length:Int)))=true then(if(0≤s1)then(if(s1 < (a0.length:Int))then(if(0≤s1)then(if(s1 < (a1.length:Int))then(if((a0.getD s1.toNat default) != (a1.getD s1.toNat default))=true then(some (.inr (.inr (false))))else(some (.inl (IntKind.wrap .i64 (s1+1)))))else none)else none)else none)else none)else(some (.inr (.inl ())))):Option ((Int)⊕((Unit)⊕(Bool)))))
theorem A52  (a0 a1:List Int):Mg a0 a1=((Option.bind (if((a0.length:Int) != (a1.length:Int))=true then(some (.inr (false)))else(some (.inl ()))) (Ad fun(_:Unit)=>(Option.bind (Option.bind (some (.inl ())) (Ad fun(_:Unit)=>(Ak (ag a0 a1) (0:Int)))) (Ad fun(_:Unit)=>(some true))))):Option (Bool)):=by kernel_rfl
noncomputable abbrev ah (a0:List (List Int)) (a1:List (List Int)):(Int)→Option ((Int)⊕((Unit)⊕(Bool))):=(fun(s1:Int)=>((if(decide (s1 < (a0.length:Int)))=true then(Option.bind ((if 0≤s1 then(if s1 < (a0.length:Int)then(if 0≤s1 then(if s1 < (a1.length:Int)then((Mg (a0.getD s1.toNat default) (a1.getD s1.toNat default)).bind fun r6_0=>some r6_0)else none)else none)else none)else none)) fun(x6:(Bool))=>(if(!x6)=true then(some (.inr (.inr (false))))else(some (.inl (IntKind.wrap .i64 (s1+1))))))else(some (.inr (.inl ())))):Option ((Int)⊕((Unit)⊕(Bool)))))
theorem A53  (a0 a1:List (List Int)):bq a0 a1=((Option.bind (if((a0.length:Int) != (a1.length:Int))=true then(some (.inr (false)))else(some (.inl ()))) (Ad fun(_:Unit)=>(Option.bind (Option.bind (some (.inl ())) (Ad fun(_:Unit)=>(Ak (ah a0 a1) (0:Int)))) (Ad fun(_:Unit)=>(some true))))):Option (Bool)):=by kernel_rfl
theorem A17  (a0 a1:Ah):m17 a0 a1=((Option.bind (((if((((((a0.Name==a1.Name)&&(a0.Empty==a1.Empty))&&(a0.MaxFuel==a1.MaxFuel))&&(a0.Ref==a1.Ref))&&(a0.Extra==a1.Extra))&&(a0.Ceiling==a1.Ceiling))=true then Mg a0.Alts a1.Alts else some default).bind fun r1_0=>((if(((((((a0.Name==a1.Name)&&(a0.Empty==a1.Empty))&&(a0.MaxFuel==a1.MaxFuel))&&(a0.Ref==a1.Ref))&&(a0.Extra==a1.Extra))&&(a0.Ceiling==a1.Ceiling))&&r1_0)=true then Mg a0.Masses a1.Masses else some default).bind fun r1_1=>((if((((((((a0.Name==a1.Name)&&(a0.Empty==a1.Empty))&&(a0.MaxFuel==a1.MaxFuel))&&(a0.Ref==a1.Ref))&&(a0.Extra==a1.Extra))&&(a0.Ceiling==a1.Ceiling))&&r1_0)&&r1_1)=true then bq a0.Climb a1.Climb else some default).bind fun r1_2=>((if(((((((((a0.Name==a1.Name)&&(a0.Empty==a1.Empty))&&(a0.MaxFuel==a1.MaxFuel))&&(a0.Ref==a1.Ref))&&(a0.Extra==a1.Extra))&&(a0.Ceiling==a1.Ceiling))&&r1_0)&&r1_1)&&r1_2)=true then bq a0.ClimbFlow a1.ClimbFlow else some default).bind fun r1_3=>((if((((((((((a0.Name==a1.Name)&&(a0.Empty==a1.Empty))&&(a0.MaxFuel==a1.MaxFuel))&&(a0.Ref==a1.Ref))&&(a0.Extra==a1.Extra))&&(a0.Ceiling==a1.Ceiling))&&r1_0)&&r1_1)&&r1_2)&&r1_3)=true then bq a0.Cruise a1.Cruise else some default).bind fun r1_4=>((if(((((((((((a0.Name==a1.Name)&&(a0.Empty==a1.Empty))&&(a0.MaxFuel==a1.MaxFuel))&&(a0.Ref==a1.Ref))&&(a0.Extra==a1.Extra))&&(a0.Ceiling==a1.Ceiling))&&r1_0)&&r1_1)&&r1_2)&&r1_3)&&r1_4)=true then Mg a0.Descent a1.Descent else some default).bind fun r1_5=>((if((((((((((((a0.Name==a1.Name)&&(a0.Empty==a1.Empty))&&(a0.MaxFuel==a1.MaxFuel))&&(a0.Ref==a1.Ref))&&(a0.Extra==a1.Extra))&&(a0.Ceiling==a1.Ceiling))&&r1_0)&&r1_1)&&r1_2)&&r1_3)&&r1_4)&&r1_5)=true then Mg a0.Idle a1.Idle else some default).bind fun r1_6=>((if(((((((((((((a0.Name==a1.Name)&&(a0.Empty==a1.Empty))&&(a0.MaxFuel==a1.MaxFuel))&&(a0.Ref==a1.Ref))&&(a0.Extra==a1.Extra))&&(a0.Ceiling==a1.Ceiling))&&r1_0)&&r1_1)&&r1_2)&&r1_3)&&r1_4)&&r1_5)&&r1_6)=true then Mg a0.MaxSpeed a1.MaxSpeed else some default).bind fun r1_7=>((if((((((((((((((a0.Name==a1.Name)&&(a0.Empty==a1.Empty))&&(a0.MaxFuel==a1.MaxFuel))&&(a0.Ref==a1.Ref))&&(a0.Extra==a1.Extra))&&(a0.Ceiling==a1.Ceiling))&&r1_0)&&r1_1)&&r1_2)&&r1_3)&&r1_4)&&r1_5)&&r1_6)&&r1_7)=true then Mg a0.MinSpeed a1.MinSpeed else some default).bind fun r1_8=>some (r1_0,r1_1,r1_2,r1_3,r1_4,r1_5,r1_6,r1_7,r1_8))))))))))) fun(x1:(Bool×P48))=>(some (((((((((((((((a0.Name==a1.Name)&&(a0.Empty==a1.Empty))&&(a0.MaxFuel==a1.MaxFuel))&&(a0.Ref==a1.Ref))&&(a0.Extra==a1.Extra))&&(a0.Ceiling==a1.Ceiling))&&x1.1)&&x1.2.1)&&x1.2.2.1)&&x1.2.2.2.1)&&x1.2.2.2.2.1)&&x1.2.2.2.2.2.1)&&x1.2.2.2.2.2.2.1)&&x1.2.2.2.2.2.2.2.1)&&x1.2.2.2.2.2.2.2.2))):Option (Bool)):=by kernel_rfl
noncomputable abbrev af (a0:List A5) (a1:List A5):(Int)→Option ((Int)⊕((Unit)⊕(Bool))):=(fun(s1:Int)=>((if(decide (s1 < (a0.length:Int)))=true then(if(0≤s1)then(if(s1 < (a0.length:Int))then(if(0≤s1)then(if(s1 < (a1.length:Int))then(if(!(((a0.getD s1.toNat default).Line==(a1.getD s1.toNat default).Line)&&(((a0.getD s1.toNat default).Ai==(a1.getD s1.toNat default).Ai)&&(((a0.getD s1.toNat default).Code==(a1.getD s1.toNat default).Code)&&true))))=true then(some (.inr (.inr (false))))else(some (.inl (IntKind.wrap .i64 (s1+1)))))else none)else none)else none)else none)else(some (.inr (.inl ())))):Option ((Int)⊕((Unit)⊕(Bool)))))
theorem A19  (a0 a1:List A5):m19 a0 a1=((Option.bind (if((a0.length:Int) != (a1.length:Int))=true then(some (.inr (false)))else(some (.inl ()))) (Ad fun(_:Unit)=>(Option.bind (Option.bind (some (.inl ())) (Ad fun(_:Unit)=>(Ak (af a0 a1) (0:Int)))) (Ad fun(_:Unit)=>(some true))))):Option (Bool)):=by kernel_rfl
theorem fj {b : Int → Option (Int ⊕ (Unit ⊕ Bool))} {n : Nat} (h : ∀ i : Nat, i < n → b (i : Int) = some (.inl ((i + 1 : Nat) : Int))) (he : b (n : Int) = some (.inr (.inl ()))) : Ak b 0 = some (.inl ()) := by
  have key : ∀ k i : Nat, i + k = n → Ak b (i : Int) = some (.inl ()) := by
    intro k
    induction k with
    | zero => intro i hi; obtain rfl : i = n := by omega
              exact Bh he
    | succ k ih => intro i hi; exact Bm (h i (by omega)) (ih (i + 1) (by omega))
  exact key n 0 (by omega)
theorem wnL {i n:Nat} (h:i < n) (hn:n≤9223372036854775807):IntKind.wrap .i64 ((i:Int)+1)=((i+1:Nat):Int):=by rw[B2 (by omega) (by omega)];omega
theorem ml_le {n:Nat} (h:n≤maxLen):n≤9223372036854775807:=Nat.le_trans h (by decide)
theorem Ny {l:List Int} (h:l.length≤maxLen):Mg l l=some true:=by
 have hm:=ml_le h
 have l1:Ak (ag l l) 0=some (.inl ()):=fj (n:=l.length) (fun i hi=>by
  simp only[ag,Int.toNat_natCast]
  rw[if_pos (decide_eq_true (show (i:Int) < (l.length:Int) from by omega)),if_pos (by omega),if_pos (by omega),if_pos (by omega),if_pos (by omega),if_neg (by simp),wnL hi (by omega)]) (by
  simp only[ag]
  rw[if_neg (by simp)])
 rw[A52]
 simp only[bne_self_eq_false,Bool.false_eq_true,if_false,bs,ol,l1]
theorem fh {t:List (List Int)} (h:t.length≤maxLen∧∀ b∈t,(b.length≤maxLen∧∀ c∈b,(Lit.int .i64 c).wf=true)):bq t t=some true:=by
 have hm:=ml_le h.1
 have l1:Ak (ah t t) 0=some (.inl ()):=fj (n:=t.length) (fun i hi=>by
  simp only[ah,Int.toNat_natCast]
  rw[if_pos (decide_eq_true (show (i:Int) < (t.length:Int) from by omega)),if_pos (by omega),if_pos (by omega),if_pos (by omega),if_pos (by omega),Ny (h.2 _ (Ay hi)).1]
  simp only[bs,Bool.not_true,Bool.false_eq_true,if_false]
  rw[wnL hi (by omega)]) (by
  simp only[ah]
  rw[if_neg (by simp)])
 rw[A53]
 simp only[bne_self_eq_false,Bool.false_eq_true,if_false,bs,ol,l1]
theorem same_t {g:Ah} (h:Kt g):m17 g g=some true:=by
 obtain⟨_,_,_,al,ma,cl,cf,cr,de,id,ms,mi,_,_,_⟩:=h
 rw[A17,Ny al.1,Ny ma.1,fh cl,fh cf,fh cr,Ny de.1,Ny id.1,Ny ms.1,Ny mi.1]
 simp only[beq_self_eq_true,Bool.and_self,if_true,bs]
theorem diags_t {l:List A5} (h:l.length≤9223372036854775807):m19 l l=some true:=by
 have l1:Ak (af l l) 0=some (.inl ()):=fj (n:=l.length) (fun i hi=>by
  simp only[af,Int.toNat_natCast]
  rw[if_pos (decide_eq_true (show (i:Int) < (l.length:Int) from by omega)),if_pos (by omega),if_pos (by omega),if_pos (by omega),if_pos (by omega),if_neg (by simp),wnL hi (by omega)]) (by
  simp only[af]
  rw[if_neg (by simp)])
 rw[A19]
 simp only[bne_self_eq_false,Bool.false_eq_true,if_false,bs,ol,l1]
def Pw (Q:Ah×List A5):Prop:=Kt Q.1∧Q.2.length≤50∧(Q.2=[]→Cw Q.1=0)
theorem zP_wf:Kt zP:=cj (i:=0) (by decide) zP_ok
theorem q9 (d:A5):Pw (zP,[d]):=⟨zP_wf,by show 1≤50;decide,fun h=>by cases h⟩
theorem pw_fin {ls:List A7}:∀ R:Ah⊕A5,(∀ g,R=.inl g→Kt g)→Pw (Lh ls R)
 | .inr d,_=>q9 d
 | .inl g,h=>by
  rw[Nt]
  split
  ·exact q9 _
  ·split
   ·exact q9 _
   ·rename_i hc
    exact⟨h g rfl,Nat.zero_le _,fun _=>Classical.not_not.1 hc⟩
theorem parse_wf (s:List UInt8):Pw (Hk s):=by
 obtain⟨hl,ho⟩:=Yc s
 unfold Hk
 split
 ·rename_i h
  refine⟨zP_wf,?_,fun e=>?_⟩
  ·show (Dh s).1.length≤50
   unfold Dh
   split
   ·decide
   ·exact(Pj _ _).2
  ·have e:(Dh s).1=[]:=e
   rw[e]at h
   exact absurd h (Nat.lt_irrefl _)
 ·refine pw_fin _ fun g e=>?_
  exact cj (i:=0+(Dh s).2.length) (by omega) (fd ho _ 0 (by omega) zP_ok e)
theorem awake_t:m13=some true:=by kernel_rfl
theorem A4  (a0:Ah) (a1:List UInt8):m4 a0 a1=((Option.bind (Option.bind (m13) fun r=>some r) fun x1=>(if(!x1)=true then(some false)else(Option.bind (Option.bind (m14 a0) fun r=>some r) fun x3=>(Option.bind (Option.bind (m15 a0) fun r=>some r) fun x4=>(if((x3.1 != x4.1) || (x3.2 != x4.2))=true then(some false)else(if(x3.2==0)=true then(Option.bind (Option.bind (m16 x3.1) fun r=>some r) fun x8=>(Option.bind (((if(!(decide (0 < (x8.2.length:Int))))=true then m17 x8.1 a0 else some default).bind fun r9_0=>some r9_0)) fun(x9:(Bool))=>(if((decide (0 < (x8.2.length:Int))) || (!x9))=true then(some false)else(Option.bind (Option.bind (m16 a1) fun r=>some r) fun x11=>(Option.bind (Option.bind (m18 a1) fun r=>some r) fun x12=>(Option.bind (((m17 x11.1 x12.1).bind fun r13_0=>((if r13_0=true then m19 x11.2 x12.2 else some default).bind fun r13_1=>((if((r13_0&&r13_1)&&(!(decide (0 < (x11.2.length:Int)))))=true then Pc x11.1 else some default).bind fun r13_2=>some (r13_0,r13_1,r13_2))))) fun(x13:(P46))=>(some ((x13.1&&x13.2.1)&&((decide (0 < (x11.2.length:Int))) || (x13.2.2==0))))))))))else(Option.bind (Option.bind (m16 a1) fun r=>some r) fun x11=>(Option.bind (Option.bind (m18 a1) fun r=>some r) fun x12=>(Option.bind (((m17 x11.1 x12.1).bind fun r13_0=>((if r13_0=true then m19 x11.2 x12.2 else some default).bind fun r13_1=>((if((r13_0&&r13_1)&&(!(decide (0 < (x11.2.length:Int)))))=true then Pc x11.1 else some default).bind fun r13_2=>some (r13_0,r13_1,r13_2))))) fun(x13:(P46))=>(some ((x13.1&&x13.2.1)&&((decide (0 < (x11.2.length:Int))) || (x13.2.2==0))))))))))))):Option (Bool)):=by kernel_rfl
theorem pt_true {g:Ah} (hg:Kt g) (s:List UInt8):m4 g s=some true:=by
 obtain⟨P,D,C⟩:=parse_wf s
 have back:Option.bind (Option.bind (m16 s) fun r=>some r) (fun x11=>(Option.bind (Option.bind (m18 s) fun r=>some r) fun x12=>(Option.bind (((m17 x11.1 x12.1).bind fun r13_0=>((if r13_0=true then m19 x11.2 x12.2 else some default).bind fun r13_1=>((if((r13_0&&r13_1)&&(!(decide (0 < (x11.2.length:Int)))))=true then Pc x11.1 else some default).bind fun r13_2=>some (r13_0,r13_1,r13_2))))) fun(x13:(P46))=>(some ((x13.1&&x13.2.1)&&((decide (0 < (x11.2.length:Int))) || (x13.2.2==0)))))))=some true:=by
  rw[gk,Parse_r31]
  simp only[bs]
  rw[same_t P]
  simp only[bs,if_true]
  rw[diags_t (by omega)]
  simp only[bs,Bool.and_self,Bool.true_and]
  by_cases h:(Hk s).2=[]
  ·rw[ym P,C h,h]
   rfl
  ·have h0:0 < (Hk s).2.length:=List.length_pos_iff.2 h
   rw[show decide ((0:Int) < ((Hk s).2.length:Int))=true from decide_eq_true (by omega)]
   rfl
 rw[A4,awake_t]
 simp only[bs,Bool.not_true,Bool.false_eq_true,if_false]
 rw[Text_p31 hg,Text_r31 hg]
 simp only[bs,bne_self_eq_false,Bool.or_self,Bool.false_eq_true,if_false]
 by_cases h:Cw g=0
 ·have O:=pe ((Xs hg).1 h)
  have e1:Po g=(Mu g,0):=by unfold Po;rw[if_pos h]
  rw[e1]
  simp only[beq_self_eq_true,if_true]
  rw[gk (Mu g),parse_txt O h]
  simp only[bs,List.length_nil]
  rw[if_pos (show (!(decide ((0:Int) < ((0:Nat):Int))))=true from rfl),same_t hg]
  simp only[bs]
  exact back
 ·have e1:Po g=([],Cw g):=by unfold Po;rw[if_neg h]
  rw[e1]
  simp only
  rw[if_neg (by simpa using h)]
  exact back
end Go.Av.Txs
namespace Go.Av
theorem plain4 {g:Ah} {s:List UInt8} (b:Kt g) (_:s.length≤maxLen):m4 g s=some true:=Txs.pt_true b s
end Go.Av
