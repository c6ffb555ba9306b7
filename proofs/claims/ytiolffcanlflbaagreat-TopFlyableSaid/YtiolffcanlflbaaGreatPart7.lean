/- A part of the proof. -/
import Derived.Test.YtiolffcanlflbaaGreatPart6
set_option linter.unusedVariables false
set_option linter.unusedSimpArgs false
set_option maxRecDepth 100000
namespace Go.Av.Air
theorem M103 (a0:List A7) (a1:List An):Wo a0 a1=((Option.bind (Option.bind (Option.bind (Va a0 a1) fun r=>some r) fun x1=>(if(x1.2 != 0)=true then(some (.inr (([],x1.2))))else(if(decide (0 < (x1.1.length:Int)))=true then(some (.inr (([],(11:Int)))))else(Option.bind ((if 0 < a0.length then(if a0.length * 16≤140737488355328 then some ()else none)else none)) fun(x6:(Unit))=>(some (.inl ())))))) (A5 fun(_:Unit)=>(Option.bind (Option.bind (some (.inl ())) (A5 fun(_:Unit)=>(Ad (fun(s1:(List A7)×Int)=>((Option.bind (if(decide (s1.2 < (a0.length:Int)))=true then(some (.inl ()))else(some (.inr (.inr (.inl s1.1))))) (A5 fun(_:Unit)=>(Option.bind (Option.bind (if(0≤s1.2)then(if(s1.2 < (a0.length:Int))then(if(s1.2.toNat < a0.length)then(if(0≤(IntKind.wrap .i64 (s1.2 - 1)))then(if((IntKind.wrap .i64 (s1.2 - 1)) < (a0.length:Int))then(if((IntKind.wrap .i64 (s1.2 - 1)).toNat < a0.length)then(if(0≤(IntKind.wrap .i64 (s1.2 - 1)))then(if((IntKind.wrap .i64 (s1.2 - 1)) < (a1.length:Int))then(if(0≤s1.2)then(if(s1.2 < (a0.length:Int))then(if(s1.2.toNat < a0.length)then(some (.inl ()))else none)else none)else none)else none)else none)else none)else none)else none)else none)else none)else none) (A5 fun(_:Unit)=>(if(0≤s1.2)then(if(s1.2 < (a0.length:Int))then(if(s1.2.toNat < a0.length)then(if(0≤(IntKind.wrap .i64 (s1.2 - 1)))then(if((IntKind.wrap .i64 (s1.2 - 1)) < (a0.length:Int))then(if((IntKind.wrap .i64 (s1.2 - 1)).toNat < a0.length)then(if(0≤(IntKind.wrap .i64 (s1.2 - 1)))then(if((IntKind.wrap .i64 (s1.2 - 1)) < (a1.length:Int))then(if(0≤s1.2)then(if(s1.2 < (a0.length:Int))then(if(s1.2.toNat < a0.length)then(some (.inl ()))else none)else none)else none)else none)else none)else none)else none)else none)else none)else none)else none))) (A5 fun(_:Unit)=>(some (.inl (((A9 ((A9 s1.1 0 a0.length).set s1.2.toNat (⟨((A9 s1.1 0 a0.length).getD s1.2.toNat default).Lo,(if(IntKind.wrap .i64 ((s1.1.getD (IntKind.wrap .i64 (s1.2 - 1)).toNat default).Hi+(a1.getD (IntKind.wrap .i64 (s1.2 - 1)).toNat default).Up)) < (s1.1.getD s1.2.toNat default).Hi then(IntKind.wrap .i64 ((s1.1.getD (IntKind.wrap .i64 (s1.2 - 1)).toNat default).Hi+(a1.getD (IntKind.wrap .i64 (s1.2 - 1)).toNat default).Up))else(s1.1.getD s1.2.toNat default).Hi)⟩:A7)) 0 a0.length).set s1.2.toNat (⟨(if(((A9 s1.1 0 a0.length).set s1.2.toNat (⟨((A9 s1.1 0 a0.length).getD s1.2.toNat default).Lo,(if(IntKind.wrap .i64 ((s1.1.getD (IntKind.wrap .i64 (s1.2 - 1)).toNat default).Hi+(a1.getD (IntKind.wrap .i64 (s1.2 - 1)).toNat default).Up)) < (s1.1.getD s1.2.toNat default).Hi then(IntKind.wrap .i64 ((s1.1.getD (IntKind.wrap .i64 (s1.2 - 1)).toNat default).Hi+(a1.getD (IntKind.wrap .i64 (s1.2 - 1)).toNat default).Up))else(s1.1.getD s1.2.toNat default).Hi)⟩:A7)).getD s1.2.toNat default).Lo < (IntKind.wrap .i64 ((((A9 s1.1 0 a0.length).set s1.2.toNat (⟨((A9 s1.1 0 a0.length).getD s1.2.toNat default).Lo,(if(IntKind.wrap .i64 ((s1.1.getD (IntKind.wrap .i64 (s1.2 - 1)).toNat default).Hi+(a1.getD (IntKind.wrap .i64 (s1.2 - 1)).toNat default).Up)) < (s1.1.getD s1.2.toNat default).Hi then(IntKind.wrap .i64 ((s1.1.getD (IntKind.wrap .i64 (s1.2 - 1)).toNat default).Hi+(a1.getD (IntKind.wrap .i64 (s1.2 - 1)).toNat default).Up))else(s1.1.getD s1.2.toNat default).Hi)⟩:A7)).getD (IntKind.wrap .i64 (s1.2 - 1)).toNat default).Lo - (a1.getD (IntKind.wrap .i64 (s1.2 - 1)).toNat default).Down))then(IntKind.wrap .i64 ((((A9 s1.1 0 a0.length).set s1.2.toNat (⟨((A9 s1.1 0 a0.length).getD s1.2.toNat default).Lo,(if(IntKind.wrap .i64 ((s1.1.getD (IntKind.wrap .i64 (s1.2 - 1)).toNat default).Hi+(a1.getD (IntKind.wrap .i64 (s1.2 - 1)).toNat default).Up)) < (s1.1.getD s1.2.toNat default).Hi then(IntKind.wrap .i64 ((s1.1.getD (IntKind.wrap .i64 (s1.2 - 1)).toNat default).Hi+(a1.getD (IntKind.wrap .i64 (s1.2 - 1)).toNat default).Up))else(s1.1.getD s1.2.toNat default).Hi)⟩:A7)).getD (IntKind.wrap .i64 (s1.2 - 1)).toNat default).Lo - (a1.getD (IntKind.wrap .i64 (s1.2 - 1)).toNat default).Down))else(((A9 s1.1 0 a0.length).set s1.2.toNat (⟨((A9 s1.1 0 a0.length).getD s1.2.toNat default).Lo,(if(IntKind.wrap .i64 ((s1.1.getD (IntKind.wrap .i64 (s1.2 - 1)).toNat default).Hi+(a1.getD (IntKind.wrap .i64 (s1.2 - 1)).toNat default).Up)) < (s1.1.getD s1.2.toNat default).Hi then(IntKind.wrap .i64 ((s1.1.getD (IntKind.wrap .i64 (s1.2 - 1)).toNat default).Hi+(a1.getD (IntKind.wrap .i64 (s1.2 - 1)).toNat default).Up))else(s1.1.getD s1.2.toNat default).Hi)⟩:A7)).getD s1.2.toNat default).Lo),((A9 ((A9 s1.1 0 a0.length).set s1.2.toNat (⟨((A9 s1.1 0 a0.length).getD s1.2.toNat default).Lo,(if(IntKind.wrap .i64 ((s1.1.getD (IntKind.wrap .i64 (s1.2 - 1)).toNat default).Hi+(a1.getD (IntKind.wrap .i64 (s1.2 - 1)).toNat default).Up)) < (s1.1.getD s1.2.toNat default).Hi then(IntKind.wrap .i64 ((s1.1.getD (IntKind.wrap .i64 (s1.2 - 1)).toNat default).Hi+(a1.getD (IntKind.wrap .i64 (s1.2 - 1)).toNat default).Up))else(s1.1.getD s1.2.toNat default).Hi)⟩:A7)) 0 a0.length).getD s1.2.toNat default).Hi⟩:A7)),(IntKind.wrap .i64 (s1.2+1))))))))):Option (((List A7)×Int)⊕(((List A7))⊕((List A7)×Int))))) (a0,(1:Int))))) (A5 fun(y2:(List A7))=>(Option.bind (Option.bind (some (.inl ())) (A5 fun(_:Unit)=>(Ad (fun(s3:(List A7)×Int)=>((Option.bind (if(decide (0≤s3.2))=true then(some (.inl ()))else(some (.inr (.inr (.inl s3.1))))) (A5 fun(_:Unit)=>(Option.bind (Option.bind (if(0≤s3.2)then(if(s3.2 < (a0.length:Int))then(if(s3.2.toNat < a0.length)then(if(0≤(IntKind.wrap .i64 (s3.2+1)))then(if((IntKind.wrap .i64 (s3.2+1)) < (a0.length:Int))then(if((IntKind.wrap .i64 (s3.2+1)).toNat < a0.length)then(if(0≤s3.2)then(if(s3.2 < (a1.length:Int))then(if(0≤s3.2)then(if(s3.2 < (a0.length:Int))then(if(s3.2.toNat < a0.length)then(some (.inl ()))else none)else none)else none)else none)else none)else none)else none)else none)else none)else none)else none) (A5 fun(_:Unit)=>(if(0≤s3.2)then(if(s3.2 < (a0.length:Int))then(if(s3.2.toNat < a0.length)then(if(0≤(IntKind.wrap .i64 (s3.2+1)))then(if((IntKind.wrap .i64 (s3.2+1)) < (a0.length:Int))then(if((IntKind.wrap .i64 (s3.2+1)).toNat < a0.length)then(if(0≤s3.2)then(if(s3.2 < (a1.length:Int))then(if(0≤s3.2)then(if(s3.2 < (a0.length:Int))then(if(s3.2.toNat < a0.length)then(some (.inl ()))else none)else none)else none)else none)else none)else none)else none)else none)else none)else none)else none))) (A5 fun(_:Unit)=>(some (.inl (((A9 ((A9 s3.1 0 a0.length).set s3.2.toNat (⟨((A9 s3.1 0 a0.length).getD s3.2.toNat default).Lo,(if(IntKind.wrap .i64 ((s3.1.getD (IntKind.wrap .i64 (s3.2+1)).toNat default).Hi+(a1.getD s3.2.toNat default).Down)) < (s3.1.getD s3.2.toNat default).Hi then(IntKind.wrap .i64 ((s3.1.getD (IntKind.wrap .i64 (s3.2+1)).toNat default).Hi+(a1.getD s3.2.toNat default).Down))else(s3.1.getD s3.2.toNat default).Hi)⟩:A7)) 0 a0.length).set s3.2.toNat (⟨(if(((A9 s3.1 0 a0.length).set s3.2.toNat (⟨((A9 s3.1 0 a0.length).getD s3.2.toNat default).Lo,(if(IntKind.wrap .i64 ((s3.1.getD (IntKind.wrap .i64 (s3.2+1)).toNat default).Hi+(a1.getD s3.2.toNat default).Down)) < (s3.1.getD s3.2.toNat default).Hi then(IntKind.wrap .i64 ((s3.1.getD (IntKind.wrap .i64 (s3.2+1)).toNat default).Hi+(a1.getD s3.2.toNat default).Down))else(s3.1.getD s3.2.toNat default).Hi)⟩:A7)).getD s3.2.toNat default).Lo < (IntKind.wrap .i64 ((((A9 s3.1 0 a0.length).set s3.2.toNat (⟨((A9 s3.1 0 a0.length).getD s3.2.toNat default).Lo,(if(IntKind.wrap .i64 ((s3.1.getD (IntKind.wrap .i64 (s3.2+1)).toNat default).Hi+(a1.getD s3.2.toNat default).Down)) < (s3.1.getD s3.2.toNat default).Hi then(IntKind.wrap .i64 ((s3.1.getD (IntKind.wrap .i64 (s3.2+1)).toNat default).Hi+(a1.getD s3.2.toNat default).Down))else(s3.1.getD s3.2.toNat default).Hi)⟩:A7)).getD (IntKind.wrap .i64 (s3.2+1)).toNat default).Lo - (a1.getD s3.2.toNat default).Up))then(IntKind.wrap .i64 ((((A9 s3.1 0 a0.length).set s3.2.toNat (⟨((A9 s3.1 0 a0.length).getD s3.2.toNat default).Lo,(if(IntKind.wrap .i64 ((s3.1.getD (IntKind.wrap .i64 (s3.2+1)).toNat default).Hi+(a1.getD s3.2.toNat default).Down)) < (s3.1.getD s3.2.toNat default).Hi then(IntKind.wrap .i64 ((s3.1.getD (IntKind.wrap .i64 (s3.2+1)).toNat default).Hi+(a1.getD s3.2.toNat default).Down))else(s3.1.getD s3.2.toNat default).Hi)⟩:A7)).getD (IntKind.wrap .i64 (s3.2+1)).toNat default).Lo - (a1.getD s3.2.toNat default).Up))else(((A9 s3.1 0 a0.length).set s3.2.toNat (⟨((A9 s3.1 0 a0.length).getD s3.2.toNat default).Lo,(if(IntKind.wrap .i64 ((s3.1.getD (IntKind.wrap .i64 (s3.2+1)).toNat default).Hi+(a1.getD s3.2.toNat default).Down)) < (s3.1.getD s3.2.toNat default).Hi then(IntKind.wrap .i64 ((s3.1.getD (IntKind.wrap .i64 (s3.2+1)).toNat default).Hi+(a1.getD s3.2.toNat default).Down))else(s3.1.getD s3.2.toNat default).Hi)⟩:A7)).getD s3.2.toNat default).Lo),((A9 ((A9 s3.1 0 a0.length).set s3.2.toNat (⟨((A9 s3.1 0 a0.length).getD s3.2.toNat default).Lo,(if(IntKind.wrap .i64 ((s3.1.getD (IntKind.wrap .i64 (s3.2+1)).toNat default).Hi+(a1.getD s3.2.toNat default).Down)) < (s3.1.getD s3.2.toNat default).Hi then(IntKind.wrap .i64 ((s3.1.getD (IntKind.wrap .i64 (s3.2+1)).toNat default).Hi+(a1.getD s3.2.toNat default).Down))else(s3.1.getD s3.2.toNat default).Hi)⟩:A7)) 0 a0.length).getD s3.2.toNat default).Hi⟩:A7)),(IntKind.wrap .i64 (s3.2 - 1))))))))):Option (((List A7)×Int)⊕(((List A7))⊕((List A7)×Int))))) (y2,(IntKind.wrap .i64 ((a0.length:Int) - (2:Int))))))) (A5 fun(y4:(List A7))=>(some ((A9 y4 0 a0.length),(0:Int))))))))):Option ((List A7)×Int)):=by kernel_rfl
noncomputable abbrev Kk (a0:List A7) (a1:List An):((List A7)×Int)→Option (((List A7)×Int)⊕(((List A7))⊕((List A7)×Int))):=(fun(s3:(List A7)×Int)=>((Option.bind (if(decide (0≤s3.2))=true then(some (.inl ()))else(some (.inr (.inr (.inl s3.1))))) (A5 fun(_:Unit)=>(Option.bind (Option.bind (if(0≤s3.2)then(if(s3.2 < (a0.length:Int))then(if(s3.2.toNat < a0.length)then(if(0≤(IntKind.wrap .i64 (s3.2+1)))then(if((IntKind.wrap .i64 (s3.2+1)) < (a0.length:Int))then(if((IntKind.wrap .i64 (s3.2+1)).toNat < a0.length)then(if(0≤s3.2)then(if(s3.2 < (a1.length:Int))then(if(0≤s3.2)then(if(s3.2 < (a0.length:Int))then(if(s3.2.toNat < a0.length)then(some (.inl ()))else none)else none)else none)else none)else none)else none)else none)else none)else none)else none)else none) (A5 fun(_:Unit)=>(if(0≤s3.2)then(if(s3.2 < (a0.length:Int))then(if(s3.2.toNat < a0.length)then(if(0≤(IntKind.wrap .i64 (s3.2+1)))then(if((IntKind.wrap .i64 (s3.2+1)) < (a0.length:Int))then(if((IntKind.wrap .i64 (s3.2+1)).toNat < a0.length)then(if(0≤s3.2)then(if(s3.2 < (a1.length:Int))then(if(0≤s3.2)then(if(s3.2 < (a0.length:Int))then(if(s3.2.toNat < a0.length)then(some (.inl ()))else none)else none)else none)else none)else none)else none)else none)else none)else none)else none)else none))) (A5 fun(_:Unit)=>(some (.inl (((A9 ((A9 s3.1 0 a0.length).set s3.2.toNat (⟨((A9 s3.1 0 a0.length).getD s3.2.toNat default).Lo,(if(IntKind.wrap .i64 ((s3.1.getD (IntKind.wrap .i64 (s3.2+1)).toNat default).Hi+(a1.getD s3.2.toNat default).Down)) < (s3.1.getD s3.2.toNat default).Hi then(IntKind.wrap .i64 ((s3.1.getD (IntKind.wrap .i64 (s3.2+1)).toNat default).Hi+(a1.getD s3.2.toNat default).Down))else(s3.1.getD s3.2.toNat default).Hi)⟩:A7)) 0 a0.length).set s3.2.toNat (⟨(if(((A9 s3.1 0 a0.length).set s3.2.toNat (⟨((A9 s3.1 0 a0.length).getD s3.2.toNat default).Lo,(if(IntKind.wrap .i64 ((s3.1.getD (IntKind.wrap .i64 (s3.2+1)).toNat default).Hi+(a1.getD s3.2.toNat default).Down)) < (s3.1.getD s3.2.toNat default).Hi then(IntKind.wrap .i64 ((s3.1.getD (IntKind.wrap .i64 (s3.2+1)).toNat default).Hi+(a1.getD s3.2.toNat default).Down))else(s3.1.getD s3.2.toNat default).Hi)⟩:A7)).getD s3.2.toNat default).Lo < (IntKind.wrap .i64 ((((A9 s3.1 0 a0.length).set s3.2.toNat (⟨((A9 s3.1 0 a0.length).getD s3.2.toNat default).Lo,(if(IntKind.wrap .i64 ((s3.1.getD (IntKind.wrap .i64 (s3.2+1)).toNat default).Hi+(a1.getD s3.2.toNat default).Down)) < (s3.1.getD s3.2.toNat default).Hi then(IntKind.wrap .i64 ((s3.1.getD (IntKind.wrap .i64 (s3.2+1)).toNat default).Hi+(a1.getD s3.2.toNat default).Down))else(s3.1.getD s3.2.toNat default).Hi)⟩:A7)).getD (IntKind.wrap .i64 (s3.2+1)).toNat default).Lo - (a1.getD s3.2.toNat default).Up))then(IntKind.wrap .i64 ((((A9 s3.1 0 a0.length).set s3.2.toNat (⟨((A9 s3.1 0 a0.length).getD s3.2.toNat default).Lo,(if(IntKind.wrap .i64 ((s3.1.getD (IntKind.wrap .i64 (s3.2+1)).toNat default).Hi+(a1.getD s3.2.toNat default).Down)) < (s3.1.getD s3.2.toNat default).Hi then(IntKind.wrap .i64 ((s3.1.getD (IntKind.wrap .i64 (s3.2+1)).toNat default).Hi+(a1.getD s3.2.toNat default).Down))else(s3.1.getD s3.2.toNat default).Hi)⟩:A7)).getD (IntKind.wrap .i64 (s3.2+1)).toNat default).Lo - (a1.getD s3.2.toNat default).Up))else(((A9 s3.1 0 a0.length).set s3.2.toNat (⟨((A9 s3.1 0 a0.length).getD s3.2.toNat default).Lo,(if(IntKind.wrap .i64 ((s3.1.getD (IntKind.wrap .i64 (s3.2+1)).toNat default).Hi+(a1.getD s3.2.toNat default).Down)) < (s3.1.getD s3.2.toNat default).Hi then(IntKind.wrap .i64 ((s3.1.getD (IntKind.wrap .i64 (s3.2+1)).toNat default).Hi+(a1.getD s3.2.toNat default).Down))else(s3.1.getD s3.2.toNat default).Hi)⟩:A7)).getD s3.2.toNat default).Lo),((A9 ((A9 s3.1 0 a0.length).set s3.2.toNat (⟨((A9 s3.1 0 a0.length).getD s3.2.toNat default).Lo,(if(IntKind.wrap .i64 ((s3.1.getD (IntKind.wrap .i64 (s3.2+1)).toNat default).Hi+(a1.getD s3.2.toNat default).Down)) < (s3.1.getD s3.2.toNat default).Hi then(IntKind.wrap .i64 ((s3.1.getD (IntKind.wrap .i64 (s3.2+1)).toNat default).Hi+(a1.getD s3.2.toNat default).Down))else(s3.1.getD s3.2.toNat default).Hi)⟩:A7)) 0 a0.length).getD s3.2.toNat default).Hi⟩:A7)),(IntKind.wrap .i64 (s3.2 - 1))))))))):Option (((List A7)×Int)⊕(((List A7))⊕((List A7)×Int)))))
noncomputable abbrev Kl (a0:List A7) (a1:List An):((List A7)×Int)→Option (((List A7)×Int)⊕(((List A7))⊕((List A7)×Int))):=(fun(s1:(List A7)×Int)=>((Option.bind (if(decide (s1.2 < (a0.length:Int)))=true then(some (.inl ()))else(some (.inr (.inr (.inl s1.1))))) (A5 fun(_:Unit)=>(Option.bind (Option.bind (if(0≤s1.2)then(if(s1.2 < (a0.length:Int))then(if(s1.2.toNat < a0.length)then(if(0≤(IntKind.wrap .i64 (s1.2 - 1)))then(if((IntKind.wrap .i64 (s1.2 - 1)) < (a0.length:Int))then(if((IntKind.wrap .i64 (s1.2 - 1)).toNat < a0.length)then(if(0≤(IntKind.wrap .i64 (s1.2 - 1)))then(if((IntKind.wrap .i64 (s1.2 - 1)) < (a1.length:Int))then(if(0≤s1.2)then(if(s1.2 < (a0.length:Int))then(if(s1.2.toNat < a0.length)then(some (.inl ()))else none)else none)else none)else none)else none)else none)else none)else none)else none)else none)else none) (A5 fun(_:Unit)=>(if(0≤s1.2)then(if(s1.2 < (a0.length:Int))then(if(s1.2.toNat < a0.length)then(if(0≤(IntKind.wrap .i64 (s1.2 - 1)))then(if((IntKind.wrap .i64 (s1.2 - 1)) < (a0.length:Int))then(if((IntKind.wrap .i64 (s1.2 - 1)).toNat < a0.length)then(if(0≤(IntKind.wrap .i64 (s1.2 - 1)))then(if((IntKind.wrap .i64 (s1.2 - 1)) < (a1.length:Int))then(if(0≤s1.2)then(if(s1.2 < (a0.length:Int))then(if(s1.2.toNat < a0.length)then(some (.inl ()))else none)else none)else none)else none)else none)else none)else none)else none)else none)else none)else none))) (A5 fun(_:Unit)=>(some (.inl (((A9 ((A9 s1.1 0 a0.length).set s1.2.toNat (⟨((A9 s1.1 0 a0.length).getD s1.2.toNat default).Lo,(if(IntKind.wrap .i64 ((s1.1.getD (IntKind.wrap .i64 (s1.2 - 1)).toNat default).Hi+(a1.getD (IntKind.wrap .i64 (s1.2 - 1)).toNat default).Up)) < (s1.1.getD s1.2.toNat default).Hi then(IntKind.wrap .i64 ((s1.1.getD (IntKind.wrap .i64 (s1.2 - 1)).toNat default).Hi+(a1.getD (IntKind.wrap .i64 (s1.2 - 1)).toNat default).Up))else(s1.1.getD s1.2.toNat default).Hi)⟩:A7)) 0 a0.length).set s1.2.toNat (⟨(if(((A9 s1.1 0 a0.length).set s1.2.toNat (⟨((A9 s1.1 0 a0.length).getD s1.2.toNat default).Lo,(if(IntKind.wrap .i64 ((s1.1.getD (IntKind.wrap .i64 (s1.2 - 1)).toNat default).Hi+(a1.getD (IntKind.wrap .i64 (s1.2 - 1)).toNat default).Up)) < (s1.1.getD s1.2.toNat default).Hi then(IntKind.wrap .i64 ((s1.1.getD (IntKind.wrap .i64 (s1.2 - 1)).toNat default).Hi+(a1.getD (IntKind.wrap .i64 (s1.2 - 1)).toNat default).Up))else(s1.1.getD s1.2.toNat default).Hi)⟩:A7)).getD s1.2.toNat default).Lo < (IntKind.wrap .i64 ((((A9 s1.1 0 a0.length).set s1.2.toNat (⟨((A9 s1.1 0 a0.length).getD s1.2.toNat default).Lo,(if(IntKind.wrap .i64 ((s1.1.getD (IntKind.wrap .i64 (s1.2 - 1)).toNat default).Hi+(a1.getD (IntKind.wrap .i64 (s1.2 - 1)).toNat default).Up)) < (s1.1.getD s1.2.toNat default).Hi then(IntKind.wrap .i64 ((s1.1.getD (IntKind.wrap .i64 (s1.2 - 1)).toNat default).Hi+(a1.getD (IntKind.wrap .i64 (s1.2 - 1)).toNat default).Up))else(s1.1.getD s1.2.toNat default).Hi)⟩:A7)).getD (IntKind.wrap .i64 (s1.2 - 1)).toNat default).Lo - (a1.getD (IntKind.wrap .i64 (s1.2 - 1)).toNat default).Down))then(IntKind.wrap .i64 ((((A9 s1.1 0 a0.length).set s1.2.toNat (⟨((A9 s1.1 0 a0.length).getD s1.2.toNat default).Lo,(if(IntKind.wrap .i64 ((s1.1.getD (IntKind.wrap .i64 (s1.2 - 1)).toNat default).Hi+(a1.getD (IntKind.wrap .i64 (s1.2 - 1)).toNat default).Up)) < (s1.1.getD s1.2.toNat default).Hi then(IntKind.wrap .i64 ((s1.1.getD (IntKind.wrap .i64 (s1.2 - 1)).toNat default).Hi+(a1.getD (IntKind.wrap .i64 (s1.2 - 1)).toNat default).Up))else(s1.1.getD s1.2.toNat default).Hi)⟩:A7)).getD (IntKind.wrap .i64 (s1.2 - 1)).toNat default).Lo - (a1.getD (IntKind.wrap .i64 (s1.2 - 1)).toNat default).Down))else(((A9 s1.1 0 a0.length).set s1.2.toNat (⟨((A9 s1.1 0 a0.length).getD s1.2.toNat default).Lo,(if(IntKind.wrap .i64 ((s1.1.getD (IntKind.wrap .i64 (s1.2 - 1)).toNat default).Hi+(a1.getD (IntKind.wrap .i64 (s1.2 - 1)).toNat default).Up)) < (s1.1.getD s1.2.toNat default).Hi then(IntKind.wrap .i64 ((s1.1.getD (IntKind.wrap .i64 (s1.2 - 1)).toNat default).Hi+(a1.getD (IntKind.wrap .i64 (s1.2 - 1)).toNat default).Up))else(s1.1.getD s1.2.toNat default).Hi)⟩:A7)).getD s1.2.toNat default).Lo),((A9 ((A9 s1.1 0 a0.length).set s1.2.toNat (⟨((A9 s1.1 0 a0.length).getD s1.2.toNat default).Lo,(if(IntKind.wrap .i64 ((s1.1.getD (IntKind.wrap .i64 (s1.2 - 1)).toNat default).Hi+(a1.getD (IntKind.wrap .i64 (s1.2 - 1)).toNat default).Up)) < (s1.1.getD s1.2.toNat default).Hi then(IntKind.wrap .i64 ((s1.1.getD (IntKind.wrap .i64 (s1.2 - 1)).toNat default).Hi+(a1.getD (IntKind.wrap .i64 (s1.2 - 1)).toNat default).Up))else(s1.1.getD s1.2.toNat default).Hi)⟩:A7)) 0 a0.length).getD s1.2.toNat default).Hi⟩:A7)),(IntKind.wrap .i64 (s1.2+1))))))))):Option (((List A7)×Int)⊕(((List A7))⊕((List A7)×Int)))))
theorem A103  (a0:List A7) (a1:List An):Wo a0 a1=((Option.bind (Option.bind (Option.bind (Va a0 a1) fun r=>some r) fun x1=>(if(x1.2 != 0)=true then(some (.inr (([],x1.2))))else(if(decide (0 < (x1.1.length:Int)))=true then(some (.inr (([],(11:Int)))))else(Option.bind ((if 0 < a0.length then(if a0.length * 16≤140737488355328 then some ()else none)else none)) fun(x6:(Unit))=>(some (.inl ())))))) (A5 fun(_:Unit)=>(Option.bind (Option.bind (some (.inl ())) (A5 fun(_:Unit)=>(Ad (Kl a0 a1) (a0,(1:Int))))) (A5 fun(y2:(List A7))=>(Option.bind (Option.bind (some (.inl ())) (A5 fun(_:Unit)=>(Ad (Kk a0 a1) (y2,(IntKind.wrap .i64 ((a0.length:Int) - (2:Int))))))) (A5 fun(y4:(List A7))=>(some ((A9 y4 0 a0.length),(0:Int))))))))):Option ((List A7)×Int)):=M103 _ _
theorem Xu {α:Type} [Inhabited α] {l:List α} {i k:Nat} {a:α} (hi:i < l.length):(l.set i a).getD k default=if k=i then a else l.getD k default:=by
 simp only[List.getD_eq_getElem?_getD,List.getElem?_set]
 by_cases h:i=k
 ·subst h;simp[hi]
 ·have:¬ k=i:=fun e=>h e.symm
  simp[h,this]
theorem Xt {α:Type} [Inhabited α] {l:List α} {i:Nat} {a:α} (hi:i < l.length):(l.set i a).getD i default=a:=by rw[Xu hi,if_pos rfl]
def Bg (l:WL) (i:Nat):Int:=(l.getD i default).Hi
def up (st:SL) (i:Nat):Int:=(st.getD i default).Up
def dw (st:SL) (i:Nat):Int:=(st.getD i default).Down
theorem Db {s:WL} {i k:Nat} {a:A7} (hi:i < s.length):Bg (s.set i a) k=if k=i then a.Hi else Bg s k:=by
 unfold Bg
 rw[Xu hi]
 split<;>rfl
variable {ws:WL} {st:SL}
structure TI (ws:WL) (st:SL) (i:Nat) (s:WL):Prop where
 len:s.length=ws.length
 b:∀ j,j < ws.length → -1099511627776≤Bg s j∧Bg s j≤1099511627776
 le:∀ j,j < ws.length→Bg s j≤Bg ws j
 u:∀ j,j+1 < i→j+1 < ws.length→Bg s (j+1)≤Bg s j+up st j
theorem AA6 (C:Nl ws st) {s:WL} {i:Nat} (H:TI ws st (i+1) s) (hi:i+1 < ws.length):∃ lo,Kl ws st (s,((i+1:Nat):Int))=some (.inl (s.set (i+1) ⟨lo,if Bg s i+up st i < Bg s (i+1)then Bg s i+up st i else Bg s (i+1)⟩,((i+2:Nat):Int))):=by
 have hl:=H.len
 have hf:=C.few
 have hs:i < st.length:=by have:=C.len;omega
 have b1:=H.b i (by omega)
 have s1:=(C.s i hs).1
 have w1:IntKind.wrap .i64 (((i+1:Nat):Int) - 1)=(i:Int):=by rw[Ah (by omega) (by omega)];omega
 have w2:IntKind.wrap .i64 (((i+1:Nat):Int)+1)=((i+2:Nat):Int):=by rw[Ah (by omega) (by omega)];omega
 unfold Bg at b1
 have w3:IntKind.wrap .i64 ((s.getD i default).Hi+(st.getD i default).Up)=(s.getD i default).Hi+(st.getD i default).Up:=Ah (by omega) (by omega)
 have i1:i+1 < s.length:=by omega
 have sub:A9 s 0 ws.length=s:=C4 hl
 have sub2:∀ A,A9 (s.set (i+1) A) 0 ws.length=s.set (i+1) A:=fun A=>C4 (by rw[List.length_set];exact hl)
 have g1:∀ A,(s.set (i+1) A).getD (i+1) default=A:=fun A=>Xt i1
 exact⟨_,by
  simp only[Kl,As hi,As (show i < ws.length by omega),As hs,hi,(show i < ws.length by omega),decide_true,if_true,Int.toNat_natCast,w1,w2,w3,Option.bind_some,A5,sub,sub2,g1,List.set_set]
  rfl⟩
theorem fw_loop (C:Nl ws st):∃ x,Ad (Kl ws st) (ws,(1:Int))=some x∧∃ s,x=.inl s∧TI ws st (ws.length+1) s:=by
 refine Ay (b:=Kl ws st) (fun q=>∃ i:Nat,q.2=((i+1:Nat):Int)∧(i+1≤ws.length∨i=0)∧TI ws st (i+1) q.1) (fun q=>(ws.length+1 - q.2).toNat) (fun x=>∃ s,x=.inl s∧TI ws st (ws.length+1) s) (fun q hq=>?_) _ ⟨0,rfl,.inr rfl,rfl,fun j hj=>(C.w j hj).2,fun j _=>Int.le_refl _,fun j h1 h2=>by omega⟩
 obtain⟨s,q2⟩:=q
 obtain⟨i,hi,hi2,H⟩:=hq
 simp only at hi H
 subst hi
 by_cases hlt:i+1 < ws.length
 ·obtain⟨lo,e⟩:=AA6 C H hlt
  have hs:i < st.length:=by have:=C.len;omega
  have b1:=H.b i (by omega)
  have b2:=H.b (i+1) hlt
  have s1:=(C.s i hs).1
  have i1:i+1 < s.length:=by rw[H.len];exact hlt
  have us:up st i=(st.getD i default).Up:=rfl
  refine .inl ⟨_,e,⟨i+1,rfl,.inl (by omega),by rw[List.length_set];exact H.len,fun j hj=>?_,fun j hj=>?_,fun j h1 h2=>?_⟩,by simp only;omega⟩
  ·simp only
   rw[Db i1]
   split
   ·simp only;split<;>omega
   ·exact H.b j hj
  ·simp only
   rw[Db i1]
   split
   ·rename_i ej
    have:=H.le (i+1) hlt
    rw[ej]
    simp only;split<;>omega
   ·exact H.le j hj
  ·simp only
   rw[Db i1,Db i1,if_neg (show ¬ j=i+1 by omega)]
   by_cases ej:j=i
   ·subst ej
    rw[if_pos rfl]
    simp only;split<;>omega
   ·rw[if_neg (by omega)]
    exact H.u j (by omega) h2
 ·refine .inr ⟨.inl s,?_,s,rfl,⟨H.len,H.b,H.le,fun j h1 h2=>H.u j (by omega) h2⟩⟩
  simp only[Kl,Dm (show ws.length≤i+1 by omega),Bool.false_eq_true,if_false,Option.bind_some,A5]
structure TR (ws:WL) (st:SL) (s:WL):Prop where
 len:s.length=ws.length
 b:∀ j,j < ws.length → -1099511627776≤Bg s j∧Bg s j≤1099511627776
 le:∀ j,j < ws.length→Bg s j≤Bg ws j
 u:∀ j,j+1 < ws.length→Bg s (j+1)≤Bg s j+up st j
 d:∀ j,j+1 < ws.length→Bg s j≤Bg s (j+1)+dw st j
structure BI (ws:WL) (st:SL) (k:Nat) (s:WL):Prop where
 len:s.length=ws.length
 b:∀ j,j < ws.length → -1099511627776≤Bg s j∧Bg s j≤1099511627776
 le:∀ j,j < ws.length→Bg s j≤Bg ws j
 u:∀ j,j+1 < ws.length→Bg s (j+1)≤Bg s j+up st j
 d:∀ j,k≤j→j+1 < ws.length→Bg s j≤Bg s (j+1)+dw st j
theorem zp (C:Nl ws st) {s:WL} {i:Nat} (H:BI ws st (i+1) s) (hi:i+1 < ws.length):∃ lo,Kk ws st (s,(i:Int))=some (.inl (s.set i ⟨lo,if Bg s (i+1)+dw st i < Bg s i then Bg s (i+1)+dw st i else Bg s i⟩,(i:Int) - 1)):=by
 have hl:=H.len
 have hf:=C.few
 have hs:i < st.length:=by have:=C.len;omega
 have b1:=H.b (i+1) hi
 have s1:=(C.s i hs).2
 have w1:IntKind.wrap .i64 ((i:Int)+1)=((i+1:Nat):Int):=by rw[Ah (by omega) (by omega)];omega
 have w2:IntKind.wrap .i64 ((i:Int) - 1)=(i:Int) - 1:=Ah (by omega) (by omega)
 unfold Bg at b1
 have w3:IntKind.wrap .i64 ((s.getD (i+1) default).Hi+(st.getD i default).Down)=(s.getD (i+1) default).Hi+(st.getD i default).Down:=Ah (by omega) (by omega)
 have i1:i < s.length:=by omega
 have sub:A9 s 0 ws.length=s:=C4 hl
 have sub2:∀ A,A9 (s.set i A) 0 ws.length=s.set i A:=fun A=>C4 (by rw[List.length_set];exact hl)
 have g1:∀ A,(s.set i A).getD i default=A:=fun A=>Xt i1
 have d0:decide ((0:Int)≤(i:Int))=true:=decide_eq_true (by omega)
 exact⟨_,by
  simp only[Kk,d0,As hi,As (show i < ws.length by omega),As hs,hi,(show i < ws.length by omega),decide_true,if_true,Int.toNat_natCast,w1,w2,w3,Option.bind_some,A5,sub,sub2,g1,List.set_set]
  rfl⟩
theorem bw_loop (C:Nl ws st) {s:WL} (H:BI ws st (ws.length - 1) s) (h0:0 < ws.length):∃ x,Ad (Kk ws st) (s,(ws.length:Int) - 2)=some x∧∃ s,x=.inl s∧TR ws st s:=by
 refine Ay (b:=Kk ws st) (fun q=>∃ k:Nat,q.2=(k:Int) - 1∧k+1≤ws.length∧BI ws st k q.1) (fun q=>(q.2+1).toNat) (fun x=>∃ s,x=.inl s∧TR ws st s) (fun q hq=>?_) _ ⟨ws.length - 1,by simp only;omega,by omega,H⟩
 obtain⟨s,q2⟩:=q
 obtain⟨k,hk,hk2,H⟩:=hq
 simp only at hk H
 subst hk
 cases k with
 | zero =>
  refine .inr ⟨.inl s,?_,s,rfl,⟨H.len,H.b,H.le,H.u,fun j hj=>H.d j (Nat.zero_le _) hj⟩⟩
  have d0:decide ((0:Int)≤((0:Nat):Int) - 1)=false:=by decide
  simp only[Kk,d0,Bool.false_eq_true,if_false,Option.bind_some,A5]
 | succ i =>
  have e0:((i+1:Nat):Int) - 1=(i:Int):=by omega
  rw[e0]
  have hlt:i+1 < ws.length:=by omega
  obtain⟨lo,e⟩:=zp C H hlt
  have hs:i < st.length:=by have:=C.len;omega
  have b1:=H.b i (by omega)
  have b2:=H.b (i+1) hlt
  have s0:=(C.s i hs).1
  have s1:=(C.s i hs).2
  have i1:i < s.length:=by rw[H.len];omega
  have us:up st i=(st.getD i default).Up:=rfl
  have ds:dw st i=(st.getD i default).Down:=rfl
  refine .inl ⟨_,e,⟨i,rfl,by omega,by rw[List.length_set];exact H.len,fun j hj=>?_,fun j hj=>?_,fun j h2=>?_,fun j h1 h2=>?_⟩,by simp only;omega⟩
  ·simp only
   rw[Db i1]
   split
   ·simp only;split<;>omega
   ·exact H.b j hj
  ·simp only
   rw[Db i1]
   split
   ·rename_i ej
    have:=H.le i (by omega)
    rw[ej]
    simp only;split<;>omega
   ·exact H.le j hj
  ·simp only
   have hu:=H.u j h2
   rw[Db i1,Db i1]
   by_cases e1:j+1=i
   ·subst e1
    rw[if_pos rfl,if_neg (show ¬ j=j+1 by omega)]
    simp only
    split
    ·omega
    ·exact hu
   ·rw[if_neg e1]
    by_cases e2:j=i
    ·subst e2
     rw[if_pos rfl]
     simp only;split<;>omega
    ·rw[if_neg e2];exact hu
  ·simp only
   rw[Db i1,Db i1,if_neg (show ¬ j+1=i by omega)]
   by_cases e2:j=i
   ·subst e2
    rw[if_pos rfl]
    simp only;split<;>omega
   ·rw[if_neg e2];exact H.d j (by omega) h2
theorem rl (h0:0 < ws.length) (hs:st.length≤maxLen):∃ l e,Wo ws st=some (l,e)∧(e=0→Nl ws st∧TR ws st l):=by
 rw[A103]
 obtain⟨c,h1,h2⟩:=Je (ws:=ws) hs
 by_cases c0:c=0
 case neg =>
  have cb:(c != 0)=true:=by simpa using c0
  have:Va ws st=some ([],c):=by
   rw[A36,h1]
   simp only[Option.bind_some,cb,if_true,A5]
  rw[this]
  refine⟨[],c,?_,fun e=>absurd e c0⟩
  simp only[Option.bind_some,cb,if_true,A5]
 subst c0
 have C:=h2 rfl
 obtain⟨l,hl⟩:=AAk C h1
 rw[hl]
 simp only[Option.bind_some,bne_self_eq_false,Bool.false_eq_true,if_false]
 by_cases hp:decide ((0:Int) < (l.length:Int))=true
 ·rw[if_pos hp];exact⟨[],11,rfl,fun e=>by cases e⟩
 rw[if_neg hp,if_pos h0,if_pos (by have:=C.few;omega)]
 obtain⟨x,e1,s,rfl,H⟩:=fw_loop C
 have hf:=C.few
 have w:IntKind.wrap .i64 ((ws.length:Int) - 2)=(ws.length:Int) - 2:=Ah (by omega) (by omega)
 obtain⟨x,e2,t,rfl,K⟩:=bw_loop C (s:=s) ⟨H.len,H.b,H.le,fun j hj=>H.u j (by omega) hj,fun j h1 h2=>by omega⟩ h0
 refine⟨t,0,?_,fun _=>⟨C,K⟩⟩
 simp only[Option.bind_some,A5]
 rw[e1]
 simp only[Option.bind_some,A5,w]
 rw[e2]
 simp only[Option.bind_some,A5,C4 K.len]
end Go.Av.Air
set_option maxRecDepth 100000
namespace Go.Av.Air
theorem M82 (a0:List A7) (a1:List An):Y4 a0 a1=((Option.bind (Option.bind (Option.bind (Wo a0 a1) fun r=>some r) fun x1=>(if(x1.2 != 0)=true then(some (.inr (([],x1.2))))else(if(0≤(x1.1.length:Int))then(if((x1.1.length:Int)=(x1.1.length:Int))then(if((x1.1.length:Int) * 8≤140737488355328)then(if((x1.1.length:Int)≤9223372036854775807)then(some (.inl (x1.1,(List.replicate (x1.1.length:Int).toNat (0:Int)),(x1.1.length:Int).toNat)))else none)else none)else none)else none))) (A5 fun(y1:(List A7)×(List Int)×Nat)=>(Option.bind (Option.bind (some (.inl ())) (A5 fun(_:Unit)=>(Ad (fun(s2:(List Int)×Int)=>((if(decide (s2.2 < (y1.1.length:Int)))=true then(if(0≤s2.2)then(if(s2.2 < (y1.1.length:Int))then(if(0≤s2.2)then(if(s2.2 < (y1.2.2:Int))then(if(s2.2.toNat < y1.2.2)then(some (.inl (((A9 s2.1 0 y1.2.2).set s2.2.toNat (y1.1.getD s2.2.toNat default).Hi),(IntKind.wrap .i64 (s2.2+1)))))else none)else none)else none)else none)else none)else(some (.inr (.inl s2.1)))):Option (((List Int)×Int)⊕(((List Int))⊕((List Int)×Int))))) (y1.2.1,(0:Int))))) (A5 fun(y3:(List Int))=>(some ((A9 y3 0 y1.2.2),(0:Int))))))):Option ((List Int)×Int)):=by kernel_rfl
noncomputable abbrev Uz (y1:(List A7)×(List Int)×Nat):((List Int)×Int)→Option (((List Int)×Int)⊕(((List Int))⊕((List Int)×Int))):=(fun(s2:(List Int)×Int)=>((if(decide (s2.2 < (y1.1.length:Int)))=true then(if(0≤s2.2)then(if(s2.2 < (y1.1.length:Int))then(if(0≤s2.2)then(if(s2.2 < (y1.2.2:Int))then(if(s2.2.toNat < y1.2.2)then(some (.inl (((A9 s2.1 0 y1.2.2).set s2.2.toNat (y1.1.getD s2.2.toNat default).Hi),(IntKind.wrap .i64 (s2.2+1)))))else none)else none)else none)else none)else none)else(some (.inr (.inl s2.1)))):Option (((List Int)×Int)⊕(((List Int))⊕((List Int)×Int)))))
theorem A82  (a0:List A7) (a1:List An):Y4 a0 a1=((Option.bind (Option.bind (Option.bind (Wo a0 a1) fun r=>some r) fun x1=>(if(x1.2 != 0)=true then(some (.inr (([],x1.2))))else(if(0≤(x1.1.length:Int))then(if((x1.1.length:Int)=(x1.1.length:Int))then(if((x1.1.length:Int) * 8≤140737488355328)then(if((x1.1.length:Int)≤9223372036854775807)then(some (.inl (x1.1,(List.replicate (x1.1.length:Int).toNat (0:Int)),(x1.1.length:Int).toNat)))else none)else none)else none)else none))) (A5 fun(y1:(List A7)×(List Int)×Nat)=>(Option.bind (Option.bind (some (.inl ())) (A5 fun(_:Unit)=>(Ad (Uz y1) (y1.2.1,(0:Int))))) (A5 fun(y3:(List Int))=>(some ((A9 y3 0 y1.2.2),(0:Int))))))):Option ((List Int)×Int)):=M82 _ _
theorem M81 (a0:Int):dt a0=((some ((decide ((-1099511627776:Int)≤a0))&&(decide (a0≤1099511627776)))):Option (Bool)):=by kernel_rfl
theorem M35o0 (a0:List A7) (a1:List An) (a2:List Int):O4 a0 a1 a2=((Option.bind (Option.bind (Option.bind (N0 a0 a1) fun r=>some r) fun x1=>(if(x1 != 0)=true then(some (.inr ((x1,[]))))else(if((a2.length:Int) != (a0.length:Int))=true then(some (.inr (((1:Int),[]))))else(Option.bind ((if a0.length * 16≤140737488355328 then some ()else none)) fun(x6:(Unit))=>(some (.inl ())))))) (A5 fun(_:Unit)=>(Option.bind (Option.bind (some (.inl ())) (A5 fun(_:Unit)=>(Ad (fun(s1:(List A7)×Int)=>((if(decide (s1.2 < (a2.length:Int)))=true then(if(0≤s1.2)then(if(s1.2 < (a2.length:Int))then(Option.bind (Option.bind (dt (a2.getD s1.2.toNat default)) fun r=>some r) fun x10=>(if(!x10)=true then(some (.inr (.inr (((2:Int),[])))))else(if(0≤s1.2)then(if(s1.2 < (s1.1.length:Int))then(if(s1.2.toNat < s1.1.length)then(if(0≤s1.2)then(if(s1.2 < (s1.1.length:Int))then(if(s1.2.toNat < s1.1.length)then(some (.inl ((s1.1.set s1.2.toNat (⟨(s1.1.getD s1.2.toNat default).Lo,(if(a2.getD s1.2.toNat default) < (s1.1.getD s1.2.toNat default).Hi then(a2.getD s1.2.toNat default)else(s1.1.getD s1.2.toNat default).Hi)⟩:A7)),(IntKind.wrap .i64 (s1.2+1)))))else none)else none)else none)else none)else none)else none)))else none)else none)else(some (.inr (.inl s1.1)))):Option (((List A7)×Int)⊕(((List A7))⊕(Int×(List Int)))))) (a0,(0:Int))))) (A5 fun(y2:(List A7))=>(Option.bind (Option.bind (Y4 y2 a1) fun r=>some r) fun x14=>(some (x14.2,x14.1))))))):Option (Int×(List Int))):=by kernel_rfl
noncomputable abbrev Ht (a2:List Int):((List A7)×Int)→Option (((List A7)×Int)⊕(((List A7))⊕(Int×(List Int)))):=(fun(s1:(List A7)×Int)=>((if(decide (s1.2 < (a2.length:Int)))=true then(if(0≤s1.2)then(if(s1.2 < (a2.length:Int))then(Option.bind (Option.bind (dt (a2.getD s1.2.toNat default)) fun r=>some r) fun x10=>(if(!x10)=true then(some (.inr (.inr (((2:Int),[])))))else(if(0≤s1.2)then(if(s1.2 < (s1.1.length:Int))then(if(s1.2.toNat < s1.1.length)then(if(0≤s1.2)then(if(s1.2 < (s1.1.length:Int))then(if(s1.2.toNat < s1.1.length)then(some (.inl ((s1.1.set s1.2.toNat (⟨(s1.1.getD s1.2.toNat default).Lo,(if(a2.getD s1.2.toNat default) < (s1.1.getD s1.2.toNat default).Hi then(a2.getD s1.2.toNat default)else(s1.1.getD s1.2.toNat default).Hi)⟩:A7)),(IntKind.wrap .i64 (s1.2+1)))))else none)else none)else none)else none)else none)else none)))else none)else none)else(some (.inr (.inl s1.1)))):Option (((List A7)×Int)⊕(((List A7))⊕(Int×(List Int))))))
theorem A35o0  (a0:List A7) (a1:List An) (a2:List Int):O4 a0 a1 a2=((Option.bind (Option.bind (Option.bind (N0 a0 a1) fun r=>some r) fun x1=>(if(x1 != 0)=true then(some (.inr ((x1,[]))))else(if((a2.length:Int) != (a0.length:Int))=true then(some (.inr (((1:Int),[]))))else(Option.bind ((if a0.length * 16≤140737488355328 then some ()else none)) fun(x6:(Unit))=>(some (.inl ())))))) (A5 fun(_:Unit)=>(Option.bind (Option.bind (some (.inl ())) (A5 fun(_:Unit)=>(Ad (Ht a2) (a0,(0:Int))))) (A5 fun(y2:(List A7))=>(Option.bind (Option.bind (Y4 y2 a1) fun r=>some r) fun x14=>(some (x14.2,x14.1))))))):Option (Int×(List Int))):=M35o0 _ _ _
theorem M35 (a0:List A7) (a1:List An) (a2:List Int):uo a0 a1 a2=((Option.bind (Option.bind (Option.bind (N0 a0 a1) fun r=>some r) fun x1=>(if(x1 != 0)=true then(some (.inr (([],x1))))else(if((a2.length:Int) != (a0.length:Int))=true then(some (.inr (([],(1:Int)))))else(Option.bind ((if 0 < a0.length then(if a0.length * 16≤140737488355328 then some ()else none)else none)) fun(x6:(Unit))=>(some (.inl ())))))) (A5 fun(_:Unit)=>(Option.bind (Option.bind (some (.inl ())) (A5 fun(_:Unit)=>(Ad (fun(s1:(List A7)×Int)=>((if(decide (s1.2 < (a2.length:Int)))=true then(if(0≤s1.2)then(if(s1.2 < (a2.length:Int))then(Option.bind (Option.bind (dt (a2.getD s1.2.toNat default)) fun r=>some r) fun x10=>(if(!x10)=true then(some (.inr (.inr (([],(2:Int))))))else(if(0≤s1.2)then(if(s1.2 < (a0.length:Int))then(if(s1.2.toNat < a0.length)then(if(0≤s1.2)then(if(s1.2 < (a0.length:Int))then(if(s1.2.toNat < a0.length)then(some (.inl (((A9 s1.1 0 a0.length).set s1.2.toNat (⟨((A9 s1.1 0 a0.length).getD s1.2.toNat default).Lo,(if(a2.getD s1.2.toNat default) < (s1.1.getD s1.2.toNat default).Hi then(a2.getD s1.2.toNat default)else(s1.1.getD s1.2.toNat default).Hi)⟩:A7)),(IntKind.wrap .i64 (s1.2+1)))))else none)else none)else none)else none)else none)else none)))else none)else none)else(some (.inr (.inl (A9 s1.1 0 a0.length))))):Option (((List A7)×Int)⊕(((List A7))⊕((List Int)×Int))))) (a0,(0:Int))))) (A5 fun(y2:(List A7))=>(Option.bind (Option.bind (Y4 y2 a1) fun r=>some r) fun x14=>(some (x14.1,x14.2))))))):Option ((List Int)×Int)):=by kernel_rfl
noncomputable abbrev Mx (a2:List Int) (a0:List A7):((List A7)×Int)→Option (((List A7)×Int)⊕(((List A7))⊕((List Int)×Int))):=(fun(s1:(List A7)×Int)=>((if(decide (s1.2 < (a2.length:Int)))=true then(if(0≤s1.2)then(if(s1.2 < (a2.length:Int))then(Option.bind (Option.bind (dt (a2.getD s1.2.toNat default)) fun r=>some r) fun x10=>(if(!x10)=true then(some (.inr (.inr (([],(2:Int))))))else(if(0≤s1.2)then(if(s1.2 < (a0.length:Int))then(if(s1.2.toNat < a0.length)then(if(0≤s1.2)then(if(s1.2 < (a0.length:Int))then(if(s1.2.toNat < a0.length)then(some (.inl (((A9 s1.1 0 a0.length).set s1.2.toNat (⟨((A9 s1.1 0 a0.length).getD s1.2.toNat default).Lo,(if(a2.getD s1.2.toNat default) < (s1.1.getD s1.2.toNat default).Hi then(a2.getD s1.2.toNat default)else(s1.1.getD s1.2.toNat default).Hi)⟩:A7)),(IntKind.wrap .i64 (s1.2+1)))))else none)else none)else none)else none)else none)else none)))else none)else none)else(some (.inr (.inl (A9 s1.1 0 a0.length))))):Option (((List A7)×Int)⊕(((List A7))⊕((List Int)×Int)))))
theorem A35  (a0:List A7) (a1:List An) (a2:List Int):uo a0 a1 a2=((Option.bind (Option.bind (Option.bind (N0 a0 a1) fun r=>some r) fun x1=>(if(x1 != 0)=true then(some (.inr (([],x1))))else(if((a2.length:Int) != (a0.length:Int))=true then(some (.inr (([],(1:Int)))))else(Option.bind ((if 0 < a0.length then(if a0.length * 16≤140737488355328 then some ()else none)else none)) fun(x6:(Unit))=>(some (.inl ())))))) (A5 fun(_:Unit)=>(Option.bind (Option.bind (some (.inl ())) (A5 fun(_:Unit)=>(Ad (Mx a2 a0) (a0,(0:Int))))) (A5 fun(y2:(List A7))=>(Option.bind (Option.bind (Y4 y2 a1) fun r=>some r) fun x14=>(some (x14.1,x14.2))))))):Option ((List Int)×Int)):=M35 _ _ _
theorem M21o0 (a0:List A7) (a1:List An) (a2:Int):O3 a0 a1 a2=((Option.bind (if(0≤(a0.length:Int))then(if((a0.length:Int)=(a0.length:Int))then(if((a0.length:Int) * 8≤140737488355328)then(if((a0.length:Int)≤9223372036854775807)then(some (.inl ()))else none)else none)else none)else none) (A5 fun(_:Unit)=>(Option.bind (Option.bind (some (.inl ())) (A5 fun(_:Unit)=>(Ad (fun(s1:(List Int)×Int)=>((if(decide (s1.2 < ((a0.length:Int).toNat:Int)))=true then(if(0≤s1.2)then(if(s1.2 < ((a0.length:Int).toNat:Int))then(if(s1.2.toNat < (a0.length:Int).toNat)then(some (.inl (((A9 s1.1 0 (a0.length:Int).toNat).set s1.2.toNat a2),(IntKind.wrap .i64 (s1.2+1)))))else none)else none)else none)else(some (.inr (.inl (A9 s1.1 0 (a0.length:Int).toNat))))):Option (((List Int)×Int)⊕(((List Int))⊕(Int×Int×Int×(List Int)))))) ((List.replicate (a0.length:Int).toNat (0:Int)),(0:Int))))) (A5 fun(y2:(List Int))=>(Option.bind (Option.bind (Option.bind (O4 a0 a1 y2) fun r=>some r) fun x7=>(if(x7.1 != 0)=true then(some (.inr ((x7.1,(0:Int),(0:Int),[]))))else(some (.inl x7.2)))) (A5 fun(y3:(List Int))=>(Option.bind (Option.bind (some (.inl ())) (A5 fun(_:Unit)=>(Ad (fun(s4:Int×Int×Int)=>((if(decide (s4.2.2 < (y3.length:Int)))=true then(if(0≤s4.2.2)then(if(s4.2.2 < (y3.length:Int))then(if((y3.getD s4.2.2.toNat default) != a2)=true then(some (.inl (s4.1,s4.2.1,(IntKind.wrap .i64 (s4.2.2+1)))))else(if(decide (s4.1 < 0))=true then(some (.inl (s4.2.2,s4.2.2,(IntKind.wrap .i64 (s4.2.2+1)))))else(some (.inl (s4.1,s4.2.2,(IntKind.wrap .i64 (s4.2.2+1)))))))else none)else none)else(some (.inr (.inl (s4.1,s4.2.1))))):Option ((Int×Int×Int)⊕((Int×Int)⊕(Int×Int×Int×(List Int)))))) ((-1:Int),(-1:Int),(0:Int))))) (A5 fun(y5:Int×Int)=>(some ((0:Int),y5.2,y5.1,y3)))))))))):Option (Int×Int×Int×(List Int))):=by kernel_rfl
noncomputable abbrev Hr (y3:(List Int)) (a2:Int):(Int×Int×Int)→Option ((Int×Int×Int)⊕((Int×Int)⊕(Int×Int×Int×(List Int)))):=(fun(s4:Int×Int×Int)=>((if(decide (s4.2.2 < (y3.length:Int)))=true then(if(0≤s4.2.2)then(if(s4.2.2 < (y3.length:Int))then(if((y3.getD s4.2.2.toNat default) != a2)=true then(some (.inl (s4.1,s4.2.1,(IntKind.wrap .i64 (s4.2.2+1)))))else(if(decide (s4.1 < 0))=true then(some (.inl (s4.2.2,s4.2.2,(IntKind.wrap .i64 (s4.2.2+1)))))else(some (.inl (s4.1,s4.2.2,(IntKind.wrap .i64 (s4.2.2+1)))))))else none)else none)else(some (.inr (.inl (s4.1,s4.2.1))))):Option ((Int×Int×Int)⊕((Int×Int)⊕(Int×Int×Int×(List Int))))))
noncomputable abbrev Ny (a0:List A7) (a2:Int):((List Int)×Int)→Option (((List Int)×Int)⊕(((List Int))⊕(Int×Int×Int×(List Int)))):=(fun(s1:(List Int)×Int)=>((if(decide (s1.2 < ((a0.length:Int).toNat:Int)))=true then(if(0≤s1.2)then(if(s1.2 < ((a0.length:Int).toNat:Int))then(if(s1.2.toNat < (a0.length:Int).toNat)then(some (.inl (((A9 s1.1 0 (a0.length:Int).toNat).set s1.2.toNat a2),(IntKind.wrap .i64 (s1.2+1)))))else none)else none)else none)else(some (.inr (.inl (A9 s1.1 0 (a0.length:Int).toNat))))):Option (((List Int)×Int)⊕(((List Int))⊕(Int×Int×Int×(List Int))))))
theorem A21o0  (a0:List A7) (a1:List An) (a2:Int):O3 a0 a1 a2=((Option.bind (if(0≤(a0.length:Int))then(if((a0.length:Int)=(a0.length:Int))then(if((a0.length:Int) * 8≤140737488355328)then(if((a0.length:Int)≤9223372036854775807)then(some (.inl ()))else none)else none)else none)else none) (A5 fun(_:Unit)=>(Option.bind (Option.bind (some (.inl ())) (A5 fun(_:Unit)=>(Ad (Ny a0 a2) ((List.replicate (a0.length:Int).toNat (0:Int)),(0:Int))))) (A5 fun(y2:(List Int))=>(Option.bind (Option.bind (Option.bind (O4 a0 a1 y2) fun r=>some r) fun x7=>(if(x7.1 != 0)=true then(some (.inr ((x7.1,(0:Int),(0:Int),[]))))else(some (.inl x7.2)))) (A5 fun(y3:(List Int))=>(Option.bind (Option.bind (some (.inl ())) (A5 fun(_:Unit)=>(Ad (Hr y3 a2) ((-1:Int),(-1:Int),(0:Int))))) (A5 fun(y5:Int×Int)=>(some ((0:Int),y5.2,y5.1,y3)))))))))):Option (Int×Int×Int×(List Int))):=M21o0 _ _ _
variable {ws:WL} {st:SL}
structure Ch (st:SL) (n:Nat) (v:List Int):Prop where
 len:v.length=n
 u:∀ j,j+1 < n→gi v (j+1)≤gi v j+up st j
 d:∀ j,j+1 < n→gi v j≤gi v (j+1)+dw st j
theorem Uh (h0:0 < ws.length) (hs:st.length≤maxLen):∃ v e,Y4 ws st=some (v,e)∧(e=0→Ch st ws.length v∧(∀ i,i < ws.length→gi v i≤Bg ws i)∧Nl ws st):=by
 obtain⟨l,e,h1,h2⟩:=rl h0 hs
 rw[A82,h1]
 by_cases e0:e=0
 case neg =>
  have:(e != 0)=true:=by simpa using e0
  simp only[Option.bind_some,this,if_true,A5]
  exact⟨[],e,rfl,fun h=>absurd h e0⟩
 subst e0
 obtain⟨C,K⟩:=h2 rfl
 have hf:=C.few
 have hl:=K.len
 have c1:((0:Int)≤(l.length:Int))=True:=eq_true (by omega)
 have c2:((l.length:Int) * 8≤140737488355328)=True:=eq_true (by omega)
 have c3:((l.length:Int)≤9223372036854775807)=True:=eq_true (by omega)
 simp only[Option.bind_some,bne_self_eq_false,Bool.false_eq_true,if_false,c1,c2,c3,if_true,Int.toNat_natCast,A5]
 obtain⟨y,hy⟩:∃ y:WL×List Int×Nat,y=(l,List.replicate l.length (0:Int),l.length):=⟨_,rfl⟩
 have y1:y.1=l:=by rw[hy]
 have y2:y.2.2=l.length:=by rw[hy]
 obtain⟨x,e,rfl⟩:=Ay (b:=Uz y) (fun q=>∃ i:Nat,q.2=i∧i≤l.length∧Fill l.length (fun i=>Bg l i) i q.1) (fun q=>(l.length - q.2).toNat) (fun x=>x=.inl ((List.range l.length).map fun i=>Bg l i)) (fun q hq=>by
  obtain⟨c,q2⟩:=q
  obtain⟨i,hqi,hi,hf⟩:=hq
  simp only at hqi hf
  subst hqi
  by_cases hlt:i < l.length
  ·have w:IntKind.wrap .i64 ((i:Int)+1)=((i+1:Nat):Int):=by rw[W0 hlt (by omega)];omega
   refine .inl ⟨(c.set i (Bg l i),((i+1:Nat):Int)),?_,⟨i+1,rfl,hlt,hf.set hlt rfl⟩,by simp only;omega⟩
   simp only[Uz,y1,y2,Int.toNat_natCast,As hlt,hlt,decide_true,if_true,C4 hf.1,w]
   rfl
  ·obtain rfl:i=l.length:=by omega
   refine .inr ⟨.inl c,?_,by rw[hf.done]⟩
   simp only[Uz,y1,Fo,decide_false,Bool.false_eq_true,if_false]) (List.replicate l.length 0,0) ⟨0,rfl,Nat.zero_le _,Fill.start _ _ (by simp)⟩
 rw[hy]at e
 rw[e]
 have lm:((List.range l.length).map fun i=>Bg l i).length=l.length:=by simp
 simp only[Option.bind_some,A5,C4 lm]
 have g:∀ i,i < l.length→gi ((List.range l.length).map fun i=>Bg l i) i=Bg l i:=fun i hi=>Gw _ hi
 refine⟨_,0,rfl,fun _=>⟨⟨by rw[lm,hl],fun j hj=>?_,fun j hj=>?_⟩,fun i hi=>?_,C⟩⟩
 ·rw[g _ (by omega),g _ (by omega)];exact K.u j hj
 ·rw[g _ (by omega),g _ (by omega)];exact K.d j hj
 ·rw[g _ (by omega)];exact K.le i hi
theorem Ka (n:Int):dt n=some (decide (-1099511627776≤n)&&decide (n≤1099511627776)):=M81 _
structure js (ws:WL) (wish:List Int) (i:Nat) (s:WL):Prop where
 len:s.length=ws.length
 a:∀ j,j < i→Bg s j≤gi wish j
 b:∀ j,j < ws.length→Bg s j≤Bg ws j
theorem cut_O {wish:List Int} (hw:wish.length=ws.length) (hf:ws.length≤64):∃ x,Ad (Ht wish) (ws,(0:Int))=some x∧((∃ s,x=.inl s∧js ws wish ws.length s)∨x=.inr (2,[])):=by
 refine Ay (b:=Ht wish) (fun q=>∃ i:Nat,q.2=i∧i≤ws.length∧js ws wish i q.1) (fun q=>(ws.length - q.2).toNat) (fun x=>(∃ s,x=.inl s∧js ws wish ws.length s)∨x=.inr (2,[])) (fun q hq=>?_) _ ⟨0,rfl,Nat.zero_le _,rfl,fun j hj=>absurd hj (Nat.not_lt_zero j),fun j _=>Int.le_refl _⟩
 obtain⟨s,q2⟩:=q
 obtain⟨i,hqi,hi,H⟩:=hq
 simp only at hqi H
 subst hqi
 by_cases hlt:i < wish.length
 ·have hws:i < ws.length:=by omega
  have hsl:i < s.length:=by rw[H.len];exact hws
  have w:IntKind.wrap .i64 ((i:Int)+1)=((i+1:Nat):Int):=by rw[Ah (by omega) (by omega)];omega
  by_cases c:(decide (-1099511627776≤wish.getD i default)&&decide (wish.getD i default≤1099511627776))=true
  ·refine .inl ⟨(s.set i ⟨(s.getD i default).Lo,if wish.getD i default < (s.getD i default).Hi then wish.getD i default else(s.getD i default).Hi⟩,((i+1:Nat):Int)),?_,⟨i+1,rfl,hws,by rw[List.length_set];exact H.len,fun j hj=>?_,fun j hj=>?_⟩,by simp only;omega⟩
   ·simp only[Ht,As hlt,As hsl,hsl,decide_true,if_true,Int.toNat_natCast,Ka,Option.bind_some,c,Bool.not_true,Bool.false_eq_true,if_false,w]
   ·simp only
    rw[Db hsl]
    by_cases e:j=i
    ·rw[if_pos e,e]
     unfold gi
     simp only;split<;>omega
    ·rw[if_neg e];exact H.a j (by omega)
   ·simp only
    rw[Db hsl]
    by_cases e:j=i
    ·have:=H.b i hws
     unfold Bg at this
     rw[if_pos e,e]
     unfold Bg
     simp only;split<;>omega
    ·rw[if_neg e];exact H.b j hj
  ·refine .inr ⟨.inr (2,[]),?_,.inr rfl⟩
   rw[Bool.not_eq_true]at c
   simp only[Ht,As hlt,decide_true,if_true,Int.toNat_natCast,Ka,Option.bind_some,c,Bool.not_false]
 ·have ei:i=ws.length:=by omega
  refine .inr ⟨.inl s,?_,.inl ⟨s,rfl,by rw[← ei];exact H⟩⟩
  simp only[Ht,Dm (show wish.length≤i by omega),Bool.false_eq_true,if_false]
theorem below_O {wish:List Int} (h0:0 < ws.length) (hs:st.length≤maxLen):∃ e v,O4 ws st wish=some (e,v)∧(e=0→Ch st ws.length v∧∀ i,i < ws.length→gi v i≤gi wish i∧gi v i≤Bg ws i):=by
 rw[A35o0]
 obtain⟨c,h1,h2⟩:=Je (ws:=ws) hs
 rw[h1]
 by_cases c0:c=0
 case neg =>
  have cb:(c != 0)=true:=by simpa using c0
  simp only[Option.bind_some,cb,if_true,A5]
  exact⟨c,[],rfl,fun h=>absurd h c0⟩
 subst c0
 have C:=h2 rfl
 have hf:=C.few
 simp only[Option.bind_some,bne_self_eq_false,Bool.false_eq_true,if_false]
 by_cases hw:((wish.length:Int) != (ws.length:Int))=true
 ·rw[if_pos hw];exact⟨1,[],rfl,fun h=>by cases h⟩
 rw[if_neg hw]
 rw[bne_iff_ne,ne_eq,Decidable.not_not]at hw
 rw[if_pos (show ws.length * 16≤140737488355328 by omega)]
 simp only[Option.bind_some,A5]
 obtain⟨x,e,h⟩:=cut_O (ws:=ws) (wish:=wish) (by omega) hf
 rw[e]
 rcases h with⟨s,rfl,H⟩ | rfl
 ·obtain⟨v,e,g1,g2⟩:=Uh (ws:=s) (st:=st) (by rw[H.len];exact h0) hs
  simp only[Option.bind_some,A5,g1]
  refine⟨e,v,rfl,fun h=>?_⟩
  obtain⟨K,b,_⟩:=g2 h
  rw[H.len]at K b
  refine⟨K,fun i hi=>?_⟩
  have:=b i hi
  have:=H.a i hi
  have:=H.b i hi
  omega
 ·exact⟨2,[],rfl,fun h=>by cases h⟩
theorem cut_P {wish:List Int} (hw:wish.length=ws.length) (hf:ws.length≤64):∃ x,Ad (Mx wish ws) (ws,(0:Int))=some x∧((∃ s,x=.inl s∧js ws wish ws.length s)∨x=.inr ([],2)):=by
 refine Ay (b:=Mx wish ws) (fun q=>∃ i:Nat,q.2=i∧i≤ws.length∧js ws wish i q.1) (fun q=>(ws.length - q.2).toNat) (fun x=>(∃ s,x=.inl s∧js ws wish ws.length s)∨x=.inr ([],2)) (fun q hq=>?_) _ ⟨0,rfl,Nat.zero_le _,rfl,fun j hj=>absurd hj (Nat.not_lt_zero j),fun j _=>Int.le_refl _⟩
 obtain⟨s,q2⟩:=q
 obtain⟨i,hqi,hi,H⟩:=hq
 simp only at hqi H
 subst hqi
 by_cases hlt:i < wish.length
 ·have hws:i < ws.length:=by omega
  have hsl:i < s.length:=by rw[H.len];exact hws
  have w:IntKind.wrap .i64 ((i:Int)+1)=((i+1:Nat):Int):=by rw[Ah (by omega) (by omega)];omega
  by_cases c:(decide (-1099511627776≤wish.getD i default)&&decide (wish.getD i default≤1099511627776))=true
  ·refine .inl ⟨(s.set i ⟨(s.getD i default).Lo,if wish.getD i default < (s.getD i default).Hi then wish.getD i default else(s.getD i default).Hi⟩,((i+1:Nat):Int)),?_,⟨i+1,rfl,hws,by rw[List.length_set];exact H.len,fun j hj=>?_,fun j hj=>?_⟩,by simp only;omega⟩
   ·simp only[Mx,As hlt,As hws,hws,C4 H.len,decide_true,if_true,Int.toNat_natCast,Ka,Option.bind_some,c,Bool.not_true,Bool.false_eq_true,if_false,w]
   ·simp only
    rw[Db hsl]
    by_cases e:j=i
    ·rw[if_pos e,e]
     unfold gi
     simp only;split<;>omega
    ·rw[if_neg e];exact H.a j (by omega)
   ·simp only
    rw[Db hsl]
    by_cases e:j=i
    ·have:=H.b i hws
     unfold Bg at this
     rw[if_pos e,e]
     unfold Bg
     simp only;split<;>omega
    ·rw[if_neg e];exact H.b j hj
  ·refine .inr ⟨.inr ([],2),?_,.inr rfl⟩
   rw[Bool.not_eq_true]at c
   simp only[Mx,As hlt,decide_true,if_true,Int.toNat_natCast,Ka,Option.bind_some,c,Bool.not_false]
 ·have ei:i=ws.length:=by omega
  refine .inr ⟨.inl s,?_,.inl ⟨s,rfl,by rw[← ei];exact H⟩⟩
  simp only[Mx,Dm (show wish.length≤i by omega),Bool.false_eq_true,if_false,C4 H.len]
theorem below_P {wish:List Int} (h0:0 < ws.length) (hs:st.length≤maxLen):∃ v e,uo ws st wish=some (v,e)∧(e=0→Ch st ws.length v∧∀ i,i < ws.length→gi v i≤gi wish i∧gi v i≤Bg ws i):=by
 rw[A35]
 obtain⟨c,h1,h2⟩:=Je (ws:=ws) hs
 rw[h1]
 by_cases c0:c=0
 case neg =>
  have cb:(c != 0)=true:=by simpa using c0
  simp only[Option.bind_some,cb,if_true,A5]
  exact⟨[],c,rfl,fun h=>absurd h c0⟩
 subst c0
 have C:=h2 rfl
 have hf:=C.few
 simp only[Option.bind_some,bne_self_eq_false,Bool.false_eq_true,if_false]
 by_cases hw:((wish.length:Int) != (ws.length:Int))=true
 ·rw[if_pos hw];exact⟨[],1,rfl,fun h=>by cases h⟩
 rw[if_neg hw]
 rw[bne_iff_ne,ne_eq,Decidable.not_not]at hw
 rw[if_pos h0,if_pos (show ws.length * 16≤140737488355328 by omega)]
 simp only[Option.bind_some,A5]
 obtain⟨x,e,h⟩:=cut_P (ws:=ws) (wish:=wish) (by omega) hf
 rw[e]
 rcases h with⟨s,rfl,H⟩ | rfl
 ·obtain⟨v,e,g1,g2⟩:=Uh (ws:=s) (st:=st) (by rw[H.len];exact h0) hs
  simp only[Option.bind_some,A5,g1]
  refine⟨v,e,rfl,fun h=>?_⟩
  obtain⟨K,b,_⟩:=g2 h
  rw[H.len]at K b
  refine⟨K,fun i hi=>?_⟩
  have:=b i hi
  have:=H.a i hi
  have:=H.b i hi
  omega
 ·exact⟨[],2,rfl,fun h=>by cases h⟩
theorem sw {lev:Int} (h0:0 < ws.length) (hf:ws.length≤64) (hs:st.length≤maxLen):∃ e a b v,O3 ws st lev=some (e,a,b,v)∧(e=0→Ch st ws.length v∧∀ i,i < ws.length→gi v i≤lev∧gi v i≤Bg ws i):=by
 have c1:((0:Int)≤(ws.length:Int))=True:=eq_true (by omega)
 have c2:((ws.length:Int) * 8≤140737488355328)=True:=eq_true (by omega)
 have c3:((ws.length:Int)≤9223372036854775807)=True:=eq_true (by omega)
 obtain⟨x,e1,rfl⟩:=Ay (b:=Ny ws lev) (fun q=>∃ i:Nat,q.2=i∧i≤ws.length∧Fill ws.length (fun _=>lev) i q.1) (fun q=>(ws.length - q.2).toNat) (fun x=>x=.inl ((List.range ws.length).map fun _=>lev)) (fun q hq=>by
  obtain⟨c,q2⟩:=q
  obtain⟨i,hqi,hi,hf⟩:=hq
  simp only at hqi hf
  subst hqi
  by_cases hlt:i < ws.length
  ·have w:IntKind.wrap .i64 ((i:Int)+1)=((i+1:Nat):Int):=by rw[W0 hlt (by omega)];omega
   refine .inl ⟨(c.set i lev,((i+1:Nat):Int)),?_,⟨i+1,rfl,hlt,hf.set hlt rfl⟩,by simp only;omega⟩
   simp only[Ny,Int.toNat_natCast,As hlt,hlt,decide_true,if_true,C4 hf.1,w]
  ·obtain rfl:i=ws.length:=by omega
   refine .inr ⟨.inl c,?_,by rw[hf.done]⟩
   simp only[Ny,Int.toNat_natCast,Fo,decide_false,Bool.false_eq_true,if_false,C4 hf.1]) (List.replicate ws.length 0,0) ⟨0,rfl,Nat.zero_le _,Fill.start _ _ (by simp)⟩
 obtain⟨e,v,h1,h2⟩:=below_O (ws:=ws) (st:=st) (wish:=(List.range ws.length).map fun _=>lev) h0 hs
 rw[A21o0]
 simp only[c1,c2,c3,if_true,Int.toNat_natCast,Option.bind_some,A5]
 rw[e1]
 simp only[Option.bind_some,A5,h1]
 by_cases e0:e=0
 case neg =>
  have:(e != 0)=true:=by simpa using e0
  rw[this]
  exact⟨e,0,0,[],rfl,fun h=>absurd h e0⟩
 subst e0
 obtain⟨K,b⟩:=h2 rfl
 have hl:=K.len
 simp only[bne_self_eq_false,Bool.false_eq_true,if_false,Option.bind_some,A5]
 obtain⟨x,e2,u,rfl⟩:=Ay (b:=Hr v lev) (fun q=>∃ i:Nat,q.2.2=i∧i≤v.length) (fun q=>(v.length - q.2.2).toNat) (fun x=>∃ u,x=.inl u) (fun q hq=>by
  obtain⟨q1,q2,q3⟩:=q
  obtain⟨i,hqi,hi⟩:=hq
  simp only at hqi
  subst hqi
  by_cases hlt:i < v.length
  ·have w:IntKind.wrap .i64 ((i:Int)+1)=((i+1:Nat):Int):=by rw[W0 hlt (by omega)];omega
   by_cases c:(v.getD i default != lev)=true
   ·exact .inl ⟨(q1,q2,((i+1:Nat):Int)),by simp only[Hr,As hlt,decide_true,if_true,Int.toNat_natCast,c,w],⟨i+1,rfl,hlt⟩,by simp only;omega⟩
   ·by_cases d:decide (q1 < 0)=true
    ·exact .inl ⟨((i:Int),(i:Int),((i+1:Nat):Int)),by simp only[Hr,As hlt,decide_true,if_true,Int.toNat_natCast,c,Bool.false_eq_true,if_false,d,w],⟨i+1,rfl,hlt⟩,by simp only;omega⟩
    ·exact .inl ⟨(q1,(i:Int),((i+1:Nat):Int)),by simp only[Hr,As hlt,decide_true,if_true,Int.toNat_natCast,c,Bool.false_eq_true,if_false,d,w],⟨i+1,rfl,hlt⟩,by simp only;omega⟩
  ·obtain rfl:i=v.length:=by omega
   exact .inr ⟨.inl (q1,q2),by simp only[Hr,Fo,decide_false,Bool.false_eq_true,if_false],_,rfl⟩) (-1,-1,0) ⟨0,rfl,Nat.zero_le _⟩
 rw[e2]
 refine⟨0,_,_,v,rfl,fun _=>⟨K,fun i hi=>?_⟩⟩
 have:=b i hi
 rw[Gw _ hi]at this
 exact this
end Go.Av.Air
set_option maxRecDepth 100000
namespace Go.Av.Air
variable {ws:WL} {st:SL}
theorem M40 (a0:Int):L0 a0=((some ((decide (0≤a0))&&(decide (a0≤1000)))):Option (Bool)):=by kernel_rfl
theorem M41 (a0:Int):ur a0=((some ((decide (0≤a0))&&(decide (a0≤8000000)))):Option (Bool)):=by kernel_rfl
theorem M24 (a0:List Int) (a1 a2:Int):ku a0 a1 a2=((Option.bind (if(decide (64≤(a0.length:Int)))=true then(some (.inr (([],(3:Int)))))else(Option.bind (((L0 a1).bind fun r3_0=>((if(!(!r3_0))=true then L0 a2 else some default).bind fun r3_1=>some (r3_0,r3_1)))) fun(x3:(Bool×Bool))=>(if((!x3.1) || (!x3.2))=true then(some (.inr (([],(2:Int)))))else(some (.inl ()))))) (A5 fun(_:Unit)=>(Option.bind (Option.bind (some (.inl ())) (A5 fun(_:Unit)=>(Ad (fun(s1:(List An)×Int)=>((if(decide (s1.2 < (a0.length:Int)))=true then(if(0≤s1.2)then(if(s1.2 < (a0.length:Int))then(Option.bind (Option.bind (ur (a0.getD s1.2.toNat default)) fun r=>some r) fun x9=>(if(!x9)=true then(some (.inr (.inr (([],(2:Int))))))else(if((6000:Int)≠0)then(if((6000:Int)≠0)then(if((s1.1.length+1) * 16≤140737488355328)then(some (.inl ((s1.1++([(⟨(IntKind.wrap .i64 (Int.tdiv (IntKind.wrap .i64 (a1 * (a0.getD s1.2.toNat default))) (6000:Int))),(IntKind.wrap .i64 (Int.tdiv (IntKind.wrap .i64 (a2 * (a0.getD s1.2.toNat default))) (6000:Int)))⟩:An)]:List An)),(IntKind.wrap .i64 (s1.2+1)))))else none)else none)else none)))else none)else none)else(some (.inr (.inl s1.1)))):Option (((List An)×Int)⊕(((List An))⊕((List An)×Int))))) ([],(0:Int))))) (A5 fun(y2:(List An))=>(some (y2,(0:Int))))))):Option ((List An)×Int)):=by kernel_rfl
noncomputable abbrev P8 (a0:List Int) (a1:Int) (a2:Int):((List An)×Int)→Option (((List An)×Int)⊕(((List An))⊕((List An)×Int))):=(fun(s1:(List An)×Int)=>((if(decide (s1.2 < (a0.length:Int)))=true then(if(0≤s1.2)then(if(s1.2 < (a0.length:Int))then(Option.bind (Option.bind (ur (a0.getD s1.2.toNat default)) fun r=>some r) fun x9=>(if(!x9)=true then(some (.inr (.inr (([],(2:Int))))))else(if((6000:Int)≠0)then(if((6000:Int)≠0)then(if((s1.1.length+1) * 16≤140737488355328)then(some (.inl ((s1.1++([(⟨(IntKind.wrap .i64 (Int.tdiv (IntKind.wrap .i64 (a1 * (a0.getD s1.2.toNat default))) (6000:Int))),(IntKind.wrap .i64 (Int.tdiv (IntKind.wrap .i64 (a2 * (a0.getD s1.2.toNat default))) (6000:Int)))⟩:An)]:List An)),(IntKind.wrap .i64 (s1.2+1)))))else none)else none)else none)))else none)else none)else(some (.inr (.inl s1.1)))):Option (((List An)×Int)⊕(((List An))⊕((List An)×Int)))))
theorem A24  (a0:List Int) (a1 a2:Int):ku a0 a1 a2=((Option.bind (if(decide (64≤(a0.length:Int)))=true then(some (.inr (([],(3:Int)))))else(Option.bind (((L0 a1).bind fun r3_0=>((if(!(!r3_0))=true then L0 a2 else some default).bind fun r3_1=>some (r3_0,r3_1)))) fun(x3:(Bool×Bool))=>(if((!x3.1) || (!x3.2))=true then(some (.inr (([],(2:Int)))))else(some (.inl ()))))) (A5 fun(_:Unit)=>(Option.bind (Option.bind (some (.inl ())) (A5 fun(_:Unit)=>(Ad (P8 a0 a1 a2) ([],(0:Int))))) (A5 fun(y2:(List An))=>(some (y2,(0:Int))))))):Option ((List An)×Int)):=M24 _ _ _
theorem M42 (a0:List A7) (a1:List An):ut a0 a1=((Option.bind (Option.bind (Option.bind (N0 a0 a1) fun r=>some r) fun x1=>(if(x1 != 0)=true then(some (.inr (x1)))else(some (.inl ())))) (A5 fun(_:Unit)=>(Option.bind (Option.bind (some (.inl ())) (A5 fun(_:Unit)=>(Ad (fun(s1:Int)=>((if(decide (s1 < (a0.length:Int)))=true then(if(0≤s1)then(if(s1 < (a0.length:Int))then(Option.bind (((L0 (a0.getD s1.toNat default).Lo).bind fun r7_0=>((if(!(!r7_0))=true then L0 (a0.getD s1.toNat default).Hi else some default).bind fun r7_1=>some (r7_0,r7_1)))) fun(x7:(Bool×Bool))=>(if((!x7.1) || (!x7.2))=true then(some (.inr (.inr ((2:Int)))))else(some (.inl (IntKind.wrap .i64 (s1+1))))))else none)else none)else(some (.inr (.inl ())))):Option ((Int)⊕((Unit)⊕(Int))))) (0:Int)))) (A5 fun(_:Unit)=>(some (0:Int)))))):Option (Int)):=by kernel_rfl
noncomputable abbrev Uu (a0:List A7):(Int)→Option ((Int)⊕((Unit)⊕(Int))):=(fun(s1:Int)=>((if(decide (s1 < (a0.length:Int)))=true then(if(0≤s1)then(if(s1 < (a0.length:Int))then(Option.bind (((L0 (a0.getD s1.toNat default).Lo).bind fun r7_0=>((if(!(!r7_0))=true then L0 (a0.getD s1.toNat default).Hi else some default).bind fun r7_1=>some (r7_0,r7_1)))) fun(x7:(Bool×Bool))=>(if((!x7.1) || (!x7.2))=true then(some (.inr (.inr ((2:Int)))))else(some (.inl (IntKind.wrap .i64 (s1+1))))))else none)else none)else(some (.inr (.inl ())))):Option ((Int)⊕((Unit)⊕(Int)))))
theorem A42  (a0:List A7) (a1:List An):ut a0 a1=((Option.bind (Option.bind (Option.bind (N0 a0 a1) fun r=>some r) fun x1=>(if(x1 != 0)=true then(some (.inr (x1)))else(some (.inl ())))) (A5 fun(_:Unit)=>(Option.bind (Option.bind (some (.inl ())) (A5 fun(_:Unit)=>(Ad (Uu a0) (0:Int)))) (A5 fun(_:Unit)=>(some (0:Int)))))):Option (Int)):=M42 _ _
theorem M25 (a0:List A7) (a1:List An) (a2:List Int):um a0 a1 a2=((Option.bind (Option.bind (ut a0 a1) fun r=>some r) fun x1=>(if(x1 != 0)=true then(some ([],x1))else(Option.bind (Option.bind (uo a0 a1 a2) fun r=>some r) fun x4=>(some (x4.1,x4.2))))):Option ((List Int)×Int)):=by kernel_rfl
theorem M67 (a0 a1:Int):Vg a0 a1=((Option.bind (Option.bind (l7 a0 a1) fun r=>some r) fun x1=>(some x1.1)):Option (Int)):=by kernel_rfl
theorem M68 (a0:Bu) (a1:Ap) (a2 a3:Int):Y2 a0 a1 a2 a3=((if(a0.phase==1)=true then(Option.bind (Option.bind (v7 a1.Perf a0.alt (IntKind.wrap .i64 (a1.Fuel.Empty+a2))) fun r=>some r) fun x6=>(some x6.1))else(if(a0.phase==2)=true then(Option.bind (Option.bind (v8 a1.Perf a0.alt (IntKind.wrap .i64 (a1.Fuel.Empty+a2)) a3) fun r=>some r) fun x8=>(some x8.1))else(Option.bind (Option.bind (v9 a1.Perf a0.alt) fun r=>some r) fun x4=>(some x4.1)))):Option (Int)):=by kernel_rfl
theorem M69 (a0 a1 a2:A2):m69 a0 a1 a2=((if(((decide (a0.Hi < a0.Lo)) || (decide (a1.Hi < a1.Lo))) || (decide (a2.Hi < a2.Lo)))=true then(some ((⟨(0:Int),(0:Int)⟩:A2),(1:Int)))else(if((((((decide (a0.Lo < 0)) || (decide (3000000000 < a0.Hi))) || (decide (a1.Lo < 0))) || (decide (50000 < a1.Hi))) || (decide (a2.Lo < 0))) || (decide (1099511627776 < a2.Hi)))=true then(some ((⟨(0:Int),(0:Int)⟩:A2),(2:Int)))else(if(decide ((IntKind.wrap .i64 (a0.Lo - (IntKind.wrap .i64 (a1.Hi * a2.Hi)))) < 0))=true then(some ((⟨(0:Int),(0:Int)⟩:A2),(15:Int)))else(some ((⟨(IntKind.wrap .i64 (a0.Lo - (IntKind.wrap .i64 (a1.Hi * a2.Hi)))),(IntKind.wrap .i64 (a0.Hi - (IntKind.wrap .i64 (a1.Lo * a2.Lo))))⟩:A2),(0:Int)))))):Option (A2×Int)):=by kernel_rfl
def Sp {α:Type} (m:Option α) (Q:α→Prop):Prop:=∃ x,m=some x∧Q x
theorem Sp.val {α:Type} {x:α} {Q:α→Prop} (h:Q x):Sp (some x) Q:=⟨x,rfl,h⟩
theorem Sp.bind {α β:Type} {m:Option α} {f:α→Option β} {P:α→Prop} {Q:β→Prop} (h:Sp m P) (k:∀ x,P x→Sp (f x) Q):Sp (m.bind f) Q:=by
 obtain⟨x,rfl,hx⟩:=h;exact k x hx
theorem Sp.tot {α β:Type} {m:Option α} {f:α→Option β} {Q:β→Prop} (h:Tot m) (k:∀ x,Sp (f x) Q):Sp (m.bind f) Q:=by
 obtain⟨x,rfl⟩:=h;exact k x
theorem Sp.eq {α β:Type} {m:Option α} {x:α} {f:α→Option β} {Q:β→Prop} (h:m=some x) (k:Sp (f x) Q):Sp (m.bind f) Q:=by
 subst h;exact k
theorem Sp.on {Y R:Type} {m:Option (Y⊕R)} {y:Y} {f:Y→Option R} {Q:R→Prop} (h:m=some (.inl y)) (k:Sp (f y) Q):Sp (m.bind (A5 f)) Q:=by
 subst h;exact k
theorem Sp.ite {α:Type} {p:Prop} [Decidable p] {a b:Option α} {Q:α→Prop} (h:p→Sp a Q) (k:¬ p→Sp b Q):Sp (if p then a else b) Q:=by
 by_cases c:p
 ·rw[if_pos c];exact h c
 ·rw[if_neg c];exact k c
theorem Sp.pos {α:Type} {p:Prop} [Decidable p] {a b:Option α} {Q:α→Prop} (hp:p) (h:Sp a Q):Sp (if p then a else b) Q:=by rw[if_pos hp];exact h
theorem Sp.mono {α:Type} {m:Option α} {P Q:α→Prop} (h:Sp m P) (k:∀ x,P x→Q x):Sp m Q:=by
 obtain⟨x,e,hx⟩:=h;exact⟨x,e,k x hx⟩
theorem Sp.res {α:Type} {m:Option α} {Q:α→Prop} (h:Sp m Q):Sp (Option.bind m fun r=>Option.some r) Q:=by
 obtain⟨x,rfl,hx⟩:=h;exact⟨x,rfl,hx⟩
theorem Vw (n:Int):L0 n=some (decide (0≤n)&&decide (n≤1000)):=M40 _
theorem Yg (n:Int):ur n=some (decide (0≤n)&&decide (n≤8000000)):=M41 _
theorem qx (ds:List Int) (a d:Int):∃ l e,ku ds a d=some (l,e)∧l.length≤64:=by
 rw[A24]
 by_cases h1:decide ((64:Int)≤(ds.length:Int))=true
 ·rw[if_pos h1];exact⟨[],3,rfl,by simp⟩
 rw[if_neg h1]
 simp only[decide_eq_true_eq]at h1
 simp only[Vw,Dn,Option.bind_some]
 by_cases c:0≤a∧a≤1000
 case neg=>rw[decide_eq_false c];exact⟨[],2,rfl,by simp⟩
 rw[decide_eq_true c]
 by_cases c2:0≤d∧d≤1000
 case neg=>rw[decide_eq_false c2];exact⟨[],2,rfl,by simp⟩
 rw[decide_eq_true c2]
 simp only[Bool.not_true,Bool.not_false,if_true,Option.bind_some,Bool.or_self,Bool.false_eq_true,if_false,A5]
 obtain⟨x,e,h⟩:=Ay (b:=P8 ds a d) (fun q=>∃ i:Nat,q.2=i∧i≤ds.length∧q.1.length=i) (fun q=>(ds.length - q.2).toNat) (fun x=>(∃ l,x=.inl l∧l.length≤64)∨x=.inr ([],2)) (fun q hq=>by
  obtain⟨l,q2⟩:=q
  obtain⟨i,hqi,hi,hl⟩:=hq
  simp only at hqi hl
  subst hqi
  by_cases hlt:i < ds.length
  ·have w:IntKind.wrap .i64 ((i:Int)+1)=((i+1:Nat):Int):=by rw[Ah (by omega) (by omega)];omega
   have z6:((6000:Int)≠0)=True:=eq_true (by decide)
   have zl:((i+1) * 16≤140737488355328)=True:=eq_true (by omega)
   by_cases g:0≤ds.getD i default∧ds.getD i default≤8000000
   ·refine .inl ⟨(_,((i+1:Nat):Int)),by simp only[P8,As hlt,decide_true,if_true,Int.toNat_natCast,Yg,Dn,Option.bind_some,decide_eq_true g,Bool.not_true,Bool.false_eq_true,if_false,z6,hl,zl,w];rfl,⟨i+1,rfl,hlt,by simp[hl]⟩,by simp only;omega⟩
   ·refine .inr ⟨.inr ([],2),by simp only[P8,As hlt,decide_true,if_true,Int.toNat_natCast,Yg,Dn,Option.bind_some,decide_eq_false g,Bool.not_false],.inr rfl⟩
  ·refine .inr ⟨.inl l,by simp only[P8,Dm (show ds.length≤i by omega),Bool.false_eq_true,if_false],.inl ⟨l,rfl,by omega⟩⟩) ([],0) ⟨0,rfl,Nat.zero_le _,rfl⟩
 rw[e]
 rcases h with⟨l,rfl,h⟩ | rfl
 ·exact⟨l,0,rfl,h⟩
 ·exact⟨[],2,rfl,by simp⟩
theorem yf (hs:st.length≤maxLen):Tot (ut ws st):=by
 rw[A42]
 obtain⟨c,h1,h2⟩:=Je (ws:=ws) hs
 rw[h1]
 by_cases c0:c=0
 case neg =>
  have cb:(c != 0)=true:=by simpa using c0
  simp only[Option.bind_some,cb,if_true,A5]
  exact⟨c,rfl⟩
 subst c0
 have hf:=(h2 rfl).few
 simp only[Option.bind_some,bne_self_eq_false,Bool.false_eq_true,if_false,A5]
 rcases Ge (b:=Uu ws) (z:=(2:Int)) (k:=fun _=>some (0:Int)) 0 ws.length (fun i=>True) (fun i _ hi'=>by
   simp only[Uu,As hi',decide_true,if_true,Int.toNat_natCast,Vw,Dn,Option.bind_some,W0 hi' (show ws.length≤4611686018427387904 by omega)]
   by_cases c:0≤(ws.getD i default).Lo∧(ws.getD i default).Lo≤1000
   case neg=>right;rw[decide_eq_false c];rfl
   rw[decide_eq_true c]
   by_cases d:0≤(ws.getD i default).Hi∧(ws.getD i default).Hi≤1000
   case neg=>right;simp only[Bool.not_true,Bool.not_false,if_true,decide_eq_false d,Option.bind_some,Bool.or_true]
   left
   refine⟨trivial,?_⟩
   simp only[Bool.not_true,Bool.not_false,if_true,decide_eq_true d,Option.bind_some,Bool.or_self,Bool.false_eq_true,if_false]) (fun i h=>by simp only[Uu,Dm h,Bool.false_eq_true,if_false]) with⟨k1,k2⟩ | k2
 ·exact⟨0,k2⟩
 ·exact⟨2,k2⟩
theorem plan_ok {wish:List Int} (h0:0 < ws.length) (hs:st.length≤maxLen):∃ v e,um ws st wish=some (v,e)∧(e=0→v.length=ws.length∧∀ i,i < ws.length→gi v i≤Bg ws i):=by
 obtain⟨c,h1⟩:=yf (ws:=ws) hs
 rw[M25,h1]
 by_cases c0:c=0
 case neg =>
  have cb:(c != 0)=true:=by simpa using c0
  simp only[Option.bind_some,cb,if_true]
  exact⟨[],c,rfl,fun h=>absurd h c0⟩
 subst c0
 obtain⟨v,e,h2,h3⟩:=below_P (ws:=ws) (st:=st) (wish:=wish) h0 hs
 simp only[Option.bind_some,bne_self_eq_false,Bool.false_eq_true,if_false,h2]
 exact⟨v,e,rfl,fun h=>⟨(h3 h).1.len,fun i hi=>((h3 h).2 i hi).2⟩⟩
theorem yd (a:Int):∃ n:Nat,N5 a=some (n:Int)∧n < 18446744073709551616:=by
 have wb:∀ x:Int,∃ n:Nat,IntKind.wrap .u64 x=(n:Int)∧n < 18446744073709551616:=fun x=>⟨(IntKind.wrap .u64 x).toNat,by rw[IntKind.wrap_u64];omega,by rw[IntKind.wrap_u64];omega⟩
 rw[M98]
 by_cases h:a < 0
 ·obtain⟨n,e,l⟩:=wb (0 - IntKind.wrap .u64 a)
  rw[if_pos (decide_eq_true h),e];exact⟨n,rfl,l⟩
 ·obtain⟨n,e,l⟩:=wb a
  rw[if_neg (by simpa using h),e];exact⟨n,rfl,l⟩
theorem AAX (a:Int) (b:Bool):Tot (G6 a b):=by
 rw[ze]
 exact .ite .some (.ite .some .some)
theorem ceil_t (a c:Int):Tot (l7 a c):=by
 have sg:∀ x b,Tot (Option.bind (Option.bind (G6 x b) fun r=>some r) fun y:Int×Int=>(some (y.1,y.2):Option (Int×Int))):=fun x b=>.bind ((AAX x b).bind fun _=>.some) fun _=>.some
 obtain⟨n,en,ln⟩:=yd a
 obtain⟨d,ed,ld⟩:=yd c
 have e1:N5 1=some ((1:Nat):Int):=gb 1 (by omega) (by omega)
 have p:=s60 n ln
 rw[M87]
 refine .bind (.bind ?_ fun _=>.some) fun _=>.some
 rw[s7,ed,en,e1]
 refine .ite .some ?_
 simp only[Option.bind_some]
 rw[show ((1:Nat):Int)=1 from rfl,p]
 simp only[Option.bind_some]
 by_cases hd:(d:Int)≤0
 ·rw[if_pos (decide_eq_true hd)];exact .some
 rw[if_neg (by simpa using hd),s61 n d ln (by omega)]
 simp only[Option.bind_some]
 exact .ite (.ite (.ite .some (sg _ _)) (sg _ _)) (.ite (.ite (.ite .some (sg _ _)) (sg _ _)) (.ite (.ite (.ite .some (sg _ _)) (sg _ _)) (.ite (.ite .some (sg _ _)) (sg _ _))))
theorem og (a c:Int):Tot (Vg a c):=by
 rw[M67];exact .bind ((ceil_t a c).bind fun _=>.some) fun _=>.some
theorem AAd {a c:Int} (h1:0≤a) (h2:a≤8000000) (h3:1≤c) (h4:c≤100000):∃ t,Vg a c=some t∧0≤t∧t≤8000000∧a≤t * c:=by
 rw[M67,kc a c h1 (by omega) (by omega) (by omega)]
 simp only[Option.bind_some]
 refine⟨_,rfl,?_,?_,?_⟩
 ·unfold cq;exact Int.ediv_nonneg (by omega) (by omega)
 ·unfold cq
  have:(a+c - 1) / c≤(8000000 * c) / c:=Int.ediv_le_ediv (by omega) (by
   by_cases ha:a=0
   ·omega
   ·have:8000000 * 1+c - 1≤8000000 * c:=by omega
    omega)
  rwa [Int.mul_ediv_cancel _ (by omega)]at this
 ·unfold cq
  have h:=Int.mul_ediv_add_emod (a+c - 1) c
  have hm:=Int.emod_lt_of_pos (a+c - 1) (show 0 < c by omega)
  rw[Int.mul_comm]at h
  omega
theorem Q2 {p:B4} (hP:Gi p=some 0) (alt mass:Int):Ok (Om p alt mass) (ac alt mass):=by
 rw[M13,hP]
 simp only[Option.bind_some,bne_self_eq_false,Bool.false_eq_true,if_false]
 exact Z4 (Ea _ _ _) (fun _=>Ea _ _ _) (by decide) fun h1 h2=>.zero ⟨h1,h2⟩
theorem gx {p:B4} (hP:Gi p=some 0) (F:Cg p) (alt mass:Int):Tot (v7 p alt mass):=by
 obtain⟨c,h1,h2⟩:=Q2 hP alt mass
 by_cases c0:c=0
 ·obtain⟨v,h,_⟩:=ao hP F (h2 c0);exact⟨_,h⟩
 ·have cb:(c != 0)=true:=by simpa using c0
  rw[M95,h1]
  simp only[Option.bind_some,cb,if_true]
  exact .some
theorem aq {p:B4} (hP:Gi p=some 0) (F:Cg p) (alt mass tas:Int):Tot (v8 p alt mass tas):=by
 obtain⟨c,h1,h2⟩:=Q2 hP alt mass
 by_cases c0:c=0
 ·obtain⟨v,e,h,_⟩:=Yo hP F (h2 c0) tas;exact⟨_,h⟩
 ·have cb:(c != 0)=true:=by simpa using c0
  rw[M96,h1]
  simp only[Option.bind_some,cb,if_true]
  exact .some
theorem pz {p:B4} (hP:Gi p=some 0) (F:Cg p) (alt:Int):Tot (v9 p alt):=by
 obtain⟨c,h1,h2⟩:=Q2 hP alt 1
 by_cases c0:c=0
 ·obtain⟨v,h,_⟩:=idle_eq hP F (h2 c0).1;exact⟨_,h⟩
 ·have cb:(c != 0)=true:=by simpa using c0
  rw[M97,h1]
  simp only[Option.bind_some,cb,if_true]
  exact .some
theorem ba {l:Bu} {x:Ap} (hP:Gi x.Perf=some 0) (F:Cg x.Perf) (fuel tas:Int):Tot (Y2 l x fuel tas):=by
 rw[M68]
 exact .ite (.bind ((gx hP F _ _).bind fun _=>.some) fun _=>.some) (.ite (.bind ((aq hP F _ _ _).bind fun _=>.some) fun _=>.some) (.bind ((pz hP F _).bind fun _=>.some) fun _=>.some))
theorem zo (a b c:A2):Tot (m69 a b c):=by
 rw[M69]
 exact .ite .some (.ite .some (.ite .some .some))
end Go.Av.Air
set_option maxRecDepth 100000
namespace Go.Av.Air
theorem M45 (a0 a1 a2:Int):Cu a0 a1 a2=((some ((decide (a1≤a0))&&(decide (a0≤a2)))):Option (Bool)):=by kernel_rfl
theorem M38 (a0:Int):Jx a0=((Option.bind (Option.bind (Cu a0 (-200000:Int) (6000000:Int)) fun r=>some r) fun x1=>(some x1)):Option (Bool)):=by kernel_rfl
theorem M43 (a0:Lb) (a1:Int):uu a0 a1=((Option.bind (((Cu a0.At.X (-2000000:Int) (2000000:Int)).bind fun r1_0=>((if(!(!r1_0))=true then Cu a0.At.Y (-2000000:Int) (2000000:Int)else some default).bind fun r1_1=>((if(!((!r1_0) || (!r1_1)))=true then Cu a0.Dist (0:Int) (8000000:Int)else some default).bind fun r1_2=>some (r1_0,r1_1,r1_2))))) fun(x1:(Bool×Bool×Bool))=>(if(((!x1.1) || (!x1.2.1)) || (!x1.2.2))=true then(some (2:Int))else(if((a1==0)&&(a0.Dist != 0))=true then(some (1:Int))else(Option.bind (((Jx a0.Alt.Lo).bind fun r5_0=>((if(!(!r5_0))=true then Jx a0.Alt.Hi else some default).bind fun r5_1=>some (r5_0,r5_1)))) fun(x5:(Bool×Bool))=>(if(((!x5.1) || (!x5.2)) || (decide (a0.Alt.Hi < a0.Alt.Lo)))=true then(some (2:Int))else(if(((decide (a0.Speed.Lo < 0)) || (decide (a0.Speed.Hi < a0.Speed.Lo))) || (decide (1000 < a0.Speed.Hi)))=true then(some (2:Int))else(some (0:Int)))))))):Option (Int)):=by kernel_rfl
theorem M26 (a0:Ap):Kz a0=((Option.bind (if((decide ((a0.Nodes.length:Int) < (2:Int))) || (decide (64 < (a0.Nodes.length:Int))))=true then(some (.inr ((3:Int))))else(some (.inl ()))) (A5 fun(_:Unit)=>(Option.bind (Option.bind (some (.inl ())) (A5 fun(_:Unit)=>(Ad (fun(s1:Int)=>((if(decide (s1 < (a0.Nodes.length:Int)))=true then(if(0≤s1)then(if(s1 < (a0.Nodes.length:Int))then(Option.bind (Option.bind (uu (a0.Nodes.getD s1.toNat default) s1) fun r=>some r) fun x6=>(if(x6 != 0)=true then(some (.inr (.inr (x6))))else(some (.inl (IntKind.wrap .i64 (s1+1))))))else none)else none)else(some (.inr (.inl ())))):Option ((Int)⊕((Unit)⊕(Int))))) (0:Int)))) (A5 fun(_:Unit)=>(Option.bind (Option.bind (Gi a0.Perf) fun r=>some r) fun x10=>(if(x10 != 0)=true then(some x10)else(Option.bind (Option.bind (Ps a0.Grid) fun r=>some r) fun x13=>(if(x13 != 0)=true then(some x13)else(Option.bind (Option.bind (Rm a0.Fuel) fun r=>some r) fun x16=>(if(x16 != 0)=true then(some x16)else(Option.bind (((Jx a0.Level).bind fun r19_0=>((if(!(!r19_0))=true then Cu a0.CAS (1:Int) (1000:Int)else some default).bind fun r19_1=>((if(!((!r19_0) || (!r19_1)))=true then Cu a0.Mach (1:Int) (2000:Int)else some default).bind fun r19_2=>((if(!(((!r19_0) || (!r19_1)) || (!r19_2)))=true then Cu a0.Accel (0:Int) (1000:Int)else some default).bind fun r19_3=>((if(!((((!r19_0) || (!r19_1)) || (!r19_2)) || (!r19_3)))=true then Cu a0.Decel (0:Int) (1000:Int)else some default).bind fun r19_4=>((if(!(((((!r19_0) || (!r19_1)) || (!r19_2)) || (!r19_3)) || (!r19_4)))=true then Jx a0.LimitAlt else some default).bind fun r19_5=>((if(!((((((!r19_0) || (!r19_1)) || (!r19_2)) || (!r19_3)) || (!r19_4)) || (!r19_5)))=true then Cu a0.LimitSpeed (1:Int) (1000:Int)else some default).bind fun r19_6=>some (r19_0,r19_1,r19_2,r19_3,r19_4,r19_5,r19_6))))))))) fun(x19:(Bool×Bool×Bool×Bool×Bool×Bool×Bool))=>(if(((((((!x19.1) || (!x19.2.1)) || (!x19.2.2.1)) || (!x19.2.2.2.1)) || (!x19.2.2.2.2.1)) || (!x19.2.2.2.2.2.1)) || (!x19.2.2.2.2.2.2))=true then(some (2:Int))else(some (0:Int)))))))))))))):Option (Int)):=by kernel_rfl
noncomputable abbrev Ur (a0:Ap):(Int)→Option ((Int)⊕((Unit)⊕(Int))):=(fun(s1:Int)=>((if(decide (s1 < (a0.Nodes.length:Int)))=true then(if(0≤s1)then(if(s1 < (a0.Nodes.length:Int))then(Option.bind (Option.bind (uu (a0.Nodes.getD s1.toNat default) s1) fun r=>some r) fun x6=>(if(x6 != 0)=true then(some (.inr (.inr (x6))))else(some (.inl (IntKind.wrap .i64 (s1+1))))))else none)else none)else(some (.inr (.inl ())))):Option ((Int)⊕((Unit)⊕(Int)))))
theorem A26  (a0:Ap):Kz a0=((Option.bind (if((decide ((a0.Nodes.length:Int) < (2:Int))) || (decide (64 < (a0.Nodes.length:Int))))=true then(some (.inr ((3:Int))))else(some (.inl ()))) (A5 fun(_:Unit)=>(Option.bind (Option.bind (some (.inl ())) (A5 fun(_:Unit)=>(Ad (Ur a0) (0:Int)))) (A5 fun(_:Unit)=>(Option.bind (Option.bind (Gi a0.Perf) fun r=>some r) fun x10=>(if(x10 != 0)=true then(some x10)else(Option.bind (Option.bind (Ps a0.Grid) fun r=>some r) fun x13=>(if(x13 != 0)=true then(some x13)else(Option.bind (Option.bind (Rm a0.Fuel) fun r=>some r) fun x16=>(if(x16 != 0)=true then(some x16)else(Option.bind (((Jx a0.Level).bind fun r19_0=>((if(!(!r19_0))=true then Cu a0.CAS (1:Int) (1000:Int)else some default).bind fun r19_1=>((if(!((!r19_0) || (!r19_1)))=true then Cu a0.Mach (1:Int) (2000:Int)else some default).bind fun r19_2=>((if(!(((!r19_0) || (!r19_1)) || (!r19_2)))=true then Cu a0.Accel (0:Int) (1000:Int)else some default).bind fun r19_3=>((if(!((((!r19_0) || (!r19_1)) || (!r19_2)) || (!r19_3)))=true then Cu a0.Decel (0:Int) (1000:Int)else some default).bind fun r19_4=>((if(!(((((!r19_0) || (!r19_1)) || (!r19_2)) || (!r19_3)) || (!r19_4)))=true then Jx a0.LimitAlt else some default).bind fun r19_5=>((if(!((((((!r19_0) || (!r19_1)) || (!r19_2)) || (!r19_3)) || (!r19_4)) || (!r19_5)))=true then Cu a0.LimitSpeed (1:Int) (1000:Int)else some default).bind fun r19_6=>some (r19_0,r19_1,r19_2,r19_3,r19_4,r19_5,r19_6))))))))) fun(x19:(Bool×Bool×Bool×Bool×Bool×Bool×Bool))=>(if(((((((!x19.1) || (!x19.2.1)) || (!x19.2.2.1)) || (!x19.2.2.2.1)) || (!x19.2.2.2.2.1)) || (!x19.2.2.2.2.2.1)) || (!x19.2.2.2.2.2.2))=true then(some (2:Int))else(some (0:Int)))))))))))))):Option (Int)):=M26 _
theorem M63 (a0:Ap) (a1:Int):kz a0 a1=((Option.bind ((if 0≤(IntKind.wrap .i64 (a1 - 1))then(if(IntKind.wrap .i64 (a1 - 1)) < (a0.Nodes.length:Int)then(if 0≤a1 then(if a1 < (a0.Nodes.length:Int)then((l8 a0.Grid (a0.Nodes.getD (IntKind.wrap .i64 (a1 - 1)).toNat default).At (a0.Nodes.getD a1.toNat default).At (⟨(-200000:Int),a0.Level⟩:A7)).bind fun r1_0=>some r1_0)else none)else none)else none)else none)) fun(x1:((A6×A2×Int)))=>(some (x1.1,x1.2.1))):Option (A6×A2)):=by kernel_rfl
theorem M79 (a0:A2):Vh a0=((Option.bind (((En a0.Lo).bind fun r1_0=>((En a0.Hi).bind fun r1_1=>some (r1_0,r1_1)))) fun(x1:(Int×Int))=>(some (if x1.1 < x1.2 then x1.2 else x1.1))):Option (Int)):=by kernel_rfl
theorem M34 (a0:Ap) (a1:Int):un a0 a1=((Option.bind (Option.bind (kz a0 a1) fun r=>some r) fun x1=>(if(0≤(IntKind.wrap .i64 (a1 - 1)))then(if((IntKind.wrap .i64 (a1 - 1)) < (a0.Nodes.length:Int))then(if(0≤a1)then(if(a1 < (a0.Nodes.length:Int))then(if((2:Int)≠0)then(Option.bind (Option.bind (uw (IntKind.wrap .i64 (Int.tdiv (IntKind.wrap .i64 ((if a0.CAS < (a0.Nodes.getD (IntKind.wrap .i64 (a1 - 1)).toNat default).Speed.Hi then a0.CAS else(a0.Nodes.getD (IntKind.wrap .i64 (a1 - 1)).toNat default).Speed.Hi)+(if a0.CAS < (a0.Nodes.getD a1.toNat default).Speed.Hi then a0.CAS else(a0.Nodes.getD a1.toNat default).Speed.Hi))) (2:Int))) a0.Level x1.2.Hi) fun r=>some r) fun x3=>(Option.bind (((Vh x1.1.East).bind fun r4_0=>((Vh x1.1.North).bind fun r4_1=>some (r4_0,r4_1)))) fun(x4:(Int×Int))=>(if((IntKind.wrap .i64 ((IntKind.wrap .i64 (x3.1+x4.1))+x4.2))==0)=true then(some (50000:Int))else(if(0≤a1)then(if(a1 < (a0.Nodes.length:Int))then(if((IntKind.wrap .i64 ((IntKind.wrap .i64 (x3.1+x4.1))+x4.2))≠0)then(some (if 50000 < (IntKind.wrap .i64 (Int.tdiv (a0.Nodes.getD a1.toNat default).Dist (IntKind.wrap .i64 ((IntKind.wrap .i64 (x3.1+x4.1))+x4.2))))then(50000:Int)else(IntKind.wrap .i64 (Int.tdiv (a0.Nodes.getD a1.toNat default).Dist (IntKind.wrap .i64 ((IntKind.wrap .i64 (x3.1+x4.1))+x4.2))))))else none)else none)else none))))else none)else none)else none)else none)else none)):Option (Int)):=by kernel_rfl
theorem Mj (n lo hi:Int):Cu n lo hi=some (decide (lo≤n)&&decide (n≤hi)):=M45 _ _ _
theorem Mk (n lo hi:Int):OkB (Cu n lo hi) (lo≤n∧n≤hi):=by rw[M45];exact Ma
theorem Fh (n:Int):Jx n=some (decide (-200000≤n)&&decide (n≤6000000)):=by rw[M38,Mj];rfl
theorem R9 (n:Int):OkB (Jx n) (-200000≤n∧n≤6000000):=by rw[Fh];exact Ma
structure zf (x:Lb):Prop where
 at_:R7 x.At
 d:0≤x.Dist∧x.Dist≤8000000
 lo : -200000≤x.Alt.Lo∧x.Alt.Lo≤6000000
 hi : -200000≤x.Alt.Hi∧x.Alt.Hi≤6000000
 s:0≤x.Speed.Lo∧x.Speed.Lo≤x.Speed.Hi∧x.Speed.Hi≤1000
theorem node_ok (x:Lb) (i:Int):Ok (uu x i) (zf x):=by
 rw[M43]
 refine Ud (Mk _ _ _) (fun _=>Mk _ _ _) (fun _ _=>Mk _ _ _) (by decide) fun h1 h2 h3=>Ue (by decide) fun _=>?_
 obtain⟨a,ea,ha⟩:=R9 x.Alt.Lo
 rw[ea]
 cases a with
 | false=>exact .err (by decide)
 | true =>
  obtain⟨b,eb,hb⟩:=R9 x.Alt.Hi
  rw[eb]
  cases b with
  | false=>exact .err (by decide)
  | true =>
   simp only[Option.bind_some,Bool.not_true,Bool.not_false,if_true,Bool.or_self,Bool.false_or]
   refine Ue (by decide) fun _=>Ue (by decide) fun h=>?_
   simp only[Bool.or_eq_true,decide_eq_true_eq,not_or]at h
   exact .zero ⟨⟨h1,h2⟩,h3,ha rfl,hb rfl,by omega,by omega,by omega⟩
theorem Xj {b:Int→Option (Int⊕(Unit⊕Int))} {n:Nat} {P:Nat→Prop} (hb:∀ i:Nat,i < n→(P i∧b i=some (.inl ((i:Int)+1)))∨∃ c,c≠0∧b i=some (.inr (.inr c))) (hd:∀ i:Nat,n≤i→b i=some (.inr (.inl ()))) :
  ((∀ i,i < n→P i)∧Ad b 0=some (.inl ()))∨∃ c,c≠0∧Ad b 0=some (.inr c):=by
 have key:∀ m i:Nat,n - i=m→(∀ j,j < i→j < n→P j)→((∀ i,i < n→P i)∧Ad b i=some (.inl ()))∨∃ c,c≠0∧Ad b i=some (.inr c):=by
  intro m
  induction m with
  | zero =>
   intro i hi hp
   rw[G5,hd i (by omega)]
   exact .inl ⟨fun j h2=>hp j (by omega) h2,rfl⟩
  | succ m ih =>
   intro i hi hp
   rw[G5]
   rcases hb i (by omega) with⟨h1,h2⟩ | ⟨c,h1,h2⟩
   ·rw[h2]
    exact ih (i+1) (by omega) fun j j2 j3=>by
     by_cases e:j=i
     ·rw[e];exact h1
     ·exact hp j (by omega) j3
   ·rw[h2];exact .inr ⟨c,h1,rfl⟩
 exact key n 0 rfl fun j h1 h2=>by omega
abbrev nd (x:Ap) (i:Nat):Lb:=x.Nodes.getD i default
structure Fb (x:Ap):Prop where
 n:2≤x.Nodes.length∧x.Nodes.length≤64
 nd:∀ i,i < x.Nodes.length→zf (nd x i)
 p:Gi x.Perf=some 0
 P:Cg x.Perf
 g:Ps x.Grid=some 0
 G:∃ nx ny nz,Jn x.Grid nx ny nz
 f:Rm x.Fuel=some 0
 F:oo x.Fuel
 lev : -200000≤x.Level∧x.Level≤6000000
 cas:1≤x.CAS∧x.CAS≤1000
 mach:1≤x.Mach∧x.Mach≤2000
theorem chk_ok {x:Ap} (b:eo x):Ok (Kz x) (Fb x):=by
 obtain⟨⟨b1,_⟩,b2,b3,_⟩:=b
 rw[A26]
 by_cases h1:((decide ((x.Nodes.length:Int) < (2:Int))) || (decide (64 < (x.Nodes.length:Int))))=true
 ·rw[if_pos h1];exact .err (by decide)
 rw[if_neg h1]
 simp only[Bool.or_eq_true,decide_eq_true_eq,not_or]at h1
 simp only[Option.bind_some,A5]
 rcases Xj (b:=Ur x) (n:=x.Nodes.length) (P:=fun i=>zf (nd x i)) (fun i hi'=>by
   obtain⟨c,h1,h2⟩:=node_ok (x.Nodes.getD i default) i
   simp only[Ur,As hi',decide_true,if_true,Int.toNat_natCast,h1,Option.bind_some,W0 hi' (show x.Nodes.length≤4611686018427387904 by omega)]
   by_cases c0:c=0
   ·left
    subst c0
    exact⟨h2 rfl,by rw[if_neg (by decide)]⟩
   ·right
    exact⟨c,c0,by rw[if_pos (by simpa using c0)]⟩) (fun i h=>by simp only[Ur,Dm h,Bool.false_eq_true,if_false]) with⟨k1,k2⟩ | ⟨c,c0,k2⟩
 case inr=>rw[k2];exact⟨c,rfl,fun h=>absurd h c0⟩
 rw[k2]
 simp only[Option.bind_some,A5]
 obtain⟨c,e1,g1⟩:=perf_ok (lens_of b2)
 rw[e1]
 by_cases c0:c=0
 case neg=>simp only[Option.bind_some,show (c != 0)=true by simpa using c0,if_true];exact .err c0
 subst c0
 have P:=g1 rfl
 clear g1
 obtain⟨c,e2,g2⟩:=u9 (g:=x.Grid) b3.2.2.2.2.1.1 b3.2.2.2.2.2.1.1
 rw[e2]
 by_cases c0:c=0
 case neg=>simp only[Option.bind_some,show (c != 0)=true by simpa using c0,if_true,bne_self_eq_false,Bool.false_eq_true,if_false];exact .err c0
 subst c0
 have G:=g2 rfl
 clear g2
 obtain⟨c,e3,g3⟩:=tx x.Fuel
 rw[e3]
 by_cases c0:c=0
 case neg=>simp only[Option.bind_some,show (c != 0)=true by simpa using c0,if_true,bne_self_eq_false,Bool.false_eq_true,if_false];exact .err c0
 subst c0
 have F:=g3 rfl
 clear g3
 simp only[Fh,Mj,Dn,Option.bind_some,bne_self_eq_false,Bool.false_eq_true,if_false]
 by_cases d1 : -200000≤x.Level∧x.Level≤6000000
 case neg=>rw[decide_eq_false d1];exact .err (by decide)
 rw[decide_eq_true d1]
 by_cases d2:1≤x.CAS∧x.CAS≤1000
 case neg=>rw[decide_eq_false d2];exact .err (by decide)
 rw[decide_eq_true d2]
 by_cases d3:1≤x.Mach∧x.Mach≤2000
 case neg=>rw[decide_eq_false d3];exact .err (by decide)
 rw[decide_eq_true d3]
 have I:Fb x:=⟨by omega,k1,e1,P,e2,G,e3,F,d1,d2,d3⟩
 generalize decide (0≤x.Accel∧x.Accel≤1000)=z1
 generalize decide (0≤x.Decel∧x.Decel≤1000)=z2
 generalize decide (-200000≤x.LimitAlt∧x.LimitAlt≤6000000)=z3
 generalize decide (1≤x.LimitSpeed∧x.LimitSpeed≤1000)=z4
 cases z1
 ·exact .err (by decide)
 cases z2
 ·exact .err (by decide)
 cases z3
 ·exact .err (by decide)
 cases z4
 ·exact .err (by decide)
 exact .zero I
variable {x:Ap}
theorem bp (I:Fb x) {i:Nat} (h1:1≤i) (h:i < x.Nodes.length):∃ box d,kz x (i:Int)=some (box,d)∧Enc x.Grid (nd x (i - 1)).At (nd x i).At (-200000) x.Level box d:=by
 obtain⟨nx,ny,nz,G⟩:=I.G
 obtain⟨box,d,e,E⟩:=hull_ok I.g G (I.nd (i - 1) (by omega)).at_ (I.nd i h).at_ (lo := -200000) (hi:=x.Level) (by omega) I.lev.1 I.lev.2
 have hn:=I.n
 have w:IntKind.wrap .i64 ((i:Int) - 1)=((i - 1:Nat):Int):=by rw[Ah (by omega) (by omega)];omega
 refine⟨box,d,?_,E⟩
 rw[M63,w]
 simp only[As h,As (show i - 1 < x.Nodes.length by omega),if_true,Int.toNat_natCast,e,Option.bind_some]
theorem Qn {t:A2} (h : -400≤t.Lo∧t.Lo≤t.Hi∧t.Hi≤400):∃ E,Vh t=some E∧0≤E∧E≤400 ∧ -E≤t.Lo∧t.Hi≤E:=by
 rw[M79,sn (by omega) (by omega),sn (by omega) (by omega)]
 simp only[Option.bind_some]
 refine⟨_,rfl,?_⟩
 split<;>omega
def Jp (x:Ap) (i:Nat):Int:=((if x.CAS < (nd x (i - 1)).Speed.Hi then x.CAS else(nd x (i - 1)).Speed.Hi)+(if x.CAS < (nd x i).Speed.Hi then x.CAS else(nd x i).Speed.Hi)) / 2
def W9 (x:Ap) (i:Nat) (k:Int):Prop:=∀ box d E N,kz x (i:Int)=some (box,d)→Vh box.East=some E→Vh box.North=some N→∀ g,1≤g→g≤Jv (Jp x i) x.Level d.Hi+E+N→k * g≤(nd x i).Dist
theorem least_w (I:Fb x) {i:Nat} (h1:1≤i) (h:i < x.Nodes.length):∃ k,un x (i:Int)=some k∧0≤k∧k≤50000∧W9 x i k:=by
 obtain⟨box,d,eh,H⟩:=bp I h1 h
 obtain⟨E,eE,E1,E2,_⟩:=Qn H.e
 obtain⟨N,eN,N1,N2,_⟩:=Qn H.n
 have hn:=I.n
 have hdv:=H.dv
 have hc:=I.cas
 have s1:=(I.nd (i - 1) (by omega)).s
 have s2:=(I.nd i h).s
 have hd:=(I.nd i h).d
 have w:IntKind.wrap .i64 ((i:Int) - 1)=((i - 1:Nat):Int):=by rw[Ah (by omega) (by omega)];omega
 obtain⟨c,ec⟩:∃ c,(if x.CAS < (nd x (i - 1)).Speed.Hi then x.CAS else(nd x (i - 1)).Speed.Hi)=c:=⟨_,rfl⟩
 obtain⟨c',ec'⟩:∃ c,(if x.CAS < (nd x i).Speed.Hi then x.CAS else(nd x i).Speed.Hi)=c:=⟨_,rfl⟩
 have cb:0≤c∧c≤1000:=by rw[← ec];split<;>omega
 have cb':0≤c'∧c'≤1000:=by rw[← ec'];split<;>omega
 have em:Jp x i=(c+c') / 2:=by unfold Jp;rw[ec,ec']
 have wc:IntKind.wrap .i64 (c+c')=c+c':=Ah (by omega) (by omega)
 have ed:Int.tdiv (c+c') 2=(c+c') / 2:=Int.tdiv_eq_ediv_of_nonneg (by omega)
 have wm:IntKind.wrap .i64 ((c+c') / 2)=(c+c') / 2:=Ah (by omega) (by omega)
 have et:=yq (c:=(c+c') / 2) (a:=x.Level) (d:=d.Hi) (by omega) I.lev (by omega)
 have tb:=gl (c:=(c+c') / 2) (a:=x.Level) (d:=d.Hi) (by omega) (by omega)
 have z2:((2:Int)≠0)=True:=eq_true (by decide)
 unfold W9
 rw[em]
 obtain⟨t,ht⟩:∃ t,Jv ((c+c') / 2) x.Level d.Hi=t:=⟨_,rfl⟩
 rw[ht]at et tb
 have ws:IntKind.wrap .i64 (IntKind.wrap .i64 (t+E)+N)=t+E+N:=by rw[Ah (x:=t+E) (by omega) (by omega),Ah (by omega) (by omega)]
 rw[M34]
 simp only[eh,w,As h,As (show i - 1 < x.Nodes.length by omega),if_true,Int.toNat_natCast,Option.bind_some,z2]
 rw[ec,ec',wc,ed,wm,et]
 simp only[Option.bind_some,eE,eN,ws]
 by_cases hz:t+E+N=0
 ·have:(t+E+N==0)=true:=by simpa using hz
  rw[if_pos this]
  refine⟨_,rfl,by omega,by omega,fun box' d' E' N' q1 q2 q3 g g1 g2=>?_⟩
  cases q1
  rw[eE]at q2;rw[eN]at q3
  cases q2;cases q3
  rw[ht]at g2
  omega
 ·have:(t+E+N==0)=false:=by simpa using hz
  have hp:0 < t+E+N:=by omega
  have q0:Int.tdiv (nd x i).Dist (t+E+N)=(nd x i).Dist / (t+E+N):=Int.tdiv_eq_ediv_of_nonneg hd.1
  have qb:0≤(nd x i).Dist / (t+E+N):=Int.ediv_nonneg hd.1 (by omega)
  have ql:(nd x i).Dist / (t+E+N)≤(nd x i).Dist:=Int.ediv_le_self _ hd.1
  have qm:(nd x i).Dist / (t+E+N) * (t+E+N)≤(nd x i).Dist:=Int.ediv_mul_le _ (by omega)
  rw[this,if_neg (by decide),if_pos hz,q0]
  generalize (nd x i).Dist / (t+E+N)=q at qb ql qm
  rw[Ah (x:=q) (by omega) (by omega)]
  refine⟨_,rfl,by split<;>omega,by split<;>omega,fun box' d' E' N' q1 q2 q3 g g1 g2=>?_⟩
  cases q1
  rw[eE]at q2;rw[eN]at q3
  cases q2;cases q3
  rw[ht]at g2
  have:(if 50000 < q then(50000:Int)else q) * g≤q * (t+E+N):=Int.mul_le_mul (by split<;>omega) g2 (by omega) qb
  omega
end Go.Av.Air
set_option maxRecDepth 100000
namespace Go.Av.Air
theorem M27 (a0:Ap) (a1 a2:List Int):kv a0 a1 a2=((Option.bind (if(((a1.length:Int) != (a0.Nodes.length:Int)) || ((a2.length:Int) != (a0.Nodes.length:Int)))=true then(some (.inr ((1:Int))))else(some (.inl ()))) (A5 fun(_:Unit)=>(Option.bind (Option.bind (some (.inl ())) (A5 fun(_:Unit)=>(Ad (fun(s1:Int)=>((if(decide (s1 < (a1.length:Int)))=true then(if(0≤s1)then(if(s1 < (a1.length:Int))then(Option.bind (((Cu (a1.getD s1.toNat default) (-200000:Int) a0.Level).bind fun r6_0=>(if(!(!r6_0))=true→0≤s1 then(if(!(!r6_0))=true→s1 < (a2.length:Int)then((if(!(!r6_0))=true then Cu (a2.getD s1.toNat default) (0:Int) (1000:Int)else some default).bind fun r6_1=>some (r6_0,r6_1))else none)else none))) fun(x6:(Bool×Bool))=>(if((!x6.1) || (!x6.2))=true then(some (.inr (.inr ((2:Int)))))else(some (.inl (IntKind.wrap .i64 (s1+1))))))else none)else none)else(some (.inr (.inl ())))):Option ((Int)⊕((Unit)⊕(Int))))) (0:Int)))) (A5 fun(_:Unit)=>(some (0:Int)))))):Option (Int)):=by kernel_rfl
noncomputable abbrev Us (a1:List Int) (a0:Ap) (a2:List Int):(Int)→Option ((Int)⊕((Unit)⊕(Int))):=(fun(s1:Int)=>((if(decide (s1 < (a1.length:Int)))=true then(if(0≤s1)then(if(s1 < (a1.length:Int))then(Option.bind (((Cu (a1.getD s1.toNat default) (-200000:Int) a0.Level).bind fun r6_0=>(if(!(!r6_0))=true→0≤s1 then(if(!(!r6_0))=true→s1 < (a2.length:Int)then((if(!(!r6_0))=true then Cu (a2.getD s1.toNat default) (0:Int) (1000:Int)else some default).bind fun r6_1=>some (r6_0,r6_1))else none)else none))) fun(x6:(Bool×Bool))=>(if((!x6.1) || (!x6.2))=true then(some (.inr (.inr ((2:Int)))))else(some (.inl (IntKind.wrap .i64 (s1+1))))))else none)else none)else(some (.inr (.inl ())))):Option ((Int)⊕((Unit)⊕(Int)))))
theorem A27  (a0:Ap) (a1 a2:List Int):kv a0 a1 a2=((Option.bind (if(((a1.length:Int) != (a0.Nodes.length:Int)) || ((a2.length:Int) != (a0.Nodes.length:Int)))=true then(some (.inr ((1:Int))))else(some (.inl ()))) (A5 fun(_:Unit)=>(Option.bind (Option.bind (some (.inl ())) (A5 fun(_:Unit)=>(Ad (Us a1 a0 a2) (0:Int)))) (A5 fun(_:Unit)=>(some (0:Int)))))):Option (Int)):=M27 _ _ _
theorem M62 (a0:Ap) (a1 a2:List Int) (a3:Int):m62 a0 a1 a2 a3=((if(0≤(IntKind.wrap .i64 (a3 - 1)))then(if((IntKind.wrap .i64 (a3 - 1)) < (a0.Nodes.length:Int))then(if(0≤a3)then(if(a3 < (a0.Nodes.length:Int))then(if(0≤(IntKind.wrap .i64 (a3 - 1)))then(if((IntKind.wrap .i64 (a3 - 1)) < (a1.length:Int))then(if(0≤a3)then(if(a3 < (a1.length:Int))then(if((0:Int)≤(1:Int))then(if(0≤(IntKind.wrap .i64 (a3 - 1)))then(if((IntKind.wrap .i64 (a3 - 1)) < (a2.length:Int))then(if(0≤a3)then(if(a3 < (a2.length:Int))then(if((0:Int)≤(1:Int))then(Option.bind (Option.bind (m88 (a0.Nodes.getD (IntKind.wrap .i64 (a3 - 1)).toNat default).At (a0.Nodes.getD a3.toNat default).At) fun r=>some r) fun x3=>(if(0≤a3)then(if(a3 < (a1.length:Int))then(if(0≤(IntKind.wrap .i64 (a3 - 1)))then(if((IntKind.wrap .i64 (a3 - 1)) < (a1.length:Int))then(if(decide ((a1.getD (IntKind.wrap .i64 (a3 - 1)).toNat default) < (a1.getD a3.toNat default)))=true then(Option.bind ((if(0:Int)≤(1:Int)then(if(0:Int)≤(1:Int)then((On a0.Grid (⟨(Int.fdiv (IntKind.wrap .i64 ((a0.Nodes.getD (IntKind.wrap .i64 (a3 - 1)).toNat default).At.X+(a0.Nodes.getD a3.toNat default).At.X)) (2 ^ (min (1:Int).toNat (IntKind.bits .i64)))),(Int.fdiv (IntKind.wrap .i64 ((a0.Nodes.getD (IntKind.wrap .i64 (a3 - 1)).toNat default).At.Y+(a0.Nodes.getD a3.toNat default).At.Y)) (2 ^ (min (1:Int).toNat (IntKind.bits .i64))))⟩:Be) (Int.fdiv (IntKind.wrap .i64 ((a1.getD (IntKind.wrap .i64 (a3 - 1)).toNat default)+(a1.getD a3.toNat default))) (2 ^ (min (1:Int).toNat (IntKind.bits .i64))))).bind fun r8_0=>some r8_0)else none)else none)) fun(x8:((Bk×Int×Int)))=>(Option.bind (Option.bind (Pt (⟨(Int.fdiv (IntKind.wrap .i64 ((a1.getD (IntKind.wrap .i64 (a3 - 1)).toNat default)+(a1.getD a3.toNat default))) (2 ^ (min (1:Int).toNat (IntKind.bits .i64)))),x3.1,(1:Int),(Int.fdiv (IntKind.wrap .i64 ((a2.getD (IntKind.wrap .i64 (a3 - 1)).toNat default)+(a2.getD a3.toNat default))) (2 ^ (min (1:Int).toNat (IntKind.bits .i64)))),(0:Int),x8.1⟩:Bu) a0 x8.2.1) fun r=>some r) fun x10=>(some (⟨(Int.fdiv (IntKind.wrap .i64 ((a1.getD (IntKind.wrap .i64 (a3 - 1)).toNat default)+(a1.getD a3.toNat default))) (2 ^ (min (1:Int).toNat (IntKind.bits .i64)))),x3.1,(1:Int),(Int.fdiv (IntKind.wrap .i64 ((a2.getD (IntKind.wrap .i64 (a3 - 1)).toNat default)+(a2.getD a3.toNat default))) (2 ^ (min (1:Int).toNat (IntKind.bits .i64)))),x10,x8.1⟩:Bu))))else(if(0≤a3)then(if(a3 < (a1.length:Int))then(if(0≤(IntKind.wrap .i64 (a3 - 1)))then(if((IntKind.wrap .i64 (a3 - 1)) < (a1.length:Int))then(if(decide ((a1.getD a3.toNat default) < (a1.getD (IntKind.wrap .i64 (a3 - 1)).toNat default)))=true then(Option.bind ((if(0:Int)≤(1:Int)then(if(0:Int)≤(1:Int)then((On a0.Grid (⟨(Int.fdiv (IntKind.wrap .i64 ((a0.Nodes.getD (IntKind.wrap .i64 (a3 - 1)).toNat default).At.X+(a0.Nodes.getD a3.toNat default).At.X)) (2 ^ (min (1:Int).toNat (IntKind.bits .i64)))),(Int.fdiv (IntKind.wrap .i64 ((a0.Nodes.getD (IntKind.wrap .i64 (a3 - 1)).toNat default).At.Y+(a0.Nodes.getD a3.toNat default).At.Y)) (2 ^ (min (1:Int).toNat (IntKind.bits .i64))))⟩:Be) (Int.fdiv (IntKind.wrap .i64 ((a1.getD (IntKind.wrap .i64 (a3 - 1)).toNat default)+(a1.getD a3.toNat default))) (2 ^ (min (1:Int).toNat (IntKind.bits .i64))))).bind fun r8_0=>some r8_0)else none)else none)) fun(x8:((Bk×Int×Int)))=>(Option.bind (Option.bind (Pt (⟨(Int.fdiv (IntKind.wrap .i64 ((a1.getD (IntKind.wrap .i64 (a3 - 1)).toNat default)+(a1.getD a3.toNat default))) (2 ^ (min (1:Int).toNat (IntKind.bits .i64)))),x3.1,(3:Int),(Int.fdiv (IntKind.wrap .i64 ((a2.getD (IntKind.wrap .i64 (a3 - 1)).toNat default)+(a2.getD a3.toNat default))) (2 ^ (min (1:Int).toNat (IntKind.bits .i64)))),(0:Int),x8.1⟩:Bu) a0 x8.2.1) fun r=>some r) fun x10=>(some (⟨(Int.fdiv (IntKind.wrap .i64 ((a1.getD (IntKind.wrap .i64 (a3 - 1)).toNat default)+(a1.getD a3.toNat default))) (2 ^ (min (1:Int).toNat (IntKind.bits .i64)))),x3.1,(3:Int),(Int.fdiv (IntKind.wrap .i64 ((a2.getD (IntKind.wrap .i64 (a3 - 1)).toNat default)+(a2.getD a3.toNat default))) (2 ^ (min (1:Int).toNat (IntKind.bits .i64)))),x10,x8.1⟩:Bu))))else(Option.bind ((if(0:Int)≤(1:Int)then(if(0:Int)≤(1:Int)then((On a0.Grid (⟨(Int.fdiv (IntKind.wrap .i64 ((a0.Nodes.getD (IntKind.wrap .i64 (a3 - 1)).toNat default).At.X+(a0.Nodes.getD a3.toNat default).At.X)) (2 ^ (min (1:Int).toNat (IntKind.bits .i64)))),(Int.fdiv (IntKind.wrap .i64 ((a0.Nodes.getD (IntKind.wrap .i64 (a3 - 1)).toNat default).At.Y+(a0.Nodes.getD a3.toNat default).At.Y)) (2 ^ (min (1:Int).toNat (IntKind.bits .i64))))⟩:Be) (Int.fdiv (IntKind.wrap .i64 ((a1.getD (IntKind.wrap .i64 (a3 - 1)).toNat default)+(a1.getD a3.toNat default))) (2 ^ (min (1:Int).toNat (IntKind.bits .i64))))).bind fun r8_0=>some r8_0)else none)else none)) fun(x8:((Bk×Int×Int)))=>(Option.bind (Option.bind (Pt (⟨(Int.fdiv (IntKind.wrap .i64 ((a1.getD (IntKind.wrap .i64 (a3 - 1)).toNat default)+(a1.getD a3.toNat default))) (2 ^ (min (1:Int).toNat (IntKind.bits .i64)))),x3.1,(2:Int),(Int.fdiv (IntKind.wrap .i64 ((a2.getD (IntKind.wrap .i64 (a3 - 1)).toNat default)+(a2.getD a3.toNat default))) (2 ^ (min (1:Int).toNat (IntKind.bits .i64)))),(0:Int),x8.1⟩:Bu) a0 x8.2.1) fun r=>some r) fun x10=>(some (⟨(Int.fdiv (IntKind.wrap .i64 ((a1.getD (IntKind.wrap .i64 (a3 - 1)).toNat default)+(a1.getD a3.toNat default))) (2 ^ (min (1:Int).toNat (IntKind.bits .i64)))),x3.1,(2:Int),(Int.fdiv (IntKind.wrap .i64 ((a2.getD (IntKind.wrap .i64 (a3 - 1)).toNat default)+(a2.getD a3.toNat default))) (2 ^ (min (1:Int).toNat (IntKind.bits .i64)))),x10,x8.1⟩:Bu)))))else none)else none)else none)else none))else none)else none)else none)else none))else none)else none)else none)else none)else none)else none)else none)else none)else none)else none)else none)else none)else none)else none):Option (Bu)):=by kernel_rfl
theorem M64 (a0:Bu) (a1:Ap) (a2:Int):Pt a0 a1 a2=((Option.bind (Option.bind (dp a0.speed a1.Mach a0.alt a2) fun r=>some r) fun x1=>(some x1.1)):Option (Int)):=by kernel_rfl
theorem M65 (a0:Bu) (a1:Bk):m65 a0 a1=((Option.bind (Option.bind (m90 a0.course a0.tas a1) fun r=>some r) fun x1=>(if((1024:Int)≠0)then(some ((IntKind.wrap .i64 (Int.tdiv x1.1 (1024:Int))),x1.2.2))else none)):Option (Int×Int)):=by kernel_rfl
theorem M30 (a0:Ap) (a1:Bc) (a2 a3:List Int) (a4:Int):kx a0 a1 a2 a3 a4=((Option.bind (Option.bind (m62 a0 a2 a3 a4) fun r=>some r) fun x1=>(Option.bind (Option.bind (kz a0 a4) fun r=>some r) fun x2=>(Option.bind (((Pt x1 a0 x2.2.Lo).bind fun r3_0=>((Pt x1 a0 x2.2.Hi).bind fun r3_1=>some (r3_0,r3_1)))) fun(x3:(Int×Int))=>(if((x1.tas==0) || (x3.1==0))=true then(some ((⟨(0:Int),(0:Int),(0:Int),(0:Int),(0:Int),(0:Int),(⟨(0:Int),(0:Int)⟩:A2),(⟨(0:Int),(0:Int)⟩:A2),(⟨(0:Int),(0:Int)⟩:A2),(0:Int)⟩:Bc),(10:Int)))else(if(0≤a4)then(if(a4 < (a2.length:Int))then(if(0≤a4)then(if(a4 < (a3.length:Int))then(Option.bind (Option.bind (m65 x1 x1.w) fun r=>some r) fun x8=>(if(x8.2 != 0)=true then(some ((⟨(0:Int),(0:Int),(0:Int),(0:Int),(0:Int),(0:Int),(⟨(0:Int),(0:Int)⟩:A2),(⟨(0:Int),(0:Int)⟩:A2),(⟨(0:Int),(0:Int)⟩:A2),(0:Int)⟩:Bc),x8.2))else(Option.bind (Option.bind (uz x1.course (⟨x3.1,x3.2⟩:A2) x2.1) fun r=>some r) fun x11=>(if(x11.2 != 0)=true then(some ((⟨(0:Int),(0:Int),(0:Int),(0:Int),(0:Int),(0:Int),(⟨(0:Int),(0:Int)⟩:A2),(⟨(0:Int),(0:Int)⟩:A2),(⟨(0:Int),(0:Int)⟩:A2),(0:Int)⟩:Bc),x11.2))else(if(0≤a4)then(if(a4 < (a0.Nodes.length:Int))then(Option.bind (Option.bind (Vg (a0.Nodes.getD a4.toNat default).Dist x8.1) fun r=>some r) fun x15=>(Option.bind (((Vg (a0.Nodes.getD a4.toNat default).Dist x11.1.Hi).bind fun r16_0=>((Vg (a0.Nodes.getD a4.toNat default).Dist x11.1.Lo).bind fun r16_1=>some (r16_0,r16_1)))) fun(x16:(Int×Int))=>(Option.bind (Option.bind (Y2 x1 a0 a1.Fuel x1.tas) fun r=>some r) fun x19=>(if(decide ((IntKind.wrap .i64 (a1.Fuel - (IntKind.wrap .i64 (x15 * x19)))) < 0))=true then(some ((⟨(0:Int),(0:Int),(0:Int),(0:Int),(0:Int),(0:Int),(⟨(0:Int),(0:Int)⟩:A2),(⟨(0:Int),(0:Int)⟩:A2),(⟨(0:Int),(0:Int)⟩:A2),(0:Int)⟩:Bc),(15:Int)))else(Option.bind (((Y2 x1 a0 a1.FuelIn.Lo x3.1).bind fun r22_0=>((Y2 x1 a0 a1.FuelIn.Hi x3.2).bind fun r22_1=>some (r22_0,r22_1)))) fun(x22:(Int×Int))=>(Option.bind (Option.bind (m69 a1.FuelIn (⟨x22.1,x22.2⟩:A2) (⟨x16.1,x16.2⟩:A2)) fun r=>some r) fun x23=>(if(x23.2 != 0)=true then(some ((⟨(0:Int),(0:Int),(0:Int),(0:Int),(0:Int),(0:Int),(⟨(0:Int),(0:Int)⟩:A2),(⟨(0:Int),(0:Int)⟩:A2),(⟨(0:Int),(0:Int)⟩:A2),(0:Int)⟩:Bc),x23.2))else(some ((⟨(a2.getD a4.toNat default),(a3.getD a4.toNat default),x1.tas,x8.1,(IntKind.wrap .i64 (a1.Tick+x15)),(IntKind.wrap .i64 (a1.Fuel - (IntKind.wrap .i64 (x15 * x19)))),x11.1,(⟨(IntKind.wrap .i64 (a1.TickIn.Lo+x16.1)),(IntKind.wrap .i64 (a1.TickIn.Hi+x16.2))⟩:A2),x23.1,x1.phase⟩:Bc),(0:Int))))))))))else none)else none)))))else none)else none)else none)else none))))):Option (Bc×Int)):=by kernel_rfl
theorem M12 (a0:Ap) (a1 a2:List Int):ul a0 a1 a2=((Option.bind (Option.bind (Option.bind (Kz a0) fun r=>some r) fun x1=>(if(x1 != 0)=true then(some (.inr (([],x1))))else(Option.bind (Option.bind (kv a0 a1 a2) fun r=>some r) fun x4=>(if(x4 != 0)=true then(some (.inr (([],x4))))else(Option.bind (Option.bind (kr a0.Fuel) fun r=>some r) fun x7=>(if((0:Int)≤(0:Int))then(if(0 < (a1.length:Int))then(if((0:Int)≤(0:Int))then(if(0 < (a2.length:Int))then(Option.bind ((if(0:Int)≤(0:Int)then(if 0 < (a0.Nodes.length:Int)then(if(0:Int)≤(0:Int)then(if 0 < (a1.length:Int)then((On a0.Grid (a0.Nodes.getD (0:Int).toNat default).At (a1.getD (0:Int).toNat default)).bind fun r9_0=>some r9_0)else none)else none)else none)else none)) fun(x9:((Bk×Int×Int)))=>(Option.bind ((if(0:Int)≤(0:Int)then(if 0 < (a2.length:Int)then(if(0:Int)≤(0:Int)then(if 0 < (a1.length:Int)then((dp (a2.getD (0:Int).toNat default) a0.Mach (a1.getD (0:Int).toNat default) x9.2.1).bind fun r10_0=>some r10_0)else none)else none)else none)else none)) fun(x10:((Int×Int)))=>(some (.inl ([(⟨(a1.getD (0:Int).toNat default),(a2.getD (0:Int).toNat default),x10.1,(0:Int),(0:Int),x7,(⟨(0:Int),(0:Int)⟩:A2),(⟨(0:Int),(0:Int)⟩:A2),(⟨x7,x7⟩:A2),(0:Int)⟩:Bc)]:List Bc)))))else none)else none)else none)else none)))))) (A5 fun(y1:(List Bc))=>(Option.bind (Option.bind (some (.inl ())) (A5 fun(_:Unit)=>(Ad (fun(s2:(List Bc)×Int)=>((if(decide (s2.2 < (a0.Nodes.length:Int)))=true then(Option.bind ((if 0≤(IntKind.wrap .i64 (s2.2 - 1))then(if(IntKind.wrap .i64 (s2.2 - 1)) < (s2.1.length:Int)then((kx a0 (s2.1.getD (IntKind.wrap .i64 (s2.2 - 1)).toNat default) a1 a2 s2.2).bind fun r15_0=>some r15_0)else none)else none)) fun(x15:((Bc×Int)))=>(if(x15.2 != 0)=true then(some (.inr (.inr (([],x15.2)))))else(if((s2.1.length+1) * 104≤140737488355328)then(some (.inl ((s2.1++([x15.1]:List Bc)),(IntKind.wrap .i64 (s2.2+1)))))else none)))else(some (.inr (.inl s2.1)))):Option (((List Bc)×Int)⊕(((List Bc))⊕((List Bc)×Int))))) (y1,(1:Int))))) (A5 fun(y3:(List Bc))=>(some (y3,(0:Int))))))):Option ((List Bc)×Int)):=by kernel_rfl
noncomputable abbrev P6 (a0:Ap) (a1:List Int) (a2:List Int):((List Bc)×Int)→Option (((List Bc)×Int)⊕(((List Bc))⊕((List Bc)×Int))):=(fun(s2:(List Bc)×Int)=>((if(decide (s2.2 < (a0.Nodes.length:Int)))=true then(Option.bind ((if 0≤(IntKind.wrap .i64 (s2.2 - 1))then(if(IntKind.wrap .i64 (s2.2 - 1)) < (s2.1.length:Int)then((kx a0 (s2.1.getD (IntKind.wrap .i64 (s2.2 - 1)).toNat default) a1 a2 s2.2).bind fun r15_0=>some r15_0)else none)else none)) fun(x15:((Bc×Int)))=>(if(x15.2 != 0)=true then(some (.inr (.inr (([],x15.2)))))else(if((s2.1.length+1) * 104≤140737488355328)then(some (.inl ((s2.1++([x15.1]:List Bc)),(IntKind.wrap .i64 (s2.2+1)))))else none)))else(some (.inr (.inl s2.1)))):Option (((List Bc)×Int)⊕(((List Bc))⊕((List Bc)×Int)))))
theorem A12  (a0:Ap) (a1 a2:List Int):ul a0 a1 a2=((Option.bind (Option.bind (Option.bind (Kz a0) fun r=>some r) fun x1=>(if(x1 != 0)=true then(some (.inr (([],x1))))else(Option.bind (Option.bind (kv a0 a1 a2) fun r=>some r) fun x4=>(if(x4 != 0)=true then(some (.inr (([],x4))))else(Option.bind (Option.bind (kr a0.Fuel) fun r=>some r) fun x7=>(if((0:Int)≤(0:Int))then(if(0 < (a1.length:Int))then(if((0:Int)≤(0:Int))then(if(0 < (a2.length:Int))then(Option.bind ((if(0:Int)≤(0:Int)then(if 0 < (a0.Nodes.length:Int)then(if(0:Int)≤(0:Int)then(if 0 < (a1.length:Int)then((On a0.Grid (a0.Nodes.getD (0:Int).toNat default).At (a1.getD (0:Int).toNat default)).bind fun r9_0=>some r9_0)else none)else none)else none)else none)) fun(x9:((Bk×Int×Int)))=>(Option.bind ((if(0:Int)≤(0:Int)then(if 0 < (a2.length:Int)then(if(0:Int)≤(0:Int)then(if 0 < (a1.length:Int)then((dp (a2.getD (0:Int).toNat default) a0.Mach (a1.getD (0:Int).toNat default) x9.2.1).bind fun r10_0=>some r10_0)else none)else none)else none)else none)) fun(x10:((Int×Int)))=>(some (.inl ([(⟨(a1.getD (0:Int).toNat default),(a2.getD (0:Int).toNat default),x10.1,(0:Int),(0:Int),x7,(⟨(0:Int),(0:Int)⟩:A2),(⟨(0:Int),(0:Int)⟩:A2),(⟨x7,x7⟩:A2),(0:Int)⟩:Bc)]:List Bc)))))else none)else none)else none)else none)))))) (A5 fun(y1:(List Bc))=>(Option.bind (Option.bind (some (.inl ())) (A5 fun(_:Unit)=>(Ad (P6 a0 a1 a2) (y1,(1:Int))))) (A5 fun(y3:(List Bc))=>(some (y3,(0:Int))))))):Option ((List Bc)×Int)):=M12 _ _ _
variable {x:Ap}
structure Fl (x:Ap) (a s:List Int):Prop where
 la:a.length=x.Nodes.length
 ls:s.length=x.Nodes.length
 a:∀ i,i < x.Nodes.length → -200000≤gi a i∧gi a i≤x.Level
 s:∀ i,i < x.Nodes.length→0≤gi s i∧gi s i≤1000
theorem u5 (hn:x.Nodes.length≤64) (a s:List Int):Ok (kv x a s) (Fl x a s):=by
 rw[A27]
 by_cases h1:(((a.length:Int) != (x.Nodes.length:Int)) || ((s.length:Int) != (x.Nodes.length:Int)))=true
 ·rw[if_pos h1];exact .err (by decide)
 rw[if_neg h1]
 simp only[Bool.or_eq_true,bne_iff_ne,ne_eq,not_or,Decidable.not_not]at h1
 have la:a.length=x.Nodes.length:=by omega
 have ls:s.length=x.Nodes.length:=by omega
 simp only[Option.bind_some,A5]
 rcases Xj (b:=Us a x s) (n:=x.Nodes.length) (P:=fun i=>(-200000≤gi a i∧gi a i≤x.Level)∧0≤gi s i∧gi s i≤1000) (fun i hi'=>by
   have ia:=As (show i < a.length by omega)
   have is:=As (show i < s.length by omega)
   have w:IntKind.wrap .i64 ((i:Int)+1)=(i:Int)+1:=Ah (by omega) (by omega)
   simp only[Us,ia,is,decide_true,if_true,Int.toNat_natCast,Mj,Dn,Option.bind_some,w,implies_true]
   by_cases c : -200000≤a.getD i default∧a.getD i default≤x.Level
   case neg=>right;rw[decide_eq_false c];exact⟨2,by decide,rfl⟩
   rw[decide_eq_true c]
   by_cases d:0≤s.getD i default∧s.getD i default≤1000
   case neg=>right;refine⟨2,by decide,?_⟩;simp only[Bool.not_true,Bool.not_false,if_true,decide_eq_false d,Option.bind_some,Bool.or_true]
   left
   refine⟨⟨c,d⟩,?_⟩
   simp only[Bool.not_true,Bool.not_false,if_true,decide_eq_true d,Option.bind_some,Bool.or_self,Bool.false_eq_true,if_false]) (fun i h=>by simp only[Us,Dm (show a.length≤i by omega),Bool.false_eq_true,if_false]) with⟨k1,k2⟩ | ⟨c,c0,k2⟩
 ·rw[k2];exact .zero ⟨la,ls,fun i hi=>(k1 i hi).1,fun i hi=>(k1 i hi).2⟩
 ·rw[k2];exact⟨c,rfl,fun h=>absurd h c0⟩
def ou (x:Ap) (s:List Int):Prop:=∀ i,i < x.Nodes.length→gi s i≤x.CAS∧gi s i≤(nd x i).Speed.Hi
theorem qv (I:Fb x) {l:Bu} {v:Int} (hc:0≤l.speed∧l.speed≤1000) (ha : -200000≤l.alt∧l.alt≤6000000) (hd : -4000≤v∧v≤4000):∃ t,Pt l x v=some t∧0≤t∧t≤Jv l.speed l.alt v:=by
 have hm:=I.mach
 obtain⟨t,e,t0,t1⟩:=gc (m:=x.Mach) hc (by omega) ha hd
 rw[M64,e]
 exact⟨t,rfl,t0,t1⟩
structure AAi (x:Ap) (i:Nat) (box:A6) (d:A2) (l:Bu):Prop where
 s:0≤l.speed∧l.speed≤1000
 a : -200000≤l.alt∧l.alt≤6000000
 e:box.East.Lo≤l.w.East∧l.w.East≤box.East.Hi
 n:box.North.Lo≤l.w.North∧l.w.North≤box.North.Hi
 t:0≤l.tas∧l.tas≤Jv (Jp x i) x.Level d.Hi
theorem leg_w (I:Fb x) {a s:List Int} (L:Fl x a s) (S:ou x s) {i:Nat} (h1:1≤i) (h:i < x.Nodes.length) {box:A6} {d:A2} (H:Enc x.Grid (nd x (i - 1)).At (nd x i).At (-200000) x.Level box d) :
  Sp (m62 x a s (i:Int)) (AAi x i box d):=by
 have hn:=I.n
 have hp:i - 1 < x.Nodes.length:=by omega
 have w:IntKind.wrap .i64 ((i:Int) - 1)=((i - 1:Nat):Int):=by rw[Ah (by omega) (by omega)];omega
 have la:=L.la
 have ls:=L.ls
 have ia:=As (show i < a.length by omega)
 have ia':=As (show i - 1 < a.length by omega)
 have is:=As (show i < s.length by omega)
 have is':=As (show i - 1 < s.length by omega)
 have p2:(2 ^ (min (1:Int).toNat (IntKind.bits .i64)):Int)=2:=by decide
 have z1:((0:Int)≤1)=True:=eq_true (by decide)
 have a1:=L.a i h
 have a2:=L.a (i - 1) hp
 have s1:=L.s i h
 have s2:=L.s (i - 1) hp
 have t1:=S i h
 have t2:=S (i - 1) hp
 have lv:=I.lev
 have m1:=(I.nd i h).at_
 have m2:=(I.nd (i - 1) hp).at_
 unfold R7 at m1 m2
 unfold gi at a1 a2 s1 s2 t1 t2
 obtain⟨ai,eai⟩:∃ z,a.getD i default=z:=⟨_,rfl⟩
 obtain⟨aj,eaj⟩:∃ z,a.getD (i - 1) default=z:=⟨_,rfl⟩
 obtain⟨si,esi⟩:∃ z,s.getD i default=z:=⟨_,rfl⟩
 obtain⟨sj,esj⟩:∃ z,s.getD (i - 1) default=z:=⟨_,rfl⟩
 rw[eai]at a1
 rw[eaj]at a2
 rw[esi]at s1 t1
 rw[esj]at s2 t2
 have cm:Jp x i=((if x.CAS < (nd x (i - 1)).Speed.Hi then x.CAS else(nd x (i - 1)).Speed.Hi)+(if x.CAS < (nd x i).Speed.Hi then x.CAS else(nd x i).Speed.Hi)) / 2:=rfl
 have cb:(sj+si) / 2≤Jp x i:=by rw[cm];split<;>split<;>omega
 have cb4:Jp x i≤1000:=by
  have:=(I.nd i h).s
  have:=(I.nd (i - 1) hp).s
  rw[cm];split<;>split<;>omega
 obtain⟨hh,eh⟩:∃ z,(aj+ai) / 2=z:=⟨_,rfl⟩
 obtain⟨sp,es⟩:∃ z,(sj+si) / 2=z:=⟨_,rfl⟩
 have wa:Int.fdiv (IntKind.wrap .i64 (aj+ai)) 2=hh:=by rw[Ah (by omega) (by omega),Int.fdiv_eq_ediv_of_nonneg _ (by decide),eh]
 have wsp:Int.fdiv (IntKind.wrap .i64 (sj+si)) 2=sp:=by rw[Ah (by omega) (by omega),Int.fdiv_eq_ediv_of_nonneg _ (by decide),es]
 have hb : -200000≤hh∧hh≤x.Level:=by omega
 have sb:0≤sp∧sp≤1000:=by omega
 rw[es]at cb
 have wx:Int.fdiv (IntKind.wrap .i64 ((nd x (i - 1)).At.X+(nd x i).At.X)) 2=((nd x (i - 1)).At.X+(nd x i).At.X) / 2:=by rw[Ah (by omega) (by omega),Int.fdiv_eq_ediv_of_nonneg _ (by decide)]
 have wy:Int.fdiv (IntKind.wrap .i64 ((nd x (i - 1)).At.Y+(nd x i).At.Y)) 2=((nd x (i - 1)).At.Y+(nd x i).At.Y) / 2:=by rw[Ah (by omega) (by omega),Int.fdiv_eq_ediv_of_nonneg _ (by decide)]
 obtain⟨wd,v,C8,we,wn,v1,v2⟩:=H.at_ ⟨((nd x (i - 1)).At.X+(nd x i).At.X) / 2,((nd x (i - 1)).At.Y+(nd x i).At.Y) / 2⟩ hh (by simp only;split<;>split<;>omega) (by simp only;split<;>split<;>omega) hb.1 hb.2
 have hdv:=H.dv
 have vb : -4000≤v∧v≤4000:=by omega
 have tm:=yp (c:=sp) (c':=Jp x i) (a:=hh) (b:=x.Level) (d:=v) (e:=d.Hi) sb.1 cb hb.2 v2 vb.1 (by omega)
 obtain⟨co,ec⟩:=zt (nd x (i - 1)).At (nd x i).At
 rw[M62]
 simp only[w,As h,As hp,ia,ia',is,is',if_true,Int.toNat_natCast,p2,z1,eai,eaj,esi,esj,wa,wsp,wx,wy,C8,ec,Option.bind_some]
 have fin:∀ k:Int,Sp (Option.bind (Option.bind (Pt ⟨hh,co.1,k,sp,0,wd⟩ x v) fun r=>some r) fun x10=>some (⟨hh,co.1,k,sp,x10,wd⟩:Bu)) (AAi x i box d):=fun k=>by
  obtain⟨t,et,t0,t1⟩:=qv I (l:=⟨hh,co.1,k,sp,0,wd⟩) (v:=v) sb (by simp only;omega) vb
  rw[et]
  simp only at t1
  exact .val ⟨sb,⟨hb.1,by simp only;omega⟩,we,wn,t0,by simp only;omega⟩
 exact .ite (fun _=>fin _) fun _=>.ite (fun _=>fin _) fun _=>fin _
theorem AAA {l:Bu} (ht:0≤l.tas∧l.tas≤4000) {w:Bk} {E N:Int} (hE : -E≤w.East∧w.East≤E) (hN : -N≤w.North∧w.North≤N) (e4:E≤400) (n4:N≤400) :
  ∃ g e,m65 l w=some (g,e)∧(e=0→1≤g∧g≤E+N+l.tas):=by
 obtain⟨g,d,e,eg,hg⟩:=AA9 l.course ht hE hN e4 n4
 have z:((1024:Int)≠0):=by decide
 rw[M65,eg]
 simp only[Option.bind_some]
 rw[if_pos z]
 refine⟨_,_,rfl,fun h=>?_⟩
 obtain⟨g1,g2⟩:=hg h
 rw[Int.tdiv_eq_ediv_of_nonneg (by omega),Ah (by omega) (by omega)]
 omega
def zk (x:Ap) (i:Nat) (p q:Bc):Prop:=∃ t,q.Tick=p.Tick+t∧0≤t∧t≤8000000∧∀ k,W9 x i k→k≤t
theorem bad {c:Int} {G:Prop} (h:(c != 0)=true):c=0→G:=fun h0=>by subst h0;cases h
theorem next_w (I:Fb x) {a s:List Int} (L:Fl x a s) (S:ou x s) {i:Nat} (h1:1≤i) (h:i < x.Nodes.length) {p:Bc} (hp:0≤p.Tick∧p.Tick≤1000000000) :
  Sp (kx x p a s (i:Int)) (fun r=>r.2=0→r.1.Alt=gi a i∧zk x i p r.1):=by
 obtain⟨box,d,eh,H⟩:=bp I h1 h
 obtain⟨E,eE,E1,E2,E3,E4⟩:=Qn H.e
 obtain⟨N,eN,N1,N2,N3,N4⟩:=Qn H.n
 have la:=L.la
 have ls:=L.ls
 have hdv:=H.dv
 have hd:=(I.nd i h).d
 have cb:0≤Jp x i∧Jp x i≤1000:=by
  have:=(I.nd i h).s
  have:=(I.nd (i - 1) (by omega)).s
  have:=I.cas
  unfold Jp;split<;>split<;>omega
 have tb:=gl (c:=Jp x i) (a:=x.Level) (d:=d.Hi) cb (by omega)
 rw[M30]
 refine .bind (.res (leg_w I L S h1 h H)) fun l K=>?_
 have ke:=K.e
 have kn:=K.n
 have kt:=K.t
 obtain⟨t1,e1,_,_⟩:=qv I (l:=l) (v:=d.Lo) K.s K.a (by omega)
 obtain⟨t2,e2,_,_⟩:=qv I (l:=l) (v:=d.Hi) K.s K.a (by omega)
 obtain⟨g,e,eg,hg⟩:=AAA (l:=l) (w:=l.w) (E:=E) (N:=N) (by omega) (by omega) (by omega) E2 N2
 simp only[eh,Option.bind_some,e1,e2,As h,As (show i < a.length by omega),As (show i < s.length by omega),if_true,Int.toNat_natCast,eg]
 refine .ite (fun _=>.val (fun h=>by cases h)) fun _=>.ite (fun h=>.val (bad h)) fun e0=>?_
 have e0:e=0:=by simpa using e0
 subst e0
 obtain⟨g1,g2⟩:=hg rfl
 refine .tot ((pw _ _ _).bind fun _=>.some) fun x11=>.ite (fun h=>.val (bad h)) fun _=>?_
 obtain⟨t,et,ta,tc,td⟩:=AAd (a:=(nd x i).Dist) (c:=g) hd.1 hd.2 g1 (by omega)
 simp only[et,Option.bind_some]
 refine .tot ((og _ _).bind fun _=>(og _ _).bind fun _=>.some) fun x16=>.tot ((ba I.p I.P _ _).bind fun _=>.some) fun x19=>.ite (fun _=>.val (fun h=>by cases h)) fun _=>?_
 refine .tot ((ba I.p I.P _ _).bind fun _=>(ba I.p I.P _ _).bind fun _=>.some) fun x22=>.tot ((zo _ _ _).bind fun _=>.some) fun x23=>.ite (fun h=>.val (bad h)) fun _=>.val fun _=>⟨rfl,t,?_,ta,tc,fun k hk=>?_⟩
 ·exact Ah (by omega) (by omega)
 ·have q:=hk box d E N eh eE eN g g1 (by omega)
  by_cases c:k≤t
  ·exact c
  ·have m:(t+1) * g≤k * g:=Int.mul_le_mul_of_nonneg_right (by omega) (by omega)
   rw[Int.add_mul,Int.one_mul]at m
   omega
structure Pas (x:Ap) (a:List Int) (ps:List Bc):Prop where
 alt:∀ i,i < ps.length→(ps.getD i default).Alt=gi a i
 took:∀ i,1≤i→i < ps.length→zk x i (ps.getD (i - 1) default) (ps.getD i default)
 b:∀ i,i < ps.length→0≤(ps.getD i default).Tick∧(ps.getD i default).Tick≤8000000 * i
theorem Ct {α:Type} [Inhabited α] (l:List α) (y:α) (i:Nat):(l++[y]).getD i default=if i < l.length then l.getD i default else if i=l.length then y else default:=by
 simp only[List.getD_eq_getElem?_getD]
 by_cases h:i < l.length
 ·rw[if_pos h,List.getElem?_append_left h]
 ·rw[if_neg h,List.getElem?_append_right (by omega)]
  by_cases e:i=l.length
  ·subst e;simp
  ·rw[if_neg e]
   have:([y]:List α)[i - l.length]?=none:=List.getElem?_eq_none (by simp;omega)
   rw[this];rfl
theorem Pas.snoc {a:List Int} {ps:List Bc} (P:Pas x a ps) (h0:1≤ps.length) {q:Bc} (ha:q.Alt=gi a ps.length) (ht:zk x ps.length (ps.getD (ps.length - 1) default) q):Pas x a (ps++[q]):=by
 have ll:(ps++[q]).length=ps.length+1:=by simp
 refine⟨fun i hi=>?_,fun i h1 hi=>?_,fun i hi=>?_⟩
 ·rw[Ct]
  by_cases c:i < ps.length
  ·rw[if_pos c];exact P.alt i c
  ·obtain rfl:i=ps.length:=by omega
   rw[if_neg c,if_pos rfl];exact ha
 ·rw[Ct,Ct,if_pos (show i - 1 < ps.length by omega)]
  by_cases c:i < ps.length
  ·rw[if_pos c];exact P.took i h1 c
  ·obtain rfl:i=ps.length:=by omega
   rw[if_neg c,if_pos rfl];exact ht
 ·rw[Ct]
  by_cases c:i < ps.length
  ·rw[if_pos c];exact P.b i c
  ·obtain rfl:i=ps.length:=by omega
   rw[if_neg c,if_pos rfl]
   obtain⟨t,e,t0,t1,_⟩:=ht
   have:=P.b (ps.length - 1) (by omega)
   rw[e]
   omega
theorem with_w (I:Fb x) (hc:Kz x=some 0) {a s:List Int} (S:ou x s):Sp (ul x a s) (fun r=>r.2=0→Fl x a s∧r.1.length=x.Nodes.length∧Pas x a r.1):=by
 have hn:=I.n
 rw[A12,hc]
 simp only[Option.bind_some,bne_self_eq_false,Bool.false_eq_true,if_false]
 obtain⟨c,e1,hL⟩:=u5 hn.2 a s
 rw[e1]
 by_cases c0:c=0
 case neg =>
  have cb:(c != 0)=true:=by simpa using c0
  simp only[Option.bind_some,cb,if_true,A5]
  exact .val fun h=>absurd h c0
 subst c0
 have L:=hL rfl
 have la:=L.la
 have ls:=L.ls
 have a0:=L.a 0 (by omega)
 have s0:=L.s 0 (by omega)
 unfold gi at a0 s0
 have lv:=I.lev
 have ia:=As (show 0 < a.length by omega)
 have is:=As (show 0 < s.length by omega)
 have i0:=As (show 0 < x.Nodes.length by omega)
 simp only[Int.natCast_zero]at ia is i0
 obtain⟨box,d,eh,H⟩:=bp I (i:=1) (by omega) (by omega)
 obtain⟨wd,v,C8,we,wn,v1,v2⟩:=H.at_ (nd x 0).At (a.getD 0 default) (by rw[show 1 - 1=0 from rfl];split<;>split<;>omega) (by rw[show 1 - 1=0 from rfl];split<;>split<;>omega) a0.1 a0.2
 have hdv:=H.dv
 have hm:=I.mach
 obtain⟨tv,e29,_⟩:=gc (c:=s.getD 0 default) (m:=x.Mach) (a:=a.getD 0 default) (d:=v) s0 (by omega) (by omega) (by omega)
 have el:=km I.f I.F
 have t0:(0:Int).toNat=0:=rfl
 simp only[Option.bind_some,bne_self_eq_false,Bool.false_eq_true,if_false,el,ia,is,i0,if_true,t0,C8,e29,Int.le_refl,A5]
 obtain⟨q0,eq0,ha0,ht0⟩:∃ q:Bc,q=⟨a.getD 0 default,s.getD 0 default,tv,0,0,x.Fuel.Loaded - x.Fuel.Burnt,⟨0,0⟩,⟨0,0⟩,⟨x.Fuel.Loaded - x.Fuel.Burnt,x.Fuel.Loaded - x.Fuel.Burnt⟩,0⟩∧q.Alt=gi a 0∧q.Tick=0:=⟨_,rfl,rfl,rfl⟩
 rw[← eq0]
 have P0:Pas x a [q0]:=by
  refine⟨fun i hi=>?_,fun i h1 hi=>?_,fun i hi=>?_⟩
  ·obtain rfl:i=0:=by simp at hi;omega
   exact ha0
  ·simp at hi;omega
  ·obtain rfl:i=0:=by simp at hi;omega
   show 0≤q0.Tick∧q0.Tick≤8000000 * ((0:Nat):Int)
   rw[ht0];decide
 obtain⟨z,e,hz⟩:=Ay (b:=P6 x a s) (fun q=>∃ i:Nat,q.2=i∧1≤i∧i≤x.Nodes.length∧q.1.length=i∧Pas x a q.1) (fun q=>(x.Nodes.length - q.2).toNat) (fun z=>(∃ ps,z=.inl ps∧ps.length=x.Nodes.length∧Pas x a ps)∨∃ c,c≠0∧z=.inr ([],c)) (fun q hq=>by
  obtain⟨ps,q2⟩:=q
  obtain⟨i,hqi,i1,hi,hl,P⟩:=hq
  simp only at hqi hl P
  subst hqi
  by_cases hlt:i < x.Nodes.length
  ·have w:IntKind.wrap .i64 ((i:Int) - 1)=((i - 1:Nat):Int):=by rw[Ah (by omega) (by omega)];omega
   have w2:IntKind.wrap .i64 ((i:Int)+1)=((i+1:Nat):Int):=by rw[Ah (by omega) (by omega)];omega
   have ip:=As (show i - 1 < ps.length by omega)
   have pb:=P.b (i - 1) (by omega)
   obtain⟨r,er,hr⟩:=next_w I L S i1 hlt (p:=ps.getD (i - 1) default) (by omega)
   have zl:((ps.length+1) * 104≤140737488355328)=True:=eq_true (by omega)
   by_cases c:(r.2 != 0)=true
   ·refine .inr ⟨.inr ([],r.2),?_,.inr ⟨r.2,by simpa using c,rfl⟩⟩
    simp only[P6,As hlt,decide_true,w,ip,if_true,Int.toNat_natCast,er,Option.bind_some,c]
   ·have r0:r.2=0:=by simpa using c
    obtain⟨ra,rt⟩:=hr r0
    refine .inl ⟨(ps++[r.1],((i+1:Nat):Int)),?_,⟨i+1,rfl,by omega,hlt,by simp[hl],P.snoc (by omega) (by rw[hl];exact ra) (by rw[hl];exact rt)⟩,by simp only;omega⟩
    simp only[P6,As hlt,decide_true,w,w2,ip,if_true,Int.toNat_natCast,er,Option.bind_some,c,Bool.false_eq_true,if_false,zl]
  ·refine .inr ⟨.inl ps,?_,.inl ⟨ps,rfl,by omega,P⟩⟩
   simp only[P6,Dm (show x.Nodes.length≤i by omega),Bool.false_eq_true,if_false]) ([q0],1) ⟨1,rfl,by omega,by omega,rfl,P0⟩
 rw[e]
 rcases hz with⟨ps,rfl,h1,h2⟩ | ⟨c,c0,rfl⟩
 ·exact .val fun _=>⟨L,h1,h2⟩
 ·exact .val fun h=>absurd h c0
end Go.Av.Air
set_option maxRecDepth 100000
namespace Go.Av.Air
theorem M19 (a0:Ap):dm a0=((Option.bind (Option.bind (Option.bind (Kz a0) fun r=>some r) fun x1=>(if(x1 != 0)=true then(some (.inr (([],x1))))else(Option.bind (Option.bind (m7 a0.Fuel) fun r=>some r) fun x4=>(Option.bind (Option.bind (m6 a0.Perf (-200000:Int)) fun r=>some r) fun x5=>(if((0:Int)≤(0:Int))then(if(0 < (a0.Nodes.length:Int))then(some (.inl (x4,x5.1)))else none)else none))))) (A5 fun(y1:Int×Int)=>(Option.bind (Option.bind (some (.inl ())) (A5 fun(_:Unit)=>(Ad (fun(s2:Int×(List An)×Int)=>((if(decide (s2.2.2 < (a0.Nodes.length:Int)))=true then(Option.bind (Option.bind (un a0 s2.2.2) fun r=>some r) fun x11=>(Option.bind (Option.bind (m8 a0.Perf s2.1 y1.1 x11) fun r=>some r) fun x12=>(if((s2.2.1.length+1) * 16≤140737488355328)then(if(0≤s2.2.2)then(if(s2.2.2 < (a0.Nodes.length:Int))then(some (.inl ((if(a0.Nodes.getD s2.2.2.toNat default).Alt.Hi < (if a0.Level < x12.1 then a0.Level else x12.1)then(a0.Nodes.getD s2.2.2.toNat default).Alt.Hi else(if a0.Level < x12.1 then a0.Level else x12.1)),(s2.2.1++([(⟨(IntKind.wrap .i64 (x12.1 - s2.1)),(IntKind.wrap .i64 (y1.2 * x11))⟩:An)]:List An)),(IntKind.wrap .i64 (s2.2.2+1)))))else none)else none)else none)))else(some (.inr (.inl s2.2.1)))):Option ((Int×(List An)×Int)⊕(((List An))⊕((List An)×Int))))) ((if(a0.Nodes.getD (0:Int).toNat default).Alt.Hi < a0.Level then(a0.Nodes.getD (0:Int).toNat default).Alt.Hi else a0.Level),[],(1:Int))))) (A5 fun(y3:(List An))=>(some (y3,(0:Int))))))):Option ((List An)×Int)):=by kernel_rfl
noncomputable abbrev Uq (a0:Ap) (y1:Int×Int):(Int×(List An)×Int)→Option ((Int×(List An)×Int)⊕(((List An))⊕((List An)×Int))):=(fun(s2:Int×(List An)×Int)=>((if(decide (s2.2.2 < (a0.Nodes.length:Int)))=true then(Option.bind (Option.bind (un a0 s2.2.2) fun r=>some r) fun x11=>(Option.bind (Option.bind (m8 a0.Perf s2.1 y1.1 x11) fun r=>some r) fun x12=>(if((s2.2.1.length+1) * 16≤140737488355328)then(if(0≤s2.2.2)then(if(s2.2.2 < (a0.Nodes.length:Int))then(some (.inl ((if(a0.Nodes.getD s2.2.2.toNat default).Alt.Hi < (if a0.Level < x12.1 then a0.Level else x12.1)then(a0.Nodes.getD s2.2.2.toNat default).Alt.Hi else(if a0.Level < x12.1 then a0.Level else x12.1)),(s2.2.1++([(⟨(IntKind.wrap .i64 (x12.1 - s2.1)),(IntKind.wrap .i64 (y1.2 * x11))⟩:An)]:List An)),(IntKind.wrap .i64 (s2.2.2+1)))))else none)else none)else none)))else(some (.inr (.inl s2.2.1)))):Option ((Int×(List An)×Int)⊕(((List An))⊕((List An)×Int)))))
theorem A19  (a0:Ap):dm a0=((Option.bind (Option.bind (Option.bind (Kz a0) fun r=>some r) fun x1=>(if(x1 != 0)=true then(some (.inr (([],x1))))else(Option.bind (Option.bind (m7 a0.Fuel) fun r=>some r) fun x4=>(Option.bind (Option.bind (m6 a0.Perf (-200000:Int)) fun r=>some r) fun x5=>(if((0:Int)≤(0:Int))then(if(0 < (a0.Nodes.length:Int))then(some (.inl (x4,x5.1)))else none)else none))))) (A5 fun(y1:Int×Int)=>(Option.bind (Option.bind (some (.inl ())) (A5 fun(_:Unit)=>(Ad (Uq a0 y1) ((if(a0.Nodes.getD (0:Int).toNat default).Alt.Hi < a0.Level then(a0.Nodes.getD (0:Int).toNat default).Alt.Hi else a0.Level),[],(1:Int))))) (A5 fun(y3:(List An))=>(some (y3,(0:Int))))))):Option ((List An)×Int)):=M19 _
theorem M20o0 (a0:Ap):O2 a0=((Option.bind (some (.inl ())) (A5 fun(_:Unit)=>(Option.bind (Option.bind (some (.inl ())) (A5 fun(_:Unit)=>(Ad (fun(s1:(List A7)×Int)=>((if(decide (s1.2 < (a0.Nodes.length:Int)))=true then(if(0≤s1.2)then(if(s1.2 < (a0.Nodes.length:Int))then(Option.bind ((if(s1.1.length+1) * 16≤140737488355328 then some ()else none)) fun(x5:(Unit))=>(some (.inl ((s1.1++([(a0.Nodes.getD s1.2.toNat default).Alt]:List A7)),(IntKind.wrap .i64 (s1.2+1))))))else none)else none)else(some (.inr (.inl s1.1)))):Option (((List A7)×Int)⊕(((List A7))⊕((List A7)))))) (([]:List A7),(0:Int))))) (A5 fun(y2:(List A7))=>(some y2))))):Option ((List A7))):=by kernel_rfl
noncomputable abbrev Nx (a0:Ap):((List A7)×Int)→Option (((List A7)×Int)⊕(((List A7))⊕((List A7)))):=(fun(s1:(List A7)×Int)=>((if(decide (s1.2 < (a0.Nodes.length:Int)))=true then(if(0≤s1.2)then(if(s1.2 < (a0.Nodes.length:Int))then(Option.bind ((if(s1.1.length+1) * 16≤140737488355328 then some ()else none)) fun(x5:(Unit))=>(some (.inl ((s1.1++([(a0.Nodes.getD s1.2.toNat default).Alt]:List A7)),(IntKind.wrap .i64 (s1.2+1))))))else none)else none)else(some (.inr (.inl s1.1)))):Option (((List A7)×Int)⊕(((List A7))⊕((List A7))))))
theorem A20o0  (a0:Ap):O2 a0=((Option.bind (some (.inl ())) (A5 fun(_:Unit)=>(Option.bind (Option.bind (some (.inl ())) (A5 fun(_:Unit)=>(Ad (Nx a0) (([]:List A7),(0:Int))))) (A5 fun(y2:(List A7))=>(some y2))))):Option ((List A7))):=M20o0 _
theorem M10 (a0:Ap):kq a0=((Option.bind (some (.inl ())) (A5 fun(_:Unit)=>(Option.bind (Option.bind (Option.bind (dm a0) fun r=>some r) fun x1=>(some (.inl (x1.1,x1.2)))) (A5 fun(y1:(List An)×Int)=>(Option.bind (if(y1.2 != 0)=true then(some (.inr (([],(⟨(0:Int),(0:Int)⟩:Al),y1.2))))else(some (.inl ()))) (A5 fun(_:Unit)=>(Option.bind (Option.bind (Option.bind (O2 a0) fun r=>some r) fun x4=>(some (.inl x4))) (A5 fun(y2:(List A7))=>(Option.bind (Option.bind (Option.bind (O3 y2 y1.1 a0.Level) fun r=>some r) fun x5=>(if(x5.1==0)=true then(some (.inr ((x5.2.2.2,(⟨(0:Int),(0:Int)⟩:Al),(0:Int)))))else(some (.inl x5.1)))) (A5 fun(y3:Int)=>(Option.bind (Option.bind (some (.inl ())) (A5 fun(_:Unit)=>(Ad (fun(s4:(List A7)×Int)=>((if(decide (s4.2 < (y2.length:Int)))=true then(if(0≤s4.2)then(if(s4.2 < (s4.1.length:Int))then(if(s4.2.toNat < s4.1.length)then(if(0≤s4.2)then(if(s4.2 < (s4.1.length:Int))then(if(s4.2.toNat < s4.1.length)then(some (.inl ((s4.1.set s4.2.toNat (⟨(s4.1.getD s4.2.toNat default).Lo,(if a0.Level < (s4.1.getD s4.2.toNat default).Hi then a0.Level else(s4.1.getD s4.2.toNat default).Hi)⟩:A7)),(IntKind.wrap .i64 (s4.2+1)))))else none)else none)else none)else none)else none)else none)else(some (.inr (.inl s4.1)))):Option (((List A7)×Int)⊕(((List A7))⊕((List Int)×Al×Int))))) (y2,(0:Int))))) (A5 fun(y5:(List A7))=>(Option.bind (Option.bind (dn y5 y1.1) fun r=>some r) fun x13=>(some ([],x13.1,y3))))))))))))))):Option ((List Int)×Al×Int)):=by kernel_rfl
noncomputable abbrev Uo (y2:(List A7)) (a0:Ap):((List A7)×Int)→Option (((List A7)×Int)⊕(((List A7))⊕((List Int)×Al×Int))):=(fun(s4:(List A7)×Int)=>((if(decide (s4.2 < (y2.length:Int)))=true then(if(0≤s4.2)then(if(s4.2 < (s4.1.length:Int))then(if(s4.2.toNat < s4.1.length)then(if(0≤s4.2)then(if(s4.2 < (s4.1.length:Int))then(if(s4.2.toNat < s4.1.length)then(some (.inl ((s4.1.set s4.2.toNat (⟨(s4.1.getD s4.2.toNat default).Lo,(if a0.Level < (s4.1.getD s4.2.toNat default).Hi then a0.Level else(s4.1.getD s4.2.toNat default).Hi)⟩:A7)),(IntKind.wrap .i64 (s4.2+1)))))else none)else none)else none)else none)else none)else none)else(some (.inr (.inl s4.1)))):Option (((List A7)×Int)⊕(((List A7))⊕((List Int)×Al×Int)))))
theorem A10  (a0:Ap):kq a0=((Option.bind (some (.inl ())) (A5 fun(_:Unit)=>(Option.bind (Option.bind (Option.bind (dm a0) fun r=>some r) fun x1=>(some (.inl (x1.1,x1.2)))) (A5 fun(y1:(List An)×Int)=>(Option.bind (if(y1.2 != 0)=true then(some (.inr (([],(⟨(0:Int),(0:Int)⟩:Al),y1.2))))else(some (.inl ()))) (A5 fun(_:Unit)=>(Option.bind (Option.bind (Option.bind (O2 a0) fun r=>some r) fun x4=>(some (.inl x4))) (A5 fun(y2:(List A7))=>(Option.bind (Option.bind (Option.bind (O3 y2 y1.1 a0.Level) fun r=>some r) fun x5=>(if(x5.1==0)=true then(some (.inr ((x5.2.2.2,(⟨(0:Int),(0:Int)⟩:Al),(0:Int)))))else(some (.inl x5.1)))) (A5 fun(y3:Int)=>(Option.bind (Option.bind (some (.inl ())) (A5 fun(_:Unit)=>(Ad (Uo y2 a0) (y2,(0:Int))))) (A5 fun(y5:(List A7))=>(Option.bind (Option.bind (dn y5 y1.1) fun r=>some r) fun x13=>(some ([],x13.1,y3))))))))))))))):Option ((List Int)×Al×Int)):=M10 _
theorem M23 (a0:Ap) (a1:List Int):ks a0 a1=((Option.bind (Option.bind (Option.bind (Kz a0) fun r=>some r) fun x1=>(if(x1 != 0)=true then(some (.inr (([],x1))))else(if((a1.length:Int) != (a0.Nodes.length:Int))=true then(some (.inr (([],(1:Int)))))else(Option.bind (((m7 a0.Fuel).bind fun r6_0=>((ky a0.Perf r6_0).bind fun r6_1=>some (r6_0,r6_1)))) fun(x6:(Int×(Int×Int)))=>(some (.inl x6.2.1)))))) (A5 fun(y1:Int)=>(Option.bind (Option.bind (some (.inl ())) (A5 fun(_:Unit)=>(Ad (fun(s2:(List A7)×Int)=>((if(decide (s2.2 < (a1.length:Int)))=true then(if(0≤s2.2)then(if(s2.2 < (a1.length:Int))then(Option.bind (Option.bind (Jx (a1.getD s2.2.toNat default)) fun r=>some r) fun x11=>(if(!x11)=true then(some (.inr (.inr (([],(2:Int))))))else(Option.bind (Option.bind (uq a0.Perf (a1.getD s2.2.toNat default)) fun r=>some r) fun x13=>(if(0≤s2.2)then(if(s2.2 < (a0.Nodes.length:Int))then(if(0≤s2.2)then(if(s2.2 < (a0.Nodes.length:Int))then(if(decide ((a1.getD s2.2.toNat default) < a0.LimitAlt))=true then(if((s2.1.length+1) * 16≤140737488355328)then(some (.inl ((s2.1++([(⟨(if(a0.Nodes.getD s2.2.toNat default).Speed.Lo < y1 then y1 else(a0.Nodes.getD s2.2.toNat default).Speed.Lo),(if a0.LimitSpeed < (if x13.1 < (if a0.CAS < (a0.Nodes.getD s2.2.toNat default).Speed.Hi then a0.CAS else(a0.Nodes.getD s2.2.toNat default).Speed.Hi)then x13.1 else(if a0.CAS < (a0.Nodes.getD s2.2.toNat default).Speed.Hi then a0.CAS else(a0.Nodes.getD s2.2.toNat default).Speed.Hi))then a0.LimitSpeed else(if x13.1 < (if a0.CAS < (a0.Nodes.getD s2.2.toNat default).Speed.Hi then a0.CAS else(a0.Nodes.getD s2.2.toNat default).Speed.Hi)then x13.1 else(if a0.CAS < (a0.Nodes.getD s2.2.toNat default).Speed.Hi then a0.CAS else(a0.Nodes.getD s2.2.toNat default).Speed.Hi)))⟩:A7)]:List A7)),(IntKind.wrap .i64 (s2.2+1)))))else none)else(if((s2.1.length+1) * 16≤140737488355328)then(some (.inl ((s2.1++([(⟨(if(a0.Nodes.getD s2.2.toNat default).Speed.Lo < y1 then y1 else(a0.Nodes.getD s2.2.toNat default).Speed.Lo),(if x13.1 < (if a0.CAS < (a0.Nodes.getD s2.2.toNat default).Speed.Hi then a0.CAS else(a0.Nodes.getD s2.2.toNat default).Speed.Hi)then x13.1 else(if a0.CAS < (a0.Nodes.getD s2.2.toNat default).Speed.Hi then a0.CAS else(a0.Nodes.getD s2.2.toNat default).Speed.Hi))⟩:A7)]:List A7)),(IntKind.wrap .i64 (s2.2+1)))))else none))else none)else none)else none)else none))))else none)else none)else(some (.inr (.inl s2.1)))):Option (((List A7)×Int)⊕(((List A7))⊕((List A7)×Int))))) ([],(0:Int))))) (A5 fun(y3:(List A7))=>(some (y3,(0:Int))))))):Option ((List A7)×Int)):=by kernel_rfl
noncomputable abbrev Mw (a1:List Int) (a0:Ap) (y1:Int):((List A7)×Int)→Option (((List A7)×Int)⊕(((List A7))⊕((List A7)×Int))):=(fun(s2:(List A7)×Int)=>((if(decide (s2.2 < (a1.length:Int)))=true then(if(0≤s2.2)then(if(s2.2 < (a1.length:Int))then(Option.bind (Option.bind (Jx (a1.getD s2.2.toNat default)) fun r=>some r) fun x11=>(if(!x11)=true then(some (.inr (.inr (([],(2:Int))))))else(Option.bind (Option.bind (uq a0.Perf (a1.getD s2.2.toNat default)) fun r=>some r) fun x13=>(if(0≤s2.2)then(if(s2.2 < (a0.Nodes.length:Int))then(if(0≤s2.2)then(if(s2.2 < (a0.Nodes.length:Int))then(if(decide ((a1.getD s2.2.toNat default) < a0.LimitAlt))=true then(if((s2.1.length+1) * 16≤140737488355328)then(some (.inl ((s2.1++([(⟨(if(a0.Nodes.getD s2.2.toNat default).Speed.Lo < y1 then y1 else(a0.Nodes.getD s2.2.toNat default).Speed.Lo),(if a0.LimitSpeed < (if x13.1 < (if a0.CAS < (a0.Nodes.getD s2.2.toNat default).Speed.Hi then a0.CAS else(a0.Nodes.getD s2.2.toNat default).Speed.Hi)then x13.1 else(if a0.CAS < (a0.Nodes.getD s2.2.toNat default).Speed.Hi then a0.CAS else(a0.Nodes.getD s2.2.toNat default).Speed.Hi))then a0.LimitSpeed else(if x13.1 < (if a0.CAS < (a0.Nodes.getD s2.2.toNat default).Speed.Hi then a0.CAS else(a0.Nodes.getD s2.2.toNat default).Speed.Hi)then x13.1 else(if a0.CAS < (a0.Nodes.getD s2.2.toNat default).Speed.Hi then a0.CAS else(a0.Nodes.getD s2.2.toNat default).Speed.Hi)))⟩:A7)]:List A7)),(IntKind.wrap .i64 (s2.2+1)))))else none)else(if((s2.1.length+1) * 16≤140737488355328)then(some (.inl ((s2.1++([(⟨(if(a0.Nodes.getD s2.2.toNat default).Speed.Lo < y1 then y1 else(a0.Nodes.getD s2.2.toNat default).Speed.Lo),(if x13.1 < (if a0.CAS < (a0.Nodes.getD s2.2.toNat default).Speed.Hi then a0.CAS else(a0.Nodes.getD s2.2.toNat default).Speed.Hi)then x13.1 else(if a0.CAS < (a0.Nodes.getD s2.2.toNat default).Speed.Hi then a0.CAS else(a0.Nodes.getD s2.2.toNat default).Speed.Hi))⟩:A7)]:List A7)),(IntKind.wrap .i64 (s2.2+1)))))else none))else none)else none)else none)else none))))else none)else none)else(some (.inr (.inl s2.1)))):Option (((List A7)×Int)⊕(((List A7))⊕((List A7)×Int)))))
theorem A23  (a0:Ap) (a1:List Int):ks a0 a1=((Option.bind (Option.bind (Option.bind (Kz a0) fun r=>some r) fun x1=>(if(x1 != 0)=true then(some (.inr (([],x1))))else(if((a1.length:Int) != (a0.Nodes.length:Int))=true then(some (.inr (([],(1:Int)))))else(Option.bind (((m7 a0.Fuel).bind fun r6_0=>((ky a0.Perf r6_0).bind fun r6_1=>some (r6_0,r6_1)))) fun(x6:(Int×(Int×Int)))=>(some (.inl x6.2.1)))))) (A5 fun(y1:Int)=>(Option.bind (Option.bind (some (.inl ())) (A5 fun(_:Unit)=>(Ad (Mw a1 a0 y1) ([],(0:Int))))) (A5 fun(y3:(List A7))=>(some (y3,(0:Int))))))):Option ((List A7)×Int)):=M23 _ _
theorem M11 (a0:Ap) (a1:List Int):uk a0 a1=((Option.bind (Option.bind (Option.bind (ks a0 a1) fun r=>some r) fun x1=>(if(x1.2 != 0)=true then(some (.inr (([],(⟨(0:Int),(0:Int)⟩:Al),x1.2))))else(some (.inl x1.1)))) (A5 fun(y1:(List A7))=>(Option.bind (Option.bind (some (.inl ())) (A5 fun(_:Unit)=>(Ad (fun(s2:(List Int)×(List Int)×Int)=>((if(decide (s2.2.2 < (a0.Nodes.length:Int)))=true then(if(0≤s2.2.2)then(if(s2.2.2 < (a0.Nodes.length:Int))then(if(decide (0 < s2.2.2))=true then(if((s2.1.length+1) * 8≤140737488355328)then(if((s2.2.1.length+1) * 8≤140737488355328)then(some (.inl ((s2.1++([(a0.Nodes.getD s2.2.2.toNat default).Dist]:List Int)),(s2.2.1++([a0.CAS]:List Int)),(IntKind.wrap .i64 (s2.2.2+1)))))else none)else none)else(if((s2.2.1.length+1) * 8≤140737488355328)then(some (.inl (s2.1,(s2.2.1++([a0.CAS]:List Int)),(IntKind.wrap .i64 (s2.2.2+1)))))else none))else none)else none)else(some (.inr (.inl (s2.1,s2.2.1))))):Option (((List Int)×(List Int)×Int)⊕(((List Int)×(List Int))⊕((List Int)×Al×Int))))) ([],[],(0:Int))))) (A5 fun(y3:(List Int)×(List Int))=>(Option.bind (Option.bind (ku y3.1 a0.Accel a0.Decel) fun r=>some r) fun x12=>(if(x12.2 != 0)=true then(some ([],(⟨(0:Int),(0:Int)⟩:Al),x12.2))else(Option.bind (Option.bind (um y1 x12.1 y3.2) fun r=>some r) fun x15=>(if(x15.2 != 11)=true then(some (x15.1,(⟨(0:Int),(0:Int)⟩:Al),x15.2))else(Option.bind (Option.bind (dn y1 x12.1) fun r=>some r) fun x18=>(some ([],x18.1,x15.2))))))))))):Option ((List Int)×Al×Int)):=by kernel_rfl
noncomputable abbrev P5 (a0:Ap):((List Int)×(List Int)×Int)→Option (((List Int)×(List Int)×Int)⊕(((List Int)×(List Int))⊕((List Int)×Al×Int))):=(fun(s2:(List Int)×(List Int)×Int)=>((if(decide (s2.2.2 < (a0.Nodes.length:Int)))=true then(if(0≤s2.2.2)then(if(s2.2.2 < (a0.Nodes.length:Int))then(if(decide (0 < s2.2.2))=true then(if((s2.1.length+1) * 8≤140737488355328)then(if((s2.2.1.length+1) * 8≤140737488355328)then(some (.inl ((s2.1++([(a0.Nodes.getD s2.2.2.toNat default).Dist]:List Int)),(s2.2.1++([a0.CAS]:List Int)),(IntKind.wrap .i64 (s2.2.2+1)))))else none)else none)else(if((s2.2.1.length+1) * 8≤140737488355328)then(some (.inl (s2.1,(s2.2.1++([a0.CAS]:List Int)),(IntKind.wrap .i64 (s2.2.2+1)))))else none))else none)else none)else(some (.inr (.inl (s2.1,s2.2.1))))):Option (((List Int)×(List Int)×Int)⊕(((List Int)×(List Int))⊕((List Int)×Al×Int)))))
theorem A11  (a0:Ap) (a1:List Int):uk a0 a1=((Option.bind (Option.bind (Option.bind (ks a0 a1) fun r=>some r) fun x1=>(if(x1.2 != 0)=true then(some (.inr (([],(⟨(0:Int),(0:Int)⟩:Al),x1.2))))else(some (.inl x1.1)))) (A5 fun(y1:(List A7))=>(Option.bind (Option.bind (some (.inl ())) (A5 fun(_:Unit)=>(Ad (P5 a0) ([],[],(0:Int))))) (A5 fun(y3:(List Int)×(List Int))=>(Option.bind (Option.bind (ku y3.1 a0.Accel a0.Decel) fun r=>some r) fun x12=>(if(x12.2 != 0)=true then(some ([],(⟨(0:Int),(0:Int)⟩:Al),x12.2))else(Option.bind (Option.bind (um y1 x12.1 y3.2) fun r=>some r) fun x15=>(if(x15.2 != 11)=true then(some (x15.1,(⟨(0:Int),(0:Int)⟩:Al),x15.2))else(Option.bind (Option.bind (dn y1 x12.1) fun r=>some r) fun x18=>(some ([],x18.1,x15.2))))))))))):Option ((List Int)×Al×Int)):=M11 _ _
theorem M5 (a0:Ap):m5 a0=((Option.bind (Option.bind (kq a0) fun r=>some r) fun x1=>(if(x1.2.2 != 0)=true then(some ((⟨[],x1.2.1,false⟩:Ga),x1.2.2))else(Option.bind (Option.bind (uk a0 x1.1) fun r=>some r) fun x4=>(if(x4.2.2==11)=true then(some ((⟨[],x4.2.1,true⟩:Ga),x4.2.2))else(if(x4.2.2 != 0)=true then(some ((⟨[],(⟨(0:Int),(0:Int)⟩:Al),false⟩:Ga),x4.2.2))else(Option.bind (Option.bind (ul a0 x1.1 x4.1) fun r=>some r) fun x9=>(if(x9.2 != 0)=true then(some ((⟨[],(⟨(0:Int),(0:Int)⟩:Al),false⟩:Ga),x9.2))else(some ((⟨x9.1,(⟨(0:Int),(0:Int)⟩:Al),false⟩:Ga),(0:Int)))))))))):Option (Ga×Int)):=by kernel_rfl
variable {x:Ap}
def Worth (x:Ap) (m sink:Int) (st:SL) (v:List Int) (j:Nat):Prop:=∃ k:Nat,k≤50000∧W9 x j k∧gi v j≤R x.Perf m k (gi v (j - 1))∧dw st (j - 1)=sink * k
structure StI (x:Ap) (m sink:Int) (i:Nat) (h:Int) (st:SL):Prop where
 len:st.length+1=i
 hb : -200000≤h∧h≤6000000
 w:∀ v:List Int,(∀ j,j < i→gi v j≤(nd x j).Alt.Hi∧gi v j≤x.Level)→(∀ j,j+1 < i→gi v (j+1)≤gi v j+up st j)→gi v (i - 1)≤h∧∀ j,1≤j→j < i→Worth x m sink st v j
theorem up_snoc (st:SL) (y:An) {i:Nat} (h:i < st.length):up (st++[y]) i=up st i:=by unfold up;rw[Ct,if_pos h]
theorem dw_snoc (st:SL) (y:An) {i:Nat} (h:i < st.length):dw (st++[y]) i=dw st i:=by unfold dw;rw[Ct,if_pos h]
theorem up_last (st:SL) (y:An) {i:Nat} (h:i=st.length):up (st++[y]) i=y.Up:=by unfold up;rw[Ct,if_neg (by omega),if_pos h]
theorem dw_last (st:SL) (y:An) {i:Nat} (h:i=st.length):dw (st++[y]) i=y.Down:=by unfold dw;rw[Ct,if_neg (by omega),if_pos h]
theorem StI.snoc (I:Fb x) {m sink:Int} {i k:Nat} {h h':Int} {st:SL} (H:StI x m sink i h st) (h1:1≤i) (hi:i < x.Nodes.length) (hk:k≤50000) (hl:W9 x i k)
  (e':h'=if(nd x i).Alt.Hi < (if x.Level < R x.Perf m k h then x.Level else R x.Perf m k h)then(nd x i).Alt.Hi else(if x.Level < R x.Perf m k h then x.Level else R x.Perf m k h)):StI x m sink (i+1) h' (st++[⟨R x.Perf m k h - h,sink * k⟩]):=by
 have len:=H.len
 have hb:=H.hb
 have rb:=zg I.P m k h hb
 have nh:=(I.nd i hi).hi
 have lv:=I.lev
 refine⟨by simp;omega,by rw[e'];split<;>split<;>omega,fun v hv hu=>?_⟩
 obtain⟨w1,w2⟩:=H.w v (fun j hj=>hv j (by omega)) (fun j hj=>by have:=hu j (by omega);rwa [up_snoc _ _ (by omega)]at this)
 have u:=hu (i - 1) (by omega)
 rw[up_last _ _ (by omega),show i - 1+1=i by omega]at u
 simp only at u
 have g:=s8 I.P m k w1
 have mo:=s9 I.P m k w1
 have vi:=hv i (by omega)
 refine⟨?_,fun j j1 j2=>?_⟩
 ·rw[show i+1 - 1=i by omega,e']
  split<;>split<;>omega
 ·by_cases c:j < i
  ·obtain⟨k',a,b,d,e⟩:=w2 j j1 c
   exact⟨k',a,b,d,by rw[dw_snoc _ _ (by omega)];exact e⟩
  ·obtain rfl:j=i:=by omega
   exact⟨k,hk,hl,by omega,by rw[dw_last _ _ (by omega)]⟩
theorem o7 (I:Fb x) (hc:Kz x=some 0):∃ m sink st,(m7 x.Fuel=some m∧1≤m∧m≤3000000000)∧(m6 x.Perf (-200000)=some (sink,0)∧1≤sink∧sink≤10000)∧dm x=some (st,0)∧∃ h,StI x m sink x.Nodes.length h st:=by
 have hn:=I.n
 obtain⟨m,em,m1,m2⟩:=lg I.f I.F
 obtain⟨sink,es,s1,s2⟩:=ph I.p I.P (alt := -200000) (by omega)
 have i0:=As (show 0 < x.Nodes.length by omega)
 simp only[Int.natCast_zero]at i0
 have nh:=(I.nd 0 (by omega)).hi
 have lv:=I.lev
 obtain⟨h0,e0⟩:∃ z,(if(nd x 0).Alt.Hi < x.Level then(nd x 0).Alt.Hi else x.Level)=z:=⟨_,rfl⟩
 have P0:StI x m sink 1 h0 []:=by
  refine⟨rfl,by rw[← e0];split<;>omega,fun v hv hu=>⟨?_,fun j j1 j2=>by omega⟩⟩
  have:=hv 0 (by omega)
  rw[← e0];simp only[Nat.sub_self];split<;>omega
 obtain⟨z,e,st,rfl,h,H⟩:=Ay (b:=Uq x (m,sink)) (fun q=>∃ i:Nat,q.2.2=i∧1≤i∧i≤x.Nodes.length∧StI x m sink i q.1 q.2.1) (fun q=>(x.Nodes.length - q.2.2).toNat) (fun z=>∃ st,z=.inl st∧∃ h,StI x m sink x.Nodes.length h st) (fun q hq=>by
  obtain⟨h,st,q2⟩:=q
  obtain⟨i,hqi,i1,hi,H⟩:=hq
  simp only at hqi H
  subst hqi
  have len:=H.len
  by_cases hlt:i < x.Nodes.length
  ·have w2:IntKind.wrap .i64 ((i:Int)+1)=((i+1:Nat):Int):=by rw[Ah (by omega) (by omega)];omega
   obtain⟨k,ek,k0,k5,kb⟩:=least_w I i1 hlt
   obtain⟨n,rfl⟩:∃ n:Nat,k=n:=⟨k.toNat,by omega⟩
   have er:=np I.p I.P (alt:=h) (mass:=m) (ticks:=n) ⟨H.hb,m1,m2⟩ k0 k5
   rw[Int.toNat_natCast]at er
   have rb:=zg I.P m n h H.hb
   have hb:=H.hb
   have zl:((st.length+1) * 16≤140737488355328)=True:=eq_true (by omega)
   have wu:IntKind.wrap .i64 (R x.Perf m n h - h)=R x.Perf m n h - h:=Ah (by omega) (by omega)
   have mb:0≤sink * n∧sink * n≤10000 * 50000:=⟨Int.mul_nonneg (by omega) (by omega),Int.mul_le_mul s2 k5 (by omega) (by decide)⟩
   have wd:IntKind.wrap .i64 (sink * n)=sink * n:=Ah (by omega) (by omega)
   refine .inl ⟨((if(nd x i).Alt.Hi < (if x.Level < R x.Perf m n h then x.Level else R x.Perf m n h)then(nd x i).Alt.Hi else(if x.Level < R x.Perf m n h then x.Level else R x.Perf m n h)),st++[⟨R x.Perf m n h - h,sink * n⟩],((i+1:Nat):Int)),?_,⟨i+1,rfl,by omega,hlt,H.snoc I i1 hlt (by omega) kb rfl⟩,by simp only;omega⟩
   simp only[Uq,As hlt,decide_true,w2,if_true,Int.toNat_natCast,ek,er,Option.bind_some,zl,wu,wd]
  ·obtain rfl:i=x.Nodes.length:=by omega
   refine .inr ⟨.inl st,?_,st,rfl,h,H⟩
   simp only[Uq,Fo,decide_false,Bool.false_eq_true,if_false]) (h0,[],1) ⟨1,rfl,by omega,by omega,P0⟩
 refine⟨m,sink,st,⟨em,m1,m2⟩,⟨es,s1,s2⟩,?_,h,H⟩
 rw[A19,hc,em,es]
 have t0:(0:Int).toNat=0:=rfl
 simp only[Option.bind_some,bne_self_eq_false,Bool.false_eq_true,if_false,i0,if_true,A5,t0,Int.le_refl]
 rw[e0,e]
 rfl
theorem yx (hn:x.Nodes.length≤64):∃ ws:WL,O2 x=some ws∧ws.length=x.Nodes.length∧∀ i,i < x.Nodes.length→Bg ws i=(nd x i).Alt.Hi:=by
 obtain⟨z,e,ws,rfl,h1,h2⟩:=Ay (b:=Nx x) (fun q=>∃ i:Nat,q.2=i∧i≤x.Nodes.length∧q.1.length=i∧∀ j,j < i→Bg q.1 j=(nd x j).Alt.Hi) (fun q=>(x.Nodes.length - q.2).toNat) (fun z=>∃ ws,z=.inl ws∧ws.length=x.Nodes.length∧∀ i,i < x.Nodes.length→Bg ws i=(nd x i).Alt.Hi) (fun q hq=>by
  obtain⟨l,q2⟩:=q
  obtain⟨i,hqi,hi,hl,H⟩:=hq
  simp only at hqi hl H
  subst hqi
  by_cases hlt:i < x.Nodes.length
  ·have w2:IntKind.wrap .i64 ((i:Int)+1)=((i+1:Nat):Int):=by rw[Ah (by omega) (by omega)];omega
   have zl:((l.length+1) * 16≤140737488355328)=True:=eq_true (by omega)
   refine .inl ⟨(l++[(nd x i).Alt],((i+1:Nat):Int)),?_,⟨i+1,rfl,hlt,by simp[hl],fun j hj=>?_⟩,by simp only;omega⟩
   ·simp only[Nx,As hlt,decide_true,w2,if_true,Int.toNat_natCast,Option.bind_some,zl]
   ·unfold Bg
    simp only
    rw[Ct]
    by_cases c:j < i
    ·rw[if_pos (by omega)];exact H j c
    ·obtain rfl:j=i:=by omega
     rw[if_neg (by omega),if_pos (by omega)]
  ·obtain rfl:i=x.Nodes.length:=by omega
   refine .inr ⟨.inl l,?_,l,rfl,hl,H⟩
   simp only[Nx,Fo,decide_false,Bool.false_eq_true,if_false]) ([],0) ⟨0,rfl,Nat.zero_le _,rfl,fun j hj=>absurd hj (Nat.not_lt_zero j)⟩
 refine⟨ws,?_,h1,h2⟩
 rw[A20o0]
 simp only[Option.bind_some,A5]
 rw[e]
 rfl
structure Yv (x:Ap) (m sink:Int) (a:List Int):Prop where
 len:a.length=x.Nodes.length
 w:∀ j,1≤j→j < x.Nodes.length→∃ k:Nat,k≤50000∧W9 x j k∧gi a j≤R x.Perf m k (gi a (j - 1))∧gi a (j - 1)≤gi a j+sink * k
theorem gw (I:Fb x) (hc:Kz x=some 0) {m sink:Int} (hm:m7 x.Fuel=some m) (hs:m6 x.Perf (-200000)=some (sink,0)):Sp (kq x) (fun r=>r.2.2=0→Yv x m sink r.1):=by
 have hn:=I.n
 obtain⟨m',sink',st,⟨em,_⟩,⟨es,_⟩,e1,h,H⟩:=o7 I hc
 rw[hm]at em;cases em
 rw[hs]at es;cases es
 obtain⟨ws,e2,w1,w2⟩:=yx (x:=x) hn.2
 have len:=H.len
 have hm:maxLen=9223372036854775807:=rfl
 obtain⟨e,a,b,v,e3,hv⟩:=sw (ws:=ws) (st:=st) (lev:=x.Level) (by omega) (by omega) (by omega)
 rw[A10]
 simp only[e1,e2,e3,Option.bind_some,A5,bne_self_eq_false,Bool.false_eq_true,if_false]
 by_cases c:e=0
 ·subst c
  obtain⟨C,U⟩:=hv rfl
  refine .val fun _=>⟨by rw[C.len,w1],fun j j1 j2=>?_⟩
  obtain⟨_,W⟩:=H.w v (fun j hj=>⟨by have:=(U j (by omega)).2;rwa [w2 j hj]at this,(U j (by omega)).1⟩) (fun j hj=>C.u j (by omega))
  obtain⟨k,k1,k2,k3,k4⟩:=W j j1 j2
  have d:=C.d (j - 1) (by omega)
  rw[show j - 1+1=j by omega,k4]at d
  exact⟨k,k1,k2,k3,d⟩
 ·have cb:(e==0)=false:=by simpa using c
  simp only[cb,Bool.false_eq_true,if_false]
  obtain⟨z,ez,y,rfl⟩:=Ay (b:=Uo ws x) (fun q=>∃ i:Nat,q.2=i∧i≤ws.length∧q.1.length=ws.length) (fun q=>(ws.length - q.2).toNat) (fun z=>∃ y,z=.inl y) (fun q hq=>by
   obtain⟨l,q2⟩:=q
   obtain⟨i,hqi,hi,hl⟩:=hq
   simp only at hqi hl
   subst hqi
   by_cases hlt:i < ws.length
   ·have w2:IntKind.wrap .i64 ((i:Int)+1)=((i+1:Nat):Int):=by rw[Ah (by omega) (by omega)];omega
    have il:=As (show i < l.length by omega)
    have il':(i < l.length)=True:=eq_true (by omega)
    refine .inl ⟨(l.set i _,((i+1:Nat):Int)),by simp only[Uo,As hlt,il,il',decide_true,w2,if_true,Int.toNat_natCast,Option.bind_some];rfl,⟨i+1,rfl,hlt,by simp[hl]⟩,by simp only;omega⟩
   ·refine .inr ⟨.inl l,?_,l,rfl⟩
    simp only[Uo,Dm (show ws.length≤i by omega),Bool.false_eq_true,if_false]) (ws,0) ⟨0,rfl,Nat.zero_le _,rfl⟩
  rw[ez]
  obtain⟨q,eq⟩:=Rc (ws:=y) (st:=st) (by omega)
  simp only[Option.bind_some,A5,eq]
  exact .val fun h=>absurd h c
theorem AAY (I:Fb x) (hc:Kz x=some 0) (a:List Int):Sp (ks x a) (fun r=>r.2=0→r.1.length=x.Nodes.length∧∀ i,i < x.Nodes.length→Bg r.1 i≤x.CAS∧Bg r.1 i≤(nd x i).Speed.Hi):=by
 have hn:=I.n
 obtain⟨m,em,m1,m2⟩:=lg I.f I.F
 obtain⟨lo,el,_⟩:=jh I.p I.P (mass:=m) ⟨m1,m2⟩
 rw[A23,hc]
 by_cases hl:((a.length:Int) != (x.Nodes.length:Int))=true
 ·simp only[Option.bind_some,bne_self_eq_false,Bool.false_eq_true,if_false,hl,if_true,A5]
  exact .val fun h=>by cases h
 have la:a.length=x.Nodes.length:=by
  have:(a.length:Int)=x.Nodes.length:=by simpa using hl
  omega
 simp only[Option.bind_some,bne_self_eq_false,Bool.false_eq_true,if_false,hl,em,el,A5]
 obtain⟨z,e,hz⟩:=Ay (b:=Mw a x lo) (fun q=>∃ i:Nat,q.2=i∧i≤x.Nodes.length∧q.1.length=i∧∀ j,j < i→Bg q.1 j≤x.CAS∧Bg q.1 j≤(nd x j).Speed.Hi) (fun q=>(x.Nodes.length - q.2).toNat) (fun z=>(∃ l,z=.inl l∧l.length=x.Nodes.length∧∀ j,j < x.Nodes.length→Bg l j≤x.CAS∧Bg l j≤(nd x j).Speed.Hi)∨z=.inr ([],2)) (fun q hq=>by
  obtain⟨l,q2⟩:=q
  obtain⟨i,hqi,hi,hl,H⟩:=hq
  simp only at hqi hl H
  subst hqi
  by_cases hlt:i < x.Nodes.length
  ·have w2:IntKind.wrap .i64 ((i:Int)+1)=((i+1:Nat):Int):=by rw[Ah (by omega) (by omega)];omega
   have zl:((l.length+1) * 16≤140737488355328)=True:=eq_true (by omega)
   have ia:=As (show i < a.length by omega)
   by_cases ha : -200000≤a.getD i default∧a.getD i default≤6000000
   ·obtain⟨mx,ex,_⟩:=jf I.p I.P ha
    have app:∀ y:A7,(y.Hi≤x.CAS∧y.Hi≤(nd x i).Speed.Hi)→∀ j,j < i+1→Bg (l++[y]) j≤x.CAS∧Bg (l++[y]) j≤(nd x j).Speed.Hi:=fun y hy j hj=>by
     unfold Bg
     rw[Ct]
     by_cases c:j < i
     ·rw[if_pos (by omega)];exact H j c
     ·obtain rfl:j=i:=by omega
      rw[if_neg (by omega),if_pos (by omega)];exact hy
    by_cases c:a.getD i default < x.LimitAlt
    ·refine .inl ⟨(l++[⟨_,_⟩],((i+1:Nat):Int)),by simp only[Mw,ia,As hlt,decide_true,w2,if_true,Int.toNat_natCast,Fh,Dn,decide_eq_true ha,Bool.not_true,Bool.false_eq_true,if_false,ex,decide_eq_true c,Option.bind_some,zl];rfl,⟨i+1,rfl,hlt,by simp[hl],app _ ?_⟩,by simp only;omega⟩
     simp only[nd]
     repeat' split
     all_goals omega
    ·refine .inl ⟨(l++[⟨_,_⟩],((i+1:Nat):Int)),by simp only[Mw,ia,As hlt,decide_true,w2,if_true,Int.toNat_natCast,Fh,Dn,decide_eq_true ha,Bool.not_true,Bool.false_eq_true,if_false,ex,decide_eq_false c,Option.bind_some,zl];rfl,⟨i+1,rfl,hlt,by simp[hl],app _ ?_⟩,by simp only;omega⟩
     simp only[nd]
     repeat' split
     all_goals omega
   ·refine .inr ⟨.inr ([],2),?_,.inr rfl⟩
    simp only[Mw,ia,decide_true,if_true,Int.toNat_natCast,Fh,Dn,decide_eq_false ha,Bool.not_false,Option.bind_some]
  ·refine .inr ⟨.inl l,?_,.inl ⟨l,rfl,by omega,fun j hj=>H j (by omega)⟩⟩
   simp only[Mw,Dm (show a.length≤i by omega),Bool.false_eq_true,if_false]) ([],0) ⟨0,rfl,Nat.zero_le _,rfl,fun j hj=>absurd hj (Nat.not_lt_zero j)⟩
 rw[e]
 rcases hz with⟨l,rfl,h1,h2⟩ | rfl
 ·exact .val fun _=>⟨h1,h2⟩
 ·exact .val fun h=>by cases h
theorem plan_w (I:Fb x) (hc:Kz x=some 0) (a:List Int):Sp (uk x a) (fun r=>r.2.2=0→ou x r.1):=by
 have hn:=I.n
 have hm:maxLen=9223372036854775807:=rfl
 rw[A11]
 obtain⟨r,er,hr⟩:=AAY I hc a
 rw[er]
 by_cases c:(r.2 != 0)=true
 ·simp only[Option.bind_some,c,if_true,A5]
  exact .val (bad c)
 obtain⟨h1,h2⟩:=hr (by simpa using c)
 simp only[Option.bind_some,c,Bool.false_eq_true,if_false,A5]
 obtain⟨z,e,y,rfl⟩:=Ay (b:=P5 x) (fun q=>∃ i:Nat,q.2.2=i∧i≤x.Nodes.length∧q.1.length≤i∧q.2.1.length≤i) (fun q=>(x.Nodes.length - q.2.2).toNat) (fun z=>∃ y,z=.inl y) (fun q hq=>by
  obtain⟨l1,l2,q2⟩:=q
  obtain⟨i,hqi,hi,b1,b2⟩:=hq
  simp only at hqi b1 b2
  subst hqi
  by_cases hlt:i < x.Nodes.length
  ·have w2:IntKind.wrap .i64 ((i:Int)+1)=((i+1:Nat):Int):=by rw[Ah (by omega) (by omega)];omega
   have z1:((l1.length+1) * 8≤140737488355328)=True:=eq_true (by omega)
   have z2:((l2.length+1) * 8≤140737488355328)=True:=eq_true (by omega)
   by_cases c:(0:Int) < (i:Int)
   ·exact .inl ⟨(_,_,((i+1:Nat):Int)),by simp only[P5,As hlt,decide_true,w2,if_true,Int.toNat_natCast,z1,z2,decide_eq_true c];rfl,⟨i+1,rfl,hlt,by simp;omega,by simp;omega⟩,by simp only;omega⟩
   ·exact .inl ⟨(_,_,((i+1:Nat):Int)),by simp only[P5,As hlt,decide_true,w2,if_true,Int.toNat_natCast,z1,z2,decide_eq_false c,Bool.false_eq_true,if_false];rfl,⟨i+1,rfl,hlt,by simp only;omega,by simp;omega⟩,by simp only;omega⟩
  ·exact .inr ⟨.inl (l1,l2),by simp only[P5,Dm (show x.Nodes.length≤i by omega),Bool.false_eq_true,if_false],_,rfl⟩) ([],[],0) ⟨0,rfl,Nat.zero_le _,Nat.le_refl _,Nat.le_refl _⟩
 rw[e]
 obtain⟨st,es,e1,l1⟩:=qx y.1 x.Accel x.Decel
 simp only[Option.bind_some,A5,e1]
 refine .ite (fun h=>.val (bad h)) fun _=>?_
 obtain⟨v,ev,e2,g2⟩:=plan_ok (ws:=r.1) (st:=st) (wish:=y.2) (by omega) (by omega)
 simp only[Option.bind_some,e2]
 refine .ite (fun h=>.val fun h0 i hi=>?_) fun h=>?_
 ·obtain⟨_,g3⟩:=g2 h0
  have:=g3 i (by omega)
  have:=h2 i hi
  simp only
  omega
 ·have e11:ev=11:=by simpa using h
  subst e11
  exact .tot ((Rc (by omega)).bind fun _=>.some) fun _=>.val fun h=>by cases h
theorem run_w (b:eo x):Sp (m5 x) (fun r=>(r.2≠0→r.1.Passages=[])∧(r.2=0→Fb x∧r.1.Passages.length=x.Nodes.length∧∃ m sink a s,(m7 x.Fuel=some m∧1≤m∧m≤3000000000)∧(m6 x.Perf (-200000)=some (sink,0)∧1≤sink∧sink≤10000)∧Yv x m sink a∧Fl x a s∧Pas x a r.1.Passages)):=by
 have err:∀ (e:Int) (p:Ga),e≠0→p.Passages=[]→Sp (some (p,e)) (fun r=>(r.2≠0→r.1.Passages=[])∧(r.2=0→Fb x∧r.1.Passages.length=x.Nodes.length∧∃ m sink a s,(m7 x.Fuel=some m∧1≤m∧m≤3000000000)∧(m6 x.Perf (-200000)=some (sink,0)∧1≤sink∧sink≤10000)∧Yv x m sink a∧Fl x a s∧Pas x a r.1.Passages)):=fun e p he hp=>.val ⟨fun _=>hp,fun h=>absurd h he⟩
 obtain⟨c,hc,hI⟩:=chk_ok b
 rw[M5]
 by_cases c0:c=0
 case neg =>
  have cb:(c != 0)=true:=by simpa using c0
  have e1:dm x=some ([],c):=by
   rw[A19,hc]
   simp only[Option.bind_some,cb,if_true,A5]
  have e2:kq x=some ([],⟨0,0⟩,c):=by
   rw[A10,e1]
   simp only[Option.bind_some,cb,if_true,A5]
  rw[e2]
  simp only[Option.bind_some,cb,if_true]
  exact err _ _ c0 rfl
 subst c0
 have I:=hI rfl
 obtain⟨m,sink,st,hm,hs,_⟩:=o7 I hc
 refine .bind (.res (gw I hc hm.1 hs.1)) fun r hr=>.ite (fun h=>err _ _ (by simpa using h) rfl) fun h=>?_
 have A:=hr (by simpa using h)
 refine .bind (.res (plan_w I hc r.1)) fun q hq=>.ite (fun h=>(by
  have h:q.2.2=11:=by simpa using h
  exact err _ _ (by omega) rfl)) fun _=>.ite (fun h=>err _ _ (by simpa using h) rfl) fun h=>?_
 have S:=hq (by simpa using h)
 refine .bind (.res (with_w I hc S)) fun w hw=>.ite (fun h=>err _ _ (by simpa using h) rfl) fun h=>.val ⟨fun h=>absurd rfl h,fun _=>?_⟩
 obtain⟨L,l1,P⟩:=hw (by simpa using h)
 exact⟨I,l1,m,sink,r.1,q.1,hm,hs,A,L,P⟩
end Go.Av.Air
set_option maxRecDepth 1000000
namespace Go.Av.Air
theorem j8:m4=some true:=by kernel_rfl
end Go.Av.Air
set_option maxRecDepth 100000
namespace Go.Av.Air
theorem M3 (a0:Ap):m3 a0=((Option.bind (Option.bind (Option.bind (m4) fun r=>some r) fun x1=>(if(!x1)=true then(some (.inr (false)))else(Option.bind (Option.bind (m5 a0) fun r=>some r) fun x3=>(if(x3.2 != 0)=true then(some (.inr (((x3.1.Passages.length:Int)==(0:Int)))))else(if((x3.1.Passages.length:Int) != (a0.Nodes.length:Int))=true then(some (.inr (false)))else(Option.bind (Option.bind (m6 a0.Perf (-200000:Int)) fun r=>some r) fun x8=>(if(x8.2 != 0)=true then(some (.inr (false)))else(Option.bind (Option.bind (m7 a0.Fuel) fun r=>some r) fun x11=>(some (.inl (x8.1,x11,x3.1.Passages,x3.1.Trouble.I,x3.1.Trouble.J,x3.1.Speeds))))))))))) (A5 fun(y1:Int×Int×(List Bc)×Int×Int×Bool)=>(Option.bind (Option.bind (some (.inl ())) (A5 fun(_:Unit)=>(Ad (fun(s2:Int)=>((if(decide (s2 < (y1.2.2.1.length:Int)))=true then(if(0≤(IntKind.wrap .i64 (s2 - 1)))then(if((IntKind.wrap .i64 (s2 - 1)) < (y1.2.2.1.length:Int))then(if(0≤s2)then(if(s2 < (y1.2.2.1.length:Int))then(Option.bind (Option.bind (m8 a0.Perf (y1.2.2.1.getD (IntKind.wrap .i64 (s2 - 1)).toNat default).Alt y1.2.1 (if 50000 < (IntKind.wrap .i64 ((y1.2.2.1.getD s2.toNat default).Tick - (y1.2.2.1.getD (IntKind.wrap .i64 (s2 - 1)).toNat default).Tick))then(50000:Int)else(IntKind.wrap .i64 ((y1.2.2.1.getD s2.toNat default).Tick - (y1.2.2.1.getD (IntKind.wrap .i64 (s2 - 1)).toNat default).Tick)))) fun r=>some r) fun x17=>(if((((decide ((if 50000 < (IntKind.wrap .i64 ((y1.2.2.1.getD s2.toNat default).Tick - (y1.2.2.1.getD (IntKind.wrap .i64 (s2 - 1)).toNat default).Tick))then(50000:Int)else(IntKind.wrap .i64 ((y1.2.2.1.getD s2.toNat default).Tick - (y1.2.2.1.getD (IntKind.wrap .i64 (s2 - 1)).toNat default).Tick))) < 0)) || (x17.2 != 0)) || (decide (x17.1 < (y1.2.2.1.getD s2.toNat default).Alt))) || (decide ((IntKind.wrap .i64 (y1.1 * (if 50000 < (IntKind.wrap .i64 ((y1.2.2.1.getD s2.toNat default).Tick - (y1.2.2.1.getD (IntKind.wrap .i64 (s2 - 1)).toNat default).Tick))then(50000:Int)else(IntKind.wrap .i64 ((y1.2.2.1.getD s2.toNat default).Tick - (y1.2.2.1.getD (IntKind.wrap .i64 (s2 - 1)).toNat default).Tick))))) < (IntKind.wrap .i64 ((y1.2.2.1.getD (IntKind.wrap .i64 (s2 - 1)).toNat default).Alt - (y1.2.2.1.getD s2.toNat default).Alt)))))=true then(some (.inr (.inr (false))))else(some (.inl (IntKind.wrap .i64 (s2+1))))))else none)else none)else none)else none)else(some (.inr (.inl ())))):Option ((Int)⊕((Unit)⊕(Bool))))) (1:Int)))) (A5 fun(_:Unit)=>(some true))))):Option (Bool)):=by kernel_rfl
noncomputable abbrev Ut (y1:Int×Int×(List Bc)×Int×Int×Bool) (a0:Ap):(Int)→Option ((Int)⊕((Unit)⊕(Bool))):=(fun(s2:Int)=>((if(decide (s2 < (y1.2.2.1.length:Int)))=true then(if(0≤(IntKind.wrap .i64 (s2 - 1)))then(if((IntKind.wrap .i64 (s2 - 1)) < (y1.2.2.1.length:Int))then(if(0≤s2)then(if(s2 < (y1.2.2.1.length:Int))then(Option.bind (Option.bind (m8 a0.Perf (y1.2.2.1.getD (IntKind.wrap .i64 (s2 - 1)).toNat default).Alt y1.2.1 (if 50000 < (IntKind.wrap .i64 ((y1.2.2.1.getD s2.toNat default).Tick - (y1.2.2.1.getD (IntKind.wrap .i64 (s2 - 1)).toNat default).Tick))then(50000:Int)else(IntKind.wrap .i64 ((y1.2.2.1.getD s2.toNat default).Tick - (y1.2.2.1.getD (IntKind.wrap .i64 (s2 - 1)).toNat default).Tick)))) fun r=>some r) fun x17=>(if((((decide ((if 50000 < (IntKind.wrap .i64 ((y1.2.2.1.getD s2.toNat default).Tick - (y1.2.2.1.getD (IntKind.wrap .i64 (s2 - 1)).toNat default).Tick))then(50000:Int)else(IntKind.wrap .i64 ((y1.2.2.1.getD s2.toNat default).Tick - (y1.2.2.1.getD (IntKind.wrap .i64 (s2 - 1)).toNat default).Tick))) < 0)) || (x17.2 != 0)) || (decide (x17.1 < (y1.2.2.1.getD s2.toNat default).Alt))) || (decide ((IntKind.wrap .i64 (y1.1 * (if 50000 < (IntKind.wrap .i64 ((y1.2.2.1.getD s2.toNat default).Tick - (y1.2.2.1.getD (IntKind.wrap .i64 (s2 - 1)).toNat default).Tick))then(50000:Int)else(IntKind.wrap .i64 ((y1.2.2.1.getD s2.toNat default).Tick - (y1.2.2.1.getD (IntKind.wrap .i64 (s2 - 1)).toNat default).Tick))))) < (IntKind.wrap .i64 ((y1.2.2.1.getD (IntKind.wrap .i64 (s2 - 1)).toNat default).Alt - (y1.2.2.1.getD s2.toNat default).Alt)))))=true then(some (.inr (.inr (false))))else(some (.inl (IntKind.wrap .i64 (s2+1))))))else none)else none)else none)else none)else(some (.inr (.inl ())))):Option ((Int)⊕((Unit)⊕(Bool)))))
theorem A3  (a0:Ap):m3 a0=((Option.bind (Option.bind (Option.bind (m4) fun r=>some r) fun x1=>(if(!x1)=true then(some (.inr (false)))else(Option.bind (Option.bind (m5 a0) fun r=>some r) fun x3=>(if(x3.2 != 0)=true then(some (.inr (((x3.1.Passages.length:Int)==(0:Int)))))else(if((x3.1.Passages.length:Int) != (a0.Nodes.length:Int))=true then(some (.inr (false)))else(Option.bind (Option.bind (m6 a0.Perf (-200000:Int)) fun r=>some r) fun x8=>(if(x8.2 != 0)=true then(some (.inr (false)))else(Option.bind (Option.bind (m7 a0.Fuel) fun r=>some r) fun x11=>(some (.inl (x8.1,x11,x3.1.Passages,x3.1.Trouble.I,x3.1.Trouble.J,x3.1.Speeds))))))))))) (A5 fun(y1:Int×Int×(List Bc)×Int×Int×Bool)=>(Option.bind (Option.bind (some (.inl ())) (A5 fun(_:Unit)=>(Ad (Ut y1 a0) (1:Int)))) (A5 fun(_:Unit)=>(some true))))):Option (Bool)):=M3 _
variable {x:Ap}
theorem AA4 (I:Fb x) {m sink:Int} {ps:List Bc} {a s:List Int} (hm:1≤m∧m≤3000000000) (hs:1≤sink∧sink≤10000) (hl:ps.length=x.Nodes.length) (A:Yv x m sink a) (L:Fl x a s) (P:Pas x a ps) (y1:Int×Int×List Bc×Int×Int×Bool) (e1:y1.1=sink) (e2:y1.2.1=m) (e3:y1.2.2.1=ps) :
  Ad (Ut y1 x) (1:Int)=some (.inl ()):=by
 have hn:=I.n
 obtain⟨z,e,rfl⟩:=Ay (b:=Ut y1 x) (fun q=>∃ i:Nat,q=i∧1≤i∧i≤ps.length) (fun q=>(ps.length - q).toNat) (fun z=>z=.inl ()) (fun q hq=>by
  obtain⟨i,rfl,i1,hi⟩:=hq
  by_cases hlt:i < ps.length
  ·have w:IntKind.wrap .i64 ((i:Int) - 1)=((i - 1:Nat):Int):=by rw[Ah (by omega) (by omega)];omega
   have w2:IntKind.wrap .i64 ((i:Int)+1)=((i+1:Nat):Int):=by rw[Ah (by omega) (by omega)];omega
   have ip:=As (show i - 1 < ps.length by omega)
   obtain⟨t,et,t0,t8,tk⟩:=P.took i i1 hlt
   obtain⟨k,k5,kb,up,down⟩:=A.w i i1 (by omega)
   have kt:=tk k kb
   have b1:=P.b (i - 1) (by omega)
   have a1:=P.alt (i - 1) (by omega)
   have a2:=P.alt i hlt
   have r1:=L.a (i - 1) (by omega)
   have r2:=L.a i (by omega)
   have lv:=I.lev
   have wt:IntKind.wrap .i64 ((ps.getD i default).Tick - (ps.getD (i - 1) default).Tick)=t:=by rw[et,Ah (by omega) (by omega)];omega
   obtain⟨T,hT,T1,T2,T3⟩:∃ T:Nat,(if 50000 < t then(50000:Int)else t)=(T:Int)∧k≤T∧T≤50000∧0≤(T:Int):=⟨(if 50000 < t then(50000:Int)else t).toNat,by split<;>omega,by split<;>omega,by split<;>omega,by omega⟩
   have er:=np I.p I.P (alt:=gi a (i - 1)) (mass:=m) (ticks:=T) ⟨by omega,hm⟩ T3 (by omega)
   rw[Int.toNat_natCast]at er
   have more:R x.Perf m k (gi a (i - 1))≤R x.Perf m T (gi a (i - 1)):=by
    rw[show T=k+(T - k) by omega,AAj]
    exact R_up I.P m _ _
   have m1:sink * (k:Int)≤sink * (T:Int):=Int.mul_le_mul_of_nonneg_left (by omega) (by omega)
   have m0:0≤sink * (T:Int):=Int.mul_nonneg (by omega) T3
   have m2:sink * (T:Int)≤10000 * 50000:=Int.mul_le_mul hs.2 (by omega) T3 (by decide)
   have d1:decide ((T:Int) < 0)=false:=decide_eq_false (by omega)
   have d2:decide (R x.Perf m T (gi a (i - 1)) < gi a i)=false:=decide_eq_false (by omega)
   have w3:IntKind.wrap .i64 (sink * (T:Int))=sink * (T:Int):=Ah (by omega) (by omega)
   have w4:IntKind.wrap .i64 (gi a (i - 1) - gi a i)=gi a (i - 1) - gi a i:=Ah (by omega) (by omega)
   have d3:decide (sink * (T:Int) < gi a (i - 1) - gi a i)=false:=decide_eq_false (by omega)
   refine .inl ⟨((i+1:Nat):Int),?_,⟨i+1,rfl,by omega,hlt⟩,by omega⟩
   simp only[Ut,e1,e2,e3,As hlt,ip,decide_true,w,w2,if_true,Int.toNat_natCast,wt,hT,a1,a2,er,Option.bind_some,d1,d2,w3,w4,d3,bne_self_eq_false,Bool.or_self,Bool.false_eq_true,if_false]
  ·refine .inr ⟨.inl (),?_,rfl⟩
   simp only[Ut,e3,Dm (show ps.length≤i by omega),Bool.false_eq_true,if_false]) 1 ⟨1,rfl,by omega,by omega⟩
 exact e
theorem fly_true (b:eo x):m3 x=some true:=by
 obtain⟨r,er,h1,h2⟩:=run_w b
 rw[A3,j8,er]
 by_cases c:r.2=0
 case neg =>
  have cb:(r.2 != 0)=true:=by simpa using c
  simp only[Option.bind_some,Bool.not_true,Bool.false_eq_true,if_false,cb,if_true,A5,h1 c]
  rfl
 obtain⟨I,hl,m,sink,a,s,hm,hs,A,L,P⟩:=h2 c
 have cb:(r.2 != 0)=false:=by simpa using c
 have lb:((r.1.Passages.length:Int) != (x.Nodes.length:Int))=false:=by rw[hl];simp
 simp only[Option.bind_some,Bool.not_true,Bool.false_eq_true,if_false,cb,lb,A5,hs.1,hm.1,bne_self_eq_false]
 rw[AA4 I hm.2 hs.2 hl A L P _ rfl rfl rfl]
 rfl
end Go.Av.Air
namespace Go.Av
theorem plain3 {x:Ap} (b:eo x):m3 x=some true:=Air.fly_true b
end Go.Av
