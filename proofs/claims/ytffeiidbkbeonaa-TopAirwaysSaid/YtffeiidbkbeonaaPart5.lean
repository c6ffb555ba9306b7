/- A part of the proof. -/
import Derived.Test.YtffeiidbkbeonaaPart4
import Derived.Lib.IndexLaws
import Derived.Handed
set_option linter.unusedVariables false
set_option linter.unusedSimpArgs false
set_option maxRecDepth 100000
namespace Go.Av.Air
theorem M48 (a0:List UInt8) (a1:Int):m48 a0 a1=((Option.bind (if(!(((a0.length:Int)==(0:Int)) || (decide (a1 < (a0.length:Int)))))=true→((0:Int)≤(0:Int))then(if(!(((a0.length:Int)==(0:Int)) || (decide (a1 < (a0.length:Int)))))=true→(0 < (a0.length:Int))then(if(!((((a0.length:Int)==(0:Int)) || (decide (a1 < (a0.length:Int)))) || (decide ((byteAt a0 (0:Int).toNat) < 65))))=true→((0:Int)≤(0:Int))then(if(!((((a0.length:Int)==(0:Int)) || (decide (a1 < (a0.length:Int)))) || (decide ((byteAt a0 (0:Int).toNat) < 65))))=true→(0 < (a0.length:Int))then(if(((((a0.length:Int)==(0:Int)) || (decide (a1 < (a0.length:Int)))) || (decide ((byteAt a0 (0:Int).toNat) < 65))) || (decide (90 < (byteAt a0 (0:Int).toNat))))=true then(some (.inr (false)))else(some (.inl ())))else none)else none)else none)else none) (onS fun(_:Unit)=>(Option.bind (Option.bind (some (.inl ())) (onS fun(_:Unit)=>(loopO (fun(s1:Int)=>((if(decide (s1 < (a0.length:Int)))=true then(if(0≤s1)then(if(s1 < (a0.length:Int))then(if(!(decide ((byteAt a0 s1.toNat) < 65)))=true→(0≤s1)then(if(!(decide ((byteAt a0 s1.toNat) < 65)))=true→(s1 < (a0.length:Int))then(if((decide ((byteAt a0 s1.toNat) < 65)) || (decide (90 < (byteAt a0 s1.toNat))))=true→(0≤s1)then(if((decide ((byteAt a0 s1.toNat) < 65)) || (decide (90 < (byteAt a0 s1.toNat))))=true→(s1 < (a0.length:Int))then(if(((decide ((byteAt a0 s1.toNat) < 65)) || (decide (90 < (byteAt a0 s1.toNat))))&&(!(decide ((byteAt a0 s1.toNat) < 48))))=true→(0≤s1)then(if(((decide ((byteAt a0 s1.toNat) < 65)) || (decide (90 < (byteAt a0 s1.toNat))))&&(!(decide ((byteAt a0 s1.toNat) < 48))))=true→(s1 < (a0.length:Int))then(if(((decide ((byteAt a0 s1.toNat) < 65)) || (decide (90 < (byteAt a0 s1.toNat))))&&((decide ((byteAt a0 s1.toNat) < 48)) || (decide (57 < (byteAt a0 s1.toNat)))))=true then(some (.inr (.inr (false))))else(some (.inl (IntKind.wrap .i64 (s1+1)))))else none)else none)else none)else none)else none)else none)else none)else none)else(some (.inr (.inl ())))):Option ((Int)⊕((Unit)⊕(Bool))))) (0:Int)))) (onS fun(_:Unit)=>(some true))))):Option (Bool)):=by kernel_rfl
theorem M83 (a0 a1:List UInt8):m83 a0 a1=((Option.bind (Option.bind (m93 a0 a1) fun r=>some r) fun x1=>(some (x1.1,x1.2.1,x1.2.2))):Option ((List UInt8)×(List UInt8)×Bool)):=by kernel_rfl
theorem M93 (a0 a1:List UInt8):m93 a0 a1=((Option.bind (Option.bind (m97 a0 a1) fun r=>some r) fun x1=>(if(decide (0≤x1))=true then(if(0≤x1)then(if(x1≤(a0.length:Int))then(if(0≤(IntKind.wrap .i64 (x1+(a1.length:Int))))then(if((IntKind.wrap .i64 (x1+(a1.length:Int)))≤(a0.length:Int))then(some ((a0.take x1.toNat),(a0.drop (IntKind.wrap .i64 (x1+(a1.length:Int))).toNat),true))else none)else none)else none)else none)else(some (a0,([]:List UInt8),false)))):Option ((List UInt8)×(List UInt8)×Bool)):=by kernel_rfl
theorem M84 (a0:List UInt8):m84 a0=((Option.bind (if((a0.length:Int) != (2:Int))=true then(some (.inr (false)))else(some (.inl ()))) (onS fun(_:Unit)=>(Option.bind (Option.bind (some (.inl ())) (onS fun(_:Unit)=>(loopO (fun(s1:Int)=>((if(decide (s1 < (a0.length:Int)))=true then(if(0≤s1)then(if(s1 < (a0.length:Int))then(if(!(decide ((byteAt a0 s1.toNat) < 65)))=true→(0≤s1)then(if(!(decide ((byteAt a0 s1.toNat) < 65)))=true→(s1 < (a0.length:Int))then(if((decide ((byteAt a0 s1.toNat) < 65)) || (decide (90 < (byteAt a0 s1.toNat))))=true→(0≤s1)then(if((decide ((byteAt a0 s1.toNat) < 65)) || (decide (90 < (byteAt a0 s1.toNat))))=true→(s1 < (a0.length:Int))then(if(((decide ((byteAt a0 s1.toNat) < 65)) || (decide (90 < (byteAt a0 s1.toNat))))&&(!(decide ((byteAt a0 s1.toNat) < 48))))=true→(0≤s1)then(if(((decide ((byteAt a0 s1.toNat) < 65)) || (decide (90 < (byteAt a0 s1.toNat))))&&(!(decide ((byteAt a0 s1.toNat) < 48))))=true→(s1 < (a0.length:Int))then(if(((decide ((byteAt a0 s1.toNat) < 65)) || (decide (90 < (byteAt a0 s1.toNat))))&&((decide ((byteAt a0 s1.toNat) < 48)) || (decide (57 < (byteAt a0 s1.toNat)))))=true then(some (.inr (.inr (false))))else(some (.inl (IntKind.wrap .i64 (s1+1)))))else none)else none)else none)else none)else none)else none)else none)else none)else(some (.inr (.inl ())))):Option ((Int)⊕((Unit)⊕(Bool))))) (0:Int)))) (onS fun(_:Unit)=>(some true))))):Option (Bool)):=by kernel_rfl
theorem M67 (a0:List UInt8):m67 a0=((Option.bind (Option.bind (m83 a0 ([47]:List UInt8)) fun r=>some r) fun x1=>(if(!x1.2.2)=true then(some (([]:List UInt8),([]:List UInt8),(4:Int)))else(Option.bind (((m48 x1.1 (6:Int)).bind fun r4_0=>((if(!(!r4_0))=true then m48 x1.2.1 (6:Int)else some default).bind fun r4_1=>((if((!(!r4_0))&&(!r4_1))=true then m84 x1.2.1 else some default).bind fun r4_2=>some (r4_0,r4_1,r4_2))))) fun(x4:(Bool×Bool×Bool))=>(if((!x4.1) || ((!x4.2.1)&&(!x4.2.2)))=true then(some (([]:List UInt8),([]:List UInt8),(5:Int)))else(some (x1.1,x1.2.1,(0:Int))))))):Option ((List UInt8)×(List UInt8)×Int)):=by kernel_rfl
theorem M51o0 (a0:T45) (a1:List UInt8):m51o0 a0 a1=((some ()):Option (Unit)):=by kernel_rfl
theorem M50o0 (a0:List T45) (a1:List UInt8):m50o0 a0 a1=((Option.bind (some (.inl ())) (onS fun(_:Unit)=>(Option.bind (Option.bind (some (.inl ())) (onS fun(_:Unit)=>(loopO (fun(s1:Int)=>((if(decide (s1 < (a0.length:Int)))=true then(Option.bind ((if 0≤s1 then(if s1 < (a0.length:Int)then((m51o0 (a0.getD s1.toNat default) a1).bind fun r4_0=>some r4_0)else none)else none)) fun(x4:(Unit))=>(if((a0.getD s1.toNat default).Ref==a1)=true then(some (.inr (.inr (s1))))else(some (.inl (IntKind.wrap .i64 (s1+1))))))else(some (.inr (.inl ())))):Option ((Int)⊕((Unit)⊕(Int))))) (0:Int)))) (onS fun(_:Unit)=>(some (-1:Int)))))):Option (Int)):=by kernel_rfl
theorem M23 (a0:T39) (a1:List UInt8):m23 a0 a1=((Option.bind (Option.bind (m50o0 a0.Points a1) fun r=>some r) fun x1=>(some x1)):Option (Int)):=by kernel_rfl
theorem M68:m68  = ((some (⟨(-200000:Int),(6000000:Int)⟩:T43)):Option (T43)):=by kernel_rfl
theorem M49 (a0:T39) (a1:Int):m49 a0 a1=((if(0≤a1)then(if(a1 < (a0.Points.length:Int))then(Option.bind (Option.bind (m67 (a0.Points.getD a1.toNat default).Ref) fun r=>some r) fun x2=>(if(x2.2.2 != 0)=true then(some (5:Int))else(Option.bind (Option.bind (m23 a0 (a0.Points.getD a1.toNat default).Ref) fun r=>some r) fun x5=>(if(decide (x5 < a1))=true then(some (7:Int))else(if(a1==(IntKind.wrap .i64 ((a0.Points.length:Int) - (1:Int))))=true then(Option.bind (Option.bind (m68) fun r=>some r) fun x8=>(if((!(((a0.Points.getD a1.toNat default).Alt.Lo==x8.Lo)&&(((a0.Points.getD a1.toNat default).Alt.Hi==x8.Hi)&&true))) || ((a0.Points.getD a1.toNat default).Dir != 0))=true then(some (1:Int))else(some (0:Int))))else(if(((decide ((a0.Points.getD a1.toNat default).Alt.Lo < (-200000:Int))) || (decide ((a0.Points.getD a1.toNat default).Alt.Hi < (a0.Points.getD a1.toNat default).Alt.Lo))) || (decide (6000000 < (a0.Points.getD a1.toNat default).Alt.Hi)))=true then(some (2:Int))else(if(decide (2 < (a0.Points.getD a1.toNat default).Dir))=true then(some (17:Int))else(some (0:Int)))))))))else none)else none):Option (Int)):=by kernel_rfl
theorem M22 (a0:T39):m22 a0=((Option.bind (Option.bind (Option.bind (m48 a0.Name (8:Int)) fun r=>some r) fun x1=>(if(!x1)=true then(some (.inr ((5:Int))))else(if(decide ((a0.Points.length:Int) < (2:Int)))=true then(some (.inr ((1:Int))))else(if(decide (40 < (a0.Points.length:Int)))=true then(some (.inr ((3:Int))))else(some (.inl ())))))) (onS fun(_:Unit)=>(Option.bind (Option.bind (some (.inl ())) (onS fun(_:Unit)=>(loopO (fun(s1:Int)=>((if(decide (s1 < (a0.Points.length:Int)))=true then(Option.bind (Option.bind (m49 a0 s1) fun r=>some r) fun x10=>(if(x10 != 0)=true then(some (.inr (.inr (x10))))else(some (.inl (IntKind.wrap .i64 (s1+1))))))else(some (.inr (.inl ())))):Option ((Int)⊕((Unit)⊕(Int))))) (0:Int)))) (onS fun(_:Unit)=>(some (0:Int)))))):Option (Int)):=by kernel_rfl
theorem M24 (a0:List T39):m24 a0=((Option.bind (if(decide (60 < (a0.length:Int)))=true then(some (.inr ((3:Int))))else(some (.inl ()))) (onS fun(_:Unit)=>(Option.bind (Option.bind (some (.inl ())) (onS fun(_:Unit)=>(loopO (fun(s1:Int)=>((if(decide (s1 < (a0.length:Int)))=true then(if(0≤s1)then(if(s1 < (a0.length:Int))then(Option.bind (Option.bind (m22 (a0.getD s1.toNat default)) fun r=>some r) fun x6=>(if(x6 != 0)=true then(some (.inr (.inr (x6))))else(some (.inl (IntKind.wrap .i64 (s1+1))))))else none)else none)else(some (.inr (.inl ())))):Option ((Int)⊕((Unit)⊕(Int))))) (0:Int)))) (onS fun(_:Unit)=>(some (0:Int)))))):Option (Int)):=by kernel_rfl
theorem M25 (a0:List T39) (a1:List UInt8):m25 a0 a1=((Option.bind (some (.inl ())) (onS fun(_:Unit)=>(Option.bind (Option.bind (some (.inl ())) (onS fun(_:Unit)=>(loopO (fun(s1:(List T49)×Int)=>((if(decide (s1.2 < (a0.length:Int)))=true then(if(0≤s1.2)then(if(s1.2 < (a0.length:Int))then(Option.bind (Option.bind (m23 (a0.getD s1.2.toNat default) a1) fun r=>some r) fun x5=>(if(decide (x5 < 0))=true then(some (.inl (s1.1,(IntKind.wrap .i64 (s1.2+1)))))else(if(decide ((IntKind.wrap .i64 (x5+1)) < ((a0.getD s1.2.toNat default).Points.length:Int)))=true→(0≤x5)then(if(decide ((IntKind.wrap .i64 (x5+1)) < ((a0.getD s1.2.toNat default).Points.length:Int)))=true→(x5 < ((a0.getD s1.2.toNat default).Points.length:Int))then(if((decide ((IntKind.wrap .i64 (x5+1)) < ((a0.getD s1.2.toNat default).Points.length:Int)))&&(((a0.getD s1.2.toNat default).Points.getD x5.toNat default).Dir != 2))=true then(if(0≤(IntKind.wrap .i64 (x5+1)))then(if((IntKind.wrap .i64 (x5+1)) < ((a0.getD s1.2.toNat default).Points.length:Int))then(if(0≤x5)then(if(x5 < ((a0.getD s1.2.toNat default).Points.length:Int))then(if((s1.1.length+1) * 48≤140737488355328)then(if(decide (0 < x5))=true→(0≤(IntKind.wrap .i64 (x5 - 1)))then(if(decide (0 < x5))=true→((IntKind.wrap .i64 (x5 - 1)) < ((a0.getD s1.2.toNat default).Points.length:Int))then(if((decide (0 < x5))&&(((a0.getD s1.2.toNat default).Points.getD (IntKind.wrap .i64 (x5 - 1)).toNat default).Dir != 1))=true then(if(0≤(IntKind.wrap .i64 (x5 - 1)))then(if((IntKind.wrap .i64 (x5 - 1)) < ((a0.getD s1.2.toNat default).Points.length:Int))then(if(0≤(IntKind.wrap .i64 (x5 - 1)))then(if((IntKind.wrap .i64 (x5 - 1)) < ((a0.getD s1.2.toNat default).Points.length:Int))then(if(((s1.1.length+1)+1) * 48≤140737488355328)then(some (.inl (((s1.1++([(⟨(a0.getD s1.2.toNat default).Name,((a0.getD s1.2.toNat default).Points.getD (IntKind.wrap .i64 (x5+1)).toNat default).Ref,((a0.getD s1.2.toNat default).Points.getD x5.toNat default).Alt⟩:T49)]:List T49))++([(⟨(a0.getD s1.2.toNat default).Name,((a0.getD s1.2.toNat default).Points.getD (IntKind.wrap .i64 (x5 - 1)).toNat default).Ref,((a0.getD s1.2.toNat default).Points.getD (IntKind.wrap .i64 (x5 - 1)).toNat default).Alt⟩:T49)]:List T49)),(IntKind.wrap .i64 (s1.2+1)))))else none)else none)else none)else none)else none)else(some (.inl ((s1.1++([(⟨(a0.getD s1.2.toNat default).Name,((a0.getD s1.2.toNat default).Points.getD (IntKind.wrap .i64 (x5+1)).toNat default).Ref,((a0.getD s1.2.toNat default).Points.getD x5.toNat default).Alt⟩:T49)]:List T49)),(IntKind.wrap .i64 (s1.2+1))))))else none)else none)else none)else none)else none)else none)else none)else(if(decide (0 < x5))=true→(0≤(IntKind.wrap .i64 (x5 - 1)))then(if(decide (0 < x5))=true→((IntKind.wrap .i64 (x5 - 1)) < ((a0.getD s1.2.toNat default).Points.length:Int))then(if((decide (0 < x5))&&(((a0.getD s1.2.toNat default).Points.getD (IntKind.wrap .i64 (x5 - 1)).toNat default).Dir != 1))=true then(if(0≤(IntKind.wrap .i64 (x5 - 1)))then(if((IntKind.wrap .i64 (x5 - 1)) < ((a0.getD s1.2.toNat default).Points.length:Int))then(if(0≤(IntKind.wrap .i64 (x5 - 1)))then(if((IntKind.wrap .i64 (x5 - 1)) < ((a0.getD s1.2.toNat default).Points.length:Int))then(if((s1.1.length+1) * 48≤140737488355328)then(some (.inl ((s1.1++([(⟨(a0.getD s1.2.toNat default).Name,((a0.getD s1.2.toNat default).Points.getD (IntKind.wrap .i64 (x5 - 1)).toNat default).Ref,((a0.getD s1.2.toNat default).Points.getD (IntKind.wrap .i64 (x5 - 1)).toNat default).Alt⟩:T49)]:List T49)),(IntKind.wrap .i64 (s1.2+1)))))else none)else none)else none)else none)else none)else(some (.inl (s1.1,(IntKind.wrap .i64 (s1.2+1))))))else none)else none))else none)else none)))else none)else none)else(some (.inr (.inl s1.1)))):Option (((List T49)×Int)⊕(((List T49))⊕((List T49)))))) ([],(0:Int))))) (onS fun(y2:(List T49))=>(some y2))))):Option ((List T49))):=by kernel_rfl
theorem M8 (a0:List T39) (a1:List UInt8):m8 a0 a1=((Option.bind (Option.bind (m24 a0) fun r=>some r) fun x1=>(if(x1 != 0)=true then(some ([],x1))else(Option.bind (Option.bind (m25 a0 a1) fun r=>some r) fun x4=>(some (x4,(0:Int)))))):Option ((List T49)×Int)):=by kernel_rfl
theorem cnt_loop {X:Type} {b:Int→Option (Int⊕X)} (n:Nat) (hb:∀ i:Nat,i < n→(b i=some (.inl ((i:Int)+1)))∨∃ x,b i=some (.inr x)) (he:∃ x,b n=some (.inr x)):Tot (loopO b 0):=by
 obtain⟨x,h,_⟩:=loop_meas (b:=b) (fun s=>∃ i:Nat,i≤n∧s=i) (fun s=>(n - s).toNat) (fun _=>True) (fun s ⟨i,hi,hs⟩=>by
  subst hs
  by_cases h5:i < n
  ·rcases hb i h5 with h | ⟨x,h⟩
   ·exact .inl ⟨_,h,⟨i+1,by omega,by omega⟩,by omega⟩
   ·exact .inr ⟨x,h,trivial⟩
  ·obtain rfl:i=n:=by omega
   obtain⟨x,hx⟩:=he
   exact .inr ⟨x,hx,trivial⟩) 0 ⟨0,by omega,rfl⟩
 exact⟨x,h⟩
theorem name_t {s:List UInt8} {n:Int} (hn:n≤100):Tot (m48 s n):=by
 rw[M48]
 cases h1:(((s.length:Int)==(0:Int)) || (decide (n < (s.length:Int)))) with
 | true =>
  simp only[h1,Bool.true_or,Bool.not_true,Bool.false_eq_true,false_implies,if_true]
  exact⟨_,rfl⟩
 | false =>
  have hl:0 < s.length∧s.length≤100:=by
   simp only[Bool.or_eq_false_iff,beq_eq_false_iff_ne,decide_eq_false_iff_not]at h1
   omega
  have z2:(0:Int) < s.length:=by omega
  simp only[h1,Int.le_refl,z2,implies_true,if_true,Int.toNat_zero,Bool.false_or]
  split
  ·exact⟨_,rfl⟩
  ·simp only[Option.bind_some,onS]
   refine Tot.on (cnt_loop s.length (fun i hi=>?_) ?_) fun _=>.some
   ·simp only[inL hi,decide_true,Int.toNat_natCast,if_true,implies_true,wr1 hi (by omega)]
    split
    ·exact .inr ⟨_,rfl⟩
    ·exact .inl rfl
   ·simp only[lt_irr,decide_false,Bool.false_eq_true,if_false]
    exact⟨_,rfl⟩
theorem short_t {s:List UInt8}:Tot (m84 s):=by
 rw[M84]
 by_cases h:((s.length:Int) != (2:Int))=true
 ·rw[if_pos h];exact⟨_,rfl⟩
 ·rw[if_neg h]
  have hl:s.length=2:=by simp at h;omega
  simp only[Option.bind_some,onS]
  refine Tot.on (cnt_loop s.length (fun i hi=>?_) ?_) fun _=>.some
  ·simp only[inL hi,decide_true,Int.toNat_natCast,if_true,implies_true,wr1 hi (by omega)]
   split
   ·exact .inr ⟨_,rfl⟩
   ·exact .inl rfl
  ·simp only[lt_irr,decide_false,Bool.false_eq_true,if_false]
   exact⟨_,rfl⟩
theorem cut_t {s:List UInt8} (h:s.length≤maxLen):Tot (m83 s [47]):=by
 rw[M83]
 refine .bind (.bind ?_ fun _=>.some) fun _=>.some
 rw[M93]
 have e:m97 s [47]=some (Lib.indexByte s 47):=rfl
 rw[e]
 simp only[Option.bind_some]
 split
 ·rename_i h0
  have h0:=of_decide_eq_true h0
  obtain⟨k,hk⟩:∃ k:Nat,Lib.indexByte s 47=k:=⟨(Lib.indexByte s 47).toNat,by omega⟩
  have hlt:k < s.length:=by
   obtain⟨h1,_⟩:=Lib.indexByte_some hk
   exact(List.getElem?_eq_some_iff.1 h1).1
  have hm:maxLen=9223372036854775807:=rfl
  have e1:([47]:List UInt8).length=1:=rfl
  rw[hk,e1]
  have e2:IntKind.wrap .i64 ((k:Int)+((1:Nat):Int))=(k:Int)+1:=w64 (by omega) (by omega)
  rw[e2,if_pos (by omega),if_pos (by omega),if_pos (by omega),if_pos (by omega)]
  exact .some
 ·exact .some
theorem split_t {s:List UInt8} (h:s.length≤maxLen):Tot (m67 s):=by
 rw[M67]
 refine .bind ((cut_t h).bind fun _=>.some) fun x=>.ite .some (.bind ?_ fun _=>.ite .some .some)
 exact .bind (name_t (by decide)) fun _=>.bind (.ite (name_t (by decide)) .some) fun _=>.bind (.ite short_t .some) fun _=>.some
def rf (a:T39) (i:Nat):List UInt8:=(a.Points.getD i default).Ref
def ixA (a:T39) (r:List UInt8):Int:=findR (fun i=>rf a i==r) a.Points.length
theorem findR_cases {F:Nat→Bool} {n:Nat}:(findR F n = -1∧∀ i,i < n→F i=false)∨∃ i:Nat,i < n∧findR F n=i∧F i=true∧∀ j,j < i→F j=false:=by
 unfold findR
 cases h:firstR (fun i=>if F i=true then some (i:Int)else none) n with
 | none =>
  refine .inl ⟨rfl,fun i hi=>?_⟩
  have:=firstR_none.1 h i hi
  split at this
  ·cases this
  ·rename_i hf;simpa using hf
 | some y =>
  obtain⟨i,hi,hy⟩:=firstR_some h
  split at hy
  ·rename_i hf
   injection hy with hy
   -- the first of them
   have key:∀ m,m≤n→(∃ j,j < m∧F j=true)→∃ j,j < m∧F j=true∧∀ k,k < j→F k=false:=by
    intro m
    induction m with
    | zero=>rintro _ ⟨j,hj,_⟩;omega
    | succ m ih =>
     intro hm hex
     by_cases hj:∃ j,j < m∧F j=true
     ·obtain⟨j,h1,h2,h3⟩:=ih (by omega) hj
      exact⟨j,by omega,h2,h3⟩
     ·obtain⟨j,h1,h2⟩:=hex
      have:j=m:=by
       by_cases hlt:j < m
       ·exact absurd ⟨j,hlt,h2⟩ hj
       ·omega
      subst this
      exact⟨j,by omega,h2,fun k hk=>by
       cases hF:F k with
       | false=>rfl
       | true=>exact absurd ⟨k,hk,hF⟩ hj⟩
   obtain⟨j,j1,j2,j3⟩:=key n (Nat.le_refl _) ⟨i,hi,hf⟩
   have:=firstR_at (f:=fun i=>if F i=true then some (i:Int)else none) j1 (fun k hk=>by simp only[j3 k hk,Bool.false_eq_true,if_false]) (by simp only[j2,if_true]:(if F j=true then some (j:Int)else none)=some (j:Int))
   rw[this]at h
   injection h with h
   exact .inr ⟨j,j1,by show y=(j:Int);exact h.symm,j2,j3⟩
  ·cases hy
theorem index_eq (a:T39) (r:List UInt8) (hl:a.Points.length≤4611686018427387904):m23 a r=some (ixA a r):=by
 rw[M23,M50o0]
 simp only[Option.bind_some,onS]
 have key:=loop_ex (k:=fun _=>some (-1:Int)) (b:=fun(s1:Int)=>((if(decide (s1 < (a.Points.length:Int)))=true then(Option.bind ((if 0≤s1 then(if s1 < (a.Points.length:Int)then((m51o0 (a.Points.getD s1.toNat default) r).bind fun r4_0=>some r4_0)else none)else none)) fun(x4:(Unit))=>(if((a.Points.getD s1.toNat default).Ref==r)=true then(some (.inr (.inr (s1))))else(some (.inl (IntKind.wrap .i64 (s1+1))))))else(some (.inr (.inl ())))):Option ((Int)⊕((Unit)⊕(Int))))) a.Points.length (fun i=>if(rf a i==r)=true then some (i:Int)else none) (fun i hi=>by
  have e:m51o0 (a.Points.getD i default) r=some ():=by rw[M51o0]
  simp only[exB_ite,exB_some,exB_none]
  simp only[inL hi,decide_true,Int.toNat_natCast,if_true,e,Option.bind_some,wr1 hi hl,rf]
  rfl) (by simp only[lt_irr,decide_false,Bool.false_eq_true,if_false])
 rw[key]
 unfold ixA findR
 cases firstR (fun i=>if(rf a i==r)=true then some (i:Int)else none) a.Points.length<;>rfl
structure At (a:T39) (r:List UInt8) (i:Nat):Prop where
 lt:i < a.Points.length
 ref:rf a i=r
 fst:∀ j,j < i→rf a j≠r
theorem ixA_cases (a:T39) (r:List UInt8):(ixA a r = -1∧∀ i,i < a.Points.length→rf a i≠r)∨∃ i:Nat,ixA a r=i∧At a r i:=by
 rcases findR_cases (F:=fun i=>rf a i==r) (n:=a.Points.length) with⟨h1,h2⟩ | ⟨i,h1,h2,h3,h4⟩
 ·exact .inl ⟨h1,fun i hi=>by simpa using h2 i hi⟩
 ·exact .inr ⟨i,h2,h1,by simpa using h3,fun j hj=>by simpa using h4 j hj⟩
def okA (a:T39):Prop:=∀ i,i < a.Points.length→(rf a i).length≤maxLen
structure Wf (a:T39):Prop where
 two:2≤a.Points.length
 few:a.Points.length≤40
 inj:∀ i j,i < a.Points.length→j < a.Points.length→rf a i=rf a j→i=j
theorem err_loop {n:Nat} {b:Int→Option (Int⊕(Unit⊕Int))} (f:Nat→Int) (hb:∀ i,i < n→b (i:Int)=if(f i != 0)=true then some (.inr (.inr (f i)))else some (.inl ((i:Int)+1))) (hd:b n=some (.inr (.inl ()))):∃ e,(loopO b 0).bind (onS fun _=>some (0:Int))=some e∧(e=0↔∀ i,i < n→f i=0):=by
 rw[loop_ex n (fun i=>if(f i != 0)=true then some (f i)else none) (fun i hi=>by rw[hb i hi,exB_ite,exB_some,exB_none]) hd,orK_getD]
 refine⟨_,rfl,?_⟩
 cases h:firstR (fun i=>if(f i != 0)=true then some (f i)else none) n with
 | none =>
  refine⟨fun _ i hi=>?_,fun _=>rfl⟩
  have:=firstR_none.1 h i hi
  split at this
  ·cases this
  ·rename_i hf;simpa using hf
 | some y =>
  obtain⟨i,hi,hy⟩:=firstR_some h
  split at hy
  ·rename_i hf
   injection hy with hy
   subst hy
   have hne:f i≠0:=by simpa using hf
   exact⟨fun h=>absurd h hne,fun h=>absurd (h i hi) hne⟩
  ·cases hy
theorem point_ok {a:T39} (ha:okA a) (hl:a.Points.length≤40) {i:Nat} (hi:i < a.Points.length):∃ e,m49 a i=some e∧(e=0→(i:Int)≤ixA a (rf a i)):=by
 rw[M49]
 rw[if_pos (by omega),if_pos (by omega)]
 obtain⟨z,hz⟩:=split_t (ha i hi)
 have hz':m67 (a.Points.getD ((i:Int)).toNat default).Ref=some z:=hz
 have hx:m23 a (a.Points.getD ((i:Int)).toNat default).Ref=some (ixA a (rf a i)):=index_eq a _ (by omega)
 simp only[hz',hx,Option.bind_some]
 split
 ·exact⟨_,rfl,fun h=>absurd h (by decide)⟩
 split
 ·exact⟨_,rfl,fun h=>absurd h (by decide)⟩
 rename_i hlt
 have hge:(i:Int)≤ixA a (rf a i):=by simpa using hlt
 split
 ·rw[M68]
  simp only[Option.bind_some]
  split<;>exact⟨_,rfl,fun _=>hge⟩
 split
 ·exact⟨_,rfl,fun _=>hge⟩
 split<;>exact⟨_,rfl,fun _=>hge⟩
theorem Check_ok {a:T39} (ha:okA a):∃ e,m22 a=some e∧(e=0→Wf a):=by
 rw[M22]
 obtain⟨z,hz⟩:=name_t (s:=a.Name) (n:=8) (by decide)
 rw[hz]
 simp only[Option.bind_some]
 split
 ·exact⟨_,rfl,fun h=>absurd h (by decide)⟩
 split
 ·exact⟨_,rfl,fun h=>absurd h (by decide)⟩
 rename_i h2
 split
 ·exact⟨_,rfl,fun h=>absurd h (by decide)⟩
 rename_i h40
 simp only[decide_eq_true_eq,Int.not_lt]at h2 h40
 simp only[Option.bind_some,onS]
 obtain⟨e,he,k⟩:=err_loop (n:=a.Points.length) (f:=fun i=>(m49 a i).getD 0) (b:=fun(s1:Int)=>((if(decide (s1 < (a.Points.length:Int)))=true then(Option.bind (Option.bind (m49 a s1) fun r=>some r) fun x10=>(if(x10 != 0)=true then(some (.inr (.inr (x10))))else(some (.inl (IntKind.wrap .i64 (s1+1))))))else(some (.inr (.inl ())))):Option ((Int)⊕((Unit)⊕(Int))))) (fun i hi=>by
  obtain⟨e,he,_⟩:=point_ok ha (by omega) hi
  simp only[inL hi,decide_true,if_true,he,Option.bind_some,Option.getD_some,wr1 hi (by omega)]) (by simp only[lt_irr,decide_false,Bool.false_eq_true,if_false])
 refine⟨e,he,fun h0=>⟨by omega,by omega,fun i j hi hj hij=>?_⟩⟩
 have all:=k.1 h0
 have ge:∀ i,i < a.Points.length→(i:Int)≤ixA a (rf a i):=fun i hi=>by
  obtain⟨e,he,kk⟩:=point_ok ha (by omega) hi
  have:=all i hi
  rw[he]at this
  exact kk this
 have gi:=ge i hi
 have gj:=ge j hj
 rw[← hij]at gj
 rcases ixA_cases a (rf a i) with⟨h1,h2⟩ | ⟨m,h1,hm⟩
 ·exact absurd rfl (h2 i hi)
 ·rw[h1]at gi gj
  have mi:m=i:=by
   by_cases hh:i < m
   ·exact absurd rfl (hm.fst i hh)
   ·omega
  have mj:m=j:=by
   by_cases hh:j < m
   ·exact absurd hij.symm (hm.fst j hh)
   ·omega
  omega
structure WfL (l:List T39):Prop where
 few:l.length≤60
 all:∀ i,i < l.length→Wf (l.getD i default)
theorem check_ok {l:List T39} (hl:∀ i,i < l.length→okA (l.getD i default)):∃ e,m24 l=some e∧(e=0→WfL l):=by
 rw[M24]
 split
 ·exact⟨_,rfl,fun h=>absurd h (by decide)⟩
 rename_i h60
 simp only[decide_eq_true_eq,Int.not_lt]at h60
 simp only[Option.bind_some,onS]
 obtain⟨e,he,k⟩:=err_loop (n:=l.length) (f:=fun i=>(m22 (l.getD i default)).getD 0) (b:=fun(s1:Int)=>((if(decide (s1 < (l.length:Int)))=true then(if(0≤s1)then(if(s1 < (l.length:Int))then(Option.bind (Option.bind (m22 (l.getD s1.toNat default)) fun r=>some r) fun x6=>(if(x6 != 0)=true then(some (.inr (.inr (x6))))else(some (.inl (IntKind.wrap .i64 (s1+1))))))else none)else none)else(some (.inr (.inl ())))):Option ((Int)⊕((Unit)⊕(Int))))) (fun i hi=>by
  obtain⟨e,he,_⟩:=Check_ok (hl i hi)
  simp only[inL hi,decide_true,if_true,Int.toNat_natCast,he,Option.bind_some,Option.getD_some,wr1 hi (by omega)]) (by simp only[lt_irr,decide_false,Bool.false_eq_true,if_false])
 refine⟨e,he,fun h0=>⟨by omega,fun i hi=>?_⟩⟩
 obtain⟨e,he,kk⟩:=Check_ok (hl i hi)
 have:=k.1 h0 i hi
 rw[he]at this
 exact kk this
end Go.Av.Air
set_option maxRecDepth 100000
namespace Go.Av.Air
def pt (a:T39) (i:Nat):T45:=a.Points.getD i default
def fwd (a:T39) (i:Nat):Bool:=decide (i+1 < a.Points.length)&&((pt a i).Dir != 2)
def bwd (a:T39) (i:Nat):Bool:=decide (0 < i)&&((pt a (i - 1)).Dir != 1)
def hopF (a:T39) (i:Nat):T49:=⟨a.Name,rf a (i+1),(pt a i).Alt⟩
def hopB (a:T39) (i:Nat):T49:=⟨a.Name,rf a (i - 1),(pt a (i - 1)).Alt⟩
def hopsI (a:T39) (i:Nat):List T49:=(if fwd a i=true then[hopF a i]else[])++(if bwd a i=true then[hopB a i]else[])
def hopsA (a:T39) (r:List UInt8):List T49:=if ixA a r < 0 then[]else hopsI a (ixA a r).toNat
def hopsL (l:List T39) (r:List UInt8):List T49:=(List.range l.length).flatMap fun k=>hopsA (l.getD k default) r
theorem hopsA_len (a:T39) (r:List UInt8):(hopsA a r).length≤2:=by
 unfold hopsA hopsI
 split
 ·simp
 ·split<;>split<;>simp
set_option maxHeartbeats 800000 in
theorem hops_round {a:T39} {r:List UInt8} (W:Wf a) {acc:List T49} (hacc:acc.length≤1000) {j:Int} :
  (Option.bind (Option.bind (m23 a r) fun r=>some r) fun x5=>(if(decide (x5 < 0))=true then(some (.inl (acc,j)))else(if(decide ((IntKind.wrap .i64 (x5+1)) < (a.Points.length:Int)))=true→(0≤x5)then(if(decide ((IntKind.wrap .i64 (x5+1)) < (a.Points.length:Int)))=true→(x5 < (a.Points.length:Int))then(if((decide ((IntKind.wrap .i64 (x5+1)) < (a.Points.length:Int)))&&((a.Points.getD x5.toNat default).Dir != 2))=true then(if(0≤(IntKind.wrap .i64 (x5+1)))then(if((IntKind.wrap .i64 (x5+1)) < (a.Points.length:Int))then(if(0≤x5)then(if(x5 < (a.Points.length:Int))then(if((acc.length+1) * 48≤140737488355328)then(if(decide (0 < x5))=true→(0≤(IntKind.wrap .i64 (x5 - 1)))then(if(decide (0 < x5))=true→((IntKind.wrap .i64 (x5 - 1)) < (a.Points.length:Int))then(if((decide (0 < x5))&&((a.Points.getD (IntKind.wrap .i64 (x5 - 1)).toNat default).Dir != 1))=true then(if(0≤(IntKind.wrap .i64 (x5 - 1)))then(if((IntKind.wrap .i64 (x5 - 1)) < (a.Points.length:Int))then(if(0≤(IntKind.wrap .i64 (x5 - 1)))then(if((IntKind.wrap .i64 (x5 - 1)) < (a.Points.length:Int))then(if(((acc.length+1)+1) * 48≤140737488355328)then(some (.inl (((acc++([(⟨a.Name,(a.Points.getD (IntKind.wrap .i64 (x5+1)).toNat default).Ref,(a.Points.getD x5.toNat default).Alt⟩:T49)]:List T49))++([(⟨a.Name,(a.Points.getD (IntKind.wrap .i64 (x5 - 1)).toNat default).Ref,(a.Points.getD (IntKind.wrap .i64 (x5 - 1)).toNat default).Alt⟩:T49)]:List T49)),j)))else none)else none)else none)else none)else none)else(some (.inl ((acc++([(⟨a.Name,(a.Points.getD (IntKind.wrap .i64 (x5+1)).toNat default).Ref,(a.Points.getD x5.toNat default).Alt⟩:T49)]:List T49)),j))))else none)else none)else none)else none)else none)else none)else none)else(if(decide (0 < x5))=true→(0≤(IntKind.wrap .i64 (x5 - 1)))then(if(decide (0 < x5))=true→((IntKind.wrap .i64 (x5 - 1)) < (a.Points.length:Int))then(if((decide (0 < x5))&&((a.Points.getD (IntKind.wrap .i64 (x5 - 1)).toNat default).Dir != 1))=true then(if(0≤(IntKind.wrap .i64 (x5 - 1)))then(if((IntKind.wrap .i64 (x5 - 1)) < (a.Points.length:Int))then(if(0≤(IntKind.wrap .i64 (x5 - 1)))then(if((IntKind.wrap .i64 (x5 - 1)) < (a.Points.length:Int))then(if((acc.length+1) * 48≤140737488355328)then(some (.inl ((acc++([(⟨a.Name,(a.Points.getD (IntKind.wrap .i64 (x5 - 1)).toNat default).Ref,(a.Points.getD (IntKind.wrap .i64 (x5 - 1)).toNat default).Alt⟩:T49)]:List T49)),j)))else none)else none)else none)else none)else none)else(some (.inl (acc,j))))else none)else none))else none)else none)):Option (((List T49)×Int)⊕(((List T49))⊕((List T49)))))=some (.inl (acc++hopsA a r,j)):=by
 have h40:=W.few
 rw[index_eq a r (by omega)]
 simp only[Option.bind_some]
 rcases ixA_cases a r with⟨h1,h2⟩ | ⟨k,h1,hk⟩
 ·rw[h1,if_pos (by decide)]
  unfold hopsA
  rw[h1,if_pos (by decide),List.append_nil]
 ·have hlt:=hk.lt
  have e1:IntKind.wrap .i64 ((k:Int)+1)=(k:Int)+1:=w64 (by omega) (by omega)
  have e2:IntKind.wrap .i64 ((k:Int) - 1)=(k:Int) - 1:=w64 (by omega) (by omega)
  have t1:((k:Int)+1).toNat=k+1:=by omega
  have t2:((k:Int) - 1).toNat=k - 1:=by omega
  have c1:decide ((k:Int)+1 < (a.Points.length:Int))=decide (k+1 < a.Points.length):=by simp only[decide_eq_decide];omega
  have c2:decide ((0:Int) < (k:Int))=decide (0 < k):=by simp only[decide_eq_decide];omega
  have g0:¬ (decide ((k:Int) < 0)=true):=by simp
  have p1:(acc.length+1) * 48≤140737488355328:=Nat.le_trans (Nat.mul_le_mul_right 48 (show acc.length+1≤1002 by omega)) (by decide)
  have p2:((acc.length+1)+1) * 48≤140737488355328:=Nat.le_trans (Nat.mul_le_mul_right 48 (show acc.length+1+1≤1002 by omega)) (by decide)
  have q1:(0:Int)≤(k:Int):=by omega
  have q2:(k:Int) < (a.Points.length:Int):=by omega
  have hA:hopsA a r=hopsI a k:=by
   unfold hopsA
   rw[h1,if_neg (by omega),Int.toNat_natCast]
  rw[h1,hA]
  simp only[e1,e2,t1,t2,c1,c2,if_neg g0,Int.toNat_natCast,q1,q2,implies_true,if_true,p1,p2]
  unfold hopsI fwd bwd hopF hopB rf pt
  by_cases f1:(decide (k+1 < a.Points.length)&&((a.Points.getD k default).Dir != 2))=true
  ·rw[if_pos f1,if_pos f1]
   have f2:k+1 < a.Points.length:=by simp only[Bool.and_eq_true,decide_eq_true_eq]at f1;exact f1.1
   rw[if_pos (by omega),if_pos (by omega)]
   by_cases b1:(decide (0 < k)&&((a.Points.getD (k - 1) default).Dir != 1))=true
   ·have b2:0 < k:=by simp only[Bool.and_eq_true,decide_eq_true_eq]at b1;exact b1.1
    have z1:(0:Int)≤(k:Int) - 1:=by omega
    have z2:(k:Int) - 1 < (a.Points.length:Int):=by omega
    simp only[z1,z2,implies_true,if_true,b1,List.append_assoc]
   ·have z1:decide (0 < k)=true→(0:Int)≤(k:Int) - 1:=fun h=>by have:=of_decide_eq_true h;omega
    have z2:decide (0 < k)=true→(k:Int) - 1 < (a.Points.length:Int):=fun h=>by omega
    rw[if_pos z1,if_pos z2,if_neg b1,if_neg b1,List.append_nil]
  ·rw[if_neg f1,if_neg f1,List.nil_append]
   by_cases b1:(decide (0 < k)&&((a.Points.getD (k - 1) default).Dir != 1))=true
   ·have b2:0 < k:=by simp only[Bool.and_eq_true,decide_eq_true_eq]at b1;exact b1.1
    have z1:(0:Int)≤(k:Int) - 1:=by omega
    have z2:(k:Int) - 1 < (a.Points.length:Int):=by omega
    simp only[z1,z2,implies_true,if_true,b1]
   ·have z1:decide (0 < k)=true→(0:Int)≤(k:Int) - 1:=fun h=>by have:=of_decide_eq_true h;omega
    have z2:decide (0 < k)=true→(k:Int) - 1 < (a.Points.length:Int):=fun h=>by omega
    rw[if_pos z1,if_pos z2,if_neg b1,if_neg b1,List.append_nil]
theorem hops_eq {l:List T39} (W:WfL l) (r:List UInt8):m25 l r=some (hopsL l r):=by
 have h60:=W.few
 rw[M25]
 simp only[Option.bind_some,onS]
 refine on_l (y:=hopsL l r) (loop_coll l.length (fun i acc=>(acc,(i:Int))) (fun k=>hopsA (l.getD k default) r) (fun acc=>(Sum.inl acc:(List T49)⊕(List T49))) (fun i hi=>?_) ?_) rfl
 ·simp only[inL hi,decide_true,if_true,Int.toNat_natCast,wr1 hi (by omega)]
  have hl:=flatMap_len (g:=fun k=>hopsA (l.getD k default) r) (m:=2) (fun i=>hopsA_len _ _) i
  exact hops_round (W.all i hi) (by omega)
 ·simp only[lt_irr,decide_false,Bool.false_eq_true,if_false]
theorem hopsL_len {l:List T39} (W:WfL l) (r:List UInt8):(hopsL l r).length≤120:=by
 have h60:=W.few
 have hl:=flatMap_len (g:=fun k=>hopsA (l.getD k default) r) (m:=2) (fun i=>hopsA_len _ _) l.length
 unfold hopsL
 omega
def Adj (l:List T39) (u v:List UInt8):Prop:=∃ k i,k < l.length∧i+1 < (l.getD k default).Points.length∧((u=rf (l.getD k default) i∧v=rf (l.getD k default) (i+1))∨(v=rf (l.getD k default) i∧u=rf (l.getD k default) (i+1)))
theorem hops_adj {l:List T39} {u:List UInt8} {h:T49} (hh:h∈hopsL l u):Adj l u h.To:=by
 unfold hopsL at hh
 obtain⟨k,hk,hh⟩:=List.mem_flatMap.1 hh
 have hk:=List.mem_range.1 hk
 unfold hopsA at hh
 split at hh
 ·cases hh
 ·rename_i hge
  rcases ixA_cases (l.getD k default) u with⟨h1,_⟩ | ⟨i,h1,hi⟩
  ·rw[h1]at hge;exact absurd (by decide) hge
  ·rw[h1,Int.toNat_natCast]at hh
   unfold hopsI at hh
   rcases List.mem_append.1 hh with hh | hh
   ·split at hh
    ·rename_i hf
     simp only[List.mem_singleton]at hh
     subst hh
     unfold fwd at hf
     simp only[Bool.and_eq_true,decide_eq_true_eq]at hf
     exact⟨k,i,hk,hf.1,.inl ⟨hi.ref.symm,rfl⟩⟩
    ·cases hh
   ·split at hh
    ·rename_i hf
     simp only[List.mem_singleton]at hh
     subst hh
     unfold bwd at hf
     simp only[Bool.and_eq_true,decide_eq_true_eq]at hf
     have:=hi.lt
     exact⟨k,i - 1,hk,by omega,.inr ⟨rfl,by rw[show i - 1+1=i by omega];exact hi.ref.symm⟩⟩
    ·cases hh
end Go.Av.Air
set_option maxRecDepth 100000
namespace Go.Av.Air
theorem M28 (a0:T54):m28 a0=((if(a0.Ident.length+([47]:List UInt8).length≤9223372036854775807)then(if((a0.Ident++([47]:List UInt8)).length+a0.Region.length≤9223372036854775807)then(some ((a0.Ident++([47]:List UInt8))++a0.Region))else none)else none):Option ((List UInt8))):=by kernel_rfl
theorem M27o0 (a0:T54) (a1:List UInt8):m27o0 a0 a1=((Option.bind (Option.bind (m28 a0) fun r=>some r) fun x1=>(some (x1==a1))):Option (Bool)):=by kernel_rfl
theorem M26o0 (a0:List T54) (a1:List UInt8):m26o0 a0 a1=((Option.bind (some (.inl ())) (onS fun(_:Unit)=>(Option.bind (Option.bind (some (.inl ())) (onS fun(_:Unit)=>(loopO (fun(s1:Int)=>((if(decide (s1 < (a0.length:Int)))=true then(Option.bind ((if 0≤s1 then(if s1 < (a0.length:Int)then((m27o0 (a0.getD s1.toNat default) a1).bind fun r4_0=>some r4_0)else none)else none)) fun(x4:(Bool))=>(if x4=true then(some (.inr (.inr (s1))))else(some (.inl (IntKind.wrap .i64 (s1+1))))))else(some (.inr (.inl ())))):Option ((Int)⊕((Unit)⊕(Int))))) (0:Int)))) (onS fun(_:Unit)=>(some (-1:Int)))))):Option (Int)):=by kernel_rfl
theorem M9 (a0:List T54) (a1:List UInt8):m9 a0 a1=((Option.bind (Option.bind (m26o0 a0 a1) fun r=>some r) fun x1=>(if(decide (x1 < 0))=true then(some ((⟨([]:List UInt8),([]:List UInt8),(0:Int),(⟨(0:Int),(0:Int)⟩:T52),(0:Int),(0:Int)⟩:T54),false))else(if(0≤x1)then(if(x1 < (a0.length:Int))then(some ((a0.getD x1.toNat default),true))else none)else none))):Option (T54×Bool)):=by kernel_rfl
theorem M17o1 (a0:List T39) (a1:List T54) (a2 a3:List UInt8):m17o1 a0 a1 a2 a3=((Option.bind (Option.bind (Option.bind (m24 a0) fun r=>some r) fun x1=>(if(x1 != 0)=true then(some (.inr (x1)))else(if(decide (400 < (a1.length:Int)))=true then(some (.inr ((3:Int))))else(some (.inl ()))))) (onS fun(_:Unit)=>(Option.bind (Option.bind (some (.inl ())) (onS fun(_:Unit)=>(loopO (fun(s1:Int×Nat×(List UInt8→Bool)×(List UInt8→T52))=>((if(decide (s1.1 < (a1.length:Int)))=true then(if(0≤s1.1)then(if(s1.1 < (a1.length:Int))then(Option.bind (Option.bind (m28 (a1.getD s1.1.toNat default)) fun r=>some r) fun x10=>(if(x10.length≤maxLen)then(if(!(s1.2.2.1 x10))=true then(if(x10.length≤maxLen)then(if(s1.2.1 < maxLen)then(some (.inl ((IntKind.wrap .i64 (s1.1+1)),(if s1.2.2.1 x10=true then s1.2.1 else s1.2.1+1),(fun q=>q==x10 || s1.2.2.1 q),(fun q=>if q=x10 then(a1.getD s1.1.toNat default).Pos else s1.2.2.2 q))))else none)else none)else(some (.inl ((IntKind.wrap .i64 (s1.1+1)),s1.2.1,s1.2.2.1,s1.2.2.2))))else none))else none)else none)else(some (.inr (.inl (s1.2.1,s1.2.2.1,s1.2.2.2))))):Option ((Int×Nat×(List UInt8→Bool)×(List UInt8→T52))⊕((Nat×(List UInt8→Bool)×(List UInt8→T52))⊕(Int))))) ((0:Int),0,(fun _=>false),(fun _=>(⟨(0:Int),(0:Int)⟩:T52)))))) (onS fun(y2:Nat×(List UInt8→Bool)×(List UInt8→T52))=>(Option.bind (Option.bind ((some ())) fun(x15:(Unit))=>(some (.inl ()))) (onS fun(_:Unit)=>(Option.bind (Option.bind (some (.inl ())) (onS fun(_:Unit)=>(loopO (fun(s3:(List (List UInt8))×Int)=>((Option.bind (if(decide (s3.2 < (a0.length:Int)))=true then(some (.inl ()))else(some (.inr (.inr (.inl s3.1))))) (onS fun(_:Unit)=>(Option.bind (Option.bind (if(0≤s3.2)then(if(s3.2 < (a0.length:Int))then(some (.inl ()))else none)else none) (onS fun(_:Unit)=>(loopO (fun(s4:(List (List UInt8))×Int)=>((if(decide (s4.2 < ((a0.getD s3.2.toNat default).Points.length:Int)))=true then(if(0≤s4.2)then(if(s4.2 < ((a0.getD s3.2.toNat default).Points.length:Int))then(Option.bind ((if(s4.1.length+1) * 16≤140737488355328 then some ()else none)) fun(x22:(Unit))=>(some (.inl ((s4.1++([((a0.getD s3.2.toNat default).Points.getD s4.2.toNat default).Ref]:List (List UInt8))),(IntKind.wrap .i64 (s4.2+1))))))else none)else none)else(some (.inr (.inl s4.1)))):Option (((List (List UInt8))×Int)⊕(((List (List UInt8)))⊕(((List (List UInt8))×Int)⊕(((List (List UInt8)))⊕(Int))))))) (s3.1,(0:Int))))) (onS fun(y5:(List (List UInt8)))=>(some (.inl (y5,(IntKind.wrap .i64 (s3.2+1))))))))):Option (((List (List UInt8))×Int)⊕(((List (List UInt8)))⊕(Int))))) (([a2,a3]:List (List UInt8)),(0:Int))))) (onS fun(y6:(List (List UInt8)))=>(Option.bind (Option.bind (some (.inl ())) (onS fun(_:Unit)=>(loopO (fun(s7:Int)=>((if(decide (s7 < (y6.length:Int)))=true then(if(0≤s7)then(if(s7 < (y6.length:Int))then(if(s7.toNat < y6.length)then(if((y6.getD s7.toNat default).length≤maxLen)then(if(!(y2.2.1 (y6.getD s7.toNat default)))=true then(some (.inr (.inr ((6:Int)))))else(some (.inl (IntKind.wrap .i64 (s7+1)))))else none)else none)else none)else none)else(some (.inr (.inl ())))):Option ((Int)⊕((Unit)⊕(Int))))) (0:Int)))) (onS fun(_:Unit)=>(Option.bind (Option.bind (some (.inl ())) (onS fun(_:Unit)=>(loopO (fun(s8:Int)=>((Option.bind (if(decide (s8 < (a0.length:Int)))=true then(some (.inl ()))else(some (.inr (.inr (.inl ()))))) (onS fun(_:Unit)=>(Option.bind (Option.bind (if(0≤s8)then(if(s8 < (a0.length:Int))then(some (.inl ()))else none)else none) (onS fun(_:Unit)=>(loopO (fun(s9:Int)=>((if(decide (s9 < ((a0.getD s8.toNat default).Points.length:Int)))=true then(Option.bind ((if 0≤(IntKind.wrap .i64 (s9 - 1))then(if(IntKind.wrap .i64 (s9 - 1)) < ((a0.getD s8.toNat default).Points.length:Int)then(if((a0.getD s8.toNat default).Points.getD (IntKind.wrap .i64 (s9 - 1)).toNat default).Ref.length≤maxLen then(if 0≤s9 then(if s9 < ((a0.getD s8.toNat default).Points.length:Int)then(if((a0.getD s8.toNat default).Points.getD s9.toNat default).Ref.length≤maxLen then((m10 (y2.2.2 ((a0.getD s8.toNat default).Points.getD (IntKind.wrap .i64 (s9 - 1)).toNat default).Ref) (y2.2.2 ((a0.getD s8.toNat default).Points.getD s9.toNat default).Ref)).bind fun r38_0=>some r38_0)else none)else none)else none)else none)else none)else none)) fun(x38:((Int×Int)))=>(if(x38.2 != 0)=true then(some (.inr (.inr (.inr (.inr (x38.2))))))else(some (.inl (IntKind.wrap .i64 (s9+1))))))else(some (.inr (.inl ())))):Option ((Int)⊕((Unit)⊕((Int)⊕((Unit)⊕(Int))))))) (1:Int)))) (onS fun(_:Unit)=>(some (.inl (IntKind.wrap .i64 (s8+1)))))))):Option ((Int)⊕((Unit)⊕(Int))))) (0:Int)))) (onS fun(_:Unit)=>none)))))))))))):Option (Int)):=by kernel_rfl
theorem M17o2 (a0:List T39) (a1:List T54) (a2 a3:List UInt8):m17o2 a0 a1 a2 a3=((Option.bind (Option.bind (Option.bind (m24 a0) fun r=>some r) fun x1=>(if(x1 != 0)=true then none else(if(decide (400 < (a1.length:Int)))=true then none else(some (.inl ()))))) (onS fun(_:Unit)=>(Option.bind (Option.bind (some (.inl ())) (onS fun(_:Unit)=>(loopO (fun(s1:Int×Nat×(List UInt8→Bool)×(List UInt8→T52))=>((if(decide (s1.1 < (a1.length:Int)))=true then(if(0≤s1.1)then(if(s1.1 < (a1.length:Int))then(Option.bind (Option.bind (m28 (a1.getD s1.1.toNat default)) fun r=>some r) fun x10=>(if(x10.length≤maxLen)then(if(!(s1.2.2.1 x10))=true then(if(x10.length≤maxLen)then(if(s1.2.1 < maxLen)then(some (.inl ((IntKind.wrap .i64 (s1.1+1)),(if s1.2.2.1 x10=true then s1.2.1 else s1.2.1+1),(fun q=>q==x10 || s1.2.2.1 q),(fun q=>if q=x10 then(a1.getD s1.1.toNat default).Pos else s1.2.2.2 q))))else none)else none)else(some (.inl ((IntKind.wrap .i64 (s1.1+1)),s1.2.1,s1.2.2.1,s1.2.2.2))))else none))else none)else none)else(some (.inr (.inl (s1.2.1,s1.2.2.1,s1.2.2.2))))):Option ((Int×Nat×(List UInt8→Bool)×(List UInt8→T52))⊕((Nat×(List UInt8→Bool)×(List UInt8→T52))⊕(Nat×(List UInt8→Bool)×(List UInt8→T52)))))) ((0:Int),0,(fun _=>false),(fun _=>(⟨(0:Int),(0:Int)⟩:T52)))))) (onS fun(y2:Nat×(List UInt8→Bool)×(List UInt8→T52))=>(Option.bind (Option.bind ((some ())) fun(x15:(Unit))=>(some (.inl ()))) (onS fun(_:Unit)=>(Option.bind (Option.bind (some (.inl ())) (onS fun(_:Unit)=>(loopO (fun(s3:(List (List UInt8))×Int)=>((Option.bind (if(decide (s3.2 < (a0.length:Int)))=true then(some (.inl ()))else(some (.inr (.inr (.inl s3.1))))) (onS fun(_:Unit)=>(Option.bind (Option.bind (if(0≤s3.2)then(if(s3.2 < (a0.length:Int))then(some (.inl ()))else none)else none) (onS fun(_:Unit)=>(loopO (fun(s4:(List (List UInt8))×Int)=>((if(decide (s4.2 < ((a0.getD s3.2.toNat default).Points.length:Int)))=true then(if(0≤s4.2)then(if(s4.2 < ((a0.getD s3.2.toNat default).Points.length:Int))then(Option.bind ((if(s4.1.length+1) * 16≤140737488355328 then some ()else none)) fun(x22:(Unit))=>(some (.inl ((s4.1++([((a0.getD s3.2.toNat default).Points.getD s4.2.toNat default).Ref]:List (List UInt8))),(IntKind.wrap .i64 (s4.2+1))))))else none)else none)else(some (.inr (.inl s4.1)))):Option (((List (List UInt8))×Int)⊕(((List (List UInt8)))⊕(((List (List UInt8))×Int)⊕(((List (List UInt8)))⊕(Nat×(List UInt8→Bool)×(List UInt8→T52)))))))) (s3.1,(0:Int))))) (onS fun(y5:(List (List UInt8)))=>(some (.inl (y5,(IntKind.wrap .i64 (s3.2+1))))))))):Option (((List (List UInt8))×Int)⊕(((List (List UInt8)))⊕(Nat×(List UInt8→Bool)×(List UInt8→T52)))))) (([a2,a3]:List (List UInt8)),(0:Int))))) (onS fun(y6:(List (List UInt8)))=>(Option.bind (Option.bind (some (.inl ())) (onS fun(_:Unit)=>(loopO (fun(s7:Int)=>((if(decide (s7 < (y6.length:Int)))=true then(if(0≤s7)then(if(s7 < (y6.length:Int))then(if(s7.toNat < y6.length)then(if((y6.getD s7.toNat default).length≤maxLen)then(if(!(y2.2.1 (y6.getD s7.toNat default)))=true then none else(some (.inl (IntKind.wrap .i64 (s7+1)))))else none)else none)else none)else none)else(some (.inr (.inl ())))):Option ((Int)⊕((Unit)⊕(Nat×(List UInt8→Bool)×(List UInt8→T52)))))) (0:Int)))) (onS fun(_:Unit)=>(Option.bind (Option.bind (some (.inl ())) (onS fun(_:Unit)=>(loopO (fun(s8:Int)=>((Option.bind (if(decide (s8 < (a0.length:Int)))=true then(some (.inl ()))else(some (.inr (.inr (.inl ()))))) (onS fun(_:Unit)=>(Option.bind (Option.bind (if(0≤s8)then(if(s8 < (a0.length:Int))then(some (.inl ()))else none)else none) (onS fun(_:Unit)=>(loopO (fun(s9:Int)=>((if(decide (s9 < ((a0.getD s8.toNat default).Points.length:Int)))=true then(Option.bind ((if 0≤(IntKind.wrap .i64 (s9 - 1))then(if(IntKind.wrap .i64 (s9 - 1)) < ((a0.getD s8.toNat default).Points.length:Int)then(if((a0.getD s8.toNat default).Points.getD (IntKind.wrap .i64 (s9 - 1)).toNat default).Ref.length≤maxLen then(if 0≤s9 then(if s9 < ((a0.getD s8.toNat default).Points.length:Int)then(if((a0.getD s8.toNat default).Points.getD s9.toNat default).Ref.length≤maxLen then((m10 (y2.2.2 ((a0.getD s8.toNat default).Points.getD (IntKind.wrap .i64 (s9 - 1)).toNat default).Ref) (y2.2.2 ((a0.getD s8.toNat default).Points.getD s9.toNat default).Ref)).bind fun r38_0=>some r38_0)else none)else none)else none)else none)else none)else none)) fun(x38:((Int×Int)))=>(if(x38.2 != 0)=true then none else(some (.inl (IntKind.wrap .i64 (s9+1))))))else(some (.inr (.inl ())))):Option ((Int)⊕((Unit)⊕((Int)⊕((Unit)⊕(Nat×(List UInt8→Bool)×(List UInt8→T52)))))))) (1:Int)))) (onS fun(_:Unit)=>(some (.inl (IntKind.wrap .i64 (s8+1)))))))):Option ((Int)⊕((Unit)⊕(Nat×(List UInt8→Bool)×(List UInt8→T52)))))) (0:Int)))) (onS fun(_:Unit)=>(some (y2.1,y2.2.1,y2.2.2)))))))))))))):Option (Nat×(List UInt8→Bool)×(List UInt8→T52))):=by kernel_rfl
theorem M37o1 (a0 a1:List UInt8) (a2:Nat) (a3:(List UInt8→Bool)) (a4:(List UInt8→T52)):m37o1 a0 a1 a2 a3 a4=((Option.bind ((if a0.length≤maxLen then(if a1.length≤maxLen then((m10 (a4 a0) (a4 a1)).bind fun r1_0=>some r1_0)else none)else none)) fun(x1:((Int×Int)))=>(some x1.1)):Option (Int)):=by kernel_rfl
def fx (l:List T54) (i:Nat):T54:=l.getD i default
def refF (f:T54):List UInt8:=(f.Ident++([47]:List UInt8))++f.Region
def okF (l:List T54):Prop:=∀ i,i < l.length→(fx l i).Ident.length≤140737488355328∧(fx l i).Region.length≤140737488355328
theorem refF_len {f:T54} (h:f.Ident.length≤140737488355328∧f.Region.length≤140737488355328):(refF f).length≤maxLen:=by
 have hm:maxLen=9223372036854775807:=rfl
 unfold refF
 simp only[List.length_append,List.length_singleton]
 omega
theorem ref_eq {f:T54} (h:f.Ident.length≤140737488355328∧f.Region.length≤140737488355328):m28 f=some (refF f):=by
 rw[M28,if_pos (by simp only[List.length_singleton];omega),if_pos (by simp only[List.length_append,List.length_singleton];omega)]
 rfl
def atH (l:List T54) (n:Nat) (r:List UInt8):Bool:=anyR (fun i=>refF (fx l i)==r) n
def atF (l:List T54) (n:Nat) (r:List UInt8):T52:=(firstR (fun i=>if(refF (fx l i)==r)=true then some (fx l i).Pos else none) n).getD ⟨0,0⟩
theorem atH_succ {l:List T54} {n:Nat} {r:List UInt8}:atH l (n+1) r=(atH l n r || (refF (fx l n)==r)):=by
 unfold atH anyR
 rw[List.range_succ,List.any_append]
 simp
theorem atF_succ {l:List T54} {n:Nat} {r:List UInt8}:atF l (n+1) r=if atH l n r=true then atF l n r else if(refF (fx l n)==r)=true then(fx l n).Pos else⟨0,0⟩:=by
 unfold atF
 rw[firstR_succ]
 have hs:=firstR_any (F:=fun i=>refF (fx l i)==r) (g:=fun i=>(fx l i).Pos) (n:=n)
 cases h:firstR (fun i=>if(refF (fx l i)==r)=true then some (fx l i).Pos else none) n with
 | some y =>
  rw[h]at hs
  have:atH l n r=true:=hs.symm
  rw[this,if_pos rfl]
 | none =>
  rw[h]at hs
  have:atH l n r=false:=hs.symm
  rw[this]
  simp only[Bool.false_eq_true,if_false]
  split<;>rfl
theorem atF_none {l:List T54} {n:Nat} {r:List UInt8} (h:atH l n r=false):atF l n r=⟨0,0⟩:=by
 have hs:=firstR_any (F:=fun i=>refF (fx l i)==r) (g:=fun i=>(fx l i).Pos) (n:=n)
 unfold atF
 cases h2:firstR (fun i=>if(refF (fx l i)==r)=true then some (fx l i).Pos else none) n with
 | none=>rfl
 | some y =>
  rw[h2]at hs
  have:atH l n r=true:=hs.symm
  rw[this]at h;cases h
theorem find_eq {l:List T54} (hl:okF l) (hn:l.length≤400) {r:List UInt8} (h:atH l l.length r=true):∃ f,m9 l r=some (f,true)∧f.Pos=atF l l.length r:=by
 rw[M9,M26o0]
 have key:=loop_ex (k:=fun _=>some (-1:Int)) (b:=fun(s1:Int)=>((if(decide (s1 < (l.length:Int)))=true then(Option.bind ((if 0≤s1 then(if s1 < (l.length:Int)then((m27o0 (l.getD s1.toNat default) r).bind fun r4_0=>some r4_0)else none)else none)) fun(x4:(Bool))=>(if x4=true then(some (.inr (.inr (s1))))else(some (.inl (IntKind.wrap .i64 (s1+1))))))else(some (.inr (.inl ())))):Option ((Int)⊕((Unit)⊕(Int))))) l.length (fun i=>if(refF (fx l i)==r)=true then some (i:Int)else none) (fun i hi=>by
  have e:m27o0 (l.getD i default) r=some (refF (fx l i)==r):=by
   rw[M27o0]
   have:m28 (l.getD i default)=some (refF (fx l i)):=ref_eq (hl i hi)
   rw[this];rfl
  simp only[exB_ite,exB_some,exB_none]
  simp only[inL hi,decide_true,Int.toNat_natCast,if_true,e,Option.bind_some,wr1 hi (by omega)]) (by simp only[lt_irr,decide_false,Bool.false_eq_true,if_false])
 simp only[Option.bind_some,onS]
 rw[key]
 have e1:orK (firstR (fun i=>if(refF (fx l i)==r)=true then some (i:Int)else none) l.length) (some (-1:Int))=some (findR (fun i=>refF (fx l i)==r) l.length):=orK_getD
 rw[e1]
 simp only[Option.bind_some]
 rcases findR_cases (F:=fun i=>refF (fx l i)==r) (n:=l.length) with⟨h1,h2⟩ | ⟨i,h1,h2,h3,h4⟩
 ·have:=anyR_iff.1 h
  obtain⟨j,hj,hF⟩:=this
  rw[h2 j hj]at hF;cases hF
 ·rw[h2,if_neg (by simp),if_pos (by omega),if_pos (by omega),Int.toNat_natCast]
  refine⟨_,rfl,?_⟩
  unfold atF
  rw[firstR_at h1 (fun j hj=>by simp only[h4 j hj,Bool.false_eq_true,if_false]) (by simp only[h3,if_true]:(if(refF (fx l i)==r)=true then some (fx l i).Pos else none)=some (fx l i).Pos)]
  rfl
abbrev AtS:=Nat×(List UInt8→Bool)×(List UInt8→T52)
def atG (l:List T54) (i:Nat) (s:AtS):AtS:=if(!(s.2.1 (refF (fx l i))))=true then((if s.2.1 (refF (fx l i))=true then s.1 else s.1+1),(fun q=>q==refF (fx l i) || s.2.1 q),(fun q=>if q=refF (fx l i)then(fx l i).Pos else s.2.2 q))else s
def AtI (l:List T54) (i:Nat) (s:AtS):Prop:=s.1≤i∧s.2.1=atH l i∧s.2.2=atF l i
theorem atG_step {l:List T54} {i:Nat} {s:AtS} (h:AtI l i s):AtI l (i+1) (atG l i s):=by
 obtain⟨h1,h2,h3⟩:=h
 unfold atG
 cases hc:s.2.1 (refF (fx l i)) with
 | true =>
  simp only[Bool.not_true,Bool.false_eq_true,if_false]
  rw[h2]at hc
  refine⟨by omega,?_,?_⟩
  ·rw[h2];funext q
   rw[atH_succ]
   by_cases e:refF (fx l i)=q
   ·subst e;rw[hc];rfl
   ·rw[show (refF (fx l i)==q)=false by simpa using e,Bool.or_false]
  ·rw[h3];funext q
   rw[atF_succ]
   by_cases e:refF (fx l i)=q
   ·subst e;rw[if_pos hc]
   ·by_cases hq:atH l i q=true
    ·rw[if_pos hq]
    ·rw[if_neg hq,if_neg (by simpa using e),atF_none (by simpa using hq)]
 | false =>
  simp only[Bool.not_false,if_true,Bool.false_eq_true,if_false]
  rw[h2]at hc
  refine⟨by show s.1+1≤i+1;omega,?_,?_⟩
  ·funext q
   rw[atH_succ,h2,Bool.or_comm]
   have e:(q==refF (fx l i))=(refF (fx l i)==q):=by rw[Bool.eq_iff_iff,beq_iff_eq,beq_iff_eq];exact⟨fun h=>h.symm,fun h=>h.symm⟩
   show (q==refF (fx l i) || atH l i q)=_
   rw[e]
  ·funext q
   show (if q=refF (fx l i)then(fx l i).Pos else s.2.2 q)=_
   rw[atF_succ,h3]
   by_cases e:q=refF (fx l i)
   ·subst e;rw[if_pos rfl,if_neg (by rw[hc];decide),if_pos (by simp)]
   ·rw[if_neg e]
    by_cases hq:atH l i q=true
    ·rw[if_pos hq]
    ·rw[if_neg hq,if_neg (by simpa using fun h=>e h.symm),atF_none (by simpa using hq)]
theorem at_zero (l:List T54):AtI l 0 (0,(fun _=>false),(fun _=>(⟨(0:Int),(0:Int)⟩:T52))):=⟨Nat.le_refl _,rfl,rfl⟩
def refsL (l:List T39):List (List UInt8):=(List.range l.length).flatMap fun k=>(List.range (l.getD k default).Points.length).map fun i=>rf (l.getD k default) i
structure Atl (l:List T39) (fs:List T54) (u v:List UInt8):Prop where
 wf:WfL l
 few:fs.length≤400
 fr:atH fs fs.length u=true
 to:atH fs fs.length v=true
 all:∀ k i,k < l.length→i < (l.getD k default).Points.length→atH fs fs.length (rf (l.getD k default) i)=true
 val:∀ k i,k < l.length→i+1 < (l.getD k default).Points.length→validB (atF fs fs.length (rf (l.getD k default) i))=true∧validB (atF fs fs.length (rf (l.getD k default) (i+1)))=true
end Go.Av.Air
set_option maxRecDepth 100000
namespace Go.Av.Air
noncomputable def distD (p q:T52):Int:=((m10 p q).getD (0,0)).1
noncomputable def distE (p q:T52):Int:=((m10 p q).getD (0,0)).2
theorem dist_eq (p q:T52):m10 p q=some (distD p q,distE p q):=by
 obtain⟨d,e,h,_⟩:=dist_ok p q
 unfold distD distE
 rw[h];rfl
theorem distD_range (p q:T52):0≤distD p q∧distD p q≤64800000:=by
 obtain⟨d,e,h,_,h2⟩:=dist_ok p q
 unfold distD
 rw[h];exact h2
theorem distE_iff (p q:T52):distE p q=0↔(validB p=true∧validB q=true):=by
 obtain⟨d,e,h,h1,_⟩:=dist_ok p q
 unfold distE
 rw[h];exact h1
theorem at_loop {X:Type} {fs:List T54} (hf:okF fs) (h4:fs.length≤400) {b:(Int×AtS)→Option ((Int×AtS)⊕(AtS⊕X))}
  (hb:∀ (i:Nat) (s:AtS),i < fs.length→s.1≤400→b ((i:Int),s)=some (.inl (((i+1:Nat):Int),atG fs i s))) (he:∀ s,b ((fs.length:Int),s)=some (.inr (.inl s))) :
  ∃ s,loopO b ((0:Int),(0,(fun _=>false),(fun _=>(⟨(0:Int),(0:Int)⟩:T52))))=some (.inl s)∧AtI fs fs.length s:=by
 have:=loop_fold (b:=b) fs.length (fun i s=>((i:Int),s)) (atG fs) (fun i s=>AtI fs i s) (fun s=>(Sum.inl s:AtS⊕X)) _ (at_zero fs)
  (fun i s hi hs=>⟨hb i s hi (by have:=hs.1;omega),atG_step hs⟩) (fun s hs=>he s)
 exact⟨_,this⟩
theorem at_round {fs:List T54} (hf:okF fs) (h4:fs.length≤400) {i:Nat} (hi:i < fs.length) (s:AtS) (hs:s.1≤400) {Z:Type} :
  (if(0≤(i:Int))then(if((i:Int) < (fs.length:Int))then(Option.bind (Option.bind (m28 (fs.getD i default)) fun r=>some r) fun x10=>(if(x10.length≤maxLen)then(if(!(s.2.1 x10))=true then(if(x10.length≤maxLen)then(if(s.1 < maxLen)then(some (.inl (((i:Int)+1),(if s.2.1 x10=true then s.1 else s.1+1),(fun q=>q==x10 || s.2.1 q),(fun q=>if q=x10 then(fs.getD i default).Pos else s.2.2 q))))else none)else none)else(some (.inl (((i:Int)+1),s.1,s.2.1,s.2.2))))else none))else none)else none:Option ((Int×AtS)⊕Z))=some (.inl (((i+1:Nat):Int),atG fs i s)):=by
 have hr:m28 (fs.getD i default)=some (refF (fx fs i)):=ref_eq (hf i hi)
 have hl:=refF_len (hf i hi)
 have hm:s.1 < maxLen:=by have:maxLen=9223372036854775807:=rfl;omega
 rw[if_pos (by omega),if_pos (by omega),hr]
 simp only[Option.bind_some,hl,hm,if_true]
 unfold atG
 split<;>rfl
theorem refs_round {a:T39} (W:Wf a) {acc:List (List UInt8)} (hacc:acc.length≤5000) {X:Type} {b:(List (List UInt8)×Int)→Option ((List (List UInt8)×Int)⊕(List (List UInt8)⊕X))}
  (hb:∀ (x:List (List UInt8)) (i:Nat),i < a.Points.length→x.length≤6000→b (x,(i:Int))=some (.inl (x++[rf a i],(i:Int)+1))) (he:∀ x,b (x,(a.Points.length:Int))=some (.inr (.inl x))) :
  loopO b (acc,0)=some (.inl (acc++(List.range a.Points.length).map fun i=>rf a i)):=by
 have h40:=W.few
 have key:∀ k i,i+k=a.Points.length→loopO b (acc++(List.range i).map (fun i=>rf a i),(i:Int))=some (.inl (acc++(List.range a.Points.length).map fun i=>rf a i)):=by
  intro k
  induction k with
  | zero =>
   intro i hk
   obtain rfl:i=a.Points.length:=by omega
   rw[loopO_eq,he];rfl
  | succ k ih =>
   intro i hk
   rw[loopO_eq,hb _ i (by omega) (by simp only[List.length_append,List.length_map,List.length_range];omega)]
   have:=ih (i+1) (by omega)
   rw[List.range_succ,List.map_append,← List.append_assoc]at this
   exact this
 have:=key a.Points.length 0 (by omega)
 simpa using this
def refsK (l:List T39) (k:Nat):List (List UInt8):=(List.range (l.getD k default).Points.length).map fun i=>rf (l.getD k default) i
theorem refsL_eq (l:List T39):refsL l=(List.range l.length).flatMap (refsK l):=rfl
theorem refsK_len {l:List T39} (W:WfL l) {k:Nat} (hk:k < l.length):(refsK l k).length≤40:=by
 unfold refsK
 rw[List.length_map,List.length_range]
 exact(W.all k hk).few
theorem refs_len {l:List T39} (W:WfL l):∀ n,n≤l.length→((List.range n).flatMap (refsK l)).length≤n * 40
 | 0,_=>by simp
 | n+1,h=>by
  have h1:=refs_len W n (by omega)
  have h2:=refsK_len W (k:=n) (by omega)
  rw[flatMap_app,List.length_append,Nat.succ_mul];omega
theorem refs_loop {l:List T39} (W:WfL l) {u v:List UInt8} {X:Type} {b:(List (List UInt8)×Int)→Option ((List (List UInt8)×Int)⊕(List (List UInt8)⊕X))}
  (hb:∀ (x:List (List UInt8)) (k:Nat),k < l.length→x.length≤5000→b (x,(k:Int))=some (.inl (x++refsK l k,(k:Int)+1))) (he:∀ x,b (x,(l.length:Int))=some (.inr (.inl x))) :
  loopO b ([u,v],0)=some (.inl ([u,v]++refsL l)):=by
 have h60:=W.few
 have key:∀ k i,i+k=l.length→loopO b ([u,v]++(List.range i).flatMap (refsK l),(i:Int))=some (.inl ([u,v]++refsL l)):=by
  intro k
  induction k with
  | zero =>
   intro i hk
   obtain rfl:i=l.length:=by omega
   rw[loopO_eq,he];rfl
  | succ k ih =>
   intro i hk
   have hl:=refs_len W i (by omega)
   rw[loopO_eq,hb _ i (by omega) (by simp only[List.length_append,List.length_cons,List.length_nil];omega)]
   have:=ih (i+1) (by omega)
   rw[flatMap_app,← List.append_assoc]at this
   exact this
 have:=key l.length 0 (by omega)
 simpa using this
theorem mem_refs {l:List T39} {r:List UInt8}:r∈refsL l↔∃ k i,k < l.length∧i < (l.getD k default).Points.length∧r=rf (l.getD k default) i:=by
 unfold refsL
 simp only[List.mem_flatMap,List.mem_range,List.mem_map]
 constructor
 ·rintro⟨k,hk,i,hi,rfl⟩;exact⟨k,i,hk,hi,rfl⟩
 ·rintro⟨k,i,hk,hi,rfl⟩;exact⟨k,hk,i,hi,rfl⟩
theorem loop_one {R:Type} {b:Int→Option (Int⊕(Unit⊕R))} (n:Nat) (hn:1≤n) (f:Nat→Option R) (hb:∀ i:Nat,1≤i→i < n→b i=exB (f i) ((i:Int)+1)) (hd:b n=some (.inr (.inl ()))) :
  (∃ i y,1≤i∧i < n∧f i=some y∧loopO b 1=some (.inr y))∨((∀ i,1≤i→i < n→f i=none)∧loopO b 1=some (.inl ())):=by
 have key:∀ k i,1≤i→i+k=n→(∃ j y,i≤j∧j < n∧f j=some y∧loopO b (i:Int)=some (.inr y))∨((∀ j,i≤j→j < n→f j=none)∧loopO b (i:Int)=some (.inl ())):=by
  intro k
  induction k with
  | zero =>
   intro i h1 hk
   obtain rfl:i=n:=by omega
   exact .inr ⟨fun j h1 h2=>by omega,by rw[loopO_eq,hd];rfl⟩
  | succ k ih =>
   intro i h1 hk
   rw[loopO_eq,hb i h1 (by omega)]
   cases hf:f i with
   | some y=>exact .inl ⟨i,y,Nat.le_refl _,by omega,hf,rfl⟩
   | none =>
    rw[exB_none]
    rcases ih (i+1) (by omega) (by omega) with⟨j,y,q1,q2,q3,q4⟩ | ⟨q1,q2⟩
    ·exact .inl ⟨j,y,by omega,q2,q3,q4⟩
    ·exact .inr ⟨fun j j1 j2=>by
      by_cases e:j=i
      ·rw[e];exact hf
      ·exact q1 j (by omega) j2,q2⟩
 rcases key (n - 1) 1 (Nat.le_refl _) (by omega) with⟨j,y,q1,q2,q3,q4⟩ | ⟨q1,q2⟩
 ·exact .inl ⟨j,y,q1,q2,q3,q4⟩
 ·exact .inr ⟨q1,q2⟩
end Go.Av.Air
set_option maxRecDepth 100000
namespace Go.Av.Air
structure OkD (l:List T39) (fs:List T54):Prop where
 a:∀ k,k < l.length→okA (l.getD k default)
 f:okF fs
noncomputable abbrev atB (X:Type) (fs:List T54):Int×AtS→Option ((Int×AtS)⊕(AtS⊕X)):=fun s1=>(if(decide (s1.1 < (fs.length:Int)))=true then(if(0≤s1.1)then(if(s1.1 < (fs.length:Int))then(Option.bind (Option.bind (m28 (fs.getD s1.1.toNat default)) fun r=>some r) fun x10=>(if(x10.length≤maxLen)then(if(!(s1.2.2.1 x10))=true then(if(x10.length≤maxLen)then(if(s1.2.1 < maxLen)then(some (.inl ((IntKind.wrap .i64 (s1.1+1)),(if s1.2.2.1 x10=true then s1.2.1 else s1.2.1+1),(fun q=>q==x10 || s1.2.2.1 q),(fun q=>if q=x10 then(fs.getD s1.1.toNat default).Pos else s1.2.2.2 q))))else none)else none)else(some (.inl ((IntKind.wrap .i64 (s1.1+1)),s1.2.1,s1.2.2.1,s1.2.2.2))))else none))else none)else none)else(some (.inr (.inl (s1.2.1,s1.2.2.1,s1.2.2.2)))))
theorem atB_loop {X:Type} {fs:List T54} (hf:okF fs) (h4:fs.length≤400):∃ s,loopO (atB X fs) ((0:Int),(0,(fun _=>false),(fun _=>(⟨(0:Int),(0:Int)⟩:T52))))=some (.inl s)∧AtI fs fs.length s :=
 at_loop (b:=atB X fs) hf h4 (fun i s hi hs=>by
  simp only[atB,inL hi,decide_true,if_true,Int.toNat_natCast,wr1 hi (show fs.length≤4611686018427387904 by omega)]
  have:=at_round hf h4 hi s hs (Z:=AtS⊕X)
  simp only[inL hi,if_true]at this
  exact this) (fun s=>by simp only[atB,lt_irr,decide_false,Bool.false_eq_true,if_false])
theorem p16 {n:Nat} (h:n≤6000):(n+1) * 16≤140737488355328:=Nat.le_trans (Nat.mul_le_mul_right 16 (show n+1≤6001 by omega)) (by decide)
noncomputable abbrev refI (X:Type) (a:T39):(List (List UInt8)×Int)→Option ((List (List UInt8)×Int)⊕(List (List UInt8)⊕((List (List UInt8)×Int)⊕(List (List UInt8)⊕X)))):=fun s4=>(if(decide (s4.2 < (a.Points.length:Int)))=true then(if(0≤s4.2)then(if(s4.2 < (a.Points.length:Int))then(Option.bind ((if(s4.1.length+1) * 16≤140737488355328 then some ()else none)) fun(x22:(Unit))=>(some (.inl ((s4.1++([(a.Points.getD s4.2.toNat default).Ref]:List (List UInt8))),(IntKind.wrap .i64 (s4.2+1))))))else none)else none)else(some (.inr (.inl s4.1))))
noncomputable abbrev refO (X:Type) (l:List T39):(List (List UInt8)×Int)→Option ((List (List UInt8)×Int)⊕(List (List UInt8)⊕X)):=fun s3=>(Option.bind (if(decide (s3.2 < (l.length:Int)))=true then(some (.inl ()))else(some (.inr (.inr (.inl s3.1))))) (onS fun(_:Unit)=>(Option.bind (Option.bind (if(0≤s3.2)then(if(s3.2 < (l.length:Int))then(some (.inl ()))else none)else none) (onS fun(_:Unit)=>(loopO (refI X (l.getD s3.2.toNat default)) (s3.1,(0:Int))))) (onS fun(y5:(List (List UInt8)))=>(some (.inl (y5,(IntKind.wrap .i64 (s3.2+1)))))))))
theorem refO_loop {X:Type} {l:List T39} (W:WfL l) {u v:List UInt8}:loopO (refO X l) ([u,v],0)=some (.inl ([u,v]++refsL l)):=by
 have h60:=W.few
 refine refs_loop (b:=refO X l) W (fun x k hk hx=>?_) (fun x=>by simp only[refO,lt_irr,decide_false,Bool.false_eq_true,if_false,Option.bind_some,onS])
 have R:=refs_round (W.all k hk) (acc:=x) hx (b:=refI X (l.getD k default)) (fun y i hi hy=>by
  have h40:=(W.all k hk).few
  simp only[refI,inL hi,decide_true,if_true,Int.toNat_natCast,wr1 hi (show (l.getD k default).Points.length≤4611686018427387904 by omega),p16 hy,Option.bind_some]
  rfl) (fun y=>by simp only[refI,lt_irr,decide_false,Bool.false_eq_true,if_false])
 simp only[refO,inL hk,decide_true,if_true,Int.toNat_natCast,Option.bind_some,onS,R,wr1 hk (show l.length≤4611686018427387904 by omega)]
 rfl
theorem pre_round {i:Nat} {n:Nat} (h1:1≤i) (h2:i < n) (hn:n≤40):IntKind.wrap .i64 ((i:Int) - 1)=(i:Int) - 1∧((i:Int) - 1).toNat=i - 1∧(0:Int)≤(i:Int) - 1∧(i:Int) - 1 < (n:Int)∧(0:Int)≤(i:Int)∧(i:Int) < (n:Int)∧IntKind.wrap .i64 ((i:Int)+1)=(i:Int)+1 :=
 ⟨w64 (by omega) (by omega),by omega,by omega,by omega,by omega,by omega,w64 (by omega) (by omega)⟩
theorem mem_getD {α:Type} [Inhabited α] {l:List α} {x:α} (h:x∈l):∃ i,i < l.length∧l.getD i default=x:=by
 obtain⟨i,hi,e⟩:=List.mem_iff_getElem.1 h
 exact⟨i,hi,by rw[List.getD_eq_getElem?_getD,List.getElem?_eq_getElem hi];exact e⟩
abbrev pB (R:Type) (z:Option (Int⊕(Unit⊕R))) (h:List UInt8→Bool) (r:List (List UInt8)):Int→Option (Int⊕(Unit⊕R)):=fun s7=>(if(decide (s7 < (r.length:Int)))=true then(if(0≤s7)then(if(s7 < (r.length:Int))then(if(s7.toNat < r.length)then(if((r.getD s7.toNat default).length≤maxLen)then(if(!(h (r.getD s7.toNat default)))=true then z else(some (.inl (IntKind.wrap .i64 (s7+1)))))else none)else none)else none)else none)else(some (.inr (.inl ()))))
theorem pB_at {R:Type} {z:Option (Int⊕(Unit⊕R))} {h:List UInt8→Bool} {r:List (List UInt8)} (hl:r.length≤6000) (hm:∀ j,j < r.length→(r.getD j default).length≤maxLen) {i:Nat} (hi:i < r.length):pB R z h r (i:Int)=if(!(h (r.getD i default)))=true then z else some (.inl ((i:Int)+1)):=by
 simp only[pB,inL hi,decide_true,if_true,Int.toNat_natCast,hi,hm i hi,wr1 hi (show r.length≤4611686018427387904 by omega)]
theorem pB_end {R:Type} {z:Option (Int⊕(Unit⊕R))} {h:List UInt8→Bool} {r:List (List UInt8)}:pB R z h r (r.length:Int)=some (.inr (.inl ())):=by
 simp only[pB,lt_irr,decide_false,Bool.false_eq_true,if_false]
theorem pB_pass {R:Type} {z:Option (Int⊕(Unit⊕R))} {h:List UInt8→Bool} {r:List (List UInt8)} (hl:r.length≤6000) (hm:∀ j,j < r.length→(r.getD j default).length≤maxLen) (ha:∀ j,j < r.length→h (r.getD j default)=true):loopO (pB R z h r) 0=some (.inl ()):=by
 have:=loop_ex0 (b:=pB R z h r) r.length (fun _=>none) (fun i hi=>by rw[pB_at hl hm hi,ha i hi];rfl) pB_end
 rw[this,firstR_none.2 fun _ _=>rfl]
theorem pB_err {h:List UInt8→Bool} {r:List (List UInt8)} (hl:r.length≤6000) (hm:∀ j,j < r.length→(r.getD j default).length≤maxLen) (ha:¬ ∀ j,j < r.length→h (r.getD j default)=true):loopO (pB Int (some (.inr (.inr 6))) h r) 0=some (.inr 6):=by
 have:=loop_ex0 (b:=pB Int (some (.inr (.inr 6))) h r) r.length (fun i=>if(!(h (r.getD i default)))=true then some 6 else none) (fun i hi=>by rw[pB_at hl hm hi,exB_ite,exB_some,exB_none]) pB_end
 rw[this]
 have hx:anyR (fun i=>!(h (r.getD i default))) r.length=true:=by
  cases hc:anyR (fun i=>!(h (r.getD i default))) r.length with
  | true=>rfl
  | false=>exact absurd (fun j hj=>by have:=anyR_false.1 hc j hj;simpa using this) ha
 rw[firstR_const (y:=(6:Int)),hx]
 rfl
noncomputable abbrev vI (X:Type) (z:Int→Option (Int⊕(Unit⊕X))) (F:List UInt8→T52) (a:T39):Int→Option (Int⊕(Unit⊕X)):=fun s9=>(if(decide (s9 < (a.Points.length:Int)))=true then(Option.bind ((if 0≤(IntKind.wrap .i64 (s9 - 1))then(if(IntKind.wrap .i64 (s9 - 1)) < (a.Points.length:Int)then(if(a.Points.getD (IntKind.wrap .i64 (s9 - 1)).toNat default).Ref.length≤maxLen then(if 0≤s9 then(if s9 < (a.Points.length:Int)then(if(a.Points.getD s9.toNat default).Ref.length≤maxLen then((m10 (F (a.Points.getD (IntKind.wrap .i64 (s9 - 1)).toNat default).Ref) (F (a.Points.getD s9.toNat default).Ref)).bind fun r38_0=>some r38_0)else none)else none)else none)else none)else none)else none)) fun(x38:((Int×Int)))=>(if(x38.2 != 0)=true then z x38.2 else(some (.inl (IntKind.wrap .i64 (s9+1))))))else(some (.inr (.inl ()))))
theorem vI_at {X:Type} {z:Int→Option (Int⊕(Unit⊕X))} {F:List UInt8→T52} {a:T39} (ha:okA a) (W:Wf a) {i:Nat} (h1:1≤i) (hi:i < a.Points.length):vI X z F a (i:Int)=if(distE (F (rf a (i - 1))) (F (rf a i)) != 0)=true then z (distE (F (rf a (i - 1))) (F (rf a i)))else some (.inl ((i:Int)+1)):=by
 obtain⟨e1,e2,e3,e4,e5,e6,e7⟩:=pre_round h1 hi W.few
 have l1:(a.Points.getD (i - 1) default).Ref.length≤maxLen:=ha (i - 1) (by omega)
 have l2:(a.Points.getD i default).Ref.length≤maxLen:=ha i hi
 simp only[vI,inL hi,decide_true,if_true,Int.toNat_natCast,e1,e2,e3,e4,e7,l1,l2,dist_eq,Option.bind_some]
 rfl
theorem vI_end {X:Type} {z:Int→Option (Int⊕(Unit⊕X))} {F:List UInt8→T52} {a:T39}:vI X z F a (a.Points.length:Int)=some (.inr (.inl ())):=by
 simp only[vI,lt_irr,decide_false,Bool.false_eq_true,if_false]
def gdA (F:List UInt8→T52) (a:T39):Prop:=∀ i,1≤i→i < a.Points.length→distE (F (rf a (i - 1))) (F (rf a i))=0
theorem vI_pass {X:Type} {z:Int→Option (Int⊕(Unit⊕X))} {F:List UInt8→T52} {a:T39} (ha:okA a) (W:Wf a) (g:gdA F a):loopO (vI X z F a) 1=some (.inl ()):=by
 rcases loop_one (b:=vI X z F a) a.Points.length (by have:=W.two;omega) (fun _=>none) (fun i h1 hi=>by rw[vI_at ha W h1 hi,g i h1 hi];rfl) vI_end with⟨i,y,_,_,h,_⟩ | ⟨_,h⟩
 ·cases h
 ·exact h
theorem vI_err {X:Type} {w:Int→X} {F:List UInt8→T52} {a:T39} (ha:okA a) (W:Wf a) (g:¬ gdA F a):∃ e,e≠0∧loopO (vI X (fun e=>some (.inr (.inr (w e)))) F a) 1=some (.inr (w e)):=by
 rcases loop_one (b:=vI X (fun e=>some (.inr (.inr (w e)))) F a) a.Points.length (by have:=W.two;omega) (fun i=>if(distE (F (rf a (i - 1))) (F (rf a i)) != 0)=true then some (w (distE (F (rf a (i - 1))) (F (rf a i))))else none) (fun i h1 hi=>by rw[vI_at ha W h1 hi,exB_ite,exB_some,exB_none]) vI_end with⟨i,y,_,_,h,k⟩ | ⟨h,_⟩
 ·split at h
  ·rename_i hne
   injection h with h
   rw[← h]at k
   exact⟨_,by simpa using hne,k⟩
  ·cases h
 ·refine absurd (fun i h1 hi=>?_) g
  have:=h i h1 hi
  split at this
  ·cases this
  ·rename_i hh;simpa using hh
theorem loop_try {R:Type} {b:Int→Option (Int⊕(Unit⊕R))} (n:Nat) (P:R→Prop) (hb:∀ i:Nat,i < n→b i=some (.inl ((i:Int)+1))∨∃ y,P y∧b i=some (.inr (.inr y))) (hd:b n=some (.inr (.inl ()))):(loopO b 0=some (.inl ())∧∀ i:Nat,i < n→b i=some (.inl ((i:Int)+1)))∨∃ y,P y∧loopO b 0=some (.inr y):=by
 have key:∀ k i,i+k=n→(loopO b (i:Int)=some (.inl ())∧∀ j:Nat,i≤j→j < n→b j=some (.inl ((j:Int)+1)))∨∃ y,P y∧loopO b (i:Int)=some (.inr y):=by
  intro k
  induction k with
  | zero =>
   intro i hk
   obtain rfl:i=n:=by omega
   exact .inl ⟨by rw[loopO_eq,hd];rfl,fun j h1 h2=>by omega⟩
  | succ k ih =>
   intro i hk
   rcases hb i (by omega) with h | ⟨y,h1,h2⟩
   ·rcases ih (i+1) (by omega) with⟨q1,q2⟩ | ⟨y,q1,q2⟩
    ·refine .inl ⟨by rw[loopO_eq,h];exact q1,fun j h1 h2=>?_⟩
     by_cases e:j=i
     ·rw[e];exact h
     ·exact q2 j (by omega) h2
    ·exact .inr ⟨y,q1,by rw[loopO_eq,h];exact q2⟩
   ·exact .inr ⟨y,h1,by rw[loopO_eq,h2];rfl⟩
 rcases key n 0 (by omega) with⟨q1,q2⟩ | h
 ·exact .inl ⟨q1,fun i hi=>q2 i (Nat.zero_le _) hi⟩
 ·exact .inr h
noncomputable abbrev vO (R:Type) (z:Int→Option (Int⊕(Unit⊕(Int⊕(Unit⊕R))))) (F:List UInt8→T52) (l:List T39):Int→Option (Int⊕(Unit⊕R)):=fun s8=>(Option.bind (if(decide (s8 < (l.length:Int)))=true then(some (.inl ()))else(some (.inr (.inr (.inl ()))))) (onS fun(_:Unit)=>(Option.bind (Option.bind (if(0≤s8)then(if(s8 < (l.length:Int))then(some (.inl ()))else none)else none) (onS fun(_:Unit)=>(loopO (vI (Int⊕(Unit⊕R)) z F (l.getD s8.toNat default)) (1:Int)))) (onS fun(_:Unit)=>(some (.inl (IntKind.wrap .i64 (s8+1))))))))
def gdL (F:List UInt8→T52) (l:List T39):Prop:=∀ k,k < l.length→gdA F (l.getD k default)
theorem vO_end {R:Type} {z:Int→Option (Int⊕(Unit⊕(Int⊕(Unit⊕R))))} {F:List UInt8→T52} {l:List T39}:vO R z F l (l.length:Int)=some (.inr (.inl ())):=by
 simp only[vO,lt_irr,decide_false,Bool.false_eq_true,if_false,Option.bind_some,onS]
theorem vO_pass {R:Type} {z:Int→Option (Int⊕(Unit⊕(Int⊕(Unit⊕R))))} {F:List UInt8→T52} {l:List T39} (W:WfL l) (ha:∀ k,k < l.length→okA (l.getD k default)) (g:gdL F l):loopO (vO R z F l) 0=some (.inl ()):=by
 have h60:=W.few
 have:=loop_ex0 (b:=vO R z F l) l.length (fun _=>none) (fun k hk=>by
  have:=vI_pass (X:=Int⊕(Unit⊕R)) (z:=z) (ha k hk) (W.all k hk) (g k hk)
  simp only[vO,inL hk,decide_true,if_true,Int.toNat_natCast,Option.bind_some,onS,this,wr1 hk (show l.length≤4611686018427387904 by omega),exB_none]) vO_end
 rw[this,firstR_none.2 fun _ _=>rfl]
theorem vO_err {F:List UInt8→T52} {l:List T39} (W:WfL l) (ha:∀ k,k < l.length→okA (l.getD k default)) (g:¬ gdL F l):∃ e:Int,e≠0∧loopO (vO Int (fun e=>some (.inr (.inr (.inr (.inr e))))) F l) 0=some (.inr e):=by
 have h60:=W.few
 have rd:∀ k,k < l.length→(gdA F (l.getD k default)∧vO Int (fun e=>some (.inr (.inr (.inr (.inr e))))) F l (k:Int)=some (.inl ((k:Int)+1)))∨(¬ gdA F (l.getD k default)∧∃ e:Int,e≠0∧vO Int (fun e=>some (.inr (.inr (.inr (.inr e))))) F l (k:Int)=some (.inr (.inr e))):=fun k hk=>by
  by_cases gk:gdA F (l.getD k default)
  ·refine .inl ⟨gk,?_⟩
   have:=vI_pass (X:=Int⊕(Unit⊕Int)) (z:=fun e=>some (.inr (.inr (.inr (.inr e))))) (ha k hk) (W.all k hk) gk
   simp only[vO,inL hk,decide_true,if_true,Int.toNat_natCast,Option.bind_some,onS,this,wr1 hk (show l.length≤4611686018427387904 by omega)]
  ·refine .inr ⟨gk,?_⟩
   obtain⟨e,he,h⟩:=vI_err (X:=Int⊕(Unit⊕Int)) (w:=fun e=>.inr (.inr e)) (ha k hk) (W.all k hk) gk
   refine⟨e,he,?_⟩
   simp only[vO,inL hk,decide_true,if_true,Int.toNat_natCast,Option.bind_some,onS,h]
 rcases loop_try (b:=vO Int (fun e=>some (.inr (.inr (.inr (.inr e))))) F l) l.length (fun e=>e≠0) (fun k hk=>(rd k hk).elim (fun h=>.inl h.2) (fun h=>.inr h.2)) vO_end with⟨_,h⟩ | h
 ·refine absurd (fun k hk=>?_) g
  rcases rd k hk with⟨q,_⟩ | ⟨_,e,_,q⟩
  ·exact q
  ·rw[h k hk]at q;injection q with q;cases q
 ·exact h
theorem open_cases {l:List T39} {fs:List T54} (H:OkD l fs) {u v:List UInt8} (hu:u.length≤maxLen) (hv:v.length≤maxLen) :
  (∃ e,m17o1 l fs u v=some e∧e≠0)∨(m17o1 l fs u v=none∧Atl l fs u v∧∃ n,m17o2 l fs u v=some (n,atH fs fs.length,atF fs fs.length)):=by
 obtain⟨c,hc,cW⟩:=check_ok H.a
 rw[M17o1,M17o2,hc]
 simp only[Option.bind_some]
 by_cases c0:c=0
 case neg =>
  left
  rw[if_pos (by simpa using c0)]
  exact⟨c,rfl,c0⟩
 have W:=cW c0
 have h60:=W.few
 have cn:¬ ((c != 0)=true):=by simpa using c0
 rw[if_neg cn,if_neg cn]
 by_cases h4:fs.length≤400
 case neg =>
  left
  rw[if_pos (decide_eq_true (by omega))]
  exact⟨3,rfl,by decide⟩
 have hn4:¬ (decide ((400:Int) < (fs.length:Int))=true):=by simp;omega
 rw[if_neg hn4,if_neg hn4]
 simp only[Option.bind_some,onS]
 -- the atlas
 have A1:=atB_loop (X:=Int) H.f h4
 have A2:=atB_loop (X:=AtS) H.f h4
 obtain⟨s1,L1,I1⟩:=A1
 obtain⟨s2,L2,I2⟩:=A2
 rw[L1,L2]
 simp only[Option.bind_some,onS]
 rw[refO_loop (X:=Int) W,refO_loop (X:=AtS) W]
 simp only[Option.bind_some,onS]
 obtain⟨n1,h1,F1⟩:=s1
 obtain⟨n2,h2,F2⟩:=s2
 obtain⟨_,e1,e2⟩:=I1
 obtain⟨_,e3,e4⟩:=I2
 simp only at e1 e2 e3 e4
 subst e1;subst e2;subst e3;subst e4
 have rl:([u,v]++refsL l).length≤6000:=by
  have:=refs_len W l.length (Nat.le_refl _)
  rw[refsL_eq]
  simp only[List.length_append,List.length_cons,List.length_nil]
  omega
 have rm:∀ j,j < ([u,v]++refsL l).length→(([u,v]++refsL l).getD j default).length≤maxLen:=fun j hj=>by
  have hm:=getD_mem (l:=[u,v]++refsL l) hj
  rcases List.mem_append.1 hm with hm | hm
  ·simp only[List.mem_cons,List.not_mem_nil,or_false]at hm
   rcases hm with h | h
   ·rw[h];exact hu
   ·rw[h];exact hv
  ·obtain⟨k,i,hk,hi,h⟩:=mem_refs.1 hm
   rw[h];exact H.a k hk i hi
 by_cases hall:∀ j,j < ([u,v]++refsL l).length→atH fs fs.length (([u,v]++refsL l).getD j default)=true
 case neg =>
  left
  have:=pB_err (h:=atH fs fs.length) rl rm hall
  rw[this]
  exact⟨6,rfl,by decide⟩
 rw[pB_pass (R:=Int) (z:=some (.inr (.inr 6))) rl rm hall,pB_pass (R:=AtS) (z:=none) rl rm hall]
 simp only[Option.bind_some,onS]
 by_cases hg:gdL (atF fs fs.length) l
 case neg =>
  left
  obtain⟨e,he,h⟩:=vO_err W H.a hg
  rw[h]
  exact⟨e,rfl,he⟩
 right
 rw[vO_pass (R:=Int) (z:=fun e=>some (.inr (.inr (.inr (.inr e))))) W H.a hg,vO_pass (R:=AtS) (z:=fun _=>none) W H.a hg]
 refine⟨rfl,⟨W,h4,?_,?_,?_,?_⟩,n2,rfl⟩
 ·exact hall 0 (by simp)
 ·exact hall 1 (by simp)
 ·intro k i hk hi
  obtain⟨j,hj,h⟩:=mem_getD (List.mem_append_right [u,v] (mem_refs.2 ⟨k,i,hk,hi,rfl⟩))
  have:=hall j hj
  rw[h]at this;exact this
 ·intro k i hk hi
  have:=hg k hk (i+1) (by omega) hi
  rw[Nat.add_sub_cancel]at this
  exact(distE_iff _ _).1 this
end Go.Av.Air
set_option maxRecDepth 100000
namespace Go.Av.Air
theorem M46 (a0 a1:T69):m46 a0 a1=((some ((decide (a0.Length < a1.Length)) || ((a0.Length==a1.Length)&&(decide (a0.Hops < a1.Hops))))):Option (Bool)):=by kernel_rfl
theorem less_eq:∀ (x y:List UInt8),Op.bytesLess x y=decide (x < y)
 | [],[]=>by simp[Op.bytesLess]
 | _ :: _,[]=>by simp[Op.bytesLess]
 | [],_ :: _=>by simp[Op.bytesLess]
 | a :: x,b :: y=>by
  rw[Bool.eq_iff_iff,decide_eq_true_eq,List.cons_lt_cons_iff]
  simp only[Op.bytesLess,less_eq x y,Bool.or_eq_true,Bool.and_eq_true,decide_eq_true_eq,beq_iff_eq]
theorem str_tri (a b:List UInt8):a < b∨a=b∨b < a:=by
 by_cases h1:a < b
 ·exact .inl h1
 ·by_cases h2:b < a
  ·exact .inr (.inr h2)
  ·exact .inr (.inl (List.le_antisymm (List.not_lt.1 h2) (List.not_lt.1 h1)))
def ltP (a b:T69):Prop:=a.Length < b.Length∨(a.Length=b.Length∧(a.Hops < b.Hops∨(a.Hops=b.Hops∧a.Ref < b.Ref)))
theorem ltP_irr (a:T69):¬ ltP a a:=by
 rintro(h | ⟨_,h | ⟨_,h⟩⟩)
 ·omega
 ·omega
 ·exact List.lt_irrefl _ h
theorem ltP_trans {a b c:T69} (h:ltP a b) (k:ltP b c):ltP a c:=by
 unfold ltP at *
 rcases h with h | ⟨h1,h2 | ⟨h2,h3⟩⟩<;>rcases k with k | ⟨k1,k2 | ⟨k2,k3⟩⟩
 ·exact .inl (by omega)
 ·exact .inl (by omega)
 ·exact .inl (by omega)
 ·exact .inl (by omega)
 ·exact .inr ⟨by omega,.inl (by omega)⟩
 ·exact .inr ⟨by omega,.inl (by omega)⟩
 ·exact .inl (by omega)
 ·exact .inr ⟨by omega,.inl (by omega)⟩
 ·exact .inr ⟨by omega,.inr ⟨by omega,List.lt_trans h3 k3⟩⟩
theorem ltP_tri {a b:T69} (h:¬ ltP a b) (k:¬ ltP b a):a.Ref=b.Ref:=by
 unfold ltP at h k
 rcases str_tri a.Ref b.Ref with e | e | e
 ·exfalso
  by_cases h1:a.Length=b.Length
  ·by_cases h2:a.Hops=b.Hops
   ·exact h (.inr ⟨h1,.inr ⟨h2,e⟩⟩)
   ·by_cases h3:a.Hops < b.Hops
    ·exact h (.inr ⟨h1,.inl h3⟩)
    ·exact k (.inr ⟨h1.symm,.inl (by omega)⟩)
  ·by_cases h3:a.Length < b.Length
   ·exact h (.inl h3)
   ·exact k (.inl (by omega))
 ·exact e
 ·exfalso
  by_cases h1:a.Length=b.Length
  ·by_cases h2:a.Hops=b.Hops
   ·exact k (.inr ⟨h1.symm,.inr ⟨h2.symm,e⟩⟩)
   ·by_cases h3:a.Hops < b.Hops
    ·exact h (.inr ⟨h1,.inl h3⟩)
    ·exact k (.inr ⟨h1.symm,.inl (by omega)⟩)
  ·by_cases h3:a.Length < b.Length
   ·exact h (.inl h3)
   ·exact k (.inl (by omega))
abbrev Best:=Bool×(List UInt8)×Int×Int
def lab (s:Best):T69:=⟨s.2.1,s.2.2.1,s.2.2.2⟩
def unl (x:T69):Best:=(false,x.Ref,x.Length,x.Hops)
noncomputable abbrev lsB (F:List UInt8→T69):List UInt8→Best→Option Best:=fun(k2:List UInt8) (s2:Bool×(List UInt8)×Int×Int)=>Option.bind ((Option.bind (some (.inl ())) (onS fun(_:Unit)=>(Option.bind (((if(!s2.1)=true then m46 (F k2) (⟨s2.2.1,s2.2.2.1,s2.2.2.2⟩:T69)else some default).bind fun r9_0=>some r9_0)) fun(x9:(Bool))=>(if((s2.1 || x9) || ((((F k2).Length==s2.2.2.1)&&((F k2).Hops==s2.2.2.2))&&(Op.bytesLess (F k2).Ref s2.2.1)))=true then(some (.inl (false,(F k2).Ref,(F k2).Length,(F k2).Hops)))else(some (.inl (s2.1,s2.2.1,s2.2.2.1,s2.2.2.2))))))):Option ((Bool×(List UInt8)×Int×Int)⊕Empty)) onN
open Classical in
theorem lsB_eq (F:List UInt8→T69) (k:List UInt8) (s:Best):lsB F k s=some (if s.1=true∨ltP (F k) (lab s)then unl (F k)else s):=by
 obtain⟨f,r,n,h⟩:=s
 simp only[lsB,M46,less_eq]
 cases f with
 | true=>simp[onS,onN,unl]
 | false =>
  simp only[Bool.not_false,if_true,Option.bind_some,onS,Bool.false_or]
  have e:(((decide ((F k).Length < n) || (((F k).Length==n)&&(decide ((F k).Hops < h)))) || ((((F k).Length==n)&&((F k).Hops==h))&&decide ((F k).Ref < r)))=true)=ltP (F k) (lab (false,r,n,h)):=by
   unfold ltP lab
   simp only[Bool.or_eq_true,Bool.and_eq_true,decide_eq_true_eq,beq_iff_eq,eq_iff_iff]
   constructor
   ·rintro((q | ⟨q1,q2⟩) | ⟨⟨q1,q2⟩,q3⟩)
    ·exact .inl q
    ·exact .inr ⟨q1,.inl q2⟩
    ·exact .inr ⟨q1,.inr ⟨q2,q3⟩⟩
   ·rintro(q | ⟨q1,q2 | ⟨q2,q3⟩⟩)
    ·exact .inl (.inl q)
    ·exact .inl (.inr ⟨q1,q2⟩)
    ·exact .inr ⟨⟨q1,q2⟩,q3⟩
  by_cases hl:ltP (F k) (lab (false,r,n,h))
  ·rw[if_pos (e.symm ▸ hl),if_pos (.inr hl)];rfl
  ·rw[if_neg (fun q=>hl (e ▸ q)),if_neg (by rintro(q | q);cases q;exact hl q)];rfl
theorem ltP_co {a c:T69} (b:T69) (h:ltP a c):ltP a b∨ltP b c:=by
 by_cases h1:ltP a b
 ·exact .inl h1
 ·by_cases h2:ltP b a
  ·exact .inr (ltP_trans h2 h)
  ·right
   have hr:=ltP_tri h1 h2
   have hl:a.Length=b.Length:=by
    by_cases e:a.Length=b.Length
    ·exact e
    ·by_cases g:a.Length < b.Length
     ·exact absurd (.inl g) h1
     ·exact absurd (.inl (show b.Length < a.Length by omega)) h2
   have hh:a.Hops=b.Hops:=by
    by_cases e:a.Hops=b.Hops
    ·exact e
    ·by_cases g:a.Hops < b.Hops
     ·exact absurd (.inr ⟨hl,.inl g⟩) h1
     ·exact absurd (.inr ⟨hl.symm,.inl (show b.Hops < a.Hops by omega)⟩) h2
   unfold ltP at h ⊢
   rw[← hr,← hl,← hh];exact h
theorem least_from (F:List UInt8→T69):∀ (l:List (List UInt8)) (x:T69),∃ y,l.foldlM (fun s k=>lsB F k s) (unl x)=some (unl y)∧(y=x∨∃ k∈l,y=F k)∧¬ ltP x y∧∀ k∈l,¬ ltP (F k) y
 | [],x=>⟨x,rfl,.inl rfl,ltP_irr x,fun k hk=>by cases hk⟩
 | k :: l,x=>by
  rw[List.foldlM_cons,lsB_eq]
  have hx:lab (unl x)=x:=rfl
  by_cases h:ltP (F k) x
  ·rw[if_pos (.inr (by rw[hx];exact h))]
   obtain⟨y,h1,h2,h3,h4⟩:=least_from F l (F k)
   refine⟨y,h1,.inr ?_,fun g=>h3 (ltP_trans h g),fun j hj=>?_⟩
   ·rcases h2 with h2 | ⟨j,hj,h2⟩
    ·exact⟨k,by simp,h2⟩
    ·exact⟨j,by simp[hj],h2⟩
   ·rcases List.mem_cons.1 hj with rfl | hj
    ·exact h3
    ·exact h4 j hj
  ·rw[if_neg (by rintro(q | q);cases q;exact h q)]
   obtain⟨y,h1,h2,h3,h4⟩:=least_from F l x
   refine⟨y,h1,?_,h3,fun j hj=>?_⟩
   ·rcases h2 with h2 | ⟨j,hj,h2⟩
    ·exact .inl h2
    ·exact .inr ⟨j,by simp[hj],h2⟩
   ·rcases List.mem_cons.1 hj with rfl | hj
    ·intro g
     rcases ltP_co x g with q | q
     ·exact h q
     ·exact h3 q
    ·exact h4 j hj
theorem least_range {n:Nat} {h:List UInt8→Bool} {F:List UInt8→T69} {l:List (List UInt8)} (hl:EnumL n h l) (hn:0 < n) (hF:∀ k∈l,(F k).Ref=k) (s0:Best) (h0:s0.1=true) :
  ∃ m,m∈l∧rangeM n h (lsB F) s0=some (unl (F m))∧∀ k∈l,¬ ltP (F k) (F m):=by
 have one:∀ l',EnumL n h l'→∃ m,m∈l'∧l'.foldlM (fun s k=>lsB F k s) s0=some (unl (F m))∧∀ k∈l',¬ ltP (F k) (F m):=fun l' hl'=>by
  cases l' with
  | nil=>have:=hl'.2.1;simp at this;omega
  | cons k t =>
   rw[List.foldlM_cons,lsB_eq,if_pos (.inl h0)]
   obtain⟨y,h1,h2,h3,h4⟩:=least_from F t (F k)
   rcases h2 with rfl | ⟨j,hj,rfl⟩
   ·exact⟨k,by simp,h1,fun j hj=>by
     rcases List.mem_cons.1 hj with rfl | hj
     ·exact h3
     ·exact h4 j hj⟩
   ·exact⟨j,by simp[hj],h1,fun i hi=>by
     rcases List.mem_cons.1 hi with rfl | hi
     ·exact h3
     ·exact h4 i hi⟩
 obtain⟨m,hm,h1,h2⟩:=one l hl
 refine⟨m,hm,rangeM_of hl fun l' hl'=>?_,h2⟩
 obtain⟨m',hm',h1',h2'⟩:=one l' hl'
 have a1:m'∈l:=(hl.2.2 m').2 ((hl'.2.2 m').1 hm')
 have a2:m∈l':=(hl'.2.2 m).2 ((hl.2.2 m).1 hm)
 have:=ltP_tri (h2' m a2) (h2 m' a1)
 rw[hF m hm,hF m' a1]at this
 rw[h1',this]
end Go.Av.Air
set_option maxRecDepth 100000
namespace Go.Av.Air
theorem enum_has {n:Nat} {h:List UInt8→Bool} {l:List (List UInt8)} (H:EnumL n h l) {s:List UInt8} (hs:s.length≤maxLen):h s=true↔s∈l:=⟨fun g=>(H.2.2 s).2 ⟨hs,g⟩,fun g=>((H.2.2 s).1 g).2⟩
theorem enum_nil:EnumL 0 (fun _=>false) []:=⟨List.nodup_nil,rfl,fun s=>by simp⟩
theorem enum_new {n:Nat} {h:List UInt8→Bool} {l:List (List UInt8)} (H:EnumL n h l) {s:List UInt8} (hs:s.length≤maxLen) (hn:s ∉ l):EnumL (if h s=true then n else n+1) (fun q=>q==s || h q) (s :: l):=by
 have e:h s=false:=by
  cases hh:h s with
  | false=>rfl
  | true=>exact absurd ((enum_has H hs).1 hh) hn
 rw[e]
 refine⟨List.nodup_cons.2 ⟨hn,H.1⟩,by simp[H.2.1],fun q=>?_⟩
 simp only[List.mem_cons,Bool.or_eq_true,beq_iff_eq]
 constructor
 ·rintro(rfl | g)
  ·exact⟨hs,.inl rfl⟩
  ·exact⟨((H.2.2 q).1 g).1,.inr ((H.2.2 q).1 g).2⟩
 ·rintro⟨g1,g2 | g2⟩
  ·exact .inl g2
  ·exact .inr ((H.2.2 q).2 ⟨g1,g2⟩)
theorem enum_old {n:Nat} {h:List UInt8→Bool} {l:List (List UInt8)} (H:EnumL n h l) {s:List UInt8} (hs:s∈l):EnumL (if h s=true then n else n+1) (fun q=>q==s || h q) l:=by
 have hh:=((H.2.2 s).1 hs).2
 rw[if_pos hh]
 refine⟨H.1,H.2.1,fun q=>?_⟩
 simp only[Bool.or_eq_true,beq_iff_eq]
 constructor
 ·exact fun g=>⟨((H.2.2 q).1 g).1,.inr ((H.2.2 q).1 g).2⟩
 ·rintro⟨g1,rfl | g2⟩
  ·exact hs
  ·exact(H.2.2 q).2 ⟨g1,g2⟩
theorem enum_del {n:Nat} {h:List UInt8→Bool} {l:List (List UInt8)} (H:EnumL n h l) {s:List UInt8} (hs:s∈l):EnumL (if h s=true then n - 1 else n) (fun q=>!(q==s)&&h q) (l.erase s):=by
 have hh:=((H.2.2 s).1 hs).2
 rw[if_pos hh]
 refine⟨H.1.erase s,by rw[List.length_erase_of_mem hs,H.2.1],fun q=>?_⟩
 rw[H.1.mem_erase_iff]
 simp only[Bool.and_eq_true,Bool.not_eq_true',beq_eq_false_iff_ne]
 constructor
 ·rintro⟨g1,g2⟩
  exact⟨((H.2.2 q).1 g2).1,g1,((H.2.2 q).1 g2).2⟩
 ·rintro⟨g1,g2,g3⟩
  exact⟨g2,(H.2.2 q).2 ⟨g1,g3⟩⟩
noncomputable def lenP (P:List UInt8→T52) (u v:List UInt8):Int:=distD (P u) (P v)
theorem lenP_range (P:List UInt8→T52) (u v:List UInt8):0≤lenP P u v∧lenP P u v≤64800000:=distD_range _ _
def le2 (x:T69) (n h:Int):Prop:=x.Length < n∨(x.Length=n∧x.Hops≤h)
def tgt (l:List T39) (u:List UInt8) (i:Nat):List UInt8:=((hopsL l u).getD i default).To
structure Inv (l:List T39) (P:List UInt8→T52) (fr:List UInt8) (X:List UInt8→Nat→Prop) (D O:List (List UInt8)) (dF oF:List UInt8→T69):Prop where
 dis:∀ k∈D,k ∉ O
 key:∀ k,k∈D∨k∈O→k=fr∨k∈refsL l
 dgood:∀ k∈D,(dF k).Ref=k∧0≤(dF k).Hops∧(dF k).Hops < D.length∧0≤(dF k).Length∧(dF k).Length≤(dF k).Hops * 64800000
 ogood:∀ k∈O,(oF k).Ref=k∧0≤(oF k).Hops∧(oF k).Hops≤D.length∧0≤(oF k).Length∧(oF k).Length≤(oF k).Hops * 64800000
 mono:∀ d∈D,∀ o∈O,¬ ltP (oF o) (dF d)
 fe:∀ u∈D,∀ i,i < (hopsL l u).length→X u i→(tgt l u i∈D∧le2 (dF (tgt l u i)) ((dF u).Length+lenP P u (tgt l u i)) ((dF u).Hops+1))∨(tgt l u i∈O∧le2 (oF (tgt l u i)) ((dF u).Length+lenP P u (tgt l u i)) ((dF u).Hops+1))
 tight:∀ k x,((k∈D∧x=dF k)∨(k∈O∧x=oF k))→(k=fr∧x.Length=0∧x.Hops=0)∨∃ u,u∈D∧(∃ h,h∈hopsL l u∧h.To=k)∧x.Length=(dF u).Length+lenP P u k∧x.Hops=(dF u).Hops+1
 start:(D=[]∧O=[fr]∧oF fr=⟨fr,0,0⟩)∨(fr∈D∧dF fr=⟨fr,0,0⟩)
end Go.Av.Air
set_option maxRecDepth 100000
namespace Go.Av.Air
variable {l:List T39} {P:List UInt8→T52} {fr:List UInt8} {D O:List (List UInt8)} {dF oF:List UInt8→T69}
theorem mem_er {O:List (List UInt8)} (hn:O.Nodup) {m k:List UInt8}:k∈O.erase m↔k≠m∧k∈O:=hn.mem_erase_iff
theorem Inv.pop (H:Inv l P fr (fun _ _=>True) D O dF oF) (hn:O.Nodup) {m:List UInt8} (hm:m∈O) (hl:∀ k∈O,¬ ltP (oF k) (oF m)) {dF' oF':List UInt8→T69} (em:dF' m=oF m) (eq:∀ k,k≠m→dF' k=dF k) (eo:∀ k,k≠m→oF' k=oF k) :
  Inv l P fr (fun u i=>u=m→i < 0) (m :: D) (O.erase m) dF' oF':=by
 have mD:m ∉ D:=fun h=>H.dis m h hm
 have dD:∀ k∈D,k≠m:=fun k hk e=>mD (e ▸ hk)
 have eD:∀ k∈D,dF' k=dF k:=fun k hk=>eq k (dD k hk)
 have eO:∀ k∈O.erase m,oF' k=oF k:=fun k hk=>eo k ((mem_er hn).1 hk).1
 refine⟨?_,?_,?_,?_,?_,?_,?_,?_⟩
 ·intro k hk hko
  obtain⟨h1,h2⟩:=(mem_er hn).1 hko
  rcases List.mem_cons.1 hk with rfl | hk
  ·exact h1 rfl
  ·exact H.dis k hk h2
 ·intro k hk
  rcases hk with hk | hk
  ·rcases List.mem_cons.1 hk with rfl | hk
   ·exact H.key k (.inr hm)
   ·exact H.key k (.inl hk)
  ·exact H.key k (.inr ((mem_er hn).1 hk).2)
 ·intro k hk
  rcases List.mem_cons.1 hk with rfl | hk
  ·rw[em]
   obtain⟨g1,g2,g3,g4,g5⟩:=H.ogood k hm
   exact⟨g1,g2,by simp only[List.length_cons];omega,g4,g5⟩
  ·rw[eD k hk]
   obtain⟨g1,g2,g3,g4,g5⟩:=H.dgood k hk
   exact⟨g1,g2,by simp only[List.length_cons];omega,g4,g5⟩
 ·intro k hk
  rw[eO k hk]
  obtain⟨g1,g2,g3,g4,g5⟩:=H.ogood k ((mem_er hn).1 hk).2
  exact⟨g1,g2,by simp only[List.length_cons];omega,g4,g5⟩
 ·intro d hd o ho
  rw[eO o ho]
  rcases List.mem_cons.1 hd with rfl | hd
  ·rw[em];exact hl o ((mem_er hn).1 ho).2
  ·rw[eD d hd];exact H.mono d hd o ((mem_er hn).1 ho).2
 ·intro u hu i hi hx
  rcases List.mem_cons.1 hu with rfl | hu
  ·exact absurd (hx rfl) (Nat.not_lt_zero i)
  ·rw[eD u hu]
   rcases H.fe u hu i hi trivial with⟨g1,g2⟩ | ⟨g1,g2⟩
   ·exact .inl ⟨List.mem_cons_of_mem _ g1,by rw[eD _ g1];exact g2⟩
   ·by_cases e:tgt l u i=m
    ·exact .inl ⟨by rw[e];simp,by rw[e]at g2 ⊢;rw[em];exact g2⟩
    ·have:tgt l u i∈O.erase m:=(mem_er hn).2 ⟨e,g1⟩
     exact .inr ⟨this,by rw[eO _ this];exact g2⟩
 ·intro k x hk
  have hk':(k∈D∧x=dF k)∨(k∈O∧x=oF k):=by
   rcases hk with⟨hk,rfl⟩ | ⟨hk,rfl⟩
   ·rcases List.mem_cons.1 hk with rfl | hk
    ·exact .inr ⟨hm,em⟩
    ·exact .inl ⟨hk,eD k hk⟩
   ·exact .inr ⟨((mem_er hn).1 hk).2,eO k hk⟩
  rcases H.tight k x hk' with h | ⟨u,hu,h1,h2,h3⟩
  ·exact .inl h
  ·exact .inr ⟨u,List.mem_cons_of_mem _ hu,h1,by rw[eD u hu];exact h2,by rw[eD u hu];exact h3⟩
 ·rcases H.start with⟨h1,h2,h3⟩ | ⟨h1,h2⟩
  ·right
   rw[h2]at hm
   simp only[List.mem_singleton]at hm
   subst hm
   exact⟨by simp,em.trans h3⟩
  ·exact .inr ⟨List.mem_cons_of_mem _ h1,(eD fr h1).trans h2⟩
end Go.Av.Air
set_option maxRecDepth 100000
namespace Go.Av.Air
variable {l:List T39} {P:List UInt8→T52} {fr:List UInt8} {D O:List (List UInt8)} {dF oF:List UInt8→T69}
theorem nodup_le {α:Type} [DecidableEq α]:∀ {l m:List α},l.Nodup→(∀ x∈l,x∈m)→l.length≤m.length
 | [],m,_,_=>Nat.zero_le _
 | a :: l,m,hn,hs=>by
  have h1:=List.nodup_cons.1 hn
  have:=nodup_le (l:=l) (m:=m.erase a) h1.2 (fun x hx=>(List.mem_erase_of_ne (fun(e:x=a)=>h1.1 (e ▸ hx))).2 (hs x (by simp[hx])))
  rw[List.length_erase_of_mem (hs a (by simp))]at this
  have hp:0 < m.length:=List.length_pos_of_mem (hs a (by simp))
  simp only[List.length_cons];omega
theorem Inv.relD {m:List UInt8} {j:Nat} (H:Inv l P fr (fun u i=>u=m→i < j) D O dF oF) (hm:m∈D) (mx:∀ d∈D,¬ ltP (dF m) (dF d)) (ht:tgt l m j∈D):Inv l P fr (fun u i=>u=m→i < j+1) D O dF oF:=by
 refine { H with fe:=fun u hu i hi hx=>?_ }
 by_cases e:u=m∧i=j
 ·obtain⟨rfl,rfl⟩:=e
  refine .inl ⟨ht,?_⟩
  have h1:=mx _ ht
  have h2:=(lenP_range P u (tgt l u i)).1
  unfold ltP at h1
  unfold le2
  by_cases q:(dF (tgt l u i)).Length < (dF u).Length
  ·left;omega
  ·have q2:(dF (tgt l u i)).Length=(dF u).Length:=by
    by_cases q3:(dF u).Length < (dF (tgt l u i)).Length
    ·exact absurd (.inl q3) h1
    ·omega
   have q4:(dF (tgt l u i)).Hops≤(dF u).Hops:=by
    by_cases q5:(dF u).Hops < (dF (tgt l u i)).Hops
    ·exact absurd (.inr ⟨q2.symm,.inl q5⟩) h1
    ·omega
   by_cases q6:lenP P u (tgt l u i)=0
   ·right;omega
   ·left;omega
 ·exact H.fe u hu i hi fun eu=>by
   have:=hx eu
   have:i≠j:=fun ei=>e ⟨eu,ei⟩
   omega
theorem Inv.relK {m:List UInt8} {j:Nat} (H:Inv l P fr (fun u i=>u=m→i < j) D O dF oF) (ht:tgt l m j∈O) (hk:le2 (oF (tgt l m j)) ((dF m).Length+lenP P m (tgt l m j)) ((dF m).Hops+1)):Inv l P fr (fun u i=>u=m→i < j+1) D O dF oF:=by
 refine { H with fe:=fun u hu i hi hx=>?_ }
 by_cases e:u=m∧i=j
 ·obtain⟨rfl,rfl⟩:=e
  exact .inr ⟨ht,hk⟩
 ·exact H.fe u hu i hi fun eu=>by
   have:=hx eu
   have:i≠j:=fun ei=>e ⟨eu,ei⟩
   omega
theorem tgt_refs {m:List UInt8} {j:Nat} (hj:j < (hopsL l m).length):tgt l m j∈refsL l∧(hopsL l m).getD j default∈hopsL l m:=by
 have hh:(hopsL l m).getD j default∈hopsL l m:=getD_mem hj
 refine⟨?_,hh⟩
 obtain⟨k,i,hk,hi,h⟩:=hops_adj hh
 unfold tgt
 rcases h with⟨_,h⟩ | ⟨h,_⟩
 ·rw[h];exact mem_refs.2 ⟨k,i+1,hk,hi,rfl⟩
 ·rw[h];exact mem_refs.2 ⟨k,i,hk,by omega,rfl⟩
theorem Inv.relN {m:List UInt8} {j:Nat} (H:Inv l P fr (fun u i=>u=m→i < j) D O dF oF) (hj:j < (hopsL l m).length) (hm:m∈D) (mx:∀ d∈D,¬ ltP (dF m) (dF d)) {t:List UInt8} (et:tgt l m j=t) (ht:t ∉ D)
  {c:T69} (hc:c=⟨t,(dF m).Length+lenP P m t,(dF m).Hops+1⟩) (hl:t∈O→c.Length < (oF t).Length∨(c.Length=(oF t).Length∧c.Hops < (oF t).Hops)) {O':List (List UInt8)} (hO:∀ k,k∈O'↔k=t∨k∈O) {oF':List UInt8→T69} (eT:oF' t=c) (eO:∀ k,k≠t→oF' k=oF k) :
  Inv l P fr (fun u i=>u=m→i < j+1) D O' dF oF':=by
 have hr:=lenP_range P m t
 obtain⟨g1,g2,g3,g4,g5⟩:=H.dgood m hm
 have cL:c.Length=(dF m).Length+lenP P m t:=by rw[hc]
 have cH:c.Hops=(dF m).Hops+1:=by rw[hc]
 have cR:c.Ref=t:=by rw[hc]
 refine⟨?_,?_,H.dgood,?_,?_,?_,?_,?_⟩
 ·intro k hk hko
  rcases (hO k).1 hko with rfl | h
  ·exact ht hk
  ·exact H.dis k hk h
 ·intro k hk
  rcases hk with hk | hk
  ·exact H.key k (.inl hk)
  ·rcases (hO k).1 hk with rfl | h
   ·right;rw[← et];exact(tgt_refs hj).1
   ·exact H.key k (.inr h)
 ·intro k hk
  by_cases e:k=t
  ·subst e
   rw[eT]
   exact⟨cR,by omega,by omega,by omega,by omega⟩
  ·rw[eO k e]
   exact H.ogood k (((hO k).1 hk).resolve_left e)
 ·intro d hd o ho
  by_cases e:o=t
  ·subst e
   rw[eT]
   have h1:=mx d hd
   intro h2
   apply h1
   unfold ltP at h2 ⊢
   rw[cL,cH]at h2
   rcases h2 with h2 | ⟨h2,h3⟩
   ·left;omega
   ·by_cases z:lenP P m o=0
    ·right
     refine⟨by omega,.inl ?_⟩
     rcases h3 with h3 | ⟨h3,_⟩<;>omega
    ·left;omega
  ·rw[eO o e]
   exact H.mono d hd o (((hO o).1 ho).resolve_left e)
 ·intro u hu i hi hx
  have old:(u=m→i < j)→(tgt l u i∈D∧le2 (dF (tgt l u i)) ((dF u).Length+lenP P u (tgt l u i)) ((dF u).Hops+1))∨(tgt l u i∈O'∧le2 (oF' (tgt l u i)) ((dF u).Length+lenP P u (tgt l u i)) ((dF u).Hops+1)):=fun hx=>by
   rcases H.fe u hu i hi hx with h | ⟨h1,h2⟩
   ·exact .inl h
   ·refine .inr ⟨(hO _).2 (.inr h1),?_⟩
    by_cases e:tgt l u i=t
    ·rw[e]at h1 h2 ⊢
     rw[eT]
     have:=hl h1
     unfold le2 at *
     omega
    ·rw[eO _ e];exact h2
  by_cases e:u=m∧i=j
  ·obtain⟨rfl,rfl⟩:=e
   rw[et]
   refine .inr ⟨(hO t).2 (.inl rfl),?_⟩
   rw[eT]
   unfold le2
   right;exact⟨cL,by omega⟩
  ·exact old fun eu=>by
    have:=hx eu
    have:i≠j:=fun ei=>e ⟨eu,ei⟩
    omega
 ·intro k x hk
  rcases hk with hk | ⟨hk,rfl⟩
  ·exact H.tight k x (.inl hk)
  ·by_cases e:k=t
   ·subst e
    right
    rw[eT]
    exact⟨m,hm,⟨_,(tgt_refs hj).2,et⟩,cL,cH⟩
   ·exact H.tight k _ (.inr ⟨((hO k).1 hk).resolve_left e,eO k e⟩)
 ·rcases H.start with⟨h1,_⟩ | h
  ·rw[h1]at hm;cases hm
  ·exact .inr h
end Go.Av.Air
set_option maxRecDepth 100000
namespace Go.Av.Air
theorem M18o1 (a0:List T39) (a1:List UInt8) (a2:Nat) (a3:(List UInt8→Bool)) (a4:(List UInt8→T52)):m18o1 a0 a1 a2 a3 a4=((Option.bind (if(a1.length≤maxLen)then(if(0 < maxLen)then(some (.inl ()))else none)else none) (onS fun(_:Unit)=>(Option.bind (loopO (fun(s1:Nat×(List UInt8→Bool)×(List UInt8→T69)×Nat×(List UInt8→Bool)×(List UInt8→T69))=>((Option.bind (if(decide (0 < ((s1.2.2.2.1:Nat):Int)))=true then(some (.inl ()))else(some (.inr (.inr (.inl (s1.1,s1.2.1,s1.2.2.1)))))) (onS fun(_:Unit)=>(Option.bind (some (.inl ())) (onS fun(_:Unit)=>(Option.bind (Option.bind (rangeM s1.2.2.2.1 s1.2.2.2.2.1 (fun(k2:List UInt8) (s2:Bool×(List UInt8)×Int×Int)=>Option.bind ((Option.bind (some (.inl ())) (onS fun(_:Unit)=>(Option.bind (((if(!s2.1)=true then m46 (s1.2.2.2.2.2 k2) (⟨s2.2.1,s2.2.2.1,s2.2.2.2⟩:T69)else some default).bind fun r9_0=>some r9_0)) fun(x9:(Bool))=>(if((s2.1 || x9) || ((((s1.2.2.2.2.2 k2).Length==s2.2.2.1)&&((s1.2.2.2.2.2 k2).Hops==s2.2.2.2))&&(Op.bytesLess (s1.2.2.2.2.2 k2).Ref s2.2.1)))=true then(some (.inl (false,(s1.2.2.2.2.2 k2).Ref,(s1.2.2.2.2.2 k2).Length,(s1.2.2.2.2.2 k2).Hops)))else(some (.inl (s2.1,s2.2.1,s2.2.2.1,s2.2.2.2))))))):Option ((Bool×(List UInt8)×Int×Int)⊕Empty)) onN) (true,([]:List UInt8),(0:Int),(0:Int))) fun(y3:Bool×(List UInt8)×Int×Int)=>(some (.inl (y3.2.1,y3.2.2.1,y3.2.2.2)))) (onS fun(y4:(List UInt8)×Int×Int)=>(Option.bind (if(y4.1.length≤maxLen)then(if(y4.1.length≤maxLen)then(if(s1.1 < maxLen)then(Option.bind (Option.bind (m25 a0 y4.1) fun r=>some r) fun x13=>(some (.inl (x13,(x13.length:Int)))))else none)else none)else none) (onS fun(y5:(List T49)×Int)=>(loopO (fun(s6:Int×Nat×(List UInt8→Bool)×(List UInt8→T69))=>((if(decide (s6.1 < y5.2))=true then(if(0≤s6.1)then(if(s6.1 < (y5.1.length:Int))then(if((y5.1.getD s6.1.toNat default).To.length≤maxLen)then(if((fun q=>q==y4.1 || s1.2.1 q) (y5.1.getD s6.1.toNat default).To)=true then(some (.inl ((IntKind.wrap .i64 (s6.1+1)),s6.2.1,s6.2.2.1,s6.2.2.2)))else(Option.bind (Option.bind (m37o1 y4.1 (y5.1.getD s6.1.toNat default).To a2 a3 a4) fun r=>some r) fun x18=>(if((y5.1.getD s6.1.toNat default).To.length≤maxLen)then(Option.bind (((if(!(!(s6.2.2.1 (y5.1.getD s6.1.toNat default).To)))=true then m46 (⟨(y5.1.getD s6.1.toNat default).To,(IntKind.wrap .i64 (y4.2.1+x18)),(IntKind.wrap .i64 (y4.2.2+1))⟩:T69) (s6.2.2.2 (y5.1.getD s6.1.toNat default).To)else some default).bind fun r20_0=>some r20_0)) fun(x20:(Bool))=>(if((!(s6.2.2.1 (y5.1.getD s6.1.toNat default).To)) || x20)=true then(if((y5.1.getD s6.1.toNat default).To.length≤maxLen)then(if(s6.2.1 < maxLen)then(some (.inl ((IntKind.wrap .i64 (s6.1+1)),(if s6.2.2.1 (y5.1.getD s6.1.toNat default).To=true then s6.2.1 else s6.2.1+1),(fun q=>q==(y5.1.getD s6.1.toNat default).To || s6.2.2.1 q),(fun q=>if q=(y5.1.getD s6.1.toNat default).To then(⟨(y5.1.getD s6.1.toNat default).To,(IntKind.wrap .i64 (y4.2.1+x18)),(IntKind.wrap .i64 (y4.2.2+1))⟩:T69)else s6.2.2.2 q))))else none)else none)else(some (.inl ((IntKind.wrap .i64 (s6.1+1)),s6.2.1,s6.2.2.1,s6.2.2.2)))))else none)))else none)else none)else none)else(some (.inr (.inl ((if s1.2.1 y4.1=true then s1.1 else s1.1+1),(fun q=>q==y4.1 || s1.2.1 q),(fun q=>if q=y4.1 then(⟨y4.1,y4.2.1,y4.2.2⟩:T69)else s1.2.2.1 q),s6.2.1,s6.2.2.1,s6.2.2.2))))):Option ((Int×Nat×(List UInt8→Bool)×(List UInt8→T69))⊕((Nat×(List UInt8→Bool)×(List UInt8→T69)×Nat×(List UInt8→Bool)×(List UInt8→T69))⊕((Nat×(List UInt8→Bool)×(List UInt8→T69))⊕(Nat×(List UInt8→Bool)×(List UInt8→T69))))))) ((0:Int),(if s1.2.2.2.2.1 y4.1=true then s1.2.2.2.1 - 1 else s1.2.2.2.1),(fun q=>!(q==y4.1)&&s1.2.2.2.2.1 q),(fun q=>if q=y4.1 then(⟨([]:List UInt8),(0:Int),(0:Int)⟩:T69)else s1.2.2.2.2.2 q))))))))))):Option ((Nat×(List UInt8→Bool)×(List UInt8→T69)×Nat×(List UInt8→Bool)×(List UInt8→T69))⊕((Nat×(List UInt8→Bool)×(List UInt8→T69))⊕(Nat×(List UInt8→Bool)×(List UInt8→T69)))))) (0,(fun _=>false),(fun _=>(⟨([]:List UInt8),(0:Int),(0:Int)⟩:T69)),(if(fun _=>false) a1=true then 0 else 0+1),(fun q=>q==a1 || (fun _=>false) q),(fun q=>if q=a1 then(⟨a1,(0:Int),(0:Int)⟩:T69)else(fun _=>(⟨([]:List UInt8),(0:Int),(0:Int)⟩:T69)) q))) (onS fun(y7:Nat×(List UInt8→Bool)×(List UInt8→T69))=>(some (y7.1,y7.2.1,y7.2.2)))))):Option (Nat×(List UInt8→Bool)×(List UInt8→T69))):=by kernel_rfl
abbrev LbO:=Nat×(List UInt8→Bool)×(List UInt8→T69)
abbrev LbS:=Nat×(List UInt8→Bool)×(List UInt8→T69)×LbO
noncomputable abbrev rlB (Z:Type) (hs:List T49) (hl:Int) (m:List UInt8) (mL mH:Int) (an:Nat) (ah:List UInt8→Bool) (aF:List UInt8→T52) (dn:Nat) (dh:List UInt8→Bool) (dF:List UInt8→T69):Int×LbO→Option ((Int×LbO)⊕(LbS⊕Z)):=(fun(s6:Int×Nat×(List UInt8→Bool)×(List UInt8→T69))=>((if(decide (s6.1 < hl))=true then(if(0≤s6.1)then(if(s6.1 < (hs.length:Int))then(if((hs.getD s6.1.toNat default).To.length≤maxLen)then(if(dh (hs.getD s6.1.toNat default).To)=true then(some (.inl ((IntKind.wrap .i64 (s6.1+1)),s6.2.1,s6.2.2.1,s6.2.2.2)))else(Option.bind (Option.bind (m37o1 m (hs.getD s6.1.toNat default).To an ah aF) fun r=>some r) fun x18=>(if((hs.getD s6.1.toNat default).To.length≤maxLen)then(Option.bind (((if(!(!(s6.2.2.1 (hs.getD s6.1.toNat default).To)))=true then m46 (⟨(hs.getD s6.1.toNat default).To,(IntKind.wrap .i64 (mL+x18)),(IntKind.wrap .i64 (mH+1))⟩:T69) (s6.2.2.2 (hs.getD s6.1.toNat default).To)else some default).bind fun r20_0=>some r20_0)) fun(x20:(Bool))=>(if((!(s6.2.2.1 (hs.getD s6.1.toNat default).To)) || x20)=true then(if((hs.getD s6.1.toNat default).To.length≤maxLen)then(if(s6.2.1 < maxLen)then(some (.inl ((IntKind.wrap .i64 (s6.1+1)),(if s6.2.2.1 (hs.getD s6.1.toNat default).To=true then s6.2.1 else s6.2.1+1),(fun q=>q==(hs.getD s6.1.toNat default).To || s6.2.2.1 q),(fun q=>if q=(hs.getD s6.1.toNat default).To then(⟨(hs.getD s6.1.toNat default).To,(IntKind.wrap .i64 (mL+x18)),(IntKind.wrap .i64 (mH+1))⟩:T69)else s6.2.2.2 q))))else none)else none)else(some (.inl ((IntKind.wrap .i64 (s6.1+1)),s6.2.1,s6.2.2.1,s6.2.2.2)))))else none)))else none)else none)else none)else(some (.inr (.inl (dn,dh,dF,s6.2.1,s6.2.2.1,s6.2.2.2)))))))
noncomputable abbrev lbB (a0:List T39) (a2:Nat) (a3:List UInt8→Bool) (a4:List UInt8→T52):LbS→Option (LbS⊕(LbO⊕LbO)):=(fun(s1:Nat×(List UInt8→Bool)×(List UInt8→T69)×Nat×(List UInt8→Bool)×(List UInt8→T69))=>((Option.bind (if(decide (0 < ((s1.2.2.2.1:Nat):Int)))=true then(some (.inl ()))else(some (.inr (.inr (.inl (s1.1,s1.2.1,s1.2.2.1)))))) (onS fun(_:Unit)=>(Option.bind (some (.inl ())) (onS fun(_:Unit)=>(Option.bind (Option.bind (rangeM s1.2.2.2.1 s1.2.2.2.2.1 (fun(k2:List UInt8) (s2:Bool×(List UInt8)×Int×Int)=>Option.bind ((Option.bind (some (.inl ())) (onS fun(_:Unit)=>(Option.bind (((if(!s2.1)=true then m46 (s1.2.2.2.2.2 k2) (⟨s2.2.1,s2.2.2.1,s2.2.2.2⟩:T69)else some default).bind fun r9_0=>some r9_0)) fun(x9:(Bool))=>(if((s2.1 || x9) || ((((s1.2.2.2.2.2 k2).Length==s2.2.2.1)&&((s1.2.2.2.2.2 k2).Hops==s2.2.2.2))&&(Op.bytesLess (s1.2.2.2.2.2 k2).Ref s2.2.1)))=true then(some (.inl (false,(s1.2.2.2.2.2 k2).Ref,(s1.2.2.2.2.2 k2).Length,(s1.2.2.2.2.2 k2).Hops)))else(some (.inl (s2.1,s2.2.1,s2.2.2.1,s2.2.2.2))))))):Option ((Bool×(List UInt8)×Int×Int)⊕Empty)) onN) (true,([]:List UInt8),(0:Int),(0:Int))) fun(y3:Bool×(List UInt8)×Int×Int)=>(some (.inl (y3.2.1,y3.2.2.1,y3.2.2.2)))) (onS fun(y4:(List UInt8)×Int×Int)=>(Option.bind (if(y4.1.length≤maxLen)then(if(y4.1.length≤maxLen)then(if(s1.1 < maxLen)then(Option.bind (Option.bind (m25 a0 y4.1) fun r=>some r) fun x13=>(some (.inl (x13,(x13.length:Int)))))else none)else none)else none) (onS fun(y5:(List T49)×Int)=>(loopO (rlB (LbO⊕LbO) y5.1 y5.2 y4.1 y4.2.1 y4.2.2 a2 a3 a4 (if s1.2.1 y4.1=true then s1.1 else s1.1+1) (fun q=>q==y4.1 || s1.2.1 q) (fun q=>if q=y4.1 then(⟨y4.1,y4.2.1,y4.2.2⟩:T69)else s1.2.2.1 q)) ((0:Int),(if s1.2.2.2.2.1 y4.1=true then s1.2.2.2.1 - 1 else s1.2.2.2.1),(fun q=>!(q==y4.1)&&s1.2.2.2.2.1 q),(fun q=>if q=y4.1 then(⟨([]:List UInt8),(0:Int),(0:Int)⟩:T69)else s1.2.2.2.2.2 q))))))))))):Option ((Nat×(List UInt8→Bool)×(List UInt8→T69)×Nat×(List UInt8→Bool)×(List UInt8→T69))⊕((Nat×(List UInt8→Bool)×(List UInt8→T69))⊕(Nat×(List UInt8→Bool)×(List UInt8→T69))))))
variable {l:List T39} {P:List UInt8→T52} {fr:List UInt8} {D O:List (List UInt8)} {dF oF:List UInt8→T69}
theorem length_eq {u v:List UInt8} (hu:u.length≤maxLen) (hv:v.length≤maxLen) (n:Nat) (h:List UInt8→Bool) (P:List UInt8→T52):m37o1 u v n h P=some (lenP P u v):=by
 rw[M37o1,if_pos hu,if_pos hv,dist_eq]
 rfl
theorem refsL_len {l:List T39} (W:WfL l):(refsL l).length≤2400:=by
 have h60:=W.few
 have:=refs_len W l.length (Nat.le_refl _)
 rw[refsL_eq];omega
theorem keys_len {l:List T39} (W:WfL l) {fr:List UInt8} {D:List (List UInt8)} (hn:D.Nodup) (hk:∀ k∈D,k=fr∨k∈refsL l):D.length≤2401:=by
 have h:=refsL_len W
 have:=nodup_le (l:=D) (m:=fr :: refsL l) hn (fun x hx=>by rcases hk x hx with h | h<;>simp[h])
 simp only[List.length_cons]at this
 omega
structure Nm (l:List T39) (fr:List UInt8):Prop where
 wf:WfL l
 fr:fr.length≤maxLen
 rf:∀ r∈refsL l,r.length≤maxLen
theorem Nm.key {l:List T39} {fr:List UInt8} (H:Nm l fr) {k:List UInt8} (h:k=fr∨k∈refsL l):k.length≤maxLen:=by
 rcases h with h | h
 ·rw[h];exact H.fr
 ·exact H.rf k h
theorem rl_round {Z:Type} (N:Nm l fr) {m:List UInt8} {an:Nat} {ah:List UInt8→Bool} {dn n:Nat} {dh h:List UInt8→Bool} {j:Nat} (ED:EnumL dn dh D) (EO:EnumL n h O) (H:Inv l P fr (fun u i=>u=m→i < j) D O dF oF) (hm:m∈D) (mx:∀ d∈D,¬ ltP (dF m) (dF d)) (hj:j < (hopsL l m).length) :
  ∃ O' n' h' oF',rlB Z (hopsL l m) ((hopsL l m).length:Int) m (dF m).Length (dF m).Hops an ah P dn dh dF ((j:Int),n,h,oF)=some (.inl (((j+1:Nat):Int),n',h',oF'))∧EnumL n' h' O'∧Inv l P fr (fun u i=>u=m→i < j+1) D O' dF oF':=by
 have kD:=keys_len N.wf ED.1 (fun k hk=>H.key k (.inl hk))
 have kO:=keys_len N.wf EO.1 (fun k hk=>H.key k (.inr hk))
 have hn:n < maxLen:=by have h1:=EO.2.1;have:maxLen=9223372036854775807:=rfl;omega
 have hlen:=hopsL_len N.wf m
 obtain⟨t,ht⟩:∃ t,tgt l m j=t:=⟨_,rfl⟩
 have ht':((hopsL l m).getD j default).To=t:=ht
 have tr:=(tgt_refs hj).1
 rw[ht]at tr
 have tl:t.length≤maxLen:=N.rf t tr
 have ml:m.length≤maxLen:=N.key (H.key m (.inl hm))
 obtain⟨g1,g2,g3,g4,g5⟩:=H.dgood m hm
 have hr:=lenP_range P m t
 have w1:IntKind.wrap .i64 ((j:Int)+1)=((j+1:Nat):Int):=by rw[wr1 hj (by omega)];omega
 have w2:IntKind.wrap .i64 ((dF m).Length+lenP P m t)=(dF m).Length+lenP P m t:=w64 (by omega) (by omega)
 have w3:IntKind.wrap .i64 ((dF m).Hops+1)=(dF m).Hops+1:=w64 (by omega) (by omega)
 simp only[rlB,inL hj,decide_true,if_true,Int.toNat_natCast,ht',tl,hn,w1,length_eq ml tl,Option.bind_some,w2,w3]
 by_cases hD:t∈D
 ·rw[if_pos ((enum_has ED tl).2 hD)]
  exact⟨O,n,h,oF,rfl,EO,H.relD hm mx (by rw[ht];exact hD)⟩
 rw[if_neg (fun e=>hD ((enum_has ED tl).1 e))]
 have new:(t∈O→(dF m).Length+lenP P m t < (oF t).Length∨((dF m).Length+lenP P m t=(oF t).Length∧(dF m).Hops+1 < (oF t).Hops))→∃ O',EnumL (if h t=true then n else n+1) (fun q=>q==t || h q) O'∧Inv l P fr (fun u i=>u=m→i < j+1) D O' dF (fun q=>if q=t then(⟨t,(dF m).Length+lenP P m t,(dF m).Hops+1⟩:T69)else oF q):=fun hl=>by
  by_cases hO:t∈O
  ·exact⟨O,enum_old EO hO,H.relN hj hm mx ht hD rfl hl (fun k=>⟨.inr,fun q=>q.elim (fun e=>e ▸ hO) id⟩) (if_pos rfl) (fun k hk=>if_neg hk)⟩
  ·exact⟨t :: O,enum_new EO tl hO,H.relN hj hm mx ht hD rfl hl (fun k=>List.mem_cons) (if_pos rfl) (fun k hk=>if_neg hk)⟩
 cases hh:h t with
 | false =>
  have hO:t ∉ O:=fun e=>by rw[(enum_has EO tl).2 e]at hh;cases hh
  simp only[Bool.not_false,Bool.not_true,Bool.false_eq_true,if_false,Option.bind_some,Bool.true_or,if_true]
  obtain⟨O',e1,e2⟩:=new (fun e=>absurd e hO)
  rw[hh]at e1
  exact⟨O',_,_,_,rfl,e1,e2⟩
 | true =>
  have hO:t∈O:=(enum_has EO tl).1 hh
  simp only[Bool.not_false,Bool.not_true,if_true,M46,Option.bind_some,Bool.false_or,Bool.or_eq_true,Bool.and_eq_true,decide_eq_true_eq,beq_iff_eq]
  by_cases hc:(dF m).Length+lenP P m t < (oF t).Length∨((dF m).Length+lenP P m t=(oF t).Length∧(dF m).Hops+1 < (oF t).Hops)
  ·rw[if_pos hc]
   obtain⟨O',e1,e2⟩:=new (fun _=>hc)
   rw[hh]at e1
   exact⟨O',_,_,_,rfl,e1,e2⟩
  ·rw[if_neg hc]
   refine⟨O,n,h,oF,rfl,EO,H.relK (by rw[ht];exact hO) ?_⟩
   rw[ht]
   unfold le2
   omega
theorem rl_loop {Z:Type} (N:Nm l fr) {m:List UInt8} {an:Nat} {ah:List UInt8→Bool} {dn n:Nat} {dh h:List UInt8→Bool} (ED:EnumL dn dh D) (EO:EnumL n h O) (H:Inv l P fr (fun u i=>u=m→i < 0) D O dF oF) (hm:m∈D) (mx:∀ d∈D,¬ ltP (dF m) (dF d)) :
  ∃ x:LbS⊕Z,loopO (rlB Z (hopsL l m) ((hopsL l m).length:Int) m (dF m).Length (dF m).Hops an ah P dn dh dF) ((0:Int),n,h,oF)=some x∧∃ n' h' oF' O',x=.inl (dn,dh,dF,n',h',oF')∧EnumL n' h' O'∧Inv l P fr (fun _ _=>True) D O' dF oF':=by
 have hlen:=hopsL_len N.wf m
 refine loop_meas (b:=rlB Z (hopsL l m) ((hopsL l m).length:Int) m (dF m).Length (dF m).Hops an ah P dn dh dF) (fun s=>∃ j n h oF O,s=(((j:Nat):Int),n,h,oF)∧j≤(hopsL l m).length∧EnumL n h O∧Inv l P fr (fun u i=>u=m→i < j) D O dF oF) (fun s=>((hopsL l m).length - s.1).toNat)
  (fun x=>∃ n' h' oF' O',x=.inl (dn,dh,dF,n',h',oF')∧EnumL n' h' O'∧Inv l P fr (fun _ _=>True) D O' dF oF') (fun s hs=>?_) _ ⟨0,n,h,oF,O,rfl,by omega,EO,H⟩
 obtain⟨j,n,h,oF,O,rfl,hj,EO,H⟩:=hs
 by_cases hlt:j < (hopsL l m).length
 ·obtain⟨O',n',h',oF',e,E',H'⟩:=rl_round (Z:=Z) N (an:=an) (ah:=ah) ED EO H hm mx hlt
  exact .inl ⟨_,e,⟨j+1,n',h',oF',O',rfl,hlt,E',H'⟩,by simp only;omega⟩
 ·obtain rfl:j=(hopsL l m).length:=by omega
  refine .inr ⟨.inl (dn,dh,dF,n,h,oF),?_,n,h,oF,O,rfl,EO,{ H with fe:=fun u hu i hi _=>H.fe u hu i hi fun e=>by rw[e]at hi;exact hi }⟩
  simp only[rlB,lt_irr,decide_false,Bool.false_eq_true,if_false]
theorem lb_round (N:Nm l fr) {dn n:Nat} {dh h:List UInt8→Bool} {an:Nat} {ah:List UInt8→Bool} (ED:EnumL dn dh D) (EO:EnumL n h O) (H:Inv l P fr (fun _ _=>True) D O dF oF) (hn:0 < n) :
  ∃ s',lbB l an ah P (dn,dh,dF,n,h,oF)=some (.inl s')∧∃ D' O' dh' dF' n' h' oF',s'=(dn+1,dh',dF',n',h',oF')∧EnumL (dn+1) dh' D'∧EnumL n' h' O'∧Inv l P fr (fun _ _=>True) D' O' dF' oF':=by
 obtain⟨m,hm,h1,h2⟩:=least_range EO hn (fun k hk=>(H.ogood k hk).1) (true,([]:List UInt8),(0:Int),(0:Int)) rfl
 have hR:=(H.ogood m hm).1
 have mD:m ∉ D:=fun e=>H.dis m e hm
 have ml:m.length≤maxLen:=N.key (H.key m (.inr hm))
 have kD:=keys_len N.wf ED.1 (fun k hk=>H.key k (.inl hk))
 have hd:dn < maxLen:=by have h1:=ED.2.1;have:maxLen=9223372036854775807:=rfl;omega
 have hdh:dh m=false:=by
  cases hh:dh m with
  | false=>rfl
  | true=>exact absurd ((enum_has ED ml).1 hh) mD
 have hoh:h m=true:=(enum_has EO ml).2 hm
 have em:(⟨m,(oF m).Length,(oF m).Hops⟩:T69)=oF m:=by
  have:oF m=⟨(oF m).Ref,(oF m).Length,(oF m).Hops⟩:=rfl
  rw[hR]at this;exact this.symm
 obtain⟨dF',hdF'⟩:∃ f:List UInt8→T69,f=fun q=>if q=m then(⟨m,(oF m).Length,(oF m).Hops⟩:T69)else dF q:=⟨_,rfl⟩
 have d1:dF' m=oF m:=by rw[hdF',← em];exact if_pos rfl
 have d2:∀ k,k≠m→dF' k=dF k:=fun k hk=>by rw[hdF'];exact if_neg hk
 have H2:=H.pop EO.1 hm h2 (dF':=dF') (oF':=fun q=>if q=m then(⟨([]:List UInt8),(0:Int),(0:Int)⟩:T69)else oF q) d1 d2 (fun k hk=>if_neg hk)
 have ED2:=enum_new ED ml mD
 have EO2:=enum_del EO hm
 have mx:∀ d∈m :: D,¬ ltP (dF' m) (dF' d):=fun d hd=>by
  rw[d1]
  rcases List.mem_cons.1 hd with rfl | hd
  ·rw[d1];exact ltP_irr _
  ·rw[d2 d (fun e=>mD (e ▸ hd))];exact H.mono d hd m hm
 obtain⟨x,e1,n',h',oF',O',rfl,e2,e3⟩:=rl_loop (Z:=LbO⊕LbO) N (an:=an) (ah:=ah) ED2 EO2 H2 (by simp) mx
 have hdn:(if dh m=true then dn else dn+1)=dn+1:=by rw[hdh];rfl
 rw[hdn]at ED2
 refine⟨_,?_,m :: D,O',_,dF',n',h',oF',rfl,ED2,e2,e3⟩
 refine on_l (y:=()) (if_pos (by simpa using hn)) (on_l (y:=()) rfl (on_l (y:=(m,(oF m).Length,(oF m).Hops)) (bind_to (x:=unl (oF m)) h1 (by rw[unl,hR])) (on_l (y:=(hopsL l m,((hopsL l m).length:Int))) ?_ ?_)))
 ·rw[if_pos ml,if_pos ml,if_pos hd]
  exact bind_to (bind_to (hops_eq N.wf m) rfl) rfl
 ·rw[d1,hdF']at e1
  exact e1.trans (by rw[hdn,hdF'])
theorem lb_loop (N:Nm l fr) {an:Nat} {ah:List UInt8→Bool} {dn n:Nat} {dh h:List UInt8→Bool} (ED:EnumL dn dh D) (EO:EnumL n h O) (H:Inv l P fr (fun _ _=>True) D O dF oF) :
  ∃ x,loopO (lbB l an ah P) (dn,dh,dF,n,h,oF)=some x∧∃ dn dh dF D oF,x=.inl (dn,dh,dF)∧EnumL dn dh D∧Inv l P fr (fun _ _=>True) D [] dF oF:=by
 refine loop_meas (b:=lbB l an ah P) (fun s=>∃ dn dh dF n h oF D O,s=(dn,dh,dF,n,h,oF)∧EnumL dn dh D∧EnumL n h O∧Inv l P fr (fun _ _=>True) D O dF oF) (fun s=>2402 - s.1)
  (fun x=>∃ dn dh dF D oF,x=.inl (dn,dh,dF)∧EnumL dn dh D∧Inv l P fr (fun _ _=>True) D [] dF oF) (fun s hs=>?_) _ ⟨dn,dh,dF,n,h,oF,D,O,rfl,ED,EO,H⟩
 obtain⟨dn,dh,dF,n,h,oF,D,O,rfl,ED,EO,H⟩:=hs
 have kD:=keys_len N.wf ED.1 (fun k hk=>H.key k (.inl hk))
 by_cases hn:0 < n
 ·obtain⟨s',e,D',O',dh',dF',n',h',oF',rfl,e1,e2,e3⟩:=lb_round N (an:=an) (ah:=ah) ED EO H hn
  refine .inl ⟨_,e,⟨_,_,_,_,_,_,D',O',rfl,e1,e2,e3⟩,?_⟩
  have:=ED.2.1
  show 2402 - (dn+1) < 2402 - dn
  omega
 ·have e0:O=[]:=List.length_eq_zero_iff.1 (by have:=EO.2.1;omega)
  subst e0
  refine .inr ⟨.inl (dn,dh,dF),?_,dn,dh,dF,D,oF,rfl,ED,H⟩
  have hn0:n=0:=by omega
  subst hn0
  rfl
structure Lab (l:List T39) (P:List UInt8→T52) (fr:List UInt8) (D:List (List UInt8)) (F:List UInt8→T69):Prop where
 key:∀ k∈D,k=fr∨k∈refsL l
 good:∀ k∈D,(F k).Ref=k∧0≤(F k).Hops∧(F k).Hops≤2401∧0≤(F k).Length∧(F k).Length≤(F k).Hops * 64800000
 fe:∀ u∈D,∀ h∈hopsL l u,h.To∈D∧(F h.To).Length≤(F u).Length+lenP P u h.To
 tight:∀ k∈D,(k=fr∧(F k).Length=0∧(F k).Hops=0)∨∃ u,u∈D∧(∃ h,h∈hopsL l u∧h.To=k)∧(F k).Length=(F u).Length+lenP P u k∧(F k).Hops=(F u).Hops+1
 st:fr∈D
 zero:F fr=⟨fr,0,0⟩
theorem labels_eq (N:Nm l fr) (P:List UInt8→T52) (an:Nat) (ah:List UInt8→Bool):∃ n h F D,m18o1 l fr an ah P=some (n,h,F)∧EnumL n h D∧Lab l P fr D F:=by
 obtain⟨o0,ho0⟩:∃ f:List UInt8→T69,f=fun q=>if q=fr then(⟨fr,(0:Int),(0:Int)⟩:T69)else(⟨([]:List UInt8),(0:Int),(0:Int)⟩:T69):=⟨_,rfl⟩
 have o1:o0 fr=⟨fr,0,0⟩:=by rw[ho0];exact if_pos rfl
 have I0:Inv l P fr (fun _ _=>True) [] [fr] (fun _=>(⟨([]:List UInt8),(0:Int),(0:Int)⟩:T69)) o0:=by
  refine⟨fun k hk=>(by cases hk),fun k hk=>?_,fun k hk=>(by cases hk),fun k hk=>?_,fun d hd=>(by cases hd),fun u hu=>(by cases hu),fun k x hk=>?_,.inl ⟨rfl,rfl,o1⟩⟩
  ·rcases hk with hk | hk
   ·cases hk
   ·exact .inl (List.mem_singleton.1 hk)
  ·rw[List.mem_singleton.1 hk,o1]
   exact⟨rfl,by simp,by simp,by simp,by simp⟩
  ·rcases hk with⟨hk,_⟩ | ⟨hk,rfl⟩
   ·cases hk
   ·rw[List.mem_singleton.1 hk,o1]
    exact .inl ⟨rfl,rfl,rfl⟩
 obtain⟨x,e,dn,dh,dF,D,oF,rfl,ED,H⟩:=lb_loop N (an:=an) (ah:=ah) enum_nil (enum_new enum_nil N.fr (by simp)) I0
 rw[ho0]at e
 have kD:=keys_len N.wf ED.1 (fun k hk=>H.key k (.inl hk))
 refine⟨dn,dh,dF,D,?_,ED,⟨fun k hk=>H.key k (.inl hk),fun k hk=>?_,fun u hu h hh=>?_,fun k hk=>?_,?_,?_⟩⟩
 ·rw[M18o1]
  refine on_l (y:=()) ?_ (on_l e rfl)
  rw[if_pos N.fr,if_pos (by decide)]
 ·obtain⟨g1,g2,g3,g4,g5⟩:=H.dgood k hk
  exact⟨g1,g2,by omega,g4,g5⟩
 ·obtain⟨i,hi,e⟩:=mem_getD hh
  have ht:tgt l u i=h.To:=by unfold tgt;rw[e]
  rcases H.fe u hu i hi trivial with⟨h1,h2⟩ | ⟨h1,h2⟩
  ·rw[ht]at h1 h2
   refine⟨h1,?_⟩
   unfold le2 at h2
   omega
  ·cases h1
 ·rcases H.tight k _ (.inl ⟨hk,rfl⟩) with h | h
  ·exact .inl h
  ·exact .inr h
 ·rcases H.start with⟨_,h,_⟩ | ⟨h,_⟩
  ·cases h
  ·exact h
 ·rcases H.start with⟨_,h,_⟩ | ⟨_,h⟩
  ·cases h
  ·exact h
end Go.Av.Air
set_option maxRecDepth 100000
namespace Go.Av.Air
theorem M19 (a0:List T39) (a1:List UInt8):m19 a0 a1=((Option.bind (if(a1.length≤maxLen)then(if(0 < maxLen)then(Option.bind ((some ())) fun(x2:(Unit))=>(some (.inl ())))else none)else none) (onS fun(_:Unit)=>(Option.bind (Option.bind (some (.inl ())) (onS fun(_:Unit)=>(loopO (fun(s1:(List (List UInt8))×Int×Nat×(List UInt8→Bool)×(List UInt8→Bool))=>((Option.bind (if(decide (s1.2.1 < (s1.1.length:Int)))=true then(some (.inl ()))else(some (.inr (.inr (.inl s1.1))))) (onS fun(_:Unit)=>(Option.bind (Option.bind (Option.bind ((if 0≤s1.2.1 then(if s1.2.1 < (s1.1.length:Int)then(if s1.2.1.toNat < s1.1.length then((m25 a0 (s1.1.getD s1.2.1.toNat default)).bind fun r6_0=>some r6_0)else none)else none)else none)) fun(x6:((List T49)))=>(some (.inl (x6,(x6.length:Int))))) (onS fun(y2:(List T49)×Int)=>(loopO (fun(s3:(List (List UInt8))×Int×Nat×(List UInt8→Bool)×(List UInt8→Bool))=>((if(decide (s3.2.1 < y2.2))=true then(if(0≤s3.2.1)then(if(s3.2.1 < (y2.1.length:Int))then(if((y2.1.getD s3.2.1.toNat default).To.length≤maxLen)then(if(!(s3.2.2.2.2 (y2.1.getD s3.2.1.toNat default).To))=true then(if((y2.1.getD s3.2.1.toNat default).To.length≤maxLen)then(if(s3.2.2.1 < maxLen)then(Option.bind ((if(s3.1.length+1) * 16≤140737488355328 then some ()else none)) fun(x11:(Unit))=>(some (.inl ((s3.1++([(y2.1.getD s3.2.1.toNat default).To]:List (List UInt8))),(IntKind.wrap .i64 (s3.2.1+1)),(if s3.2.2.2.1 (y2.1.getD s3.2.1.toNat default).To=true then s3.2.2.1 else s3.2.2.1+1),(fun q=>q==(y2.1.getD s3.2.1.toNat default).To || s3.2.2.2.1 q),(fun q=>if q=(y2.1.getD s3.2.1.toNat default).To then true else s3.2.2.2.2 q)))))else none)else none)else(some (.inl (s3.1,(IntKind.wrap .i64 (s3.2.1+1)),s3.2.2.1,s3.2.2.2.1,s3.2.2.2.2))))else none)else none)else none)else(some (.inr (.inl (s3.1,s3.2.2.1,s3.2.2.2.1,s3.2.2.2.2))))):Option (((List (List UInt8))×Int×Nat×(List UInt8→Bool)×(List UInt8→Bool))⊕(((List (List UInt8))×Nat×(List UInt8→Bool)×(List UInt8→Bool))⊕(((List (List UInt8))×Int×Nat×(List UInt8→Bool)×(List UInt8→Bool))⊕(((List (List UInt8)))⊕((List (List UInt8))))))))) (s1.1,(0:Int),s1.2.2.1,s1.2.2.2.1,s1.2.2.2.2)))) (onS fun(y4:(List (List UInt8))×Nat×(List UInt8→Bool)×(List UInt8→Bool))=>(some (.inl (y4.1,(IntKind.wrap .i64 (s1.2.1+1)),y4.2.1,y4.2.2.1,y4.2.2.2))))))):Option (((List (List UInt8))×Int×Nat×(List UInt8→Bool)×(List UInt8→Bool))⊕(((List (List UInt8)))⊕((List (List UInt8))))))) (([a1]:List (List UInt8)),(0:Int),(if(fun _=>false) a1=true then 0 else 0+1),(fun q=>q==a1 || (fun _=>false) q),(fun q=>if q=a1 then true else(fun _=>false) q))))) (onS fun(y5:(List (List UInt8)))=>(Option.bind (Option.bind (msrts y5) fun r=>some r) fun x13=>(some (sortS y5))))))):Option ((List (List UInt8)))):=by kernel_rfl
noncomputable abbrev lo19_1 (y2:(List T49)×Int):((List (List UInt8))×Int×Nat×(List UInt8→Bool)×(List UInt8→Bool))→Option (((List (List UInt8))×Int×Nat×(List UInt8→Bool)×(List UInt8→Bool))⊕(((List (List UInt8))×Nat×(List UInt8→Bool)×(List UInt8→Bool))⊕(((List (List UInt8))×Int×Nat×(List UInt8→Bool)×(List UInt8→Bool))⊕(((List (List UInt8)))⊕((List (List UInt8))))))):=(fun(s3:(List (List UInt8))×Int×Nat×(List UInt8→Bool)×(List UInt8→Bool))=>((if(decide (s3.2.1 < y2.2))=true then(if(0≤s3.2.1)then(if(s3.2.1 < (y2.1.length:Int))then(if((y2.1.getD s3.2.1.toNat default).To.length≤maxLen)then(if(!(s3.2.2.2.2 (y2.1.getD s3.2.1.toNat default).To))=true then(if((y2.1.getD s3.2.1.toNat default).To.length≤maxLen)then(if(s3.2.2.1 < maxLen)then(Option.bind ((if(s3.1.length+1) * 16≤140737488355328 then some ()else none)) fun(x11:(Unit))=>(some (.inl ((s3.1++([(y2.1.getD s3.2.1.toNat default).To]:List (List UInt8))),(IntKind.wrap .i64 (s3.2.1+1)),(if s3.2.2.2.1 (y2.1.getD s3.2.1.toNat default).To=true then s3.2.2.1 else s3.2.2.1+1),(fun q=>q==(y2.1.getD s3.2.1.toNat default).To || s3.2.2.2.1 q),(fun q=>if q=(y2.1.getD s3.2.1.toNat default).To then true else s3.2.2.2.2 q)))))else none)else none)else(some (.inl (s3.1,(IntKind.wrap .i64 (s3.2.1+1)),s3.2.2.1,s3.2.2.2.1,s3.2.2.2.2))))else none)else none)else none)else(some (.inr (.inl (s3.1,s3.2.2.1,s3.2.2.2.1,s3.2.2.2.2))))):Option (((List (List UInt8))×Int×Nat×(List UInt8→Bool)×(List UInt8→Bool))⊕(((List (List UInt8))×Nat×(List UInt8→Bool)×(List UInt8→Bool))⊕(((List (List UInt8))×Int×Nat×(List UInt8→Bool)×(List UInt8→Bool))⊕(((List (List UInt8)))⊕((List (List UInt8)))))))))
noncomputable abbrev lo19_2 (a0:List T39):((List (List UInt8))×Int×Nat×(List UInt8→Bool)×(List UInt8→Bool))→Option (((List (List UInt8))×Int×Nat×(List UInt8→Bool)×(List UInt8→Bool))⊕(((List (List UInt8)))⊕((List (List UInt8))))):=(fun(s1:(List (List UInt8))×Int×Nat×(List UInt8→Bool)×(List UInt8→Bool))=>((Option.bind (if(decide (s1.2.1 < (s1.1.length:Int)))=true then(some (.inl ()))else(some (.inr (.inr (.inl s1.1))))) (onS fun(_:Unit)=>(Option.bind (Option.bind (Option.bind ((if 0≤s1.2.1 then(if s1.2.1 < (s1.1.length:Int)then(if s1.2.1.toNat < s1.1.length then((m25 a0 (s1.1.getD s1.2.1.toNat default)).bind fun r6_0=>some r6_0)else none)else none)else none)) fun(x6:((List T49)))=>(some (.inl (x6,(x6.length:Int))))) (onS fun(y2:(List T49)×Int)=>(loopO (lo19_1 y2) (s1.1,(0:Int),s1.2.2.1,s1.2.2.2.1,s1.2.2.2.2)))) (onS fun(y4:(List (List UInt8))×Nat×(List UInt8→Bool)×(List UInt8→Bool))=>(some (.inl (y4.1,(IntKind.wrap .i64 (s1.2.1+1)),y4.2.1,y4.2.2.1,y4.2.2.2))))))):Option (((List (List UInt8))×Int×Nat×(List UInt8→Bool)×(List UInt8→Bool))⊕(((List (List UInt8)))⊕((List (List UInt8)))))))
theorem A19 (a0:List T39) (a1:List UInt8):m19 a0 a1=((Option.bind (if(a1.length≤maxLen)then(if(0 < maxLen)then(Option.bind ((some ())) fun(x2:(Unit))=>(some (.inl ())))else none)else none) (onS fun(_:Unit)=>(Option.bind (Option.bind (some (.inl ())) (onS fun(_:Unit)=>(loopO (lo19_2 a0) (([a1]:List (List UInt8)),(0:Int),(if(fun _=>false) a1=true then 0 else 0+1),(fun q=>q==a1 || (fun _=>false) q),(fun q=>if q=a1 then true else(fun _=>false) q))))) (onS fun(y5:(List (List UInt8)))=>(Option.bind (Option.bind (msrts y5) fun r=>some r) fun x13=>(some (sortS y5))))))):Option ((List (List UInt8)))):=M19 _ _
variable {l:List T39} {P:List UInt8→T52} {fr:List UInt8} {D:List (List UInt8)} {F:List UInt8→T69}
structure RqI (l:List T39) (fr:List UInt8) (D:List (List UInt8)) (i j:Nat) (Q:List (List UInt8)) (n:Nat) (sf:List UInt8→Bool):Prop where
 nd:Q.Nodup
 sub:∀ x∈Q,x∈D
 st:fr∈Q
 cn:n≤Q.length
 hs:∀ q,sf q=true↔q∈Q
 le:i≤Q.length
 cl:∀ k,k < i→∀ h∈hopsL l (Q.getD k default),h.To∈Q
 cj:i < Q.length→∀ k,k < j→tgt l (Q.getD i default) k∈Q
theorem getD_app {α:Type} [Inhabited α] {a b:List α} {k:Nat} (h:k < a.length):(a++b).getD k default=a.getD k default:=by
 rw[List.getD_eq_getElem?_getD,List.getD_eq_getElem?_getD,List.getElem?_append_left h]
theorem rq_round (N:Nm l fr) (L:Lab l P fr D F) {i j n:Nat} {Q:List (List UInt8)} {h sf:List UInt8→Bool} (H:RqI l fr D i j Q n sf) (hi:i < Q.length) (hj:j < (hopsL l (Q.getD i default)).length) (hD:D.length≤2401) :
  ∃ R n' h' sf',lo19_1 (hopsL l (Q.getD i default),((hopsL l (Q.getD i default)).length:Int)) (Q,(j:Int),n,h,sf)=some (.inl (Q++R,((j+1:Nat):Int),n',h',sf'))∧RqI l fr D i (j+1) (Q++R) n' sf':=by
 have hlen:=hopsL_len N.wf (Q.getD i default)
 have hQ:=nodup_le H.nd H.sub
 have hn:n < maxLen:=by have h1:=H.cn;have:maxLen=9223372036854775807:=rfl;omega
 obtain⟨u,hu⟩:∃ u,Q.getD i default=u:=⟨_,rfl⟩
 rw[hu]at hj hlen ⊢
 obtain⟨t,ht⟩:∃ t,tgt l u j=t:=⟨_,rfl⟩
 have ht':((hopsL l u).getD j default).To=t:=ht
 have tr:=tgt_refs hj
 rw[ht]at tr
 have tl:t.length≤maxLen:=N.rf t tr.1
 have w1:IntKind.wrap .i64 ((j:Int)+1)=((j+1:Nat):Int):=by rw[wr1 hj (by omega)];omega
 have uD:u∈D:=H.sub u (by rw[← hu];exact getD_mem hi)
 have tD:t∈D:=by have:=(L.fe u uD _ tr.2).1;rw[ht']at this;exact this
 have p16:(Q.length+1) * 16≤140737488355328:=Nat.le_trans (Nat.mul_le_mul_right 16 (show Q.length+1≤2402 by omega)) (by decide)
 simp only[lo19_1,inL hj,decide_true,if_true,Int.toNat_natCast,ht',tl,hn,w1,p16,Option.bind_some]
 by_cases hs:sf t=true
 ·rw[hs]
  simp only[Bool.not_true,Bool.false_eq_true,if_false]
  refine⟨[],n,h,sf,by rw[List.append_nil],?_⟩
  rw[List.append_nil]
  refine { H with cj:=fun hi k hk=>?_ }
  by_cases e:k=j
  ·rw[e,hu,ht];exact(H.hs t).1 hs
  ·exact H.cj hi k (by omega)
 ·have hf:sf t=false:=by simpa using hs
  have tQ:t ∉ Q:=fun e=>hs ((H.hs t).2 e)
  rw[hf]
  simp only[Bool.not_false,if_true]
  refine⟨[t],_,_,_,rfl,?_⟩
  have mq:∀ x,x∈Q++[t]↔x∈Q∨x=t:=fun x=>by rw[List.mem_append,List.mem_singleton]
  refine⟨?_,?_,?_,?_,?_,?_,?_,?_⟩
  ·rw[List.nodup_append]
   exact⟨H.nd,by simp,fun a ha b hb e=>by rw[List.mem_singleton.1 hb]at e;exact tQ (e ▸ ha)⟩
  ·intro x hx
   rcases (mq x).1 hx with hx | rfl
   ·exact H.sub x hx
   ·exact tD
  ·exact(mq _).2 (.inl H.st)
  ·rw[List.length_append,List.length_singleton]
   have:=H.cn
   split<;>omega
  ·intro q
   rw[mq]
   by_cases e:q=t
   ·rw[if_pos e];exact⟨fun _=>.inr e,fun _=>rfl⟩
   ·rw[if_neg e,H.hs q];exact⟨.inl,fun h=>h.resolve_right e⟩
  ·rw[List.length_append];have:=H.le;omega
  ·intro k hk g hg
   rw[getD_app (by omega)]at hg
   exact(mq _).2 (.inl (H.cl k hk g hg))
  ·intro _ k hk
   rw[getD_app hi]
   by_cases e:k=j
   ·rw[e,hu,ht];exact(mq _).2 (.inr rfl)
   ·exact(mq _).2 (.inl (H.cj hi k (by omega)))
theorem rq_loop (N:Nm l fr) (L:Lab l P fr D F) {i n:Nat} {Q:List (List UInt8)} {h sf:List UInt8→Bool} (H:RqI l fr D i 0 Q n sf) (hi:i < Q.length) (hD:D.length≤2401) :
  ∃ x,loopO (lo19_1 (hopsL l (Q.getD i default),((hopsL l (Q.getD i default)).length:Int))) (Q,0,n,h,sf)=some x∧∃ Q' n' h' sf',x=.inl (Q',n',h',sf')∧RqI l fr D (i+1) 0 Q' n' sf':=by
 obtain⟨u,hu⟩:∃ u,Q.getD i default=u:=⟨_,rfl⟩
 rw[hu]
 have hlen:=hopsL_len N.wf u
 refine loop_meas (b:=lo19_1 (hopsL l u,((hopsL l u).length:Int))) (fun s=>∃ Q j n h sf,s=(Q,((j:Nat):Int),n,h,sf)∧j≤(hopsL l u).length∧i < Q.length∧Q.getD i default=u∧RqI l fr D i j Q n sf) (fun s=>((hopsL l u).length - s.2.1).toNat)
  (fun x=>∃ Q' n' h' sf',x=.inl (Q',n',h',sf')∧RqI l fr D (i+1) 0 Q' n' sf') (fun s hs=>?_) _ ⟨Q,0,n,h,sf,rfl,by omega,hi,hu,H⟩
 obtain⟨Q,j,n,h,sf,rfl,hj,hi,hu,H⟩:=hs
 by_cases hlt:j < (hopsL l u).length
 ·have key:=rq_round N L (h:=h) H hi (by rw[hu];exact hlt) hD
  rw[hu]at key
  obtain⟨R,n',h',sf',e,H'⟩:=key
  exact .inl ⟨_,e,⟨Q++R,j+1,n',h',sf',rfl,hlt,by rw[List.length_append];omega,by rw[getD_app hi];exact hu,H'⟩,by simp only;omega⟩
 ·obtain rfl:j=(hopsL l u).length:=by omega
  refine .inr ⟨.inl (Q,n,h,sf),?_,Q,n,h,sf,rfl,⟨H.nd,H.sub,H.st,H.cn,H.hs,by omega,fun k hk g hg=>?_,fun _ k hk=>absurd hk (Nat.not_lt_zero k)⟩⟩
  ·simp only[lo19_1,lt_irr,decide_false,Bool.false_eq_true,if_false]
  ·by_cases e:k=i
   ·rw[e,hu]at hg
    obtain⟨z,hz,ez⟩:=mem_getD hg
    have:=H.cj hi z hz
    rw[hu]at this
    unfold tgt at this
    rw[ez]at this;exact this
   ·exact H.cl k (by omega) g hg
theorem ro_loop (N:Nm l fr) (L:Lab l P fr D F) (hD:D.length≤2401) {i n:Nat} {Q:List (List UInt8)} {h sf:List UInt8→Bool} (H:RqI l fr D i 0 Q n sf) :
  ∃ x,loopO (lo19_2 l) (Q,(i:Int),n,h,sf)=some x∧∃ Q' n' sf',x=.inl Q'∧RqI l fr D Q'.length 0 Q' n' sf':=by
 refine loop_meas (b:=lo19_2 l) (fun s=>∃ Q i n h sf,s=(Q,((i:Nat):Int),n,h,sf)∧RqI l fr D i 0 Q n sf) (fun s=>(2402 - s.2.1).toNat)
  (fun x=>∃ Q' n' sf',x=.inl Q'∧RqI l fr D Q'.length 0 Q' n' sf') (fun s hs=>?_) _ ⟨Q,i,n,h,sf,rfl,H⟩
 obtain⟨Q,i,n,h,sf,rfl,H⟩:=hs
 have hQ:=nodup_le H.nd H.sub
 have hi:=H.le
 by_cases hlt:i < Q.length
 ·obtain⟨x,e,Q',n',h',sf',rfl,H'⟩:=rq_loop N L (h:=h) H hlt hD
  refine .inl ⟨(Q',((i+1:Nat):Int),n',h',sf'),?_,⟨Q',i+1,n',h',sf',rfl,H'⟩,by simp only;omega⟩
  have w1:IntKind.wrap .i64 ((i:Int)+1)=((i+1:Nat):Int):=by rw[wr1 hlt (by omega)];omega
  have hc:m25 l (Q.getD i default)=some (hopsL l (Q.getD i default)):=hops_eq N.wf _
  refine on_l (y:=()) (if_pos (decide_eq_true (by show (i:Int) < (Q.length:Int);omega))) (on_l (y:=(Q',n',h',sf')) (on_l (y:=(hopsL l (Q.getD i default),((hopsL l (Q.getD i default)).length:Int))) ?_ e) ?_)
  ·simp only[Int.toNat_natCast]
   rw[if_pos (by omega),if_pos (by omega),if_pos (by omega)]
   exact bind_to (bind_to hc rfl) rfl
  ·simp only[w1]
 ·obtain rfl:i=Q.length:=by omega
  refine .inr ⟨.inl Q,?_,Q,n,sf,rfl,H⟩
  simp only[lo19_2,lt_irr,decide_false,Bool.false_eq_true,if_false,Option.bind_some,onS]
theorem reach_eq (N:Nm l fr) (L:Lab l P fr D F) (hn:D.Nodup):∃ R,m19 l fr=some R∧R.Nodup∧R.Pairwise (·≤·)∧∀ x,x∈R↔x∈D:=by
 have hD:=keys_len N.wf hn L.key
 have H0:RqI l fr D 0 0 [fr] (if(fun _=>false) fr=true then 0 else 0+1) (fun q=>if q=fr then true else(fun _=>false) q):=by
  refine⟨by simp,fun x hx=>?_,by simp,by simp,fun q=>?_,by omega,fun k hk=>absurd hk (Nat.not_lt_zero k),fun _ k hk=>absurd hk (Nat.not_lt_zero k)⟩
  ·rw[List.mem_singleton.1 hx];exact L.st
  ·rw[List.mem_singleton];by_cases e:q=fr
   ·rw[if_pos e];exact⟨fun _=>e,fun _=>rfl⟩
   ·rw[if_neg e];exact⟨fun h=>(by cases h),fun h=>absurd h e⟩
 obtain⟨x,e,Q,n,sf,rfl,H⟩:=ro_loop N L hD (h:=fun q=>q==fr || (fun _=>false) q) H0
 have hQ:=nodup_le H.nd H.sub
 have hm:msrts Q=some ():=by unfold msrts;rw[if_pos (by omega)]
 refine⟨sortS Q,?_,?_,?_,fun x=>?_⟩
 ·rw[A19]
  refine on_l (y:=()) ?_ (on_l (on_l (y:=()) rfl e) (bind_to (bind_to hm rfl) rfl))
  rw[if_pos N.fr,if_pos (by decide)];rfl
 ·exact(sortS_perm Q).nodup_iff.2 H.nd
 ·have:=List.pairwise_mergeSort (le:=fun x y:List UInt8=>decide (x≤y)) (fun a b c h1 h2=>by simp only[decide_eq_true_eq]at *;exact List.le_trans h1 h2) (fun a b=>by
   simp only[Bool.or_eq_true,decide_eq_true_eq];exact List.le_total a b) Q
  exact this.imp fun h=>by simpa using h
 ·rw[(sortS_perm Q).mem_iff]
  refine⟨H.sub x,?_⟩
  have cl:∀ u∈Q,∀ h∈hopsL l u,h.To∈Q:=fun u hu h hh=>by
   obtain⟨k,hk,rfl⟩:=mem_getD hu
   exact H.cl k hk h hh
  have key:∀ n:Nat,∀ x∈D,(F x).Hops=n→x∈Q:=by
   intro n
   induction n with
   | zero =>
    intro x hx h0
    rcases L.tight x hx with⟨h,_⟩ | ⟨u,hu,_,_,h⟩
    ·rw[h];exact H.st
    ·have:=(L.good u hu).2.1;omega
   | succ n ih =>
    intro x hx h0
    rcases L.tight x hx with⟨h,_⟩ | ⟨u,hu,⟨g,hg,rfl⟩,_,h⟩
    ·rw[h];exact H.st
    ·exact cl u (ih u hu (by omega)) g hg
  intro hx
  have h0:=(L.good x hx).2.1
  exact key (F x).Hops.toNat x hx (by omega)
end Go.Av.Air
namespace Go.Av
theorem bs {α β:Type} {a:α} {f:α→Option β}:Option.bind (some a) f=f a:=Eq.mpr rfl rfl
theorem oe {R:Type} {r:R}:onE (.inr r)=some r:=Eq.mpr rfl rfl
theorem loop_st {S X : Type} {b : S → Option (S ⊕ X)} (n : Nat) (st : Nat → S) (out : X) (hs : ∀ i, i < n → b (st i) = some (.inl (st (i + 1)))) (he : b (st n) = some (.inr out)) : loopO b (st 0) = some out := by
  have key : ∀ k i, i + k = n → loopO b (st i) = some out := by
    intro k
    induction k with
    | zero => intro i h; obtain rfl : i = n := by omega
              rw [loopO_eq, he]; rfl
    | succ k ih => intro i h; rw [loopO_eq, hs i (by omega)]; exact ih (i + 1) (by omega)
  exact key n 0 (by omega)
end Go.Av
set_option maxRecDepth 100000
namespace Go.Av.Air
theorem M21o0 (a0:List T49):m21o0 a0=((Option.bind (some (.inl ())) (onS fun(_:Unit)=>(loopO (fun(s1:(List T49)×Int×Int)=>((if(decide (s1.2.1 < s1.2.2))=true then(if(0≤s1.2.2)then(if(s1.2.2 < (a0.length:Int))then(if(s1.2.2.toNat < a0.length)then(if(0≤s1.2.1)then(if(s1.2.1 < (a0.length:Int))then(if(s1.2.1.toNat < a0.length)then(if(0≤s1.2.1)then(if(s1.2.1 < (a0.length:Int))then(if(s1.2.1.toNat < a0.length)then(if(0≤s1.2.2)then(if(s1.2.2 < (a0.length:Int))then(if(s1.2.2.toNat < a0.length)then(some (.inl ((((subL s1.1 0 a0.length).set s1.2.1.toNat (s1.1.getD s1.2.2.toNat default)).set s1.2.2.toNat (s1.1.getD s1.2.1.toNat default)),(IntKind.wrap .i64 (s1.2.1+1)),(IntKind.wrap .i64 (s1.2.2 - 1)))))else none)else none)else none)else none)else none)else none)else none)else none)else none)else none)else none)else none)else(some (.inr (s1.1)))):Option (((List T49)×Int×Int)⊕((List T49))))) (a0,(0:Int),(IntKind.wrap .i64 ((a0.length:Int) - (1:Int))))))):Option ((List T49))):=by kernel_rfl
noncomputable abbrev lo21o0_1 (a0:List T49):((List T49)×Int×Int)→Option (((List T49)×Int×Int)⊕((List T49))):=(fun(s1:(List T49)×Int×Int)=>((if(decide (s1.2.1 < s1.2.2))=true then(if(0≤s1.2.2)then(if(s1.2.2 < (a0.length:Int))then(if(s1.2.2.toNat < a0.length)then(if(0≤s1.2.1)then(if(s1.2.1 < (a0.length:Int))then(if(s1.2.1.toNat < a0.length)then(if(0≤s1.2.1)then(if(s1.2.1 < (a0.length:Int))then(if(s1.2.1.toNat < a0.length)then(if(0≤s1.2.2)then(if(s1.2.2 < (a0.length:Int))then(if(s1.2.2.toNat < a0.length)then(some (.inl ((((subL s1.1 0 a0.length).set s1.2.1.toNat (s1.1.getD s1.2.2.toNat default)).set s1.2.2.toNat (s1.1.getD s1.2.1.toNat default)),(IntKind.wrap .i64 (s1.2.1+1)),(IntKind.wrap .i64 (s1.2.2 - 1)))))else none)else none)else none)else none)else none)else none)else none)else none)else none)else none)else none)else none)else(some (.inr (s1.1)))):Option (((List T49)×Int×Int)⊕((List T49)))))
theorem A21o0 (a0:List T49):m21o0 a0=((Option.bind (some (.inl ())) (onS fun(_:Unit)=>(loopO (lo21o0_1 a0) (a0,(0:Int),(IntKind.wrap .i64 ((a0.length:Int) - (1:Int))))))):Option ((List T49))):=M21o0 _
theorem M20o0 (a0:List T39) (a1:List (List UInt8)) (a2:T69) (a3:Nat) (a4:(List UInt8→Bool)) (a5:(List UInt8→T52)) (a6:Nat) (a7:(List UInt8→Bool)) (a8:(List UInt8→T69)) (a9:List T49) (a10:Int) (a11:List T69):m20o0 a0 a1 a2 a3 a4 a5 a6 a7 a8 a9 a10 a11=((Option.bind (some (.inl ())) (onS fun(_:Unit)=>(Option.bind (Option.bind (some (.inl ())) (onS fun(_:Unit)=>(loopO (fun(s1:Int)=>((Option.bind (if(decide (s1 < (a1.length:Int)))=true then(some (.inl ()))else(some (.inr (.inr (.inl ()))))) (onS fun(_:Unit)=>(Option.bind (Option.bind (if(0≤s1)then(if(s1 < (a1.length:Int))then(if((a1.getD s1.toNat default).length≤maxLen)then(Option.bind (((if(!((a8 (a1.getD s1.toNat default)).Hops != (IntKind.wrap .i64 (a2.Hops - 1))))=true then m37o1 (a1.getD s1.toNat default) a2.Ref a3 a4 a5 else some default).bind fun r5_0=>some r5_0)) fun(x5:(Int))=>(if(((a8 (a1.getD s1.toNat default)).Hops != (IntKind.wrap .i64 (a2.Hops - 1))) || ((IntKind.wrap .i64 ((a8 (a1.getD s1.toNat default)).Length+x5)) != a2.Length))=true then(some (.inr (.inl ())))else(Option.bind (Option.bind (m25 a0 (a1.getD s1.toNat default)) fun r=>some r) fun x6=>(some (.inl (x6,(x6.length:Int)))))))else none)else none)else none) (onS fun(y2:(List T49)×Int)=>(loopO (fun(s3:Int)=>((if(decide (s3 < y2.2))=true then(if(0≤s3)then(if(s3 < (y2.1.length:Int))then(if((y2.1.getD s3.toNat default).To==a2.Ref)=true then(Option.bind ((if(a9.length+1) * 48≤140737488355328 then some ()else none)) fun(x10:(Unit))=>(some (.inr (.inr (.inr (.inr (((a8 (a1.getD s1.toNat default)).Ref,(a8 (a1.getD s1.toNat default)).Length,(a8 (a1.getD s1.toNat default)).Hops,(a9++([(y2.1.getD s3.toNat default)]:List T49))))))))))else(some (.inl (IntKind.wrap .i64 (s3+1)))))else none)else none)else(some (.inr (.inl ())))):Option ((Int)⊕((Unit)⊕((Int)⊕((Unit)⊕((List UInt8)×Int×Int×(List T49)))))))) (0:Int)))) (onS fun(_:Unit)=>(some (.inl (IntKind.wrap .i64 (s1+1)))))))):Option ((Int)⊕((Unit)⊕((List UInt8)×Int×Int×(List T49)))))) (0:Int)))) (onS fun(_:Unit)=>(some (([]:List UInt8),(0:Int),(0:Int),a9)))))):Option ((List UInt8)×Int×Int×(List T49))):=by kernel_rfl
noncomputable abbrev lo20o0_1 (y2:(List T49)×Int) (a2:T69) (a9:List T49) (a8:(List UInt8→T69)) (a1:List (List UInt8)) (s1:Int):(Int)→Option ((Int)⊕((Unit)⊕((Int)⊕((Unit)⊕((List UInt8)×Int×Int×(List T49)))))):=(fun(s3:Int)=>((if(decide (s3 < y2.2))=true then(if(0≤s3)then(if(s3 < (y2.1.length:Int))then(if((y2.1.getD s3.toNat default).To==a2.Ref)=true then(Option.bind ((if(a9.length+1) * 48≤140737488355328 then some ()else none)) fun(x10:(Unit))=>(some (.inr (.inr (.inr (.inr (((a8 (a1.getD s1.toNat default)).Ref,(a8 (a1.getD s1.toNat default)).Length,(a8 (a1.getD s1.toNat default)).Hops,(a9++([(y2.1.getD s3.toNat default)]:List T49))))))))))else(some (.inl (IntKind.wrap .i64 (s3+1)))))else none)else none)else(some (.inr (.inl ())))):Option ((Int)⊕((Unit)⊕((Int)⊕((Unit)⊕((List UInt8)×Int×Int×(List T49))))))))
noncomputable abbrev lo20o0_2 (a1:List (List UInt8)) (a8:(List UInt8→T69)) (a2:T69) (a3:Nat) (a4:(List UInt8→Bool)) (a5:(List UInt8→T52)) (a0:List T39) (a9:List T49):(Int)→Option ((Int)⊕((Unit)⊕((List UInt8)×Int×Int×(List T49)))):=(fun(s1:Int)=>((Option.bind (if(decide (s1 < (a1.length:Int)))=true then(some (.inl ()))else(some (.inr (.inr (.inl ()))))) (onS fun(_:Unit)=>(Option.bind (Option.bind (if(0≤s1)then(if(s1 < (a1.length:Int))then(if((a1.getD s1.toNat default).length≤maxLen)then(Option.bind (((if(!((a8 (a1.getD s1.toNat default)).Hops != (IntKind.wrap .i64 (a2.Hops - 1))))=true then m37o1 (a1.getD s1.toNat default) a2.Ref a3 a4 a5 else some default).bind fun r5_0=>some r5_0)) fun(x5:(Int))=>(if(((a8 (a1.getD s1.toNat default)).Hops != (IntKind.wrap .i64 (a2.Hops - 1))) || ((IntKind.wrap .i64 ((a8 (a1.getD s1.toNat default)).Length+x5)) != a2.Length))=true then(some (.inr (.inl ())))else(Option.bind (Option.bind (m25 a0 (a1.getD s1.toNat default)) fun r=>some r) fun x6=>(some (.inl (x6,(x6.length:Int)))))))else none)else none)else none) (onS fun(y2:(List T49)×Int)=>(loopO (lo20o0_1 y2 a2 a9 a8 a1 s1) (0:Int)))) (onS fun(_:Unit)=>(some (.inl (IntKind.wrap .i64 (s1+1)))))))):Option ((Int)⊕((Unit)⊕((List UInt8)×Int×Int×(List T49))))))
theorem A20o0 (a0:List T39) (a1:List (List UInt8)) (a2:T69) (a3:Nat) (a4:(List UInt8→Bool)) (a5:(List UInt8→T52)) (a6:Nat) (a7:(List UInt8→Bool)) (a8:(List UInt8→T69)) (a9:List T49) (a10:Int) (a11:List T69):m20o0 a0 a1 a2 a3 a4 a5 a6 a7 a8 a9 a10 a11=((Option.bind (some (.inl ())) (onS fun(_:Unit)=>(Option.bind (Option.bind (some (.inl ())) (onS fun(_:Unit)=>(loopO (lo20o0_2 a1 a8 a2 a3 a4 a5 a0 a9) (0:Int)))) (onS fun(_:Unit)=>(some (([]:List UInt8),(0:Int),(0:Int),a9)))))):Option ((List UInt8)×Int×Int×(List T49))):=M20o0 _ _ _ _ _ _ _ _ _ _ _ _
theorem M6 (a0:List T39) (a1:List T54) (a2 a3:List UInt8):m6 a0 a1 a2 a3=((orJ (Option.bind (Option.bind (Option.bind (m17o1 a0 a1 a2 a3) fun r=>some r) fun x1=>(if(x1 != 0)=true then(some (.inr (((⟨[],(0:Int),[]⟩:T31),x1))))else(Option.bind (none) fun(x4:(Unit))=>none))) (onS fun(y:Empty)=>none)) (Option.bind (Option.bind (Option.bind (m17o2 a0 a1 a2 a3) fun r=>some r) fun x1=>(if((0:Int) != (0:Int))=true then(some (.inr (((⟨[],(0:Int),[]⟩:T31),(0:Int)))))else(Option.bind (((m18o1 a0 a2 x1.1 x1.2.1 x1.2.2).bind fun r4_0=>some (r4_0,x1))) fun(x4:((Nat×(List UInt8→Bool)×(List UInt8→T69))×(Nat×(List UInt8→Bool)×(List UInt8→T52))))=>(if(a3.length≤maxLen)then(if(!(x4.1.2.1 a3))=true then(some (.inr (((⟨[],(0:Int),[]⟩:T31),(10:Int)))))else(Option.bind (Option.bind (m19 a0 a2) fun r=>some r) fun x9=>(some (.inl (x9,x4.2.1,x4.2.2.1,x4.2.2.2,x4.1.1,x4.1.2.1,x4.1.2.2,(x4.1.2.2 a3).Ref,(x4.1.2.2 a3).Length,(x4.1.2.2 a3).Hops,(x4.1.2.2 a3).Length)))))else none)))) (onS fun(y1:(List (List UInt8))×Nat×(List UInt8→Bool)×(List UInt8→T52)×Nat×(List UInt8→Bool)×(List UInt8→T69)×(List UInt8)×Int×Int×Int)=>(Option.bind (Option.bind (some (.inl ())) (onS fun(_:Unit)=>(loopO (fun(s2:Int×(List T69))=>((if(decide (s2.1 < (y1.1.length:Int)))=true then(if(0≤s2.1)then(if(s2.1 < (y1.1.length:Int))then(Option.bind ((if(y1.1.getD s2.1.toNat default).length≤maxLen then(if(s2.2.length+1) * 32≤140737488355328 then some ()else none)else none)) fun(x13:(Unit))=>(some (.inl ((IntKind.wrap .i64 (s2.1+1)),(s2.2++([(y1.2.2.2.2.2.2.1 (y1.1.getD s2.1.toNat default))]:List T69))))))else none)else none)else(some (.inr (.inl s2.2)))):Option ((Int×(List T69))⊕(((List T69))⊕(T31×Int))))) ((0:Int),([]:List T69))))) (onS fun(y3:(List T69))=>(Option.bind (Option.bind (some (.inl ())) (onS fun(_:Unit)=>(loopO (fun(s4:(List T49)×(List UInt8)×Int×Int)=>((if(decide (0 < s4.2.2.2))=true then(Option.bind (Option.bind (m20o0 a0 y1.1 (⟨s4.2.1,s4.2.2.1,s4.2.2.2⟩:T69) y1.2.1 y1.2.2.1 y1.2.2.2.1 y1.2.2.2.2.1 y1.2.2.2.2.2.1 y1.2.2.2.2.2.2.1 s4.1 y1.2.2.2.2.2.2.2.2.2.2 y3) fun r=>some r) fun x17=>(some (.inl (x17.2.2.2,x17.1,x17.2.1,x17.2.2.1))))else(some (.inr (.inl s4.1)))):Option (((List T49)×(List UInt8)×Int×Int)⊕(((List T49))⊕(T31×Int))))) (([]:List T49),y1.2.2.2.2.2.2.2.1,y1.2.2.2.2.2.2.2.2.1,y1.2.2.2.2.2.2.2.2.2.1)))) (onS fun(y5:(List T49))=>(Option.bind (Option.bind (m21o0 y5) fun r=>some r) fun x20=>(some ((⟨(subL x20 0 y5.length),y1.2.2.2.2.2.2.2.2.2.2,y3⟩:T31),(0:Int))))))))))):Option (T31×Int)):=by kernel_rfl
noncomputable abbrev lo6_1 (a0:List T39) (y1:(List (List UInt8))×Nat×(List UInt8→Bool)×(List UInt8→T52)×Nat×(List UInt8→Bool)×(List UInt8→T69)×(List UInt8)×Int×Int×Int) (y3:(List T69)):((List T49)×(List UInt8)×Int×Int)→Option (((List T49)×(List UInt8)×Int×Int)⊕(((List T49))⊕(T31×Int))):=(fun(s4:(List T49)×(List UInt8)×Int×Int)=>((if(decide (0 < s4.2.2.2))=true then(Option.bind (Option.bind (m20o0 a0 y1.1 (⟨s4.2.1,s4.2.2.1,s4.2.2.2⟩:T69) y1.2.1 y1.2.2.1 y1.2.2.2.1 y1.2.2.2.2.1 y1.2.2.2.2.2.1 y1.2.2.2.2.2.2.1 s4.1 y1.2.2.2.2.2.2.2.2.2.2 y3) fun r=>some r) fun x17=>(some (.inl (x17.2.2.2,x17.1,x17.2.1,x17.2.2.1))))else(some (.inr (.inl s4.1)))):Option (((List T49)×(List UInt8)×Int×Int)⊕(((List T49))⊕(T31×Int)))))
noncomputable abbrev lo6_2 (y1:(List (List UInt8))×Nat×(List UInt8→Bool)×(List UInt8→T52)×Nat×(List UInt8→Bool)×(List UInt8→T69)×(List UInt8)×Int×Int×Int):(Int×(List T69))→Option ((Int×(List T69))⊕(((List T69))⊕(T31×Int))):=(fun(s2:Int×(List T69))=>((if(decide (s2.1 < (y1.1.length:Int)))=true then(if(0≤s2.1)then(if(s2.1 < (y1.1.length:Int))then(Option.bind ((if(y1.1.getD s2.1.toNat default).length≤maxLen then(if(s2.2.length+1) * 32≤140737488355328 then some ()else none)else none)) fun(x13:(Unit))=>(some (.inl ((IntKind.wrap .i64 (s2.1+1)),(s2.2++([(y1.2.2.2.2.2.2.1 (y1.1.getD s2.1.toNat default))]:List T69))))))else none)else none)else(some (.inr (.inl s2.2)))):Option ((Int×(List T69))⊕(((List T69))⊕(T31×Int)))))
theorem A6 (a0:List T39) (a1:List T54) (a2 a3:List UInt8):m6 a0 a1 a2 a3=((orJ (Option.bind (Option.bind (Option.bind (m17o1 a0 a1 a2 a3) fun r=>some r) fun x1=>(if(x1 != 0)=true then(some (.inr (((⟨[],(0:Int),[]⟩:T31),x1))))else(Option.bind (none) fun(x4:(Unit))=>none))) (onS fun(y:Empty)=>none)) (Option.bind (Option.bind (Option.bind (m17o2 a0 a1 a2 a3) fun r=>some r) fun x1=>(if((0:Int) != (0:Int))=true then(some (.inr (((⟨[],(0:Int),[]⟩:T31),(0:Int)))))else(Option.bind (((m18o1 a0 a2 x1.1 x1.2.1 x1.2.2).bind fun r4_0=>some (r4_0,x1))) fun(x4:((Nat×(List UInt8→Bool)×(List UInt8→T69))×(Nat×(List UInt8→Bool)×(List UInt8→T52))))=>(if(a3.length≤maxLen)then(if(!(x4.1.2.1 a3))=true then(some (.inr (((⟨[],(0:Int),[]⟩:T31),(10:Int)))))else(Option.bind (Option.bind (m19 a0 a2) fun r=>some r) fun x9=>(some (.inl (x9,x4.2.1,x4.2.2.1,x4.2.2.2,x4.1.1,x4.1.2.1,x4.1.2.2,(x4.1.2.2 a3).Ref,(x4.1.2.2 a3).Length,(x4.1.2.2 a3).Hops,(x4.1.2.2 a3).Length)))))else none)))) (onS fun(y1:(List (List UInt8))×Nat×(List UInt8→Bool)×(List UInt8→T52)×Nat×(List UInt8→Bool)×(List UInt8→T69)×(List UInt8)×Int×Int×Int)=>(Option.bind (Option.bind (some (.inl ())) (onS fun(_:Unit)=>(loopO (lo6_2 y1) ((0:Int),([]:List T69))))) (onS fun(y3:(List T69))=>(Option.bind (Option.bind (some (.inl ())) (onS fun(_:Unit)=>(loopO (lo6_1 a0 y1 y3) (([]:List T49),y1.2.2.2.2.2.2.2.1,y1.2.2.2.2.2.2.2.2.1,y1.2.2.2.2.2.2.2.2.2.1)))) (onS fun(y5:(List T49))=>(Option.bind (Option.bind (m21o0 y5) fun r=>some r) fun x20=>(some ((⟨(subL x20 0 y5.length),y1.2.2.2.2.2.2.2.2.2.2,y3⟩:T31),(0:Int))))))))))):Option (T31×Int)):=M6 _ _ _ _
theorem list_eq_iff {α:Type} [Inhabited α] {a b:List α} (h:a.length=b.length):a=b↔∀ i,i < a.length→a.getD i default=b.getD i default:=by
 constructor
 ·intro e i _;rw[e]
 ·intro k
  apply List.ext_getElem h
  intro i h1 h2
  have:=k i h1
  simpa [List.getD_eq_getElem?_getD,List.getElem?_eq_getElem h1,List.getElem?_eq_getElem h2] using this
def xsR {α:Type} [Inhabited α] (l:List α) (i:Nat):List α:=(List.range l.length).map fun k=>if k < i∨l.length - 1 - i < k then l.getD (l.length - 1 - k) default else l.getD k default
theorem xsR_len {α:Type} [Inhabited α] (l:List α) (i:Nat):(xsR l i).length=l.length:=by simp[xsR]
theorem xsR_at {α:Type} [Inhabited α] {l:List α} {i k:Nat} (hk:k < l.length):(xsR l i).getD k default=if k < i∨l.length - 1 - i < k then l.getD (l.length - 1 - k) default else l.getD k default:=by
 simp[xsR,List.getD_eq_getElem?_getD,hk]
theorem getD_setL {α:Type} [Inhabited α] {l:List α} {i k:Nat} {a:α} (hi:i < l.length):(l.set i a).getD k default=if k=i then a else l.getD k default:=by
 simp only[List.getD_eq_getElem?_getD,List.getElem?_set]
 by_cases h:i=k
 ·subst h;simp[hi]
 ·have:¬ k=i:=fun e=>h e.symm
  simp[h,this]
theorem xsR_0 {α:Type} [Inhabited α] (l:List α):xsR l 0=l:=by
 rw[list_eq_iff (xsR_len l 0)]
 intro i hi
 rw[xsR_len]at hi
 rw[xsR_at hi,if_neg (by omega)]
theorem xsR_step {α:Type} [Inhabited α] {l:List α} {i:Nat} (h:2 * i+1 < l.length):((xsR l i).set i ((xsR l i).getD (l.length - 1 - i) default)).set (l.length - 1 - i) ((xsR l i).getD i default)=xsR l (i+1):=by
 have hn:=xsR_len l i
 rw[list_eq_iff (by simp only[List.length_set,xsR_len])]
 intro k hk
 simp only[List.length_set,xsR_len]at hk
 rw[getD_setL (by simp only[List.length_set];omega),getD_setL (by omega),xsR_at hk,xsR_at hk,xsR_at (show i < l.length by omega),xsR_at (show l.length - 1 - i < l.length by omega)]
 by_cases h1:k=l.length - 1 - i
 ·subst h1
  rw[if_pos rfl,if_neg (by omega),if_pos (by omega)]
  congr 1;omega
 ·rw[if_neg h1]
  by_cases h2:k=i
  ·subst h2
   rw[if_pos rfl,if_neg (by omega),if_pos (by omega)]
  ·rw[if_neg h2]
   by_cases h3:k < i∨l.length - 1 - i < k
   ·rw[if_pos h3,if_pos (by omega)]
   ·rw[if_neg h3,if_neg (by omega)]
theorem xsR_end {α:Type} [Inhabited α] {l:List α} {i:Nat} (h1:l.length≤2 * i+1) (h2:2 * i≤l.length):xsR l i=l.reverse:=by
 rw[list_eq_iff (by rw[xsR_len];simp)]
 intro k hk
 rw[xsR_len]at hk
 rw[xsR_at hk]
 have e:l.reverse.getD k default=l.getD (l.length - 1 - k) default:=by
  simp[List.getD_eq_getElem?_getD,List.getElem?_reverse hk]
 rw[e]
 by_cases h:k < i∨l.length - 1 - i < k
 ·rw[if_pos h]
 ·rw[if_neg h]
  congr 1;omega
theorem rev_eq (l:List T49) (hl:l.length≤1000000):m21o0 l=some l.reverse:=by
 rw[A21o0]
 refine on_l (y:=()) rfl ?_
 by_cases h0:l.length=0
 ·have:l=[]:=List.length_eq_zero_iff.1 h0
  subst this
  rfl
 have w0:IntKind.wrap .i64 ((l.length:Int) - 1)=(l.length:Int) - 1:=w64 (by omega) (by omega)
 rw[w0]
 rw[show ((l,(0:Int),(l.length:Int) - 1):List T49×Int×Int)=(xsR l 0,((0:Nat):Int),(l.length:Int) - 1 - ((0:Nat):Int)) from by rw[xsR_0];simp]
 refine loop_st (l.length / 2) (fun i=>(xsR l i,(i:Int),(l.length:Int) - 1 - (i:Int))) l.reverse (fun i hi=>?_) ?_
 ·have h1:2 * i+1 < l.length:=by omega
  have j0:((l.length:Int) - 1 - (i:Int))=((l.length - 1 - i:Nat):Int):=by omega
  have hs:subL (xsR l i) 0 l.length=xsR l i:=subL_all (xsR_len l i)
  have c1:decide ((i:Int) < ((l.length - 1 - i:Nat):Int))=true:=by simp;omega
  have c2:=inL (show i < l.length by omega)
  have c3:=inL (show l.length - 1 - i < l.length by omega)
  have c4:(i < l.length)=True:=eq_true (by omega)
  have c5:(l.length - 1 - i < l.length)=True:=eq_true (by omega)
  have w1:IntKind.wrap .i64 ((i:Int)+1)=((i+1:Nat):Int):=by rw[w64 (by omega) (by omega)];omega
  have w2:IntKind.wrap .i64 (((l.length - 1 - i:Nat):Int) - 1)=(l.length:Int) - 1 - ((i+1:Nat):Int):=by rw[w64 (by omega) (by omega)];omega
  simp only[lo21o0_1,j0,c1,c2,c3,c4,c5,if_true,Int.toNat_natCast,hs,w1,w2,xsR_step h1]
 ·have c1:decide (((l.length / 2:Nat):Int) < (l.length:Int) - 1 - ((l.length / 2:Nat):Int))=false:=by simp;omega
  simp only[lo21o0_1,c1,Bool.false_eq_true,if_false,xsR_end (l:=l) (i:=l.length / 2) (by omega) (by omega)]
variable {l:List T39} {P:List UInt8→T52} {fr:List UInt8} {D:List (List UInt8)} {F:List UInt8→T69}
def Ahead (l:List T39) (P:List UInt8→T52) (F:List UInt8→T69) (k u:List UInt8) (g:T49):Prop:=g∈hopsL l u∧g.To=k∧(F k).Length=(F u).Length+lenP P u k∧(F k).Hops=(F u).Hops+1
theorem bk_inner (N:Nm l fr) {R:List (List UInt8)} {k u:List UInt8} {i:Nat} (hu:R.getD i default=u) {acc:List T49} (ha:acc.length≤3000) (hr:(F u).Ref=u) (hk:(F k).Ref=k) :
  (∃ g,g∈hopsL l u∧g.To=k∧(loopO (lo20o0_1 (hopsL l u,((hopsL l u).length:Int)) (F k) acc F R (i:Int)) 0).bind (onS fun _=>some (.inl (IntKind.wrap .i64 ((i:Int)+1))))=some (.inr (.inr (u,(F u).Length,(F u).Hops,acc++[g]))))
  ∨ ((∀ g,g∈hopsL l u→g.To≠k)∧(loopO (lo20o0_1 (hopsL l u,((hopsL l u).length:Int)) (F k) acc F R (i:Int)) 0).bind (onS fun _=>some (.inl (IntKind.wrap .i64 ((i:Int)+1))))=some (.inl (IntKind.wrap .i64 ((i:Int)+1)))):=by
 have hlen:=hopsL_len N.wf u
 have p48:(acc.length+1) * 48≤140737488355328:=Nat.le_trans (Nat.mul_le_mul_right 48 (show acc.length+1≤3001 by omega)) (by decide)
 have key:=loop_ex (k:=fun _=>some (.inl (IntKind.wrap .i64 ((i:Int)+1)))) (b:=lo20o0_1 (hopsL l u,((hopsL l u).length:Int)) (F k) acc F R (i:Int)) (hopsL l u).length
  (fun j=>if(((hopsL l u).getD j default).To==k)=true then some (.inr (.inr (u,(F u).Length,(F u).Hops,acc++[(hopsL l u).getD j default])))else none) (fun j hj=>by
   simp only[exB_ite,exB_some,exB_none]
   simp only[lo20o0_1,inL hj,decide_true,Int.toNat_natCast,if_true,p48,Option.bind_some,wr1 hj (by omega),hu,hr,hk]) (by simp only[lo20o0_1,lt_irr,decide_false,Bool.false_eq_true,if_false])
 rw[key]
 cases hf:firstR (fun j=>if(((hopsL l u).getD j default).To==k)=true then some ((.inr (.inr (u,(F u).Length,(F u).Hops,acc++[(hopsL l u).getD j default]))):Int⊕(Unit⊕(List UInt8×Int×Int×List T49)))else none) (hopsL l u).length with
 | none =>
  refine .inr ⟨fun g hg e=>?_,rfl⟩
  obtain⟨j,hj,rfl⟩:=mem_getD hg
  have:=firstR_none.1 hf j hj
  rw[if_pos (by simpa using e)]at this
  cases this
 | some y =>
  obtain⟨j,hj,hy⟩:=firstR_some hf
  split at hy
  ·rename_i he
   have hy:=Option.some.inj hy
   subst hy
   exact .inl ⟨_,getD_mem hj,by simpa using he,rfl⟩
  ·cases hy
theorem back_eq (N:Nm l fr) (L:Lab l P fr D F) {R:List (List UInt8)} (hR:∀ x,x∈R↔x∈D) (hn:R.length≤2401) {k:List UInt8} (hk:k∈D) (h0:0 < (F k).Hops) (an:Nat) (ah:List UInt8→Bool) (dn:Nat) (dh:List UInt8→Bool) {acc:List T49} (ha:acc.length≤3000) (wl:Int) (wL:List T69) :
  ∃ u g,u∈D∧Ahead l P F k u g∧m20o0 l R (F k) an ah P dn dh F acc wl wL=some (u,(F u).Length,(F u).Hops,acc++[g]):=by
 obtain⟨gk1,gk2,gk3,gk4,gk5⟩:=L.good k hk
 have kl:k.length≤maxLen:=N.key (L.key k hk)
 have wh:IntKind.wrap .i64 ((F k).Hops - 1)=(F k).Hops - 1:=w64 (by omega) (by omega)
 obtain⟨x,e,u,g,rfl,hu,hA⟩:=loop_meas (b:=lo20o0_2 R F (F k) an ah P l acc) (fun s=>∃ i:Nat,s=i∧i≤R.length∧∀ j,j < i→∀ g,¬ Ahead l P F k (R.getD j default) g) (fun s=>(R.length - s).toNat)
  (fun x=>∃ u g,x=.inr (u,(F u).Length,(F u).Hops,acc++[g])∧u∈D∧Ahead l P F k u g) (fun s hs=>by
  obtain⟨i,rfl,hi,hno⟩:=hs
  by_cases hlt:i < R.length
  ·obtain⟨u,hu⟩:∃ u,R.getD i default=u:=⟨_,rfl⟩
   have uD:u∈D:=(hR u).1 (by rw[← hu];exact getD_mem hlt)
   obtain⟨gu1,gu2,gu3,gu4,gu5⟩:=L.good u uD
   have ul:u.length≤maxLen:=N.key (L.key u uD)
   have hr:=lenP_range P u k
   have w1:IntKind.wrap .i64 ((i:Int)+1)=((i+1:Nat):Int):=by rw[wr1 hlt (by omega)];omega
   have w2:IntKind.wrap .i64 ((F u).Length+lenP P u k)=(F u).Length+lenP P u k:=w64 (by omega) (by omega)
   have next:(∀ g,¬ Ahead l P F k u g)→∃ i':Nat,(((i+1:Nat):Int))=i'∧i'≤R.length∧∀ j,j < i'→∀ g,¬ Ahead l P F k (R.getD j default) g:=fun hn=>⟨i+1,rfl,hlt,fun j hj g=>by
    by_cases ej:j=i
    ·rw[ej,hu];exact hn g
    ·exact hno j (by omega) g⟩
   by_cases hH:(F u).Hops=(F k).Hops - 1∧(F u).Length+lenP P u k=(F k).Length
   ·have c1:((F u).Hops != (F k).Hops - 1)=false:=by simpa using hH.1
    have c2:((F u).Length+lenP P u k != (F k).Length)=false:=by simpa using hH.2
    have pre:lo20o0_2 R F (F k) an ah P l acc (i:Int)=(loopO (lo20o0_1 (hopsL l u,((hopsL l u).length:Int)) (F k) acc F R (i:Int)) 0).bind (onS fun _=>some (.inl (IntKind.wrap .i64 ((i:Int)+1)))):=by
     simp only[lo20o0_2,inL hlt,decide_true,if_true,Option.bind_some,onS,Int.toNat_natCast,hu,ul,wh,c1,Bool.not_false,gk1,length_eq ul kl,w2,c2,Bool.or_false,Bool.false_eq_true,if_false,hops_eq N.wf]
    rcases bk_inner (l:=l) N (R:=R) (k:=k) hu ha gu1 gk1 with⟨g,g1,g2,g3⟩ | ⟨g1,g2⟩
    ·exact .inr ⟨_,pre.trans g3,u,g,rfl,uD,g1,g2,hH.2.symm,by omega⟩
    ·rw[w1]at g2 pre
     exact .inl ⟨_,pre.trans g2,next (fun g hg=>g1 g hg.1 hg.2.1),by omega⟩
   ·refine .inl ⟨((i+1:Nat):Int),?_,next (fun g hg=>hH ⟨by have:=hg.2.2.2;omega,hg.2.2.1.symm⟩),by omega⟩
    by_cases h1:(F u).Hops=(F k).Hops - 1
    ·have c1:((F u).Hops != (F k).Hops - 1)=false:=by simpa using h1
     have c2:((F u).Length+lenP P u k != (F k).Length)=true:=by simpa using fun e=>hH ⟨h1,e⟩
     simp only[lo20o0_2,inL hlt,decide_true,if_true,Option.bind_some,onS,Int.toNat_natCast,hu,ul,wh,c1,Bool.not_false,gk1,length_eq ul kl,w2,c2,Bool.or_true,w1]
    ·have c1:((F u).Hops != (F k).Hops - 1)=true:=by simpa using h1
     simp only[lo20o0_2,inL hlt,decide_true,if_true,Option.bind_some,onS,Int.toNat_natCast,hu,ul,wh,c1,Bool.not_true,Bool.false_eq_true,if_false,Bool.true_or,w1]
  ·obtain rfl:i=R.length:=by omega
   exfalso
   rcases L.tight k hk with⟨_,_,h⟩ | ⟨u,hu,⟨g,hg,hgk⟩,h1,h2⟩
   ·omega
   ·obtain⟨j,hj,ej⟩:=mem_getD ((hR u).2 hu)
    exact hno j hj g (by rw[ej];exact⟨hg,hgk,h1,h2⟩)) 0 ⟨0,rfl,by omega,fun j hj=>absurd hj (Nat.not_lt_zero j)⟩
 refine⟨u,g,hu,hA,?_⟩
 rw[A20o0]
 simp only[Option.bind_some,onS,e]
def Walk (l:List T39) (P:List UInt8→T52):List UInt8→List T49→List UInt8→Int→Prop
 | u,[],v,n=>u=v∧n=0
 | u,h :: hs,v,n=>h∈hopsL l u∧Walk l P h.To hs v (n - lenP P u h.To)
theorem walk_back {k:List UInt8} {acc:List T49} {v:List UInt8} {n:Int} (W:Walk l P k acc.reverse v n) {u:List UInt8} {g:T49} (hg:g∈hopsL l u) (hk:g.To=k):Walk l P u (acc++[g]).reverse v (n+lenP P u k):=by
 rw[List.reverse_append]
 refine⟨hg,?_⟩
 subst hk
 have:n+lenP P u g.To - lenP P u g.To=n:=by omega
 rw[this];exact W
theorem walk_app:∀ {hs:List T49} {u v:List UInt8} {n:Int} (W:Walk l P u hs v n) {g:T49} (hg:g∈hopsL l v),Walk l P u (hs++[g]) g.To (n+lenP P v g.To)
 | [],u,v,n,W,g,hg=>by
  obtain⟨rfl,rfl⟩:=W
  exact⟨hg,rfl,by omega⟩
 | h :: hs,u,v,n,W,g,hg=>by
  refine⟨W.1,?_⟩
  have:=walk_app W.2 hg
  have e:n - lenP P u h.To+lenP P v g.To=n+lenP P v g.To - lenP P u h.To:=by omega
  rw[e]at this;exact this
theorem walk_lab (L:Lab l P fr D F):∀ {hs:List T49} {u v:List UInt8} {n:Int},u∈D→Walk l P u hs v n→v∈D∧(F v).Length≤(F u).Length+n
 | [],u,v,n,hu,W=>by
  obtain⟨rfl,rfl⟩:=W
  exact⟨hu,by omega⟩
 | h :: hs,u,v,n,hu,W=>by
  obtain⟨h1,h2⟩:=L.fe u hu h W.1
  obtain⟨h3,h4⟩:=walk_lab L h1 W.2
  exact⟨h3,by omega⟩
end Go.Av.Air
set_option maxRecDepth 100000
namespace Go.Av.Air
variable {l:List T39} {P:List UInt8→T52} {fr:List UInt8} {D:List (List UInt8)} {F:List UInt8→T69}
theorem flat_map {α β:Type} [Inhabited α] (R:List α) (f:α→β):(List.range R.length).flatMap (fun i=>[f (R.getD i default)])=R.map f:=by
 rw[List.flatMap_def,show (fun i=>[f (R.getD i default)])=(fun x=>[x]) ∘ (fun i=>f (R.getD i default)) from rfl,← List.map_map,← List.flatMap_def]
 rw[show ((List.range R.length).map fun i=>f (R.getD i default)).flatMap (fun x=>[x])=(List.range R.length).map fun i=>f (R.getD i default) from List.flatMap_singleton' _]
 apply List.ext_getElem?
 intro i
 simp only[List.getElem?_map]
 by_cases h:i < R.length
 ·simp[List.getElem?_range h,List.getD_eq_getElem?_getD,h]
 ·rw[List.getElem?_eq_none (by simpa using h),List.getElem?_eq_none (by omega)];rfl
abbrev Y1:=(List (List UInt8))×Nat×(List UInt8→Bool)×(List UInt8→T52)×Nat×(List UInt8→Bool)×(List UInt8→T69)×(List UInt8)×Int×Int×Int
theorem lb_list (N:Nm l fr) (L:Lab l P fr D F) {R:List (List UInt8)} (hR:∀ x,x∈R↔x∈D) (hn:R.length≤2401) {y:Y1} (y1:y.1=R) (y2:y.2.2.2.2.2.2.1=F):loopO (lo6_2 y) (0,[])=some (.inl (R.map F)):=by
 rw[← flat_map R F]
 refine loop_coll R.length (fun i acc=>((i:Int),acc)) (fun i=>[F (R.getD i default)]) (fun acc=>Sum.inl acc) (fun i hi=>?_) ?_
 ·have kl:(R.getD i default).length≤maxLen:=N.key (L.key _ ((hR _).1 (getD_mem hi)))
  have hl:=flatMap_len (g:=fun i=>[F (R.getD i default)]) (m:=1) (fun i=>Nat.le_refl _) i
  have p32:(((List.range i).flatMap fun i=>[F (R.getD i default)]).length+1) * 32≤140737488355328:=Nat.le_trans (Nat.mul_le_mul_right 32 (show ((List.range i).flatMap fun i=>[F (R.getD i default)]).length+1≤2402 by omega)) (by decide)
  have w1:IntKind.wrap .i64 ((i:Int)+1)=((i+1:Nat):Int):=by rw[wr1 hi (by omega)];omega
  simp only[lo6_2,y1,y2,inL hi,decide_true,if_true,Int.toNat_natCast,kl,p32,Option.bind_some,w1]
 ·simp only[lo6_2,y1,lt_irr,decide_false,Bool.false_eq_true,if_false]
theorem way_loop (N:Nm l fr) (L:Lab l P fr D F) {R:List (List UInt8)} (hR:∀ x,x∈R↔x∈D) (hn:R.length≤2401) {v:List UInt8} (hv:v∈D) {y:Y1} (y1:y.1=R) (y2:y.2.2.2.2.2.2.1=F) (y3:y.2.2.2.1=P) (y4:y.2.2.2.2.2.2.2.1=v) (wL:List T69) :
  ∃ x,loopO (lo6_1 l y wL) ([],v,(F v).Length,(F v).Hops)=some x∧∃ hs,x=.inl hs∧hs.length≤2401∧Walk l P fr hs.reverse v (F v).Length:=by
 refine loop_meas (b:=lo6_1 l y wL) (fun s=>∃ acc k,s=(acc,k,(F k).Length,(F k).Hops)∧k∈D∧(acc.length:Int)+(F k).Hops=(F v).Hops∧Walk l P k acc.reverse v ((F v).Length - (F k).Length)) (fun s=>s.2.2.2.toNat)
  (fun x=>∃ hs,x=.inl hs∧hs.length≤2401∧Walk l P fr hs.reverse v (F v).Length) (fun s hs=>?_) _ ⟨[],v,rfl,hv,by simp,⟨rfl,by omega⟩⟩
 obtain⟨acc,k,rfl,hk,hl,W⟩:=hs
 obtain⟨g1,g2,g3,g4,g5⟩:=L.good k hk
 have gv:=(L.good v hv).2.2.1
 by_cases h0:0 < (F k).Hops
 ·obtain⟨u,g,hu,⟨a1,a2,a3,a4⟩,e⟩:=back_eq N L hR hn hk h0 y.2.1 y.2.2.1 y.2.2.2.2.1 y.2.2.2.2.2.1 (acc:=acc) (by omega) y.2.2.2.2.2.2.2.2.2.2 wL
  have ek:(⟨k,(F k).Length,(F k).Hops⟩:T69)=F k:=by
   have:F k=⟨(F k).Ref,(F k).Length,(F k).Hops⟩:=rfl
   rw[g1]at this;exact this.symm
  refine .inl ⟨(acc++[g],u,(F u).Length,(F u).Hops),?_,⟨acc++[g],u,rfl,hu,?_,?_⟩,?_⟩
  ·simp only[lo6_1,y1,y2,y3,ek,decide_eq_true h0,if_true,e,Option.bind_some]
  ·rw[List.length_append,List.length_singleton];omega
  ·have:=walk_back W a1 a2
   have e2:(F v).Length - (F k).Length+lenP P u k=(F v).Length - (F u).Length:=by omega
   rw[e2]at this;exact this
  ·have:=(L.good u hu).2.1
   show (F u).Hops.toNat < (F k).Hops.toNat
   omega
 ·refine .inr ⟨.inl acc,?_,acc,rfl,by omega,?_⟩
  ·have:decide (0 < (F k).Hops)=false:=decide_eq_false h0
   simp only[lo6_1,this,Bool.false_eq_true,if_false]
  ·rcases L.tight k hk with⟨rfl,h1,_⟩ | ⟨u,hu,_,_,h⟩
   ·rw[h1]at W;simpa using W
   ·have:=(L.good u hu).2.1;omega
theorem shortest_cases {fs:List T54} (H:OkD l fs) {u v:List UInt8} (hu:u.length≤maxLen) (hv:v.length≤maxLen) :
  (∃ e,m6 l fs u v=some (⟨[],0,[]⟩,e)∧e≠0∧¬ (m17o1 l fs u v=none)) ∨
  (m17o1 l fs u v=none∧Atl l fs u v∧Nm l u∧∃ (D:List (List UInt8)) (F:List UInt8→T69) (R:List (List UInt8)),Lab l (atF fs fs.length) u D F∧R.Nodup∧R.Pairwise (·≤·)∧(∀ x,x∈R↔x∈D)∧R.length≤2401 ∧
   ((v ∉ D∧m6 l fs u v=some (⟨[],0,[]⟩,10))∨(v∈D∧∃ hs,Walk l (atF fs fs.length) u hs v (F v).Length∧hs.length≤2401∧m6 l fs u v=some (⟨hs,(F v).Length,R.map F⟩,0)))):=by
 rcases open_cases H hu hv with⟨e,he,h0⟩ | ⟨ho,A,n,h2⟩
 ·left
  refine⟨e,?_,h0,by rw[he];exact fun h=>by cases h⟩
  rw[A6,he]
  have c:(e != 0)=true:=by simpa using h0
  simp only[Option.bind_some,c,if_true,onS,orJ]
 ·right
  have N:Nm l u:=⟨A.wf,hu,fun r hr=>by
   obtain⟨k,i,hk,hi,rfl⟩:=mem_refs.1 hr
   exact H.a k hk i hi⟩
  obtain⟨dn,dh,F,D,e1,ED,L⟩:=labels_eq N (atF fs fs.length) n (atH fs fs.length)
  obtain⟨R,e2,hRn,hRs,hR⟩:=reach_eq N L ED.1
  have hn:R.length≤2401:=Nat.le_trans (nodup_le hRn fun x hx=>(hR x).1 hx) (keys_len N.wf ED.1 L.key)
  refine⟨ho,A,N,D,F,R,L,hRn,hRs,hR,hn,?_⟩
  by_cases hD:v∈D
  case neg =>
   refine .inl ⟨hD,?_⟩
   have hh:dh v=false:=by
    cases hh:dh v with
    | false=>rfl
    | true=>exact absurd ((enum_has ED hv).1 hh) hD
   rw[A6,ho,h2]
   simp only[Option.bind_none,orJ,Option.bind_some,bne_self_eq_false,Bool.false_eq_true,if_false,e1,hv,if_true,hh,Bool.not_false,onS]
  refine .inr ⟨hD,?_⟩
  have hh:dh v=true:=(enum_has ED hv).2 hD
  have gR:=(L.good v hD).1
  obtain⟨y,hy⟩:∃ y:Y1,y=(R,n,atH fs fs.length,atF fs fs.length,dn,dh,F,v,(F v).Length,(F v).Hops,(F v).Length):=⟨_,rfl⟩
  have q1:y.1=R:=by rw[hy]
  have q2:y.2.2.2.2.2.2.1=F:=by rw[hy]
  have q3:y.2.2.2.1=atF fs fs.length:=by rw[hy]
  have q4:y.2.2.2.2.2.2.2.1=v:=by rw[hy]
  have q5:y.2.2.2.2.2.2.2.2.1=(F v).Length:=by rw[hy]
  have q6:y.2.2.2.2.2.2.2.2.2.1=(F v).Hops:=by rw[hy]
  have q7:y.2.2.2.2.2.2.2.2.2.2=(F v).Length:=by rw[hy]
  obtain⟨x,e4,hs,rfl,hl,W⟩:=way_loop N L hR hn hD q1 q2 q3 q4 (R.map F)
  refine⟨hs.reverse,W,by rw[List.length_reverse];exact hl,?_⟩
  rw[A6,ho,h2]
  simp only[Option.bind_none,orJ]
  refine on_l (y:=y) ?_ (on_l (y:=R.map F) ?_ (on_l (y:=hs) ?_ ?_))
  ·simp only[Option.bind_some,bne_self_eq_false,Bool.false_eq_true,if_false,e1,hv,if_true,hh,Bool.not_true,e2,hy,gR]
  ·exact on_l (y:=()) rfl (lb_list N L hR hn q1 q2)
  ·refine on_l (y:=()) rfl ?_
   rw[q4,q5,q6]
   exact e4
  ·have e5:=rev_eq hs (by omega)
   rw[q7]
   refine bind_to (bind_to e5 rfl) ?_
   rw[subL_all (by rw[List.length_reverse])]
end Go.Av.Air
set_option maxRecDepth 100000
namespace Go.Av.Air
theorem M36 (a0 a1:Int):m36 a0 a1=((if(((decide (a0 < 0))==(decide (a1 < 0)))&&((decide ((IntKind.wrap .i64 (a0+a1)) < 0)) != (decide (a0 < 0))))=true then(Option.bind (Option.bind (m59 (decide (a0 < 0))) fun r=>some r) fun x3=>(some x3))else(some (IntKind.wrap .i64 (a0+a1)))):Option (Int)):=by kernel_rfl
theorem M60 (a0:List T49) (a1:T49):m60 a0 a1=((Option.bind (some (.inl ())) (onS fun(_:Unit)=>(Option.bind (Option.bind (some (.inl ())) (onS fun(_:Unit)=>(loopO (fun(s1:Int)=>((if(decide (s1 < (a0.length:Int)))=true then(if(0≤s1)then(if(s1 < (a0.length:Int))then(if((a1.Airway==(a0.getD s1.toNat default).Airway)&&((a1.To==(a0.getD s1.toNat default).To)&&(((a1.Alt.Lo==(a0.getD s1.toNat default).Alt.Lo)&&((a1.Alt.Hi==(a0.getD s1.toNat default).Alt.Hi)&&true))&&true)))=true then(some (.inr (.inr (s1))))else(some (.inl (IntKind.wrap .i64 (s1+1)))))else none)else none)else(some (.inr (.inl ())))):Option ((Int)⊕((Unit)⊕(Int))))) (0:Int)))) (onS fun(_:Unit)=>(some (-1:Int)))))):Option (Int)):=by kernel_rfl
noncomputable abbrev lo60_1 (a0:List T49) (a1:T49):(Int)→Option ((Int)⊕((Unit)⊕(Int))):=(fun(s1:Int)=>((if(decide (s1 < (a0.length:Int)))=true then(if(0≤s1)then(if(s1 < (a0.length:Int))then(if((a1.Airway==(a0.getD s1.toNat default).Airway)&&((a1.To==(a0.getD s1.toNat default).To)&&(((a1.Alt.Lo==(a0.getD s1.toNat default).Alt.Lo)&&((a1.Alt.Hi==(a0.getD s1.toNat default).Alt.Hi)&&true))&&true)))=true then(some (.inr (.inr (s1))))else(some (.inl (IntKind.wrap .i64 (s1+1)))))else none)else none)else(some (.inr (.inl ())))):Option ((Int)⊕((Unit)⊕(Int)))))
theorem A60 (a0:List T49) (a1:T49):m60 a0 a1=((Option.bind (some (.inl ())) (onS fun(_:Unit)=>(Option.bind (Option.bind (some (.inl ())) (onS fun(_:Unit)=>(loopO (lo60_1 a0 a1) (0:Int)))) (onS fun(_:Unit)=>(some (-1:Int)))))):Option (Int)):=M60 _ _
theorem M38 (a0:List T49) (a1:T49):m38 a0 a1=((Option.bind (Option.bind (m60 a0 a1) fun r=>some r) fun x1=>(some (decide (0≤x1)))):Option (Bool)):=by kernel_rfl
theorem M11 (a0:List T39) (a1:List T54) (a2 a3:List UInt8) (a4:T31):m11 a0 a1 a2 a3 a4=((orJ (Option.bind (Option.bind (Option.bind (m17o1 a0 a1 a2 a3) fun r=>some r) fun x1=>(if(x1 != 0)=true then(some (.inr (x1)))else(some (.inl ())))) (onS fun(_:Unit)=>(Option.bind (Option.bind (some (.inl ())) (onS fun(_:Unit)=>(loopO (fun(s1:Int×Nat×(List UInt8→Option Int))=>((if(decide (s1.1 < (a4.Labels.length:Int)))=true then(if(0≤s1.1)then(if(s1.1 < (a4.Labels.length:Int))then(if(decide (0 < s1.1))=true→(0≤(IntKind.wrap .i64 (s1.1 - 1)))then(if(decide (0 < s1.1))=true→((IntKind.wrap .i64 (s1.1 - 1)) < (a4.Labels.length:Int))then(if((decide (0 < s1.1))&&(!Op.bytesLess (a4.Labels.getD (IntKind.wrap .i64 (s1.1 - 1)).toNat default).Ref (a4.Labels.getD s1.1.toNat default).Ref))=true then(some (.inr (.inr ((4:Int)))))else(if((a4.Labels.getD s1.1.toNat default).Ref.length≤maxLen)then(if(s1.2.1 < maxLen)then(if((Lit.int .i64 (a4.Labels.getD s1.1.toNat default).Length).wf=true)then(some (.inl ((IntKind.wrap .i64 (s1.1+1)),(s1.2.1+1),(fun q=>if q=(a4.Labels.getD s1.1.toNat default).Ref then some (a4.Labels.getD s1.1.toNat default).Length else s1.2.2 q))))else none)else none)else none))else none)else none)else none)else none)else(some (.inr (.inl (s1.2.1,s1.2.2))))):Option ((Int×Nat×(List UInt8→Option Int))⊕((Nat×(List UInt8→Option Int))⊕(Int))))) ((0:Int),0,(fun _=>none))))) (onS fun(y2:Nat×(List UInt8→Option Int))=>(Option.bind (if(a2.length≤maxLen)then(if((!((y2.2 a2).isSome)) || (((y2.2 a2).getD 0) != 0))=true then(some (.inr ((4:Int))))else(some (.inl ())))else none) (onS fun(_:Unit)=>(Option.bind (Option.bind (some (.inl ())) (onS fun(_:Unit)=>(loopO (fun(s3:Int)=>((Option.bind (if(decide (s3 < (a4.Labels.length:Int)))=true then(some (.inl ()))else(some (.inr (.inr (.inl ()))))) (onS fun(_:Unit)=>(Option.bind (Option.bind (if(0≤s3)then(if(s3 < (a4.Labels.length:Int))then(Option.bind (Option.bind (m25 a0 (a4.Labels.getD s3.toNat default).Ref) fun r=>some r) fun x18=>(some (.inl (x18,(x18.length:Int)))))else none)else none) (onS fun(y4:(List T49)×Int)=>(loopO (fun(s5:Unit)=>((if(decide (0 < y4.2))=true then(if((0:Int)≤(0:Int))then(if(0 < (y4.1.length:Int))then(if((y4.1.getD (0:Int).toNat default).To.length≤maxLen)then none else none)else none)else none)else(some (.inr (.inl ())))):Option ((Unit)⊕((Unit)⊕((Int)⊕((Unit)⊕(Int))))))) ()))) (onS fun(_:Unit)=>(some (.inl (IntKind.wrap .i64 (s3+1)))))))):Option ((Int)⊕((Unit)⊕(Int))))) (0:Int)))) (onS fun(_:Unit)=>(Option.bind (some (.inl ())) (onS fun(_:Unit)=>(Option.bind (Option.bind (some (.inl ())) (onS fun(_:Unit)=>(loopO (fun(s6:Unit)=>((if(decide (0 < (a4.Hops.length:Int)))=true then(if((0:Int)≤(0:Int))then(if(0 < (a4.Hops.length:Int))then(Option.bind (((m25 a0 a2).bind fun r30_0=>((m38 r30_0 (a4.Hops.getD (0:Int).toNat default)).bind fun r30_1=>some (r30_0,r30_1)))) fun(x30:((List T49)×Bool))=>(if(!x30.2)=true then(some (.inr (.inr ((6:Int)))))else(Option.bind (none) fun(x32:(Unit))=>none)))else none)else none)else(some (.inr (.inl ())))):Option ((Unit)⊕((Unit)⊕(Int))))) ()))) (onS fun(_:Unit)=>(if(a2 != a3)=true then(some (6:Int))else(if(a4.Length != 0)=true then(some (1:Int))else(if(a3.length≤maxLen)then(if((!((y2.2 a3).isSome)) || (((y2.2 a3).getD 0) != a4.Length))=true then(some (11:Int))else(some (0:Int)))else none))))))))))))))) (Option.bind (Option.bind (Option.bind (m17o2 a0 a1 a2 a3) fun r=>some r) fun x1=>(if((0:Int) != (0:Int))=true then(some (.inr ((0:Int))))else(some (.inl (x1.1,x1.2.1,x1.2.2))))) (onS fun(y7:Nat×(List UInt8→Bool)×(List UInt8→T52))=>(Option.bind (Option.bind (some (.inl ())) (onS fun(_:Unit)=>(loopO (fun(s8:Int×Nat×(List UInt8→Option Int))=>((if(decide (s8.1 < (a4.Labels.length:Int)))=true then(if(0≤s8.1)then(if(s8.1 < (a4.Labels.length:Int))then(if(decide (0 < s8.1))=true→(0≤(IntKind.wrap .i64 (s8.1 - 1)))then(if(decide (0 < s8.1))=true→((IntKind.wrap .i64 (s8.1 - 1)) < (a4.Labels.length:Int))then(if((decide (0 < s8.1))&&(!Op.bytesLess (a4.Labels.getD (IntKind.wrap .i64 (s8.1 - 1)).toNat default).Ref (a4.Labels.getD s8.1.toNat default).Ref))=true then(some (.inr (.inr ((4:Int)))))else(if((a4.Labels.getD s8.1.toNat default).Ref.length≤maxLen)then(if(s8.2.1 < maxLen)then(if((Lit.int .i64 (a4.Labels.getD s8.1.toNat default).Length).wf=true)then(some (.inl ((IntKind.wrap .i64 (s8.1+1)),(s8.2.1+1),(fun q=>if q=(a4.Labels.getD s8.1.toNat default).Ref then some (a4.Labels.getD s8.1.toNat default).Length else s8.2.2 q))))else none)else none)else none))else none)else none)else none)else none)else(some (.inr (.inl (s8.2.1,s8.2.2))))):Option ((Int×Nat×(List UInt8→Option Int))⊕((Nat×(List UInt8→Option Int))⊕(Int))))) ((0:Int),0,(fun _=>none))))) (onS fun(y9:Nat×(List UInt8→Option Int))=>(Option.bind (if(a2.length≤maxLen)then(if((!((y9.2 a2).isSome)) || (((y9.2 a2).getD 0) != 0))=true then(some (.inr ((4:Int))))else(some (.inl ())))else none) (onS fun(_:Unit)=>(Option.bind (Option.bind (some (.inl ())) (onS fun(_:Unit)=>(loopO (fun(s10:Int)=>((Option.bind (if(decide (s10 < (a4.Labels.length:Int)))=true then(some (.inl ()))else(some (.inr (.inr (.inl ()))))) (onS fun(_:Unit)=>(Option.bind (Option.bind (if(0≤s10)then(if(s10 < (a4.Labels.length:Int))then(Option.bind (Option.bind (m25 a0 (a4.Labels.getD s10.toNat default).Ref) fun r=>some r) fun x18=>(some (.inl (x18,(x18.length:Int)))))else none)else none) (onS fun(y11:(List T49)×Int)=>(loopO (fun(s12:Int)=>((if(decide (s12 < y11.2))=true then(if(0≤s12)then(if(s12 < (y11.1.length:Int))then(if((y11.1.getD s12.toNat default).To.length≤maxLen)then(Option.bind (((if(!(!((y9.2 (y11.1.getD s12.toNat default).To).isSome)))=true then m37o1 (a4.Labels.getD s10.toNat default).Ref (y11.1.getD s12.toNat default).To y7.1 y7.2.1 y7.2.2 else some default).bind fun r22_0=>((if(!(!((y9.2 (y11.1.getD s12.toNat default).To).isSome)))=true then m36 (a4.Labels.getD s10.toNat default).Length r22_0 else some default).bind fun r22_1=>some (r22_0,r22_1)))) fun(x22:(Int×Int))=>(if((!((y9.2 (y11.1.getD s12.toNat default).To).isSome)) || (decide (x22.2 < ((y9.2 (y11.1.getD s12.toNat default).To).getD 0))))=true then(some (.inr (.inr (.inr (.inr ((9:Int)))))))else(some (.inl (IntKind.wrap .i64 (s12+1))))))else none)else none)else none)else(some (.inr (.inl ())))):Option ((Int)⊕((Unit)⊕((Int)⊕((Unit)⊕(Int))))))) (0:Int)))) (onS fun(_:Unit)=>(some (.inl (IntKind.wrap .i64 (s10+1)))))))):Option ((Int)⊕((Unit)⊕(Int))))) (0:Int)))) (onS fun(_:Unit)=>(Option.bind (some (.inl ())) (onS fun(_:Unit)=>(Option.bind (Option.bind (some (.inl ())) (onS fun(_:Unit)=>(loopO (fun(s13:(List UInt8)×Int×Int)=>((if(decide (s13.2.2 < (a4.Hops.length:Int)))=true then(if(0≤s13.2.2)then(if(s13.2.2 < (a4.Hops.length:Int))then(Option.bind (((m25 a0 s13.1).bind fun r30_0=>((m38 r30_0 (a4.Hops.getD s13.2.2.toNat default)).bind fun r30_1=>some (r30_0,r30_1)))) fun(x30:((List T49)×Bool))=>(if(!x30.2)=true then(some (.inr (.inr ((6:Int)))))else(Option.bind (Option.bind (m37o1 s13.1 (a4.Hops.getD s13.2.2.toNat default).To y7.1 y7.2.1 y7.2.2) fun r=>some r) fun x32=>(some (.inl ((a4.Hops.getD s13.2.2.toNat default).To,(IntKind.wrap .i64 (s13.2.1+x32)),(IntKind.wrap .i64 (s13.2.2+1))))))))else none)else none)else(some (.inr (.inl (s13.1,s13.2.1))))):Option (((List UInt8)×Int×Int)⊕(((List UInt8)×Int)⊕(Int))))) (a2,(0:Int),(0:Int))))) (onS fun(y14:(List UInt8)×Int)=>(if(y14.1 != a3)=true then(some (6:Int))else(if(a4.Length != y14.2)=true then(some (1:Int))else(if(a3.length≤maxLen)then(if((!((y9.2 a3).isSome)) || (((y9.2 a3).getD 0) != a4.Length))=true then(some (11:Int))else(some (0:Int)))else none)))))))))))))))):Option (Int)):=by kernel_rfl
noncomputable abbrev lo11_1 (a4:T31) (a0:List T39) (y7:Nat×(List UInt8→Bool)×(List UInt8→T52)):((List UInt8)×Int×Int)→Option (((List UInt8)×Int×Int)⊕(((List UInt8)×Int)⊕(Int))):=(fun(s13:(List UInt8)×Int×Int)=>((if(decide (s13.2.2 < (a4.Hops.length:Int)))=true then(if(0≤s13.2.2)then(if(s13.2.2 < (a4.Hops.length:Int))then(Option.bind (((m25 a0 s13.1).bind fun r30_0=>((m38 r30_0 (a4.Hops.getD s13.2.2.toNat default)).bind fun r30_1=>some (r30_0,r30_1)))) fun(x30:((List T49)×Bool))=>(if(!x30.2)=true then(some (.inr (.inr ((6:Int)))))else(Option.bind (Option.bind (m37o1 s13.1 (a4.Hops.getD s13.2.2.toNat default).To y7.1 y7.2.1 y7.2.2) fun r=>some r) fun x32=>(some (.inl ((a4.Hops.getD s13.2.2.toNat default).To,(IntKind.wrap .i64 (s13.2.1+x32)),(IntKind.wrap .i64 (s13.2.2+1))))))))else none)else none)else(some (.inr (.inl (s13.1,s13.2.1))))):Option (((List UInt8)×Int×Int)⊕(((List UInt8)×Int)⊕(Int)))))
noncomputable abbrev lo11_2 (y11:(List T49)×Int) (y9:Nat×(List UInt8→Option Int)) (a4:T31) (s10:Int) (y7:Nat×(List UInt8→Bool)×(List UInt8→T52)):(Int)→Option ((Int)⊕((Unit)⊕((Int)⊕((Unit)⊕(Int))))):=(fun(s12:Int)=>((if(decide (s12 < y11.2))=true then(if(0≤s12)then(if(s12 < (y11.1.length:Int))then(if((y11.1.getD s12.toNat default).To.length≤maxLen)then(Option.bind (((if(!(!((y9.2 (y11.1.getD s12.toNat default).To).isSome)))=true then m37o1 (a4.Labels.getD s10.toNat default).Ref (y11.1.getD s12.toNat default).To y7.1 y7.2.1 y7.2.2 else some default).bind fun r22_0=>((if(!(!((y9.2 (y11.1.getD s12.toNat default).To).isSome)))=true then m36 (a4.Labels.getD s10.toNat default).Length r22_0 else some default).bind fun r22_1=>some (r22_0,r22_1)))) fun(x22:(Int×Int))=>(if((!((y9.2 (y11.1.getD s12.toNat default).To).isSome)) || (decide (x22.2 < ((y9.2 (y11.1.getD s12.toNat default).To).getD 0))))=true then(some (.inr (.inr (.inr (.inr ((9:Int)))))))else(some (.inl (IntKind.wrap .i64 (s12+1))))))else none)else none)else none)else(some (.inr (.inl ())))):Option ((Int)⊕((Unit)⊕((Int)⊕((Unit)⊕(Int)))))))
noncomputable abbrev lo11_3 (a4:T31) (a0:List T39) (y9:Nat×(List UInt8→Option Int)) (y7:Nat×(List UInt8→Bool)×(List UInt8→T52)):(Int)→Option ((Int)⊕((Unit)⊕(Int))):=(fun(s10:Int)=>((Option.bind (if(decide (s10 < (a4.Labels.length:Int)))=true then(some (.inl ()))else(some (.inr (.inr (.inl ()))))) (onS fun(_:Unit)=>(Option.bind (Option.bind (if(0≤s10)then(if(s10 < (a4.Labels.length:Int))then(Option.bind (Option.bind (m25 a0 (a4.Labels.getD s10.toNat default).Ref) fun r=>some r) fun x18=>(some (.inl (x18,(x18.length:Int)))))else none)else none) (onS fun(y11:(List T49)×Int)=>(loopO (lo11_2 y11 y9 a4 s10 y7) (0:Int)))) (onS fun(_:Unit)=>(some (.inl (IntKind.wrap .i64 (s10+1)))))))):Option ((Int)⊕((Unit)⊕(Int)))))
noncomputable abbrev lo11_4 (a4:T31):(Int×Nat×(List UInt8→Option Int))→Option ((Int×Nat×(List UInt8→Option Int))⊕((Nat×(List UInt8→Option Int))⊕(Int))):=(fun(s8:Int×Nat×(List UInt8→Option Int))=>((if(decide (s8.1 < (a4.Labels.length:Int)))=true then(if(0≤s8.1)then(if(s8.1 < (a4.Labels.length:Int))then(if(decide (0 < s8.1))=true→(0≤(IntKind.wrap .i64 (s8.1 - 1)))then(if(decide (0 < s8.1))=true→((IntKind.wrap .i64 (s8.1 - 1)) < (a4.Labels.length:Int))then(if((decide (0 < s8.1))&&(!Op.bytesLess (a4.Labels.getD (IntKind.wrap .i64 (s8.1 - 1)).toNat default).Ref (a4.Labels.getD s8.1.toNat default).Ref))=true then(some (.inr (.inr ((4:Int)))))else(if((a4.Labels.getD s8.1.toNat default).Ref.length≤maxLen)then(if(s8.2.1 < maxLen)then(if((Lit.int .i64 (a4.Labels.getD s8.1.toNat default).Length).wf=true)then(some (.inl ((IntKind.wrap .i64 (s8.1+1)),(s8.2.1+1),(fun q=>if q=(a4.Labels.getD s8.1.toNat default).Ref then some (a4.Labels.getD s8.1.toNat default).Length else s8.2.2 q))))else none)else none)else none))else none)else none)else none)else none)else(some (.inr (.inl (s8.2.1,s8.2.2))))):Option ((Int×Nat×(List UInt8→Option Int))⊕((Nat×(List UInt8→Option Int))⊕(Int)))))
noncomputable abbrev lo11_5 (a4:T31) (a0:List T39) (a2:List UInt8):(Unit)→Option ((Unit)⊕((Unit)⊕(Int))):=(fun(s6:Unit)=>((if(decide (0 < (a4.Hops.length:Int)))=true then(if((0:Int)≤(0:Int))then(if(0 < (a4.Hops.length:Int))then(Option.bind (((m25 a0 a2).bind fun r30_0=>((m38 r30_0 (a4.Hops.getD (0:Int).toNat default)).bind fun r30_1=>some (r30_0,r30_1)))) fun(x30:((List T49)×Bool))=>(if(!x30.2)=true then(some (.inr (.inr ((6:Int)))))else(Option.bind (none) fun(x32:(Unit))=>none)))else none)else none)else(some (.inr (.inl ())))):Option ((Unit)⊕((Unit)⊕(Int)))))
noncomputable abbrev lo11_6 (y4:(List T49)×Int):(Unit)→Option ((Unit)⊕((Unit)⊕((Int)⊕((Unit)⊕(Int))))):=(fun(s5:Unit)=>((if(decide (0 < y4.2))=true then(if((0:Int)≤(0:Int))then(if(0 < (y4.1.length:Int))then(if((y4.1.getD (0:Int).toNat default).To.length≤maxLen)then none else none)else none)else none)else(some (.inr (.inl ())))):Option ((Unit)⊕((Unit)⊕((Int)⊕((Unit)⊕(Int)))))))
noncomputable abbrev lo11_7 (a4:T31) (a0:List T39):(Int)→Option ((Int)⊕((Unit)⊕(Int))):=(fun(s3:Int)=>((Option.bind (if(decide (s3 < (a4.Labels.length:Int)))=true then(some (.inl ()))else(some (.inr (.inr (.inl ()))))) (onS fun(_:Unit)=>(Option.bind (Option.bind (if(0≤s3)then(if(s3 < (a4.Labels.length:Int))then(Option.bind (Option.bind (m25 a0 (a4.Labels.getD s3.toNat default).Ref) fun r=>some r) fun x18=>(some (.inl (x18,(x18.length:Int)))))else none)else none) (onS fun(y4:(List T49)×Int)=>(loopO (lo11_6 y4) ()))) (onS fun(_:Unit)=>(some (.inl (IntKind.wrap .i64 (s3+1)))))))):Option ((Int)⊕((Unit)⊕(Int)))))
noncomputable abbrev lo11_8 (a4:T31):(Int×Nat×(List UInt8→Option Int))→Option ((Int×Nat×(List UInt8→Option Int))⊕((Nat×(List UInt8→Option Int))⊕(Int))):=(fun(s1:Int×Nat×(List UInt8→Option Int))=>((if(decide (s1.1 < (a4.Labels.length:Int)))=true then(if(0≤s1.1)then(if(s1.1 < (a4.Labels.length:Int))then(if(decide (0 < s1.1))=true→(0≤(IntKind.wrap .i64 (s1.1 - 1)))then(if(decide (0 < s1.1))=true→((IntKind.wrap .i64 (s1.1 - 1)) < (a4.Labels.length:Int))then(if((decide (0 < s1.1))&&(!Op.bytesLess (a4.Labels.getD (IntKind.wrap .i64 (s1.1 - 1)).toNat default).Ref (a4.Labels.getD s1.1.toNat default).Ref))=true then(some (.inr (.inr ((4:Int)))))else(if((a4.Labels.getD s1.1.toNat default).Ref.length≤maxLen)then(if(s1.2.1 < maxLen)then(if((Lit.int .i64 (a4.Labels.getD s1.1.toNat default).Length).wf=true)then(some (.inl ((IntKind.wrap .i64 (s1.1+1)),(s1.2.1+1),(fun q=>if q=(a4.Labels.getD s1.1.toNat default).Ref then some (a4.Labels.getD s1.1.toNat default).Length else s1.2.2 q))))else none)else none)else none))else none)else none)else none)else none)else(some (.inr (.inl (s1.2.1,s1.2.2))))):Option ((Int×Nat×(List UInt8→Option Int))⊕((Nat×(List UInt8→Option Int))⊕(Int)))))
theorem A11 (a0:List T39) (a1:List T54) (a2 a3:List UInt8) (a4:T31):m11 a0 a1 a2 a3 a4=((orJ (Option.bind (Option.bind (Option.bind (m17o1 a0 a1 a2 a3) fun r=>some r) fun x1=>(if(x1 != 0)=true then(some (.inr (x1)))else(some (.inl ())))) (onS fun(_:Unit)=>(Option.bind (Option.bind (some (.inl ())) (onS fun(_:Unit)=>(loopO (lo11_8 a4) ((0:Int),0,(fun _=>none))))) (onS fun(y2:Nat×(List UInt8→Option Int))=>(Option.bind (if(a2.length≤maxLen)then(if((!((y2.2 a2).isSome)) || (((y2.2 a2).getD 0) != 0))=true then(some (.inr ((4:Int))))else(some (.inl ())))else none) (onS fun(_:Unit)=>(Option.bind (Option.bind (some (.inl ())) (onS fun(_:Unit)=>(loopO (lo11_7 a4 a0) (0:Int)))) (onS fun(_:Unit)=>(Option.bind (some (.inl ())) (onS fun(_:Unit)=>(Option.bind (Option.bind (some (.inl ())) (onS fun(_:Unit)=>(loopO (lo11_5 a4 a0 a2) ()))) (onS fun(_:Unit)=>(if(a2 != a3)=true then(some (6:Int))else(if(a4.Length != 0)=true then(some (1:Int))else(if(a3.length≤maxLen)then(if((!((y2.2 a3).isSome)) || (((y2.2 a3).getD 0) != a4.Length))=true then(some (11:Int))else(some (0:Int)))else none))))))))))))))) (Option.bind (Option.bind (Option.bind (m17o2 a0 a1 a2 a3) fun r=>some r) fun x1=>(if((0:Int) != (0:Int))=true then(some (.inr ((0:Int))))else(some (.inl (x1.1,x1.2.1,x1.2.2))))) (onS fun(y7:Nat×(List UInt8→Bool)×(List UInt8→T52))=>(Option.bind (Option.bind (some (.inl ())) (onS fun(_:Unit)=>(loopO (lo11_4 a4) ((0:Int),0,(fun _=>none))))) (onS fun(y9:Nat×(List UInt8→Option Int))=>(Option.bind (if(a2.length≤maxLen)then(if((!((y9.2 a2).isSome)) || (((y9.2 a2).getD 0) != 0))=true then(some (.inr ((4:Int))))else(some (.inl ())))else none) (onS fun(_:Unit)=>(Option.bind (Option.bind (some (.inl ())) (onS fun(_:Unit)=>(loopO (lo11_3 a4 a0 y9 y7) (0:Int)))) (onS fun(_:Unit)=>(Option.bind (some (.inl ())) (onS fun(_:Unit)=>(Option.bind (Option.bind (some (.inl ())) (onS fun(_:Unit)=>(loopO (lo11_1 a4 a0 y7) (a2,(0:Int),(0:Int))))) (onS fun(y14:(List UInt8)×Int)=>(if(y14.1 != a3)=true then(some (6:Int))else(if(a4.Length != y14.2)=true then(some (1:Int))else(if(a3.length≤maxLen)then(if((!((y9.2 a3).isSome)) || (((y9.2 a3).getD 0) != a4.Length))=true then(some (11:Int))else(some (0:Int)))else none)))))))))))))))):Option (Int)):=M11 _ _ _ _ _
variable {l:List T39} {P:List UInt8→T52} {fr:List UInt8} {D:List (List UInt8)} {F:List UInt8→T69}
theorem add_eq {a b:Int} (h1:0≤a) (h2:0≤b) (h3:a+b≤9223372036854775807):m36 a b=some (a+b):=by
 have w:IntKind.wrap .i64 (a+b)=a+b:=w64 (by omega) h3
 have d1:decide (a < 0)=false:=decide_eq_false (by omega)
 have d2:decide (b < 0)=false:=decide_eq_false (by omega)
 have d3:decide (a+b < 0)=false:=decide_eq_false (by omega)
 rw[M36,w,d1,d2,d3]
 rfl
theorem wf64 {v:Int} (h1 : -9223372036854775808≤v) (h2:v≤9223372036854775807):(Lit.int .i64 v).wf=true:=by
 simp only[Lit.wf,Bool.and_eq_true,decide_eq_true_eq]
 exact⟨h1,h2⟩
theorem cont_true {hs:List T49} (hl:hs.length≤1000000) {h:T49} (hm:h∈hs):m38 hs h=some true:=by
 rw[M38,A60]
 have key:=loop_ex (k:=fun _=>some (-1:Int)) (b:=lo60_1 hs h) hs.length
  (fun j=>if((h.Airway==(hs.getD j default).Airway)&&((h.To==(hs.getD j default).To)&&(((h.Alt.Lo==(hs.getD j default).Alt.Lo)&&((h.Alt.Hi==(hs.getD j default).Alt.Hi)&&true))&&true)))=true then some (j:Int)else none) (fun j hj=>by
   simp only[exB_ite,exB_some,exB_none]
   simp only[lo60_1,inL hj,decide_true,Int.toNat_natCast,if_true,wr1 hj (by omega)]) (by simp only[lo60_1,lt_irr,decide_false,Bool.false_eq_true,if_false])
 obtain⟨j,hj,e⟩:=mem_getD hm
 have hz:∃ z:Int,orK (firstR (fun j=>if((h.Airway==(hs.getD j default).Airway)&&((h.To==(hs.getD j default).To)&&(((h.Alt.Lo==(hs.getD j default).Alt.Lo)&&((h.Alt.Hi==(hs.getD j default).Alt.Hi)&&true))&&true)))=true then some (j:Int)else none) hs.length) (some (-1:Int))=some z∧0≤z:=by
  cases hf:firstR (fun j=>if((h.Airway==(hs.getD j default).Airway)&&((h.To==(hs.getD j default).To)&&(((h.Alt.Lo==(hs.getD j default).Alt.Lo)&&((h.Alt.Hi==(hs.getD j default).Alt.Hi)&&true))&&true)))=true then some (j:Int)else none) hs.length with
  | none =>
   have:=firstR_none.1 hf j hj
   rw[e,if_pos (by simp)]at this
   cases this
  | some y =>
   obtain⟨i,hi,hy⟩:=firstR_some hf
   split at hy
   ·have hy:=Option.some.inj hy
    subst hy
    exact⟨_,rfl,by omega⟩
   ·cases hy
 obtain⟨z,hz,z0⟩:=hz
 refine bind_to (x:=z) (bind_to (x:=z) (on_l (y:=()) rfl (key.trans hz)) rfl) ?_
 rw[decide_eq_true z0]
def mapQ (F:List UInt8→T69) (R:List (List UInt8)) (q:List UInt8):Option Int:=if q∈R then some (F q).Length else none
theorem map_getD {R:List (List UInt8)} {i:Nat} (hi:i < R.length):(R.map F).getD i default=F (R.getD i default):=by
 simp[List.getD_eq_getElem?_getD,hi]
theorem asc {R:List (List UInt8)} (h1:R.Nodup) (h2:R.Pairwise (·≤·)) {i:Nat} (hi:i+1 < R.length):R.getD i default < R.getD (i+1) default:=by
 have e1:R.getD i default=R[i]:=by simp[List.getD_eq_getElem?_getD,List.getElem?_eq_getElem (show i < R.length by omega)]
 have e2:R.getD (i+1) default=R[i+1]:=by simp[List.getD_eq_getElem?_getD,List.getElem?_eq_getElem hi]
 rw[e1,e2]
 have k:=List.pairwise_iff_getElem.1 h2 i (i+1) (by omega) hi (by omega)
 have n:=List.pairwise_iff_getElem.1 h1 i (i+1) (by omega) hi (by omega)
 rcases str_tri R[i] R[i+1] with h | h | h
 ·exact h
 ·exact absurd h n
 ·exact absurd (List.le_antisymm k (List.le_of_lt h)) n
theorem ck_map (N:Nm l fr) (L:Lab l P fr D F) {R:List (List UInt8)} (h1:R.Nodup) (h2:R.Pairwise (·≤·)) (hR:∀ x,x∈R↔x∈D) (hn:R.length≤2401) {w:T31} (hw:w.Labels=R.map F) :
  ∃ x,loopO (lo11_4 w) (0,0,fun _=>none)=some x∧∃ n,x=.inl (n,mapQ F R):=by
 have hlen:w.Labels.length=R.length:=by rw[hw,List.length_map]
 refine loop_meas (b:=lo11_4 w) (fun s=>∃ (i:Nat) (f:List UInt8→Option Int),s=((i:Int),i,f)∧i≤R.length∧∀ q,f q=if q∈R.take i then some (F q).Length else none) (fun s=>(R.length - s.1).toNat)
  (fun x=>∃ n,x=.inl (n,mapQ F R)) (fun s hs=>?_) _ ⟨0,fun _=>none,rfl,by omega,fun q=>by simp⟩
 obtain⟨i,f,rfl,hi,hf⟩:=hs
 by_cases hlt:i < R.length
 ·obtain⟨k,hk⟩:∃ k,R.getD i default=k:=⟨_,rfl⟩
  have kD:k∈D:=(hR k).1 (by rw[← hk];exact getD_mem hlt)
  obtain⟨g1,g2,g3,g4,g5⟩:=L.good k kD
  have kl:k.length≤maxLen:=N.key (L.key k kD)
  have eL:w.Labels.getD i default=F k:=by rw[hw,map_getD hlt,hk]
  have w1:IntKind.wrap .i64 ((i:Int)+1)=((i+1:Nat):Int):=by rw[wr1 hlt (by omega)];omega
  have hm:i < maxLen:=by have:maxLen=9223372036854775807:=rfl;omega
  have wfk:(Lit.int .i64 (F k).Length).wf=true:=wf64 (by omega) (by omega)
  refine .inl ⟨(((i+1:Nat):Int),i+1,fun q=>if q=k then some (F k).Length else f q),?_,⟨i+1,_,rfl,hlt,fun q=>?_⟩,by simp only;omega⟩
  ·simp only[lo11_4,hlen,inL hlt,decide_true,if_true,Int.toNat_natCast,eL,g1,kl,hm,wfk,w1]
   by_cases h0:0 < i
   ·have wm:IntKind.wrap .i64 ((i:Int) - 1)=((i - 1:Nat):Int):=by rw[w64 (by omega) (by omega)];omega
    have c0:decide ((0:Int) < (i:Int))=true:=decide_eq_true (by omega)
    have c1:(0:Int)≤((i - 1:Nat):Int):=by omega
    have c2:((i - 1:Nat):Int) < (R.length:Int):=by omega
    have eP:w.Labels.getD (i - 1) default=F (R.getD (i - 1) default):=by rw[hw,map_getD (by omega)]
    have gP:=(L.good _ ((hR _).1 (getD_mem (show i - 1 < R.length by omega)))).1
    have lt:R.getD (i - 1) default < k:=by
     have:=asc h1 h2 (i:=i - 1) (by omega)
     rw[show i - 1+1=i by omega,hk]at this;exact this
    have bl:Op.bytesLess (R.getD (i - 1) default) k=true:=by rw[less_eq];exact decide_eq_true lt
    simp only[c0,wm,c1,c2,Int.toNat_natCast,eP,gP,bl,if_true,implies_true,Bool.not_true,Bool.and_false,Bool.false_eq_true,if_false]
   ·have c0:decide ((0:Int) < (i:Int))=false:=decide_eq_false (by omega)
    simp only[c0,Bool.false_eq_true,false_implies,if_true,Bool.false_and,if_false]
  ·have ek:R[i]=k:=by rw[← hk];simp[List.getD_eq_getElem?_getD,List.getElem?_eq_getElem hlt]
   have mt:q∈R.take (i+1)↔(q∈R.take i∨q=k):=by
    rw[List.take_add_one,List.mem_append,List.getElem?_eq_getElem hlt,ek];simp
   rw[hf q]
   by_cases e:q=k
   ·subst e;rw[if_pos rfl,if_pos (mt.2 (.inr rfl))]
   ·rw[if_neg e]
    by_cases h3:q∈R.take i
    ·rw[if_pos h3,if_pos (mt.2 (.inl h3))]
    ·rw[if_neg h3,if_neg (fun h=>(mt.1 h).elim h3 e)]
 ·obtain rfl:i=R.length:=by omega
  refine .inr ⟨.inl (R.length,mapQ F R),?_,R.length,rfl⟩
  have:f=mapQ F R:=by funext q;rw[hf q,List.take_length];rfl
  simp only[lo11_4,hlen,lt_irr,decide_false,Bool.false_eq_true,if_false,this]
theorem ck_fe (N:Nm l fr) (L:Lab l P fr D F) {R:List (List UInt8)} (hR:∀ x,x∈R↔x∈D) (hn:R.length≤2401) {w:T31} (hw:w.Labels=R.map F) (n an:Nat) (ah:List UInt8→Bool) {Z:Option Int} {k:Unit→Option Int} (hk:k ()=Z) :
  (loopO (lo11_3 w l (n,mapQ F R) (an,ah,P)) 0).bind (onS k)=Z:=by
 have hlen:w.Labels.length=R.length:=by rw[hw,List.length_map]
 refine loop_pass R.length (fun i hi=>?_) ?_ hk
 ·obtain⟨u,hu⟩:∃ u,R.getD i default=u:=⟨_,rfl⟩
  have uD:u∈D:=(hR u).1 (by rw[← hu];exact getD_mem hi)
  obtain⟨g1,g2,g3,g4,g5⟩:=L.good u uD
  have ul:u.length≤maxLen:=N.key (L.key u uD)
  have eL:w.Labels.getD i default=F u:=by rw[hw,map_getD hi,hu]
  have hh:=hopsL_len N.wf u
  have inner:=loop_pass (k:=fun _=>(some (.inl (IntKind.wrap .i64 ((i:Int)+1))):Option (Int⊕(Unit⊕Int)))) (b:=lo11_2 (hopsL l u,((hopsL l u).length:Int)) (n,mapQ F R) w (i:Int) (an,ah,P)) (hopsL l u).length (fun j hj=>by
   obtain⟨h,hhj⟩:∃ h,(hopsL l u).getD j default=h:=⟨_,rfl⟩
   have hm:h∈hopsL l u:=by rw[← hhj];exact getD_mem hj
   obtain⟨t1,t2⟩:=L.fe u uD h hm
   have tl:h.To.length≤maxLen:=N.key (L.key _ t1)
   have hr:=lenP_range P u h.To
   have mq:mapQ F R h.To=some (F h.To).Length:=if_pos ((hR _).2 t1)
   have c1:decide ((F u).Length+lenP P u h.To < (F h.To).Length)=false:=decide_eq_false (by omega)
   simp only[lo11_2,inL hj,decide_true,if_true,Int.toNat_natCast,hhj,tl,mq,Option.isSome_some,Bool.not_true,Bool.not_false,eL,g1,length_eq ul tl,Option.bind_some,add_eq g4 hr.1 (show (F u).Length+lenP P u h.To≤9223372036854775807 by omega),Option.getD_some,c1,Bool.or_false,Bool.false_eq_true,if_false,wr1 hj (by omega)]) (by simp only[lo11_2,lt_irr,decide_false,Bool.false_eq_true,if_false]) rfl
  rw[wr1 hi (by omega)]at inner
  have hc:m25 l u=some (hopsL l u):=hops_eq N.wf u
  simp only[lo11_3,hlen,inL hi,decide_true,if_true,Option.bind_some,onS,Int.toNat_natCast,eL,g1,hc,wr1 hi (by omega)]
  exact inner
 ·simp only[lo11_3,hlen,lt_irr,decide_false,Bool.false_eq_true,if_false,Option.bind_some,onS]
theorem drop_at {hs:List T49} {i:Nat} (hi:i < hs.length):hs.drop i=hs.getD i default :: hs.drop (i+1):=by
 rw[List.drop_eq_getElem_cons hi]
 congr 1
 simp[List.getD_eq_getElem?_getD,List.getElem?_eq_getElem hi]
theorem ck_walk (N:Nm l fr) (L:Lab l P fr D F) {v:List UInt8} {w:T31} (W:Walk l P fr w.Hops v w.Length) (hl:w.Hops.length≤2401) (an:Nat) (ah:List UInt8→Bool) :
  ∃ x,loopO (lo11_1 w l (an,ah,P)) (fr,0,0)=some x∧x=.inl (v,w.Length):=by
 refine loop_meas (b:=lo11_1 w l (an,ah,P)) (fun s=>∃ (i:Nat) (u:List UInt8) (n:Int),s=(u,n,(i:Int))∧i≤w.Hops.length∧u∈D∧Walk l P u (w.Hops.drop i) v (w.Length - n)∧0≤n∧n≤(i:Int) * 64800000) (fun s=>(w.Hops.length - s.2.2).toNat)
  (fun x=>x=.inl (v,w.Length)) (fun s hs=>?_) _ ⟨0,fr,0,rfl,by omega,L.st,by simpa using W,by omega,by omega⟩
 obtain⟨i,u,n,rfl,hi,uD,W,n1,n2⟩:=hs
 by_cases hlt:i < w.Hops.length
 ·obtain⟨h,hh⟩:∃ h,w.Hops.getD i default=h:=⟨_,rfl⟩
  rw[drop_at hlt,hh]at W
  obtain⟨hm,W⟩:=W
  obtain⟨t1,t2⟩:=L.fe u uD h hm
  have ul:u.length≤maxLen:=N.key (L.key u uD)
  have tl:h.To.length≤maxLen:=N.key (L.key _ t1)
  have hr:=lenP_range P u h.To
  have hlen:=hopsL_len N.wf u
  have w1:IntKind.wrap .i64 ((i:Int)+1)=((i+1:Nat):Int):=by rw[wr1 hlt (by omega)];omega
  have w2:IntKind.wrap .i64 (n+lenP P u h.To)=n+lenP P u h.To:=w64 (by omega) (by omega)
  refine .inl ⟨(h.To,n+lenP P u h.To,((i+1:Nat):Int)),?_,⟨i+1,h.To,_,rfl,hlt,t1,?_,by omega,by omega⟩,by simp only;omega⟩
  ·simp only[lo11_1,inL hlt,decide_true,if_true,Int.toNat_natCast,hh,hops_eq N.wf,Option.bind_some,cont_true (show (hopsL l u).length≤1000000 by omega) hm,Bool.not_true,Bool.false_eq_true,if_false,length_eq ul tl,w1,w2]
  ·have e:w.Length - n - lenP P u h.To=w.Length - (n+lenP P u h.To):=by omega
   rw[e]at W;exact W
 ·obtain rfl:i=w.Hops.length:=by omega
  rw[List.drop_length]at W
  obtain⟨rfl,h0⟩:=W
  refine .inr ⟨_,?_,rfl⟩
  have en:n=w.Length:=by omega
  simp only[lo11_1,lt_irr,decide_false,Bool.false_eq_true,if_false,en]
theorem checkway_ok {fs:List T54} (H:OkD l fs) {u v:List UInt8} (hu:u.length≤maxLen) (hv:v.length≤maxLen) (ho:m17o1 l fs u v=none) (N:Nm l u) {F:List UInt8→T69} {D R:List (List UInt8)} (L:Lab l (atF fs fs.length) u D F) (h1:R.Nodup) (h2:R.Pairwise (·≤·)) (hR:∀ x,x∈R↔x∈D) (hn:R.length≤2401)
  (hD:v∈D) {hs:List T49} (W:Walk l (atF fs fs.length) u hs v (F v).Length) (hl:hs.length≤2401):m11 l fs u v ⟨hs,(F v).Length,R.map F⟩=some 0:=by
 obtain⟨w,hw⟩:∃ w:T31,w=⟨hs,(F v).Length,R.map F⟩:=⟨_,rfl⟩
 have w1:w.Hops=hs:=by rw[hw]
 have w2:w.Length=(F v).Length:=by rw[hw]
 have w3:w.Labels=R.map F:=by rw[hw]
 rw[← hw]
 rcases open_cases H hu hv with⟨e,he,h0⟩ | ⟨_,A,n,h2o⟩
 ·rw[ho]at he;cases he
 obtain⟨x1,e1,m,rfl⟩:=ck_map N L h1 h2 hR hn w3
 obtain⟨x2,e2,rfl⟩:=ck_walk N L (v:=v) (w:=w) (by rw[w1,w2];exact W) (by rw[w1];exact hl) n (atH fs fs.length)
 rw[A11,ho,h2o]
 simp only[Option.bind_none,orJ]
 refine on_l (y:=(n,atH fs fs.length,atF fs fs.length)) rfl (on_l (y:=(m,mapQ F R)) (on_l (y:=()) rfl e1) (on_l (y:=()) ?_ ?_))
 ·have z:mapQ F R u=some 0:=by
   unfold mapQ
   rw[if_pos ((hR u).2 L.st),L.zero]
  simp only[hu,if_true,z,Option.isSome_some,Bool.not_true,Option.getD_some,bne_self_eq_false,Bool.or_false,Bool.false_eq_true,if_false]
 ·refine(show _=_ from ?_)
  simp only[Option.bind_some,onS]
  refine ck_fe N L hR hn w3 m n (atH fs fs.length) ?_
  rw[e2]
  have z:mapQ F R v=some w.Length:=by
   unfold mapQ
   rw[if_pos ((hR v).2 hD),w2]
  simp only[Option.bind_some,onS,bne_self_eq_false,Bool.false_eq_true,if_false,hv,if_true,z,Option.isSome_some,Bool.not_true,Option.getD_some,Bool.or_false]
end Go.Av.Air
set_option maxRecDepth 100000
namespace Go.Av.Air
theorem M7 (a0:T39) (a1 a2:List UInt8):m7 a0 a1 a2=((Option.bind (Option.bind (Option.bind (m22 a0) fun r=>some r) fun x1=>(if(x1 != 0)=true then(some (.inr (([],x1))))else(Option.bind (((m23 a0 a1).bind fun r4_0=>((m23 a0 a2).bind fun r4_1=>some (r4_0,r4_1)))) fun(x4:(Int×Int))=>(if((decide (x4.1 < 0)) || (decide (x4.2 < 0)))=true then(some (.inr (([],(6:Int)))))else(if(x4.1==x4.2)=true then(some (.inr (([],(1:Int)))))else(some (.inl (x4.1,x4.2)))))))) (onS fun(y1:Int×Int)=>(Option.bind (loopO (fun(s2:Int×(List T45))=>((if(s2.1 != y1.2)=true then(if(decide (y1.2 < s2.1))=true then(if(0≤(IntKind.wrap .i64 (s2.1 - 1)))then(if((IntKind.wrap .i64 (s2.1 - 1)) < (a0.Points.length:Int))then(if((a0.Points.getD (IntKind.wrap .i64 (s2.1 - 1)).toNat default).Dir==1)=true then(some (.inr (.inr (([],(9:Int))))))else(if(0≤(IntKind.wrap .i64 (s2.1 - 1)))then(if((IntKind.wrap .i64 (s2.1 - 1)) < (a0.Points.length:Int))then(if(0≤(IntKind.wrap .i64 (s2.1 - 1)))then(if((IntKind.wrap .i64 (s2.1 - 1)) < (a0.Points.length:Int))then(if((s2.2.length+1) * 40≤140737488355328)then(some (.inl ((IntKind.wrap .i64 (s2.1 - 1)),(s2.2++([(⟨(a0.Points.getD (IntKind.wrap .i64 (s2.1 - 1)).toNat default).Ref,(a0.Points.getD (IntKind.wrap .i64 (s2.1 - 1)).toNat default).Alt,(0:Int)⟩:T45)]:List T45)))))else none)else none)else none)else none)else none))else none)else none)else(if(0≤s2.1)then(if(s2.1 < (a0.Points.length:Int))then(if((a0.Points.getD s2.1.toNat default).Dir==2)=true then(some (.inr (.inr (([],(9:Int))))))else(if(0≤(IntKind.wrap .i64 (s2.1+1)))then(if((IntKind.wrap .i64 (s2.1+1)) < (a0.Points.length:Int))then(if(0≤s2.1)then(if(s2.1 < (a0.Points.length:Int))then(if((s2.2.length+1) * 40≤140737488355328)then(some (.inl ((IntKind.wrap .i64 (s2.1+1)),(s2.2++([(⟨(a0.Points.getD (IntKind.wrap .i64 (s2.1+1)).toNat default).Ref,(a0.Points.getD s2.1.toNat default).Alt,(0:Int)⟩:T45)]:List T45)))))else none)else none)else none)else none)else none))else none)else none))else(some (.inr (.inl s2.2)))):Option ((Int×(List T45))⊕(((List T45))⊕((List T45)×Int))))) (y1.1,[])) (onS fun(y3:(List T45))=>(some (y3,(0:Int))))))):Option ((List T45)×Int)):=by kernel_rfl
noncomputable abbrev lo7_1 (y1:Int×Int) (a0:T39):(Int×(List T45))→Option ((Int×(List T45))⊕(((List T45))⊕((List T45)×Int))):=(fun(s2:Int×(List T45))=>((if(s2.1 != y1.2)=true then(if(decide (y1.2 < s2.1))=true then(if(0≤(IntKind.wrap .i64 (s2.1 - 1)))then(if((IntKind.wrap .i64 (s2.1 - 1)) < (a0.Points.length:Int))then(if((a0.Points.getD (IntKind.wrap .i64 (s2.1 - 1)).toNat default).Dir==1)=true then(some (.inr (.inr (([],(9:Int))))))else(if(0≤(IntKind.wrap .i64 (s2.1 - 1)))then(if((IntKind.wrap .i64 (s2.1 - 1)) < (a0.Points.length:Int))then(if(0≤(IntKind.wrap .i64 (s2.1 - 1)))then(if((IntKind.wrap .i64 (s2.1 - 1)) < (a0.Points.length:Int))then(if((s2.2.length+1) * 40≤140737488355328)then(some (.inl ((IntKind.wrap .i64 (s2.1 - 1)),(s2.2++([(⟨(a0.Points.getD (IntKind.wrap .i64 (s2.1 - 1)).toNat default).Ref,(a0.Points.getD (IntKind.wrap .i64 (s2.1 - 1)).toNat default).Alt,(0:Int)⟩:T45)]:List T45)))))else none)else none)else none)else none)else none))else none)else none)else(if(0≤s2.1)then(if(s2.1 < (a0.Points.length:Int))then(if((a0.Points.getD s2.1.toNat default).Dir==2)=true then(some (.inr (.inr (([],(9:Int))))))else(if(0≤(IntKind.wrap .i64 (s2.1+1)))then(if((IntKind.wrap .i64 (s2.1+1)) < (a0.Points.length:Int))then(if(0≤s2.1)then(if(s2.1 < (a0.Points.length:Int))then(if((s2.2.length+1) * 40≤140737488355328)then(some (.inl ((IntKind.wrap .i64 (s2.1+1)),(s2.2++([(⟨(a0.Points.getD (IntKind.wrap .i64 (s2.1+1)).toNat default).Ref,(a0.Points.getD s2.1.toNat default).Alt,(0:Int)⟩:T45)]:List T45)))))else none)else none)else none)else none)else none))else none)else none))else(some (.inr (.inl s2.2)))):Option ((Int×(List T45))⊕(((List T45))⊕((List T45)×Int)))))
theorem A7 (a0:T39) (a1 a2:List UInt8):m7 a0 a1 a2=((Option.bind (Option.bind (Option.bind (m22 a0) fun r=>some r) fun x1=>(if(x1 != 0)=true then(some (.inr (([],x1))))else(Option.bind (((m23 a0 a1).bind fun r4_0=>((m23 a0 a2).bind fun r4_1=>some (r4_0,r4_1)))) fun(x4:(Int×Int))=>(if((decide (x4.1 < 0)) || (decide (x4.2 < 0)))=true then(some (.inr (([],(6:Int)))))else(if(x4.1==x4.2)=true then(some (.inr (([],(1:Int)))))else(some (.inl (x4.1,x4.2)))))))) (onS fun(y1:Int×Int)=>(Option.bind (loopO (lo7_1 y1 a0) (y1.1,[])) (onS fun(y3:(List T45))=>(some (y3,(0:Int))))))):Option ((List T45)×Int)):=M7 _ _ _
theorem M3 (a0:List T39) (a1:List T54) (a2:T26):m3 a0 a1 a2=((Option.bind (Option.bind (Option.bind (m5) fun r=>some r) fun x1=>(if(!x1)=true then(some (.inr (false)))else(Option.bind (Option.bind (m6 a0 a1 a2.From a2.From) fun r=>some r) fun x3=>(if(x3.2 != 0)=true then(some (.inr (true)))else(some (.inl ())))))) (onS fun(_:Unit)=>(Option.bind (Option.bind (some (.inl ())) (onS fun(_:Unit)=>(loopO (fun(s1:(List UInt8)×Int×Int)=>((Option.bind (if(decide (s1.2.2 < (a2.Legs.length:Int)))=true then(some (.inl ()))else(some (.inr (.inr (.inl (s1.1,s1.2.1)))))) (onS fun(_:Unit)=>(Option.bind (Option.bind (if(0≤s1.2.2)then(if(s1.2.2 < (a2.Legs.length:Int))then(if((decide (8≤s1.2.2)) || ((a0.length:Int)==(0:Int)))=true then(some (.inr (.inr (.inr (.inl (s1.1,s1.2.1))))))else(if((a0.length:Int)≠0)then(if(0≤(Int.tmod (IntKind.wrap .i64 ((a2.Legs.getD s1.2.2.toNat default).Airway)) (a0.length:Int)))then(if((Int.tmod (IntKind.wrap .i64 ((a2.Legs.getD s1.2.2.toNat default).Airway)) (a0.length:Int)) < (a0.length:Int))then(Option.bind (Option.bind (m7 (a0.getD (Int.tmod (IntKind.wrap .i64 ((a2.Legs.getD s1.2.2.toNat default).Airway)) (a0.length:Int)).toNat default) s1.1 (a2.Legs.getD s1.2.2.toNat default).To) fun r=>some r) fun x12=>(if(x12.2 != 0)=true then(if(decide (0 < (x12.1.length:Int)))=true then(some (.inr (.inr (.inr (.inr (false))))))else(some (.inr (.inl (s1.1,s1.2.1)))))else(some (.inl x12.1))))else none)else none)else none))else none)else none) (onS fun(y2:(List T45))=>(Option.bind (Option.bind (some (.inl ())) (onS fun(_:Unit)=>(loopO (fun(s3:(List UInt8)×Int×Int)=>((Option.bind (if(decide (s3.2.2 < (y2.length:Int)))=true then(some (.inl ()))else(some (.inr (.inr (.inl (s3.1,s3.2.1)))))) (onS fun(_:Unit)=>(Option.bind (Option.bind (if(0≤s3.2.2)then(if(s3.2.2 < (y2.length:Int))then(Option.bind (Option.bind (m8 a0 s3.1) fun r=>some r) fun x19=>(some (.inl (x19.1,x19.2))))else none)else none) (onS fun(y4:(List T49)×Int)=>(Option.bind (Option.bind (some (.inl ())) (onS fun(_:Unit)=>(loopO (fun(s5:Bool×Int)=>((if(decide (s5.2 < (y4.1.length:Int)))=true then(if(0≤s5.2)then(if(s5.2 < (y4.1.length:Int))then(some (.inl ((s5.1 || (((y4.1.getD s5.2.toNat default).Airway==(a0.getD (Int.tmod (IntKind.wrap .i64 ((a2.Legs.getD s1.2.2.toNat default).Airway)) (a0.length:Int)).toNat default).Name)&&(((y4.1.getD s5.2.toNat default).To==(y2.getD s3.2.2.toNat default).Ref)&&((((y4.1.getD s5.2.toNat default).Alt.Lo==(y2.getD s3.2.2.toNat default).Alt.Lo)&&(((y4.1.getD s5.2.toNat default).Alt.Hi==(y2.getD s3.2.2.toNat default).Alt.Hi)&&true))&&true)))),(IntKind.wrap .i64 (s5.2+1)))))else none)else none)else(some (.inr (.inl s5.1)))):Option ((Bool×Int)⊕((Bool)⊕((Int)⊕(((List UInt8)×Int×Int)⊕(((List UInt8)×Int)⊕(((List UInt8)×Int)⊕(((List UInt8)×Int×Int)⊕(((List UInt8)×Int)⊕(Bool))))))))))) (false,(0:Int))))) (onS fun(y6:Bool)=>(Option.bind (Option.bind (m9 a1 s3.1) fun r=>some r) fun x26=>(Option.bind (Option.bind (m9 a1 (y2.getD s3.2.2.toNat default).Ref) fun r=>some r) fun x27=>(Option.bind (Option.bind (m10 x26.1.Pos x27.1.Pos) fun r=>some r) fun x28=>(if(((y4.2 != 0) || (x28.2 != 0)) || (!y6))=true then(some (.inr (.inr (.inr (.inr (.inr (.inr (false))))))))else(some (.inl (IntKind.wrap .i64 (s3.2.1+x28.1)))))))))))) (onS fun(y7:Int)=>(some (.inl ((y2.getD s3.2.2.toNat default).Ref,y7,(IntKind.wrap .i64 (s3.2.2+1))))))))):Option (((List UInt8)×Int×Int)⊕(((List UInt8)×Int)⊕(((List UInt8)×Int)⊕(((List UInt8)×Int×Int)⊕(((List UInt8)×Int)⊕(Bool)))))))) (s1.1,s1.2.1,(0:Int))))) (onS fun(y8:(List UInt8)×Int)=>(if(y8.1 != (a2.Legs.getD s1.2.2.toNat default).To)=true then(some (.inr (.inr (.inr (false)))))else(some (.inl (y8.1,y8.2)))))))) (onS fun(y9:(List UInt8)×Int)=>(some (.inl (y9.1,y9.2,(IntKind.wrap .i64 (s1.2.2+1))))))))):Option (((List UInt8)×Int×Int)⊕(((List UInt8)×Int)⊕(Bool))))) (a2.From,(0:Int),(0:Int))))) (onS fun(y10:(List UInt8)×Int)=>(Option.bind (Option.bind (m6 a0 a1 a2.From y10.1) fun r=>some r) fun x36=>(Option.bind (((if((x36.2==0)&&(decide (x36.1.Length≤y10.2)))=true then m11 a0 a1 a2.From y10.1 x36.1 else some default).bind fun r37_0=>some r37_0)) fun(x37:(Int))=>(some (((x36.2==0)&&(decide (x36.1.Length≤y10.2)))&&(x37==0))))))))):Option (Bool)):=by kernel_rfl
noncomputable abbrev lo3_1 (y4:(List T49)×Int) (a0:List T39) (a2:T26) (s1:(List UInt8)×Int×Int) (y2:(List T45)) (s3:(List UInt8)×Int×Int):(Bool×Int)→Option ((Bool×Int)⊕((Bool)⊕((Int)⊕(((List UInt8)×Int×Int)⊕(((List UInt8)×Int)⊕(((List UInt8)×Int)⊕(((List UInt8)×Int×Int)⊕(((List UInt8)×Int)⊕(Bool))))))))):=(fun(s5:Bool×Int)=>((if(decide (s5.2 < (y4.1.length:Int)))=true then(if(0≤s5.2)then(if(s5.2 < (y4.1.length:Int))then(some (.inl ((s5.1 || (((y4.1.getD s5.2.toNat default).Airway==(a0.getD (Int.tmod (IntKind.wrap .i64 ((a2.Legs.getD s1.2.2.toNat default).Airway)) (a0.length:Int)).toNat default).Name)&&(((y4.1.getD s5.2.toNat default).To==(y2.getD s3.2.2.toNat default).Ref)&&((((y4.1.getD s5.2.toNat default).Alt.Lo==(y2.getD s3.2.2.toNat default).Alt.Lo)&&(((y4.1.getD s5.2.toNat default).Alt.Hi==(y2.getD s3.2.2.toNat default).Alt.Hi)&&true))&&true)))),(IntKind.wrap .i64 (s5.2+1)))))else none)else none)else(some (.inr (.inl s5.1)))):Option ((Bool×Int)⊕((Bool)⊕((Int)⊕(((List UInt8)×Int×Int)⊕(((List UInt8)×Int)⊕(((List UInt8)×Int)⊕(((List UInt8)×Int×Int)⊕(((List UInt8)×Int)⊕(Bool)))))))))))
noncomputable abbrev lo3_2 (y2:(List T45)) (a0:List T39) (a2:T26) (s1:(List UInt8)×Int×Int) (a1:List T54):((List UInt8)×Int×Int)→Option (((List UInt8)×Int×Int)⊕(((List UInt8)×Int)⊕(((List UInt8)×Int)⊕(((List UInt8)×Int×Int)⊕(((List UInt8)×Int)⊕(Bool)))))):=(fun(s3:(List UInt8)×Int×Int)=>((Option.bind (if(decide (s3.2.2 < (y2.length:Int)))=true then(some (.inl ()))else(some (.inr (.inr (.inl (s3.1,s3.2.1)))))) (onS fun(_:Unit)=>(Option.bind (Option.bind (if(0≤s3.2.2)then(if(s3.2.2 < (y2.length:Int))then(Option.bind (Option.bind (m8 a0 s3.1) fun r=>some r) fun x19=>(some (.inl (x19.1,x19.2))))else none)else none) (onS fun(y4:(List T49)×Int)=>(Option.bind (Option.bind (some (.inl ())) (onS fun(_:Unit)=>(loopO (lo3_1 y4 a0 a2 s1 y2 s3) (false,(0:Int))))) (onS fun(y6:Bool)=>(Option.bind (Option.bind (m9 a1 s3.1) fun r=>some r) fun x26=>(Option.bind (Option.bind (m9 a1 (y2.getD s3.2.2.toNat default).Ref) fun r=>some r) fun x27=>(Option.bind (Option.bind (m10 x26.1.Pos x27.1.Pos) fun r=>some r) fun x28=>(if(((y4.2 != 0) || (x28.2 != 0)) || (!y6))=true then(some (.inr (.inr (.inr (.inr (.inr (.inr (false))))))))else(some (.inl (IntKind.wrap .i64 (s3.2.1+x28.1)))))))))))) (onS fun(y7:Int)=>(some (.inl ((y2.getD s3.2.2.toNat default).Ref,y7,(IntKind.wrap .i64 (s3.2.2+1))))))))):Option (((List UInt8)×Int×Int)⊕(((List UInt8)×Int)⊕(((List UInt8)×Int)⊕(((List UInt8)×Int×Int)⊕(((List UInt8)×Int)⊕(Bool))))))))
noncomputable abbrev lo3_3 (a2:T26) (a0:List T39) (a1:List T54):((List UInt8)×Int×Int)→Option (((List UInt8)×Int×Int)⊕(((List UInt8)×Int)⊕(Bool))):=(fun(s1:(List UInt8)×Int×Int)=>((Option.bind (if(decide (s1.2.2 < (a2.Legs.length:Int)))=true then(some (.inl ()))else(some (.inr (.inr (.inl (s1.1,s1.2.1)))))) (onS fun(_:Unit)=>(Option.bind (Option.bind (if(0≤s1.2.2)then(if(s1.2.2 < (a2.Legs.length:Int))then(if((decide (8≤s1.2.2)) || ((a0.length:Int)==(0:Int)))=true then(some (.inr (.inr (.inr (.inl (s1.1,s1.2.1))))))else(if((a0.length:Int)≠0)then(if(0≤(Int.tmod (IntKind.wrap .i64 ((a2.Legs.getD s1.2.2.toNat default).Airway)) (a0.length:Int)))then(if((Int.tmod (IntKind.wrap .i64 ((a2.Legs.getD s1.2.2.toNat default).Airway)) (a0.length:Int)) < (a0.length:Int))then(Option.bind (Option.bind (m7 (a0.getD (Int.tmod (IntKind.wrap .i64 ((a2.Legs.getD s1.2.2.toNat default).Airway)) (a0.length:Int)).toNat default) s1.1 (a2.Legs.getD s1.2.2.toNat default).To) fun r=>some r) fun x12=>(if(x12.2 != 0)=true then(if(decide (0 < (x12.1.length:Int)))=true then(some (.inr (.inr (.inr (.inr (false))))))else(some (.inr (.inl (s1.1,s1.2.1)))))else(some (.inl x12.1))))else none)else none)else none))else none)else none) (onS fun(y2:(List T45))=>(Option.bind (Option.bind (some (.inl ())) (onS fun(_:Unit)=>(loopO (lo3_2 y2 a0 a2 s1 a1) (s1.1,s1.2.1,(0:Int))))) (onS fun(y8:(List UInt8)×Int)=>(if(y8.1 != (a2.Legs.getD s1.2.2.toNat default).To)=true then(some (.inr (.inr (.inr (false)))))else(some (.inl (y8.1,y8.2)))))))) (onS fun(y9:(List UInt8)×Int)=>(some (.inl (y9.1,y9.2,(IntKind.wrap .i64 (s1.2.2+1))))))))):Option (((List UInt8)×Int×Int)⊕(((List UInt8)×Int)⊕(Bool)))))
theorem A3 (a0:List T39) (a1:List T54) (a2:T26):m3 a0 a1 a2=((Option.bind (Option.bind (Option.bind (m5) fun r=>some r) fun x1=>(if(!x1)=true then(some (.inr (false)))else(Option.bind (Option.bind (m6 a0 a1 a2.From a2.From) fun r=>some r) fun x3=>(if(x3.2 != 0)=true then(some (.inr (true)))else(some (.inl ())))))) (onS fun(_:Unit)=>(Option.bind (Option.bind (some (.inl ())) (onS fun(_:Unit)=>(loopO (lo3_3 a2 a0 a1) (a2.From,(0:Int),(0:Int))))) (onS fun(y10:(List UInt8)×Int)=>(Option.bind (Option.bind (m6 a0 a1 a2.From y10.1) fun r=>some r) fun x36=>(Option.bind (((if((x36.2==0)&&(decide (x36.1.Length≤y10.2)))=true then m11 a0 a1 a2.From y10.1 x36.1 else some default).bind fun r37_0=>some r37_0)) fun(x37:(Int))=>(some (((x36.2==0)&&(decide (x36.1.Length≤y10.2)))&&(x37==0))))))))):Option (Bool)):=M3 _ _ _
variable {l:List T39} {P:List UInt8→T52} {fr:List UInt8} {D:List (List UInt8)} {F:List UInt8→T69}
theorem check_of_open {fs:List T54} (H:OkD l fs) {u v:List UInt8} (ho:m17o1 l fs u v=none):m24 l=some 0:=by
 obtain⟨c,hc,_⟩:=check_ok H.a
 by_cases c0:c=0
 ·rw[hc,c0]
 ·rw[M17o1,hc]at ho
  have:(c != 0)=true:=by simpa using c0
  simp only[Option.bind_some,this,if_true]at ho
  cases ho
theorem open_none {fs:List T54} (H:OkD l fs) {u v:List UInt8} (hu:u.length≤maxLen) (hv:v.length≤maxLen) (hc:m24 l=some 0) (A:Atl l fs u v):m17o1 l fs u v=none:=by
 have W:=A.wf
 have h60:=W.few
 have h4:=A.few
 rw[M17o1,hc]
 have hn4:decide ((400:Int) < (fs.length:Int))=false:=by simp;omega
 simp only[Option.bind_some,bne_self_eq_false,hn4,Bool.false_eq_true,if_false,onS]
 obtain⟨s1,L1,I1⟩:=atB_loop (X:=Int) H.f h4
 rw[L1]
 simp only[Option.bind_some,onS]
 rw[refO_loop (X:=Int) W]
 simp only[Option.bind_some,onS]
 obtain⟨n1,h1,F1⟩:=s1
 obtain⟨_,e1,e2⟩:=I1
 simp only at e1 e2
 subst e1;subst e2
 have rl:([u,v]++refsL l).length≤6000:=by
  have:=refs_len W l.length (Nat.le_refl _)
  rw[refsL_eq]
  simp only[List.length_append,List.length_cons,List.length_nil]
  omega
 have rm:∀ j,j < ([u,v]++refsL l).length→(([u,v]++refsL l).getD j default).length≤maxLen:=fun j hj=>by
  have hm:=getD_mem (l:=[u,v]++refsL l) hj
  rcases List.mem_append.1 hm with hm | hm
  ·simp only[List.mem_cons,List.not_mem_nil,or_false]at hm
   rcases hm with h | h
   ·rw[h];exact hu
   ·rw[h];exact hv
  ·obtain⟨k,i,hk,hi,h⟩:=mem_refs.1 hm
   rw[h];exact H.a k hk i hi
 have hall:∀ j,j < ([u,v]++refsL l).length→atH fs fs.length (([u,v]++refsL l).getD j default)=true:=fun j hj=>by
  have hm:=getD_mem (l:=[u,v]++refsL l) hj
  rcases List.mem_append.1 hm with hm | hm
  ·simp only[List.mem_cons,List.not_mem_nil,or_false]at hm
   rcases hm with h | h
   ·rw[h];exact A.fr
   ·rw[h];exact A.to
  ·obtain⟨k,i,hk,hi,h⟩:=mem_refs.1 hm
   rw[h];exact A.all k i hk hi
 have hg:gdL (atF fs fs.length) l:=fun k hk i h1 hi=>by
  have:=A.val k (i - 1) hk (by omega)
  rw[show i - 1+1=i by omega]at this
  exact(distE_iff _ _).2 this
 rw[pB_pass (R:=Int) (z:=some (.inr (.inr 6))) rl rm hall]
 simp only[Option.bind_some,onS]
 rw[vO_pass (R:=Int) (z:=fun e=>some (.inr (.inr (.inr (.inr e))))) W H.a hg]
 rfl
theorem Wf.at_ {a:T39} (W:Wf a) {i:Nat} (hi:i < a.Points.length):ixA a (rf a i)=i:=by
 rcases ixA_cases a (rf a i) with⟨_,h⟩ | ⟨j,h,hj⟩
 ·exact absurd rfl (h i hi)
 ·rw[h,W.inj j i hj.lt hi hj.ref]
def Pts (a:T39):List UInt8→List T45→List UInt8→Prop
 | u,[],v=>u=v
 | u,p :: ps,v=>(⟨a.Name,p.Ref,p.Alt⟩:T49)∈hopsA a u∧Pts a p.Ref ps v
theorem pts_app {a:T39}:∀ {ps:List T45} {u v:List UInt8},Pts a u ps v→∀ {p:T45},(⟨a.Name,p.Ref,p.Alt⟩:T49)∈hopsA a v→Pts a u (ps++[p]) p.Ref
 | [],u,v,h,p,hp=>by
  obtain rfl:=h
  exact⟨hp,rfl⟩
 | q :: ps,u,v,h,p,hp=>⟨h.1,pts_app h.2 hp⟩
theorem hopsA_at {a:T39} (W:Wf a) {i:Nat} (hi:i < a.Points.length):hopsA a (rf a i)=hopsI a i:=by
 unfold hopsA
 rw[W.at_ hi,if_neg (by omega),Int.toNat_natCast]
theorem ex_loop {a:T39} (W:Wf a) {i j:Nat} (hi:i < a.Points.length) (hj:j < a.Points.length) {u v:List UInt8} (hu:rf a i=u) (hv:rf a j=v) :
  ∃ x,loopO (lo7_1 ((i:Int),(j:Int)) a) ((i:Int),[])=some x∧((∃ e,e≠0∧x=.inr ([],e))∨∃ ps,x=.inl ps∧ps.length≤40∧Pts a u ps v):=by
 have h40:=W.few
 refine loop_meas (b:=lo7_1 ((i:Int),(j:Int)) a) (fun s=>∃ (k:Nat) (ps:List T45),s=((k:Int),ps)∧k < a.Points.length∧(ps.length:Int)+((j:Int) - k).natAbs≤40∧Pts a u ps (rf a k)) (fun s=>((j:Int) - s.1).natAbs)
  (fun x=>(∃ e,e≠0∧x=.inr ([],e))∨∃ ps,x=.inl ps∧ps.length≤40∧Pts a u ps v) (fun s hs=>?_) _ ⟨i,[],rfl,hi,by simp;omega,hu.symm⟩
 obtain⟨k,ps,rfl,hk,hl,hp⟩:=hs
 have p40:(ps.length+1) * 40≤140737488355328:=Nat.le_trans (Nat.mul_le_mul_right 40 (show ps.length+1≤41 by omega)) (by decide)
 by_cases e:k=j
 ·subst e
  have c:((k:Int) != (k:Int))=false:=by simp
  refine .inr ⟨.inl ps,by simp only[lo7_1,c,Bool.false_eq_true,if_false],.inr ⟨ps,rfl,by omega,by rw[← hv];exact hp⟩⟩
 ·have c:((k:Int) != (j:Int))=true:=by simp;omega
  by_cases hlt:j < k
  ·have c2:decide ((j:Int) < (k:Int))=true:=decide_eq_true (by omega)
   have w1:IntKind.wrap .i64 ((k:Int) - 1)=((k - 1:Nat):Int):=by rw[w64 (by omega) (by omega)];omega
   have z:=inL (show k - 1 < a.Points.length by omega)
   by_cases hd:((a.Points.getD (k - 1) default).Dir==1)=true
   ·refine .inr ⟨.inr ([],9),?_,.inl ⟨9,by decide,rfl⟩⟩
    simp only[lo7_1,c,c2,if_true,w1,z,Int.toNat_natCast,hd]
   ·refine .inl ⟨(((k - 1:Nat):Int),ps++[⟨rf a (k - 1),(pt a (k - 1)).Alt,0⟩]),?_,⟨k - 1,_,rfl,by omega,by rw[List.length_append,List.length_singleton];omega,?_⟩,by simp only;omega⟩
    ·simp only[lo7_1,c,c2,if_true,w1,z,Int.toNat_natCast,hd,Bool.false_eq_true,if_false,p40]
     rfl
    ·refine pts_app hp (p:=⟨rf a (k - 1),(pt a (k - 1)).Alt,0⟩) ?_
     rw[hopsA_at W hk]
     unfold hopsI
     have hb:bwd a k=true:=by
      unfold bwd pt
      simp only[Bool.and_eq_true,decide_eq_true_eq,bne_iff_ne]
      exact⟨by omega,by simpa using hd⟩
     rw[hb]
     simp[hopB]
  ·have c2:decide ((j:Int) < (k:Int))=false:=decide_eq_false (by omega)
   have w1:IntKind.wrap .i64 ((k:Int)+1)=((k+1:Nat):Int):=by rw[w64 (by omega) (by omega)];omega
   have z:=inL (show k+1 < a.Points.length by omega)
   have z2:=inL hk
   by_cases hd:((a.Points.getD k default).Dir==2)=true
   ·refine .inr ⟨.inr ([],9),?_,.inl ⟨9,by decide,rfl⟩⟩
    simp only[lo7_1,c,c2,if_true,z2,Int.toNat_natCast,hd,Bool.false_eq_true,if_false]
   ·refine .inl ⟨(((k+1:Nat):Int),ps++[⟨rf a (k+1),(pt a k).Alt,0⟩]),?_,⟨k+1,_,rfl,by omega,by rw[List.length_append,List.length_singleton];omega,?_⟩,by simp only;omega⟩
    ·simp only[lo7_1,c,c2,if_true,w1,z,z2,Int.toNat_natCast,hd,Bool.false_eq_true,if_false,p40]
     rfl
    ·refine pts_app hp (p:=⟨rf a (k+1),(pt a k).Alt,0⟩) ?_
     rw[hopsA_at W hk]
     unfold hopsI
     have hb:fwd a k=true:=by
      unfold fwd pt
      simp only[Bool.and_eq_true,decide_eq_true_eq,bne_iff_ne]
      exact⟨by omega,by simpa using hd⟩
     rw[hb]
     simp[hopF]
theorem expand_cases {a:T39} (ha:okA a) (W:Wf a) (u v:List UInt8):(∃ e,e≠0∧m7 a u v=some ([],e))∨∃ ps,m7 a u v=some (ps,0)∧ps.length≤40∧Pts a u ps v:=by
 have h40:=W.few
 obtain⟨c,hc,_⟩:=Check_ok ha
 rw[A7,hc]
 by_cases c0:c=0
 case neg =>
  have:(c != 0)=true:=by simpa using c0
  simp only[Option.bind_some,this,if_true,onS]
  exact .inl ⟨c,c0,rfl⟩
 subst c0
 rw[index_eq a u (by omega),index_eq a v (by omega)]
 simp only[Option.bind_some,bne_self_eq_false,Bool.false_eq_true,if_false]
 rcases ixA_cases a u with⟨h1,_⟩ | ⟨i,h1,hi⟩
 ·have:decide (ixA a u < 0)=true:=decide_eq_true (by omega)
  simp only[this,Bool.true_or,if_true,Option.bind_some,onS]
  exact .inl ⟨6,by decide,rfl⟩
 rcases ixA_cases a v with⟨h2,_⟩ | ⟨j,h2,hj⟩
 ·have:decide (ixA a v < 0)=true:=decide_eq_true (by omega)
  simp only[this,Bool.or_true,if_true,Option.bind_some,onS]
  exact .inl ⟨6,by decide,rfl⟩
 rw[h1,h2]
 have d1:decide ((i:Int) < 0)=false:=decide_eq_false (by omega)
 have d2:decide ((j:Int) < 0)=false:=decide_eq_false (by omega)
 by_cases e:i=j
 ·have:((i:Int)==(j:Int))=true:=by simp;omega
  simp only[d1,d2,Bool.or_self,Bool.false_eq_true,if_false,this,if_true,Option.bind_some,onS]
  exact .inl ⟨1,by decide,rfl⟩
 ·have:((i:Int)==(j:Int))=false:=by simp;omega
  simp only[d1,d2,Bool.or_self,Bool.false_eq_true,if_false,this,Option.bind_some,onS]
  obtain⟨x,ex,h⟩:=ex_loop W hi.lt hj.lt hi.ref hj.ref
  rw[ex]
  rcases h with⟨e,e0,rfl⟩ | ⟨ps,rfl,h1,h2⟩
  ·exact .inl ⟨e,e0,rfl⟩
  ·exact .inr ⟨ps,rfl,h1,h2⟩
end Go.Av.Air
set_option maxRecDepth 100000
namespace Go.Av.Air
variable {l:List T39} {P:List UInt8→T52} {fr:List UInt8} {D:List (List UInt8)} {F:List UInt8→T69}
theorem found_loop {hs:List T49} (hl:hs.length≤1000) {x:T26} {s1:(List UInt8)×Int×Int} {y2:List T45} {s3:(List UInt8)×Int×Int} {a:T39} {p:T45}
  (e1:l.getD (Int.tmod (IntKind.wrap .i64 ((x.Legs.getD s1.2.2.toNat default).Airway)) (l.length:Int)).toNat default=a) (e2:y2.getD s3.2.2.toNat default=p) (hm:(⟨a.Name,p.Ref,p.Alt⟩:T49)∈hs) (e:Int) :
  ∃ z,loopO (lo3_1 (hs,e) l x s1 y2 s3) (false,0)=some z∧z=.inl true:=by
 obtain⟨m,hm,em⟩:=mem_getD hm
 refine loop_meas (b:=lo3_1 (hs,e) l x s1 y2 s3) (fun s=>∃ (b:Bool) (j:Nat),s=(b,(j:Int))∧j≤hs.length∧(m < j→b=true)) (fun s=>(hs.length - s.2).toNat)
  (fun z=>z=.inl true) (fun s hs'=>?_) _ ⟨false,0,rfl,by omega,fun h=>absurd h (Nat.not_lt_zero m)⟩
 obtain⟨b,j,rfl,hj,hb⟩:=hs'
 by_cases hlt:j < hs.length
 ·have w1:IntKind.wrap .i64 ((j:Int)+1)=((j+1:Nat):Int):=by rw[wr1 hlt (by omega)];omega
  refine .inl ⟨(b || (((hs.getD j default).Airway==a.Name)&&(((hs.getD j default).To==p.Ref)&&((((hs.getD j default).Alt.Lo==p.Alt.Lo)&&(((hs.getD j default).Alt.Hi==p.Alt.Hi)&&true))&&true))),((j+1:Nat):Int)),?_,⟨_,j+1,rfl,hlt,fun h=>?_⟩,by simp only;omega⟩
  ·simp only[lo3_1,inL hlt,decide_true,if_true,Int.toNat_natCast,e1,e2,w1]
  ·by_cases ej:m=j
   ·subst ej
    rw[em];simp
   ·rw[hb (by omega),Bool.true_or]
 ·obtain rfl:j=hs.length:=by omega
  refine .inr ⟨.inl b,?_,by rw[hb hm]⟩
  simp only[lo3_1,lt_irr,decide_false,Bool.false_eq_true,if_false]
theorem hopsA_sub {k:Nat} (hk:k < l.length) {r:List UInt8} {h:T49} (hh:h∈hopsA (l.getD k default) r):h∈hopsL l r:=List.mem_flatMap.2 ⟨k,List.mem_range.2 hk,hh⟩
theorem dropP_at {ps:List T45} {i:Nat} (hi:i < ps.length):ps.drop i=ps.getD i default :: ps.drop (i+1):=by
 rw[List.drop_eq_getElem_cons hi]
 congr 1
 simp[List.getD_eq_getElem?_getD,List.getElem?_eq_getElem hi]
theorem next_eq (W:WfL l) (hc:m24 l=some 0) (r:List UInt8):m8 l r=some (hopsL l r,0):=by
 rw[M8,hc,hops_eq W]
 rfl
theorem at_here {fs:List T54} {u v:List UInt8} (A:Atl l fs u v) {k:List UInt8} (h:k=u∨k∈refsL l):atH fs fs.length k=true:=by
 rcases h with rfl | h
 ·exact A.fr
 ·obtain⟨k,i,hk,hi,rfl⟩:=mem_refs.1 h
  exact A.all k i hk hi
theorem hop_dist {fs:List T54} {u v:List UInt8} (A:Atl l fs u v) {r:List UInt8} {h:T49} (hh:h∈hopsL l r):distE (atF fs fs.length r) (atF fs fs.length h.To)=0:=by
 obtain⟨k,i,hk,hi,e⟩:=hops_adj hh
 have:=A.val k i hk hi
 rcases e with⟨e1,e2⟩ | ⟨e1,e2⟩
 ·rw[e1,e2];exact(distE_iff _ _).2 this
 ·rw[e1,e2];exact(distE_iff _ _).2 ⟨this.2,this.1⟩
theorem leg_loop {fs:List T54} (H:OkD l fs) {v0:List UInt8} (A:Atl l fs fr v0) (hc:m24 l=some 0) (N:Nm l fr) (L:Lab l (atF fs fs.length) fr D F) {x:T26} {s1:(List UInt8)×Int×Int} {k:Nat} (hk:k < l.length)
  (e1:l.getD (Int.tmod (IntKind.wrap .i64 ((x.Legs.getD s1.2.2.toNat default).Airway)) (l.length:Int)).toNat default=l.getD k default) {ps:List T45} (hps:ps.length≤40) {u v:List UInt8} (hp:Pts (l.getD k default) u ps v)
  {path:List T49} {n B:Int} (W:Walk l (atF fs fs.length) fr path u n) (n1:0≤n) (n2:n≤B) (hB:B≤100000000000) :
  ∃ z,loopO (lo3_2 ps l x s1 fs) (u,n,0)=some z∧∃ path n,z=.inl (v,n)∧Walk l (atF fs fs.length) fr path v n∧0≤n∧n≤B+40 * 64800000:=by
 refine loop_meas (b:=lo3_2 ps l x s1 fs) (fun s=>∃ (j:Nat) (u:List UInt8) (path:List T49) (n:Int),s=(u,n,(j:Int))∧j≤ps.length∧Walk l (atF fs fs.length) fr path u n∧Pts (l.getD k default) u (ps.drop j) v∧0≤n∧n≤B+(j:Int) * 64800000) (fun s=>(ps.length - s.2.2).toNat)
  (fun z=>∃ path n,z=.inl (v,n)∧Walk l (atF fs fs.length) fr path v n∧0≤n∧n≤B+40 * 64800000) (fun s hs=>?_) _ ⟨0,u,path,n,rfl,by omega,W,hp,n1,by omega⟩
 obtain⟨j,u,path,n,rfl,hj,W,hp,n1,n2⟩:=hs
 by_cases hlt:j < ps.length
 ·obtain⟨p,hpe⟩:∃ p,ps.getD j default=p:=⟨_,rfl⟩
  rw[dropP_at hlt,hpe]at hp
  obtain⟨hg,hp⟩:=hp
  have hm:=hopsA_sub hk hg
  obtain⟨uD,_⟩:=walk_lab L L.st W
  obtain⟨tD,_⟩:=L.fe u uD _ hm
  have hlen:=hopsL_len N.wf u
  obtain⟨f,f1,f2⟩:=find_eq H.f A.few (at_here A (L.key u uD))
  obtain⟨g,g1,g2⟩:=find_eq H.f A.few (at_here A (L.key _ tD))
  have d0:=hop_dist A hm
  have hr:=lenP_range (atF fs fs.length) u p.Ref
  have w1:IntKind.wrap .i64 ((j:Int)+1)=((j+1:Nat):Int):=by rw[wr1 hlt (by omega)];omega
  have w2:IntKind.wrap .i64 (n+lenP (atF fs fs.length) u p.Ref)=n+lenP (atF fs fs.length) u p.Ref:=w64 (by omega) (by omega)
  obtain⟨z,e3,rfl⟩:=found_loop (l:=l) (x:=x) (s1:=s1) (y2:=ps) (s3:=(u,n,(j:Int))) (a:=l.getD k default) (p:=p) (show (hopsL l u).length≤1000 by omega) e1 (by simpa using hpe) hm 0
  have hd:m10 f.Pos g.Pos=some (lenP (atF fs fs.length) u p.Ref,0):=by
   rw[f2,g2,dist_eq]
   simp only at d0
   rw[d0];rfl
  refine .inl ⟨(p.Ref,n+lenP (atF fs fs.length) u p.Ref,((j+1:Nat):Int)),?_,⟨j+1,p.Ref,_,_,rfl,hlt,walk_app W hm,hp,by omega,by omega⟩,by simp only;omega⟩
  refine on_l (y:=()) (if_pos (of_eq_true (inL hlt).2.2)) (on_l (y:=n+lenP (atF fs fs.length) u p.Ref) (on_l (y:=(hopsL l u,0)) ?_ (on_l (y:=true) (on_l (y:=()) rfl e3) ?_)) ?_)
  ·simp only[inL hlt,if_true,next_eq N.wf hc,Option.bind_some]
  ·simp only[Int.toNat_natCast,hpe,f1,g1,hd,Option.bind_some,bne_self_eq_false,Bool.or_self,Bool.not_true,Bool.false_eq_true,if_false,w2]
  ·simp only[Int.toNat_natCast,hpe,w1]
 ·obtain rfl:j=ps.length:=by omega
  rw[List.drop_length]at hp
  obtain rfl:=hp
  refine .inr ⟨.inl (u,n),?_,path,n,rfl,W,n1,by omega⟩
  simp only[lo3_2,lt_irr,decide_false,Bool.false_eq_true,if_false,Option.bind_some,onS]
theorem trip_loop {fs:List T54} (H:OkD l fs) {v0:List UInt8} (A:Atl l fs fr v0) (hc:m24 l=some 0) (N:Nm l fr) (L:Lab l (atF fs fs.length) fr D F) {x:T26} (hx:∀ i,i < x.Legs.length→0≤(x.Legs.getD i default).Airway∧(x.Legs.getD i default).Airway≤255) :
  ∃ z,loopO (lo3_3 x l fs) (fr,0,0)=some z∧∃ u path n,z=.inl (u,n)∧Walk l (atF fs fs.length) fr path u n:=by
 refine loop_meas (b:=lo3_3 x l fs) (fun s=>∃ (i:Nat) (u:List UInt8) (path:List T49) (n:Int),s=(u,n,(i:Int))∧i≤8∧i≤x.Legs.length∧Walk l (atF fs fs.length) fr path u n∧0≤n∧n≤(i:Int) * 2592000000) (fun s=>(8 - s.2.2).toNat)
  (fun z=>∃ u path n,z=.inl (u,n)∧Walk l (atF fs fs.length) fr path u n) (fun s hs=>?_) _ ⟨0,fr,[],0,rfl,by omega,by omega,⟨rfl,rfl⟩,by omega,by omega⟩
 obtain⟨i,u,path,n,rfl,h8,hi,W,n1,n2⟩:=hs
 by_cases hlt:i < x.Legs.length
 case neg =>
  obtain rfl:i=x.Legs.length:=by omega
  refine .inr ⟨.inl (u,n),?_,u,path,n,rfl,W⟩
  simp only[lo3_3,lt_irr,decide_false,Bool.false_eq_true,if_false,Option.bind_some,onS]
 have z:=inL hlt
 by_cases hstop:((decide ((8:Int)≤(i:Int))) || ((l.length:Int)==(0:Int)))=true
 ·refine .inr ⟨.inl (u,n),?_,u,path,n,rfl,W⟩
  simp only[lo3_3,z,decide_true,if_true,Option.bind_some,onS,hstop]
 have h8':i < 8∧0 < l.length:=by
  simp only[Bool.or_eq_true,decide_eq_true_eq,beq_iff_eq,not_or]at hstop
  omega
 have h60:=N.wf.few
 obtain⟨leg,hleg⟩:∃ leg,x.Legs.getD i default=leg:=⟨_,rfl⟩
 have hb:=hx i hlt
 rw[hleg]at hb
 have wa:IntKind.wrap .i64 leg.Airway=leg.Airway:=w64 (by omega) (by omega)
 obtain⟨k,hk,ek⟩:∃ k:Nat,k < l.length∧Int.tmod leg.Airway (l.length:Int)=k:=by
  have t:Int.tmod leg.Airway (l.length:Int)=leg.Airway % (l.length:Int):=Int.tmod_eq_emod_of_nonneg hb.1
  have t1:=Int.emod_nonneg leg.Airway (show (l.length:Int)≠0 by omega)
  have t2:=Int.emod_lt_of_pos leg.Airway (show (0:Int) < (l.length:Int) by omega)
  exact⟨(leg.Airway % (l.length:Int)).toNat,by omega,by omega⟩
 have zk:=inL hk
 have hne:((l.length:Int)≠0)=True:=eq_true (by omega)
 have w1:IntKind.wrap .i64 ((i:Int)+1)=((i+1:Nat):Int):=by rw[w64 (by omega) (by omega)];omega
 have ha:okA (l.getD k default):=H.a k hk
 rcases expand_cases ha (N.wf.all k hk) u leg.To with⟨e,e0,he⟩ | ⟨ps,he,hps,hp⟩
 ·have e0':(e != 0)=true:=by simpa using e0
  refine .inl ⟨(u,n,((i+1:Nat):Int)),?_,⟨i+1,u,path,n,rfl,by omega,hlt,W,n1,by omega⟩,by simp only;omega⟩
  have nz:decide ((0:Int) < (([]:List T45).length:Int))=false:=rfl
  simp only[lo3_3,z,decide_true,if_true,Option.bind_some,onS,hstop,Bool.false_eq_true,if_false,hne,Int.toNat_natCast,hleg,wa,ek,zk,he,e0',nz,w1]
 ·have e1:l.getD (Int.tmod (IntKind.wrap .i64 ((x.Legs.getD ((u,n,(i:Int)):(List UInt8)×Int×Int).2.2.toNat default).Airway)) (l.length:Int)).toNat default=l.getD k default:=by
   simp only[Int.toNat_natCast,hleg,wa,ek]
  obtain⟨y,e2,path',n',rfl,W',m1,m2⟩:=leg_loop H A hc N L (x:=x) hk e1 hps hp W n1 n2 (by omega)
  refine .inl ⟨(leg.To,n',((i+1:Nat):Int)),?_,⟨i+1,leg.To,path',n',rfl,by omega,hlt,W',m1,by omega⟩,by simp only;omega⟩
  refine on_l (y:=()) (if_pos (of_eq_true z.2.2)) (on_l (y:=(leg.To,n')) (on_l (y:=ps) ?_ (on_l (y:=(leg.To,n')) (on_l (y:=()) rfl e2) ?_)) ?_)
  ·simp only[z,if_true,Option.bind_some,hstop,Bool.false_eq_true,if_false,hne,Int.toNat_natCast,hleg,wa,ek,zk,he,bne_self_eq_false]
  ·simp only[Int.toNat_natCast,hleg,bne_self_eq_false,Bool.false_eq_true,if_false]
  ·simp only[w1]
theorem airways_true:m5=some true:=by kernel_rfl
theorem law_true {fs:List T54} (H:OkD l fs) {x:T26} (hf:x.From.length≤maxLen) (hx:∀ i,i < x.Legs.length→0≤(x.Legs.getD i default).Airway∧(x.Legs.getD i default).Airway≤255):m3 l fs x=some true:=by
 rw[A3,airways_true]
 rcases shortest_cases H hf hf with⟨e,he,e0,_⟩ | ⟨ho,A,N,D,F,R,L,_,_,_,_,h⟩
 ·have:(e != 0)=true:=by simpa using e0
  rw[he]
  simp only[Option.bind_some,Bool.not_true,Bool.false_eq_true,if_false,this,if_true,onS]
 rcases h with⟨h,_⟩ | ⟨_,hs,_,_,he⟩
 ·exact absurd L.st h
 rw[he]
 simp only[Option.bind_some,Bool.not_true,Bool.false_eq_true,if_false,bne_self_eq_false,onS]
 have hc:=check_of_open H ho
 obtain⟨z,e1,u,path,n,rfl,W⟩:=trip_loop H A hc N L hx
 rw[e1]
 simp only[Option.bind_some,onS]
 have hu:u.length≤maxLen:=N.key (L.key u (walk_lab L L.st W).1)
 have Au:Atl l fs x.From u:=⟨A.wf,A.few,A.fr,at_here A (L.key u (walk_lab L L.st W).1),A.all,A.val⟩
 have hou:=open_none H hf hu hc Au
 rcases shortest_cases H hf hu with⟨e,_,_,hno⟩ | ⟨_,_,_,D',F',R',L',r1,r2,r3,r4,h⟩
 ·exact absurd hou hno
 obtain⟨uD,uL⟩:=walk_lab L' L'.st W
 rcases h with⟨h,_⟩ | ⟨_,hs',W2,hl',he'⟩
 ·exact absurd uD h
 rw[he']
 have z0:(F' x.From).Length=0:=by rw[L'.zero]
 have hle:decide ((F' u).Length≤n)=true:=decide_eq_true (by omega)
 have ck:=checkway_ok H hf hu hou N L' r1 r2 r3 r4 uD W2 hl'
 simp only[Option.bind_some,beq_self_eq_true,hle,Bool.and_self,if_true,ck]
end Go.Av.Air
namespace Go.Av
open Go.RowKit Go.Base Go.ChangeShapes Go.WideShapes
variable {P:Program} {H:Type} {enc:TypeId×Value→H} {W:World} {spare:Nat→Bool}
def Light (P:Program) {H:Type} (t:TypeId) (d:DataW H):Prop:=(d.weights P t).all (·≤reachBytes)=true
theorem light_all {e:TypeId}:∀ {l:List (DataW H)},(DataW.weightsAll P e l).all (·≤reachBytes)=true→∀ d∈l,Light P e d
 | [],_,d,hd=>by cases hd
 | x :: l,h,d,hd=>by
  unfold DataW.weightsAll at h
  rw[List.all_append,Bool.and_eq_true]at h
  rcases List.mem_cons.1 hd with rfl | hd
  ·exact h.1
  ·exact light_all h.2 d hd
theorem light_each:∀ {ts:List TypeId} {l:List (DataW H)},(DataW.weightsEach P ts l).all (·≤reachBytes)=true→∀ (i:Nat) t d,ts[i]?=some t→l[i]?=some d→Light P t d
 | [],_,_,i,t,d,ht,_=>by simp at ht
 | _ :: _,[],_,i,t,d,_,hd=>by simp at hd
 | t0 :: ts,d0 :: l,h,i,t,d,ht,hd=>by
  unfold DataW.weightsEach at h
  rw[List.all_append,Bool.and_eq_true]at h
  cases i with
  | zero =>
   simp only[List.getElem?_cons_zero,Option.some.injEq]at ht hd
   subst ht;subst hd
   exact h.1
  | succ i =>
   simp only[List.getElem?_cons_succ]at ht hd
   exact light_each h.2 i t d ht hd
theorem light_slice {t e:TypeId} (ht:P.underlying t=some (.slice e)) {a b:List (DataW H)} (h:Light P t (.slice a b)):((a.length+b.length) * P.bytesOf e≤reachBytes)∧∀ d∈a,Light P e d:=by
 unfold Light DataW.weights at h
 rw[ht]at h
 simp only[List.all_cons,List.all_append,Bool.and_eq_true,decide_eq_true_eq]at h
 exact⟨h.1,light_all h.2.1⟩
theorem light_struct {t:TypeId} {fs:Array Field} (ht:P.underlying t=some (.struct fs)) {l:List (DataW H)} (h:Light P t (.agg l)):∀ (i:Nat) f d,fs[i]?=some f→l[i]?=some d→Light P f.type d:=by
 unfold Light DataW.weights at h
 rw[ht]at h
 intro i f d hf hd
 exact light_each h i f.type d (by simp only[List.getElem?_map,Array.getElem?_toList,hf,Option.map_some]) hd
def OpensW {α:Type} (P:Program) (W:World) (spare:Nat→Bool) (t:TypeId) (e:α→List D) (ok:α→Prop):Prop :=
 ∀ (H:Type) (enc:TypeId×Value→H) (fuel:Nat) (cs:List Value) (x:DataW H×List MemPlace),DataW.trod enc P W 0 spare true fuel t cs=some x→Light P t x.1→∃ a,RepL (allM W) (e a) cs∧ok a
theorem opensW_string {t:TypeId} (ht:P.underlying t=some .string):OpensW P W spare t (fun s=>[.str s]) (fun s=>s.length≤reachBytes):=fun H enc fuel cs x h hw=>by
 obtain⟨s,rfl,rfl,hs⟩:=DataW.trod_string ht h
 obtain⟨⟨l⟩⟩:=s
 refine⟨l,by simp[RepL,Rep],?_⟩
 unfold Light DataW.weights at hw
 simpa using hw
theorem opensW_slice {α:Type} [Inhabited α] {t el:TypeId} {e:α→List D} {en:α→D} {ok:α→Prop} {sz:Nat} (ht:P.underlying t=some (.slice el)) (hsz:P.cellsOf el=sz) (hp:0 < sz) (hel:OpensW P W spare el e ok)
  (hone:∀ a,(e a).all D.one=true) (hlen:∀ a,(e a).length=sz) (hen:∀ a,en a=.agg (e a)∨(e a=[en a]∧sz=1)):OpensW P W spare t (fun l=>[eSl sz en l]) (fun l=>l.length≤maxLen∧l.length * P.bytesOf el≤reachBytes∧∀ a∈l,ok a):=fun H enc fuel cs x h hw=>by
 rcases Go.Deep.open_slice ht h with⟨rfl,_⟩ | ⟨A,len,cap,m,n,D,Pl,rfl,_,hl,hm,hmm,rfl,hx⟩
 ·refine⟨[],?_,by simp[maxLen],by simp,by simp⟩
  simp only[RepL,eSl,List.length_nil]
  refine⟨_,[],rfl,?_,rfl⟩
  simp only[Rep]
  exact⟨none,0,rfl,Nat.le_refl _,Nat.zero_le _,fun h=>absurd h (by omega)⟩
 ·have hle:len≤m:=by rw[hmm];split<;>omega
  obtain⟨hb,hlt⟩:=light_slice ht hw
  have key:∀ i,i < len→∃ a:α,ok a∧∃ cs',W.cells? 0 (A.add (i * sz)) sz=some cs'∧RepL (allM W) (e a) cs':=by
   intro i hi
   obtain⟨cs',h1,h2⟩:=hx i (by omega)
   rw[hsz]at h1
   obtain⟨a,h3,h4⟩:=hel H enc n cs' _ h2 (hlt _ (List.mem_map.2 ⟨i,List.mem_range.2 hi,rfl⟩))
   exact⟨a,h4,cs',h1,h3⟩
  let g:Nat→α:=fun i=>if h:i < len then Classical.choose (key i h)else default
  have hg:∀ i,i < len→ok (g i)∧∃ cs',W.cells? 0 (A.add (i * sz)) sz=some cs'∧RepL (allM W) (e (g i)) cs':=fun i hi=>by
   have:g i=Classical.choose (key i hi):=dif_pos hi
   rw[this]
   exact Classical.choose_spec (key i hi)
  refine⟨(List.range len).map g,?_,by simp;omega,?_,fun a ha=>?_⟩
  ·simp only[RepL,eSl,List.length_map,List.length_range]
   refine⟨_,[],rfl,?_,rfl⟩
   simp only[Rep]
   refine⟨some A,cap,rfl,hl,hm,fun hn=>?_⟩
   obtain⟨cs0,c1,c2⟩:=(hg 0 hn).2
   obtain⟨_,c3,c4⟩:=World.cells?_some c1
   have hA:A.spot=none:=by
    have h5:=c4 0 hp
    rw[List.getElem?_eq_getElem (by omega)]at h5
    rw[Nat.zero_mul]at h5
    simp only[Addr.add,if_true]at h5
    exact spot_none h5
   refine⟨A.block,A.off,by cases A;simp at hA;simp[hA],fun i hi=>?_⟩
   obtain⟨cs',d1,d2⟩:=(hg i hi).2
   obtain⟨_,d3,d4⟩:=World.cells?_some d1
   have hce:cF en ((List.range len).map g) i=en (g i):=by
    simp only[cF,List.getD_eq_getElem?_getD,List.getElem?_map,List.getElem?_range hi,Option.map_some,Option.getD_some]
   have hcell:∀ j,j < sz→allM W A.block (A.off+i * sz+j)=cs'[j]?:=fun j hj=>by
    rw[← d4 j hj,add_plain hA,add_plain rfl]
    rfl
   rw[hce]
   have h1:=repL_one d2 (hone (g i))
   rcases hen (g i) with he | ⟨he,hs1⟩
   ·refine⟨.agg cs'.toArray,?_,?_,?_,fun j hj=>?_⟩
    ·rw[he];simp only[Rep];exact⟨cs',rfl,d2⟩
    ·simp[Value.cells];exact d3
    ·intro y hy;exact h1 y (by simpa [Value.cells] using hy)
    ·rw[hcell j hj];simp[Value.cells]
   ·rw[he]at d2
    simp only[RepL]at d2
    obtain⟨v,t',rfl,d5,rfl⟩:=d2
    have ho:(en (g i)).one=true:=by have:=hone (g i);rw[he]at this;simpa using this
    obtain⟨_,hc,_⟩:=Rep.cells_one d5 ho
    refine⟨v,d5,by rw[hc,hs1];rfl,fun y hy=>?_,fun j hj=>?_⟩
    ·rw[hc]at hy;simp at hy;rw[hy];exact h1 v (by simp)
    ·rw[hcell j hj,hc];rw[hs1]at hj;obtain rfl:j=0:=by omega
     rfl
  ·simp only[List.length_map,List.length_range]at hb ⊢
   exact Nat.le_trans (Nat.mul_le_mul_right _ (Nat.le_add_right _ _)) hb
  ·simp only[List.mem_map,List.mem_range]at ha
   obtain⟨i,hi,rfl⟩:=ha
   exact(hg i hi).1
theorem handed_light {a:Assume} {C:Checked} {os:Os} {f:FuncId} {fn:Func} {s:ChangeSpec} {conds:List PathCond} {apart fresh handsOn again:Bool}
  (own:ownKnob C.prog.godebug=none) (started:os.Started) (noInit:C.prog.inits.idxOf? f=none) (hfn:C.prog.funcs[f]?=some fn)
  (witness:∃ (w:World) (tape:Tape) (i:Input),w.os=os∧(w.forCall tape i).Shaped C.prog∧i.vars=[]∧Input.okWide C.prog (w.forCall tape i) .any w.heap.size f i ∧
   s.pre6 enc C.prog fn conds apart (w.forCall tape i).memory i.args∧a.holds C.prog (lone (Frame.enter C.prog f i.args .normal) [] (w.forCall tape i)))
  (contract:∀ (W:World) (base:Nat) (args:Array Value) (ds gs:List (DataW H)) (before:List MemPlace),
   (∀ (j:Nat) t v,fn.params[j]?=some t→args[j]?=some v→Value.okWide C.prog W .any base t v) →
   DataW.Whole enc C.prog fn.params.toList s.vars apart W args.toList ds gs before →
   (DataW.weightsEach C.prog (fn.params.toList++s.plain.varTypes C.prog) (ds++gs)).all (·≤reachBytes)=true →
   Calls C.prog f args W fun e W'=>∃ v,e=.returned v∧s.post enc C.prog fn apart fresh handsOn again W args v W') :
  ReturnsInHanded a C os f .any (s.pre6 enc C.prog fn conds apart) (s.post enc C.prog fn apart fresh handsOn again):=by
 refine returnsInHanded_of_calls own started noInit witness ?_
 intro w tape i _ _ _ hok hpre _
 obtain⟨_,_,_,fn',hfn',_,_,_,_,hval⟩:=hok
 obtain rfl:fn'=fn:=Option.some.inj (hfn'.symm.trans hfn)
 obtain⟨⟨ds,gs,before,hw,_⟩,hz⟩:=hpre
 refine(contract (w.forCall tape i) w.heap.size i.args ds gs before hval (DataW.Whole.of_heap (w':=w.forCall tape i) (by rfl) hw) (hz.weights hw)).mono fun e W' ⟨v,he,hp⟩=>?_
 subst he
 exact ChangeSpec.post_blind hp
end Go.Av
set_option maxRecDepth 100000
namespace Go.Av.Air
open Go.RowKit Go.Base Go.ChangeShapes Go.WideShapes Go.Proofs
def okW (x:T54):Prop:=x.Ident.length≤reachBytes∧x.Region.length≤reachBytes
theorem opW {W:World} {spare:Nat→Bool}:OpensW Try.prog W spare 54 (fun x:T54=>[(.str x.Ident),(.str x.Region),(.int .u8 x.Kind),(dI x.Pos.Lat),(dI x.Pos.Lon),(dI x.Elev),(dI x.Range)]) okW:=fun H enc fuel cs x h hw=>by
 obtain⟨xs,n,_,hxe,hl,hx,hf⟩:=DataW.trod_struct Try.underlying54 h
 rw[cells54]at hl
 have hx:xs.length=6:=hx
 rw[hxe]at hw
 have L:=light_struct Try.underlying54 hw
 match cs,hl with
 | [c0,c1,c2,c3,c4,c5,c6],_ =>
  have g0:=hf 0 _ rfl
  rw[List.getElem?_eq_getElem (by omega)]at g0
  have g0:DataW.trod enc Try.prog W 0 spare true n 9 [c0]=some (xs[0]'(by omega)):=by
   have e:Try.prog.cellsOf 9=1:=by kernel_rfl
   simpa [e] using g0
  obtain⟨a0,r0,k0⟩:=(opensW_string Try.underlying9) H enc n _ _ g0 (L 0 _ _ rfl (by rw[List.getElem?_map,List.getElem?_eq_getElem (by omega)];rfl))
  have g1:=hf 1 _ rfl
  rw[List.getElem?_eq_getElem (by omega)]at g1
  have g1:DataW.trod enc Try.prog W 0 spare true n 9 [c1]=some (xs[1]'(by omega)):=by
   have e:Try.prog.cellsOf 9=1:=by kernel_rfl
   simpa [e] using g1
  obtain⟨a1,r1,k1⟩:=(opensW_string Try.underlying9) H enc n _ _ g1 (L 1 _ _ rfl (by rw[List.getElem?_map,List.getElem?_eq_getElem (by omega)];rfl))
  have g2:=hf 2 _ rfl
  rw[List.getElem?_eq_getElem (by omega)]at g2
  obtain⟨z2,g2⟩:∃ z,DataW.trod enc Try.prog W 0 spare true n 50 [c2]=some z:=by
   have e:Try.prog.cellsOf 50=1:=by kernel_rfl
   exact⟨_,by simpa [e] using g2⟩
  obtain⟨a2,r2,k2⟩:=(opens_int Try.underlying50) H enc n _ _ g2
  have g3:=hf 3 _ rfl
  rw[List.getElem?_eq_getElem (by omega)]at g3
  obtain⟨z3,g3⟩:∃ z,DataW.trod enc Try.prog W 0 spare true n 52 [c3,c4]=some z:=by
   have e:Try.prog.cellsOf 52=2:=by kernel_rfl
   exact⟨_,by simpa [e] using g3⟩
  obtain⟨a3,r3,k3⟩:=op52 H enc n _ _ g3
  have g4:=hf 4 _ rfl
  rw[List.getElem?_eq_getElem (by omega)]at g4
  obtain⟨z4,g4⟩:∃ z,DataW.trod enc Try.prog W 0 spare true n 2 [c5]=some z:=by
   have e:Try.prog.cellsOf 2=1:=by kernel_rfl
   exact⟨_,by simpa [e] using g4⟩
  obtain⟨a4,r4,k4⟩:=(opens_int Try.underlying2) H enc n _ _ g4
  have g5:=hf 5 _ rfl
  rw[List.getElem?_eq_getElem (by omega)]at g5
  obtain⟨z5,g5⟩:∃ z,DataW.trod enc Try.prog W 0 spare true n 2 [c6]=some z:=by
   have e:Try.prog.cellsOf 2=1:=by kernel_rfl
   exact⟨_,by simpa [e] using g5⟩
  obtain⟨a5,r5,k5⟩:=(opens_int Try.underlying2) H enc n _ _ g5
  exact⟨⟨a0,a1,a2,a3,a4,a5⟩,repL_app r0 (repL_app r1 (repL_app r2 (repL_app r3 (repL_app r4 (r5))))),⟨k0,k1⟩⟩
theorem okD_of {l:List T39} {fs:List T54} (h1:∀ a∈l,ok39 a) (h2:∀ f∈fs,okW f):OkD l fs:=by
 have hr:reachBytes=140737488351232:=rfl
 refine⟨fun k hk i hi=>?_,fun i hi=>?_⟩
 ·have a:=h1 _ (getD_mem (l:=l) hk)
  exact(a.2.2 _ (getD_mem hi)).1
 ·have a:=h2 _ (getD_mem (l:=fs) hi)
  exact⟨Nat.le_trans a.1 (by rw[hr];decide),Nat.le_trans a.2 (by rw[hr];decide)⟩
theorem plainA {l:List T39} (h1:∀ a∈l,ok39 a) {fs:List T54} (h2:∀ f∈fs,okW f) {x:T26} (h3:ok26 x):m3 l fs x=some true :=
 law_true (okD_of h1 h2) h3.1 fun i hi=>by
  have:=(h3.2.2 _ (getD_mem (l:=x.Legs) hi)).1
  simp only[Lit.wf,Bool.and_eq_true,decide_eq_true_eq]at this
  exact⟨this.1,this.2⟩
end Go.Av.Air
namespace Go.Av
open Go.Proofs
theorem plain3 {l:List T39} (b0:l.length≤maxLen∧∀ a∈l,ok39 a) {fs:List T54} (b1:fs.length≤maxLen∧fs.length * Try.prog.bytesOf 54≤reachBytes∧∀ f∈fs,Air.okW f) {x:T26} (b2:ok26 x):m3 l fs x=some true:=Air.plainA b0.2 b1.2.2 b2
end Go.Av
