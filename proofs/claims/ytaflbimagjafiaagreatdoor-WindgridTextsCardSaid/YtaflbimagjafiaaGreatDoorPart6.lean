/- A part of the proof. -/
import Derived.Test.YtaflbimagjafiaaGreatDoorPart5
import Derived.Lib.IndexLaws
import Derived.Lib.ParseIntB
set_option linter.unusedVariables false
set_option linter.unusedSimpArgs false
set_option maxRecDepth 100000
noncomputable section
namespace Go.Av
def t6 (p:List UInt8):List (List UInt8)→List (List UInt8)
 | []=>[p]
 | l :: r=>(p++l) :: r
def Bm (c:UInt8):List UInt8→List (List UInt8)
 | []=>[[]]
 | b :: s=>if b=c then[] :: Bm c s else t6 [b] (Bm c s)
theorem Ha {c b:UInt8} {s:List UInt8}:Bm c (b :: s)=if b=c then[] :: Bm c s else t6 [b] (Bm c s):=rfl
theorem bt (c:UInt8):∀ s,∃ l r,Bm c s=l :: r
 | []=>⟨_,_,rfl⟩
 | b :: s=>by
  rw[Ha]
  split
  ·exact⟨_,_,rfl⟩
  ·obtain⟨l,r,h⟩:=bt c s
   rw[h];exact⟨_,_,rfl⟩
theorem Oh {c:UInt8}:∀ {s:List UInt8},s.count c=0→Bm c s=[s]
 | [],_=>rfl
 | b :: s,h=>by
  rw[List.count_cons]at h
  have hb:¬ b=c:=fun e=>by subst e;simp at h
  rw[Ha]
  rw[if_neg hb,Oh (by omega)]
  rfl
theorem br {c:UInt8}:∀ {s:List UInt8},s.count c≠0→∃ k:Nat,Lib.indexByte s c=(k:Int)∧k < s.length∧Bm c s=s.take k :: Bm c (s.drop (k+1))∧s.count c=(s.drop (k+1)).count c+1
 | [],h=>absurd rfl h
 | b :: s,h=>by
  by_cases hb:b=c
  ·subst hb
   refine⟨0,by simp[Lib.indexByte],by simp,by simp[Bm],by simp⟩
  ·have hc:s.count c≠0:=by rw[List.count_cons]at h;simpa [hb] using h
   obtain⟨k,h1,h2,h3,h4⟩:=br hc
   refine⟨k+1,?_,by simpa using h2,?_,?_⟩
   ·unfold Lib.indexByte
    rw[if_neg (by simpa using hb),h1,if_neg (by simp)]
    omega
   ·rw[Ha,if_neg hb,h3]
    rfl
   ·rw[List.count_cons,if_neg (by simpa using hb),h4]
    rfl
theorem Xw {c:UInt8}:∀ {s:List UInt8},(Bm c s).length=s.count c+1
 | []=>rfl
 | b :: s=>by
  have ih:=Xw (c:=c) (s:=s)
  rw[Ha]
  by_cases hb:b=c
  ·rw[if_pos hb,List.length_cons,ih,hb];simp
  ·rw[if_neg hb,List.count_cons,if_neg (by simpa using hb)]
   obtain⟨l,r,h⟩:=bt c s
   rw[h]at ih ⊢
   simpa [t6] using ih
theorem Um {c:UInt8} {x y:List UInt8} (hx:c ∉ x):Bm c (x++c :: y)=x :: Bm c y:=by
 induction x with
 | nil=>simp[Bm]
 | cons b x ih =>
  have hb:¬ b=c:=fun e=>hx (by simp[e])
  rw[List.cons_append,Ha,if_neg hb,ih fun h=>hx (List.mem_cons_of_mem _ h)]
  rfl
theorem ld {c:UInt8} {x:List UInt8} (hx:c ∉ x):Bm c x=[x]:=Oh (List.count_eq_zero.2 hx)
theorem M143 (a0 a1:List UInt8):tg a0 a1=((Option.bind (Option.bind (V6 a0 a1) fun r=>some r) fun x1=>(some x1)):Option (Int)):=by kernel_rfl
theorem M119 (a0 a1:List UInt8) (a2 a3:Int):td a0 a1 a2 a3=((Option.bind (if(a3==0)=true then(some (.inr ([])))else(if(a1==([]:List UInt8))=true then(Option.bind (Option.bind (m141 a0 a3) fun r=>some r) fun x4=>(some (.inr (x4))))else(if(decide (a3 < 0))=true then(Option.bind (Option.bind (tf a0 a1) fun r=>some r) fun x6=>(if(0≤(if(IntKind.wrap .i64 ((a0.length:Int)+(1:Int))) < (IntKind.wrap .i64 (x6+1))then(IntKind.wrap .i64 ((a0.length:Int)+(1:Int)))else(IntKind.wrap .i64 (x6+1))))then(if((if(IntKind.wrap .i64 ((a0.length:Int)+(1:Int))) < (IntKind.wrap .i64 (x6+1))then(IntKind.wrap .i64 ((a0.length:Int)+(1:Int)))else(IntKind.wrap .i64 (x6+1)))=(if(IntKind.wrap .i64 ((a0.length:Int)+(1:Int))) < (IntKind.wrap .i64 (x6+1))then(IntKind.wrap .i64 ((a0.length:Int)+(1:Int)))else(IntKind.wrap .i64 (x6+1))))then(if((if(IntKind.wrap .i64 ((a0.length:Int)+(1:Int))) < (IntKind.wrap .i64 (x6+1))then(IntKind.wrap .i64 ((a0.length:Int)+(1:Int)))else(IntKind.wrap .i64 (x6+1))) * 16≤140737488355328)then(if((if(IntKind.wrap .i64 ((a0.length:Int)+(1:Int))) < (IntKind.wrap .i64 (x6+1))then(IntKind.wrap .i64 ((a0.length:Int)+(1:Int)))else(IntKind.wrap .i64 (x6+1)))≤9223372036854775807)then(some (.inl ((IntKind.wrap .i64 ((if(IntKind.wrap .i64 ((a0.length:Int)+(1:Int))) < (IntKind.wrap .i64 (x6+1))then(IntKind.wrap .i64 ((a0.length:Int)+(1:Int)))else(IntKind.wrap .i64 (x6+1))) - 1)),(List.replicate (if(IntKind.wrap .i64 ((a0.length:Int)+(1:Int))) < (IntKind.wrap .i64 (x6+1))then(IntKind.wrap .i64 ((a0.length:Int)+(1:Int)))else(IntKind.wrap .i64 (x6+1))).toNat ([]:List UInt8)),(if(IntKind.wrap .i64 ((a0.length:Int)+(1:Int))) < (IntKind.wrap .i64 (x6+1))then(IntKind.wrap .i64 ((a0.length:Int)+(1:Int)))else(IntKind.wrap .i64 (x6+1))).toNat)))else none)else none)else none)else none))else(if(0≤(if(IntKind.wrap .i64 ((a0.length:Int)+(1:Int))) < a3 then(IntKind.wrap .i64 ((a0.length:Int)+(1:Int)))else a3))then(if((if(IntKind.wrap .i64 ((a0.length:Int)+(1:Int))) < a3 then(IntKind.wrap .i64 ((a0.length:Int)+(1:Int)))else a3)=(if(IntKind.wrap .i64 ((a0.length:Int)+(1:Int))) < a3 then(IntKind.wrap .i64 ((a0.length:Int)+(1:Int)))else a3))then(if((if(IntKind.wrap .i64 ((a0.length:Int)+(1:Int))) < a3 then(IntKind.wrap .i64 ((a0.length:Int)+(1:Int)))else a3) * 16≤140737488355328)then(if((if(IntKind.wrap .i64 ((a0.length:Int)+(1:Int))) < a3 then(IntKind.wrap .i64 ((a0.length:Int)+(1:Int)))else a3)≤9223372036854775807)then(some (.inl ((IntKind.wrap .i64 ((if(IntKind.wrap .i64 ((a0.length:Int)+(1:Int))) < a3 then(IntKind.wrap .i64 ((a0.length:Int)+(1:Int)))else a3) - 1)),(List.replicate (if(IntKind.wrap .i64 ((a0.length:Int)+(1:Int))) < a3 then(IntKind.wrap .i64 ((a0.length:Int)+(1:Int)))else a3).toNat ([]:List UInt8)),(if(IntKind.wrap .i64 ((a0.length:Int)+(1:Int))) < a3 then(IntKind.wrap .i64 ((a0.length:Int)+(1:Int)))else a3).toNat)))else none)else none)else none)else none)))) (Af fun(y1:Int×(List (List UInt8))×Nat)=>(Option.bind (Am (fun(s2:(List UInt8)×(List (List UInt8))×Int)=>((if(decide (s2.2.2 < y1.1))=true then(Option.bind (Option.bind (tg s2.1 a1) fun r=>some r) fun x12=>(if(decide (x12 < 0))=true then(some (.inr (.inl (s2.1,s2.2.1,s2.2.2))))else(if(0≤(IntKind.wrap .i64 (x12+a2)))then(if((IntKind.wrap .i64 (x12+a2))≤(s2.1.length:Int))then(if(0≤s2.2.2)then(if(s2.2.2 < (y1.2.2:Int))then(if(s2.2.2.toNat < y1.2.2)then(if(0≤(IntKind.wrap .i64 (x12+(a1.length:Int))))then(if((IntKind.wrap .i64 (x12+(a1.length:Int)))≤(s2.1.length:Int))then(some (.inl ((s2.1.drop (IntKind.wrap .i64 (x12+(a1.length:Int))).toNat),((Kg s2.2.1 0 y1.2.2).set s2.2.2.toNat (s2.1.take (IntKind.wrap .i64 (x12+a2)).toNat)),(IntKind.wrap .i64 (s2.2.2+1)))))else none)else none)else none)else none)else none)else none)else none)))else(some (.inr (.inl (s2.1,s2.2.1,s2.2.2))))):Option (((List UInt8)×(List (List UInt8))×Int)⊕(((List UInt8)×(List (List UInt8))×Int)⊕((List (List UInt8))))))) (a0,y1.2.1,(0:Int))) (Af fun(y3:(List UInt8)×(List (List UInt8))×Int)=>(if(0≤y3.2.2)then(if(y3.2.2 < (y1.2.2:Int))then(if(y3.2.2.toNat < y1.2.2)then(if(0≤(IntKind.wrap .i64 (y3.2.2+1)))then(if((IntKind.wrap .i64 (y3.2.2+1))≤(y1.2.2:Int))then(some (((Kg y3.2.1 0 y1.2.2).set y3.2.2.toNat y3.1).take (IntKind.wrap .i64 (y3.2.2+1)).toNat))else none)else none)else none)else none)else none))))):Option ((List (List UInt8)))):=by kernel_rfl
theorem M80 (a0 a1:List UInt8):wv a0 a1=((Option.bind (Option.bind (td a0 a1 (0:Int) (-1:Int)) fun r=>some r) fun x1=>(some x1)):Option ((List (List UInt8)))):=by kernel_rfl
theorem AA4 (s:List UInt8) (c:UInt8):tg s [c]=some (Lib.indexByte s c):=by
 simp only[M143,Ya]
 rfl
theorem l5 (s:List UInt8) (c:UInt8) (hs:s.length≤1000000):td s [c] 0 (-1)=some (Bm c s):=by
 have hcl:s.count c≤s.length:=List.count_le_length
 have hC:tf s [c]=some ((s.count c:Nat):Int):=rfl
 have e1:((-1:Int)==0)=false:=rfl
 have e2:(([c]:List UInt8)==([]:List UInt8))=false:=rfl
 have e3:decide ((-1:Int) < 0)=true:=rfl
 have w1:IntKind.wrap .i64 ((s.length:Int)+1)=(s.length:Int)+1:=Bh (by omega) (by omega)
 have w2:IntKind.wrap .i64 (((s.count c:Nat):Int)+1)=((s.count c+1:Nat):Int):=Bh (by omega) (by omega)
 have w3:(if(s.length:Int)+1 < ((s.count c+1:Nat):Int)then(s.length:Int)+1 else((s.count c+1:Nat):Int))=((s.count c+1:Nat):Int):=if_neg (by omega)
 have w4:IntKind.wrap .i64 (((s.count c+1:Nat):Int) - 1)=((s.count c:Nat):Int):=by rw[Bh (by omega) (by omega)];omega
 have a1:((0:Int)≤((s.count c+1:Nat):Int))=True:=eq_true (by omega)
 have a2:(((s.count c+1:Nat):Int) * 16≤140737488355328)=True:=eq_true (by omega)
 have a3:(((s.count c+1:Nat):Int)≤9223372036854775807)=True:=eq_true (by omega)
 simp only[M119,Ya]
 simp only[e1,e2,e3,hC,bs,ol,w1,w2,w3,w4,a1,a2,a3,Int.toNat_natCast,Bool.false_eq_true,if_false,if_true]
 generalize hN:s.count c=N at *
 refine AAc (fun m st=>∃ (rest:List UInt8) (a:List (List UInt8)) (i:Nat),st=(rest,a,(i:Int))∧m=N - i∧i≤N∧a.length=N+1∧rest.count c=N - i∧rest.length≤s.length∧Bm c s=a.take i++Bm c rest)
  (fun y=>∃ (rest:List UInt8) (a:List (List UInt8)),y=(rest,a,(N:Int))∧a.length=N+1∧Bm c s=a.take N++[rest]) N ⟨s,_,0,rfl,rfl,by omega,by simp,by rw[hN];omega,Nat.le_refl _,by simp⟩ ?_ ?_
 ·rintro m st ⟨rest,a,i,rfl,rfl,hi,hl,hc,hr,he⟩
  rcases Nat.lt_or_eq_of_le hi with hlt | heq
  ·left
   obtain⟨k,k1,k2,k3,k4⟩:=br (c:=c) (s:=rest) (by omega)
   have hI:=AA4 rest c
   rw[k1]at hI
   have b1:decide ((i:Int) < (N:Int))=true:=by simp;omega
   have b2:decide ((k:Int) < 0)=false:=by simp
   have b3:IntKind.wrap .i64 ((k:Int)+0)=(k:Int):=Bh (by omega) (by omega)
   have b4:IntKind.wrap .i64 ((k:Int)+(([c]:List UInt8).length:Int))=((k+1:Nat):Int):=by
    show IntKind.wrap .i64 ((k:Int)+((1:Nat):Int))=_
    rw[Bh (by omega) (by omega)];omega
   have b5:((0:Int)≤(k:Int))=True:=eq_true (by omega)
   have b6:((k:Int)≤(rest.length:Int))=True:=eq_true (by omega)
   have b7:((0:Int)≤(i:Int))=True:=eq_true (by omega)
   have b8:((i:Int) < ((N+1:Nat):Int))=True:=eq_true (by omega)
   have b9:(i < N+1)=True:=eq_true (by omega)
   have b10:((0:Int)≤((k+1:Nat):Int))=True:=eq_true (by omega)
   have b11:(((k+1:Nat):Int)≤(rest.length:Int))=True:=eq_true (by omega)
   have b12:IntKind.wrap .i64 ((i:Int)+1)=((i+1:Nat):Int):=Bh (by omega) (by omega)
   have b13:Kg a 0 (N+1)=a:=kd hl
   refine⟨(rest.drop (k+1),a.set i (rest.take k),((i+1:Nat):Int)),?_,N - (i+1),by omega,_,_,i+1,rfl,rfl,by omega,by rw[List.length_set];exact hl,by omega,by rw[List.length_drop];omega,?_⟩
   ·simp only[b1,hI,bs,b2,b3,b4,b5,b6,b7,b8,b9,b10,b11,b12,b13,Int.toNat_natCast,Bool.false_eq_true,if_false,if_true]
   ·rw[he,k3,List.take_add_one,List.getElem?_set_self (by omega),List.take_set_of_le (Nat.le_refl _)]
    simp
  ·right
   subst heq
   have b1:decide ((i:Int) < (i:Int))=false:=by simp
   refine⟨_,by simp only[b1,Bool.false_eq_true,if_false],rest,a,rfl,hl,?_⟩
   rw[he,Oh (by omega)]
 ·rintro y ⟨rest,a,rfl,hl,he⟩
  have b1:((0:Int)≤(N:Int))=True:=eq_true (by omega)
  have b2:((N:Int) < ((N+1:Nat):Int))=True:=eq_true (by omega)
  have b3:(N < N+1)=True:=eq_true (by omega)
  have b4:IntKind.wrap .i64 ((N:Int)+1)=((N+1:Nat):Int):=Bh (by omega) (by omega)
  have b5:((0:Int)≤((N+1:Nat):Int))=True:=eq_true (by omega)
  have b6:(((N+1:Nat):Int)≤((N+1:Nat):Int))=True:=eq_true (by omega)
  have b7:Kg a 0 (N+1)=a:=kd hl
  simp only[b1,b2,b3,b4,b5,b6,b7,Int.toNat_natCast,if_true]
  rw[he,List.take_add_one,List.getElem?_set_self (by omega),List.take_set_of_le (Nat.le_refl _)]
  rfl
theorem AA6 (s:List UInt8) (c:UInt8) (hs:s.length≤1000000):wv s [c]=some (Bm c s):=by
 simp only[M80,Ya,l5 s c hs,bs]
end Go.Av
set_option maxRecDepth 100000
namespace Go.Av.Txs
open Go.Av
theorem M81 (a0:List UInt8):mn a0=((Option.bind (if(decide (200 < (a0.length:Int)))=true then(some (.inr (([],(201:Int),(3:Int)))))else(some (.inl ()))) (Af fun(_:Unit)=>(Option.bind (Option.bind (some (.inl ())) (Af fun(_:Unit)=>(Am (fun(s1:Int)=>((if(decide (s1 < (a0.length:Int)))=true then(if(0≤s1)then(if(s1 < (a0.length:Int))then(if(!(decide ((A0 a0 s1.toNat) < 32)))=true→(0≤s1)then(if(!(decide ((A0 a0 s1.toNat) < 32)))=true→(s1 < (a0.length:Int))then(if((decide ((A0 a0 s1.toNat) < 32)) || (decide (126 < (A0 a0 s1.toNat))))=true then(some (.inr (.inr (([],(IntKind.wrap .i64 (s1+1)),(4:Int))))))else(some (.inl (IntKind.wrap .i64 (s1+1)))))else none)else none)else none)else none)else(some (.inr (.inl ())))):Option ((Int)⊕((Unit)⊕((List Ad)×Int×Int))))) (0:Int)))) (Af fun(_:Unit)=>(Option.bind (Option.bind (Option.bind (Px a0 ([35]:List UInt8)) fun r=>some r) fun x9=>(some (.inl x9.1))) (Af fun(y2:(List UInt8))=>(Option.bind (Option.bind (some (.inl ())) (Af fun(_:Unit)=>(Am (fun(s3:(List Ad)×Int)=>((Option.bind (if(decide (s3.2 < (y2.length:Int)))=true then(some (.inl ()))else(some (.inr (.inr (.inl s3.1))))) (Af fun(_:Unit)=>(Option.bind (if(0≤s3.2)then(if(s3.2 < (y2.length:Int))then(if((A0 y2 s3.2.toNat)==32)=true then(some (.inr (.inl (s3.1,(IntKind.wrap .i64 (s3.2+1))))))else(some (.inl ())))else none)else none) (Af fun(_:Unit)=>(Option.bind (Am (fun(s4:Int)=>((if(decide (s4 < (y2.length:Int)))=true→(0≤s4)then(if(decide (s4 < (y2.length:Int)))=true→(s4 < (y2.length:Int))then(if((decide (s4 < (y2.length:Int)))&&((A0 y2 s4.toNat) != 32))=true then(some (.inl (IntKind.wrap .i64 (s4+1))))else(some (.inr (.inl s4))))else none)else none):Option ((Int)⊕((Int)⊕(((List Ad)×Int)⊕(((List Ad))⊕((List Ad)×Int×Int))))))) s3.2) (Af fun(y5:Int)=>(if(0≤s3.2)then(if(s3.2≤y5)then(if(y5≤(y2.length:Int))then(if((s3.1.length+1) * 24≤140737488355328)then(some (.inl ((s3.1++([(⟨((y2.take y5.toNat).drop s3.2.toNat),(IntKind.wrap .i64 (s3.2+1))⟩:Ad)]:List Ad)),y5)))else none)else none)else none)else none))))))):Option (((List Ad)×Int)⊕(((List Ad))⊕((List Ad)×Int×Int))))) ([],(0:Int))))) (Af fun(y6:(List Ad))=>(some (y6,(0:Int),(0:Int))))))))))):Option ((List Ad)×Int×Int)):=by kernel_rfl
abbrev X6 (y2:(List UInt8)):(Int)→Option ((Int)⊕((Int)⊕(((List Ad)×Int)⊕(((List Ad))⊕((List Ad)×Int×Int))))):=(fun(s4:Int)=>((if(decide (s4 < (y2.length:Int)))=true→(0≤s4)then(if(decide (s4 < (y2.length:Int)))=true→(s4 < (y2.length:Int))then(if((decide (s4 < (y2.length:Int)))&&((A0 y2 s4.toNat) != 32))=true then(some (.inl (IntKind.wrap .i64 (s4+1))))else(some (.inr (.inl s4))))else none)else none):Option ((Int)⊕((Int)⊕(((List Ad)×Int)⊕(((List Ad))⊕((List Ad)×Int×Int)))))))
abbrev X7 (y2:(List UInt8)):((List Ad)×Int)→Option (((List Ad)×Int)⊕(((List Ad))⊕((List Ad)×Int×Int))):=(fun(s3:(List Ad)×Int)=>((Option.bind (if(decide (s3.2 < (y2.length:Int)))=true then(some (.inl ()))else(some (.inr (.inr (.inl s3.1))))) (Af fun(_:Unit)=>(Option.bind (if(0≤s3.2)then(if(s3.2 < (y2.length:Int))then(if((A0 y2 s3.2.toNat)==32)=true then(some (.inr (.inl (s3.1,(IntKind.wrap .i64 (s3.2+1))))))else(some (.inl ())))else none)else none) (Af fun(_:Unit)=>(Option.bind (Am (X6 y2) s3.2) (Af fun(y5:Int)=>(if(0≤s3.2)then(if(s3.2≤y5)then(if(y5≤(y2.length:Int))then(if((s3.1.length+1) * 24≤140737488355328)then(some (.inl ((s3.1++([(⟨((y2.take y5.toNat).drop s3.2.toNat),(IntKind.wrap .i64 (s3.2+1))⟩:Ad)]:List Ad)),y5)))else none)else none)else none)else none))))))):Option (((List Ad)×Int)⊕(((List Ad))⊕((List Ad)×Int×Int)))))
abbrev fm (a0:List UInt8):(Int)→Option ((Int)⊕((Unit)⊕((List Ad)×Int×Int))):=(fun(s1:Int)=>((if(decide (s1 < (a0.length:Int)))=true then(if(0≤s1)then(if(s1 < (a0.length:Int))then(if(!(decide ((A0 a0 s1.toNat) < 32)))=true→(0≤s1)then(if(!(decide ((A0 a0 s1.toNat) < 32)))=true→(s1 < (a0.length:Int))then(if((decide ((A0 a0 s1.toNat) < 32)) || (decide (126 < (A0 a0 s1.toNat))))=true then(some (.inr (.inr (([],(IntKind.wrap .i64 (s1+1)),(4:Int))))))else(some (.inl (IntKind.wrap .i64 (s1+1)))))else none)else none)else none)else none)else(some (.inr (.inl ())))):Option ((Int)⊕((Unit)⊕((List Ad)×Int×Int)))))
theorem A81  (a0:List UInt8):mn a0=((Option.bind (if(decide (200 < (a0.length:Int)))=true then(some (.inr (([],(201:Int),(3:Int)))))else(some (.inl ()))) (Af fun(_:Unit)=>(Option.bind (Option.bind (some (.inl ())) (Af fun(_:Unit)=>(Am (fm a0) (0:Int)))) (Af fun(_:Unit)=>(Option.bind (Option.bind (Option.bind (Px a0 ([35]:List UInt8)) fun r=>some r) fun x9=>(some (.inl x9.1))) (Af fun(y2:(List UInt8))=>(Option.bind (Option.bind (some (.inl ())) (Af fun(_:Unit)=>(Am (X7 y2) ([],(0:Int))))) (Af fun(y6:(List Ad))=>(some (y6,(0:Int),(0:Int))))))))))):Option ((List Ad)×Int×Int)):=M81 _
theorem M90 (a0:List UInt8):mr a0=((Option.bind (if(decide (200 < (a0.length:Int)))=true then(some (.inr (([],(201:Int),(3:Int)))))else(some (.inl ()))) (Af fun(_:Unit)=>(Option.bind (Option.bind (some (.inl ())) (Af fun(_:Unit)=>(Am (fun(s1:Int)=>((if(decide (s1 < (a0.length:Int)))=true then(if(0≤s1)then(if(s1 < (a0.length:Int))then(if(!(decide ((A0 a0 s1.toNat) < 32)))=true→(0≤s1)then(if(!(decide ((A0 a0 s1.toNat) < 32)))=true→(s1 < (a0.length:Int))then(if((decide ((A0 a0 s1.toNat) < 32)) || (decide (126 < (A0 a0 s1.toNat))))=true then(some (.inr (.inr (([],(IntKind.wrap .i64 (s1+1)),(4:Int))))))else(some (.inl (IntKind.wrap .i64 (s1+1)))))else none)else none)else none)else none)else(some (.inr (.inl ())))):Option ((Int)⊕((Unit)⊕((List Ad)×Int×Int))))) (0:Int)))) (Af fun(_:Unit)=>(Option.bind (some (.inl ())) (Af fun(_:Unit)=>(Option.bind (Option.bind (some (.inl ())) (Af fun(_:Unit)=>(Am (fun(s2:(List Ad)×Int×Int)=>((if(decide (s2.2.2≤(a0.length:Int)))=true then(if(!(s2.2.2==(a0.length:Int)))=true→(0≤s2.2.2)then(if(!(s2.2.2==(a0.length:Int)))=true→(s2.2.2 < (a0.length:Int))then(if(!((s2.2.2==(a0.length:Int)) || ((A0 a0 s2.2.2.toNat)==32)))=true→(0≤s2.2.2)then(if(!((s2.2.2==(a0.length:Int)) || ((A0 a0 s2.2.2.toNat)==32)))=true→(s2.2.2 < (a0.length:Int))then(if((!(((s2.2.2==(a0.length:Int)) || ((A0 a0 s2.2.2.toNat)==32)) || ((A0 a0 s2.2.2.toNat)==35)))&&(decide (s2.2.1 < 0)))=true then(if((((s2.2.2==(a0.length:Int)) || ((A0 a0 s2.2.2.toNat)==32)) || ((A0 a0 s2.2.2.toNat)==35))&&(decide (0≤s2.2.2)))=true then(if(0≤s2.2.2)then(if(s2.2.2≤s2.2.2)then(if(s2.2.2≤(a0.length:Int))then(if((s2.1.length+1) * 24≤140737488355328)then(if(decide (s2.2.2 < (a0.length:Int)))=true→(0≤s2.2.2)then(if(decide (s2.2.2 < (a0.length:Int)))=true→(s2.2.2 < (a0.length:Int))then(if((decide (s2.2.2 < (a0.length:Int)))&&((A0 a0 s2.2.2.toNat)==35))=true then(some (.inr (.inl (s2.1++([(⟨((a0.take s2.2.2.toNat).drop s2.2.2.toNat),(IntKind.wrap .i64 (s2.2.2+1))⟩:Ad)]:List Ad)))))else(some (.inl ((s2.1++([(⟨((a0.take s2.2.2.toNat).drop s2.2.2.toNat),(IntKind.wrap .i64 (s2.2.2+1))⟩:Ad)]:List Ad)),(-1:Int),(IntKind.wrap .i64 (s2.2.2+1))))))else none)else none)else none)else none)else none)else none)else(if(decide (s2.2.2 < (a0.length:Int)))=true→(0≤s2.2.2)then(if(decide (s2.2.2 < (a0.length:Int)))=true→(s2.2.2 < (a0.length:Int))then(if((decide (s2.2.2 < (a0.length:Int)))&&((A0 a0 s2.2.2.toNat)==35))=true then(some (.inr (.inl s2.1)))else(some (.inl (s2.1,s2.2.2,(IntKind.wrap .i64 (s2.2.2+1))))))else none)else none))else(if((((s2.2.2==(a0.length:Int)) || ((A0 a0 s2.2.2.toNat)==32)) || ((A0 a0 s2.2.2.toNat)==35))&&(decide (0≤s2.2.1)))=true then(if(0≤s2.2.1)then(if(s2.2.1≤s2.2.2)then(if(s2.2.2≤(a0.length:Int))then(if((s2.1.length+1) * 24≤140737488355328)then(if(decide (s2.2.2 < (a0.length:Int)))=true→(0≤s2.2.2)then(if(decide (s2.2.2 < (a0.length:Int)))=true→(s2.2.2 < (a0.length:Int))then(if((decide (s2.2.2 < (a0.length:Int)))&&((A0 a0 s2.2.2.toNat)==35))=true then(some (.inr (.inl (s2.1++([(⟨((a0.take s2.2.2.toNat).drop s2.2.1.toNat),(IntKind.wrap .i64 (s2.2.1+1))⟩:Ad)]:List Ad)))))else(some (.inl ((s2.1++([(⟨((a0.take s2.2.2.toNat).drop s2.2.1.toNat),(IntKind.wrap .i64 (s2.2.1+1))⟩:Ad)]:List Ad)),(-1:Int),(IntKind.wrap .i64 (s2.2.2+1))))))else none)else none)else none)else none)else none)else none)else(if(decide (s2.2.2 < (a0.length:Int)))=true→(0≤s2.2.2)then(if(decide (s2.2.2 < (a0.length:Int)))=true→(s2.2.2 < (a0.length:Int))then(if((decide (s2.2.2 < (a0.length:Int)))&&((A0 a0 s2.2.2.toNat)==35))=true then(some (.inr (.inl s2.1)))else(some (.inl (s2.1,s2.2.1,(IntKind.wrap .i64 (s2.2.2+1))))))else none)else none)))else none)else none)else none)else none)else(some (.inr (.inl s2.1)))):Option (((List Ad)×Int×Int)⊕(((List Ad))⊕((List Ad)×Int×Int))))) ([],(-1:Int),(0:Int))))) (Af fun(y3:(List Ad))=>(some (y3,(0:Int),(0:Int))))))))))):Option ((List Ad)×Int×Int)):=by kernel_rfl
abbrev Eu (a0:List UInt8):((List Ad)×Int×Int)→Option (((List Ad)×Int×Int)⊕(((List Ad))⊕((List Ad)×Int×Int))):=(fun(s2:(List Ad)×Int×Int)=>((if(decide (s2.2.2≤(a0.length:Int)))=true then(if(!(s2.2.2==(a0.length:Int)))=true→(0≤s2.2.2)then(if(!(s2.2.2==(a0.length:Int)))=true→(s2.2.2 < (a0.length:Int))then(if(!((s2.2.2==(a0.length:Int)) || ((A0 a0 s2.2.2.toNat)==32)))=true→(0≤s2.2.2)then(if(!((s2.2.2==(a0.length:Int)) || ((A0 a0 s2.2.2.toNat)==32)))=true→(s2.2.2 < (a0.length:Int))then(if((!(((s2.2.2==(a0.length:Int)) || ((A0 a0 s2.2.2.toNat)==32)) || ((A0 a0 s2.2.2.toNat)==35)))&&(decide (s2.2.1 < 0)))=true then(if((((s2.2.2==(a0.length:Int)) || ((A0 a0 s2.2.2.toNat)==32)) || ((A0 a0 s2.2.2.toNat)==35))&&(decide (0≤s2.2.2)))=true then(if(0≤s2.2.2)then(if(s2.2.2≤s2.2.2)then(if(s2.2.2≤(a0.length:Int))then(if((s2.1.length+1) * 24≤140737488355328)then(if(decide (s2.2.2 < (a0.length:Int)))=true→(0≤s2.2.2)then(if(decide (s2.2.2 < (a0.length:Int)))=true→(s2.2.2 < (a0.length:Int))then(if((decide (s2.2.2 < (a0.length:Int)))&&((A0 a0 s2.2.2.toNat)==35))=true then(some (.inr (.inl (s2.1++([(⟨((a0.take s2.2.2.toNat).drop s2.2.2.toNat),(IntKind.wrap .i64 (s2.2.2+1))⟩:Ad)]:List Ad)))))else(some (.inl ((s2.1++([(⟨((a0.take s2.2.2.toNat).drop s2.2.2.toNat),(IntKind.wrap .i64 (s2.2.2+1))⟩:Ad)]:List Ad)),(-1:Int),(IntKind.wrap .i64 (s2.2.2+1))))))else none)else none)else none)else none)else none)else none)else(if(decide (s2.2.2 < (a0.length:Int)))=true→(0≤s2.2.2)then(if(decide (s2.2.2 < (a0.length:Int)))=true→(s2.2.2 < (a0.length:Int))then(if((decide (s2.2.2 < (a0.length:Int)))&&((A0 a0 s2.2.2.toNat)==35))=true then(some (.inr (.inl s2.1)))else(some (.inl (s2.1,s2.2.2,(IntKind.wrap .i64 (s2.2.2+1))))))else none)else none))else(if((((s2.2.2==(a0.length:Int)) || ((A0 a0 s2.2.2.toNat)==32)) || ((A0 a0 s2.2.2.toNat)==35))&&(decide (0≤s2.2.1)))=true then(if(0≤s2.2.1)then(if(s2.2.1≤s2.2.2)then(if(s2.2.2≤(a0.length:Int))then(if((s2.1.length+1) * 24≤140737488355328)then(if(decide (s2.2.2 < (a0.length:Int)))=true→(0≤s2.2.2)then(if(decide (s2.2.2 < (a0.length:Int)))=true→(s2.2.2 < (a0.length:Int))then(if((decide (s2.2.2 < (a0.length:Int)))&&((A0 a0 s2.2.2.toNat)==35))=true then(some (.inr (.inl (s2.1++([(⟨((a0.take s2.2.2.toNat).drop s2.2.1.toNat),(IntKind.wrap .i64 (s2.2.1+1))⟩:Ad)]:List Ad)))))else(some (.inl ((s2.1++([(⟨((a0.take s2.2.2.toNat).drop s2.2.1.toNat),(IntKind.wrap .i64 (s2.2.1+1))⟩:Ad)]:List Ad)),(-1:Int),(IntKind.wrap .i64 (s2.2.2+1))))))else none)else none)else none)else none)else none)else none)else(if(decide (s2.2.2 < (a0.length:Int)))=true→(0≤s2.2.2)then(if(decide (s2.2.2 < (a0.length:Int)))=true→(s2.2.2 < (a0.length:Int))then(if((decide (s2.2.2 < (a0.length:Int)))&&((A0 a0 s2.2.2.toNat)==35))=true then(some (.inr (.inl s2.1)))else(some (.inl (s2.1,s2.2.1,(IntKind.wrap .i64 (s2.2.2+1))))))else none)else none)))else none)else none)else none)else none)else(some (.inr (.inl s2.1)))):Option (((List Ad)×Int×Int)⊕(((List Ad))⊕((List Ad)×Int×Int)))))
abbrev fo (a0:List UInt8):(Int)→Option ((Int)⊕((Unit)⊕((List Ad)×Int×Int))):=(fun(s1:Int)=>((if(decide (s1 < (a0.length:Int)))=true then(if(0≤s1)then(if(s1 < (a0.length:Int))then(if(!(decide ((A0 a0 s1.toNat) < 32)))=true→(0≤s1)then(if(!(decide ((A0 a0 s1.toNat) < 32)))=true→(s1 < (a0.length:Int))then(if((decide ((A0 a0 s1.toNat) < 32)) || (decide (126 < (A0 a0 s1.toNat))))=true then(some (.inr (.inr (([],(IntKind.wrap .i64 (s1+1)),(4:Int))))))else(some (.inl (IntKind.wrap .i64 (s1+1)))))else none)else none)else none)else none)else(some (.inr (.inl ())))):Option ((Int)⊕((Unit)⊕((List Ad)×Int×Int)))))
theorem A90  (a0:List UInt8):mr a0=((Option.bind (if(decide (200 < (a0.length:Int)))=true then(some (.inr (([],(201:Int),(3:Int)))))else(some (.inl ()))) (Af fun(_:Unit)=>(Option.bind (Option.bind (some (.inl ())) (Af fun(_:Unit)=>(Am (fo a0) (0:Int)))) (Af fun(_:Unit)=>(Option.bind (some (.inl ())) (Af fun(_:Unit)=>(Option.bind (Option.bind (some (.inl ())) (Af fun(_:Unit)=>(Am (Eu a0) ([],(-1:Int),(0:Int))))) (Af fun(y3:(List Ad))=>(some (y3,(0:Int),(0:Int))))))))))):Option ((List Ad)×Int×Int)):=M90 _
theorem M89 (a0:List UInt8):mq a0=((Option.bind (some (.inl ())) (Af fun(_:Unit)=>(Option.bind (Option.bind (some (.inl ())) (Af fun(_:Unit)=>(Am (fun(s1:(List (List UInt8))×Int×Int)=>((if(decide (s1.2.2≤(a0.length:Int)))=true then(if(!(s1.2.2==(a0.length:Int)))=true→(0≤s1.2.2)then(if(!(s1.2.2==(a0.length:Int)))=true→(s1.2.2 < (a0.length:Int))then(if((s1.2.2==(a0.length:Int)) || ((A0 a0 s1.2.2.toNat)==10))=true then(if(0≤s1.2.1)then(if(s1.2.1≤s1.2.2)then(if(s1.2.2≤(a0.length:Int))then(if((s1.1.length+1) * 16≤140737488355328)then(some (.inl ((s1.1++([((a0.take s1.2.2.toNat).drop s1.2.1.toNat)]:List (List UInt8))),(IntKind.wrap .i64 (s1.2.2+1)),(IntKind.wrap .i64 (s1.2.2+1)))))else none)else none)else none)else none)else(some (.inl (s1.1,s1.2.1,(IntKind.wrap .i64 (s1.2.2+1))))))else none)else none)else(some (.inr (.inl s1.1)))):Option (((List (List UInt8))×Int×Int)⊕(((List (List UInt8)))⊕((List (List UInt8))))))) ([],(0:Int),(0:Int))))) (Af fun(y2:(List (List UInt8)))=>(some y2))))):Option ((List (List UInt8)))):=by kernel_rfl
abbrev Mr (a0:List UInt8):((List (List UInt8))×Int×Int)→Option (((List (List UInt8))×Int×Int)⊕(((List (List UInt8)))⊕((List (List UInt8))))):=(fun(s1:(List (List UInt8))×Int×Int)=>((if(decide (s1.2.2≤(a0.length:Int)))=true then(if(!(s1.2.2==(a0.length:Int)))=true→(0≤s1.2.2)then(if(!(s1.2.2==(a0.length:Int)))=true→(s1.2.2 < (a0.length:Int))then(if((s1.2.2==(a0.length:Int)) || ((A0 a0 s1.2.2.toNat)==10))=true then(if(0≤s1.2.1)then(if(s1.2.1≤s1.2.2)then(if(s1.2.2≤(a0.length:Int))then(if((s1.1.length+1) * 16≤140737488355328)then(some (.inl ((s1.1++([((a0.take s1.2.2.toNat).drop s1.2.1.toNat)]:List (List UInt8))),(IntKind.wrap .i64 (s1.2.2+1)),(IntKind.wrap .i64 (s1.2.2+1)))))else none)else none)else none)else none)else(some (.inl (s1.1,s1.2.1,(IntKind.wrap .i64 (s1.2.2+1))))))else none)else none)else(some (.inr (.inl s1.1)))):Option (((List (List UInt8))×Int×Int)⊕(((List (List UInt8)))⊕((List (List UInt8)))))))
theorem A89  (a0:List UInt8):mq a0=((Option.bind (some (.inl ())) (Af fun(_:Unit)=>(Option.bind (Option.bind (some (.inl ())) (Af fun(_:Unit)=>(Am (Mr a0) ([],(0:Int),(0:Int))))) (Af fun(y2:(List (List UInt8)))=>(some y2))))):Option ((List (List UInt8)))):=M89 _
theorem M120 (a0 a1:List UInt8):Px a0 a1=((Option.bind (Option.bind (fu a0 a1) fun r=>some r) fun x1=>(some (x1.1,x1.2.1,x1.2.2))):Option ((List UInt8)×(List UInt8)×Bool)):=by kernel_rfl
theorem A120  (a0 a1:List UInt8):Px a0 a1=((Option.bind (Option.bind (fu a0 a1) fun r=>some r) fun x1=>(some (x1.1,x1.2.1,x1.2.2))):Option ((List UInt8)×(List UInt8)×Bool)):=M120 _ _
theorem M144 (a0 a1:List UInt8):fu a0 a1=((Option.bind (Option.bind (V6 a0 a1) fun r=>some r) fun x1=>(if(decide (0≤x1))=true then(if(0≤x1)then(if(x1≤(a0.length:Int))then(if(0≤(IntKind.wrap .i64 (x1+(a1.length:Int))))then(if((IntKind.wrap .i64 (x1+(a1.length:Int)))≤(a0.length:Int))then(some ((a0.take x1.toNat),(a0.drop (IntKind.wrap .i64 (x1+(a1.length:Int))).toNat),true))else none)else none)else none)else none)else(some (a0,([]:List UInt8),false)))):Option ((List UInt8)×(List UInt8)×Bool)):=by kernel_rfl
theorem A144  (a0 a1:List UInt8):fu a0 a1=((Option.bind (Option.bind (V6 a0 a1) fun r=>some r) fun x1=>(if(decide (0≤x1))=true then(if(0≤x1)then(if(x1≤(a0.length:Int))then(if(0≤(IntKind.wrap .i64 (x1+(a1.length:Int))))then(if((IntKind.wrap .i64 (x1+(a1.length:Int)))≤(a0.length:Int))then(some ((a0.take x1.toNat),(a0.drop (IntKind.wrap .i64 (x1+(a1.length:Int))).toNat),true))else none)else none)else none)else none)else(some (a0,([]:List UInt8),false)))):Option ((List UInt8)×(List UInt8)×Bool)):=M144 _ _
theorem kt {s:List UInt8} {n i:Nat} (h:i < n):A0 (s.take n) i=A0 s i:=by unfold A0;rw[List.getElem?_take_of_lt h]
def Ep (y:List UInt8) (i:Nat):Nat:=if h:i < y.length then(if A0 y i=32 then i else Ep y (i+1))else i
termination_by y.length - i
theorem Sh (y:List UInt8) (i:Nat):i≤Ep y i:=by
 unfold Ep
 split
 ·split
  ·exact Nat.le_refl _
  ·exact Nat.le_trans (Nat.le_succ i) (Sh y (i+1))
 ·exact Nat.le_refl _
termination_by y.length - i
theorem Yj (y:List UInt8) (i:Nat) (h:i≤y.length):Ep y i≤y.length:=by
 unfold Ep
 split
 ·split
  ·exact h
  ·exact Yj y (i+1) (by omega)
 ·exact h
termination_by y.length - i
theorem Nf {y:List UInt8} {i:Nat} (h:i < y.length) (hb:A0 y i≠32):Ep y i=Ep y (i+1):=by
 conv=>lhs;unfold Ep
 rw[dif_pos h,if_neg hb]
theorem L0 {y:List UInt8} {i:Nat} (hb:i < y.length→A0 y i=32):Ep y i=i:=by
 unfold Ep
 split
 ·rename_i h;rw[if_pos (hb h)]
 ·rfl
def Bx (y:List UInt8) (i:Nat):List Ad :=
 if h:i < y.length then(if A0 y i=32 then Bx y (i+1)else⟨(y.take (Ep y (i+1))).drop i,(i:Int)+1⟩ :: Bx y (Ep y (i+1)))else[]
termination_by y.length - i
decreasing_by
 ·omega
 ·have:=Sh y (i+1);omega
theorem Jz {y:List UInt8} {i:Nat} (h:i < y.length) (hb:A0 y i=32):Bx y i=Bx y (i+1):=by
 conv=>lhs;unfold Bx
 rw[dif_pos h,if_pos hb]
theorem O2 {y:List UInt8} {i:Nat} (h:i < y.length) (hb:A0 y i≠32):Bx y i=⟨(y.take (Ep y (i+1))).drop i,(i:Int)+1⟩ :: Bx y (Ep y (i+1)):=by
 conv=>lhs;unfold Bx
 rw[dif_pos h,if_neg hb]
theorem Fp {y:List UInt8} {i:Nat} (h:y.length≤i):Bx y i=[]:=by
 unfold Bx
 rw[dif_neg (by omega)]
theorem Rv {n:Nat} (h:n≤1000000):(n+1) * 24≤140737488355328:=Nat.le_trans (Nat.mul_le_mul_right 24 (Nat.succ_le_succ h)) (by decide)
theorem Xu {n:Nat} (h:n≤1000000):(n+1) * 16≤140737488355328:=Nat.le_trans (Nat.mul_le_mul_right 16 (Nat.succ_le_succ h)) (by decide)
theorem size32 {n:Nat} (h:n≤1000000):(n+1) * 32≤140737488355328:=Nat.le_trans (Nat.mul_le_mul_right 32 (Nat.succ_le_succ h)) (by decide)
theorem Xv {n:Nat} (h:n≤1000000):(n+1) * 8≤140737488355328:=Nat.le_trans (Nat.mul_le_mul_right 8 (Nat.succ_le_succ h)) (by decide)
theorem wn {i:Nat} (h:i≤1000000):IntKind.wrap .i64 ((i:Int)+1)=((i+1:Nat):Int):=by rw[Bh (by omega) (by omega)];omega
theorem O1 {i:Nat} (h:i≤1000000):IntKind.wrap .i64 ((i:Int)+1)=(i:Int)+1:=Bh (by omega) (by omega)
theorem Bg {S X:Type} {b:S→Option (S⊕X)} {s s':S} {r:Option X} (h:b s=some (.inl s')) (h2:Am b s'=r):Am b s=r:=by rw[E2,h];exact h2
theorem Be {S X:Type} {b:S→Option (S⊕X)} {s:S} {x:X} (h:b s=some (.inr x)):Am b s=some x:=by rw[E2,h];rfl
theorem AC8 (y:List UInt8) (hy:y.length≤1000):∀ (k j:Nat),y.length - j=k→j≤y.length→Am (X6 y) (j:Int)=some (.inl (Ep y j:Int))
 | 0,j,hk,hj=>by
  obtain rfl:j=y.length:=by omega
  rw[E2]
  simp only[X6,Int.lt_irrefl,decide_false,Bool.false_eq_true,false_implies,if_true,Bool.false_and,if_false]
  rw[L0 (fun h=>absurd h (Nat.lt_irrefl _))]
  rfl
 | k+1,j,hk,hj=>by
  have h:j < y.length:=by omega
  have hi:(j:Int) < (y.length:Int):=by omega
  rw[E2]
  simp only[X6,Int.toNat_natCast,hi,decide_true,forall_const,if_true,Bool.true_and,show (0:Int)≤(j:Int) from by omega]
  by_cases hb:A0 y j=32
  ·rw[L0 (fun _=>hb)]
   simp[hb]
  ·rw[Nf h hb]
   have e:((A0 y j) != 32)=true:=by simpa using hb
   rw[if_pos e,wn (by omega)]
   exact AC8 y hy k (j+1) (by omega) (by omega)
theorem outer (y:List UInt8) (hy:y.length≤1000):∀ (k i:Nat) (acc:List Ad),y.length - i=k→i≤y.length→acc.length≤i→Am (X7 y) (acc,(i:Int))=some (.inl (acc++Bx y i)):=by
 intro k
 induction k using Nat.strongRecOn with
 | _ k ih =>
  intro i acc hk hi ha
  rw[E2]
  rcases Nat.eq_or_lt_of_le hi with rfl | h
  ·simp only[X7,Int.lt_irrefl,decide_false,Bool.false_eq_true,if_false,bs,Lh,ol]
   rw[Fp (Nat.le_refl _),List.append_nil]
  ·have hl:(i:Int) < (y.length:Int):=by omega
   simp only[X7,Int.toNat_natCast,hl,decide_true,if_true,bs,ol,show (0:Int)≤(i:Int) from by omega]
   by_cases hb:A0 y i=32
   ·rw[if_pos (by simpa using hb)]
    simp only[bs,Lh,wn (i:=i) (by omega)]
    rw[ih (y.length - (i+1)) (by omega) (i+1) acc rfl (by omega) (by omega),Jz h hb]
   ·rw[if_neg (by simpa using hb)]
    simp only[bs,ol]
    rw[AC8 y hy _ i rfl hi,Nf h hb]
    have g1:=Sh y (i+1)
    have g2:=Yj y (i+1) (by omega)
    generalize hE:Ep y (i+1)=E at g1 g2
    simp only[bs,ol,Int.toNat_natCast]
    rw[if_pos (by omega:(i:Int)≤(E:Int)),if_pos (by omega:(E:Int)≤(y.length:Int)),if_pos (Rv (by omega)),O1 (i:=i) (by omega)]
    refine Eq.trans (ih (y.length - E) (by omega) E (acc++[(⟨(y.take E).drop i,(i:Int)+1⟩:Ad)]) rfl (by omega) (by simp;omega)) ?_
    rw[O2 h hb,hE,List.append_assoc]
    rfl
def D1 (s:List UInt8):Nat:=if Lib.indexByte s 35 < 0 then s.length else(Lib.indexByte s 35).toNat
theorem Yc (s:List UInt8):D1 s≤s.length:=by
 unfold D1
 split
 ·exact Nat.le_refl _
 ·rename_i h
  obtain⟨o,ho⟩:=Int.eq_ofNat_of_zero_le (by omega:0≤Lib.indexByte s 35)
  rw[ho,Int.toNat_natCast]
  exact Nat.le_of_lt (List.getElem?_eq_some_iff.1 (Lib.indexByte_some ho).1).1
theorem ac {s:List UInt8} {j:Nat} (h:s[j]?≠some 35):A0 s j≠35:=by
 unfold A0
 split
 ·rename_i b hb
  intro e
  apply h
  rw[hb]
  congr 1
  apply UInt8.toNat_inj.1
  show b.toNat=35
  omega
 ·decide
theorem cutN_lt {s:List UInt8} {j:Nat} (h:j < D1 s):A0 s j≠35:=by
 unfold D1 at h
 split at h
 ·rename_i hc
  have:=Lib.indexByte_ge s 35
  exact ac (Lib.indexByte_none (by omega) j)
 ·rename_i hc
  obtain⟨o,ho⟩:=Int.eq_ofNat_of_zero_le (by omega:0≤Lib.indexByte s 35)
  rw[ho,Int.toNat_natCast]at h
  exact ac ((Lib.indexByte_some ho).2 j h)
theorem mb {s:List UInt8} (h:D1 s < s.length):A0 s (D1 s)=35:=by
 unfold D1 at h ⊢
 split at h
 ·exact absurd h (Nat.lt_irrefl _)
 ·rename_i hc
  rw[if_neg hc]
  obtain⟨o,ho⟩:=Int.eq_ofNat_of_zero_le (by omega:0≤Lib.indexByte s 35)
  rw[ho,Int.toNat_natCast]
  have:=(Lib.indexByte_some ho).1
  unfold A0
  rw[this]
  rfl
theorem cut_eq (s:List UInt8) (hs:s.length≤1000):∃ r,Px s [35]=some (s.take (D1 s),r):=by
 rw[A120,A144]
 have hI:V6 s [35]=some (Lib.indexByte s 35):=rfl
 rw[hI]
 simp only[bs]
 unfold D1
 by_cases h:Lib.indexByte s 35 < 0
 ·rw[if_neg (by simpa using h),if_pos h,List.take_length]
  exact⟨_,rfl⟩
 ·have hle:=Yc s
  unfold D1 at hle
  rw[if_neg h]at hle
  rw[if_pos (by simpa using h),if_neg h,if_pos (by omega),if_pos (by omega)]
  obtain⟨o,ho⟩:=Int.eq_ofNat_of_zero_le (by omega:0≤Lib.indexByte s 35)
  have hlt:=(List.getElem?_eq_some_iff.1 (Lib.indexByte_some ho).1).1
  rw[ho]
  have:IntKind.wrap .i64 ((o:Int)+(([35]:List UInt8).length:Int))=(o:Int)+1:=Bh (by simp;omega) (by simp;omega)
  rw[this,if_pos (by omega),if_pos (by omega)]
  exact⟨_,rfl⟩
def Y9 (s:List UInt8) (i:Nat):Bool:=decide (A0 s i < 32) || decide (126 < A0 s i)
def D4 (s:List UInt8):List Ad×Int×Int :=
 if 200 < s.length then([],201,3)else(D2 (fun i=>if Y9 s i=true then some ([],(i:Int)+1,4)else none) s.length).getD (Bx (s.take (D1 s)) 0,0,0)
theorem Split_p (s:List UInt8):mn s=some (D4 s):=by
 rw[A81]
 unfold D4
 by_cases h:200 < s.length
 ·rw[if_pos (by simpa using (by omega:(200:Int) < (s.length:Int))),if_pos h]
  rfl
 ·rw[if_neg (by simpa using (by omega:¬ (200:Int) < (s.length:Int))),if_neg h]
  simp only[bs,ol]
  obtain⟨r,hr⟩:=cut_eq s (by omega)
  have hz:=outer (s.take (D1 s)) (by simp;omega) _ 0 [] rfl (Nat.zero_le _) (Nat.le_refl _)
  refine(So s.length (fun i=>if Y9 s i=true then some (([]:List Ad),(i:Int)+1,(4:Int))else none) (z:=some (Bx (s.take (D1 s)) 0,0,0)) (fun i hi=>?_) ?_ ?_).trans j7
  ·have hl:(i:Int) < (s.length:Int):=by omega
   simp only[fm,Int.toNat_natCast,hl,decide_true,if_true,show (0:Int)≤(i:Int) from by omega,forall_const,implies_true,O1 (i:=i) (by omega),Si,Pq,Mm]
   rfl
  ·simp only[fm,Int.lt_irrefl,decide_false,Bool.false_eq_true,if_false]
  ·rw[hr]
   simp only[bs,ol]
   rw[show ((0:Nat):Int)=0 from rfl,List.nil_append]at hz
   rw[hz]
   rfl
theorem r8loop (x : List UInt8) (hx : x.length ≤ 1000) : ∀ (k i : Nat) (acc : List Ad), D1 x - i = k → i ≤ D1 x → acc.length ≤ i →
    Am (Eu x) (acc, -1, (i : Int)) = some (.inl (acc ++ Bx (x.take (D1 x)) i)) ∧
    ∀ b : Nat, b < i → Am (Eu x) (acc, (b : Int), (i : Int)) = some (.inl (acc ++ ⟨((x.take (D1 x)).take (Ep (x.take (D1 x)) i)).drop b, (b : Int) + 1⟩ :: Bx (x.take (D1 x)) (Ep (x.take (D1 x)) i))) := by
  have hN := Yc x
  have hlt := fun {j} => @cutN_lt x j
  have hat := @mb x
  generalize hNe : D1 x = N at hN hlt hat
  have hyl : (x.take N).length = N := by simp; omega
  have hby : ∀ {j}, j < N → A0 (x.take N) j = A0 x j := fun h => kt h
  generalize hye : x.take N = y at hyl hby
  have htk : ∀ {e : Nat}, e ≤ N → y.take e = x.take e := fun {e} h => by rw [← hye, List.take_take]; congr 1; omega
  have fin : ∀ acc : List Ad, Am (Eu x) (acc, -1, ((x.length + 1 : Nat) : Int)) = some (.inl acc) := fun acc => Be (by
    simp only [Eu]
    rw [if_neg (by simpa using (by omega : ¬ (((x.length + 1 : Nat) : Int) ≤ (x.length : Int))))])
  intro k
  induction k with
  | zero =>
    intro i acc hk hi ha
    obtain rfl : i = N := by omega
    have hle : ((i : Int) ≤ (x.length : Int)) := by omega
    rw [Fp (by omega), L0 (fun h => absurd h (by omega)), Fp (by omega)]
    have hend : ((((i : Int) == (x.length : Int)) || ((A0 x i) == 32)) || ((A0 x i) == 35)) = true := by
      rcases Nat.eq_or_lt_of_le hN with e | h
      · simp [e]
      · simp [hat h]
    have g1 : (!((i : Int) == (x.length : Int))) = true → (i : Int) < (x.length : Int) := fun h => by
      have : ¬ ((i : Int) = (x.length : Int)) := by simpa using h
      omega
    have g2 : (!(((i : Int) == (x.length : Int)) || ((A0 x i) == 32))) = true → (i : Int) < (x.length : Int) := fun h => by
      apply g1
      cases hc : ((i : Int) == (x.length : Int)) with
      | true => rw [hc] at h; simp at h
      | false => rfl
    constructor
    · rcases Nat.eq_or_lt_of_le hN with e | h
      · refine Bg (s' := (acc, -1, ((i + 1 : Nat) : Int))) ?_ (by rw [e, fin acc, List.append_nil])
        simp only [Eu, Int.toNat_natCast, hle, decide_true, if_true, show (0 : Int) ≤ (i : Int) from by omega, implies_true, if_pos g1, if_pos g2, hend, Bool.not_true, Bool.false_and, Bool.false_eq_true, if_false, Bool.true_and]
        rw [if_neg (by decide : ¬ ((decide ((0 : Int) ≤ -1)) = true)), if_pos (fun h => by have : (i : Int) < (x.length : Int) := by simpa using h
                                                                                           exact this), if_neg (by simp [e]), wn (by omega)]
      · rw [List.append_nil]
        refine Be ?_
        have hlt2 : (i : Int) < (x.length : Int) := by omega
        simp only [Eu, Int.toNat_natCast, hle, decide_true, if_true, show (0 : Int) ≤ (i : Int) from by omega, implies_true, if_pos g1, if_pos g2, hend, Bool.not_true, Bool.false_and, Bool.false_eq_true, if_false, Bool.true_and]
        rw [if_neg (by decide : ¬ ((decide ((0 : Int) ≤ -1)) = true))]
        simp only [hlt2, decide_true, forall_const, if_true, Bool.true_and, hat h, beq_self_eq_true]
    · intro b hb
      rw [htk (Nat.le_refl _)]
      rcases Nat.eq_or_lt_of_le hN with e | h
      · refine Bg (s' := (acc ++ [(⟨(x.take i).drop b, (b : Int) + 1⟩ : Ad)], -1, ((i + 1 : Nat) : Int))) ?_ (by rw [e, fin])
        simp only [Eu, Int.toNat_natCast, hle, decide_true, if_true, show (0 : Int) ≤ (i : Int) from by omega, show (0 : Int) ≤ (b : Int) from by omega, implies_true, if_pos g1, if_pos g2, hend, Bool.not_true, Bool.false_and, Bool.false_eq_true, if_false, Bool.true_and]
        rw [if_pos (by omega : (b : Int) ≤ (i : Int)), if_pos (Rv (by omega)), O1 (i := b) (by omega), if_pos (fun h => by have : (i : Int) < (x.length : Int) := by simpa using h
                                                                                                                           exact this), if_neg (by simp [e]), wn (by omega)]
      · refine Be ?_
        have hlt2 : (i : Int) < (x.length : Int) := by omega
        simp only [Eu, Int.toNat_natCast, hle, decide_true, if_true, show (0 : Int) ≤ (i : Int) from by omega, show (0 : Int) ≤ (b : Int) from by omega, implies_true, if_pos g1, if_pos g2, hend, Bool.not_true, Bool.false_and, Bool.false_eq_true, if_false, Bool.true_and]
        rw [if_pos (by omega : (b : Int) ≤ (i : Int)), if_pos (Rv (by omega)), O1 (i := b) (by omega)]
        simp only [hlt2, decide_true, forall_const, if_true, Bool.true_and, hat h, beq_self_eq_true]
  | succ k ih =>
    intro i acc hk hi ha
    have h : i < N := by omega
    have hle : ((i : Int) ≤ (x.length : Int)) := by omega
    have hlt2 : ((i : Int) < (x.length : Int)) := by omega
    have hne : ((i : Int) == (x.length : Int)) = false := by simp; omega
    have h35 : ((A0 x i) == 35) = false := by simpa using hlt h
    obtain ⟨ih1, ih2⟩ := ih (i + 1) acc (by omega) (by omega) (by omega)
    by_cases hb : A0 x i = 32
    · have e32 : ((A0 x i) == 32) = true := by simpa using hb
      constructor
      · refine Bg (s' := (acc, -1, ((i + 1 : Nat) : Int))) ?_ (by rw [ih1, Jz (i := i) (by omega) (by rw [hby h]; exact hb)])
        simp only [Eu, Int.toNat_natCast, hle, hlt2, hne, e32, h35, decide_true, if_true, show (0 : Int) ≤ (i : Int) from by omega, implies_true, Bool.or_true, Bool.true_or, Bool.or_false, Bool.false_or, Bool.not_true, Bool.false_and, Bool.false_eq_true, if_false, Bool.true_and, Bool.and_false, forall_const]
        rw [if_neg (by decide : ¬ ((decide ((0 : Int) ≤ -1)) = true)), wn (by omega)]
      · intro b hbi
        refine Bg (s' := (acc ++ [(⟨(x.take i).drop b, (b : Int) + 1⟩ : Ad)], -1, ((i + 1 : Nat) : Int))) ?_ ?_
        · simp only [Eu, Int.toNat_natCast, hle, hlt2, hne, e32, h35, decide_true, if_true, show (0 : Int) ≤ (i : Int) from by omega, show (0 : Int) ≤ (b : Int) from by omega, implies_true, Bool.or_true, Bool.true_or, Bool.or_false, Bool.false_or, Bool.not_true, Bool.false_and, Bool.false_eq_true, if_false, Bool.true_and, Bool.and_false, forall_const]
          rw [if_pos (by omega : (b : Int) ≤ (i : Int)), if_pos (Rv (by omega)), O1 (i := b) (by omega), wn (i := i) (by omega)]
        · rw [L0 (fun _ => by rw [hby h]; exact hb), htk (by omega), Jz (i := i) (by omega) (by rw [hby h]; exact hb)]
          rw [(ih (i + 1) (acc ++ [(⟨(x.take i).drop b, (b : Int) + 1⟩ : Ad)]) (by omega) (by omega) (by simp; omega)).1, List.append_assoc]
          rfl
    · have e32 : ((A0 x i) == 32) = false := by simpa using hb
      constructor
      · refine Bg (s' := (acc, (i : Int), ((i + 1 : Nat) : Int))) ?_ (by rw [(ih2 i (by omega)), O2 (i := i) (by omega) (by rw [hby h]; exact hb)])
        simp only [Eu, Int.toNat_natCast, hle, hlt2, hne, e32, h35, decide_true, if_true, show (0 : Int) ≤ (i : Int) from by omega, implies_true, Bool.or_false, Bool.not_false, Bool.false_and, Bool.false_eq_true, if_false, Bool.true_and, Bool.and_false, forall_const, show decide ((-1 : Int) < 0) = true from by decide]
        rw [wn (by omega)]
      · intro b hbi
        refine Bg (s' := (acc, (b : Int), ((i + 1 : Nat) : Int))) ?_ (by rw [ih2 b (by omega), Nf (i := i) (by omega) (by rw [hby h]; exact hb)])
        have hb0 : decide ((b : Int) < 0) = false := by simp
        simp only [Eu, Int.toNat_natCast, hle, hlt2, hne, e32, h35, hb0, decide_true, if_true, show (0 : Int) ≤ (i : Int) from by omega, show (0 : Int) ≤ (b : Int) from by omega, implies_true, Bool.or_false, Bool.not_false, Bool.false_and, Bool.false_eq_true, if_false, Bool.true_and, Bool.and_false, forall_const]
        rw [wn (by omega)]
theorem Split_r (s:List UInt8):mr s=some (D4 s):=by
 rw[A90]
 unfold D4
 by_cases h:200 < s.length
 ·rw[if_pos (by simpa using (by omega:(200:Int) < (s.length:Int))),if_pos h]
  rfl
 ·rw[if_neg (by simpa using (by omega:¬ (200:Int) < (s.length:Int))),if_neg h]
  simp only[bs,ol]
  have hz:=(r8loop s (by omega) _ 0 [] rfl (Nat.zero_le _) (Nat.le_refl _)).1
  refine(So s.length (fun i=>if Y9 s i=true then some (([]:List Ad),(i:Int)+1,(4:Int))else none) (z:=some (Bx (s.take (D1 s)) 0,0,0)) (fun i hi=>?_) ?_ ?_).trans j7
  ·have hl:(i:Int) < (s.length:Int):=by omega
   simp only[fo,Int.toNat_natCast,hl,decide_true,if_true,show (0:Int)≤(i:Int) from by omega,forall_const,implies_true,O1 (i:=i) (by omega),Si,Pq,Mm]
   rfl
  ·simp only[fo,Int.lt_irrefl,decide_false,Bool.false_eq_true,if_false]
  ·rw[show ((0:Nat):Int)=0 from rfl,List.nil_append]at hz
   simp only[bs,ol,hz]
end Go.Av.Txs
set_option maxRecDepth 100000
namespace Go.Av.Txs
open Go.Av
theorem M30o0 (a0:List UInt8):Q0 a0=((Option.bind (if(decide (262144 < (a0.length:Int)))=true then(some (.inr ((([(⟨(1:Int),(1:Int),(3:Int)⟩:Ac)]:List Ac),[]))))else(some (.inl ()))) (Af fun(_:Unit)=>(Option.bind (Option.bind (Option.bind (Option.bind (wv a0 ([10]:List UInt8)) fun r=>some r) fun x5=>(some (.inl (x5,(x5.length:Int))))) (Af fun(y1:(List (List UInt8))×Int)=>(Am (fun(s2:(List A4)×(List Ac)×Int)=>((if(decide (s2.2.2 < y1.2))=true then(if(0≤s2.2.2)then(if(s2.2.2 < (y1.1.length:Int))then(Option.bind (Option.bind (mn (y1.1.getD s2.2.2.toNat default)) fun r=>some r) fun x8=>(if(x8.2.2 != 0)=true then(if(decide ((s2.2.1.length:Int) < (50:Int)))=true then(if((s2.2.1.length+1) * 24≤140737488355328)then(some (.inl (s2.1,(s2.2.1++([(⟨(IntKind.wrap .i64 (s2.2.2+1)),x8.2.1,x8.2.2⟩:Ac)]:List Ac)),(IntKind.wrap .i64 (s2.2.2+1)))))else none)else(some (.inl (s2.1,s2.2.1,(IntKind.wrap .i64 (s2.2.2+1))))))else(if(decide (0 < (x8.1.length:Int)))=true then(if((s2.1.length+1) * 32≤140737488355328)then(some (.inl ((s2.1++([(⟨(IntKind.wrap .i64 (s2.2.2+1)),x8.1⟩:A4)]:List A4)),s2.2.1,(IntKind.wrap .i64 (s2.2.2+1)))))else none)else(some (.inl (s2.1,s2.2.1,(IntKind.wrap .i64 (s2.2.2+1))))))))else none)else none)else(some (.inr (.inl (s2.1,s2.2.1))))):Option (((List A4)×(List Ac)×Int)⊕(((List A4)×(List Ac))⊕((List Ac)×(List A4)))))) ([],[],(0:Int))))) (Af fun(y3:(List A4)×(List Ac))=>(some (y3.2,y3.1)))))):Option ((List Ac)×(List A4))):=by kernel_rfl
abbrev AAX (y1:(List (List UInt8))×Int):((List A4)×(List Ac)×Int)→Option (((List A4)×(List Ac)×Int)⊕(((List A4)×(List Ac))⊕((List Ac)×(List A4)))):=(fun(s2:(List A4)×(List Ac)×Int)=>((if(decide (s2.2.2 < y1.2))=true then(if(0≤s2.2.2)then(if(s2.2.2 < (y1.1.length:Int))then(Option.bind (Option.bind (mn (y1.1.getD s2.2.2.toNat default)) fun r=>some r) fun x8=>(if(x8.2.2 != 0)=true then(if(decide ((s2.2.1.length:Int) < (50:Int)))=true then(if((s2.2.1.length+1) * 24≤140737488355328)then(some (.inl (s2.1,(s2.2.1++([(⟨(IntKind.wrap .i64 (s2.2.2+1)),x8.2.1,x8.2.2⟩:Ac)]:List Ac)),(IntKind.wrap .i64 (s2.2.2+1)))))else none)else(some (.inl (s2.1,s2.2.1,(IntKind.wrap .i64 (s2.2.2+1))))))else(if(decide (0 < (x8.1.length:Int)))=true then(if((s2.1.length+1) * 32≤140737488355328)then(some (.inl ((s2.1++([(⟨(IntKind.wrap .i64 (s2.2.2+1)),x8.1⟩:A4)]:List A4)),s2.2.1,(IntKind.wrap .i64 (s2.2.2+1)))))else none)else(some (.inl (s2.1,s2.2.1,(IntKind.wrap .i64 (s2.2.2+1))))))))else none)else none)else(some (.inr (.inl (s2.1,s2.2.1))))):Option (((List A4)×(List Ac)×Int)⊕(((List A4)×(List Ac))⊕((List Ac)×(List A4))))))
theorem A30o0  (a0:List UInt8):Q0 a0=((Option.bind (if(decide (262144 < (a0.length:Int)))=true then(some (.inr ((([(⟨(1:Int),(1:Int),(3:Int)⟩:Ac)]:List Ac),[]))))else(some (.inl ()))) (Af fun(_:Unit)=>(Option.bind (Option.bind (Option.bind (Option.bind (wv a0 ([10]:List UInt8)) fun r=>some r) fun x5=>(some (.inl (x5,(x5.length:Int))))) (Af fun(y1:(List (List UInt8))×Int)=>(Am (AAX y1) ([],[],(0:Int))))) (Af fun(y3:(List A4)×(List Ac))=>(some (y3.2,y3.1)))))):Option ((List Ac)×(List A4))):=M30o0 _
theorem M33o0 (a0:List UInt8):Q1 a0=((Option.bind (if(decide (262144 < (a0.length:Int)))=true then(some (.inr ((([(⟨(1:Int),(1:Int),(3:Int)⟩:Ac)]:List Ac),[]))))else(some (.inl ()))) (Af fun(_:Unit)=>(Option.bind (Option.bind (Option.bind (Option.bind (mq a0) fun r=>some r) fun x5=>(some (.inl (x5,(x5.length:Int))))) (Af fun(y1:(List (List UInt8))×Int)=>(Am (fun(s2:(List A4)×(List Ac)×Int)=>((if(decide (s2.2.2 < y1.2))=true then(if(0≤s2.2.2)then(if(s2.2.2 < (y1.1.length:Int))then(Option.bind (Option.bind (mr (y1.1.getD s2.2.2.toNat default)) fun r=>some r) fun x8=>(if(x8.2.2 != 0)=true then(if(decide ((s2.2.1.length:Int) < (50:Int)))=true then(if((s2.2.1.length+1) * 24≤140737488355328)then(some (.inl (s2.1,(s2.2.1++([(⟨(IntKind.wrap .i64 (s2.2.2+1)),x8.2.1,x8.2.2⟩:Ac)]:List Ac)),(IntKind.wrap .i64 (s2.2.2+1)))))else none)else(some (.inl (s2.1,s2.2.1,(IntKind.wrap .i64 (s2.2.2+1))))))else(if(decide (0 < (x8.1.length:Int)))=true then(if((s2.1.length+1) * 32≤140737488355328)then(some (.inl ((s2.1++([(⟨(IntKind.wrap .i64 (s2.2.2+1)),x8.1⟩:A4)]:List A4)),s2.2.1,(IntKind.wrap .i64 (s2.2.2+1)))))else none)else(some (.inl (s2.1,s2.2.1,(IntKind.wrap .i64 (s2.2.2+1))))))))else none)else none)else(some (.inr (.inl (s2.1,s2.2.1))))):Option (((List A4)×(List Ac)×Int)⊕(((List A4)×(List Ac))⊕((List Ac)×(List A4)))))) ([],[],(0:Int))))) (Af fun(y3:(List A4)×(List Ac))=>(some (y3.2,y3.1)))))):Option ((List Ac)×(List A4))):=by kernel_rfl
abbrev AAY (y1:(List (List UInt8))×Int):((List A4)×(List Ac)×Int)→Option (((List A4)×(List Ac)×Int)⊕(((List A4)×(List Ac))⊕((List Ac)×(List A4)))):=(fun(s2:(List A4)×(List Ac)×Int)=>((if(decide (s2.2.2 < y1.2))=true then(if(0≤s2.2.2)then(if(s2.2.2 < (y1.1.length:Int))then(Option.bind (Option.bind (mr (y1.1.getD s2.2.2.toNat default)) fun r=>some r) fun x8=>(if(x8.2.2 != 0)=true then(if(decide ((s2.2.1.length:Int) < (50:Int)))=true then(if((s2.2.1.length+1) * 24≤140737488355328)then(some (.inl (s2.1,(s2.2.1++([(⟨(IntKind.wrap .i64 (s2.2.2+1)),x8.2.1,x8.2.2⟩:Ac)]:List Ac)),(IntKind.wrap .i64 (s2.2.2+1)))))else none)else(some (.inl (s2.1,s2.2.1,(IntKind.wrap .i64 (s2.2.2+1))))))else(if(decide (0 < (x8.1.length:Int)))=true then(if((s2.1.length+1) * 32≤140737488355328)then(some (.inl ((s2.1++([(⟨(IntKind.wrap .i64 (s2.2.2+1)),x8.1⟩:A4)]:List A4)),s2.2.1,(IntKind.wrap .i64 (s2.2.2+1)))))else none)else(some (.inl (s2.1,s2.2.1,(IntKind.wrap .i64 (s2.2.2+1))))))))else none)else none)else(some (.inr (.inl (s2.1,s2.2.1))))):Option (((List A4)×(List Ac)×Int)⊕(((List A4)×(List Ac))⊕((List Ac)×(List A4))))))
theorem A33o0  (a0:List UInt8):Q1 a0=((Option.bind (if(decide (262144 < (a0.length:Int)))=true then(some (.inr ((([(⟨(1:Int),(1:Int),(3:Int)⟩:Ac)]:List Ac),[]))))else(some (.inl ()))) (Af fun(_:Unit)=>(Option.bind (Option.bind (Option.bind (Option.bind (mq a0) fun r=>some r) fun x5=>(some (.inl (x5,(x5.length:Int))))) (Af fun(y1:(List (List UInt8))×Int)=>(Am (AAY y1) ([],[],(0:Int))))) (Af fun(y3:(List A4)×(List Ac))=>(some (y3.2,y3.1)))))):Option ((List Ac)×(List A4))):=M33o0 _
theorem vi {x:List UInt8} {i:Nat} (h:i < x.length):((A0 x i)==10)=true↔x[i]=10:=by
 unfold A0
 rw[List.getElem?_eq_getElem h]
 simp only[beq_iff_eq]
 constructor
 ·intro e;apply UInt8.toNat_inj.1;show (x[i]).toNat=10;omega
 ·intro e;rw[e];rfl
theorem tb (x:List UInt8) (hx:x.length≤300000):∀ (k i b:Nat) (acc:List (List UInt8)),x.length - i=k→i≤x.length→b≤i→acc.length≤i→(10:UInt8) ∉ (x.take i).drop b →
  Am (Mr x) (acc,(b:Int),(i:Int))=some (.inl (acc++Bm 10 (x.drop b))):=by
 have fin:∀ (acc:List (List UInt8)) (b:Int),Am (Mr x) (acc,b,((x.length+1:Nat):Int))=some (.inl acc):=fun acc b=>Be (by
  simp only[Mr]
  rw[if_neg (by simpa using (by omega:¬ (((x.length+1:Nat):Int)≤(x.length:Int))))])
 intro k
 induction k with
 | zero =>
  intro i b acc hk hi hb ha hn
  obtain rfl:i=x.length:=by omega
  refine Bg (s':=(acc++[(x.take x.length).drop b],((x.length+1:Nat):Int),((x.length+1:Nat):Int))) ?_ ?_
  ·simp only[Mr,Int.toNat_natCast,Int.le_refl,decide_true,if_true,beq_self_eq_true,Bool.not_true,Bool.false_eq_true,false_implies,Bool.true_or]
   rw[if_pos (by omega:(0:Int)≤(b:Int)),if_pos (by omega:(b:Int)≤(x.length:Int)),if_pos (Xu (by omega)),wn (by omega)]
  ·rw[fin,List.take_length]
   rw[List.take_length]at hn
   rw[ld hn]
 | succ k ih =>
  intro i b acc hk hi hb ha hn
  have h:i < x.length:=by omega
  have hle:(i:Int)≤(x.length:Int):=by omega
  have hlt:(i:Int) < (x.length:Int):=by omega
  have hne:((i:Int)==(x.length:Int))=false:=by simp;omega
  have ht:x.take (i+1)=x.take i++[x[i]]:=by rw[List.take_add_one,List.getElem?_eq_getElem h];rfl
  by_cases h10:((A0 x i)==10)=true
  ·refine Bg (s':=(acc++[(x.take i).drop b],((i+1:Nat):Int),((i+1:Nat):Int))) ?_ ?_
   ·simp only[Mr,Int.toNat_natCast,hle,hlt,hne,h10,decide_true,if_true,show (0:Int)≤(i:Int) from by omega,implies_true,Bool.or_true,forall_const]
    rw[if_pos (by omega:(0:Int)≤(b:Int)),if_pos (by omega:(b:Int)≤(i:Int)),if_pos (Xu (by omega)),wn (by omega)]
   ·rw[ih (i+1) (i+1) _ (by omega) (by omega) (Nat.le_refl _) (by simp;omega) (by rw[List.drop_eq_nil_of_le (by simp;omega)];exact List.not_mem_nil),List.append_assoc]
    have e:x.drop b=(x.take i).drop b++10 :: x.drop (i+1):=by
     conv=>lhs;rw[← List.take_append_drop i x]
     rw[List.drop_append_of_le_length (by simp;omega),List.drop_eq_getElem_cons h,(vi h).1 h10]
    rw[e,Um hn]
    rfl
  ·have h10':((A0 x i)==10)=false:=by simpa using h10
   refine Bg (s':=(acc,(b:Int),((i+1:Nat):Int))) ?_ (ih (i+1) b acc (by omega) (by omega) (by omega) (by omega) ?_)
   ·simp only[Mr,Int.toNat_natCast,hle,hlt,hne,h10',decide_true,if_true,show (0:Int)≤(i:Int) from by omega,implies_true,Bool.or_false,Bool.false_eq_true,if_false,forall_const]
    rw[wn (by omega)]
   ·rw[ht,List.drop_append_of_le_length (by simp;omega),List.mem_append]
    rintro(hm | hm)
    ·exact hn hm
    ·rw[List.mem_singleton]at hm
     exact h10 ((vi h).2 hm.symm)
theorem AA5 (x:List UInt8) (hx:x.length≤300000):mq x=some (Bm 10 x):=by
 rw[A89]
 have:=tb x hx _ 0 0 [] rfl (Nat.zero_le _) (Nat.le_refl _) (Nat.le_refl _) (by simp)
 rw[show ((0:Nat):Int)=0 from rfl,List.nil_append,List.drop_zero]at this
 simp only[bs,ol,this]
def M4 (i:Nat) (x:List UInt8) (o:List A4×List Ac):List A4×List Ac :=
 if(D4 x).2.2≠0 then(if o.2.length < 50 then(o.1,o.2++[⟨(i:Int)+1,(D4 x).2.1,(D4 x).2.2⟩])else o)
 else if 0 < (D4 x).1.length then(o.1++[⟨(i:Int)+1,(D4 x).1⟩],o.2)else o
def Ct (l:List (List UInt8)):Nat→List A4×List Ac
 | 0=>([],[])
 | n+1=>M4 n (l.getD n []) (Ct l n)
theorem Nv (l:List (List UInt8)):∀ n,(Ct l n).1.length≤n∧(Ct l n).2.length≤50
 | 0=>⟨Nat.le_refl _,Nat.zero_le _⟩
 | n+1=>by
  obtain⟨h1,h2⟩:=Nv l n
  unfold Ct M4
  split
  ·split
   ·exact⟨by simp;omega,by simp;omega⟩
   ·exact⟨by omega,h2⟩
  ·split
   ·exact⟨by simp;omega,h2⟩
   ·exact⟨by omega,h2⟩
theorem bg (l:List (List UInt8)) (hl:l.length≤300001) {b:List A4×List Ac×Int→Option ((List A4×List Ac×Int)⊕((List A4×List Ac)⊕(List Ac×List A4)))} (f:List UInt8→Option (List Ad×Int×Int)) (hf:∀ x,f x=some (D4 x))
  (hb:b=(fun(s2:(List A4)×(List Ac)×Int)=>((if(decide (s2.2.2 < (l.length:Int)))=true then(if(0≤s2.2.2)then(if(s2.2.2 < (l.length:Int))then(Option.bind (Option.bind (f (l.getD s2.2.2.toNat default)) fun r=>some r) fun x8=>(if(x8.2.2 != 0)=true then(if(decide ((s2.2.1.length:Int) < (50:Int)))=true then(if((s2.2.1.length+1) * 24≤140737488355328)then(some (.inl (s2.1,(s2.2.1++([(⟨(IntKind.wrap .i64 (s2.2.2+1)),x8.2.1,x8.2.2⟩:Ac)]:List Ac)),(IntKind.wrap .i64 (s2.2.2+1)))))else none)else(some (.inl (s2.1,s2.2.1,(IntKind.wrap .i64 (s2.2.2+1))))))else(if(decide (0 < (x8.1.length:Int)))=true then(if((s2.1.length+1) * 32≤140737488355328)then(some (.inl ((s2.1++([(⟨(IntKind.wrap .i64 (s2.2.2+1)),x8.1⟩:A4)]:List A4)),s2.2.1,(IntKind.wrap .i64 (s2.2.2+1)))))else none)else(some (.inl (s2.1,s2.2.1,(IntKind.wrap .i64 (s2.2.2+1))))))))else none)else none)else(some (.inr (.inl (s2.1,s2.2.1))))):Option (((List A4)×(List Ac)×Int)⊕(((List A4)×(List Ac))⊕((List Ac)×(List A4))))))) :
  Am b ([],[],(0:Int))=some (.inl (Ct l l.length)):=by
 have key:∀ k i,i+k=l.length→Am b ((Ct l i).1,(Ct l i).2,(i:Int))=some (.inl (Ct l l.length)):=by
  intro k
  induction k with
  | zero =>
   intro i hi
   obtain rfl:i=l.length:=by omega
   refine Be ?_
   rw[hb]
   simp only[Int.lt_irrefl,decide_false,Bool.false_eq_true,if_false]
  | succ k ih =>
   intro i hi
   obtain⟨h1,h2⟩:=Nv l i
   refine Bg (s':=((Ct l (i+1)).1,(Ct l (i+1)).2,((i+1:Nat):Int))) ?_ (ih (i+1) (by omega))
   have hlt:(i:Int) < (l.length:Int):=by omega
   rw[hb]
   simp only[Int.toNat_natCast,hlt,decide_true,if_true,show (0:Int)≤(i:Int) from by omega,hf,bs]
   rw[O1 (i:=i) (by omega)]
   show _=some (Sum.inl ((M4 i (l.getD i []) (Ct l i)).1,(M4 i (l.getD i []) (Ct l i)).2,((i+1:Nat):Int)))
   rw[show ((i+1:Nat):Int)=(i:Int)+1 from by omega,show (default:List UInt8)=[] from rfl]
   unfold M4
   generalize D4 (l.getD i [])=G
   generalize Ct l i=O at h1 h2 ⊢
   by_cases c1:G.2.2=0
   ·rw[show (G.2.2 != 0)=false from by simp[c1],if_neg (by decide:¬ (false=true)),if_neg (show ¬ (G.2.2≠0) from fun h=>h c1)]
    by_cases c2:0 < G.1.length
    ·rw[if_pos (show decide ((0:Int) < (G.1.length:Int))=true from by simpa using c2),if_pos (size32 (by omega)),if_pos c2]
    ·rw[if_neg (show ¬ decide ((0:Int) < (G.1.length:Int))=true from by simpa using c2),if_neg c2]
   ·rw[show (G.2.2 != 0)=true from by simp[c1],if_pos (rfl:true=true),if_pos (show G.2.2≠0 from c1)]
    by_cases c2:O.2.length < 50
    ·rw[if_pos (show decide ((O.2.length:Int) < (50:Int))=true from by simpa using (by omega:(O.2.length:Int) < 50)),if_pos (Rv (by omega)),if_pos c2]
    ·rw[if_neg (show ¬ decide ((O.2.length:Int) < (50:Int))=true from by simpa using (by omega:¬ (O.2.length:Int) < 50)),if_neg c2]
 exact key l.length 0 (by omega)
def Dn (s:List UInt8):List Ac×List A4 :=
 if 262144 < s.length then([⟨1,1,3⟩],[])else((Ct (Bm 10 s) (Bm 10 s).length).2,(Ct (Bm 10 s) (Bm 10 s).length).1)
theorem Rx (s:List UInt8):(Bm 10 s).length≤s.length+1:=by
 rw[Xw]
 have:=List.count_le_length (a:=(10:UInt8)) (l:=s)
 omega
theorem Read_p (s:List UInt8):Q0 s=some (Dn s):=by
 rw[A30o0]
 unfold Dn
 by_cases h:262144 < s.length
 ·rw[if_pos (by simpa using (by omega:(262144:Int) < (s.length:Int))),if_pos h];rfl
 ·rw[if_neg (by simpa using (by omega:¬ (262144:Int) < (s.length:Int))),if_neg h]
  simp only[bs,ol]
  rw[AA6 s 10 (by omega)]
  simp only[bs,ol]
  have hl:=Rx s
  rw[bg (Bm 10 s) (by omega) _ Split_p rfl]
  rfl
theorem Read_r (s:List UInt8):Q1 s=some (Dn s):=by
 rw[A33o0]
 unfold Dn
 by_cases h:262144 < s.length
 ·rw[if_pos (by simpa using (by omega:(262144:Int) < (s.length:Int))),if_pos h];rfl
 ·rw[if_neg (by simpa using (by omega:¬ (262144:Int) < (s.length:Int))),if_neg h]
  simp only[bs,ol]
  rw[AA5 s (by omega)]
  simp only[bs,ol]
  have hl:=Rx s
  rw[bg (Bm 10 s) (by omega) _ Split_r rfl]
  rfl
structure Dd (L:A4):Prop where
 num:1≤L.Ae∧L.Ae≤300001
 ne:0 < L.A5.length
 len:L.A5.length≤200
 fld:∀ f∈L.A5,1≤f.Aj∧f.Aj≤200∧f.Text.length≤200
theorem up (y:List UInt8) (hy:y.length≤200):∀ (k i:Nat),y.length - i=k→(Bx y i).length≤k∧∀ f∈Bx y i,1≤f.Aj∧f.Aj≤200∧f.Text.length≤200:=by
 intro k
 induction k using Nat.strongRecOn with
 | _ k ih =>
  intro i hk
  by_cases h:i < y.length
  ·by_cases hb:A0 y i=32
   ·rw[Jz h hb]
    obtain⟨h1,h2⟩:=ih (k - 1) (by omega) (i+1) (by omega)
    exact⟨by omega,h2⟩
   ·rw[O2 h hb]
    have g1:=Sh y (i+1)
    have g2:=Yj y (i+1) (by omega)
    obtain⟨h1,h2⟩:=ih (y.length - Ep y (i+1)) (by omega) _ rfl
    refine⟨by rw[List.length_cons];omega,fun f hf=>?_⟩
    rcases List.mem_cons.1 hf with rfl | hf
    ·exact⟨by show (1:Int)≤(i:Int)+1;omega,by show (i:Int)+1≤200;omega,by simp;omega⟩
    ·exact h2 f hf
  ·rw[Fp (by omega)]
   exact⟨Nat.zero_le _,fun f hf=>absurd hf List.not_mem_nil⟩
theorem zk (x : List UInt8) : (D4 x).1.length ≤ 200 ∧ ∀ f ∈ (D4 x).1, 1 ≤ f.Aj ∧ f.Aj ≤ 200 ∧ f.Text.length ≤ 200 := by
  unfold D4
  split
  · exact ⟨Nat.zero_le _, fun f hf => absurd hf List.not_mem_nil⟩
  · cases hc : D2 (fun i => if Y9 x i = true then some (([] : List Ad), (i : Int) + 1, (4 : Int)) else none) x.length with
    | none =>
      obtain ⟨h1, h2⟩ := up (x.take (D1 x)) (by simp; omega) _ 0 rfl
      exact ⟨by simp only [Option.getD_none]; have : (x.take (D1 x)).length ≤ 200 := by simp; omega
                omega, h2⟩
    | some r =>
      obtain ⟨i, _, hi⟩ := Ua hc
      split at hi
      · injection hi with hi
        subst hi
        exact ⟨Nat.zero_le _, fun f hf => absurd hf List.not_mem_nil⟩
      · cases hi
theorem Qc (l:List (List UInt8)):∀ n,n≤300001→∀ L∈(Ct l n).1,Dd L
 | 0,_,L,h=>absurd h List.not_mem_nil
 | n+1,hn,L,h=>by
  unfold Ct M4 at h
  split at h
  ·split at h<;>exact Qc l n (by omega) L h
  ·split at h
   ·rename_i h0
    rcases List.mem_append.1 h with h | h
    ·exact Qc l n (by omega) L h
    ·rw[List.mem_singleton]at h
     subst h
     obtain⟨h1,h2⟩:=zk (l.getD n [])
     exact⟨⟨by show (1:Int)≤(n:Int)+1;omega,by show (n:Int)+1≤300001;omega⟩,h0,h1,h2⟩
   ·exact Qc l n (by omega) L h
theorem jk (s:List UInt8):(Dn s).2.length≤300001∧∀ L∈(Dn s).2,Dd L:=by
 unfold Dn
 split
 ·exact⟨Nat.zero_le _,fun L h=>absurd h List.not_mem_nil⟩
 ·have hl:=Rx s
  exact⟨by have:=(Nv (Bm 10 s) (Bm 10 s).length).1;show (Ct _ _).1.length≤_;omega,Qc _ _ (by omega)⟩
end Go.Av.Txs
set_option maxRecDepth 100000
namespace Go.Av.Txs
open Go.Av
theorem M146 (a0:List UInt8):Rg a0=((Option.bind (if((!((a0.length:Int)==(0:Int)))&&(decide (1 < (a0.length:Int))))=true→((0:Int)≤(0:Int))then(if((!((a0.length:Int)==(0:Int)))&&(decide (1 < (a0.length:Int))))=true→(0 < (a0.length:Int))then(if(((a0.length:Int)==(0:Int)) || ((decide (1 < (a0.length:Int)))&&((A0 a0 (0:Int).toNat)==48)))=true then(some (.inr (false)))else(some (.inl ())))else none)else none) (Af fun(_:Unit)=>(Option.bind (Option.bind (some (.inl ())) (Af fun(_:Unit)=>(Am (fun(s1:Int)=>((if(decide (s1 < (a0.length:Int)))=true then(if(0≤s1)then(if(s1 < (a0.length:Int))then(if(!(decide ((A0 a0 s1.toNat) < 48)))=true→(0≤s1)then(if(!(decide ((A0 a0 s1.toNat) < 48)))=true→(s1 < (a0.length:Int))then(if((decide ((A0 a0 s1.toNat) < 48)) || (decide (57 < (A0 a0 s1.toNat))))=true then(some (.inr (.inr (false))))else(some (.inl (IntKind.wrap .i64 (s1+1)))))else none)else none)else none)else none)else(some (.inr (.inl ())))):Option ((Int)⊕((Unit)⊕(Bool))))) (0:Int)))) (Af fun(_:Unit)=>(some true))))):Option (Bool)):=by kernel_rfl
abbrev Yl (a0:List UInt8):(Int)→Option ((Int)⊕((Unit)⊕(Bool))):=(fun(s1:Int)=>((if(decide (s1 < (a0.length:Int)))=true then(if(0≤s1)then(if(s1 < (a0.length:Int))then(if(!(decide ((A0 a0 s1.toNat) < 48)))=true→(0≤s1)then(if(!(decide ((A0 a0 s1.toNat) < 48)))=true→(s1 < (a0.length:Int))then(if((decide ((A0 a0 s1.toNat) < 48)) || (decide (57 < (A0 a0 s1.toNat))))=true then(some (.inr (.inr (false))))else(some (.inl (IntKind.wrap .i64 (s1+1)))))else none)else none)else none)else none)else(some (.inr (.inl ())))):Option ((Int)⊕((Unit)⊕(Bool)))))
theorem A146  (a0:List UInt8):Rg a0=((Option.bind (if((!((a0.length:Int)==(0:Int)))&&(decide (1 < (a0.length:Int))))=true→((0:Int)≤(0:Int))then(if((!((a0.length:Int)==(0:Int)))&&(decide (1 < (a0.length:Int))))=true→(0 < (a0.length:Int))then(if(((a0.length:Int)==(0:Int)) || ((decide (1 < (a0.length:Int)))&&((A0 a0 (0:Int).toNat)==48)))=true then(some (.inr (false)))else(some (.inl ())))else none)else none) (Af fun(_:Unit)=>(Option.bind (Option.bind (some (.inl ())) (Af fun(_:Unit)=>(Am (Yl a0) (0:Int)))) (Af fun(_:Unit)=>(some true))))):Option (Bool)):=M146 _
theorem M148 (a0:List UInt8):Py a0=((Option.bind (if((!((a0.length:Int)==(0:Int)))&&(decide (1 < (a0.length:Int))))=true→((0:Int)≤(0:Int))then(if((!((a0.length:Int)==(0:Int)))&&(decide (1 < (a0.length:Int))))=true→(0 < (a0.length:Int))then(if(((a0.length:Int)==(0:Int)) || ((decide (1 < (a0.length:Int)))&&((A0 a0 (0:Int).toNat)==48)))=true then(some (.inr (false)))else(some (.inl ())))else none)else none) (Af fun(_:Unit)=>(Option.bind (Option.bind (some (.inl ())) (Af fun(_:Unit)=>(Am (fun(s1:Int)=>((if(decide (s1 < (a0.length:Int)))=true then(if(0≤s1)then(if(s1 < (a0.length:Int))then(if(!(decide ((A0 a0 s1.toNat) < 48)))=true→(0≤s1)then(if(!(decide ((A0 a0 s1.toNat) < 48)))=true→(s1 < (a0.length:Int))then(if((decide ((A0 a0 s1.toNat) < 48)) || (decide (57 < (A0 a0 s1.toNat))))=true then(some (.inr (.inr (false))))else(some (.inl (IntKind.wrap .i64 (s1+1)))))else none)else none)else none)else none)else(some (.inr (.inl ())))):Option ((Int)⊕((Unit)⊕(Bool))))) (0:Int)))) (Af fun(_:Unit)=>(some true))))):Option (Bool)):=by kernel_rfl
abbrev Ym (a0:List UInt8):(Int)→Option ((Int)⊕((Unit)⊕(Bool))):=(fun(s1:Int)=>((if(decide (s1 < (a0.length:Int)))=true then(if(0≤s1)then(if(s1 < (a0.length:Int))then(if(!(decide ((A0 a0 s1.toNat) < 48)))=true→(0≤s1)then(if(!(decide ((A0 a0 s1.toNat) < 48)))=true→(s1 < (a0.length:Int))then(if((decide ((A0 a0 s1.toNat) < 48)) || (decide (57 < (A0 a0 s1.toNat))))=true then(some (.inr (.inr (false))))else(some (.inl (IntKind.wrap .i64 (s1+1)))))else none)else none)else none)else none)else(some (.inr (.inl ())))):Option ((Int)⊕((Unit)⊕(Bool)))))
theorem A148  (a0:List UInt8):Py a0=((Option.bind (if((!((a0.length:Int)==(0:Int)))&&(decide (1 < (a0.length:Int))))=true→((0:Int)≤(0:Int))then(if((!((a0.length:Int)==(0:Int)))&&(decide (1 < (a0.length:Int))))=true→(0 < (a0.length:Int))then(if(((a0.length:Int)==(0:Int)) || ((decide (1 < (a0.length:Int)))&&((A0 a0 (0:Int).toNat)==48)))=true then(some (.inr (false)))else(some (.inl ())))else none)else none) (Af fun(_:Unit)=>(Option.bind (Option.bind (some (.inl ())) (Af fun(_:Unit)=>(Am (Ym a0) (0:Int)))) (Af fun(_:Unit)=>(some true))))):Option (Bool)):=M148 _
theorem M145 (a0 a1:List UInt8):Rf a0 a1=((Option.bind (Option.bind (fv a0 a1) fun r=>some r) fun x1=>(some (x1.1,x1.2))):Option ((List UInt8)×Bool)):=by kernel_rfl
theorem A145  (a0 a1:List UInt8):Rf a0 a1=((Option.bind (Option.bind (fv a0 a1) fun r=>some r) fun x1=>(some (x1.1,x1.2))):Option ((List UInt8)×Bool)):=M145 _ _
theorem M164 (a0 a1:List UInt8):fv a0 a1=((Option.bind (Option.bind (fw a0 a1) fun r=>some r) fun x1=>(if(!x1)=true then(some (a0,false))else(if(0≤(a1.length:Int))then(if((a1.length:Int)≤(a0.length:Int))then(some ((a0.drop (a1.length:Int).toNat),true))else none)else none))):Option ((List UInt8)×Bool)):=by kernel_rfl
theorem A164  (a0 a1:List UInt8):fv a0 a1=((Option.bind (Option.bind (fw a0 a1) fun r=>some r) fun x1=>(if(!x1)=true then(some (a0,false))else(if(0≤(a1.length:Int))then(if((a1.length:Int)≤(a0.length:Int))then(some ((a0.drop (a1.length:Int).toNat),true))else none)else none))):Option ((List UInt8)×Bool)):=M164 _ _
theorem M176 (a0 a1:List UInt8):fw a0 a1=((if(decide ((a1.length:Int)≤(a0.length:Int)))=true→(0≤(a1.length:Int))then(if(decide ((a1.length:Int)≤(a0.length:Int)))=true→((a1.length:Int)≤(a0.length:Int))then(some ((decide ((a1.length:Int)≤(a0.length:Int)))&&((a0.take (a1.length:Int).toNat)==a1)))else none)else none):Option (Bool)):=by kernel_rfl
theorem A176  (a0 a1:List UInt8):fw a0 a1=((if(decide ((a1.length:Int)≤(a0.length:Int)))=true→(0≤(a1.length:Int))then(if(decide ((a1.length:Int)≤(a0.length:Int)))=true→((a1.length:Int)≤(a0.length:Int))then(some ((decide ((a1.length:Int)≤(a0.length:Int)))&&((a0.take (a1.length:Int).toNat)==a1)))else none)else none):Option (Bool)):=M176 _ _
theorem M124 (a0:List UInt8) (a1 a2:Int):Yn a0 a1 a2=((Option.bind (Option.bind (Rf a0 ([45]:List UInt8)) fun r=>some r) fun x1=>(Option.bind (Option.bind (Rg x1.1) fun r=>some r) fun x2=>(if((!x2) || (x1.2&&(x1.1==([48]:List UInt8))))=true then(some ((0:Int),(4:Int)))else(Option.bind (Option.bind (O9 a0 (10:Int) (64:Int)) fun r=>some r) fun x4=>(if((x4.2 || (decide (x4.1 < a1))) || (decide (a2 < x4.1)))=true then(some ((0:Int),(2:Int)))else(some (x4.1,(0:Int)))))))):Option (Int×Int)):=by kernel_rfl
theorem A124  (a0:List UInt8) (a1 a2:Int):Yn a0 a1 a2=((Option.bind (Option.bind (Rf a0 ([45]:List UInt8)) fun r=>some r) fun x1=>(Option.bind (Option.bind (Rg x1.1) fun r=>some r) fun x2=>(if((!x2) || (x1.2&&(x1.1==([48]:List UInt8))))=true then(some ((0:Int),(4:Int)))else(Option.bind (Option.bind (O9 a0 (10:Int) (64:Int)) fun r=>some r) fun x4=>(if((x4.2 || (decide (x4.1 < a1))) || (decide (a2 < x4.1)))=true then(some ((0:Int),(2:Int)))else(some (x4.1,(0:Int)))))))):Option (Int×Int)):=M124 _ _ _
theorem M128 (a0:List UInt8) (a1 a2:Int):Yo a0 a1 a2=((Option.bind (if(decide (0 < (a0.length:Int)))=true→((0:Int)≤(0:Int))then(if(decide (0 < (a0.length:Int)))=true→(0 < (a0.length:Int))then(some (.inl ()))else none)else none) (Af fun(_:Unit)=>(Option.bind (Option.bind (some (.inl ())) (Af fun(_:Unit)=>(if((decide (0 < (a0.length:Int)))&&((A0 a0 (0:Int).toNat)==45))=true then(if((0:Int)≤(1:Int))then(if(1≤(a0.length:Int))then(some (.inl (a0.drop (1:Int).toNat)))else none)else none)else(some (.inl a0))))) (Af fun(y1:(List UInt8))=>(Option.bind (Option.bind (Option.bind (Option.bind (Py y1) fun r=>some r) fun x5=>(some (.inl ((!x5) || (((decide (0 < (a0.length:Int)))&&((A0 a0 (0:Int).toNat)==45))&&(y1==([48]:List UInt8))))))) (Af fun(y2:Bool)=>(if y2=true then(some (.inr (((0:Int),(4:Int)))))else(some (.inl ()))))) (Af fun(_:Unit)=>(Option.bind (some (.inl ())) (Af fun(_:Unit)=>(Option.bind (Option.bind (some (.inl ())) (Af fun(_:Unit)=>(Am (fun(s3:Int×Int)=>((Option.bind (Option.bind (some (.inl ())) (Af fun(_:Unit)=>(if(decide (s3.2 < (y1.length:Int)))=true then(some (.inl ()))else(some (.inr (.inr (.inl s3.1))))))) (Af fun(_:Unit)=>(Option.bind (Option.bind (if(0≤s3.2)then(if(s3.2 < (y1.length:Int))then(some (.inl ()))else none)else none) (Af fun(_:Unit)=>(Option.bind (Option.bind (if((10:Int)≠0)then(some (.inl ()))else none) (Af fun(_:Unit)=>(if(decide (s3.1 < (IntKind.wrap .i64 (Int.tdiv (IntKind.wrap .i64 ((-9223372036854775808:Int)+(IntKind.wrap .i64 ((IntKind.wrap .u8 ((A0 y1 s3.2.toNat) - 48)))))) (10:Int)))))=true then(some (.inr (.inr (.inr (.inr (((0:Int),(2:Int))))))))else(some (.inl ()))))) (Af fun(_:Unit)=>(some (.inl ())))))) (Af fun(_:Unit)=>(some (.inl ((IntKind.wrap .i64 ((IntKind.wrap .i64 ((10:Int) * s3.1)) - (IntKind.wrap .i64 ((IntKind.wrap .u8 ((A0 y1 s3.2.toNat) - 48)))))),(IntKind.wrap .i64 (s3.2+1))))))))):Option ((Int×Int)⊕((Int)⊕(Int×Int))))) ((0:Int),(0:Int))))) (Af fun(y4:Int)=>(Option.bind (Option.bind (some (.inl ())) (Af fun(_:Unit)=>(if(!((decide (0 < (a0.length:Int)))&&((A0 a0 (0:Int).toNat)==45)))=true then(Option.bind (Option.bind (some (.inl ())) (Af fun(_:Unit)=>(if(y4==(-9223372036854775808:Int))=true then(some (.inr (.inr (((0:Int),(2:Int))))))else(some (.inl ()))))) (Af fun(_:Unit)=>(some (.inl (IntKind.wrap .i64 (0 - y4))))))else(some (.inl y4))))) (Af fun(y5:Int)=>(Option.bind (Option.bind (some (.inl ())) (Af fun(_:Unit)=>(if((decide (y5 < a1)) || (decide (a2 < y5)))=true then(some (.inr (((0:Int),(2:Int)))))else(some (.inl ()))))) (Af fun(_:Unit)=>(some (y5,(0:Int))))))))))))))))):Option (Int×Int)):=by kernel_rfl
abbrev Oo (y1:(List UInt8)):(Int×Int)→Option ((Int×Int)⊕((Int)⊕(Int×Int))):=(fun(s3:Int×Int)=>((Option.bind (Option.bind (some (.inl ())) (Af fun(_:Unit)=>(if(decide (s3.2 < (y1.length:Int)))=true then(some (.inl ()))else(some (.inr (.inr (.inl s3.1))))))) (Af fun(_:Unit)=>(Option.bind (Option.bind (if(0≤s3.2)then(if(s3.2 < (y1.length:Int))then(some (.inl ()))else none)else none) (Af fun(_:Unit)=>(Option.bind (Option.bind (if((10:Int)≠0)then(some (.inl ()))else none) (Af fun(_:Unit)=>(if(decide (s3.1 < (IntKind.wrap .i64 (Int.tdiv (IntKind.wrap .i64 ((-9223372036854775808:Int)+(IntKind.wrap .i64 ((IntKind.wrap .u8 ((A0 y1 s3.2.toNat) - 48)))))) (10:Int)))))=true then(some (.inr (.inr (.inr (.inr (((0:Int),(2:Int))))))))else(some (.inl ()))))) (Af fun(_:Unit)=>(some (.inl ())))))) (Af fun(_:Unit)=>(some (.inl ((IntKind.wrap .i64 ((IntKind.wrap .i64 ((10:Int) * s3.1)) - (IntKind.wrap .i64 ((IntKind.wrap .u8 ((A0 y1 s3.2.toNat) - 48)))))),(IntKind.wrap .i64 (s3.2+1))))))))):Option ((Int×Int)⊕((Int)⊕(Int×Int)))))
theorem A128  (a0:List UInt8) (a1 a2:Int):Yo a0 a1 a2=((Option.bind (if(decide (0 < (a0.length:Int)))=true→((0:Int)≤(0:Int))then(if(decide (0 < (a0.length:Int)))=true→(0 < (a0.length:Int))then(some (.inl ()))else none)else none) (Af fun(_:Unit)=>(Option.bind (Option.bind (some (.inl ())) (Af fun(_:Unit)=>(if((decide (0 < (a0.length:Int)))&&((A0 a0 (0:Int).toNat)==45))=true then(if((0:Int)≤(1:Int))then(if(1≤(a0.length:Int))then(some (.inl (a0.drop (1:Int).toNat)))else none)else none)else(some (.inl a0))))) (Af fun(y1:(List UInt8))=>(Option.bind (Option.bind (Option.bind (Option.bind (Py y1) fun r=>some r) fun x5=>(some (.inl ((!x5) || (((decide (0 < (a0.length:Int)))&&((A0 a0 (0:Int).toNat)==45))&&(y1==([48]:List UInt8))))))) (Af fun(y2:Bool)=>(if y2=true then(some (.inr (((0:Int),(4:Int)))))else(some (.inl ()))))) (Af fun(_:Unit)=>(Option.bind (some (.inl ())) (Af fun(_:Unit)=>(Option.bind (Option.bind (some (.inl ())) (Af fun(_:Unit)=>(Am (Oo y1) ((0:Int),(0:Int))))) (Af fun(y4:Int)=>(Option.bind (Option.bind (some (.inl ())) (Af fun(_:Unit)=>(if(!((decide (0 < (a0.length:Int)))&&((A0 a0 (0:Int).toNat)==45)))=true then(Option.bind (Option.bind (some (.inl ())) (Af fun(_:Unit)=>(if(y4==(-9223372036854775808:Int))=true then(some (.inr (.inr (((0:Int),(2:Int))))))else(some (.inl ()))))) (Af fun(_:Unit)=>(some (.inl (IntKind.wrap .i64 (0 - y4))))))else(some (.inl y4))))) (Af fun(y5:Int)=>(Option.bind (Option.bind (some (.inl ())) (Af fun(_:Unit)=>(if((decide (y5 < a1)) || (decide (a2 < y5)))=true then(some (.inr (((0:Int),(2:Int)))))else(some (.inl ()))))) (Af fun(_:Unit)=>(some (y5,(0:Int))))))))))))))))):Option (Int×Int)):=M128 _ _ _
def Hy (b:UInt8):Bool:=decide (48≤b.toNat)&&decide (b.toNat≤57)
def Dr (s:List UInt8):Bool:=!((s.length==0) || (decide (1 < s.length)&&(A0 s 0==48)))&&s.all Hy
theorem Ky {s:List UInt8} {i:Nat} (h:i < s.length):A0 s i=(s[i].toNat:Int):=by unfold A0;rw[List.getElem?_eq_getElem h]
theorem wz {s:List UInt8} {i:Nat} (h:i < s.length):((decide (A0 s i < 48)) || (decide (57 < A0 s i)))=!Hy s[i]:=by
 rw[Ky h]
 unfold Hy
 by_cases h1:48≤(s[i]).toNat<;>by_cases h2:(s[i]).toNat≤57<;>simp[h1,h2]<;>omega
theorem ez (s:List UInt8):qq (D2 (fun i=>if((decide (A0 s i < 48)) || (decide (57 < A0 s i)))=true then some false else none) s.length) (some true)=some (s.all Hy):=by
 cases hc:D2 (fun i=>if((decide (A0 s i < 48)) || (decide (57 < A0 s i)))=true then some false else none) s.length with
 | none =>
  rw[AAh]
  have:=firstR_none.1 hc
  congr 1
  symm
  rw[List.all_eq_true]
  intro x hx
  obtain⟨i,hi,rfl⟩:=List.mem_iff_getElem.1 hx
  have h:=this i hi
  rw[wz hi]at h
  cases hd:Hy s[i] with
  | true=>rfl
  | false=>rw[hd]at h;simp at h
 | some r =>
  obtain⟨i,hi,h⟩:=Ua hc
  rw[wz hi]at h
  rw[AAi]
  cases hd:Hy s[i] with
  | true=>rw[hd]at h;simp at h
  | false =>
   rw[hd]at h
   simp at h
   subst h
   congr 1
   symm
   rw[Bool.eq_false_iff]
   intro ha
   rw[List.all_eq_true]at ha
   rw[ha _ (List.getElem_mem hi)]at hd
   cases hd
theorem qy (s:List UInt8) (hs:s.length≤1000):Rg s=some (Dr s):=by
 rw[A146]
 unfold Dr
 have e0:((s.length:Int)==(0:Int))=(s.length==0):=by rw[show (0:Int)=((0:Nat):Int) from rfl,e8]
 have e1:(decide (1 < (s.length:Int)))=decide (1 < s.length):=decide_eq_decide.2 (by omega)
 rw[e0,e1]
 rw[if_pos (by intro _;decide),if_pos (by intro h;cases s with | nil=>simp at h | cons a l=>simp)]
 cases hc:((s.length==0) || (decide (1 < s.length)&&(A0 s 0==48))) with
 | true=>rw[show (0:Int).toNat=0 from rfl,hc];rfl
 | false =>
  rw[show (0:Int).toNat=0 from rfl,hc]
  simp only[Bool.false_eq_true,if_false,bs,ol,Bool.not_false,Bool.true_and]
  refine(So s.length (fun i=>if((decide (A0 s i < 48)) || (decide (57 < A0 s i)))=true then some false else none) (z:=some true) (fun i hi=>?_) ?_ rfl).trans (ez s)
  ·have hl:(i:Int) < (s.length:Int):=by omega
   simp only[Yl,Int.toNat_natCast,hl,decide_true,if_true,show (0:Int)≤(i:Int) from by omega,forall_const,implies_true,O1 (i:=i) (by omega),Si,Pq,Mm]
  ·simp only[Yl,Int.lt_irrefl,decide_false,Bool.false_eq_true,if_false]
theorem qz (s:List UInt8) (hs:s.length≤1000):Py s=some (Dr s):=by
 rw[A148]
 unfold Dr
 have e0:((s.length:Int)==(0:Int))=(s.length==0):=by rw[show (0:Int)=((0:Nat):Int) from rfl,e8]
 have e1:(decide (1 < (s.length:Int)))=decide (1 < s.length):=decide_eq_decide.2 (by omega)
 rw[e0,e1]
 rw[if_pos (by intro _;decide),if_pos (by intro h;cases s with | nil=>simp at h | cons a l=>simp)]
 cases hc:((s.length==0) || (decide (1 < s.length)&&(A0 s 0==48))) with
 | true=>rw[show (0:Int).toNat=0 from rfl,hc];rfl
 | false =>
  rw[show (0:Int).toNat=0 from rfl,hc]
  simp only[Bool.false_eq_true,if_false,bs,ol,Bool.not_false,Bool.true_and]
  refine(So s.length (fun i=>if((decide (A0 s i < 48)) || (decide (57 < A0 s i)))=true then some false else none) (z:=some true) (fun i hi=>?_) ?_ rfl).trans (ez s)
  ·have hl:(i:Int) < (s.length:Int):=by omega
   simp only[Ym,Int.toNat_natCast,hl,decide_true,if_true,show (0:Int)≤(i:Int) from by omega,forall_const,implies_true,O1 (i:=i) (by omega),Si,Pq,Mm]
  ·simp only[Ym,Int.lt_irrefl,decide_false,Bool.false_eq_true,if_false]
def ng (s:List UInt8):Bool:=decide (0 < s.length)&&(A0 s 0==45)
def bd (s:List UInt8):List UInt8:=if ng s=true then s.drop 1 else s
theorem wx (s:List UInt8):((decide (0 < (s.length:Int)))&&((A0 s (0:Int).toNat)==45))=ng s:=by
 unfold ng
 rw[show decide (0 < (s.length:Int))=decide (0 < s.length) from decide_eq_decide.2 (by omega)]
 rfl
theorem W9 (s:List UInt8):(bd s).length≤s.length:=by unfold bd;split;(· simp);exact Nat.le_refl _
theorem Qu (s:List UInt8) (hs:s.length≤1000):Rf s [45]=some (bd s,ng s):=by
 rw[A145,A164,A176]
 cases s with
 | nil=>rfl
 | cons a l =>
  rw[if_pos (by intro _;decide),if_pos (by intro _;simp;omega)]
  have e:((decide ((([45]:List UInt8).length:Int)≤((a :: l).length:Int)))&&(((a :: l).take ((([45]:List UInt8).length:Int)).toNat)==[45]))=ng (a :: l):=by
   unfold ng
   rw[show decide (0 < (a :: l).length)=true from by simp,show decide ((([45]:List UInt8).length:Int)≤((a :: l).length:Int))=true from by simp;omega]
   have e2:A0 (a :: l) 0=(a.toNat:Int):=rfl
   have e3:((a :: l).take ((([45]:List UInt8).length:Int)).toNat)=[a]:=rfl
   rw[e2,e3,Bool.eq_iff_iff,Bool.true_and,Bool.true_and]
   simp only[beq_iff_eq,List.cons.injEq,and_true]
   exact⟨fun h=>by rw[h];rfl,fun h=>UInt8.toNat_inj.1 (show a.toNat=45 by omega)⟩
  rw[e]
  simp only[bs]
  unfold bd
  cases hn:ng (a :: l) with
  | false=>rfl
  | true =>
   have p1:(0:Int)≤(([45]:List UInt8).length:Int):=Int.natCast_nonneg _
   have p2:(([45]:List UInt8).length:Int)≤((a :: l).length:Int):=by simp;omega
   rw[if_neg (show ¬ (!true)=true from by decide),if_pos p1,if_pos p2]
   rfl
def B5 (acc:Nat) (l:List UInt8):Nat:=l.foldl (fun a b=>10 * a+(b.toNat - 48)) acc
theorem J6 (acc:Nat) (b:UInt8) (l:List UInt8):B5 acc (b :: l)=B5 (10 * acc+(b.toNat - 48)) l:=by unfold B5;rw[List.foldl_cons]
theorem P9:∀ (l:List UInt8) (acc:Nat),acc≤B5 acc l
 | [],acc=>Nat.le_refl _
 | b :: l,acc=>by rw[J6];have:=P9 l (10 * acc+(b.toNat - 48));omega
theorem Kt {b:UInt8} (h:Hy b=true):48≤b.toNat∧b.toNat≤57:=by unfold Hy at h;simpa using h
theorem ro:∀ (l:List UInt8) (acc:Nat),l.all Hy=true→B5 acc l < (acc+1) * 10 ^ l.length
 | [],acc,_=>by simp[B5]
 | b :: l,acc,h=>by
  rw[List.all_cons,Bool.and_eq_true]at h
  have hb:=Kt h.1
  rw[J6,List.length_cons]
  refine Nat.lt_of_lt_of_le (ro l _ h.2) ?_
  rw[Nat.pow_succ',← Nat.mul_assoc]
  exact Nat.mul_le_mul_right _ (by omega)
theorem kh:∀ (l:List UInt8) (acc:Nat),acc * 10 ^ l.length≤B5 acc l
 | [],acc=>by simp[B5]
 | b :: l,acc=>by
  rw[J6,List.length_cons]
  refine Nat.le_trans ?_ (kh l _)
  rw[Nat.pow_succ',← Nat.mul_assoc]
  exact Nat.mul_le_mul_right _ (by omega)
structure Pl (s:List UInt8):Prop where
 ne:s≠[]
 dg:s.all Hy=true
 hd:∀ a l,s=a :: l→l≠[]→49≤a.toNat
theorem Nu {s:List UInt8} (h:Dr s=true):Pl s:=by
 unfold Dr at h
 rw[Bool.and_eq_true,Bool.not_eq_true',Bool.or_eq_false_iff]at h
 obtain⟨⟨h1,h2⟩,h3⟩:=h
 refine⟨fun e=>by subst e;simp at h1,h3,fun a l e hl=>?_⟩
 subst e
 rw[List.all_cons,Bool.and_eq_true]at h3
 have:=Kt h3.1
 rw[show decide (1 < (a :: l).length)=true from by cases l with | nil=>exact absurd rfl hl | cons _ _=>simp,Bool.true_and]at h2
 rw[show A0 (a :: l) 0=(a.toNat:Int) from rfl]at h2
 have h4:¬ ((a.toNat:Int)=48):=by simpa using h2
 omega
theorem pl_zero {s:List UInt8} (h:Pl s):B5 0 s=0↔s=[48]:=by
 constructor
 ·intro hv
  cases s with
  | nil=>exact absurd rfl h.ne
  | cons a l =>
   have hd:=h.dg
   rw[List.all_cons,Bool.and_eq_true]at hd
   have ha:=Kt hd.1
   rw[J6]at hv
   have h1:=P9 l (10 * 0+(a.toNat - 48))
   cases l with
   | nil=>rw[show a=48 from UInt8.toNat_inj.1 (show a.toNat=48 by omega)]
   | cons b l=>have:=h.hd a (b :: l) rfl (by simp);omega
 ·rintro rfl;rfl
theorem pl_big {s:List UInt8} (h:Pl s) (hl:10≤s.length):1000000000≤B5 0 s:=by
 cases s with
 | nil=>simp at hl
 | cons a l =>
  rw[List.length_cons]at hl
  have ha:=h.hd a l rfl (fun e=>by subst e;simp at hl)
  rw[J6]
  refine Nat.le_trans ?_ (kh l _)
  have h9:10 ^ 9≤10 ^ l.length:=Nat.pow_le_pow_right (by decide) (by omega)
  calc 1000000000=1 * 10 ^ 9:=by decide
   _≤(10 * 0+(a.toNat - 48)) * 10 ^ l.length:=Nat.mul_le_mul (by omega) h9
theorem Vg {s:List UInt8} (h:Pl s) (hl:s.length < 10):B5 0 s < 1000000000:=by
 have:=ro s 0 h.dg
 refine Nat.lt_of_lt_of_le this ?_
 calc (0+1) * 10 ^ s.length≤1 * 10 ^ 9:=Nat.mul_le_mul (by decide) (Nat.pow_le_pow_right (by decide) (by omega))
  _=1000000000:=by decide
theorem Lb:∀ (l:List UInt8) (acc:Nat),acc≤18446744073709551615→l.all Hy=true →
  Lib.parseUintM 18446744073709551615 acc l=if B5 acc l≤18446744073709551615 then .ok (B5 acc l)else .range
 | [],acc,ha,_=>by simp[Lib.parseUintM,B5,ha]
 | b :: l,acc,ha,h=>by
  rw[List.all_cons,Bool.and_eq_true]at h
  have hb:=Kt h.1
  unfold Lib.parseUintM
  rw[if_pos hb,J6]
  have hg:=P9 l (10 * acc+(b.toNat - 48))
  split
  ·rw[if_neg (by omega)]
  ·split
   ·rw[if_neg (by omega)]
   ·rw[show acc * 10+(b.toNat - 48)=10 * acc+(b.toNat - 48) from by omega]
    exact Lb l _ (by omega) h.2
def O4 (s:List UInt8):Int:=if ng s=true then -(B5 0 (bd s):Int)else(B5 0 (bd s):Int)
theorem yb {s:List UInt8} (h:Dr (bd s)=true):bc s=(O4 s,false)∨((bc s).2=true∧(O4 s < -9223372036854775808∨9223372036854775807 < O4 s)):=by
 have P:=Nu h
 unfold bc O4
 unfold bd at P ⊢
 cases s with
 | nil=>exact absurd (by simp:(if ng []=true then List.drop 1 []else([]:List UInt8))=[]) P.ne
 | cons c r =>
  by_cases hn:ng (c :: r)=true
  ·rw[if_pos hn]at P
   simp only[hn,if_true]
   rw[show (c :: r).drop 1=r from rfl]at P ⊢
   have hc:c.toNat=45:=by
    unfold ng at hn
    rw[Bool.and_eq_true]at hn
    have:((c.toNat:Int))=45:=by simpa [A0] using hn.2
    omega
   have e:Lib.parseIntB 64 (c :: r)=if B5 0 r≤9223372036854775808 then .ok (-(B5 0 r:Int))else .range:=by
    simp only[Lib.parseIntB,hc,or_true,if_true,Lib.parseUintB,if_neg P.ne]
    rw[show (2:Nat) ^ 64 - 1=18446744073709551615 from by decide,Lb r 0 (by decide) P.dg]
    by_cases h1:B5 0 r≤9223372036854775808
    ·rw[if_pos (by omega),if_pos h1]
     simp only[not_true_eq_false,false_and,if_false,true_and]
     rw[if_neg (by rw[show (2:Nat) ^ (64 - 1)=9223372036854775808 from by decide];omega)]
    ·rw[if_neg h1]
     by_cases h2:B5 0 r≤18446744073709551615
     ·rw[if_pos h2]
      simp only[not_true_eq_false,false_and,if_false,true_and]
      rw[if_pos (by rw[show (2:Nat) ^ (64 - 1)=9223372036854775808 from by decide];omega)]
     ·rw[if_neg h2]
   rw[e]
   by_cases h1:B5 0 r≤9223372036854775808
   ·rw[if_pos h1];exact .inl rfl
   ·rw[if_neg h1];exact .inr ⟨rfl,.inl (by omega)⟩
  ·rw[if_neg hn]at P
   simp only[hn,if_false,Bool.false_eq_true]
   have hcd:48≤c.toNat∧c.toNat≤57:=by have:=P.dg;rw[List.all_cons,Bool.and_eq_true]at this;exact Kt this.1
   have e:Lib.parseIntB 64 (c :: r)=if B5 0 (c :: r)≤9223372036854775807 then .ok (B5 0 (c :: r):Int)else .range:=by
    simp only[Lib.parseIntB,show (c.toNat=45)=False from eq_false (by omega),show (c.toNat=43)=False from eq_false (by omega),or_false,if_false,Lib.parseUintB,if_neg P.ne]
    rw[show (2:Nat) ^ 64 - 1=18446744073709551615 from by decide,Lb (c :: r) 0 (by decide) P.dg]
    by_cases h1:B5 0 (c :: r)≤9223372036854775807
    ·rw[if_pos (by omega),if_pos h1]
     simp only[not_false_eq_true,true_and,false_and,if_false]
     rw[if_neg (by rw[show (2:Nat) ^ (64 - 1)=9223372036854775808 from by decide];omega)]
    ·rw[if_neg h1]
     by_cases h2:B5 0 (c :: r)≤18446744073709551615
     ·rw[if_pos h2]
      simp only[not_false_eq_true,true_and,false_and,if_false]
      rw[if_pos (by rw[show (2:Nat) ^ (64 - 1)=9223372036854775808 from by decide];omega)]
     ·rw[if_neg h2]
   rw[e]
   by_cases h1:B5 0 (c :: r)≤9223372036854775807
   ·rw[if_pos h1];exact .inl rfl
   ·rw[if_neg h1];exact .inr ⟨rfl,.inr (by omega)⟩
def pn (s:List UInt8) (lo hi:Int):Int×Int :=
 if(!Dr (bd s) || (ng s&&(bd s==[48])))=true then(0,4)else if lo≤O4 s∧O4 s≤hi then(O4 s,0)else(0,2)
theorem pn_p (s:List UInt8) (hs:s.length≤1000) (lo hi:Int) (h1 : -9223372036854775808≤lo) (h2:hi≤9223372036854775807):Yn s lo hi=some (pn s lo hi):=by
 have hb:=W9 s
 rw[A124,Qu s hs]
 simp only[bs]
 rw[qy (bd s) (by omega)]
 simp only[bs]
 unfold pn
 cases hc:(!Dr (bd s) || (ng s&&(bd s==[48]))) with
 | true=>rfl
 | false =>
  simp only[Bool.false_eq_true,if_false]
  rw[show O9 s 10 64=some (bc s) from if_pos ⟨by omega,rfl,rfl⟩]
  simp only[bs]
  have hp:Dr (bd s)=true:=by
   cases h:Dr (bd s) with
   | true=>rfl
   | false=>rw[h]at hc;simp at hc
  rcases yb hp with h | ⟨h3,h4⟩
  ·rw[h]
   by_cases hr:lo≤O4 s∧O4 s≤hi
   ·rw[if_pos hr,if_neg (by simp;omega)]
   ·rw[if_neg hr,if_pos (by simp;omega)]
  ·rw[if_pos (by rw[h3];rfl),if_neg (by omega)]
theorem u8d {b:UInt8} (h:48≤b.toNat∧b.toNat≤57):IntKind.wrap .i64 (IntKind.wrap .u8 ((b.toNat:Int) - 48))=((b.toNat - 48:Nat):Int):=by
 rw[show IntKind.wrap .u8 ((b.toNat:Int) - 48)=(b.toNat:Int) - 48 from IntWalk.u8_in _ (by omega),Bh (by omega) (by omega)]
 omega
theorem AAf (y:List UInt8) (hy:y.length≤1000) (hd:y.all Hy=true):∀ (k i:Nat),i+k=y.length→B5 0 (y.take i)≤9223372036854775808 →
  Am (Oo y) (-(B5 0 (y.take i):Int),(i:Int))=some (if B5 0 y≤9223372036854775808 then .inl (-(B5 0 y:Int))else .inr (0,2)):=by
 intro k
 induction k with
 | zero =>
  intro i hi hv
  obtain rfl:i=y.length:=by omega
  rw[List.take_length]at hv ⊢
  refine Be ?_
  simp only[Oo,Int.lt_irrefl,decide_false,Bool.false_eq_true,if_false,bs,ol,Lh]
  rw[if_pos hv]
 | succ k ih =>
  intro i hi hv
  have hl:i < y.length:=by omega
  have hli:(i:Int) < (y.length:Int):=by omega
  have hb:Hy y[i]=true:=List.all_eq_true.1 hd _ (List.getElem_mem hl)
  have hb2:=Kt hb
  have ht:B5 0 (y.take (i+1))=10 * B5 0 (y.take i)+((y[i]).toNat - 48):=by
   rw[List.take_add_one,List.getElem?_eq_getElem hl]
   unfold B5
   rw[List.foldl_append]
   rfl
  have hsplit:B5 0 y=B5 (B5 0 (y.take (i+1))) (y.drop (i+1)):=by
   conv=>lhs;rw[← List.take_append_drop (i+1) y]
   unfold B5
   rw[List.foldl_append]
  have hge:=P9 (y.drop (i+1)) (B5 0 (y.take (i+1)))
  generalize B5 0 (y.take i)=v at hv ht ⊢
  generalize hdd:(y[i]).toNat - 48=d at ht
  have hd9:d≤9:=by omega
  have e1:IntKind.wrap .i64 (IntKind.wrap .u8 ((A0 y i) - 48))=(d:Int):=by rw[Ky hl,u8d hb2,hdd]
  have e2:IntKind.wrap .i64 ((-9223372036854775808:Int)+(d:Int)) = -((9223372036854775808 - d:Nat):Int):=by rw[Bh (by omega) (by omega)];omega
  have e3:Int.tdiv (-((9223372036854775808 - d:Nat):Int)) 10 = -(((9223372036854775808 - d) / 10:Nat):Int):=by rw[Int.neg_tdiv];rfl
  by_cases hc:10 * v+d≤9223372036854775808
  ·refine Bg (s':=(-((10 * v+d:Nat):Int),((i+1:Nat):Int))) ?_ ?_
   ·simp only[Oo,Int.toNat_natCast,hli,decide_true,if_true,show (0:Int)≤(i:Int) from by omega,bs,ol,Lh,e1,e2,e3,show ((10:Int)≠0)=True from by decide]
    rw[show IntKind.wrap .i64 (-(((9223372036854775808 - d) / 10:Nat):Int)) = -(((9223372036854775808 - d) / 10:Nat):Int) from Bh (by omega) (by omega)]
    rw[if_neg (by simp;omega)]
    simp only[bs,ol]
    rw[show IntKind.wrap .i64 ((10:Int) * (-(v:Int))) = -((10 * v:Nat):Int) from by rw[Bh (by omega) (by omega)];omega]
    rw[show IntKind.wrap .i64 (-((10 * v:Nat):Int) - (d:Int)) = -((10 * v+d:Nat):Int) from by rw[Bh (by omega) (by omega)];omega,wn (by omega)]
   ·have:=ih (i+1) (by omega) (by rw[ht];exact hc)
    rw[ht]at this
    exact this
  ·rw[if_neg (by omega)]
   refine Be ?_
   simp only[Oo,Int.toNat_natCast,hli,decide_true,if_true,show (0:Int)≤(i:Int) from by omega,bs,ol,Lh,e1,e2,e3,show ((10:Int)≠0)=True from by decide]
   rw[show IntKind.wrap .i64 (-(((9223372036854775808 - d) / 10:Nat):Int)) = -(((9223372036854775808 - d) / 10:Nat):Int) from Bh (by omega) (by omega)]
   rw[if_pos (by simp;omega)]
   simp only[bs,ol,Lh]
theorem pn_r (s:List UInt8) (hs:s.length≤1000) (lo hi:Int) (h1 : -9223372036854775808≤lo) (h2:hi≤9223372036854775807):Yo s lo hi=some (pn s lo hi):=by
 have hb:=W9 s
 rw[A128,wx]
 rw[if_pos (by intro _;decide),if_pos (by intro h;simpa using h)]
 simp only[bs,ol]
 have e:(if ng s=true then(if((0:Int)≤(1:Int))then(if(1≤(s.length:Int))then(some (.inl (s.drop (1:Int).toNat)))else none)else none)else(some (.inl s)))=(some (.inl (bd s)):Option (List UInt8⊕(Int×Int))):=by
  unfold bd
  by_cases hn:ng s=true
  ·rw[if_pos hn,if_pos hn,if_pos (by decide),if_pos (by unfold ng at hn;rw[Bool.and_eq_true]at hn;have:=of_decide_eq_true hn.1;omega)]
   rfl
  ·rw[if_neg hn,if_neg hn]
 rw[e]
 simp only[bs,ol]
 rw[qz (bd s) (by omega)]
 simp only[bs,ol]
 unfold pn
 cases hc:(!Dr (bd s) || (ng s&&(bd s==[48]))) with
 | true=>rfl
 | false =>
  simp only[Bool.false_eq_true,if_false,bs,ol]
  have hp:Dr (bd s)=true:=by
   cases h:Dr (bd s) with
   | true=>rfl
   | false=>rw[h]at hc;simp at hc
  have hl:=AAf (bd s) (by omega) (Nu hp).dg _ 0 (Nat.zero_add _) (by show (0:Nat)≤_;omega)
  rw[show (-(B5 0 ((bd s).take 0):Int),((0:Nat):Int))=((0:Int),(0:Int)) from rfl]at hl
  rw[hl]
  unfold O4
  generalize B5 0 (bd s)=v
  by_cases hv:v≤9223372036854775808
  ·rw[if_pos hv]
   simp only[bs,ol]
   cases hn:ng s with
   | true =>
    simp only[Bool.not_true,Bool.false_eq_true,if_false,bs,ol,if_true]
    by_cases hr:lo ≤ -(v:Int) ∧ -(v:Int)≤hi
    ·rw[if_pos hr,if_neg (by simp;omega)];rfl
    ·rw[if_neg hr,if_pos (by simp;omega)];rfl
   | false =>
    simp only[Bool.not_false,if_true,bs,ol,Bool.false_eq_true,if_false]
    by_cases h8:v=9223372036854775808
    ·subst h8
     rw[if_pos (by decide),if_neg (by omega)];rfl
    ·rw[if_neg (by simp;omega)]
     simp only[bs,ol]
     rw[show IntKind.wrap .i64 (0 - -(v:Int))=(v:Int) from by rw[Bh (by omega) (by omega)];omega]
     by_cases hr:lo≤(v:Int)∧(v:Int)≤hi
     ·rw[if_pos hr,if_neg (by simp;omega)];rfl
     ·rw[if_neg hr,if_pos (by simp;omega)];rfl
  ·rw[if_neg hv,if_neg (by cases ng s<;>simp<;>omega)]
   simp only[bs,Lh]
end Go.Av.Txs
set_option maxRecDepth 100000
namespace Go.Av.Txs
open Go.Av
theorem M137 (a0:List UInt8):Yq a0=((Option.bind (Option.bind (Option.bind (Rf a0 ([45]:List UInt8)) fun r=>some r) fun x1=>(Option.bind (Option.bind (Px x1.1 ([46]:List UInt8)) fun r=>some r) fun x2=>(some (.inl (x1.2,x2.1,x2.2.1,x2.2.2))))) (Af fun(y1:Bool×(List UInt8)×(List UInt8)×Bool)=>(Option.bind (Option.bind (Option.bind (Option.bind (Rg y1.2.1) fun r=>some r) fun x3=>(some (.inl (!x3)))) (Af fun(y2:Bool)=>(if y2=true then(some (.inr (((0:Int),false))))else(some (.inl ()))))) (Af fun(_:Unit)=>(Option.bind (some (.inl ())) (Af fun(_:Unit)=>(Option.bind (Option.bind (some (.inl ())) (Af fun(_:Unit)=>(if y1.2.2.2=true then(Option.bind (Option.bind (if(!((y1.2.2.1.length:Int) != (2:Int)))=true→((0:Int)≤(0:Int))then(if(!((y1.2.2.1.length:Int) != (2:Int)))=true→(0 < (y1.2.2.1.length:Int))then(if(!(((y1.2.2.1.length:Int) != (2:Int)) || (decide ((A0 y1.2.2.1 (0:Int).toNat) < 48))))=true→((0:Int)≤(0:Int))then(if(!(((y1.2.2.1.length:Int) != (2:Int)) || (decide ((A0 y1.2.2.1 (0:Int).toNat) < 48))))=true→(0 < (y1.2.2.1.length:Int))then(if(!((((y1.2.2.1.length:Int) != (2:Int)) || (decide ((A0 y1.2.2.1 (0:Int).toNat) < 48))) || (decide (57 < (A0 y1.2.2.1 (0:Int).toNat)))))=true→((0:Int)≤(1:Int))then(if(!((((y1.2.2.1.length:Int) != (2:Int)) || (decide ((A0 y1.2.2.1 (0:Int).toNat) < 48))) || (decide (57 < (A0 y1.2.2.1 (0:Int).toNat)))))=true→(1 < (y1.2.2.1.length:Int))then(if(!(((((y1.2.2.1.length:Int) != (2:Int)) || (decide ((A0 y1.2.2.1 (0:Int).toNat) < 48))) || (decide (57 < (A0 y1.2.2.1 (0:Int).toNat)))) || (decide ((A0 y1.2.2.1 (1:Int).toNat) < 48))))=true→((0:Int)≤(1:Int))then(if(!(((((y1.2.2.1.length:Int) != (2:Int)) || (decide ((A0 y1.2.2.1 (0:Int).toNat) < 48))) || (decide (57 < (A0 y1.2.2.1 (0:Int).toNat)))) || (decide ((A0 y1.2.2.1 (1:Int).toNat) < 48))))=true→(1 < (y1.2.2.1.length:Int))then(some (.inl ()))else none)else none)else none)else none)else none)else none)else none)else none) (Af fun(_:Unit)=>(if(((((((y1.2.2.1.length:Int) != (2:Int)) || (decide ((A0 y1.2.2.1 (0:Int).toNat) < 48))) || (decide (57 < (A0 y1.2.2.1 (0:Int).toNat)))) || (decide ((A0 y1.2.2.1 (1:Int).toNat) < 48))) || (decide (57 < (A0 y1.2.2.1 (1:Int).toNat)))) || (y1.2.2.1==([48,48]:List UInt8)))=true then(some (.inr (.inr (((0:Int),false)))))else(some (.inl ()))))) (Af fun(_:Unit)=>(if((0:Int)≤(0:Int))then(if(0 < (y1.2.2.1.length:Int))then(if((0:Int)≤(1:Int))then(if(1 < (y1.2.2.1.length:Int))then(some (.inl (IntKind.wrap .i64 ((IntKind.wrap .i64 ((IntKind.wrap .i64 ((IntKind.wrap .u8 ((A0 y1.2.2.1 (0:Int).toNat) - 48)))) * (10:Int)))+(IntKind.wrap .i64 ((IntKind.wrap .u8 ((A0 y1.2.2.1 (1:Int).toNat) - 48))))))))else none)else none)else none)else none)))else(some (.inl (0:Int)))))) (Af fun(y3:Int)=>(Option.bind (some (.inl ())) (Af fun(_:Unit)=>(Option.bind (Option.bind (some (.inl ())) (Af fun(_:Unit)=>(if(decide ((y1.2.1.length:Int) < (10:Int)))=true then(Option.bind (Option.bind (O9 y1.2.1 (10:Int) (64:Int)) fun r=>some r) fun x12=>(some (.inl x12.1)))else(some (.inl R8))))) (Af fun(y4:Int)=>(Option.bind (some (.inl ())) (Af fun(_:Unit)=>(Option.bind (Option.bind (some (.inl ())) (Af fun(_:Unit)=>(if y1.1=true then(some (.inr (((IntKind.wrap .i64 (0 - (IntKind.wrap .i64 ((IntKind.wrap .i64 (y4 * (100:Int)))+y3)))),((IntKind.wrap .i64 ((IntKind.wrap .i64 (y4 * (100:Int)))+y3)) != 0)))))else(some (.inl ()))))) (Af fun(_:Unit)=>(some ((IntKind.wrap .i64 ((IntKind.wrap .i64 (y4 * (100:Int)))+y3)),true)))))))))))))))))):Option (Int×Bool)):=by kernel_rfl
theorem A137  (a0:List UInt8):Yq a0=((Option.bind (Option.bind (Option.bind (Rf a0 ([45]:List UInt8)) fun r=>some r) fun x1=>(Option.bind (Option.bind (Px x1.1 ([46]:List UInt8)) fun r=>some r) fun x2=>(some (.inl (x1.2,x2.1,x2.2.1,x2.2.2))))) (Af fun(y1:Bool×(List UInt8)×(List UInt8)×Bool)=>(Option.bind (Option.bind (Option.bind (Option.bind (Rg y1.2.1) fun r=>some r) fun x3=>(some (.inl (!x3)))) (Af fun(y2:Bool)=>(if y2=true then(some (.inr (((0:Int),false))))else(some (.inl ()))))) (Af fun(_:Unit)=>(Option.bind (some (.inl ())) (Af fun(_:Unit)=>(Option.bind (Option.bind (some (.inl ())) (Af fun(_:Unit)=>(if y1.2.2.2=true then(Option.bind (Option.bind (if(!((y1.2.2.1.length:Int) != (2:Int)))=true→((0:Int)≤(0:Int))then(if(!((y1.2.2.1.length:Int) != (2:Int)))=true→(0 < (y1.2.2.1.length:Int))then(if(!(((y1.2.2.1.length:Int) != (2:Int)) || (decide ((A0 y1.2.2.1 (0:Int).toNat) < 48))))=true→((0:Int)≤(0:Int))then(if(!(((y1.2.2.1.length:Int) != (2:Int)) || (decide ((A0 y1.2.2.1 (0:Int).toNat) < 48))))=true→(0 < (y1.2.2.1.length:Int))then(if(!((((y1.2.2.1.length:Int) != (2:Int)) || (decide ((A0 y1.2.2.1 (0:Int).toNat) < 48))) || (decide (57 < (A0 y1.2.2.1 (0:Int).toNat)))))=true→((0:Int)≤(1:Int))then(if(!((((y1.2.2.1.length:Int) != (2:Int)) || (decide ((A0 y1.2.2.1 (0:Int).toNat) < 48))) || (decide (57 < (A0 y1.2.2.1 (0:Int).toNat)))))=true→(1 < (y1.2.2.1.length:Int))then(if(!(((((y1.2.2.1.length:Int) != (2:Int)) || (decide ((A0 y1.2.2.1 (0:Int).toNat) < 48))) || (decide (57 < (A0 y1.2.2.1 (0:Int).toNat)))) || (decide ((A0 y1.2.2.1 (1:Int).toNat) < 48))))=true→((0:Int)≤(1:Int))then(if(!(((((y1.2.2.1.length:Int) != (2:Int)) || (decide ((A0 y1.2.2.1 (0:Int).toNat) < 48))) || (decide (57 < (A0 y1.2.2.1 (0:Int).toNat)))) || (decide ((A0 y1.2.2.1 (1:Int).toNat) < 48))))=true→(1 < (y1.2.2.1.length:Int))then(some (.inl ()))else none)else none)else none)else none)else none)else none)else none)else none) (Af fun(_:Unit)=>(if(((((((y1.2.2.1.length:Int) != (2:Int)) || (decide ((A0 y1.2.2.1 (0:Int).toNat) < 48))) || (decide (57 < (A0 y1.2.2.1 (0:Int).toNat)))) || (decide ((A0 y1.2.2.1 (1:Int).toNat) < 48))) || (decide (57 < (A0 y1.2.2.1 (1:Int).toNat)))) || (y1.2.2.1==([48,48]:List UInt8)))=true then(some (.inr (.inr (((0:Int),false)))))else(some (.inl ()))))) (Af fun(_:Unit)=>(if((0:Int)≤(0:Int))then(if(0 < (y1.2.2.1.length:Int))then(if((0:Int)≤(1:Int))then(if(1 < (y1.2.2.1.length:Int))then(some (.inl (IntKind.wrap .i64 ((IntKind.wrap .i64 ((IntKind.wrap .i64 ((IntKind.wrap .u8 ((A0 y1.2.2.1 (0:Int).toNat) - 48)))) * (10:Int)))+(IntKind.wrap .i64 ((IntKind.wrap .u8 ((A0 y1.2.2.1 (1:Int).toNat) - 48))))))))else none)else none)else none)else none)))else(some (.inl (0:Int)))))) (Af fun(y3:Int)=>(Option.bind (some (.inl ())) (Af fun(_:Unit)=>(Option.bind (Option.bind (some (.inl ())) (Af fun(_:Unit)=>(if(decide ((y1.2.1.length:Int) < (10:Int)))=true then(Option.bind (Option.bind (O9 y1.2.1 (10:Int) (64:Int)) fun r=>some r) fun x12=>(some (.inl x12.1)))else(some (.inl R8))))) (Af fun(y4:Int)=>(Option.bind (some (.inl ())) (Af fun(_:Unit)=>(Option.bind (Option.bind (some (.inl ())) (Af fun(_:Unit)=>(if y1.1=true then(some (.inr (((IntKind.wrap .i64 (0 - (IntKind.wrap .i64 ((IntKind.wrap .i64 (y4 * (100:Int)))+y3)))),((IntKind.wrap .i64 ((IntKind.wrap .i64 (y4 * (100:Int)))+y3)) != 0)))))else(some (.inl ()))))) (Af fun(_:Unit)=>(some ((IntKind.wrap .i64 ((IntKind.wrap .i64 (y4 * (100:Int)))+y3)),true)))))))))))))))))):Option (Int×Bool)):=M137 _
theorem M138 (a0:Int):Yr a0=((some ((decide ((-200000:Int)≤a0))&&(decide (a0≤6000000)))):Option (Bool)):=by kernel_rfl
theorem A138  (a0:Int):Yr a0=((some ((decide ((-200000:Int)≤a0))&&(decide (a0≤6000000)))):Option (Bool)):=M138 _
theorem M114o0 (a0:List UInt8):Mt a0=((Option.bind (Option.bind (Yq a0) fun r=>some r) fun x1=>(if(!x1.2)=true then(some ((4:Int),(0:Int)))else(Option.bind (Option.bind (Yr x1.1) fun r=>some r) fun x4=>(if(!x4)=true then(some ((2:Int),(0:Int)))else(some ((0:Int),x1.1)))))):Option (Int×Int)):=by kernel_rfl
theorem A114o0  (a0:List UInt8):Mt a0=((Option.bind (Option.bind (Yq a0) fun r=>some r) fun x1=>(if(!x1.2)=true then(some ((4:Int),(0:Int)))else(Option.bind (Option.bind (Yr x1.1) fun r=>some r) fun x4=>(if(!x4)=true then(some ((2:Int),(0:Int)))else(some ((0:Int),x1.1)))))):Option (Int×Int)):=M114o0 _
theorem M167 (a0:List UInt8):V7 a0=((Option.bind (some (.inl ())) (Af fun(_:Unit)=>(Option.bind (Option.bind (some (.inl ())) (Af fun(_:Unit)=>(Am (fun(s1:Int×Int)=>((if(decide (s1.2 < (a0.length:Int)))=true then(if(0≤s1.2)then(if(s1.2 < (a0.length:Int))then(if((10:Int)≠0)then(if(decide ((IntKind.wrap .i64 (Int.tdiv (IntKind.wrap .i64 ((4611686018427387904:Int) - (IntKind.wrap .i64 ((IntKind.wrap .u8 ((A0 a0 s1.2.toNat) - 48)))))) (10:Int))) < s1.1))=true then(some (.inr (.inr (((0:Int),false)))))else(some (.inl ((IntKind.wrap .i64 ((IntKind.wrap .i64 ((10:Int) * s1.1))+(IntKind.wrap .i64 ((IntKind.wrap .u8 ((A0 a0 s1.2.toNat) - 48)))))),(IntKind.wrap .i64 (s1.2+1))))))else none)else none)else none)else(some (.inr (.inl s1.1)))):Option ((Int×Int)⊕((Int)⊕(Int×Bool))))) ((0:Int),(0:Int))))) (Af fun(y2:Int)=>(some (y2,true)))))):Option (Int×Bool)):=by kernel_rfl
abbrev Oq (a0:List UInt8):(Int×Int)→Option ((Int×Int)⊕((Int)⊕(Int×Bool))):=(fun(s1:Int×Int)=>((if(decide (s1.2 < (a0.length:Int)))=true then(if(0≤s1.2)then(if(s1.2 < (a0.length:Int))then(if((10:Int)≠0)then(if(decide ((IntKind.wrap .i64 (Int.tdiv (IntKind.wrap .i64 ((4611686018427387904:Int) - (IntKind.wrap .i64 ((IntKind.wrap .u8 ((A0 a0 s1.2.toNat) - 48)))))) (10:Int))) < s1.1))=true then(some (.inr (.inr (((0:Int),false)))))else(some (.inl ((IntKind.wrap .i64 ((IntKind.wrap .i64 ((10:Int) * s1.1))+(IntKind.wrap .i64 ((IntKind.wrap .u8 ((A0 a0 s1.2.toNat) - 48)))))),(IntKind.wrap .i64 (s1.2+1))))))else none)else none)else none)else(some (.inr (.inl s1.1)))):Option ((Int×Int)⊕((Int)⊕(Int×Bool)))))
theorem A167  (a0:List UInt8):V7 a0=((Option.bind (some (.inl ())) (Af fun(_:Unit)=>(Option.bind (Option.bind (some (.inl ())) (Af fun(_:Unit)=>(Am (Oq a0) ((0:Int),(0:Int))))) (Af fun(y2:Int)=>(some (y2,true)))))):Option (Int×Bool)):=M167 _
theorem M149 (a0:List UInt8):Ys a0=((Option.bind (if(decide (0 < (a0.length:Int)))=true→((0:Int)≤(0:Int))then(if(decide (0 < (a0.length:Int)))=true→(0 < (a0.length:Int))then(some (.inl ()))else none)else none) (Af fun(_:Unit)=>(Option.bind (Option.bind (some (.inl ())) (Af fun(_:Unit)=>(if((decide (0 < (a0.length:Int)))&&((A0 a0 (0:Int).toNat)==45))=true then(if((0:Int)≤(1:Int))then(if(1≤(a0.length:Int))then(some (.inl (a0.drop (1:Int).toNat)))else none)else none)else(some (.inl a0))))) (Af fun(y1:(List UInt8))=>(Option.bind (some (.inl ())) (Af fun(_:Unit)=>(Option.bind (Option.bind (if(decide (3 < (y1.length:Int)))=true→(0≤(IntKind.wrap .i64 ((y1.length:Int) - (3:Int))))then(if(decide (3 < (y1.length:Int)))=true→((IntKind.wrap .i64 ((y1.length:Int) - (3:Int))) < (y1.length:Int))then(some (.inl ()))else none)else none) (Af fun(_:Unit)=>(if((decide (3 < (y1.length:Int)))&&((A0 y1 (IntKind.wrap .i64 ((y1.length:Int) - (3:Int))).toNat)==46))=true then(Option.bind (if(0≤(IntKind.wrap .i64 ((y1.length:Int) - (3:Int))))then(if((IntKind.wrap .i64 ((y1.length:Int) - (3:Int)))≤(y1.length:Int))then(if(0≤(IntKind.wrap .i64 ((y1.length:Int) - (2:Int))))then(if((IntKind.wrap .i64 ((y1.length:Int) - (2:Int)))≤(y1.length:Int))then(if(!((y1.drop (IntKind.wrap .i64 ((y1.length:Int) - (2:Int))).toNat)==([48,48]:List UInt8)))=true→((0:Int)≤(0:Int))then(if(!((y1.drop (IntKind.wrap .i64 ((y1.length:Int) - (2:Int))).toNat)==([48,48]:List UInt8)))=true→(0 < ((y1.drop (IntKind.wrap .i64 ((y1.length:Int) - (2:Int))).toNat).length:Int))then(if(!(((y1.drop (IntKind.wrap .i64 ((y1.length:Int) - (2:Int))).toNat)==([48,48]:List UInt8)) || (decide ((A0 (y1.drop (IntKind.wrap .i64 ((y1.length:Int) - (2:Int))).toNat) (0:Int).toNat) < 48))))=true→((0:Int)≤(0:Int))then(if(!(((y1.drop (IntKind.wrap .i64 ((y1.length:Int) - (2:Int))).toNat)==([48,48]:List UInt8)) || (decide ((A0 (y1.drop (IntKind.wrap .i64 ((y1.length:Int) - (2:Int))).toNat) (0:Int).toNat) < 48))))=true→(0 < ((y1.drop (IntKind.wrap .i64 ((y1.length:Int) - (2:Int))).toNat).length:Int))then(if(!((((y1.drop (IntKind.wrap .i64 ((y1.length:Int) - (2:Int))).toNat)==([48,48]:List UInt8)) || (decide ((A0 (y1.drop (IntKind.wrap .i64 ((y1.length:Int) - (2:Int))).toNat) (0:Int).toNat) < 48))) || (decide (57 < (A0 (y1.drop (IntKind.wrap .i64 ((y1.length:Int) - (2:Int))).toNat) (0:Int).toNat)))))=true→((0:Int)≤(1:Int))then(if(!((((y1.drop (IntKind.wrap .i64 ((y1.length:Int) - (2:Int))).toNat)==([48,48]:List UInt8)) || (decide ((A0 (y1.drop (IntKind.wrap .i64 ((y1.length:Int) - (2:Int))).toNat) (0:Int).toNat) < 48))) || (decide (57 < (A0 (y1.drop (IntKind.wrap .i64 ((y1.length:Int) - (2:Int))).toNat) (0:Int).toNat)))))=true→(1 < ((y1.drop (IntKind.wrap .i64 ((y1.length:Int) - (2:Int))).toNat).length:Int))then(if(!(((((y1.drop (IntKind.wrap .i64 ((y1.length:Int) - (2:Int))).toNat)==([48,48]:List UInt8)) || (decide ((A0 (y1.drop (IntKind.wrap .i64 ((y1.length:Int) - (2:Int))).toNat) (0:Int).toNat) < 48))) || (decide (57 < (A0 (y1.drop (IntKind.wrap .i64 ((y1.length:Int) - (2:Int))).toNat) (0:Int).toNat)))) || (decide ((A0 (y1.drop (IntKind.wrap .i64 ((y1.length:Int) - (2:Int))).toNat) (1:Int).toNat) < 48))))=true→((0:Int)≤(1:Int))then(if(!(((((y1.drop (IntKind.wrap .i64 ((y1.length:Int) - (2:Int))).toNat)==([48,48]:List UInt8)) || (decide ((A0 (y1.drop (IntKind.wrap .i64 ((y1.length:Int) - (2:Int))).toNat) (0:Int).toNat) < 48))) || (decide (57 < (A0 (y1.drop (IntKind.wrap .i64 ((y1.length:Int) - (2:Int))).toNat) (0:Int).toNat)))) || (decide ((A0 (y1.drop (IntKind.wrap .i64 ((y1.length:Int) - (2:Int))).toNat) (1:Int).toNat) < 48))))=true→(1 < ((y1.drop (IntKind.wrap .i64 ((y1.length:Int) - (2:Int))).toNat).length:Int))then(some (.inl ()))else none)else none)else none)else none)else none)else none)else none)else none)else none)else none)else none)else none) (Af fun(_:Unit)=>(if((((((y1.drop (IntKind.wrap .i64 ((y1.length:Int) - (2:Int))).toNat)==([48,48]:List UInt8)) || (decide ((A0 (y1.drop (IntKind.wrap .i64 ((y1.length:Int) - (2:Int))).toNat) (0:Int).toNat) < 48))) || (decide (57 < (A0 (y1.drop (IntKind.wrap .i64 ((y1.length:Int) - (2:Int))).toNat) (0:Int).toNat)))) || (decide ((A0 (y1.drop (IntKind.wrap .i64 ((y1.length:Int) - (2:Int))).toNat) (1:Int).toNat) < 48))) || (decide (57 < (A0 (y1.drop (IntKind.wrap .i64 ((y1.length:Int) - (2:Int))).toNat) (1:Int).toNat))))=true then(some (.inr (((0:Int),false,false))))else(some (.inl ((y1.take (IntKind.wrap .i64 ((y1.length:Int) - (3:Int))).toNat),(y1.drop (IntKind.wrap .i64 ((y1.length:Int) - (2:Int))).toNat)))))))else(some (.inl (y1,([48,48]:List UInt8))))))) (Af fun(y2:(List UInt8)×(List UInt8))=>(Option.bind (Option.bind (Option.bind (Option.bind (Py y2.1) fun r=>some r) fun x10=>(some (.inl ((!x10) || ((((decide (0 < (a0.length:Int)))&&((A0 a0 (0:Int).toNat)==45))&&(y2.1==([48]:List UInt8)))&&(y2.2==([48,48]:List UInt8))))))) (Af fun(y3:Bool)=>(if y3=true then(some (.inr (((0:Int),false,false))))else(some (.inl ()))))) (Af fun(_:Unit)=>(Option.bind (Option.bind (Option.bind (V7 y2.1) fun r=>some r) fun x12=>(some (.inl (x12.1,x12.2)))) (Af fun(y4:Int×Bool)=>(Option.bind (Option.bind (some (.inl ())) (Af fun(_:Unit)=>(if((!y4.2) || (decide (1125899906842624 < y4.1)))=true then(some (.inr (((0:Int),true,false))))else(some (.inl ()))))) (Af fun(_:Unit)=>(Option.bind (if((0:Int)≤(0:Int))then(if(0 < (y2.2.length:Int))then(if((0:Int)≤(1:Int))then(if(1 < (y2.2.length:Int))then(some (.inl ()))else none)else none)else none)else none) (Af fun(_:Unit)=>(Option.bind (Option.bind (some (.inl ())) (Af fun(_:Unit)=>(if((decide (0 < (a0.length:Int)))&&((A0 a0 (0:Int).toNat)==45))=true then(some (.inl (IntKind.wrap .i64 (0 - (IntKind.wrap .i64 ((IntKind.wrap .i64 ((IntKind.wrap .i64 ((100:Int) * y4.1))+(IntKind.wrap .i64 ((10:Int) * (IntKind.wrap .i64 ((IntKind.wrap .u8 ((A0 y2.2 (0:Int).toNat) - 48))))))))+(IntKind.wrap .i64 ((IntKind.wrap .u8 ((A0 y2.2 (1:Int).toNat) - 48))))))))))else(some (.inl (IntKind.wrap .i64 ((IntKind.wrap .i64 ((IntKind.wrap .i64 ((100:Int) * y4.1))+(IntKind.wrap .i64 ((10:Int) * (IntKind.wrap .i64 ((IntKind.wrap .u8 ((A0 y2.2 (0:Int).toNat) - 48))))))))+(IntKind.wrap .i64 ((IntKind.wrap .u8 ((A0 y2.2 (1:Int).toNat) - 48))))))))))) (Af fun(y5:Int)=>(some (y5,true,((decide ((-200000:Int)≤y5))&&(decide (y5≤6000000))))))))))))))))))))))):Option (Int×Bool×Bool)):=by kernel_rfl
theorem A149  (a0:List UInt8):Ys a0=((Option.bind (if(decide (0 < (a0.length:Int)))=true→((0:Int)≤(0:Int))then(if(decide (0 < (a0.length:Int)))=true→(0 < (a0.length:Int))then(some (.inl ()))else none)else none) (Af fun(_:Unit)=>(Option.bind (Option.bind (some (.inl ())) (Af fun(_:Unit)=>(if((decide (0 < (a0.length:Int)))&&((A0 a0 (0:Int).toNat)==45))=true then(if((0:Int)≤(1:Int))then(if(1≤(a0.length:Int))then(some (.inl (a0.drop (1:Int).toNat)))else none)else none)else(some (.inl a0))))) (Af fun(y1:(List UInt8))=>(Option.bind (some (.inl ())) (Af fun(_:Unit)=>(Option.bind (Option.bind (if(decide (3 < (y1.length:Int)))=true→(0≤(IntKind.wrap .i64 ((y1.length:Int) - (3:Int))))then(if(decide (3 < (y1.length:Int)))=true→((IntKind.wrap .i64 ((y1.length:Int) - (3:Int))) < (y1.length:Int))then(some (.inl ()))else none)else none) (Af fun(_:Unit)=>(if((decide (3 < (y1.length:Int)))&&((A0 y1 (IntKind.wrap .i64 ((y1.length:Int) - (3:Int))).toNat)==46))=true then(Option.bind (if(0≤(IntKind.wrap .i64 ((y1.length:Int) - (3:Int))))then(if((IntKind.wrap .i64 ((y1.length:Int) - (3:Int)))≤(y1.length:Int))then(if(0≤(IntKind.wrap .i64 ((y1.length:Int) - (2:Int))))then(if((IntKind.wrap .i64 ((y1.length:Int) - (2:Int)))≤(y1.length:Int))then(if(!((y1.drop (IntKind.wrap .i64 ((y1.length:Int) - (2:Int))).toNat)==([48,48]:List UInt8)))=true→((0:Int)≤(0:Int))then(if(!((y1.drop (IntKind.wrap .i64 ((y1.length:Int) - (2:Int))).toNat)==([48,48]:List UInt8)))=true→(0 < ((y1.drop (IntKind.wrap .i64 ((y1.length:Int) - (2:Int))).toNat).length:Int))then(if(!(((y1.drop (IntKind.wrap .i64 ((y1.length:Int) - (2:Int))).toNat)==([48,48]:List UInt8)) || (decide ((A0 (y1.drop (IntKind.wrap .i64 ((y1.length:Int) - (2:Int))).toNat) (0:Int).toNat) < 48))))=true→((0:Int)≤(0:Int))then(if(!(((y1.drop (IntKind.wrap .i64 ((y1.length:Int) - (2:Int))).toNat)==([48,48]:List UInt8)) || (decide ((A0 (y1.drop (IntKind.wrap .i64 ((y1.length:Int) - (2:Int))).toNat) (0:Int).toNat) < 48))))=true→(0 < ((y1.drop (IntKind.wrap .i64 ((y1.length:Int) - (2:Int))).toNat).length:Int))then(if(!((((y1.drop (IntKind.wrap .i64 ((y1.length:Int) - (2:Int))).toNat)==([48,48]:List UInt8)) || (decide ((A0 (y1.drop (IntKind.wrap .i64 ((y1.length:Int) - (2:Int))).toNat) (0:Int).toNat) < 48))) || (decide (57 < (A0 (y1.drop (IntKind.wrap .i64 ((y1.length:Int) - (2:Int))).toNat) (0:Int).toNat)))))=true→((0:Int)≤(1:Int))then(if(!((((y1.drop (IntKind.wrap .i64 ((y1.length:Int) - (2:Int))).toNat)==([48,48]:List UInt8)) || (decide ((A0 (y1.drop (IntKind.wrap .i64 ((y1.length:Int) - (2:Int))).toNat) (0:Int).toNat) < 48))) || (decide (57 < (A0 (y1.drop (IntKind.wrap .i64 ((y1.length:Int) - (2:Int))).toNat) (0:Int).toNat)))))=true→(1 < ((y1.drop (IntKind.wrap .i64 ((y1.length:Int) - (2:Int))).toNat).length:Int))then(if(!(((((y1.drop (IntKind.wrap .i64 ((y1.length:Int) - (2:Int))).toNat)==([48,48]:List UInt8)) || (decide ((A0 (y1.drop (IntKind.wrap .i64 ((y1.length:Int) - (2:Int))).toNat) (0:Int).toNat) < 48))) || (decide (57 < (A0 (y1.drop (IntKind.wrap .i64 ((y1.length:Int) - (2:Int))).toNat) (0:Int).toNat)))) || (decide ((A0 (y1.drop (IntKind.wrap .i64 ((y1.length:Int) - (2:Int))).toNat) (1:Int).toNat) < 48))))=true→((0:Int)≤(1:Int))then(if(!(((((y1.drop (IntKind.wrap .i64 ((y1.length:Int) - (2:Int))).toNat)==([48,48]:List UInt8)) || (decide ((A0 (y1.drop (IntKind.wrap .i64 ((y1.length:Int) - (2:Int))).toNat) (0:Int).toNat) < 48))) || (decide (57 < (A0 (y1.drop (IntKind.wrap .i64 ((y1.length:Int) - (2:Int))).toNat) (0:Int).toNat)))) || (decide ((A0 (y1.drop (IntKind.wrap .i64 ((y1.length:Int) - (2:Int))).toNat) (1:Int).toNat) < 48))))=true→(1 < ((y1.drop (IntKind.wrap .i64 ((y1.length:Int) - (2:Int))).toNat).length:Int))then(some (.inl ()))else none)else none)else none)else none)else none)else none)else none)else none)else none)else none)else none)else none) (Af fun(_:Unit)=>(if((((((y1.drop (IntKind.wrap .i64 ((y1.length:Int) - (2:Int))).toNat)==([48,48]:List UInt8)) || (decide ((A0 (y1.drop (IntKind.wrap .i64 ((y1.length:Int) - (2:Int))).toNat) (0:Int).toNat) < 48))) || (decide (57 < (A0 (y1.drop (IntKind.wrap .i64 ((y1.length:Int) - (2:Int))).toNat) (0:Int).toNat)))) || (decide ((A0 (y1.drop (IntKind.wrap .i64 ((y1.length:Int) - (2:Int))).toNat) (1:Int).toNat) < 48))) || (decide (57 < (A0 (y1.drop (IntKind.wrap .i64 ((y1.length:Int) - (2:Int))).toNat) (1:Int).toNat))))=true then(some (.inr (((0:Int),false,false))))else(some (.inl ((y1.take (IntKind.wrap .i64 ((y1.length:Int) - (3:Int))).toNat),(y1.drop (IntKind.wrap .i64 ((y1.length:Int) - (2:Int))).toNat)))))))else(some (.inl (y1,([48,48]:List UInt8))))))) (Af fun(y2:(List UInt8)×(List UInt8))=>(Option.bind (Option.bind (Option.bind (Option.bind (Py y2.1) fun r=>some r) fun x10=>(some (.inl ((!x10) || ((((decide (0 < (a0.length:Int)))&&((A0 a0 (0:Int).toNat)==45))&&(y2.1==([48]:List UInt8)))&&(y2.2==([48,48]:List UInt8))))))) (Af fun(y3:Bool)=>(if y3=true then(some (.inr (((0:Int),false,false))))else(some (.inl ()))))) (Af fun(_:Unit)=>(Option.bind (Option.bind (Option.bind (V7 y2.1) fun r=>some r) fun x12=>(some (.inl (x12.1,x12.2)))) (Af fun(y4:Int×Bool)=>(Option.bind (Option.bind (some (.inl ())) (Af fun(_:Unit)=>(if((!y4.2) || (decide (1125899906842624 < y4.1)))=true then(some (.inr (((0:Int),true,false))))else(some (.inl ()))))) (Af fun(_:Unit)=>(Option.bind (if((0:Int)≤(0:Int))then(if(0 < (y2.2.length:Int))then(if((0:Int)≤(1:Int))then(if(1 < (y2.2.length:Int))then(some (.inl ()))else none)else none)else none)else none) (Af fun(_:Unit)=>(Option.bind (Option.bind (some (.inl ())) (Af fun(_:Unit)=>(if((decide (0 < (a0.length:Int)))&&((A0 a0 (0:Int).toNat)==45))=true then(some (.inl (IntKind.wrap .i64 (0 - (IntKind.wrap .i64 ((IntKind.wrap .i64 ((IntKind.wrap .i64 ((100:Int) * y4.1))+(IntKind.wrap .i64 ((10:Int) * (IntKind.wrap .i64 ((IntKind.wrap .u8 ((A0 y2.2 (0:Int).toNat) - 48))))))))+(IntKind.wrap .i64 ((IntKind.wrap .u8 ((A0 y2.2 (1:Int).toNat) - 48))))))))))else(some (.inl (IntKind.wrap .i64 ((IntKind.wrap .i64 ((IntKind.wrap .i64 ((100:Int) * y4.1))+(IntKind.wrap .i64 ((10:Int) * (IntKind.wrap .i64 ((IntKind.wrap .u8 ((A0 y2.2 (0:Int).toNat) - 48))))))))+(IntKind.wrap .i64 ((IntKind.wrap .u8 ((A0 y2.2 (1:Int).toNat) - 48))))))))))) (Af fun(y5:Int)=>(some (y5,true,((decide ((-200000:Int)≤y5))&&(decide (y5≤6000000))))))))))))))))))))))):Option (Int×Bool×Bool)):=M149 _
theorem M129 (a0:List UInt8):Yp a0=((Option.bind (Option.bind (Ys a0) fun r=>some r) fun x1=>(if(!x1.2.1)=true then(some ((0:Int),(4:Int)))else(if(!x1.2.2)=true then(some ((0:Int),(2:Int)))else(some (x1.1,(0:Int)))))):Option (Int×Int)):=by kernel_rfl
theorem A129  (a0:List UInt8):Yp a0=((Option.bind (Option.bind (Ys a0) fun r=>some r) fun x1=>(if(!x1.2.1)=true then(some ((0:Int),(4:Int)))else(if(!x1.2.2)=true then(some ((0:Int),(2:Int)))else(some (x1.1,(0:Int)))))):Option (Int×Int)):=M129 _
def D7 (t:List UInt8):List UInt8×List UInt8×Bool:=if Lib.indexByte t 46 < 0 then(t,[],false)else(t.take (Lib.indexByte t 46).toNat,t.drop ((Lib.indexByte t 46).toNat+1),true)
theorem AA9 (s:List UInt8) (hs:s.length≤1000):Px s [46]=some (D7 s):=by
 rw[A120,A144]
 have hI:V6 s [46]=some (Lib.indexByte s 46):=rfl
 rw[hI]
 simp only[bs]
 unfold D7
 by_cases h:Lib.indexByte s 46 < 0
 ·rw[if_neg (by simpa using h),if_pos h]
  rfl
 ·obtain⟨o,ho⟩:=Int.eq_ofNat_of_zero_le (by omega:0≤Lib.indexByte s 46)
  have hlt:=(List.getElem?_eq_some_iff.1 (Lib.indexByte_some ho).1).1
  rw[if_pos (by simpa using h),if_neg h,ho]
  have e:IntKind.wrap .i64 ((o:Int)+(([46]:List UInt8).length:Int))=((o+1:Nat):Int):=by rw[show (([46]:List UInt8).length:Int)=1 from rfl];exact wn (by omega)
  rw[e,if_pos (by omega),if_pos (by omega),if_pos (by omega),if_pos (by omega)]
  rfl
def k2 (h:List UInt8):Int:=(A0 h 0 - 48) * 10+(A0 h 1 - 48)
def Mj (h:List UInt8):Bool:=((((((h.length:Int) != (2:Int)) || (decide (A0 h 0 < 48))) || (decide (57 < A0 h 0))) || (decide (A0 h 1 < 48))) || (decide (57 < A0 h 1))) || (h==[48,48])
def Ef (f:List UInt8):Int:=if f.length < 10 then(B5 0 f:Int)else 1099511627776
theorem sx {h:List UInt8} (hb:Mj h=false):h.length=2∧(48≤A0 h 0∧A0 h 0≤57)∧(48≤A0 h 1∧A0 h 1≤57)∧h≠[48,48]:=by
 unfold Mj at hb
 simp only[Bool.or_eq_false_iff,bne_eq_false_iff_eq,decide_eq_false_iff_not,beq_eq_false_iff_ne]at hb
 obtain⟨⟨⟨⟨⟨h1,h2⟩,h3⟩,h4⟩,h5⟩,h6⟩:=hb
 exact⟨by omega,⟨by omega,by omega⟩,⟨by omega,by omega⟩,h6⟩
theorem k2_ne {h:List UInt8} (hb:Mj h=false):0 < k2 h∧k2 h≤99:=by
 obtain⟨h1,h2,h3,h4⟩:=sx hb
 unfold k2
 refine⟨?_,by omega⟩
 match h,h1 with
 | [a,b],_ =>
  simp only[show A0 [a,b] 0=(a.toNat:Int) from rfl,show A0 [a,b] 1=(b.toNat:Int) from rfl]at h2 h3 ⊢
  by_cases hc:a.toNat=48∧b.toNat=48
  ·exact absurd (by rw[show a=48 from UInt8.toNat_inj.1 hc.1,show b=48 from UInt8.toNat_inj.1 hc.2]) h4
  ·omega
def Xf (f h:List UInt8) (p:Bool):Int:=Ef f * 100+(if p=true then k2 h else 0)
def Mi (s:List UInt8):Int×Bool :=
 if Dr (D7 (bd s)).1=false then(0,false)
 else if(D7 (bd s)).2.2=true∧Mj (D7 (bd s)).2.1=true then(0,false)
 else if ng s=true then(-(Xf (D7 (bd s)).1 (D7 (bd s)).2.1 (D7 (bd s)).2.2),Xf (D7 (bd s)).1 (D7 (bd s)).2.1 (D7 (bd s)).2.2 != 0)
 else(Xf (D7 (bd s)).1 (D7 (bd s)).2.1 (D7 (bd s)).2.2,true)
theorem Cp {b:Bool} {p:Prop} [Decidable p] {α:Type} {x y:Option α} (h:b=true→p):(if b=true→p then x else y)=x:=if_pos h
theorem Wa {h:List UInt8} {i:Nat} (hb:48≤A0 h i∧A0 h i≤57):IntKind.wrap .i64 (IntKind.wrap .u8 ((A0 h i) - 48))=A0 h i - 48:=by
 rw[show IntKind.wrap .u8 (A0 h i - 48)=A0 h i - 48 from IntWalk.u8_in _ (by omega),Bh (by omega) (by omega)]
theorem AAk {f:List UInt8} (h:Dr f=true) (hl:f.length < 10):(bc f).1=(B5 0 f:Int):=by
 have P:=Nu h
 have hng:ng f=false:=by
  cases f with
  | nil=>rfl
  | cons a l =>
   have:=P.dg
   rw[List.all_cons,Bool.and_eq_true]at this
   have:=Kt this.1
   unfold ng
   rw[show A0 (a :: l) 0=(a.toNat:Int) from rfl,show ((a.toNat:Int)==45)=false from by simp;omega]
   simp
 have hbd:bd f=f:=by unfold bd;rw[hng];rfl
 have hs:=Vg P hl
 have hz:O4 f=(B5 0 f:Int):=by unfold O4;rw[hng,hbd];rfl
 rcases yb (s:=f) (by rw[hbd];exact h) with e | ⟨_,e⟩
 ·rw[e,← hz]
 ·rw[hz]at e;omega
theorem m4 {f:List UInt8} (h:Dr f=true):0≤Ef f∧Ef f≤1099511627776:=by
 unfold Ef
 split
 ·rename_i hl;have:=Vg (Nu h) hl;omega
 ·exact⟨by decide,Int.le_refl _⟩
theorem ks (s:List UInt8) (hs:s.length≤1000):Yq s=some (Mi s):=by
 have hb:=W9 s
 rw[A137,Qu s hs]
 simp only[bs]
 rw[AA9 (bd s) (by omega)]
 simp only[bs,ol]
 unfold Mi
 have hfl:(D7 (bd s)).1.length≤1000:=by unfold D7;split;(· simp;omega);simp;omega
 generalize (D7 (bd s))=C at hfl
 obtain⟨f,h,p⟩:=C
 simp only at hfl ⊢
 rw[qy f hfl]
 simp only[bs,ol]
 cases hp:Dr f with
 | false=>rfl
 | true =>
  rw[if_neg (by decide:¬ (true=false))]
  simp only[Bool.not_true,Bool.false_eq_true,if_false,bs,ol]
  have tail:∀ y3:Int,0≤y3→y3≤99→(Option.bind (Option.bind (some (.inl ())) (Af fun(_:Unit)=>(if(decide ((f.length:Int) < (10:Int)))=true then(Option.bind (Option.bind (O9 f (10:Int) (64:Int)) fun r=>some r) fun x12=>(some (.inl x12.1)))else(some (.inl R8))))) (Af fun(y4:Int)=>(Option.bind (some (.inl ())) (Af fun(_:Unit)=>(Option.bind (Option.bind (some (.inl ())) (Af fun(_:Unit)=>(if ng s=true then(some (.inr (((IntKind.wrap .i64 (0 - (IntKind.wrap .i64 ((IntKind.wrap .i64 (y4 * (100:Int)))+y3)))),((IntKind.wrap .i64 ((IntKind.wrap .i64 (y4 * (100:Int)))+y3)) != 0)))))else(some (.inl ()))))) (Af fun(_:Unit)=>(some ((IntKind.wrap .i64 ((IntKind.wrap .i64 (y4 * (100:Int)))+y3)),true))))))):Option (Int×Bool))=some (if ng s=true then(-(Ef f * 100+y3),(Ef f * 100+y3) != 0)else(Ef f * 100+y3,true)):=fun y3 g1 g2=>by
   have hy:(if(decide ((f.length:Int) < (10:Int)))=true then(Option.bind (Option.bind (O9 f (10:Int) (64:Int)) fun r=>some r) fun x12=>(some (.inl x12.1)))else(some (.inl R8)):Option (Int⊕(Int×Bool)))=some (.inl (Ef f)):=by
    unfold Ef
    by_cases hl:f.length < 10
    ·rw[if_pos (by simpa using (by omega:(f.length:Int) < 10)),if_pos hl,show O9 f 10 64=some (bc f) from if_pos ⟨by omega,rfl,rfl⟩]
     simp only[bs]
     rw[AAk hp hl]
    ·rw[if_neg (by simpa using (by omega:¬ (f.length:Int) < 10)),if_neg hl]
     rfl
   simp only[bs,ol]
   rw[hy]
   have hN:=m4 hp
   generalize Ef f=N at hN
   simp only[bs,ol]
   rw[show IntKind.wrap .i64 (N * 100)=N * 100 from Bh (by omega) (by omega),show IntKind.wrap .i64 (N * 100+y3)=N * 100+y3 from Bh (by omega) (by omega),show IntKind.wrap .i64 (0 - (N * 100+y3)) = -(N * 100+y3) from by rw[Bh (by omega) (by omega)];omega]
   cases ng s<;>rfl
  cases p with
  | false =>
   simp only[Bool.false_eq_true,if_false,false_and,bs,ol]
   have:=tail 0 (by decide) (by decide)
   simp only[bs,ol]at this
   rw[this]
   unfold Xf
   rfl
  | true =>
   simp only[if_true,true_and]
   have gA:∀ {b:Bool},(b=true→((h.length:Int) != 2)=false)→(b=true→(0:Int) < (h.length:Int)):=fun e hb=>by
    have:=e hb
    rw[bne_eq_false_iff_eq]at this
    omega
   have gB:∀ {b:Bool},(b=true→((h.length:Int) != 2)=false)→(b=true→(1:Int) < (h.length:Int)):=fun e hb=>by
    have:=e hb
    rw[bne_eq_false_iff_eq]at this
    omega
   have hcond:((((((((h.length:Int) != (2:Int)) || (decide ((A0 h (0:Int).toNat) < 48))) || (decide (57 < (A0 h (0:Int).toNat)))) || (decide ((A0 h (1:Int).toNat) < 48))) || (decide (57 < (A0 h (1:Int).toNat)))) || (h==([48,48]:List UInt8))))=Mj h:=rfl
   rw[Cp (fun _=>by decide),Cp (gA (fun h=>by simpa using h)),Cp (fun _=>by decide),Cp (gA (fun h=>by simp at h ⊢;exact h.1)),Cp (fun _=>by decide),Cp (gB (fun h=>by simp at h ⊢;exact h.1.1)),Cp (fun _=>by decide),Cp (gB (fun h=>by simp at h ⊢;exact h.1.1.1))]
   simp only[bs,ol]
   rw[hcond]
   cases hbh:Mj h with
   | true=>rfl
   | false =>
    obtain⟨g1,g2,g3,g4⟩:=sx hbh
    have hk:=k2_ne hbh
    simp only[Bool.false_eq_true,if_false,bs,ol]
    rw[if_pos (by decide),if_pos (by omega),if_pos (by decide),if_pos (by omega)]
    rw[show (0:Int).toNat=0 from rfl,show (1:Int).toNat=1 from rfl,Wa g2,Wa g3]
    have ek:IntKind.wrap .i64 (IntKind.wrap .i64 ((A0 h 0 - 48) * 10)+(A0 h 1 - 48))=k2 h:=by
     unfold k2
     rw[Bh (x:=(A0 h 0 - 48) * 10) (by omega) (by omega),Bh (by omega) (by omega)]
    rw[ek]
    have:=tail (k2 h) (by omega) hk.2
    simp only[bs,ol]at this ⊢
    rw[this]
    unfold Xf
    rfl
theorem zc (n:Int):Yr n=some ((decide ((-200000:Int)≤n))&&(decide (n≤6000000))):=by rw[A138]
theorem AB4 (y:List UInt8) (hy:y.length≤1000) (hd:y.all Hy=true):∀ (k i:Nat),i+k=y.length→B5 0 (y.take i)≤4611686018427387904 →
  Am (Oq y) ((B5 0 (y.take i):Int),(i:Int))=some (if B5 0 y≤4611686018427387904 then .inl (B5 0 y:Int)else .inr (0,false)):=by
 intro k
 induction k with
 | zero =>
  intro i hi hv
  obtain rfl:i=y.length:=by omega
  rw[List.take_length]at hv ⊢
  refine Be ?_
  simp only[Oq,Int.lt_irrefl,decide_false,Bool.false_eq_true,if_false,bs,ol,Lh]
  rw[if_pos hv]
 | succ k ih =>
  intro i hi hv
  have hl:i < y.length:=by omega
  have hli:(i:Int) < (y.length:Int):=by omega
  have hb:Hy y[i]=true:=List.all_eq_true.1 hd _ (List.getElem_mem hl)
  have hb2:=Kt hb
  have ht:B5 0 (y.take (i+1))=10 * B5 0 (y.take i)+((y[i]).toNat - 48):=by
   rw[List.take_add_one,List.getElem?_eq_getElem hl]
   unfold B5
   rw[List.foldl_append]
   rfl
  have hsplit:B5 0 y=B5 (B5 0 (y.take (i+1))) (y.drop (i+1)):=by
   conv=>lhs;rw[← List.take_append_drop (i+1) y]
   unfold B5
   rw[List.foldl_append]
  have hge:=P9 (y.drop (i+1)) (B5 0 (y.take (i+1)))
  generalize B5 0 (y.take i)=v at hv ht ⊢
  generalize hdd:(y[i]).toNat - 48=d at ht
  have hd9:d≤9:=by omega
  have e1:IntKind.wrap .i64 (IntKind.wrap .u8 ((A0 y i) - 48))=(d:Int):=by rw[Ky hl,u8d hb2,hdd]
  have e2:IntKind.wrap .i64 ((4611686018427387904:Int) - (d:Int))=((4611686018427387904 - d:Nat):Int):=by rw[Bh (by omega) (by omega)];omega
  have e3:Int.tdiv ((4611686018427387904 - d:Nat):Int) 10=(((4611686018427387904 - d) / 10:Nat):Int):=rfl
  by_cases hc:10 * v+d≤4611686018427387904
  ·refine Bg (s':=(((10 * v+d:Nat):Int),((i+1:Nat):Int))) ?_ ?_
   ·simp only[Oq,Int.toNat_natCast,hli,decide_true,if_true,show (0:Int)≤(i:Int) from by omega,bs,ol,Lh,e1,e2,e3,show ((10:Int)≠0)=True from by decide]
    rw[show IntKind.wrap .i64 (((4611686018427387904 - d) / 10:Nat):Int)=(((4611686018427387904 - d) / 10:Nat):Int) from Bh (by omega) (by omega)]
    rw[if_neg (by simp;omega)]
    rw[show IntKind.wrap .i64 ((10:Int) * (v:Int))=((10 * v:Nat):Int) from by rw[Bh (by omega) (by omega)];omega]
    rw[show IntKind.wrap .i64 (((10 * v:Nat):Int)+(d:Int))=((10 * v+d:Nat):Int) from by rw[Bh (by omega) (by omega)];omega,wn (by omega)]
   ·have:=ih (i+1) (by omega) (by rw[ht];exact hc)
    rw[ht]at this
    exact this
  ·rw[if_neg (by omega)]
   refine Be ?_
   simp only[Oq,Int.toNat_natCast,hli,decide_true,if_true,show (0:Int)≤(i:Int) from by omega,bs,ol,Lh,e1,e2,e3,show ((10:Int)≠0)=True from by decide]
   rw[show IntKind.wrap .i64 (((4611686018427387904 - d) / 10:Nat):Int)=(((4611686018427387904 - d) / 10:Nat):Int) from Bh (by omega) (by omega)]
   rw[if_pos (by simp;omega)]
theorem AB5 (y:List UInt8) (hy:y.length≤1000) (hd:y.all Hy=true):V7 y=some (if B5 0 y≤4611686018427387904 then((B5 0 y:Int),true)else(0,false)):=by
 rw[A167]
 have:=AB4 y hy hd _ 0 (Nat.zero_add _) (by show (0:Nat)≤_;omega)
 rw[show ((B5 0 (y.take 0):Int),((0:Nat):Int))=((0:Int),(0:Int)) from rfl]at this
 simp only[bs,ol]
 rw[this]
 split<;>rfl
def Cj (t:List UInt8):Bool:=decide (3 < t.length)&&(A0 t (t.length - 3)==46)
def L9 (h:List UInt8):Bool:=((((h==[48,48]) || (decide (A0 h 0 < 48))) || (decide (57 < A0 h 0))) || (decide (A0 h 1 < 48))) || (decide (57 < A0 h 1))
def wp (t:List UInt8):List UInt8×List UInt8:=if Cj t=true then(t.take (t.length - 3),t.drop (t.length - 2))else(t,[48,48])
def G7 (s:List UInt8):Int×Bool×Bool :=
 if Cj (bd s)=true∧L9 ((bd s).drop ((bd s).length - 2))=true then(0,false,false)
 else if(!Dr (wp (bd s)).1 || ((ng s&&((wp (bd s)).1==[48]))&&((wp (bd s)).2==[48,48])))=true then(0,false,false)
 else if 1125899906842624 < B5 0 (wp (bd s)).1 then(0,true,false)
 else let n:=100 * (B5 0 (wp (bd s)).1:Int)+k2 (wp (bd s)).2
  let z:=if ng s=true then -n else n
  (z,true,(decide ((-200000:Int)≤z))&&(decide (z≤6000000)))
theorem rz (s:List UInt8) (hs:s.length≤1000):Ys s=some (G7 s):=by
 have hb:=W9 s
 rw[A149,wx]
 rw[if_pos (by intro _;decide),if_pos (by intro h;simpa using h)]
 simp only[bs,ol]
 have e:(if ng s=true then(if((0:Int)≤(1:Int))then(if(1≤(s.length:Int))then(some (.inl (s.drop (1:Int).toNat)))else none)else none)else(some (.inl s)))=(some (.inl (bd s)):Option (List UInt8⊕(Int×Bool×Bool))):=by
  unfold bd
  by_cases hn:ng s=true
  ·rw[if_pos hn,if_pos hn,if_pos (by decide),if_pos (by unfold ng at hn;rw[Bool.and_eq_true]at hn;have:=of_decide_eq_true hn.1;omega)]
   rfl
  ·rw[if_neg hn,if_neg hn]
 rw[e]
 simp only[bs,ol]
 unfold G7
 generalize ht:bd s=t at hb
 have hlen:t.length≤1000:=by omega
 have e3:3 < t.length→IntKind.wrap .i64 ((t.length:Int) - (3:Int))=((t.length - 3:Nat):Int):=fun h=>by rw[Bh (by omega) (by omega)];omega
 have e2:3 < t.length→IntKind.wrap .i64 ((t.length:Int) - (2:Int))=((t.length - 2:Nat):Int):=fun h=>by rw[Bh (by omega) (by omega)];omega
 have d3:decide (3 < (t.length:Int))=decide (3 < t.length):=decide_eq_decide.2 (by omega)
 rw[d3,if_pos (by intro h;rw[e3 (of_decide_eq_true h)];omega),if_pos (by intro h;rw[e3 (of_decide_eq_true h)];have:=of_decide_eq_true h;omega)]
 simp only[bs,ol]
 have hdot:((decide (3 < t.length))&&((A0 t (IntKind.wrap .i64 ((t.length:Int) - (3:Int))).toNat)==46))=Cj t:=by
  unfold Cj
  by_cases h:3 < t.length
  ·rw[e3 h,Int.toNat_natCast]
  ·simp[h]
 rw[hdot]
 have tail:∀ (w q:List UInt8),w.length≤1000→q.length=2→(48≤A0 q 0∧A0 q 0≤57)→(48≤A0 q 1∧A0 q 1≤57) →
   ((Option.bind (Option.bind (Option.bind (Option.bind (Py w) fun r=>some r) fun x10=>(some (.inl ((!x10) || ((ng s&&(w==([48]:List UInt8)))&&(q==([48,48]:List UInt8))))))) (Af fun(y3:Bool)=>(if y3=true then(some (.inr (((0:Int),false,false))))else(some (.inl ()))))) (Af fun(_:Unit)=>(Option.bind (Option.bind (Option.bind (V7 w) fun r=>some r) fun x12=>(some (.inl (x12.1,x12.2)))) (Af fun(y4:Int×Bool)=>(Option.bind (Option.bind (some (.inl ())) (Af fun(_:Unit)=>(if((!y4.2) || (decide (1125899906842624 < y4.1)))=true then(some (.inr (((0:Int),true,false))))else(some (.inl ()))))) (Af fun(_:Unit)=>(Option.bind (if((0:Int)≤(0:Int))then(if(0 < (q.length:Int))then(if((0:Int)≤(1:Int))then(if(1 < (q.length:Int))then(some (.inl ()))else none)else none)else none)else none) (Af fun(_:Unit)=>(Option.bind (Option.bind (some (.inl ())) (Af fun(_:Unit)=>(if ng s=true then(some (.inl (IntKind.wrap .i64 (0 - (IntKind.wrap .i64 ((IntKind.wrap .i64 ((IntKind.wrap .i64 ((100:Int) * y4.1))+(IntKind.wrap .i64 ((10:Int) * (IntKind.wrap .i64 ((IntKind.wrap .u8 ((A0 q (0:Int).toNat) - 48))))))))+(IntKind.wrap .i64 ((IntKind.wrap .u8 ((A0 q (1:Int).toNat) - 48))))))))))else(some (.inl (IntKind.wrap .i64 ((IntKind.wrap .i64 ((IntKind.wrap .i64 ((100:Int) * y4.1))+(IntKind.wrap .i64 ((10:Int) * (IntKind.wrap .i64 ((IntKind.wrap .u8 ((A0 q (0:Int).toNat) - 48))))))))+(IntKind.wrap .i64 ((IntKind.wrap .u8 ((A0 q (1:Int).toNat) - 48))))))))))) (Af fun(y5:Int)=>(some (y5,true,((decide ((-200000:Int)≤y5))&&(decide (y5≤6000000))))))))))))))):Option (Int×Bool×Bool)) =
   some (if(!Dr w || ((ng s&&(w==[48]))&&(q==[48,48])))=true then(0,false,false)
    else if 1125899906842624 < B5 0 w then(0,true,false)
    else let n:=100 * (B5 0 w:Int)+k2 q
     let z:=if ng s=true then -n else n
     (z,true,(decide ((-200000:Int)≤z))&&(decide (z≤6000000)))):=fun w q hw hq q0 q1=>by
  rw[qz w hw]
  simp only[bs,ol]
  cases hc:(!Dr w || ((ng s&&(w==[48]))&&(q==[48,48]))) with
  | true=>rfl
  | false =>
   have hp:Dr w=true:=by
    cases h:Dr w with
    | true=>rfl
    | false=>rw[h]at hc;simp at hc
   simp only[Bool.false_eq_true,if_false,bs,ol]
   rw[AB5 w hw (Nu hp).dg]
   generalize B5 0 w=v
   simp only[bs,ol]
   by_cases hv:v≤1125899906842624
   ·rw[if_pos (by omega:v≤4611686018427387904),if_neg (show ¬ ((!true) || (decide (1125899906842624 < (v:Int))))=true from by simp;omega),if_neg (show ¬ 1125899906842624 < v from by omega)]
    simp only[bs,ol]
    rw[if_pos (by decide),if_pos (by omega),if_pos (by decide),if_pos (by omega)]
    simp only[bs,ol]
    rw[show (0:Int).toNat=0 from rfl,show (1:Int).toNat=1 from rfl,Wa q0,Wa q1]
    have ek:IntKind.wrap .i64 (IntKind.wrap .i64 (IntKind.wrap .i64 (100 * (v:Int))+IntKind.wrap .i64 (10 * (A0 q 0 - 48)))+(A0 q 1 - 48))=100 * (v:Int)+k2 q:=by
     unfold k2
     rw[Bh (x:=100 * (v:Int)) (by omega) (by omega),Bh (x:=10 * (A0 q 0 - 48)) (by omega) (by omega),Bh (x:=100 * (v:Int)+10 * (A0 q 0 - 48)) (by omega) (by omega),Bh (by omega) (by omega)]
     omega
    rw[ek]
    have hk:0≤k2 q∧k2 q≤99:=by unfold k2;omega
    cases hn:ng s with
    | true =>
     simp only[if_true,bs,ol]
     rw[show IntKind.wrap .i64 (0 - (100 * (v:Int)+k2 q)) = -(100 * (v:Int)+k2 q) from by rw[Bh (by omega) (by omega)];omega]
    | false=>simp only[Bool.false_eq_true,if_false,bs,ol]
   ·rw[if_pos (show 1125899906842624 < v from by omega)]
    by_cases h62:v≤4611686018427387904
    ·rw[if_pos h62,if_pos (show ((!true) || (decide (1125899906842624 < (v:Int))))=true from by simp;omega)]
     rfl
    ·rw[if_neg h62];rfl
 unfold wp
 cases hd:Cj t with
 | false =>
  simp only[Bool.false_eq_true,if_false,false_and,bs,ol]
  have:=tail t [48,48] hlen rfl (by decide) (by decide)
  simp only[bs,ol]at this ⊢
  exact this
 | true =>
  have h3:3 < t.length:=by unfold Cj at hd;rw[Bool.and_eq_true]at hd;exact of_decide_eq_true hd.1
  simp only[if_true,true_and]
  rw[e3 h3,e2 h3,if_pos (by omega),if_pos (by omega),if_pos (by omega),if_pos (by omega)]
  simp only[Int.toNat_natCast]
  have hl2:((t.drop (t.length - 2)).length:Int)=2:=by simp;omega
  have g0:∀ {b:Bool},b=true→(0:Int) < ((t.drop (t.length - 2)).length:Int):=fun _=>by omega
  have g1:∀ {b:Bool},b=true→(1:Int) < ((t.drop (t.length - 2)).length:Int):=fun _=>by omega
  rw[Cp (fun _=>by decide),Cp g0,Cp (fun _=>by decide),Cp g0,Cp (fun _=>by decide),Cp g1,Cp (fun _=>by decide),Cp g1]
  simp only[bs,ol]
  have hcond:((((((t.drop (t.length - 2))==([48,48]:List UInt8)) || (decide ((A0 (t.drop (t.length - 2)) (0:Int).toNat) < 48))) || (decide (57 < (A0 (t.drop (t.length - 2)) (0:Int).toNat)))) || (decide ((A0 (t.drop (t.length - 2)) (1:Int).toNat) < 48))) || (decide (57 < (A0 (t.drop (t.length - 2)) (1:Int).toNat))))=L9 (t.drop (t.length - 2)):=rfl
  rw[hcond]
  cases hbp:L9 (t.drop (t.length - 2)) with
  | true=>rfl
  | false =>
   have hq:=hbp
   unfold L9 at hq
   simp only[Bool.or_eq_false_iff,decide_eq_false_iff_not]at hq
   simp only[Bool.false_eq_true,if_false,bs,ol]
   have:=tail (t.take (t.length - 3)) (t.drop (t.length - 2)) (by simp;omega) (by omega) (by omega) (by omega)
   simp only[bs,ol]at this ⊢
   exact this
end Go.Av.Txs
set_option maxRecDepth 100000
namespace Go.Av.Txs
open Go.Av
def jr (f q:List UInt8) (b:Bool):Int×Bool×Bool:=if 1125899906842624 < B5 0 f then(0,true,false)
 else let n:=100 * (B5 0 f:Int)+k2 q
  let z:=if b=true then -n else n
  (z,true,(decide ((-200000:Int)≤z))&&(decide (z≤6000000)))
theorem core {f q:List UInt8} {b:Bool} (hp:Dr f=true) (h0:0≤k2 q) (h1:k2 q≤99) :
  let P:=if b=true then -(Ef f * 100+k2 q)else Ef f * 100+k2 q
  (jr f q b).2.1=true∧((-200000≤P∧P≤6000000)↔(jr f q b).2.2=true)∧((jr f q b).2.2=true→P=(jr f q b).1):=by
 have P0:=Nu hp
 unfold jr Ef
 by_cases hl:f.length < 10
 ·have hs:=Vg P0 hl
  rw[if_pos hl,if_neg (show ¬ 1125899906842624 < B5 0 f from by omega)]
  cases b with
  | true =>
   simp only[if_true,Bool.and_eq_true,decide_eq_true_eq]
   exact⟨trivial,by omega,fun _=>by omega⟩
  | false =>
   simp only[Bool.false_eq_true,if_false,Bool.and_eq_true,decide_eq_true_eq]
   exact⟨trivial,by omega,fun _=>by omega⟩
 ·have hb:=pl_big P0 (by omega)
  rw[if_neg hl]
  by_cases hv:1125899906842624 < B5 0 f
  ·rw[if_pos hv]
   refine⟨rfl,⟨fun h=>?_,fun h=>by cases h⟩,fun h=>by cases h⟩
   cases b with
   | true=>simp only[if_true]at h;omega
   | false=>simp only[Bool.false_eq_true,if_false]at h;omega
  ·rw[if_neg hv]
   cases b with
   | true =>
    simp only[if_true,Bool.and_eq_true,decide_eq_true_eq]
    exact⟨trivial,⟨fun h=>by omega,fun h=>by omega⟩,fun h=>by omega⟩
   | false =>
    simp only[Bool.false_eq_true,if_false,Bool.and_eq_true,decide_eq_true_eq]
    exact⟨trivial,⟨fun h=>by omega,fun h=>by omega⟩,fun h=>by omega⟩
theorem yc {s:List UInt8} {i:Nat} (h:s[i]?=some 46):Dr s=false:=by
 unfold Dr
 rw[Bool.and_eq_false_iff]
 right
 rw[Bool.eq_false_iff]
 intro ha
 rw[List.all_eq_true]at ha
 have:=ha _ (List.mem_of_getElem? h)
 revert this
 decide
theorem ABG {h:List UInt8} (hl:h.length=2):Mj h=L9 h:=by
 unfold Mj L9
 rw[show ((h.length:Int) != 2)=false from by simp[hl],Bool.false_or]
 cases decide (A0 h 0 < 48)<;>cases decide (57 < A0 h 0)<;>cases decide (A0 h 1 < 48)<;>cases decide (57 < A0 h 1)<;>cases (h==[48,48])<;>rfl
theorem byteAt_46 {t:List UInt8} {i:Nat}:(A0 t i==46)=true↔t[i]?=some 46:=by
 unfold A0
 constructor
 ·intro h
  split at h
  ·rename_i b hb
   rw[hb]
   have h2:((b.toNat:Int))=46:=by simpa using h
   rw[show b=46 from UInt8.toNat_inj.1 (show b.toNat=46 by omega)]
  ·cases h
 ·intro h;rw[h];rfl
theorem alt_rel (s:List UInt8):(Mi s).2=(G7 s).2.1∧((Mi s).2=true→((-200000≤(Mi s).1∧(Mi s).1≤6000000)↔(G7 s).2.2=true)∧((G7 s).2.2=true→(Mi s).1=(G7 s).1)):=by
 unfold Mi G7
 generalize bd s=t
 generalize ng s=b
 -- the two ways to be no altitude
 have no:∀ {p:Int×Bool} {r:Int×Bool×Bool},p.2=false→r.2.1=false→p.2=r.2.1∧(p.2=true→((-200000≤p.1∧p.1≤6000000)↔r.2.2=true)∧(r.2.2=true→p.1=r.1)):=fun h1 h2=>⟨by rw[h1,h2],fun h=>by rw[h1]at h;cases h⟩
 by_cases hx:Lib.indexByte t 46 < 0
 ·have hn:∀ i:Nat,t[i]?≠some (46:UInt8):=fun i=>Lib.indexByte_none (l:=t) (c:=46) (by have:=Lib.indexByte_ge t 46;omega) i
  have hd:Cj t=false:=by
   cases h:Cj t with
   | false=>rfl
   | true =>
    unfold Cj at h
    rw[Bool.and_eq_true]at h
    exact absurd (byteAt_46.1 h.2) (hn _)
  have hc:D7 t=(t,[],false):=if_pos hx
  have hw:wp t=(t,[48,48]):=by unfold wp;rw[hd];rfl
  rw[hc,hw,hd]
  simp only[Bool.false_eq_true,false_and,if_false]
  cases hp:Dr t with
  | false=>exact no rfl rfl
  | true =>
   rw[if_neg (by decide:¬ (true=false))]
   have C:=core (f:=t) (q:=[48,48]) (b:=b) hp (by decide) (by decide)
   have hnOf:Xf t [] false=Ef t * 100+k2 [48,48]:=by unfold Xf;rfl
   rw[hnOf]
   simp only[Bool.not_true,Bool.false_or,beq_self_eq_true,Bool.and_true]
   have hz:Ef t * 100+k2 [48,48]=0↔t=[48]:=by
    rw[show k2 [48,48]=0 from rfl]
    unfold Ef
    split
    ·rw[← pl_zero (Nu hp)];omega
    ·rename_i h;constructor
     ·intro h;omega
     ·rintro rfl;simp at h
   cases b with
   | true =>
    simp only[Bool.true_and,if_true]at C ⊢
    by_cases h48:t=[48]
    ·subst h48
     have e:(Ef [48] * 100+k2 [48,48] != 0)=false:=rfl
     rw[e]
     exact⟨rfl,fun h=>by cases h⟩
    ·rw[if_neg (show ¬ (t==[48])=true from by simpa using h48)]
     have e:((Ef t * 100+k2 [48,48]) != 0)=true:=by simpa using fun h=>h48 (hz.1 h)
     obtain⟨c1,c2,c3⟩:=C
     refine⟨?_,fun _=>⟨c2,c3⟩⟩
     show ((Ef t * 100+k2 [48,48]) != 0)=_
     rw[e]
     exact c1.symm
   | false =>
    simp only[Bool.false_and,Bool.false_eq_true,if_false]at C ⊢
    obtain⟨c1,c2,c3⟩:=C
    exact⟨c1.symm,fun _=>⟨c2,c3⟩⟩
 ·obtain⟨o,ho⟩:=Int.eq_ofNat_of_zero_le (by omega:0≤Lib.indexByte t 46)
  obtain⟨h46,hfst⟩:=Lib.indexByte_some ho
  have holt:=(List.getElem?_eq_some_iff.1 h46).1
  have hc:D7 t=(t.take o,t.drop (o+1),true):=by unfold D7;rw[if_neg hx,ho];rfl
  rw[hc]
  simp only[true_and]
  cases hd:Cj t with
  | true =>
   unfold Cj at hd
   rw[Bool.and_eq_true]at hd
   have h3:=of_decide_eq_true hd.1
   have hat:=byteAt_46.1 hd.2
   have hdd:Cj t=true:=by unfold Cj;rw[Bool.and_eq_true];exact hd
   have hw:wp t=(t.take (t.length - 3),t.drop (t.length - 2)):=by unfold wp;rw[hdd];rfl
   rw[hw]
   simp only[true_and]
   by_cases ho3:o=t.length - 3
   ·rw[← ho3,show t.length - 2=o+1 from by omega]
    have hl2:(t.drop (o+1)).length=2:=by simp;omega
    rw[ABG hl2]
    generalize t.drop (o+1)=q at hl2
    generalize t.take o=f
    cases hp:Dr f with
    | false =>
     rw[if_pos rfl]
     refine no rfl ?_
     cases L9 q with
     | true=>rfl
     | false=>simp
    | true =>
     rw[if_neg (by decide:¬ (true=false))]
     cases hq:L9 q with
     | true=>exact no rfl rfl
     | false =>
      have hq2:=k2_ne (h:=q) (by rw[ABG hl2];exact hq)
      have hne:(q==[48,48])=false:=by
       unfold L9 at hq
       simp only[Bool.or_eq_false_iff]at hq
       exact hq.1.1.1.1
      have C:=core (f:=f) (q:=q) (b:=b) hp (by omega) hq2.2
      have hnOf:Xf f q true=Ef f * 100+k2 q:=by unfold Xf;rfl
      have hb:=m4 hp
      rw[hnOf,hne]
      simp only[Bool.not_true,Bool.and_false,Bool.or_false,Bool.false_eq_true,if_false]
      obtain⟨c1,c2,c3⟩:=C
      cases b with
      | true =>
       simp only[if_true]at c1 c2 c3 ⊢
       refine⟨?_,fun _=>⟨c2,c3⟩⟩
       rw[show ((Ef f * 100+k2 q) != 0)=true from by simp;omega]
       exact c1.symm
      | false =>
       simp only[Bool.false_eq_true,if_false]at c1 c2 c3 ⊢
       exact⟨c1.symm,fun _=>⟨c2,c3⟩⟩
   ·have holt3:o < t.length - 3:=by
     rcases Nat.lt_or_ge o (t.length - 3) with h | h
     ·exact h
     ·exact absurd hat (hfst _ (by omega))
    refine no ?_ ?_
    ·rw[show Mj (t.drop (o+1))=true from by
      unfold Mj
      rw[show (((t.drop (o+1)).length:Int) != 2)=true from by simp;omega]
      simp]
     split<;>rfl
    ·have:Dr (t.take (t.length - 3))=false:=yc (i:=o) (by rw[List.getElem?_take_of_lt holt3];exact h46)
     rw[this]
     cases L9 (t.drop (t.length - 2))<;>simp
  | false =>
   have hw:wp t=(t,[48,48]):=by unfold wp;rw[hd];rfl
   rw[hw]
   simp only[Bool.false_eq_true,false_and,if_false]
   refine no ?_ ?_
   ·cases hp:Dr (t.take o) with
    | false=>rfl
    | true =>
     rw[if_neg (by decide:¬ (true=false))]
     cases hb:Mj (t.drop (o+1)) with
     | true=>rfl
     | false =>
      exfalso
      have h2:=(sx hb).1
      rw[List.length_drop]at h2
      have hne:=(Nu hp).ne
      have ho0:0 < o:=by
       rcases Nat.eq_zero_or_pos o with h | h
       ·subst h;exact absurd rfl hne
       ·exact h
      unfold Cj at hd
      rw[show t.length - 3=o from by omega,byteAt_46.2 h46,show decide (3 < t.length)=true from decide_eq_true (by omega)]at hd
      cases hd
   ·rw[yc h46];rfl
def pa (s:List UInt8):Int×Int:=if(!(G7 s).2.1)=true then(0,4)else if(!(G7 s).2.2)=true then(0,2)else((G7 s).1,0)
theorem pa_r (s:List UInt8) (hs:s.length≤1000):Yp s=some (pa s):=by
 rw[A129,rz s hs]
 simp only[bs]
 unfold pa
 split
 ·rfl
 ·split<;>rfl
theorem pa_p (s:List UInt8) (hs:s.length≤1000):Mt s=some ((pa s).2,(pa s).1):=by
 rw[A114o0,ks s hs]
 simp only[bs,zc]
 unfold pa
 obtain⟨h1,h2⟩:=alt_rel s
 rw[← h1]
 cases hp:(Mi s).2 with
 | false=>rfl
 | true =>
  obtain⟨h3,h4⟩:=h2 hp
  simp only[Bool.not_true,Bool.false_eq_true,if_false]
  cases hr:(G7 s).2.2 with
  | true =>
   have:=h3.2 hr
   rw[if_neg (by simp;omega),h4 hr]
   rfl
  | false =>
   have:¬ (-200000≤(Mi s).1∧(Mi s).1≤6000000):=fun h=>by have:=h3.1 h;rw[hr]at this;cases this
   rw[if_pos (by simp;omega)]
   rfl
end Go.Av.Txs
set_option maxRecDepth 100000
namespace Go.Av.Txs
open Go.Av
theorem M83o0 (a0:A4):Gq a0=((if(a0.A5.length * 24≤140737488355328)then(some ())else none):Option (Unit)):=by kernel_rfl
theorem A83o0  (a0:A4):Gq a0=((if(a0.A5.length * 24≤140737488355328)then(some ())else none):Option (Unit)):=M83o0 _
theorem M121o0 (a0:Int) (a1:List Ad) (a2 a3:Int) (a4:Ac):Ex a0 a1 a2 a3 a4=((Option.bind (Option.bind (Fo a0 a1 a2 a3 a4) fun r=>some r) fun x1=>(if(false || (a4.Code != 0))=true then(some (false,([]:List UInt8),a2,a3,a4.Line,a4.Aj,a4.Code))else(if(a2==(a1.length:Int))=true then(if(decide (0 < (a1.length:Int)))=true then(if(0≤(IntKind.wrap .i64 ((a1.length:Int) - (1:Int))))then(if((IntKind.wrap .i64 ((a1.length:Int) - (1:Int))) < (a1.length:Int))then(Option.bind (Option.bind (C3 (IntKind.wrap .i64 ((a1.getD (IntKind.wrap .i64 ((a1.length:Int) - (1:Int))).toNat default).Aj+((a1.getD (IntKind.wrap .i64 ((a1.length:Int) - (1:Int))).toNat default).Text.length:Int))) (4:Int) a0 a1 a2 a3 a4) fun r=>some r) fun x9=>(some (false,([]:List UInt8),a2,a3,x9.1,x9.2.1,x9.2.2)))else none)else none)else(Option.bind (Option.bind (C3 (1:Int) (4:Int) a0 a1 a2 a3 a4) fun r=>some r) fun x9=>(some (false,([]:List UInt8),a2,a3,x9.1,x9.2.1,x9.2.2))))else(if(0≤a2)then(if(a2 < (a1.length:Int))then(some (true,(a1.getD a2.toNat default).Text,(IntKind.wrap .i64 (a2+1)),(a1.getD a2.toNat default).Aj,a4.Line,a4.Aj,a4.Code))else none)else none)))):Option (Bool×(List UInt8)×Int×Int×Int×Int×Int)):=by kernel_rfl
theorem A121o0  (a0:Int) (a1:List Ad) (a2 a3:Int) (a4:Ac):Ex a0 a1 a2 a3 a4=((Option.bind (Option.bind (Fo a0 a1 a2 a3 a4) fun r=>some r) fun x1=>(if(false || (a4.Code != 0))=true then(some (false,([]:List UInt8),a2,a3,a4.Line,a4.Aj,a4.Code))else(if(a2==(a1.length:Int))=true then(if(decide (0 < (a1.length:Int)))=true then(if(0≤(IntKind.wrap .i64 ((a1.length:Int) - (1:Int))))then(if((IntKind.wrap .i64 ((a1.length:Int) - (1:Int))) < (a1.length:Int))then(Option.bind (Option.bind (C3 (IntKind.wrap .i64 ((a1.getD (IntKind.wrap .i64 ((a1.length:Int) - (1:Int))).toNat default).Aj+((a1.getD (IntKind.wrap .i64 ((a1.length:Int) - (1:Int))).toNat default).Text.length:Int))) (4:Int) a0 a1 a2 a3 a4) fun r=>some r) fun x9=>(some (false,([]:List UInt8),a2,a3,x9.1,x9.2.1,x9.2.2)))else none)else none)else(Option.bind (Option.bind (C3 (1:Int) (4:Int) a0 a1 a2 a3 a4) fun r=>some r) fun x9=>(some (false,([]:List UInt8),a2,a3,x9.1,x9.2.1,x9.2.2))))else(if(0≤a2)then(if(a2 < (a1.length:Int))then(some (true,(a1.getD a2.toNat default).Text,(IntKind.wrap .i64 (a2+1)),(a1.getD a2.toNat default).Aj,a4.Line,a4.Aj,a4.Code))else none)else none)))):Option (Bool×(List UInt8)×Int×Int×Int×Int×Int)):=M121o0 _ _ _ _ _
theorem M122o0 (a0 a1 a2:Int) (a3:List Ad) (a4 a5:Int) (a6:Ac):C3 a0 a1 a2 a3 a4 a5 a6=((Option.bind (Option.bind (Fo a2 a3 a4 a5 a6) fun r=>some r) fun x0=>(if((!(false || (a6.Code != 0)))&&(a1 != 0))=true then(some (a2,a0,a1))else(some (a6.Line,a6.Aj,a6.Code)))):Option (Int×Int×Int)):=by kernel_rfl
theorem A122o0  (a0 a1 a2:Int) (a3:List Ad) (a4 a5:Int) (a6:Ac):C3 a0 a1 a2 a3 a4 a5 a6=((Option.bind (Option.bind (Fo a2 a3 a4 a5 a6) fun r=>some r) fun x0=>(if((!(false || (a6.Code != 0)))&&(a1 != 0))=true then(some (a2,a0,a1))else(some (a6.Line,a6.Aj,a6.Code)))):Option (Int×Int×Int)):=M122o0 _ _ _ _ _ _ _
theorem M125o0 (a0:Int) (a1:List Ad) (a2 a3:Int) (a4:Ac):Fo a0 a1 a2 a3 a4=((some ()):Option (Unit)):=by kernel_rfl
theorem dv  (a0:Int) (a1:List Ad) (a2 a3:Int) (a4:Ac):Fo a0 a1 a2 a3 a4=((some ()):Option (Unit)):=M125o0 _ _ _ _ _
theorem M84o0 (a0:List (List UInt8)) (a1:Int) (a2:List Ad) (a3 a4:Int) (a5:Ac):Ek a0 a1 a2 a3 a4 a5=((Option.bind (Option.bind (Option.bind (Ex a1 a2 a3 a4 a5) fun r=>some r) fun x1=>(if(!x1.1)=true then(some (.inr (((-1:Int),x1.2.2.1,x1.2.2.2.1,x1.2.2.2.2.1,x1.2.2.2.2.2.1,x1.2.2.2.2.2.2))))else(some (.inl (x1.2.1,x1.2.2.1,x1.2.2.2.1,x1.2.2.2.2.1,x1.2.2.2.2.2.1,x1.2.2.2.2.2.2))))) (Af fun(y1:(List UInt8)×Int×Int×Int×Int×Int)=>(Option.bind (Option.bind (some (.inl ())) (Af fun(_:Unit)=>(Am (fun(s2:Int)=>((if(decide (s2 < (a0.length:Int)))=true then(if(0≤s2)then(if(s2 < (a0.length:Int))then(if((a0.getD s2.toNat default)==y1.1)=true then(some (.inr (.inr ((s2,y1.2.1,y1.2.2.1,y1.2.2.2.1,y1.2.2.2.2.1,y1.2.2.2.2.2)))))else(some (.inl (IntKind.wrap .i64 (s2+1)))))else none)else none)else(some (.inr (.inl ())))):Option ((Int)⊕((Unit)⊕(Int×Int×Int×Int×Int×Int))))) (0:Int)))) (Af fun(_:Unit)=>(Option.bind (Option.bind (C3 y1.2.2.1 (4:Int) a1 a2 y1.2.1 y1.2.2.1 (⟨y1.2.2.2.1,y1.2.2.2.2.1,y1.2.2.2.2.2⟩:Ac)) fun r=>some r) fun x10=>(some ((-1:Int),y1.2.1,y1.2.2.1,x10.1,x10.2.1,x10.2.2))))))):Option (Int×Int×Int×Int×Int×Int)):=by kernel_rfl
abbrev AAZ (a0:List (List UInt8)) (y1:(List UInt8)×Int×Int×Int×Int×Int):(Int)→Option ((Int)⊕((Unit)⊕(Int×Int×Int×Int×Int×Int))):=(fun(s2:Int)=>((if(decide (s2 < (a0.length:Int)))=true then(if(0≤s2)then(if(s2 < (a0.length:Int))then(if((a0.getD s2.toNat default)==y1.1)=true then(some (.inr (.inr ((s2,y1.2.1,y1.2.2.1,y1.2.2.2.1,y1.2.2.2.2.1,y1.2.2.2.2.2)))))else(some (.inl (IntKind.wrap .i64 (s2+1)))))else none)else none)else(some (.inr (.inl ())))):Option ((Int)⊕((Unit)⊕(Int×Int×Int×Int×Int×Int)))))
theorem A84o0  (a0:List (List UInt8)) (a1:Int) (a2:List Ad) (a3 a4:Int) (a5:Ac):Ek a0 a1 a2 a3 a4 a5=((Option.bind (Option.bind (Option.bind (Ex a1 a2 a3 a4 a5) fun r=>some r) fun x1=>(if(!x1.1)=true then(some (.inr (((-1:Int),x1.2.2.1,x1.2.2.2.1,x1.2.2.2.2.1,x1.2.2.2.2.2.1,x1.2.2.2.2.2.2))))else(some (.inl (x1.2.1,x1.2.2.1,x1.2.2.2.1,x1.2.2.2.2.1,x1.2.2.2.2.2.1,x1.2.2.2.2.2.2))))) (Af fun(y1:(List UInt8)×Int×Int×Int×Int×Int)=>(Option.bind (Option.bind (some (.inl ())) (Af fun(_:Unit)=>(Am (AAZ a0 y1) (0:Int)))) (Af fun(_:Unit)=>(Option.bind (Option.bind (C3 y1.2.2.1 (4:Int) a1 a2 y1.2.1 y1.2.2.1 (⟨y1.2.2.2.1,y1.2.2.2.2.1,y1.2.2.2.2.2⟩:Ac)) fun r=>some r) fun x10=>(some ((-1:Int),y1.2.1,y1.2.2.1,x10.1,x10.2.1,x10.2.2))))))):Option (Int×Int×Int×Int×Int×Int)):=M84o0 _ _ _ _ _ _
theorem M123o0 (a0:List UInt8) (a1 a2:Int):Ow a0 a1 a2=((Option.bind (Option.bind (Yn a0 a1 a2) fun r=>some r) fun x1=>(some (x1.2,x1.1))):Option (Int×Int)):=by kernel_rfl
theorem A123o0  (a0:List UInt8) (a1 a2:Int):Ow a0 a1 a2=((Option.bind (Option.bind (Yn a0 a1 a2) fun r=>some r) fun x1=>(some (x1.2,x1.1))):Option (Int×Int)):=M123o0 _ _ _
theorem M113o0 (a0:Int) (a1:List Ad) (a2 a3:Int) (a4:Ac) (a5 a6:Int):Ot a0 a1 a2 a3 a4 a5 a6=((Option.bind (Option.bind (Ex a0 a1 a2 a3 a4) fun r=>some r) fun x2=>(if(!x2.1)=true then(some ((0:Int),x2.2.2.1,x2.2.2.2.1,x2.2.2.2.2.1,x2.2.2.2.2.2.1,x2.2.2.2.2.2.2))else(Option.bind (Option.bind (Ow x2.2.1 a5 a6) fun r=>some r) fun x5=>(if(x5.1 != 0)=true then(Option.bind (((C3 x2.2.2.2.1 x5.1 a0 a1 x2.2.2.1 x2.2.2.2.1 (⟨x2.2.2.2.2.1,x2.2.2.2.2.2.1,x2.2.2.2.2.2.2⟩:Ac)).bind fun r7_0=>some (r7_0,x2))) fun(x7:((Int×Int×Int)×(Bool×(List UInt8)×Int×Int×Int×Int×Int)))=>(some ((0:Int),x7.2.2.2.1,x7.2.2.2.2.1,x7.1.1,x7.1.2.1,x7.1.2.2)))else(some (x5.2,x2.2.2.1,x2.2.2.2.1,x2.2.2.2.2.1,x2.2.2.2.2.2.1,x2.2.2.2.2.2.2)))))):Option (Int×Int×Int×Int×Int×Int)):=by kernel_rfl
theorem A113o0  (a0:Int) (a1:List Ad) (a2 a3:Int) (a4:Ac) (a5 a6:Int):Ot a0 a1 a2 a3 a4 a5 a6=((Option.bind (Option.bind (Ex a0 a1 a2 a3 a4) fun r=>some r) fun x2=>(if(!x2.1)=true then(some ((0:Int),x2.2.2.1,x2.2.2.2.1,x2.2.2.2.2.1,x2.2.2.2.2.2.1,x2.2.2.2.2.2.2))else(Option.bind (Option.bind (Ow x2.2.1 a5 a6) fun r=>some r) fun x5=>(if(x5.1 != 0)=true then(Option.bind (((C3 x2.2.2.2.1 x5.1 a0 a1 x2.2.2.1 x2.2.2.2.1 (⟨x2.2.2.2.2.1,x2.2.2.2.2.2.1,x2.2.2.2.2.2.2⟩:Ac)).bind fun r7_0=>some (r7_0,x2))) fun(x7:((Int×Int×Int)×(Bool×(List UInt8)×Int×Int×Int×Int×Int)))=>(some ((0:Int),x7.2.2.2.1,x7.2.2.2.2.1,x7.1.1,x7.1.2.1,x7.1.2.2)))else(some (x5.2,x2.2.2.1,x2.2.2.2.1,x2.2.2.2.2.1,x2.2.2.2.2.2.1,x2.2.2.2.2.2.2)))))):Option (Int×Int×Int×Int×Int×Int)):=M113o0 _ _ _ _ _ _ _
theorem M113o1 (a0:Int) (a1:List Ad) (a2 a3:Int) (a4:Ac):Ou a0 a1 a2 a3 a4=((Option.bind (Option.bind (Ex a0 a1 a2 a3 a4) fun r=>some r) fun x2=>(if(!x2.1)=true then(some ((0:Int),x2.2.2.1,x2.2.2.2.1,x2.2.2.2.2.1,x2.2.2.2.2.2.1,x2.2.2.2.2.2.2))else(Option.bind (Option.bind (Mt x2.2.1) fun r=>some r) fun x5=>(if(x5.1 != 0)=true then(Option.bind (((C3 x2.2.2.2.1 x5.1 a0 a1 x2.2.2.1 x2.2.2.2.1 (⟨x2.2.2.2.2.1,x2.2.2.2.2.2.1,x2.2.2.2.2.2.2⟩:Ac)).bind fun r7_0=>some (r7_0,x2))) fun(x7:((Int×Int×Int)×(Bool×(List UInt8)×Int×Int×Int×Int×Int)))=>(some ((0:Int),x7.2.2.2.1,x7.2.2.2.2.1,x7.1.1,x7.1.2.1,x7.1.2.2)))else(some (x5.2,x2.2.2.1,x2.2.2.2.1,x2.2.2.2.2.1,x2.2.2.2.2.2.1,x2.2.2.2.2.2.2)))))):Option (Int×Int×Int×Int×Int×Int)):=by kernel_rfl
theorem A113o1  (a0:Int) (a1:List Ad) (a2 a3:Int) (a4:Ac):Ou a0 a1 a2 a3 a4=((Option.bind (Option.bind (Ex a0 a1 a2 a3 a4) fun r=>some r) fun x2=>(if(!x2.1)=true then(some ((0:Int),x2.2.2.1,x2.2.2.2.1,x2.2.2.2.2.1,x2.2.2.2.2.2.1,x2.2.2.2.2.2.2))else(Option.bind (Option.bind (Mt x2.2.1) fun r=>some r) fun x5=>(if(x5.1 != 0)=true then(Option.bind (((C3 x2.2.2.2.1 x5.1 a0 a1 x2.2.2.1 x2.2.2.2.1 (⟨x2.2.2.2.2.1,x2.2.2.2.2.2.1,x2.2.2.2.2.2.2⟩:Ac)).bind fun r7_0=>some (r7_0,x2))) fun(x7:((Int×Int×Int)×(Bool×(List UInt8)×Int×Int×Int×Int×Int)))=>(some ((0:Int),x7.2.2.2.1,x7.2.2.2.2.1,x7.1.1,x7.1.2.1,x7.1.2.2)))else(some (x5.2,x2.2.2.1,x2.2.2.2.1,x2.2.2.2.2.1,x2.2.2.2.2.2.1,x2.2.2.2.2.2.2)))))):Option (Int×Int×Int×Int×Int×Int)):=M113o1 _ _ _ _ _
theorem M85o0 (a0 a1 a2:Int) (a3:List Ad) (a4 a5:Int) (a6:Ac):Bi a0 a1 a2 a3 a4 a5 a6=((Option.bind (Option.bind (Ot a2 a3 a4 a5 a6 a0 a1) fun r=>some r) fun x1=>(some (x1.1,x1.2.1,x1.2.2.1,x1.2.2.2.1,x1.2.2.2.2.1,x1.2.2.2.2.2))):Option (Int×Int×Int×Int×Int×Int)):=by kernel_rfl
theorem A85o0  (a0 a1 a2:Int) (a3:List Ad) (a4 a5:Int) (a6:Ac):Bi a0 a1 a2 a3 a4 a5 a6=((Option.bind (Option.bind (Ot a2 a3 a4 a5 a6 a0 a1) fun r=>some r) fun x1=>(some (x1.1,x1.2.1,x1.2.2.1,x1.2.2.2.1,x1.2.2.2.2.1,x1.2.2.2.2.2))):Option (Int×Int×Int×Int×Int×Int)):=M85o0 _ _ _ _ _ _ _
theorem M48o0 (a0:Int) (a1:List Ad) (a2 a3:Int) (a4:Ac):Jm a0 a1 a2 a3 a4=((Option.bind (Option.bind (Ou a0 a1 a2 a3 a4) fun r=>some r) fun x1=>(some (x1.1,x1.2.1,x1.2.2.1,x1.2.2.2.1,x1.2.2.2.2.1,x1.2.2.2.2.2))):Option (Int×Int×Int×Int×Int×Int)):=by kernel_rfl
theorem A48o0  (a0:Int) (a1:List Ad) (a2 a3:Int) (a4:Ac):Jm a0 a1 a2 a3 a4=((Option.bind (Option.bind (Ou a0 a1 a2 a3 a4) fun r=>some r) fun x1=>(some (x1.1,x1.2.1,x1.2.2.1,x1.2.2.2.1,x1.2.2.2.2.1,x1.2.2.2.2.2))):Option (Int×Int×Int×Int×Int×Int)):=M48o0 _ _ _ _ _
theorem M86o0 (a0:Int) (a1:List Ad) (a2 a3:Int) (a4:Ac):El a0 a1 a2 a3 a4=((if false=true then(some (false,(0:Int),(0:Int),(0:Int)))else(Option.bind (Option.bind (Fo a0 a1 a2 a3 a4) fun r=>some r) fun x3=>(if(false || (a4.Code != 0))=true then(some (true,a4.Line,a4.Aj,a4.Code))else(if(decide (a2 < (a1.length:Int)))=true then(if(0≤a2)then(if(a2 < (a1.length:Int))then(some (true,a0,(a1.getD a2.toNat default).Aj,(4:Int)))else none)else none)else(some (false,(0:Int),(0:Int),(0:Int))))))):Option (Bool×Int×Int×Int)):=by kernel_rfl
theorem A86o0  (a0:Int) (a1:List Ad) (a2 a3:Int) (a4:Ac):El a0 a1 a2 a3 a4=((if false=true then(some (false,(0:Int),(0:Int),(0:Int)))else(Option.bind (Option.bind (Fo a0 a1 a2 a3 a4) fun r=>some r) fun x3=>(if(false || (a4.Code != 0))=true then(some (true,a4.Line,a4.Aj,a4.Code))else(if(decide (a2 < (a1.length:Int)))=true then(if(0≤a2)then(if(a2 < (a1.length:Int))then(some (true,a0,(a1.getD a2.toNat default).Aj,(4:Int)))else none)else none)else(some (false,(0:Int),(0:Int),(0:Int))))))):Option (Bool×Int×Int×Int)):=M86o0 _ _ _ _ _
theorem M87o0 (a0 a1:Int) (a2:List Ad) (a3 a4:Int) (a5:Ac):Q3 a0 a1 a2 a3 a4 a5=((if true=true then(Option.bind (Option.bind (C3 a4 a0 a1 a2 a3 a4 a5) fun r=>some r) fun x1=>(some (x1.1,x1.2.1,x1.2.2)))else(some (a5.Line,a5.Aj,a5.Code))):Option (Int×Int×Int)):=by kernel_rfl
theorem A87o0  (a0 a1:Int) (a2:List Ad) (a3 a4:Int) (a5:Ac):Q3 a0 a1 a2 a3 a4 a5=((if true=true then(Option.bind (Option.bind (C3 a4 a0 a1 a2 a3 a4 a5) fun r=>some r) fun x1=>(some (x1.1,x1.2.1,x1.2.2)))else(some (a5.Line,a5.Aj,a5.Code))):Option (Int×Int×Int)):=M87o0 _ _ _ _ _ _
theorem M91o0 (a0:A4):Q4 a0=((some ()):Option (Unit)):=by kernel_rfl
theorem A91o0  (a0:A4):Q4 a0=((some ()):Option (Unit)):=M91o0 _
theorem M126o0 (a0:Ag):Ey a0=((if a0.failed=true then(some (false,([]:List UInt8),a0.at_,a0.last,a0.diag.Line,a0.diag.Aj,a0.diag.Code,a0.failed))else(if(decide ((a0.line.A5.length:Int)≤a0.at_))=true then(if(decide (0 < (a0.line.A5.length:Int)))=true then(if(0≤(IntKind.wrap .i64 ((a0.line.A5.length:Int) - (1:Int))))then(if((IntKind.wrap .i64 ((a0.line.A5.length:Int) - (1:Int))) < (a0.line.A5.length:Int))then(Option.bind (Option.bind (Bv (IntKind.wrap .i64 ((a0.line.A5.getD (IntKind.wrap .i64 ((a0.line.A5.length:Int) - (1:Int))).toNat default).Aj+((a0.line.A5.getD (IntKind.wrap .i64 ((a0.line.A5.length:Int) - (1:Int))).toNat default).Text.length:Int))) (4:Int) a0) fun r=>some r) fun x9=>(some (false,([]:List UInt8),a0.at_,a0.last,x9.1,x9.2.1,x9.2.2.1,x9.2.2.2)))else none)else none)else(Option.bind (Option.bind (Bv (1:Int) (4:Int) a0) fun r=>some r) fun x9=>(some (false,([]:List UInt8),a0.at_,a0.last,x9.1,x9.2.1,x9.2.2.1,x9.2.2.2))))else(if(0≤a0.at_)then(if(a0.at_ < (a0.line.A5.length:Int))then(some (true,(a0.line.A5.getD a0.at_.toNat default).Text,(IntKind.wrap .i64 (a0.at_+1)),(a0.line.A5.getD a0.at_.toNat default).Aj,a0.diag.Line,a0.diag.Aj,a0.diag.Code,a0.failed))else none)else none))):Option (Bool×(List UInt8)×Int×Int×Int×Int×Int×Bool)):=by kernel_rfl
theorem A126o0  (a0:Ag):Ey a0=((if a0.failed=true then(some (false,([]:List UInt8),a0.at_,a0.last,a0.diag.Line,a0.diag.Aj,a0.diag.Code,a0.failed))else(if(decide ((a0.line.A5.length:Int)≤a0.at_))=true then(if(decide (0 < (a0.line.A5.length:Int)))=true then(if(0≤(IntKind.wrap .i64 ((a0.line.A5.length:Int) - (1:Int))))then(if((IntKind.wrap .i64 ((a0.line.A5.length:Int) - (1:Int))) < (a0.line.A5.length:Int))then(Option.bind (Option.bind (Bv (IntKind.wrap .i64 ((a0.line.A5.getD (IntKind.wrap .i64 ((a0.line.A5.length:Int) - (1:Int))).toNat default).Aj+((a0.line.A5.getD (IntKind.wrap .i64 ((a0.line.A5.length:Int) - (1:Int))).toNat default).Text.length:Int))) (4:Int) a0) fun r=>some r) fun x9=>(some (false,([]:List UInt8),a0.at_,a0.last,x9.1,x9.2.1,x9.2.2.1,x9.2.2.2)))else none)else none)else(Option.bind (Option.bind (Bv (1:Int) (4:Int) a0) fun r=>some r) fun x9=>(some (false,([]:List UInt8),a0.at_,a0.last,x9.1,x9.2.1,x9.2.2.1,x9.2.2.2))))else(if(0≤a0.at_)then(if(a0.at_ < (a0.line.A5.length:Int))then(some (true,(a0.line.A5.getD a0.at_.toNat default).Text,(IntKind.wrap .i64 (a0.at_+1)),(a0.line.A5.getD a0.at_.toNat default).Aj,a0.diag.Line,a0.diag.Aj,a0.diag.Code,a0.failed))else none)else none))):Option (Bool×(List UInt8)×Int×Int×Int×Int×Int×Bool)):=M126o0 _
theorem M127o0 (a0 a1:Int) (a2:Ag):Bv a0 a1 a2=((if((!a2.failed)&&(a1 != 0))=true then(some (a2.line.Ae,a0,a1,true))else(some (a2.diag.Line,a2.diag.Aj,a2.diag.Code,a2.failed))):Option (Int×Int×Int×Bool)):=by kernel_rfl
theorem A127o0  (a0 a1:Int) (a2:Ag):Bv a0 a1 a2=((if((!a2.failed)&&(a1 != 0))=true then(some (a2.line.Ae,a0,a1,true))else(some (a2.diag.Line,a2.diag.Aj,a2.diag.Code,a2.failed))):Option (Int×Int×Int×Bool)):=M127o0 _ _ _
theorem M92o0 (a0:List (List UInt8)) (a1:Ag):Em a0 a1=((Option.bind (Option.bind (Option.bind (Ey a1) fun r=>some r) fun x1=>(if(!x1.1)=true then(some (.inr (((-1:Int),a1.line.Ae,a1.line.A5,x1.2.2.1,x1.2.2.2.1,x1.2.2.2.2.1,x1.2.2.2.2.2.1,x1.2.2.2.2.2.2.1,x1.2.2.2.2.2.2.2))))else(some (.inl (x1.2.1,x1.2.2.1,x1.2.2.2.1,x1.2.2.2.2.1,x1.2.2.2.2.2.1,x1.2.2.2.2.2.2.1,x1.2.2.2.2.2.2.2))))) (Af fun(y1:(List UInt8)×Int×Int×Int×Int×Int×Bool)=>(Option.bind (Option.bind (some (.inl ())) (Af fun(_:Unit)=>(Am (fun(s2:Int)=>((if(decide (s2 < (a0.length:Int)))=true then(if(0≤s2)then(if(s2 < (a0.length:Int))then(if((a0.getD s2.toNat default)==y1.1)=true then(some (.inr (.inr ((s2,a1.line.Ae,a1.line.A5,y1.2.1,y1.2.2.1,y1.2.2.2.1,y1.2.2.2.2.1,y1.2.2.2.2.2.1,y1.2.2.2.2.2.2)))))else(some (.inl (IntKind.wrap .i64 (s2+1)))))else none)else none)else(some (.inr (.inl ())))):Option ((Int)⊕((Unit)⊕(Int×Int×(List Ad)×Int×Int×Int×Int×Int×Bool))))) (0:Int)))) (Af fun(_:Unit)=>(Option.bind (Option.bind (Bv y1.2.2.1 (4:Int) (⟨a1.line,y1.2.1,y1.2.2.1,(⟨y1.2.2.2.1,y1.2.2.2.2.1,y1.2.2.2.2.2.1⟩:Ac),y1.2.2.2.2.2.2⟩:Ag)) fun r=>some r) fun x10=>(some ((-1:Int),(⟨a1.line,y1.2.1,y1.2.2.1,(⟨y1.2.2.2.1,y1.2.2.2.2.1,y1.2.2.2.2.2.1⟩:Ac),y1.2.2.2.2.2.2⟩:Ag).line.Ae,(⟨a1.line,y1.2.1,y1.2.2.1,(⟨y1.2.2.2.1,y1.2.2.2.2.1,y1.2.2.2.2.2.1⟩:Ac),y1.2.2.2.2.2.2⟩:Ag).line.A5,(⟨a1.line,y1.2.1,y1.2.2.1,(⟨y1.2.2.2.1,y1.2.2.2.2.1,y1.2.2.2.2.2.1⟩:Ac),y1.2.2.2.2.2.2⟩:Ag).at_,(⟨a1.line,y1.2.1,y1.2.2.1,(⟨y1.2.2.2.1,y1.2.2.2.2.1,y1.2.2.2.2.2.1⟩:Ac),y1.2.2.2.2.2.2⟩:Ag).last,x10.1,x10.2.1,x10.2.2.1,x10.2.2.2))))))):Option (Int×Int×(List Ad)×Int×Int×Int×Int×Int×Bool)):=by kernel_rfl
abbrev AAa (a0:List (List UInt8)) (y1:(List UInt8)×Int×Int×Int×Int×Int×Bool) (a1:Ag):(Int)→Option ((Int)⊕((Unit)⊕(Int×Int×(List Ad)×Int×Int×Int×Int×Int×Bool))):=(fun(s2:Int)=>((if(decide (s2 < (a0.length:Int)))=true then(if(0≤s2)then(if(s2 < (a0.length:Int))then(if((a0.getD s2.toNat default)==y1.1)=true then(some (.inr (.inr ((s2,a1.line.Ae,a1.line.A5,y1.2.1,y1.2.2.1,y1.2.2.2.1,y1.2.2.2.2.1,y1.2.2.2.2.2.1,y1.2.2.2.2.2.2)))))else(some (.inl (IntKind.wrap .i64 (s2+1)))))else none)else none)else(some (.inr (.inl ())))):Option ((Int)⊕((Unit)⊕(Int×Int×(List Ad)×Int×Int×Int×Int×Int×Bool)))))
theorem A92o0  (a0:List (List UInt8)) (a1:Ag):Em a0 a1=((Option.bind (Option.bind (Option.bind (Ey a1) fun r=>some r) fun x1=>(if(!x1.1)=true then(some (.inr (((-1:Int),a1.line.Ae,a1.line.A5,x1.2.2.1,x1.2.2.2.1,x1.2.2.2.2.1,x1.2.2.2.2.2.1,x1.2.2.2.2.2.2.1,x1.2.2.2.2.2.2.2))))else(some (.inl (x1.2.1,x1.2.2.1,x1.2.2.2.1,x1.2.2.2.2.1,x1.2.2.2.2.2.1,x1.2.2.2.2.2.2.1,x1.2.2.2.2.2.2.2))))) (Af fun(y1:(List UInt8)×Int×Int×Int×Int×Int×Bool)=>(Option.bind (Option.bind (some (.inl ())) (Af fun(_:Unit)=>(Am (AAa a0 y1 a1) (0:Int)))) (Af fun(_:Unit)=>(Option.bind (Option.bind (Bv y1.2.2.1 (4:Int) (⟨a1.line,y1.2.1,y1.2.2.1,(⟨y1.2.2.2.1,y1.2.2.2.2.1,y1.2.2.2.2.2.1⟩:Ac),y1.2.2.2.2.2.2⟩:Ag)) fun r=>some r) fun x10=>(some ((-1:Int),(⟨a1.line,y1.2.1,y1.2.2.1,(⟨y1.2.2.2.1,y1.2.2.2.2.1,y1.2.2.2.2.2.1⟩:Ac),y1.2.2.2.2.2.2⟩:Ag).line.Ae,(⟨a1.line,y1.2.1,y1.2.2.1,(⟨y1.2.2.2.1,y1.2.2.2.2.1,y1.2.2.2.2.2.1⟩:Ac),y1.2.2.2.2.2.2⟩:Ag).line.A5,(⟨a1.line,y1.2.1,y1.2.2.1,(⟨y1.2.2.2.1,y1.2.2.2.2.1,y1.2.2.2.2.2.1⟩:Ac),y1.2.2.2.2.2.2⟩:Ag).at_,(⟨a1.line,y1.2.1,y1.2.2.1,(⟨y1.2.2.2.1,y1.2.2.2.2.1,y1.2.2.2.2.2.1⟩:Ac),y1.2.2.2.2.2.2⟩:Ag).last,x10.1,x10.2.1,x10.2.2.1,x10.2.2.2))))))):Option (Int×Int×(List Ad)×Int×Int×Int×Int×Int×Bool)):=M92o0 _ _
theorem M93o0 (a0 a1:Int) (a2:Ag):Bj a0 a1 a2=((Option.bind (Option.bind (Ey a2) fun r=>some r) fun x1=>(if(!x1.1)=true then(some ((0:Int),a2.line.Ae,a2.line.A5,x1.2.2.1,x1.2.2.2.1,x1.2.2.2.2.1,x1.2.2.2.2.2.1,x1.2.2.2.2.2.2.1,x1.2.2.2.2.2.2.2))else(Option.bind (Option.bind (Yo x1.2.1 a0 a1) fun r=>some r) fun x4=>(Option.bind (((Bv x1.2.2.2.1 x4.2 (⟨a2.line,x1.2.2.1,x1.2.2.2.1,(⟨x1.2.2.2.2.1,x1.2.2.2.2.2.1,x1.2.2.2.2.2.2.1⟩:Ac),x1.2.2.2.2.2.2.2⟩:Ag)).bind fun r5_0=>some (r5_0,x1))) fun(x5:((Int×Int×Int×Bool)×(Bool×(List UInt8)×Int×Int×Int×Int×Int×Bool)))=>(some (x4.1,(⟨a2.line,x5.2.2.2.1,x5.2.2.2.2.1,(⟨x5.2.2.2.2.2.1,x5.2.2.2.2.2.2.1,x5.2.2.2.2.2.2.2.1⟩:Ac),x5.2.2.2.2.2.2.2.2⟩:Ag).line.Ae,(⟨a2.line,x5.2.2.2.1,x5.2.2.2.2.1,(⟨x5.2.2.2.2.2.1,x5.2.2.2.2.2.2.1,x5.2.2.2.2.2.2.2.1⟩:Ac),x5.2.2.2.2.2.2.2.2⟩:Ag).line.A5,(⟨a2.line,x5.2.2.2.1,x5.2.2.2.2.1,(⟨x5.2.2.2.2.2.1,x5.2.2.2.2.2.2.1,x5.2.2.2.2.2.2.2.1⟩:Ac),x5.2.2.2.2.2.2.2.2⟩:Ag).at_,(⟨a2.line,x5.2.2.2.1,x5.2.2.2.2.1,(⟨x5.2.2.2.2.2.1,x5.2.2.2.2.2.2.1,x5.2.2.2.2.2.2.2.1⟩:Ac),x5.2.2.2.2.2.2.2.2⟩:Ag).last,x5.1.1,x5.1.2.1,x5.1.2.2.1,x5.1.2.2.2)))))):Option (Int×Int×(List Ad)×Int×Int×Int×Int×Int×Bool)):=by kernel_rfl
theorem A93o0  (a0 a1:Int) (a2:Ag):Bj a0 a1 a2=((Option.bind (Option.bind (Ey a2) fun r=>some r) fun x1=>(if(!x1.1)=true then(some ((0:Int),a2.line.Ae,a2.line.A5,x1.2.2.1,x1.2.2.2.1,x1.2.2.2.2.1,x1.2.2.2.2.2.1,x1.2.2.2.2.2.2.1,x1.2.2.2.2.2.2.2))else(Option.bind (Option.bind (Yo x1.2.1 a0 a1) fun r=>some r) fun x4=>(Option.bind (((Bv x1.2.2.2.1 x4.2 (⟨a2.line,x1.2.2.1,x1.2.2.2.1,(⟨x1.2.2.2.2.1,x1.2.2.2.2.2.1,x1.2.2.2.2.2.2.1⟩:Ac),x1.2.2.2.2.2.2.2⟩:Ag)).bind fun r5_0=>some (r5_0,x1))) fun(x5:((Int×Int×Int×Bool)×(Bool×(List UInt8)×Int×Int×Int×Int×Int×Bool)))=>(some (x4.1,(⟨a2.line,x5.2.2.2.1,x5.2.2.2.2.1,(⟨x5.2.2.2.2.2.1,x5.2.2.2.2.2.2.1,x5.2.2.2.2.2.2.2.1⟩:Ac),x5.2.2.2.2.2.2.2.2⟩:Ag).line.Ae,(⟨a2.line,x5.2.2.2.1,x5.2.2.2.2.1,(⟨x5.2.2.2.2.2.1,x5.2.2.2.2.2.2.1,x5.2.2.2.2.2.2.2.1⟩:Ac),x5.2.2.2.2.2.2.2.2⟩:Ag).line.A5,(⟨a2.line,x5.2.2.2.1,x5.2.2.2.2.1,(⟨x5.2.2.2.2.2.1,x5.2.2.2.2.2.2.1,x5.2.2.2.2.2.2.2.1⟩:Ac),x5.2.2.2.2.2.2.2.2⟩:Ag).at_,(⟨a2.line,x5.2.2.2.1,x5.2.2.2.2.1,(⟨x5.2.2.2.2.2.1,x5.2.2.2.2.2.2.1,x5.2.2.2.2.2.2.2.1⟩:Ac),x5.2.2.2.2.2.2.2.2⟩:Ag).last,x5.1.1,x5.1.2.1,x5.1.2.2.1,x5.1.2.2.2)))))):Option (Int×Int×(List Ad)×Int×Int×Int×Int×Int×Bool)):=M93o0 _ _ _
theorem M95o0 (a0:Ag):Nq a0=((Option.bind (Option.bind (Ey a0) fun r=>some r) fun x1=>(if(!x1.1)=true then(some ((0:Int),a0.line.Ae,a0.line.A5,x1.2.2.1,x1.2.2.2.1,x1.2.2.2.2.1,x1.2.2.2.2.2.1,x1.2.2.2.2.2.2.1,x1.2.2.2.2.2.2.2))else(Option.bind (Option.bind (Yp x1.2.1) fun r=>some r) fun x4=>(Option.bind (((Bv x1.2.2.2.1 x4.2 (⟨a0.line,x1.2.2.1,x1.2.2.2.1,(⟨x1.2.2.2.2.1,x1.2.2.2.2.2.1,x1.2.2.2.2.2.2.1⟩:Ac),x1.2.2.2.2.2.2.2⟩:Ag)).bind fun r5_0=>some (r5_0,x1))) fun(x5:((Int×Int×Int×Bool)×(Bool×(List UInt8)×Int×Int×Int×Int×Int×Bool)))=>(some (x4.1,(⟨a0.line,x5.2.2.2.1,x5.2.2.2.2.1,(⟨x5.2.2.2.2.2.1,x5.2.2.2.2.2.2.1,x5.2.2.2.2.2.2.2.1⟩:Ac),x5.2.2.2.2.2.2.2.2⟩:Ag).line.Ae,(⟨a0.line,x5.2.2.2.1,x5.2.2.2.2.1,(⟨x5.2.2.2.2.2.1,x5.2.2.2.2.2.2.1,x5.2.2.2.2.2.2.2.1⟩:Ac),x5.2.2.2.2.2.2.2.2⟩:Ag).line.A5,(⟨a0.line,x5.2.2.2.1,x5.2.2.2.2.1,(⟨x5.2.2.2.2.2.1,x5.2.2.2.2.2.2.1,x5.2.2.2.2.2.2.2.1⟩:Ac),x5.2.2.2.2.2.2.2.2⟩:Ag).at_,(⟨a0.line,x5.2.2.2.1,x5.2.2.2.2.1,(⟨x5.2.2.2.2.2.1,x5.2.2.2.2.2.2.1,x5.2.2.2.2.2.2.2.1⟩:Ac),x5.2.2.2.2.2.2.2.2⟩:Ag).last,x5.1.1,x5.1.2.1,x5.1.2.2.1,x5.1.2.2.2)))))):Option (Int×Int×(List Ad)×Int×Int×Int×Int×Int×Bool)):=by kernel_rfl
theorem A95o0  (a0:Ag):Nq a0=((Option.bind (Option.bind (Ey a0) fun r=>some r) fun x1=>(if(!x1.1)=true then(some ((0:Int),a0.line.Ae,a0.line.A5,x1.2.2.1,x1.2.2.2.1,x1.2.2.2.2.1,x1.2.2.2.2.2.1,x1.2.2.2.2.2.2.1,x1.2.2.2.2.2.2.2))else(Option.bind (Option.bind (Yp x1.2.1) fun r=>some r) fun x4=>(Option.bind (((Bv x1.2.2.2.1 x4.2 (⟨a0.line,x1.2.2.1,x1.2.2.2.1,(⟨x1.2.2.2.2.1,x1.2.2.2.2.2.1,x1.2.2.2.2.2.2.1⟩:Ac),x1.2.2.2.2.2.2.2⟩:Ag)).bind fun r5_0=>some (r5_0,x1))) fun(x5:((Int×Int×Int×Bool)×(Bool×(List UInt8)×Int×Int×Int×Int×Int×Bool)))=>(some (x4.1,(⟨a0.line,x5.2.2.2.1,x5.2.2.2.2.1,(⟨x5.2.2.2.2.2.1,x5.2.2.2.2.2.2.1,x5.2.2.2.2.2.2.2.1⟩:Ac),x5.2.2.2.2.2.2.2.2⟩:Ag).line.Ae,(⟨a0.line,x5.2.2.2.1,x5.2.2.2.2.1,(⟨x5.2.2.2.2.2.1,x5.2.2.2.2.2.2.1,x5.2.2.2.2.2.2.2.1⟩:Ac),x5.2.2.2.2.2.2.2.2⟩:Ag).line.A5,(⟨a0.line,x5.2.2.2.1,x5.2.2.2.2.1,(⟨x5.2.2.2.2.2.1,x5.2.2.2.2.2.2.1,x5.2.2.2.2.2.2.2.1⟩:Ac),x5.2.2.2.2.2.2.2.2⟩:Ag).at_,(⟨a0.line,x5.2.2.2.1,x5.2.2.2.2.1,(⟨x5.2.2.2.2.2.1,x5.2.2.2.2.2.2.1,x5.2.2.2.2.2.2.2.1⟩:Ac),x5.2.2.2.2.2.2.2.2⟩:Ag).last,x5.1.1,x5.1.2.1,x5.1.2.2.1,x5.1.2.2.2)))))):Option (Int×Int×(List Ad)×Int×Int×Int×Int×Int×Bool)):=M95o0 _
theorem M94o0 (a0:Int) (a1:Ag):Np a0 a1=((Option.bind (Option.bind (Bv a1.last a0 a1) fun r=>some r) fun x0=>(some (x0.1,x0.2.1,x0.2.2.1,x0.2.2.2))):Option (Int×Int×Int×Bool)):=by kernel_rfl
theorem A94o0  (a0:Int) (a1:Ag):Np a0 a1=((Option.bind (Option.bind (Bv a1.last a0 a1) fun r=>some r) fun x0=>(some (x0.1,x0.2.1,x0.2.2.1,x0.2.2.2))):Option (Int×Int×Int×Bool)):=M94o0 _ _
theorem M96o0 (a0:Ag):Gr a0=((if a0.failed=true then(some (true,a0.diag.Line,a0.diag.Aj,a0.diag.Code))else(if(decide (a0.at_ < (a0.line.A5.length:Int)))=true then(if(0≤a0.at_)then(if(a0.at_ < (a0.line.A5.length:Int))then(some (true,a0.line.Ae,(a0.line.A5.getD a0.at_.toNat default).Aj,(4:Int)))else none)else none)else(some (false,(0:Int),(0:Int),(0:Int))))):Option (Bool×Int×Int×Int)):=by kernel_rfl
theorem A96o0  (a0:Ag):Gr a0=((if a0.failed=true then(some (true,a0.diag.Line,a0.diag.Aj,a0.diag.Code))else(if(decide (a0.at_ < (a0.line.A5.length:Int)))=true then(if(0≤a0.at_)then(if(a0.at_ < (a0.line.A5.length:Int))then(some (true,a0.line.Ae,(a0.line.A5.getD a0.at_.toNat default).Aj,(4:Int)))else none)else none)else(some (false,(0:Int),(0:Int),(0:Int))))):Option (Bool×Int×Int×Int)):=M96o0 _
structure Sc where
 n:Nat
 l:Int
 d:Ac
def Sc.fail (N c e:Int) (s:Sc):Sc:=if s.d.Code=0∧e≠0 then { s with d:=⟨N,c,e⟩ } else s
theorem Dz (N c e:Int) (s:Sc):(s.fail N c e).n=s.n:=by unfold Sc.fail;split<;>rfl
theorem H7 (N c e:Int) (s:Sc):(s.fail N c e).l=s.l:=by unfold Sc.fail;split<;>rfl
def AAI (F:List Ad):Int:=if 0 < F.length then(F.getD (F.length - 1) default).Aj+((F.getD (F.length - 1) default).Text.length:Int)else 1
def Cb (L:A4) (s:Sc):Option (List UInt8)×Sc :=
 if s.d.Code≠0 then(none,s)else if s.n=L.A5.length then(none,s.fail L.Ae (AAI L.A5) 4)else(some (L.A5.getD s.n default).Text,⟨s.n+1,(L.A5.getD s.n default).Aj,s.d⟩)
theorem Qk {L:A4} {s:Sc} (h:s.n≤L.A5.length):(Cb L s).2.n≤L.A5.length:=by
 unfold Cb
 split
 ·exact h
 ·split
  ·rw[Dz];exact h
  ·show s.n+1≤_;omega
theorem dk {L:A4} (O:Dd L) {s:Sc} (h:s.n≤L.A5.length) {t:List UInt8} (ht:(Cb L s).1=some t):t.length≤200:=by
 unfold Cb at ht
 split at ht
 ·cases ht
 ·split at ht
  ·cases ht
  ·injection ht with ht
   subst ht
   exact(O.fld _ (Ce (by omega))).2.2
def Cx (s:Sc):Int×Int×Int×Int×Int:=((s.n:Int),s.l,s.d.Line,s.d.Aj,s.d.Code)
def Cq (s:Sc):Int×Int×Int×Int×Int×Bool:=((s.n:Int),s.l,s.d.Line,s.d.Aj,s.d.Code,s.d.Code != 0)
def rS (L:A4) (s:Sc):Ag:=⟨L,(s.n:Int),s.l,s.d,s.d.Code != 0⟩
theorem P2 (c e N:Int) (F:List Ad) (a b:Int) (s:Sc):C3 c e N F a b s.d=some ((s.fail N c e).d.Line,(s.fail N c e).d.Aj,(s.fail N c e).d.Code):=by
 rw[A122o0,dv]
 simp only[bs,Bool.false_or]
 unfold Sc.fail
 by_cases h:s.d.Code=0∧e≠0
 ·rw[if_pos (by simp[h.1,h.2]),if_pos h]
 ·rw[if_neg (by simpa using fun a b=>h ⟨a,b⟩),if_neg h]
theorem N1 (c e:Int) (L:A4) (s:Sc):Bv c e (rS L s)=some ((s.fail L.Ae c e).d.Line,(s.fail L.Ae c e).d.Aj,(s.fail L.Ae c e).d.Code,(s.fail L.Ae c e).d.Code != 0):=by
 rw[A127o0]
 unfold Sc.fail rS
 by_cases h:s.d.Code=0∧e≠0
 ·rw[if_pos (by simp[h.1,h.2]),if_pos h]
  show some (L.Ae,c,e,true)=some (L.Ae,c,e,e != 0)
  rw[show (e != 0)=true from by simpa using h.2]
 ·rw[if_neg (by simpa using fun a b=>h ⟨a,b⟩),if_neg h]
theorem eo {L:A4} (O:Dd L):IntKind.wrap .i64 ((L.A5.length:Int) - (1:Int))=((L.A5.length - 1:Nat):Int)∧IntKind.wrap .i64 ((L.A5.getD (L.A5.length - 1) default).Aj+((L.A5.getD (L.A5.length - 1) default).Text.length:Int))=AAI L.A5:=by
 have h1:=O.ne
 have h2:=O.len
 have hf:=O.fld _ (Ce (l:=L.A5) (i:=L.A5.length - 1) (by omega))
 refine⟨by rw[Bh (by omega) (by omega)];omega,?_⟩
 unfold AAI
 rw[if_pos h1,Bh (by omega) (by omega)]
theorem Z6 {L:A4} (O:Dd L) {s:Sc} (h:s.n≤L.A5.length):Ex L.Ae L.A5 (s.n:Int) s.l s.d=some ((Cb L s).1.isSome,(Cb L s).1.getD [],Cx (Cb L s).2):=by
 have h1:=O.ne
 have h2:=O.len
 obtain⟨e1,e2⟩:=eo O
 rw[A121o0,dv]
 simp only[bs,Bool.false_or]
 unfold Cb
 by_cases hc:s.d.Code=0
 ·rw[show (s.d.Code != 0)=false from by simp[hc],if_neg (show ¬ (s.d.Code≠0) from fun h=>h hc)]
  simp only[Bool.false_eq_true,if_false]
  by_cases hn:s.n=L.A5.length
  ·rw[if_pos (show ((s.n:Int)==(L.A5.length:Int))=true from by simp[hn]),if_pos hn,if_pos (show decide ((0:Int) < (L.A5.length:Int))=true from decide_eq_true (by omega)),e1,if_pos (by omega),if_pos (by omega),Int.toNat_natCast,e2,P2]
   simp only[bs,Option.isSome_none,Option.getD_none,Cx,Dz,H7]
  ·rw[if_neg (show ¬ ((s.n:Int)==(L.A5.length:Int))=true from by simp;omega),if_neg hn,if_pos (by omega),if_pos (by omega),Int.toNat_natCast,wn (by omega)]
   rfl
 ·rw[show (s.d.Code != 0)=true from by simp[hc],if_pos (rfl:true=true),if_pos (show s.d.Code≠0 from hc)]
  rfl
theorem Vj {L:A4} (O:Dd L) {s:Sc} (h:s.n≤L.A5.length):Ey (rS L s)=some ((Cb L s).1.isSome,(Cb L s).1.getD [],Cq (Cb L s).2):=by
 have h1:=O.ne
 have h2:=O.len
 obtain⟨e1,e2⟩:=eo O
 rw[A126o0]
 unfold Cb
 show (if(s.d.Code != 0)=true then _ else _)=_
 by_cases hc:s.d.Code=0
 ·rw[show (s.d.Code != 0)=false from by simp[hc],if_neg (show ¬ (s.d.Code≠0) from fun h=>h hc)]
  simp only[Bool.false_eq_true,if_false]
  show (if(decide ((L.A5.length:Int)≤(s.n:Int)))=true then _ else _)=_
  by_cases hn:s.n=L.A5.length
  ·rw[if_pos (decide_eq_true (by omega)),if_pos hn]
   show (if(decide ((0:Int) < (L.A5.length:Int)))=true then(if(0≤(IntKind.wrap .i64 ((L.A5.length:Int) - (1:Int))))then(if((IntKind.wrap .i64 ((L.A5.length:Int) - (1:Int))) < (L.A5.length:Int))then(Option.bind (Option.bind (Bv (IntKind.wrap .i64 ((L.A5.getD (IntKind.wrap .i64 ((L.A5.length:Int) - (1:Int))).toNat default).Aj+((L.A5.getD (IntKind.wrap .i64 ((L.A5.length:Int) - (1:Int))).toNat default).Text.length:Int))) (4:Int) (rS L s)) fun r=>some r) fun x9=>(some (false,([]:List UInt8),(rS L s).at_,(rS L s).last,x9.1,x9.2.1,x9.2.2.1,x9.2.2.2)))else none)else none)else _)=_
   rw[if_pos (decide_eq_true (by omega)),e1,if_pos (by omega),if_pos (by omega),Int.toNat_natCast,e2,N1]
   simp only[bs,Option.isSome_none,Option.getD_none,Cq,Dz,H7]
   rfl
  ·rw[if_neg (show ¬ decide ((L.A5.length:Int)≤(s.n:Int))=true from by simp;omega),if_neg hn]
   show (if(0≤(s.n:Int))then(if((s.n:Int) < (L.A5.length:Int))then(some (true,(L.A5.getD (s.n:Int).toNat default).Text,(IntKind.wrap .i64 ((s.n:Int)+1)),(L.A5.getD (s.n:Int).toNat default).Aj,s.d.Line,s.d.Aj,s.d.Code,_))else none)else none)=_
   rw[if_pos (by omega),if_pos (by omega),Int.toNat_natCast,wn (by omega)]
   rfl
 ·rw[show (s.d.Code != 0)=true from by simp[hc],if_pos (rfl:true=true),if_pos (show s.d.Code≠0 from hc)]
  show some (false,([]:List UInt8),(s.n:Int),s.l,s.d.Line,s.d.Aj,s.d.Code,(s.d.Code != 0))=_
  rfl
def Jy (w:List UInt8) (L:A4) (s:Sc):Sc:=match (Cb L s).1 with
 | none=>(Cb L s).2
 | some t=>if w=t then(Cb L s).2 else(Cb L s).2.fail L.Ae (Cb L s).2.l 4
def Dl (lo hi:Int) (L:A4) (s:Sc):Int×Sc:=match (Cb L s).1 with
 | none=>(0,(Cb L s).2)
 | some t=>((pn t lo hi).1,(Cb L s).2.fail L.Ae (Cb L s).2.l (pn t lo hi).2)
def Gz (L:A4) (s:Sc):Int×Sc:=match (Cb L s).1 with
 | none=>(0,(Cb L s).2)
 | some t=>((pa t).1,(Cb L s).2.fail L.Ae (Cb L s).2.l (pa t).2)
def Ft (L:A4) (s:Sc):Bool×Ac:=if s.d.Code≠0 then(true,s.d)else if s.n < L.A5.length then(true,⟨L.Ae,(L.A5.getD s.n default).Aj,4⟩)else(false,⟨0,0,0⟩)
theorem Z9 {w:List UInt8} {L:A4} {s:Sc} (h:s.n≤L.A5.length):(Jy w L s).n≤L.A5.length:=by
 unfold Jy;split;(· exact Qk h);split;(· exact Qk h);rw[Dz];exact Qk h
theorem Jo {lo hi:Int} {L:A4} {s:Sc} (h:s.n≤L.A5.length):(Dl lo hi L s).2.n≤L.A5.length:=by
 unfold Dl;split;(· exact Qk h);show (Sc.fail _ _ _ _).n≤_;rw[Dz];exact Qk h
theorem altS_n {L:A4} {s:Sc} (h:s.n≤L.A5.length):(Gz L s).2.n≤L.A5.length:=by
 unfold Gz;split;(· exact Qk h);show (Sc.fail _ _ _ _).n≤_;rw[Dz];exact Qk h
theorem md {X:Type} {b:Int→Option (Int⊕(Unit⊕X))} {w t:List UInt8} {x:X} (h0:b 0=if(w==t)=true then some (.inr (.inr x))else some (.inl 1)) (h1:b 1=some (.inr (.inl ()))):Am b 0=some (if w=t then .inr x else .inl ()):=by
 by_cases h:w=t
 ·rw[if_pos h];exact Be (by rw[h0,if_pos (by simpa using h)])
 ·rw[if_neg h];exact Bg (s':=1) (by rw[h0,if_neg (by simpa using h)]) (Be h1)
theorem Zb {w:List UInt8} {L:A4} (O:Dd L) {s:Sc} (h:s.n≤L.A5.length):∃ v,Ek [w] L.Ae L.A5 (s.n:Int) s.l s.d=some (v,Cx (Jy w L s)):=by
 rw[A84o0,Z6 O h]
 simp only[bs]
 unfold Jy
 cases hk:(Cb L s).1 with
 | none=>exact⟨_,rfl⟩
 | some t =>
  simp only[Option.isSome_some,Bool.not_true,Bool.false_eq_true,if_false,bs,ol,Option.getD_some]
  generalize (Cb L s).2=q
  rw[md (w:=w) (t:=t) (x:=((0:Int),Cx q)) rfl rfl]
  by_cases hw:w=t
  ·rw[if_pos hw,if_pos hw];exact⟨_,rfl⟩
  ·rw[if_neg hw,if_neg hw]
   simp only[bs,ol]
   have:=P2 q.l 4 L.Ae L.A5 (q.n:Int) q.l q
   refine⟨-1,?_⟩
   show (Option.bind (Option.bind (C3 q.l (4:Int) L.Ae L.A5 (q.n:Int) q.l q.d) fun r=>some r) fun x10=>(some ((-1:Int),(q.n:Int),q.l,x10.1,x10.2.1,x10.2.2)))=_
   rw[this]
   simp only[bs,Cx,Dz,H7]
theorem Vo {w:List UInt8} {L:A4} (O:Dd L) {s:Sc} (h:s.n≤L.A5.length):∃ v,Em [w] (rS L s)=some (v,L.Ae,L.A5,Cq (Jy w L s)):=by
 rw[A92o0,Vj O h]
 simp only[bs]
 unfold Jy
 cases hk:(Cb L s).1 with
 | none=>exact⟨_,rfl⟩
 | some t =>
  simp only[Option.isSome_some,Bool.not_true,Bool.false_eq_true,if_false,bs,ol,Option.getD_some]
  generalize (Cb L s).2=q
  rw[md (w:=w) (t:=t) (x:=((0:Int),L.Ae,L.A5,Cq q)) rfl rfl]
  by_cases hw:w=t
  ·rw[if_pos hw,if_pos hw];exact⟨_,rfl⟩
  ·rw[if_neg hw,if_neg hw]
   simp only[bs,ol]
   refine⟨-1,?_⟩
   show (Option.bind (Option.bind (Bv q.l (4:Int) (rS L q)) fun r=>some r) fun x10=>(some ((-1:Int),L.Ae,L.A5,(q.n:Int),q.l,x10.1,x10.2.1,x10.2.2.1,x10.2.2.2)))=_
   rw[N1]
   simp only[bs,Cq,Dz,H7]
theorem pn_err (t:List UInt8) (lo hi:Int):(pn t lo hi).2≠0→(pn t lo hi).1=0:=by
 unfold pn
 split
 ·intro _;rfl
 ·split
  ·intro h;exact absurd rfl h
  ·intro _;rfl
theorem pa_err (t:List UInt8):(pa t).2≠0→(pa t).1=0:=by
 unfold pa
 split
 ·intro _;rfl
 ·split
  ·intro _;rfl
  ·intro h;exact absurd rfl h
theorem Wg (N c:Int) (s:Sc):s.fail N c 0=s:=by unfold Sc.fail;rw[if_neg (fun h=>h.2 rfl)]
theorem Jq {lo hi:Int} (b1 : -9223372036854775808≤lo) (b2:hi≤9223372036854775807) {L:A4} (O:Dd L) {s:Sc} (h:s.n≤L.A5.length):Bi lo hi L.Ae L.A5 (s.n:Int) s.l s.d=some ((Dl lo hi L s).1,Cx (Dl lo hi L s).2):=by
 rw[A85o0,A113o0,Z6 O h]
 simp only[bs]
 unfold Dl
 cases hk:(Cb L s).1 with
 | none=>rfl
 | some t =>
  simp only[Option.isSome_some,Bool.not_true,Bool.false_eq_true,if_false,bs,ol,Option.getD_some]
  rw[A123o0,pn_p t (by have:=dk O h hk;omega) lo hi b1 b2]
  simp only[bs]
  generalize (Cb L s).2=q
  by_cases he:(pn t lo hi).2=0
  ·rw[he,Wg];rfl
  ·rw[if_pos (show ((pn t lo hi).2 != 0)=true from by simpa using he),pn_err t lo hi he]
   have:=P2 q.l (pn t lo hi).2 L.Ae L.A5 (q.n:Int) q.l q
   simp only[Cx]
   rw[this]
   simp only[bs,Dz,H7]
theorem Gv {lo hi:Int} (b1 : -9223372036854775808≤lo) (b2:hi≤9223372036854775807) {L:A4} (O:Dd L) {s:Sc} (h:s.n≤L.A5.length):Bj lo hi (rS L s)=some ((Dl lo hi L s).1,L.Ae,L.A5,Cq (Dl lo hi L s).2):=by
 rw[A93o0,Vj O h]
 simp only[bs]
 unfold Dl
 cases hk:(Cb L s).1 with
 | none=>rfl
 | some t =>
  simp only[Option.isSome_some,Bool.not_true,Bool.false_eq_true,if_false,bs,ol,Option.getD_some]
  rw[pn_r t (by have:=dk O h hk;omega) lo hi b1 b2]
  simp only[bs]
  generalize (Cb L s).2=q
  have:=N1 q.l (pn t lo hi).2 L q
  unfold rS at this
  simp only[Cq]
  show (Option.bind ((Bv q.l (pn t lo hi).2 (⟨L,(q.n:Int),q.l,q.d,q.d.Code != 0⟩:Ag)).bind _) _)=_
  rw[this]
  simp only[bs,Dz,H7]
  rfl
theorem alt_eq {L:A4} (O:Dd L) {s:Sc} (h:s.n≤L.A5.length):Jm L.Ae L.A5 (s.n:Int) s.l s.d=some ((Gz L s).1,Cx (Gz L s).2):=by
 rw[A48o0,A113o1,Z6 O h]
 simp only[bs]
 unfold Gz
 cases hk:(Cb L s).1 with
 | none=>rfl
 | some t =>
  simp only[Option.isSome_some,Bool.not_true,Bool.false_eq_true,if_false,bs,ol,Option.getD_some]
  rw[pa_p t (by have:=dk O h hk;omega)]
  simp only[bs]
  generalize (Cb L s).2=q
  by_cases he:(pa t).2=0
  ·rw[he,Wg];rfl
  ·rw[if_pos (show ((pa t).2 != 0)=true from by simpa using he),pa_err t he]
   have:=P2 q.l (pa t).2 L.Ae L.A5 (q.n:Int) q.l q
   simp only[Cx]
   rw[this]
   simp only[bs,Dz,H7]
theorem ralt_eq {L:A4} (O:Dd L) {s:Sc} (h:s.n≤L.A5.length):Nq (rS L s)=some ((Gz L s).1,L.Ae,L.A5,Cq (Gz L s).2):=by
 rw[A95o0,Vj O h]
 simp only[bs]
 unfold Gz
 cases hk:(Cb L s).1 with
 | none=>rfl
 | some t =>
  simp only[Option.isSome_some,Bool.not_true,Bool.false_eq_true,if_false,bs,ol,Option.getD_some]
  rw[pa_r t (by have:=dk O h hk;omega)]
  simp only[bs]
  generalize (Cb L s).2=q
  have:=N1 q.l (pa t).2 L q
  unfold rS at this
  simp only[Cq]
  show (Option.bind ((Bv q.l (pa t).2 (⟨L,(q.n:Int),q.l,q.d,q.d.Code != 0⟩:Ag)).bind _) _)=_
  rw[this]
  simp only[bs,Dz,H7]
  rfl
theorem eu {L:A4} {s:Sc} (h:s.n≤L.A5.length):El L.Ae L.A5 (s.n:Int) s.l s.d=some ((Ft L s).1,(Ft L s).2.Line,(Ft L s).2.Aj,(Ft L s).2.Code):=by
 rw[A86o0,dv]
 rw[if_neg (by decide)]
 simp only[bs,Bool.false_or]
 unfold Ft
 by_cases hc:s.d.Code=0
 ·rw[if_neg (show ¬ (s.d.Code != 0)=true from by simp[hc]),if_neg (show ¬ (s.d.Code≠0) from fun h=>h hc)]
  by_cases hn:s.n < L.A5.length
  ·rw[if_pos (decide_eq_true (show (s.n:Int) < (L.A5.length:Int) from by omega)),if_pos hn,if_pos (by omega),if_pos (by omega),Int.toNat_natCast]
  ·rw[if_neg (by simp;omega),if_neg hn]
 ·rw[if_pos (show (s.d.Code != 0)=true from by simp[hc]),if_pos (show s.d.Code≠0 from hc)]
theorem Z2 {L:A4} {s:Sc} (h:s.n≤L.A5.length):Gr (rS L s)=some ((Ft L s).1,(Ft L s).2.Line,(Ft L s).2.Aj,(Ft L s).2.Code):=by
 rw[A96o0]
 unfold Ft rS
 by_cases hc:s.d.Code=0
 ·rw[if_neg (show ¬ (s.d.Code != 0)=true from by simp[hc]),if_neg (show ¬ (s.d.Code≠0) from fun h=>h hc)]
  by_cases hn:s.n < L.A5.length
  ·rw[if_pos (decide_eq_true (show (s.n:Int) < (L.A5.length:Int) from by omega)),if_pos hn,if_pos (show (0:Int)≤(s.n:Int) from by omega),if_pos (show (s.n:Int) < (L.A5.length:Int) from by omega),Int.toNat_natCast]
  ·rw[if_neg (by simp;omega),if_neg hn]
 ·rw[if_pos (show (s.d.Code != 0)=true from by simp[hc]),if_pos (show s.d.Code≠0 from hc)]
theorem Fail_eq (e:Int) {L:A4} {s:Sc}:Q3 e L.Ae L.A5 (s.n:Int) s.l s.d=some ((s.fail L.Ae s.l e).d.Line,(s.fail L.Ae s.l e).d.Aj,(s.fail L.Ae s.l e).d.Code):=by
 rw[A87o0,if_pos (rfl:true=true),P2]
 rfl
theorem AAo (e:Int) {L:A4} {s:Sc}:Np e (rS L s)=some ((s.fail L.Ae s.l e).d.Line,(s.fail L.Ae s.l e).d.Aj,(s.fail L.Ae s.l e).d.Code,(s.fail L.Ae s.l e).d.Code != 0):=by
 rw[A94o0,show (rS L s).last=s.l from rfl,N1]
 rfl
end Go.Av.Txs
set_option maxRecDepth 100000
namespace Go.Av.Txs
open Go.Av
theorem M82o0 (a0:List A4) (a1:Int):G3 a0 a1=((if(decide (a1 < (a0.length:Int)))=true then(if(0≤(IntKind.wrap .i64 ((IntKind.wrap .i64 (a1+1)) - 1)))then(if((IntKind.wrap .i64 ((IntKind.wrap .i64 (a1+1)) - 1)) < (a0.length:Int))then(some (false,(0:Int),(0:Int),(0:Int),(a0.getD (IntKind.wrap .i64 ((IntKind.wrap .i64 (a1+1)) - 1)).toNat default).Ae,(a0.getD (IntKind.wrap .i64 ((IntKind.wrap .i64 (a1+1)) - 1)).toNat default).A5,(IntKind.wrap .i64 (a1+1))))else none)else none)else(if(decide (0 < a1))=true then(if(0≤(IntKind.wrap .i64 (a1 - 1)))then(if((IntKind.wrap .i64 (a1 - 1)) < (a0.length:Int))then(some (true,(IntKind.wrap .i64 ((a0.getD (IntKind.wrap .i64 (a1 - 1)).toNat default).Ae+1)),(1:Int),(4:Int),(0:Int),[],a1))else none)else none)else(some (true,(1:Int),(1:Int),(4:Int),(0:Int),[],a1)))):Option (Bool×Int×Int×Int×Int×(List Ad)×Int)):=by kernel_rfl
theorem ABD  (a0:List A4) (a1:Int):G3 a0 a1=((if(decide (a1 < (a0.length:Int)))=true then(if(0≤(IntKind.wrap .i64 ((IntKind.wrap .i64 (a1+1)) - 1)))then(if((IntKind.wrap .i64 ((IntKind.wrap .i64 (a1+1)) - 1)) < (a0.length:Int))then(some (false,(0:Int),(0:Int),(0:Int),(a0.getD (IntKind.wrap .i64 ((IntKind.wrap .i64 (a1+1)) - 1)).toNat default).Ae,(a0.getD (IntKind.wrap .i64 ((IntKind.wrap .i64 (a1+1)) - 1)).toNat default).A5,(IntKind.wrap .i64 (a1+1))))else none)else none)else(if(decide (0 < a1))=true then(if(0≤(IntKind.wrap .i64 (a1 - 1)))then(if((IntKind.wrap .i64 (a1 - 1)) < (a0.length:Int))then(some (true,(IntKind.wrap .i64 ((a0.getD (IntKind.wrap .i64 (a1 - 1)).toNat default).Ae+1)),(1:Int),(4:Int),(0:Int),[],a1))else none)else none)else(some (true,(1:Int),(1:Int),(4:Int),(0:Int),[],a1)))):Option (Bool×Int×Int×Int×Int×(List Ad)×Int)):=M82o0 _ _
theorem M31o0 (a0:List A4) (a1:Int) (a2:Ax) (a3 a4 a5:Int) (a6:List Int) (a7:List Ao) (a8:List Int) (a9:Int):Nm a0 a1 a2 a3 a4 a5 a6 a7 a8 a9=((Option.bind (Option.bind (G3 a0 a1) fun r=>some r) fun x1=>(if x1.1=true then(some (true,x1.2.1,x1.2.2.1,x1.2.2.2.1,x1.2.2.2.2.2.2,a2.X,a2.Y,a3,a4,a5,a9))else(Option.bind (((Gq (⟨x1.2.2.2.2.1,x1.2.2.2.2.2.1⟩:A4)).bind fun r4_0=>some (r4_0,x1))) fun(x4:(Unit×(Bool×Int×Int×Int×Int×(List Ad)×Int)))=>(Option.bind (((Ek ([([71,82,73,68]:List UInt8)]:List (List UInt8)) (⟨x4.2.2.2.2.2.1,x4.2.2.2.2.2.2.1⟩:A4).Ae (⟨x4.2.2.2.2.2.1,x4.2.2.2.2.2.2.1⟩:A4).A5 (0:Int) (1:Int) (⟨(0:Int),(0:Int),(0:Int)⟩:Ac)).bind fun r5_0=>some (r5_0,x4.2))) fun(x5:((Int×Int×Int×Int×Int×Int)×(Bool×Int×Int×Int×Int×(List Ad)×Int)))=>(Option.bind (((Bi (-2000000:Int) (2000000:Int) (⟨x5.2.2.2.2.2.1,x5.2.2.2.2.2.2.1⟩:A4).Ae (⟨x5.2.2.2.2.2.1,x5.2.2.2.2.2.2.1⟩:A4).A5 x5.1.2.1 x5.1.2.2.1 (⟨x5.1.2.2.2.1,x5.1.2.2.2.2.1,x5.1.2.2.2.2.2⟩:Ac)).bind fun r6_0=>some (r6_0,x5.2))) fun(x6:((Int×Int×Int×Int×Int×Int)×(Bool×Int×Int×Int×Int×(List Ad)×Int)))=>(Option.bind (((Bi (-2000000:Int) (2000000:Int) (⟨x6.2.2.2.2.2.1,x6.2.2.2.2.2.2.1⟩:A4).Ae (⟨x6.2.2.2.2.2.1,x6.2.2.2.2.2.2.1⟩:A4).A5 x6.1.2.1 x6.1.2.2.1 (⟨x6.1.2.2.2.1,x6.1.2.2.2.2.1,x6.1.2.2.2.2.2⟩:Ac)).bind fun r7_0=>some (r7_0,x6.2))) fun(x7:((Int×Int×Int×Int×Int×Int)×(Bool×Int×Int×Int×Int×(List Ad)×Int)))=>(Option.bind (((Bi (1:Int) (2000000:Int) (⟨x7.2.2.2.2.2.1,x7.2.2.2.2.2.2.1⟩:A4).Ae (⟨x7.2.2.2.2.2.1,x7.2.2.2.2.2.2.1⟩:A4).A5 x7.1.2.1 x7.1.2.2.1 (⟨x7.1.2.2.2.1,x7.1.2.2.2.2.1,x7.1.2.2.2.2.2⟩:Ac)).bind fun r8_0=>some (r8_0,x7.2))) fun(x8:((Int×Int×Int×Int×Int×Int)×(Bool×Int×Int×Int×Int×(List Ad)×Int)))=>(Option.bind (((Bi (1:Int) (16:Int) (⟨x8.2.2.2.2.2.1,x8.2.2.2.2.2.2.1⟩:A4).Ae (⟨x8.2.2.2.2.2.1,x8.2.2.2.2.2.2.1⟩:A4).A5 x8.1.2.1 x8.1.2.2.1 (⟨x8.1.2.2.2.1,x8.1.2.2.2.2.1,x8.1.2.2.2.2.2⟩:Ac)).bind fun r9_0=>((Bi (1:Int) (16:Int) (⟨x8.2.2.2.2.2.1,x8.2.2.2.2.2.2.1⟩:A4).Ae (⟨x8.2.2.2.2.2.1,x8.2.2.2.2.2.2.1⟩:A4).A5 r9_0.2.1 r9_0.2.2.1 (⟨r9_0.2.2.2.1,r9_0.2.2.2.2.1,r9_0.2.2.2.2.2⟩:Ac)).bind fun r9_1=>some (r9_0,r9_1,x8.2)))) fun(x9:((Int×Int×Int×Int×Int×Int)×(Int×Int×Int×Int×Int×Int)×(Bool×Int×Int×Int×Int×(List Ad)×Int)))=>(Option.bind (((Bi (0:Int) (60:Int) (⟨x9.2.2.2.2.2.2.1,x9.2.2.2.2.2.2.2.1⟩:A4).Ae (⟨x9.2.2.2.2.2.2.1,x9.2.2.2.2.2.2.2.1⟩:A4).A5 x9.2.1.2.1 x9.2.1.2.2.1 (⟨x9.2.1.2.2.2.1,x9.2.1.2.2.2.2.1,x9.2.1.2.2.2.2.2⟩:Ac)).bind fun r10_0=>some (r10_0,x9.2.2))) fun(x10:((Int×Int×Int×Int×Int×Int)×(Bool×Int×Int×Int×Int×(List Ad)×Int)))=>(Option.bind (((El (⟨x10.2.2.2.2.2.1,x10.2.2.2.2.2.2.1⟩:A4).Ae (⟨x10.2.2.2.2.2.1,x10.2.2.2.2.2.2.1⟩:A4).A5 x10.1.2.1 x10.1.2.2.1 (⟨x10.1.2.2.2.1,x10.1.2.2.2.2.1,x10.1.2.2.2.2.2⟩:Ac)).bind fun r11_0=>some (r11_0,x10.2,x10.1))) fun(x11:((Bool×Int×Int×Int)×(Bool×Int×Int×Int×Int×(List Ad)×Int)×(Int×Int×Int×Int×Int×Int)))=>(some (x11.1.1,x11.1.2.1,x11.1.2.2.1,x11.1.2.2.2,x1.2.2.2.2.2.2,x6.1.1,x7.1.1,x8.1.1,x9.1.1,x9.2.1.1,x10.1.1)))))))))))):Option (Bool×Int×Int×Int×Int×Int×Int×Int×Int×Int×Int)):=by kernel_rfl
theorem ABB  (a0:List A4) (a1:Int) (a2:Ax) (a3 a4 a5:Int) (a6:List Int) (a7:List Ao) (a8:List Int) (a9:Int):Nm a0 a1 a2 a3 a4 a5 a6 a7 a8 a9=((Option.bind (Option.bind (G3 a0 a1) fun r=>some r) fun x1=>(if x1.1=true then(some (true,x1.2.1,x1.2.2.1,x1.2.2.2.1,x1.2.2.2.2.2.2,a2.X,a2.Y,a3,a4,a5,a9))else(Option.bind (((Gq (⟨x1.2.2.2.2.1,x1.2.2.2.2.2.1⟩:A4)).bind fun r4_0=>some (r4_0,x1))) fun(x4:(Unit×(Bool×Int×Int×Int×Int×(List Ad)×Int)))=>(Option.bind (((Ek ([([71,82,73,68]:List UInt8)]:List (List UInt8)) (⟨x4.2.2.2.2.2.1,x4.2.2.2.2.2.2.1⟩:A4).Ae (⟨x4.2.2.2.2.2.1,x4.2.2.2.2.2.2.1⟩:A4).A5 (0:Int) (1:Int) (⟨(0:Int),(0:Int),(0:Int)⟩:Ac)).bind fun r5_0=>some (r5_0,x4.2))) fun(x5:((Int×Int×Int×Int×Int×Int)×(Bool×Int×Int×Int×Int×(List Ad)×Int)))=>(Option.bind (((Bi (-2000000:Int) (2000000:Int) (⟨x5.2.2.2.2.2.1,x5.2.2.2.2.2.2.1⟩:A4).Ae (⟨x5.2.2.2.2.2.1,x5.2.2.2.2.2.2.1⟩:A4).A5 x5.1.2.1 x5.1.2.2.1 (⟨x5.1.2.2.2.1,x5.1.2.2.2.2.1,x5.1.2.2.2.2.2⟩:Ac)).bind fun r6_0=>some (r6_0,x5.2))) fun(x6:((Int×Int×Int×Int×Int×Int)×(Bool×Int×Int×Int×Int×(List Ad)×Int)))=>(Option.bind (((Bi (-2000000:Int) (2000000:Int) (⟨x6.2.2.2.2.2.1,x6.2.2.2.2.2.2.1⟩:A4).Ae (⟨x6.2.2.2.2.2.1,x6.2.2.2.2.2.2.1⟩:A4).A5 x6.1.2.1 x6.1.2.2.1 (⟨x6.1.2.2.2.1,x6.1.2.2.2.2.1,x6.1.2.2.2.2.2⟩:Ac)).bind fun r7_0=>some (r7_0,x6.2))) fun(x7:((Int×Int×Int×Int×Int×Int)×(Bool×Int×Int×Int×Int×(List Ad)×Int)))=>(Option.bind (((Bi (1:Int) (2000000:Int) (⟨x7.2.2.2.2.2.1,x7.2.2.2.2.2.2.1⟩:A4).Ae (⟨x7.2.2.2.2.2.1,x7.2.2.2.2.2.2.1⟩:A4).A5 x7.1.2.1 x7.1.2.2.1 (⟨x7.1.2.2.2.1,x7.1.2.2.2.2.1,x7.1.2.2.2.2.2⟩:Ac)).bind fun r8_0=>some (r8_0,x7.2))) fun(x8:((Int×Int×Int×Int×Int×Int)×(Bool×Int×Int×Int×Int×(List Ad)×Int)))=>(Option.bind (((Bi (1:Int) (16:Int) (⟨x8.2.2.2.2.2.1,x8.2.2.2.2.2.2.1⟩:A4).Ae (⟨x8.2.2.2.2.2.1,x8.2.2.2.2.2.2.1⟩:A4).A5 x8.1.2.1 x8.1.2.2.1 (⟨x8.1.2.2.2.1,x8.1.2.2.2.2.1,x8.1.2.2.2.2.2⟩:Ac)).bind fun r9_0=>((Bi (1:Int) (16:Int) (⟨x8.2.2.2.2.2.1,x8.2.2.2.2.2.2.1⟩:A4).Ae (⟨x8.2.2.2.2.2.1,x8.2.2.2.2.2.2.1⟩:A4).A5 r9_0.2.1 r9_0.2.2.1 (⟨r9_0.2.2.2.1,r9_0.2.2.2.2.1,r9_0.2.2.2.2.2⟩:Ac)).bind fun r9_1=>some (r9_0,r9_1,x8.2)))) fun(x9:((Int×Int×Int×Int×Int×Int)×(Int×Int×Int×Int×Int×Int)×(Bool×Int×Int×Int×Int×(List Ad)×Int)))=>(Option.bind (((Bi (0:Int) (60:Int) (⟨x9.2.2.2.2.2.2.1,x9.2.2.2.2.2.2.2.1⟩:A4).Ae (⟨x9.2.2.2.2.2.2.1,x9.2.2.2.2.2.2.2.1⟩:A4).A5 x9.2.1.2.1 x9.2.1.2.2.1 (⟨x9.2.1.2.2.2.1,x9.2.1.2.2.2.2.1,x9.2.1.2.2.2.2.2⟩:Ac)).bind fun r10_0=>some (r10_0,x9.2.2))) fun(x10:((Int×Int×Int×Int×Int×Int)×(Bool×Int×Int×Int×Int×(List Ad)×Int)))=>(Option.bind (((El (⟨x10.2.2.2.2.2.1,x10.2.2.2.2.2.2.1⟩:A4).Ae (⟨x10.2.2.2.2.2.1,x10.2.2.2.2.2.2.1⟩:A4).A5 x10.1.2.1 x10.1.2.2.1 (⟨x10.1.2.2.2.1,x10.1.2.2.2.2.1,x10.1.2.2.2.2.2⟩:Ac)).bind fun r11_0=>some (r11_0,x10.2,x10.1))) fun(x11:((Bool×Int×Int×Int)×(Bool×Int×Int×Int×Int×(List Ad)×Int)×(Int×Int×Int×Int×Int×Int)))=>(some (x11.1.1,x11.1.2.1,x11.1.2.2.1,x11.1.2.2.2,x1.2.2.2.2.2.2,x6.1.1,x7.1.1,x8.1.1,x9.1.1,x9.2.1.1,x10.1.1)))))))))))):Option (Bool×Int×Int×Int×Int×Int×Int×Int×Int×Int×Int)):=M31o0 _ _ _ _ _ _ _ _ _ _
theorem M88o0 (a0:List A4) (a1:Int) (a2:Ax) (a3 a4 a5:Int) (a6:List Int) (a7:List Ao) (a8:List Int) (a9:Int):No a0 a1 a2 a3 a4 a5 a6 a7 a8 a9=((Option.bind (Option.bind (G3 a0 a1) fun r=>some r) fun x1=>(if x1.1=true then(some (true,x1.2.1,x1.2.2.1,x1.2.2.2.1,x1.2.2.2.2.2.2,a7,a8))else(Option.bind (((Gq (⟨x1.2.2.2.2.1,x1.2.2.2.2.2.1⟩:A4)).bind fun r4_0=>some (r4_0,x1))) fun(x4:(Unit×(Bool×Int×Int×Int×Int×(List Ad)×Int)))=>(Option.bind (((Ek ([([87,73,78,68]:List UInt8)]:List (List UInt8)) (⟨x4.2.2.2.2.2.1,x4.2.2.2.2.2.2.1⟩:A4).Ae (⟨x4.2.2.2.2.2.1,x4.2.2.2.2.2.2.1⟩:A4).A5 (0:Int) (1:Int) (⟨(0:Int),(0:Int),(0:Int)⟩:Ac)).bind fun r5_0=>some (r5_0,x4.2))) fun(x5:((Int×Int×Int×Int×Int×Int)×(Bool×Int×Int×Int×Int×(List Ad)×Int)))=>(Option.bind (((Bi (-340:Int) (340:Int) (⟨x5.2.2.2.2.2.1,x5.2.2.2.2.2.2.1⟩:A4).Ae (⟨x5.2.2.2.2.2.1,x5.2.2.2.2.2.2.1⟩:A4).A5 x5.1.2.1 x5.1.2.2.1 (⟨x5.1.2.2.2.1,x5.1.2.2.2.2.1,x5.1.2.2.2.2.2⟩:Ac)).bind fun r6_0=>((Bi (-340:Int) (340:Int) (⟨x5.2.2.2.2.2.1,x5.2.2.2.2.2.2.1⟩:A4).Ae (⟨x5.2.2.2.2.2.1,x5.2.2.2.2.2.2.1⟩:A4).A5 r6_0.2.1 r6_0.2.2.1 (⟨r6_0.2.2.2.1,r6_0.2.2.2.2.1,r6_0.2.2.2.2.2⟩:Ac)).bind fun r6_1=>some (r6_0,r6_1,x5.2)))) fun(x6:((Int×Int×Int×Int×Int×Int)×(Int×Int×Int×Int×Int×Int)×(Bool×Int×Int×Int×Int×(List Ad)×Int)))=>(if((a7.length+1) * 16≤140737488355328)then(Option.bind (((Bi (-4000:Int) (4000:Int) (⟨x6.2.2.2.2.2.2.1,x6.2.2.2.2.2.2.2.1⟩:A4).Ae (⟨x6.2.2.2.2.2.2.1,x6.2.2.2.2.2.2.2.1⟩:A4).A5 x6.2.1.2.1 x6.2.1.2.2.1 (⟨x6.2.1.2.2.2.1,x6.2.1.2.2.2.2.1,x6.2.1.2.2.2.2.2⟩:Ac)).bind fun r8_0=>(if(a8.length+1) * 8≤140737488355328 then some (r8_0,x6.2.2)else none))) fun(x8:((Int×Int×Int×Int×Int×Int)×(Bool×Int×Int×Int×Int×(List Ad)×Int)))=>(Option.bind (((El (⟨x8.2.2.2.2.2.1,x8.2.2.2.2.2.2.1⟩:A4).Ae (⟨x8.2.2.2.2.2.1,x8.2.2.2.2.2.2.1⟩:A4).A5 x8.1.2.1 x8.1.2.2.1 (⟨x8.1.2.2.2.1,x8.1.2.2.2.2.1,x8.1.2.2.2.2.2⟩:Ac)).bind fun r9_0=>some (r9_0,x8.2,x8.1))) fun(x9:((Bool×Int×Int×Int)×(Bool×Int×Int×Int×Int×(List Ad)×Int)×(Int×Int×Int×Int×Int×Int)))=>(some (x9.1.1,x9.1.2.1,x9.1.2.2.1,x9.1.2.2.2,x1.2.2.2.2.2.2,(a7++([(⟨x6.1.1,x6.2.1.1⟩:Ao)]:List Ao)),(a8++([x8.1.1]:List Int))))))else none)))))):Option (Bool×Int×Int×Int×Int×(List Ao)×(List Int))):=by kernel_rfl
theorem ABE  (a0:List A4) (a1:Int) (a2:Ax) (a3 a4 a5:Int) (a6:List Int) (a7:List Ao) (a8:List Int) (a9:Int):No a0 a1 a2 a3 a4 a5 a6 a7 a8 a9=((Option.bind (Option.bind (G3 a0 a1) fun r=>some r) fun x1=>(if x1.1=true then(some (true,x1.2.1,x1.2.2.1,x1.2.2.2.1,x1.2.2.2.2.2.2,a7,a8))else(Option.bind (((Gq (⟨x1.2.2.2.2.1,x1.2.2.2.2.2.1⟩:A4)).bind fun r4_0=>some (r4_0,x1))) fun(x4:(Unit×(Bool×Int×Int×Int×Int×(List Ad)×Int)))=>(Option.bind (((Ek ([([87,73,78,68]:List UInt8)]:List (List UInt8)) (⟨x4.2.2.2.2.2.1,x4.2.2.2.2.2.2.1⟩:A4).Ae (⟨x4.2.2.2.2.2.1,x4.2.2.2.2.2.2.1⟩:A4).A5 (0:Int) (1:Int) (⟨(0:Int),(0:Int),(0:Int)⟩:Ac)).bind fun r5_0=>some (r5_0,x4.2))) fun(x5:((Int×Int×Int×Int×Int×Int)×(Bool×Int×Int×Int×Int×(List Ad)×Int)))=>(Option.bind (((Bi (-340:Int) (340:Int) (⟨x5.2.2.2.2.2.1,x5.2.2.2.2.2.2.1⟩:A4).Ae (⟨x5.2.2.2.2.2.1,x5.2.2.2.2.2.2.1⟩:A4).A5 x5.1.2.1 x5.1.2.2.1 (⟨x5.1.2.2.2.1,x5.1.2.2.2.2.1,x5.1.2.2.2.2.2⟩:Ac)).bind fun r6_0=>((Bi (-340:Int) (340:Int) (⟨x5.2.2.2.2.2.1,x5.2.2.2.2.2.2.1⟩:A4).Ae (⟨x5.2.2.2.2.2.1,x5.2.2.2.2.2.2.1⟩:A4).A5 r6_0.2.1 r6_0.2.2.1 (⟨r6_0.2.2.2.1,r6_0.2.2.2.2.1,r6_0.2.2.2.2.2⟩:Ac)).bind fun r6_1=>some (r6_0,r6_1,x5.2)))) fun(x6:((Int×Int×Int×Int×Int×Int)×(Int×Int×Int×Int×Int×Int)×(Bool×Int×Int×Int×Int×(List Ad)×Int)))=>(if((a7.length+1) * 16≤140737488355328)then(Option.bind (((Bi (-4000:Int) (4000:Int) (⟨x6.2.2.2.2.2.2.1,x6.2.2.2.2.2.2.2.1⟩:A4).Ae (⟨x6.2.2.2.2.2.2.1,x6.2.2.2.2.2.2.2.1⟩:A4).A5 x6.2.1.2.1 x6.2.1.2.2.1 (⟨x6.2.1.2.2.2.1,x6.2.1.2.2.2.2.1,x6.2.1.2.2.2.2.2⟩:Ac)).bind fun r8_0=>(if(a8.length+1) * 8≤140737488355328 then some (r8_0,x6.2.2)else none))) fun(x8:((Int×Int×Int×Int×Int×Int)×(Bool×Int×Int×Int×Int×(List Ad)×Int)))=>(Option.bind (((El (⟨x8.2.2.2.2.2.1,x8.2.2.2.2.2.2.1⟩:A4).Ae (⟨x8.2.2.2.2.2.1,x8.2.2.2.2.2.2.1⟩:A4).A5 x8.1.2.1 x8.1.2.2.1 (⟨x8.1.2.2.2.1,x8.1.2.2.2.2.1,x8.1.2.2.2.2.2⟩:Ac)).bind fun r9_0=>some (r9_0,x8.2,x8.1))) fun(x9:((Bool×Int×Int×Int)×(Bool×Int×Int×Int×Int×(List Ad)×Int)×(Int×Int×Int×Int×Int×Int)))=>(some (x9.1.1,x9.1.2.1,x9.1.2.2.1,x9.1.2.2.2,x1.2.2.2.2.2.2,(a7++([(⟨x6.1.1,x6.2.1.1⟩:Ao)]:List Ao)),(a8++([x8.1.1]:List Int))))))else none)))))):Option (Bool×Int×Int×Int×Int×(List Ao)×(List Int))):=M88o0 _ _ _ _ _ _ _ _ _ _
theorem M32o0 (a0:List A4) (a1:Int) (a2:Ax) (a3 a4 a5:Int) (a6:List Int) (a7:List Ao) (a8:List Int) (a9:Int):Nn a0 a1 a2 a3 a4 a5 a6 a7 a8 a9=((Option.bind (Option.bind (Option.bind (G3 a0 a1) fun r=>some r) fun x1=>(if x1.1=true then(some (.inr ((true,x1.2.1,x1.2.2.1,x1.2.2.2.1,x1.2.2.2.2.2.2,a6,a7,a8))))else(Option.bind (((Gq (⟨x1.2.2.2.2.1,x1.2.2.2.2.2.1⟩:A4)).bind fun r4_0=>some (r4_0,x1))) fun(x4:(Unit×(Bool×Int×Int×Int×Int×(List Ad)×Int)))=>(Option.bind (((Ek ([([76,69,86,69,76]:List UInt8)]:List (List UInt8)) (⟨x4.2.2.2.2.2.1,x4.2.2.2.2.2.2.1⟩:A4).Ae (⟨x4.2.2.2.2.2.1,x4.2.2.2.2.2.2.1⟩:A4).A5 (0:Int) (1:Int) (⟨(0:Int),(0:Int),(0:Int)⟩:Ac)).bind fun r5_0=>some (r5_0,x4.2))) fun(x5:((Int×Int×Int×Int×Int×Int)×(Bool×Int×Int×Int×Int×(List Ad)×Int)))=>(if((a6.length:Int)==(8:Int))=true then(Option.bind (((Q3 (3:Int) (⟨x5.2.2.2.2.2.1,x5.2.2.2.2.2.2.1⟩:A4).Ae (⟨x5.2.2.2.2.2.1,x5.2.2.2.2.2.2.1⟩:A4).A5 x5.1.2.1 x5.1.2.2.1 (⟨x5.1.2.2.2.1,x5.1.2.2.2.2.1,x5.1.2.2.2.2.2⟩:Ac)).bind fun r7_0=>some (r7_0,x5.2,x5.1))) fun(x7:((Int×Int×Int)×(Bool×Int×Int×Int×Int×(List Ad)×Int)×(Int×Int×Int×Int×Int×Int)))=>(Option.bind (((Jm (⟨x7.2.1.2.2.2.2.1,x7.2.1.2.2.2.2.2.1⟩:A4).Ae (⟨x7.2.1.2.2.2.2.1,x7.2.1.2.2.2.2.2.1⟩:A4).A5 x7.2.2.2.1 x7.2.2.2.2.1 (⟨x7.1.1,x7.1.2.1,x7.1.2.2⟩:Ac)).bind fun r8_0=>some (r8_0,x7.2.1))) fun(x8:((Int×Int×Int×Int×Int×Int)×(Bool×Int×Int×Int×Int×(List Ad)×Int)))=>(Option.bind (((El (⟨x8.2.2.2.2.2.1,x8.2.2.2.2.2.2.1⟩:A4).Ae (⟨x8.2.2.2.2.2.1,x8.2.2.2.2.2.2.1⟩:A4).A5 x8.1.2.1 x8.1.2.2.1 (⟨x8.1.2.2.2.1,x8.1.2.2.2.2.1,x8.1.2.2.2.2.2⟩:Ac)).bind fun r9_0=>some (r9_0,x8.2,x8.1))) fun(x9:((Bool×Int×Int×Int)×(Bool×Int×Int×Int×Int×(List Ad)×Int)×(Int×Int×Int×Int×Int×Int)))=>(if x9.1.1=true then(some (.inr ((true,x9.1.2.1,x9.1.2.2.1,x9.1.2.2.2,x1.2.2.2.2.2.2,a6,a7,a8))))else(if(decide (0 < (a6.length:Int)))=true→(0≤(IntKind.wrap .i64 ((a6.length:Int) - (1:Int))))then(if(decide (0 < (a6.length:Int)))=true→((IntKind.wrap .i64 ((a6.length:Int) - (1:Int))) < (a6.length:Int))then(if((decide (0 < (a6.length:Int)))&&(decide (x8.1.1≤(a6.getD (IntKind.wrap .i64 ((a6.length:Int) - (1:Int))).toNat default))))=true then(if((0:Int)≤(0:Int))then(if(0 < (x1.2.2.2.2.2.1.length:Int))then(some (.inr ((true,x1.2.2.2.2.1,(x1.2.2.2.2.2.1.getD (0:Int).toNat default).Aj,(9:Int),x1.2.2.2.2.2.2,a6,a7,a8))))else none)else none)else(if((a6.length+1) * 8≤140737488355328)then(some (.inl (x1.2.2.2.2.2.2,(a6++([x8.1.1]:List Int)))))else none))else none)else none)))))else(Option.bind (((Jm (⟨x5.2.2.2.2.2.1,x5.2.2.2.2.2.2.1⟩:A4).Ae (⟨x5.2.2.2.2.2.1,x5.2.2.2.2.2.2.1⟩:A4).A5 x5.1.2.1 x5.1.2.2.1 (⟨x5.1.2.2.2.1,x5.1.2.2.2.2.1,x5.1.2.2.2.2.2⟩:Ac)).bind fun r8_0=>some (r8_0,x5.2))) fun(x8:((Int×Int×Int×Int×Int×Int)×(Bool×Int×Int×Int×Int×(List Ad)×Int)))=>(Option.bind (((El (⟨x8.2.2.2.2.2.1,x8.2.2.2.2.2.2.1⟩:A4).Ae (⟨x8.2.2.2.2.2.1,x8.2.2.2.2.2.2.1⟩:A4).A5 x8.1.2.1 x8.1.2.2.1 (⟨x8.1.2.2.2.1,x8.1.2.2.2.2.1,x8.1.2.2.2.2.2⟩:Ac)).bind fun r9_0=>some (r9_0,x8.2,x8.1))) fun(x9:((Bool×Int×Int×Int)×(Bool×Int×Int×Int×Int×(List Ad)×Int)×(Int×Int×Int×Int×Int×Int)))=>(if x9.1.1=true then(some (.inr ((true,x9.1.2.1,x9.1.2.2.1,x9.1.2.2.2,x1.2.2.2.2.2.2,a6,a7,a8))))else(if(decide (0 < (a6.length:Int)))=true→(0≤(IntKind.wrap .i64 ((a6.length:Int) - (1:Int))))then(if(decide (0 < (a6.length:Int)))=true→((IntKind.wrap .i64 ((a6.length:Int) - (1:Int))) < (a6.length:Int))then(if((decide (0 < (a6.length:Int)))&&(decide (x8.1.1≤(a6.getD (IntKind.wrap .i64 ((a6.length:Int) - (1:Int))).toNat default))))=true then(if((0:Int)≤(0:Int))then(if(0 < (x1.2.2.2.2.2.1.length:Int))then(some (.inr ((true,x1.2.2.2.2.1,(x1.2.2.2.2.2.1.getD (0:Int).toNat default).Aj,(9:Int),x1.2.2.2.2.2.2,a6,a7,a8))))else none)else none)else(if((a6.length+1) * 8≤140737488355328)then(some (.inl (x1.2.2.2.2.2.2,(a6++([x8.1.1]:List Int)))))else none))else none)else none))))))))) (Af fun(y1:Int×(List Int))=>(Option.bind (Option.bind (some (.inl ())) (Af fun(_:Unit)=>(Am (fun(s2:Int×Int×(List Ao)×(List Int))=>((if(decide (s2.1 < (IntKind.wrap .i64 (a4 * a5))))=true then(Option.bind (Option.bind (No a0 s2.2.1 a2 a3 a4 a5 y1.2 s2.2.2.1 s2.2.2.2 a9) fun r=>some r) fun x18=>(if x18.1=true then(some (.inr (.inr ((true,x18.2.1,x18.2.2.1,x18.2.2.2.1,x18.2.2.2.2.1,y1.2,x18.2.2.2.2.2.1,x18.2.2.2.2.2.2)))))else(some (.inl ((IntKind.wrap .i64 (s2.1+1)),x18.2.2.2.2.1,x18.2.2.2.2.2.1,x18.2.2.2.2.2.2)))))else(some (.inr (.inl (s2.2.1,s2.2.2.1,s2.2.2.2))))):Option ((Int×Int×(List Ao)×(List Int))⊕((Int×(List Ao)×(List Int))⊕(Bool×Int×Int×Int×Int×(List Int)×(List Ao)×(List Int)))))) ((0:Int),y1.1,a7,a8)))) (Af fun(y3:Int×(List Ao)×(List Int))=>(some (false,(0:Int),(0:Int),(0:Int),y3.1,y1.2,y3.2.1,y3.2.2)))))):Option (Bool×Int×Int×Int×Int×(List Int)×(List Ao)×(List Int))):=by kernel_rfl
abbrev E1 (a4:Int) (a5:Int) (a0:List A4) (a2:Ax) (a3:Int) (y1:Int×(List Int)) (a9:Int):(Int×Int×(List Ao)×(List Int))→Option ((Int×Int×(List Ao)×(List Int))⊕((Int×(List Ao)×(List Int))⊕(Bool×Int×Int×Int×Int×(List Int)×(List Ao)×(List Int)))):=(fun(s2:Int×Int×(List Ao)×(List Int))=>((if(decide (s2.1 < (IntKind.wrap .i64 (a4 * a5))))=true then(Option.bind (Option.bind (No a0 s2.2.1 a2 a3 a4 a5 y1.2 s2.2.2.1 s2.2.2.2 a9) fun r=>some r) fun x18=>(if x18.1=true then(some (.inr (.inr ((true,x18.2.1,x18.2.2.1,x18.2.2.2.1,x18.2.2.2.2.1,y1.2,x18.2.2.2.2.2.1,x18.2.2.2.2.2.2)))))else(some (.inl ((IntKind.wrap .i64 (s2.1+1)),x18.2.2.2.2.1,x18.2.2.2.2.2.1,x18.2.2.2.2.2.2)))))else(some (.inr (.inl (s2.2.1,s2.2.2.1,s2.2.2.2))))):Option ((Int×Int×(List Ao)×(List Int))⊕((Int×(List Ao)×(List Int))⊕(Bool×Int×Int×Int×Int×(List Int)×(List Ao)×(List Int))))))
theorem ABC  (a0:List A4) (a1:Int) (a2:Ax) (a3 a4 a5:Int) (a6:List Int) (a7:List Ao) (a8:List Int) (a9:Int):Nn a0 a1 a2 a3 a4 a5 a6 a7 a8 a9=((Option.bind (Option.bind (Option.bind (G3 a0 a1) fun r=>some r) fun x1=>(if x1.1=true then(some (.inr ((true,x1.2.1,x1.2.2.1,x1.2.2.2.1,x1.2.2.2.2.2.2,a6,a7,a8))))else(Option.bind (((Gq (⟨x1.2.2.2.2.1,x1.2.2.2.2.2.1⟩:A4)).bind fun r4_0=>some (r4_0,x1))) fun(x4:(Unit×(Bool×Int×Int×Int×Int×(List Ad)×Int)))=>(Option.bind (((Ek ([([76,69,86,69,76]:List UInt8)]:List (List UInt8)) (⟨x4.2.2.2.2.2.1,x4.2.2.2.2.2.2.1⟩:A4).Ae (⟨x4.2.2.2.2.2.1,x4.2.2.2.2.2.2.1⟩:A4).A5 (0:Int) (1:Int) (⟨(0:Int),(0:Int),(0:Int)⟩:Ac)).bind fun r5_0=>some (r5_0,x4.2))) fun(x5:((Int×Int×Int×Int×Int×Int)×(Bool×Int×Int×Int×Int×(List Ad)×Int)))=>(if((a6.length:Int)==(8:Int))=true then(Option.bind (((Q3 (3:Int) (⟨x5.2.2.2.2.2.1,x5.2.2.2.2.2.2.1⟩:A4).Ae (⟨x5.2.2.2.2.2.1,x5.2.2.2.2.2.2.1⟩:A4).A5 x5.1.2.1 x5.1.2.2.1 (⟨x5.1.2.2.2.1,x5.1.2.2.2.2.1,x5.1.2.2.2.2.2⟩:Ac)).bind fun r7_0=>some (r7_0,x5.2,x5.1))) fun(x7:((Int×Int×Int)×(Bool×Int×Int×Int×Int×(List Ad)×Int)×(Int×Int×Int×Int×Int×Int)))=>(Option.bind (((Jm (⟨x7.2.1.2.2.2.2.1,x7.2.1.2.2.2.2.2.1⟩:A4).Ae (⟨x7.2.1.2.2.2.2.1,x7.2.1.2.2.2.2.2.1⟩:A4).A5 x7.2.2.2.1 x7.2.2.2.2.1 (⟨x7.1.1,x7.1.2.1,x7.1.2.2⟩:Ac)).bind fun r8_0=>some (r8_0,x7.2.1))) fun(x8:((Int×Int×Int×Int×Int×Int)×(Bool×Int×Int×Int×Int×(List Ad)×Int)))=>(Option.bind (((El (⟨x8.2.2.2.2.2.1,x8.2.2.2.2.2.2.1⟩:A4).Ae (⟨x8.2.2.2.2.2.1,x8.2.2.2.2.2.2.1⟩:A4).A5 x8.1.2.1 x8.1.2.2.1 (⟨x8.1.2.2.2.1,x8.1.2.2.2.2.1,x8.1.2.2.2.2.2⟩:Ac)).bind fun r9_0=>some (r9_0,x8.2,x8.1))) fun(x9:((Bool×Int×Int×Int)×(Bool×Int×Int×Int×Int×(List Ad)×Int)×(Int×Int×Int×Int×Int×Int)))=>(if x9.1.1=true then(some (.inr ((true,x9.1.2.1,x9.1.2.2.1,x9.1.2.2.2,x1.2.2.2.2.2.2,a6,a7,a8))))else(if(decide (0 < (a6.length:Int)))=true→(0≤(IntKind.wrap .i64 ((a6.length:Int) - (1:Int))))then(if(decide (0 < (a6.length:Int)))=true→((IntKind.wrap .i64 ((a6.length:Int) - (1:Int))) < (a6.length:Int))then(if((decide (0 < (a6.length:Int)))&&(decide (x8.1.1≤(a6.getD (IntKind.wrap .i64 ((a6.length:Int) - (1:Int))).toNat default))))=true then(if((0:Int)≤(0:Int))then(if(0 < (x1.2.2.2.2.2.1.length:Int))then(some (.inr ((true,x1.2.2.2.2.1,(x1.2.2.2.2.2.1.getD (0:Int).toNat default).Aj,(9:Int),x1.2.2.2.2.2.2,a6,a7,a8))))else none)else none)else(if((a6.length+1) * 8≤140737488355328)then(some (.inl (x1.2.2.2.2.2.2,(a6++([x8.1.1]:List Int)))))else none))else none)else none)))))else(Option.bind (((Jm (⟨x5.2.2.2.2.2.1,x5.2.2.2.2.2.2.1⟩:A4).Ae (⟨x5.2.2.2.2.2.1,x5.2.2.2.2.2.2.1⟩:A4).A5 x5.1.2.1 x5.1.2.2.1 (⟨x5.1.2.2.2.1,x5.1.2.2.2.2.1,x5.1.2.2.2.2.2⟩:Ac)).bind fun r8_0=>some (r8_0,x5.2))) fun(x8:((Int×Int×Int×Int×Int×Int)×(Bool×Int×Int×Int×Int×(List Ad)×Int)))=>(Option.bind (((El (⟨x8.2.2.2.2.2.1,x8.2.2.2.2.2.2.1⟩:A4).Ae (⟨x8.2.2.2.2.2.1,x8.2.2.2.2.2.2.1⟩:A4).A5 x8.1.2.1 x8.1.2.2.1 (⟨x8.1.2.2.2.1,x8.1.2.2.2.2.1,x8.1.2.2.2.2.2⟩:Ac)).bind fun r9_0=>some (r9_0,x8.2,x8.1))) fun(x9:((Bool×Int×Int×Int)×(Bool×Int×Int×Int×Int×(List Ad)×Int)×(Int×Int×Int×Int×Int×Int)))=>(if x9.1.1=true then(some (.inr ((true,x9.1.2.1,x9.1.2.2.1,x9.1.2.2.2,x1.2.2.2.2.2.2,a6,a7,a8))))else(if(decide (0 < (a6.length:Int)))=true→(0≤(IntKind.wrap .i64 ((a6.length:Int) - (1:Int))))then(if(decide (0 < (a6.length:Int)))=true→((IntKind.wrap .i64 ((a6.length:Int) - (1:Int))) < (a6.length:Int))then(if((decide (0 < (a6.length:Int)))&&(decide (x8.1.1≤(a6.getD (IntKind.wrap .i64 ((a6.length:Int) - (1:Int))).toNat default))))=true then(if((0:Int)≤(0:Int))then(if(0 < (x1.2.2.2.2.2.1.length:Int))then(some (.inr ((true,x1.2.2.2.2.1,(x1.2.2.2.2.2.1.getD (0:Int).toNat default).Aj,(9:Int),x1.2.2.2.2.2.2,a6,a7,a8))))else none)else none)else(if((a6.length+1) * 8≤140737488355328)then(some (.inl (x1.2.2.2.2.2.2,(a6++([x8.1.1]:List Int)))))else none))else none)else none))))))))) (Af fun(y1:Int×(List Int))=>(Option.bind (Option.bind (some (.inl ())) (Af fun(_:Unit)=>(Am (E1 a4 a5 a0 a2 a3 y1 a9) ((0:Int),y1.1,a7,a8)))) (Af fun(y3:Int×(List Ao)×(List Int))=>(some (false,(0:Int),(0:Int),(0:Int),y3.1,y1.2,y3.2.1,y3.2.2)))))):Option (Bool×Int×Int×Int×Int×(List Int)×(List Ao)×(List Int))):=M32o0 _ _ _ _ _ _ _ _ _ _
def s0:Sc:=⟨0,1,⟨0,0,0⟩⟩
def wGRID:List UInt8:=[71,82,73,68]
def wWIND:List UInt8:=[87,73,78,68]
def wLEVEL:List UInt8:=[76,69,86,69,76]
theorem Z3 {L:A4} (O:Dd L):Gq L=some ():=by
 rw[A83o0,if_pos (Nat.le_trans (Nat.mul_le_mul_right 24 O.len) (by decide))]
theorem Yt {ls:List A4} (hl:ls.length≤300001) {i:Nat} (h:i < ls.length):G3 ls (i:Int)=some (false,0,0,0,(ls.getD i default).Ae,(ls.getD i default).A5,((i+1:Nat):Int)):=by
 rw[ABD,if_pos (decide_eq_true (show (i:Int) < (ls.length:Int) from by omega)),wn (by omega)]
 have e:IntKind.wrap .i64 (((i+1:Nat):Int) - 1)=(i:Int):=by rw[Bh (by omega) (by omega)];omega
 rw[e,if_pos (by omega),if_pos (by omega),Int.toNat_natCast]
def Cm (ls:List A4):Ac:=if 0 < ls.length then⟨(ls.getD (ls.length - 1) default).Ae+1,1,4⟩else⟨1,1,4⟩
theorem Vb {ls:List A4} (hl:ls.length≤300001) (ho:∀ L∈ls,Dd L):G3 ls (ls.length:Int)=some (true,(Cm ls).Line,(Cm ls).Aj,(Cm ls).Code,0,[],(ls.length:Int)):=by
 rw[ABD,if_neg (by simp)]
 unfold Cm
 by_cases h:0 < ls.length
 ·have e:IntKind.wrap .i64 ((ls.length:Int) - 1)=((ls.length - 1:Nat):Int):=by rw[Bh (by omega) (by omega)];omega
  have O:=ho _ (Ce (l:=ls) (i:=ls.length - 1) (by omega))
  rw[if_pos (decide_eq_true (show (0:Int) < (ls.length:Int) from by omega)),e,if_pos (by omega),if_pos (by omega),Int.toNat_natCast,if_pos h,Bh (by have:=O.num;omega) (by have:=O.num;omega)]
 ·rw[if_neg (show ¬ decide ((0:Int) < (ls.length:Int))=true from fun e=>h (by have:=of_decide_eq_true e;omega)),if_neg h]
structure Hd where
 x:Int
 y:Int
 c:Int
 a:Int
 b:Int
 e:Int
 f:Bool×Ac
def On (L:A4):Sc:=Jy wGRID L s0
def J0 (L:A4):Int×Sc:=Dl (-2000000) 2000000 L (On L)
def hq2 (L:A4):Int×Sc:=Dl (-2000000) 2000000 L (J0 L).2
def K4 (L:A4):Int×Sc:=Dl 1 2000000 L (hq2 L).2
def K5 (L:A4):Int×Sc:=Dl 1 16 L (K4 L).2
def K6 (L:A4):Int×Sc:=Dl 1 16 L (K5 L).2
def Mq (L:A4):Int×Sc:=Dl 0 60 L (K6 L).2
def Cl (L:A4):Hd:=⟨(J0 L).1,(hq2 L).1,(K4 L).1,(K5 L).1,(K6 L).1,(Mq L).1,Ft L (Mq L).2⟩
theorem hq_n {L:A4}:(On L).n≤L.A5.length∧(J0 L).2.n≤L.A5.length∧(hq2 L).2.n≤L.A5.length∧(K4 L).2.n≤L.A5.length∧(K5 L).2.n≤L.A5.length∧(K6 L).2.n≤L.A5.length∧(Mq L).2.n≤L.A5.length:=by
 have h0:(On L).n≤L.A5.length:=Z9 (Nat.zero_le _)
 have h1:(J0 L).2.n≤L.A5.length:=Jo h0
 have h2:(hq2 L).2.n≤L.A5.length:=Jo h1
 have h3:(K4 L).2.n≤L.A5.length:=Jo h2
 have h4:(K5 L).2.n≤L.A5.length:=Jo h3
 have h5:(K6 L).2.n≤L.A5.length:=Jo h4
 exact⟨h0,h1,h2,h3,h4,h5,Jo h5⟩
theorem head_in {ls:List A4} (hl:ls.length≤300001) (ho:∀ L∈ls,Dd L) (h:0 < ls.length) {L:A4} (hL:ls.getD 0 default=L) :
  Nm ls (0:Int) ⟨0,0⟩ 0 0 0 [] [] [] 0=some ((Cl L).f.1,(Cl L).f.2.Line,(Cl L).f.2.Aj,(Cl L).f.2.Code,1,(Cl L).x,(Cl L).y,(Cl L).c,(Cl L).a,(Cl L).b,(Cl L).e):=by
 have O:Dd L:=hL ▸ ho _ (Ce h)
 have hn:=Yt hl h
 rw[hL,show ((0:Nat):Int)=0 from rfl,show ((0+1:Nat):Int)=1 from rfl]at hn
 obtain⟨v,hw⟩:=Zb (w:=wGRID) O (s:=s0) (Nat.zero_le _)
 obtain⟨n0,n1,n2,n3,n4,n5,n6⟩:=hq_n (L:=L)
 have k1:Bi (-2000000) 2000000 L.Ae L.A5 ((On L).n:Int) (On L).l (On L).d=some ((J0 L).1,Cx (J0 L).2):=Jq (by decide) (by decide) O n0
 have k2:Bi (-2000000) 2000000 L.Ae L.A5 ((J0 L).2.n:Int) (J0 L).2.l (J0 L).2.d=some ((hq2 L).1,Cx (hq2 L).2):=Jq (by decide) (by decide) O n1
 have k3:Bi 1 2000000 L.Ae L.A5 ((hq2 L).2.n:Int) (hq2 L).2.l (hq2 L).2.d=some ((K4 L).1,Cx (K4 L).2):=Jq (by decide) (by decide) O n2
 have k4:Bi 1 16 L.Ae L.A5 ((K4 L).2.n:Int) (K4 L).2.l (K4 L).2.d=some ((K5 L).1,Cx (K5 L).2):=Jq (by decide) (by decide) O n3
 have k5:Bi 1 16 L.Ae L.A5 ((K5 L).2.n:Int) (K5 L).2.l (K5 L).2.d=some ((K6 L).1,Cx (K6 L).2):=Jq (by decide) (by decide) O n4
 have k6:Bi 0 60 L.Ae L.A5 ((K6 L).2.n:Int) (K6 L).2.l (K6 L).2.d=some ((Mq L).1,Cx (Mq L).2):=Jq (by decide) (by decide) O n5
 have k7:=eu n6
 have hw':Ek [wGRID] L.Ae L.A5 (0:Int) 1 ⟨0,0,0⟩=some (v,Cx (On L)):=hw
 rw[ABB,hn]
 simp only[bs,Bool.false_eq_true,if_false]
 rw[show (⟨L.Ae,L.A5⟩:A4)=L from rfl,Z3 O]
 simp only[bs]
 rw[show ([71,82,73,68]:List UInt8)=wGRID from rfl,hw']
 simp only[bs,Cx]
 rw[k1]
 simp only[bs,Cx]
 rw[k2]
 simp only[bs,Cx]
 rw[k3]
 simp only[bs,Cx]
 rw[k4]
 simp only[bs,Cx]
 rw[k5]
 simp only[bs,Cx]
 rw[k6]
 simp only[bs,Cx]
 rw[k7]
 rfl
theorem AAP (ho:∀ L∈([]:List A4),Dd L):Nm [] (0:Int) ⟨0,0⟩ 0 0 0 [] [] [] 0=some (true,1,1,4,0,0,0,0,0,0,0):=by
 have hn:=Vb (ls:=[]) (Nat.zero_le _) ho
 rw[show ((([]:List A4).length:Nat):Int)=0 from rfl]at hn
 rw[ABB,hn]
 rfl
def Pa (L:A4):Sc:=Jy wWIND L s0
def Lk (L:A4):Int×Sc:=Dl (-340) 340 L (Pa L)
def Ll (L:A4):Int×Sc:=Dl (-340) 340 L (Lk L).2
def S8 (L:A4):Int×Sc:=Dl (-4000) 4000 L (Ll L).2
def Lj (L:A4):Ao:=⟨(Lk L).1,(Ll L).1⟩
def Nc (L:A4):Int:=(S8 L).1
def Gm (L:A4):Bool×Ac:=Ft L (S8 L).2
theorem wq_n {L:A4}:(Pa L).n≤L.A5.length∧(Lk L).2.n≤L.A5.length∧(Ll L).2.n≤L.A5.length∧(S8 L).2.n≤L.A5.length:=by
 have h0:(Pa L).n≤L.A5.length:=Z9 (Nat.zero_le _)
 have h1:(Lk L).2.n≤L.A5.length:=Jo h0
 have h2:(Ll L).2.n≤L.A5.length:=Jo h1
 exact⟨h0,h1,h2,Jo h2⟩
theorem wind_in {ls:List A4} (hl:ls.length≤300001) (ho:∀ L∈ls,Dd L) {i:Nat} (h:i < ls.length) {L:A4} (hL:ls.getD i default=L) (a2:Ax) (a3 a4 a5:Int) (a6:List Int) (ws:List Ao) (ds:List Int) (a9:Int) (hw1:ws.length≤1000000) (hd1:ds.length≤1000000) :
  No ls (i:Int) a2 a3 a4 a5 a6 ws ds a9=some ((Gm L).1,(Gm L).2.Line,(Gm L).2.Aj,(Gm L).2.Code,((i+1:Nat):Int),ws++[Lj L],ds++[Nc L]):=by
 have O:Dd L:=hL ▸ ho _ (Ce h)
 have hn:=Yt hl h
 rw[hL]at hn
 obtain⟨v,hw⟩:=Zb (w:=wWIND) O (s:=s0) (Nat.zero_le _)
 obtain⟨n0,n1,n2,n3⟩:=wq_n (L:=L)
 have k1:Bi (-340) 340 L.Ae L.A5 ((Pa L).n:Int) (Pa L).l (Pa L).d=some ((Lk L).1,Cx (Lk L).2):=Jq (by decide) (by decide) O n0
 have k2:Bi (-340) 340 L.Ae L.A5 ((Lk L).2.n:Int) (Lk L).2.l (Lk L).2.d=some ((Ll L).1,Cx (Ll L).2):=Jq (by decide) (by decide) O n1
 have k3:Bi (-4000) 4000 L.Ae L.A5 ((Ll L).2.n:Int) (Ll L).2.l (Ll L).2.d=some ((S8 L).1,Cx (S8 L).2):=Jq (by decide) (by decide) O n2
 have k7:=eu n3
 have hw':Ek [wWIND] L.Ae L.A5 (0:Int) 1 ⟨0,0,0⟩=some (v,Cx (Pa L)):=hw
 rw[ABE,hn]
 simp only[bs,Bool.false_eq_true,if_false]
 rw[show (⟨L.Ae,L.A5⟩:A4)=L from rfl,Z3 O]
 simp only[bs]
 rw[show ([87,73,78,68]:List UInt8)=wWIND from rfl,hw']
 simp only[bs,Cx]
 rw[k1]
 simp only[bs,Cx]
 rw[k2]
 simp only[bs,Cx]
 rw[if_pos (Xu hw1),k3]
 simp only[bs,Cx]
 rw[if_pos (Xv hd1)]
 simp only[bs]
 rw[k7]
 rfl
theorem AB7 {ls:List A4} (hl:ls.length≤300001) (ho:∀ L∈ls,Dd L) (a2:Ax) (a3 a4 a5:Int) (a6:List Int) (ws:List Ao) (ds:List Int) (a9:Int) :
  No ls (ls.length:Int) a2 a3 a4 a5 a6 ws ds a9=some (true,(Cm ls).Line,(Cm ls).Aj,(Cm ls).Code,(ls.length:Int),ws,ds):=by
 rw[ABE,Vb hl ho]
 rfl
def E3 (L:A4):Sc:=Jy wLEVEL L s0
def Ew (k:Nat) (L:A4):Sc:=if k=8 then(E3 L).fail L.Ae (E3 L).l 3 else E3 L
def Nl (k:Nat) (L:A4):Int×Sc:=Gz L (Ew k L)
def Qr (k:Nat) (L:A4):Int:=(Nl k L).1
def Lf (k:Nat) (L:A4):Bool×Ac:=Ft L (Nl k L).2
theorem lq_n {k:Nat} {L:A4}:(E3 L).n≤L.A5.length∧(Ew k L).n≤L.A5.length∧(Nl k L).2.n≤L.A5.length:=by
 have h0:(E3 L).n≤L.A5.length:=Z9 (Nat.zero_le _)
 have h1:(Ew k L).n≤L.A5.length:=by unfold Ew;split;(· rw[Dz];exact h0);exact h0
 exact⟨h0,h1,altS_n h1⟩
def Lg (al:List Int) (L:A4):Int⊕Ac :=
 if(Lf al.length L).1=true then .inr (Lf al.length L).2
 else if 0 < al.length∧Qr al.length L≤al.getD (al.length - 1) default then .inr ⟨L.Ae,(L.A5.getD 0 default).Aj,9⟩
 else .inl (Qr al.length L)
theorem AAT {ls:List A4} (hl:ls.length≤300001) (ho:∀ L∈ls,Dd L) {i:Nat} (h:i < ls.length) {L:A4} (hL:ls.getD i default=L) (a2:Ax) (a3 a4 a5:Int) (al:List Int) (ws:List Ao) (ds:List Int) (a9:Int) (ha:al.length≤1000) :
  Nn ls (i:Int) a2 a3 a4 a5 al ws ds a9=match Lg al L with
   | .inr d=>some (true,d.Line,d.Aj,d.Code,((i+1:Nat):Int),al,ws,ds)
   | .inl z=>(Am (E1 a4 a5 ls a2 a3 (((i+1:Nat):Int),al++[z]) a9) ((0:Int),((i+1:Nat):Int),ws,ds)).bind (Af fun(y3:Int×(List Ao)×(List Int))=>(some (false,(0:Int),(0:Int),(0:Int),y3.1,al++[z],y3.2.1,y3.2.2))):=by
 have O:Dd L:=hL ▸ ho _ (Ce h)
 have hn:=Yt hl h
 rw[hL]at hn
 obtain⟨v,hw⟩:=Zb (w:=wLEVEL) O (s:=s0) (Nat.zero_le _)
 obtain⟨n0,n1,n2⟩:=lq_n (k:=al.length) (L:=L)
 have k1:Jm L.Ae L.A5 ((Ew al.length L).n:Int) (Ew al.length L).l (Ew al.length L).d=some ((Nl al.length L).1,Cx (Nl al.length L).2):=alt_eq O n1
 have k7:=eu n2
 have hw':Ek [wLEVEL] L.Ae L.A5 (0:Int) 1 ⟨0,0,0⟩=some (v,Cx (E3 L)):=hw
 have ew:0 < al.length→IntKind.wrap .i64 ((al.length:Int) - (1:Int))=((al.length - 1:Nat):Int):=fun h0=>by rw[Bh (by omega) (by omega)];omega
 have hne:=O.ne
 -- what comes behind the altitude
 have tail:(if(Lf al.length L).1=true then(some (.inr ((true,(Lf al.length L).2.Line,(Lf al.length L).2.Aj,(Lf al.length L).2.Code,((i+1:Nat):Int),al,ws,ds))))else(if(decide (0 < (al.length:Int)))=true→(0≤(IntKind.wrap .i64 ((al.length:Int) - (1:Int))))then(if(decide (0 < (al.length:Int)))=true→((IntKind.wrap .i64 ((al.length:Int) - (1:Int))) < (al.length:Int))then(if((decide (0 < (al.length:Int)))&&(decide ((Qr al.length L)≤(al.getD (IntKind.wrap .i64 ((al.length:Int) - (1:Int))).toNat default))))=true then(if((0:Int)≤(0:Int))then(if(0 < (L.A5.length:Int))then(some (.inr ((true,L.Ae,(L.A5.getD (0:Int).toNat default).Aj,(9:Int),((i+1:Nat):Int),al,ws,ds))))else none)else none)else(if((al.length+1) * 8≤140737488355328)then(some (.inl (((i+1:Nat):Int),(al++([(Qr al.length L)]:List Int)))))else none))else none)else none):Option ((Int×List Int)⊕(Bool×Int×Int×Int×Int×(List Int)×(List Ao)×(List Int)))) =
   some (match Lg al L with | .inr d=>.inr (true,d.Line,d.Aj,d.Code,((i+1:Nat):Int),al,ws,ds) | .inl z=>.inl (((i+1:Nat):Int),al++[z])):=by
  unfold Lg
  cases hb:(Lf al.length L).1 with
  | true=>simp only[if_true]
  | false =>
   simp only[Bool.false_eq_true,if_false]
   rw[if_pos (by intro hp;have:=of_decide_eq_true hp;rw[ew (by omega)];omega),if_pos (by intro hp;have:=of_decide_eq_true hp;rw[ew (by omega)];omega)]
   by_cases h0:0 < al.length
   ·rw[ew h0,Int.toNat_natCast,show decide ((0:Int) < (al.length:Int))=true from decide_eq_true (by omega),Bool.true_and]
    by_cases hle:Qr al.length L≤al.getD (al.length - 1) default
    ·rw[if_pos (decide_eq_true hle),if_pos (by decide),if_pos (by omega),if_pos (show 0 < al.length∧_ from⟨h0,hle⟩)]
     rfl
    ·rw[if_neg (by simpa using hle),if_pos (Xv (by omega)),if_neg (show ¬ (0 < al.length∧_) from fun h=>hle h.2)]
   ·rw[show decide ((0:Int) < (al.length:Int))=false from decide_eq_false (by omega),Bool.false_and,if_neg (by decide),if_pos (Xv (by omega)),if_neg (show ¬ (0 < al.length∧_) from fun h=>h0 h.1)]
 rw[ABC,hn]
 simp only[bs,Bool.false_eq_true,if_false]
 rw[show (⟨L.Ae,L.A5⟩:A4)=L from rfl,Z3 O]
 simp only[bs]
 rw[show ([76,69,86,69,76]:List UInt8)=wLEVEL from rfl,hw']
 simp only[bs,Cx]
 by_cases h8:al.length=8
 ·rw[if_pos (show ((al.length:Int)==(8:Int))=true from by simp[h8])]
  have e1:(E3 L).fail L.Ae (E3 L).l 3=Ew al.length L:=by unfold Ew;rw[if_pos h8]
  have hF:=Fail_eq 3 (L:=L) (s:=E3 L)
  rw[hF,e1]
  simp only[bs]
  rw[show ((E3 L).n:Int)=((Ew al.length L).n:Int) from by rw[← e1,Dz],show (E3 L).l=(Ew al.length L).l from by rw[← e1,H7]]
  rw[k1]
  simp only[bs,Cx]
  rw[k7]
  simp only[bs]
  unfold Lf Qr at tail
  rw[tail]
  cases Lg al L<;>simp only[bs,ol,Lh]
 ·rw[if_neg (show ¬ ((al.length:Int)==(8:Int))=true from by simp;omega)]
  rw[show E3 L=Ew al.length L from by unfold Ew;rw[if_neg h8]]
  rw[k1]
  simp only[bs,Cx]
  rw[k7]
  simp only[bs]
  unfold Lf Qr at tail
  rw[tail]
  cases Lg al L<;>simp only[bs,ol,Lh]
theorem wo {ls:List A4} (hl:ls.length≤300001) (ho:∀ L∈ls,Dd L) (a2:Ax) (a3 a4 a5:Int) (al:List Int) (ws:List Ao) (ds:List Int) (a9:Int) :
  Nn ls (ls.length:Int) a2 a3 a4 a5 al ws ds a9=some (true,(Cm ls).Line,(Cm ls).Aj,(Cm ls).Code,(ls.length:Int),al,ws,ds):=by
 rw[ABC,Vb hl ho]
 rfl
end Go.Av.Txs
set_option maxRecDepth 100000
namespace Go.Av.Txs
open Go.Av
theorem M8 (a0:List UInt8):m8 a0=((Option.bind (Option.bind (Option.bind (Q0 a0) fun r=>some r) fun x1=>(if(decide (0 < (x1.1.length:Int)))=true then(some (.inr (((⟨(⟨(0:Int),(0:Int)⟩:Ax),(0:Int),(0:Int),(0:Int),[],[],[],(0:Int)⟩:Aa),x1.1))))else(Option.bind (((Nm x1.2 (0:Int) (⟨(0:Int),(0:Int)⟩:Ax) (0:Int) (0:Int) (0:Int) ([]:List Int) ([]:List Ao) ([]:List Int) (0:Int)).bind fun r6_0=>some (r6_0,x1))) fun(x6:((Bool×Int×Int×Int×Int×Int×Int×Int×Int×Int×Int)×((List Ac)×(List A4))))=>(some (.inl (x6.1.1,x6.2.2,x6.1.2.2.2.2.1,x6.1.2.2.2.2.2.1,x6.1.2.2.2.2.2.2.1,x6.1.2.2.2.2.2.2.2.1,x6.1.2.2.2.2.2.2.2.2.1,x6.1.2.2.2.2.2.2.2.2.2.1,x6.1.2.2.2.2.2.2.2.2.2.2,x6.1.2.1,x6.1.2.2.1,x6.1.2.2.2.1)))))) (Af fun(y1:Bool×(List A4)×Int×Int×Int×Int×Int×Int×Int×Int×Int×Int)=>(Option.bind (Option.bind (some (.inl ())) (Af fun(_:Unit)=>(Am (fun(s2:Bool×Bool×Int×Int×Int×(List Int)×(List Ao)×(List Int)×Int×Int×Int)=>((if((!s2.1)&&(s2.2.1 || (decide (s2.2.2.1 < (y1.2.1.length:Int)))))=true then(Option.bind (Option.bind (Nn y1.2.1 s2.2.2.1 (⟨s2.2.2.2.1,s2.2.2.2.2.1⟩:Ax) y1.2.2.2.2.2.1 y1.2.2.2.2.2.2.1 y1.2.2.2.2.2.2.2.1 s2.2.2.2.2.2.1 s2.2.2.2.2.2.2.1 s2.2.2.2.2.2.2.2.1 y1.2.2.2.2.2.2.2.2.1) fun r=>some r) fun x10=>(some (.inl (x10.1,false,x10.2.2.2.2.1,(⟨s2.2.2.2.1,s2.2.2.2.2.1⟩:Ax).X,(⟨s2.2.2.2.1,s2.2.2.2.2.1⟩:Ax).Y,x10.2.2.2.2.2.1,x10.2.2.2.2.2.2.1,x10.2.2.2.2.2.2.2,x10.2.1,x10.2.2.1,x10.2.2.2.1))))else(some (.inr (.inl (s2.1,s2.2.2.2.1,s2.2.2.2.2.1,s2.2.2.2.2.2.1,s2.2.2.2.2.2.2.1,s2.2.2.2.2.2.2.2.1,s2.2.2.2.2.2.2.2.2.1,s2.2.2.2.2.2.2.2.2.2.1,s2.2.2.2.2.2.2.2.2.2.2))))):Option ((Bool×Bool×Int×Int×Int×(List Int)×(List Ao)×(List Int)×Int×Int×Int)⊕((Bool×Int×Int×(List Int)×(List Ao)×(List Int)×Int×Int×Int)⊕(Aa×(List Ac)))))) (y1.1,true,y1.2.2.1,y1.2.2.2.1,y1.2.2.2.2.1,([]:List Int),([]:List Ao),([]:List Int),y1.2.2.2.2.2.2.2.2.2.1,y1.2.2.2.2.2.2.2.2.2.2.1,y1.2.2.2.2.2.2.2.2.2.2.2)))) (Af fun(y3:Bool×Int×Int×(List Int)×(List Ao)×(List Int)×Int×Int×Int)=>(if y3.1=true then(some ((⟨(⟨(0:Int),(0:Int)⟩:Ax),(0:Int),(0:Int),(0:Int),[],[],[],(0:Int)⟩:Aa),([(⟨y3.2.2.2.2.2.2.1,y3.2.2.2.2.2.2.2.1,y3.2.2.2.2.2.2.2.2⟩:Ac)]:List Ac)))else(some ((⟨(⟨y3.2.1,y3.2.2.1⟩:Ax),y1.2.2.2.2.2.1,y1.2.2.2.2.2.2.1,y1.2.2.2.2.2.2.2.1,y3.2.2.2.1,y3.2.2.2.2.1,y3.2.2.2.2.2.1,y1.2.2.2.2.2.2.2.2.1⟩:Aa),[]))))))):Option (Aa×(List Ac))):=by kernel_rfl
abbrev Fy (y1:Bool×(List A4)×Int×Int×Int×Int×Int×Int×Int×Int×Int×Int):(Bool×Bool×Int×Int×Int×(List Int)×(List Ao)×(List Int)×Int×Int×Int)→Option ((Bool×Bool×Int×Int×Int×(List Int)×(List Ao)×(List Int)×Int×Int×Int)⊕((Bool×Int×Int×(List Int)×(List Ao)×(List Int)×Int×Int×Int)⊕(Aa×(List Ac)))):=(fun(s2:Bool×Bool×Int×Int×Int×(List Int)×(List Ao)×(List Int)×Int×Int×Int)=>((if((!s2.1)&&(s2.2.1 || (decide (s2.2.2.1 < (y1.2.1.length:Int)))))=true then(Option.bind (Option.bind (Nn y1.2.1 s2.2.2.1 (⟨s2.2.2.2.1,s2.2.2.2.2.1⟩:Ax) y1.2.2.2.2.2.1 y1.2.2.2.2.2.2.1 y1.2.2.2.2.2.2.2.1 s2.2.2.2.2.2.1 s2.2.2.2.2.2.2.1 s2.2.2.2.2.2.2.2.1 y1.2.2.2.2.2.2.2.2.1) fun r=>some r) fun x10=>(some (.inl (x10.1,false,x10.2.2.2.2.1,(⟨s2.2.2.2.1,s2.2.2.2.2.1⟩:Ax).X,(⟨s2.2.2.2.1,s2.2.2.2.2.1⟩:Ax).Y,x10.2.2.2.2.2.1,x10.2.2.2.2.2.2.1,x10.2.2.2.2.2.2.2,x10.2.1,x10.2.2.1,x10.2.2.2.1))))else(some (.inr (.inl (s2.1,s2.2.2.2.1,s2.2.2.2.2.1,s2.2.2.2.2.2.1,s2.2.2.2.2.2.2.1,s2.2.2.2.2.2.2.2.1,s2.2.2.2.2.2.2.2.2.1,s2.2.2.2.2.2.2.2.2.2.1,s2.2.2.2.2.2.2.2.2.2.2))))):Option ((Bool×Bool×Int×Int×Int×(List Int)×(List Ao)×(List Int)×Int×Int×Int)⊕((Bool×Int×Int×(List Int)×(List Ao)×(List Int)×Int×Int×Int)⊕(Aa×(List Ac))))))
theorem A8  (a0:List UInt8):m8 a0=((Option.bind (Option.bind (Option.bind (Q0 a0) fun r=>some r) fun x1=>(if(decide (0 < (x1.1.length:Int)))=true then(some (.inr (((⟨(⟨(0:Int),(0:Int)⟩:Ax),(0:Int),(0:Int),(0:Int),[],[],[],(0:Int)⟩:Aa),x1.1))))else(Option.bind (((Nm x1.2 (0:Int) (⟨(0:Int),(0:Int)⟩:Ax) (0:Int) (0:Int) (0:Int) ([]:List Int) ([]:List Ao) ([]:List Int) (0:Int)).bind fun r6_0=>some (r6_0,x1))) fun(x6:((Bool×Int×Int×Int×Int×Int×Int×Int×Int×Int×Int)×((List Ac)×(List A4))))=>(some (.inl (x6.1.1,x6.2.2,x6.1.2.2.2.2.1,x6.1.2.2.2.2.2.1,x6.1.2.2.2.2.2.2.1,x6.1.2.2.2.2.2.2.2.1,x6.1.2.2.2.2.2.2.2.2.1,x6.1.2.2.2.2.2.2.2.2.2.1,x6.1.2.2.2.2.2.2.2.2.2.2,x6.1.2.1,x6.1.2.2.1,x6.1.2.2.2.1)))))) (Af fun(y1:Bool×(List A4)×Int×Int×Int×Int×Int×Int×Int×Int×Int×Int)=>(Option.bind (Option.bind (some (.inl ())) (Af fun(_:Unit)=>(Am (Fy y1) (y1.1,true,y1.2.2.1,y1.2.2.2.1,y1.2.2.2.2.1,([]:List Int),([]:List Ao),([]:List Int),y1.2.2.2.2.2.2.2.2.2.1,y1.2.2.2.2.2.2.2.2.2.2.1,y1.2.2.2.2.2.2.2.2.2.2.2)))) (Af fun(y3:Bool×Int×Int×(List Int)×(List Ao)×(List Int)×Int×Int×Int)=>(if y3.1=true then(some ((⟨(⟨(0:Int),(0:Int)⟩:Ax),(0:Int),(0:Int),(0:Int),[],[],[],(0:Int)⟩:Aa),([(⟨y3.2.2.2.2.2.2.1,y3.2.2.2.2.2.2.2.1,y3.2.2.2.2.2.2.2.2⟩:Ac)]:List Ac)))else(some ((⟨(⟨y3.2.1,y3.2.2.1⟩:Ax),y1.2.2.2.2.2.1,y1.2.2.2.2.2.2.1,y1.2.2.2.2.2.2.2.1,y3.2.2.2.1,y3.2.2.2.2.1,y3.2.2.2.2.2.1,y1.2.2.2.2.2.2.2.2.1⟩:Aa),[]))))))):Option (Aa×(List Ac))):=M8 _
theorem Ng {N c e:Int} {s:Sc} (h:(s.fail N c e).d.Code=0):s.d.Code=0∧e=0:=by
 unfold Sc.fail at h
 split at h
 ·rename_i hc;exact absurd h hc.2
 ·rename_i hc
  exact⟨h,by
   by_cases he:e=0
   ·exact he
   ·exact absurd ⟨h,he⟩ hc⟩
theorem Sv {L:A4} {s:Sc} (h:(Cb L s).2.d.Code=0):s.d.Code=0∧∃ t,(Cb L s).1=some t∧s.n < L.A5.length∨(Cb L s).1=some t∧L.A5.length < s.n:=by
 unfold Cb at h ⊢
 by_cases hc:s.d.Code≠0
 ·rw[if_pos hc]at h;exact absurd h hc
 ·rw[if_neg hc]at h ⊢
  have hc0:s.d.Code=0:=by
   by_cases hh:s.d.Code=0
   ·exact hh
   ·exact absurd hh hc
  by_cases hn:s.n=L.A5.length
  ·rw[if_pos hn]at h
   have:=(Ng h).2
   cases this
  ·rw[if_neg hn]
   refine⟨hc0,(L.A5.getD s.n default).Text,?_⟩
   rcases Nat.lt_or_gt_of_ne hn with h1 | h1
   ·exact .inl ⟨rfl,h1⟩
   ·exact .inr ⟨rfl,h1⟩
theorem Fd {lo hi:Int} {L:A4} {s:Sc} (h:(Dl lo hi L s).2.d.Code=0):s.d.Code=0∧lo≤(Dl lo hi L s).1∧(Dl lo hi L s).1≤hi:=by
 unfold Dl at h ⊢
 split at h
 ·rename_i hk
  obtain⟨_,t,ht | ht⟩:=Sv h<;>(rw[hk]at ht;cases ht.1)
 ·rename_i t hk
  obtain⟨h1,h2⟩:=Ng h
  refine⟨(Sv h1).1,?_⟩
  show lo≤(pn t lo hi).1∧(pn t lo hi).1≤hi
  unfold pn at h2 ⊢
  split at h2
  ·cases h2
  ·rename_i h3
   rw[if_neg h3]
   split at h2
   ·rename_i h4;rw[if_pos h4];exact h4
   ·cases h2
theorem AA8 {L:A4} {s:Sc} (h:(Gz L s).2.d.Code=0):s.d.Code=0 ∧ -200000≤(Gz L s).1∧(Gz L s).1≤6000000:=by
 unfold Gz at h ⊢
 split at h
 ·rename_i hk
  obtain⟨_,t,ht | ht⟩:=Sv h<;>(rw[hk]at ht;cases ht.1)
 ·rename_i t hk
  obtain⟨h1,h2⟩:=Ng h
  refine⟨(Sv h1).1,?_⟩
  show -200000≤(pa t).1∧(pa t).1≤6000000
  unfold pa at h2 ⊢
  split at h2
  ·cases h2
  ·rename_i h3
   rw[if_neg h3]
   split at h2
   ·cases h2
   ·rename_i h4
    rw[if_neg h4]
    show -200000≤(G7 t).1∧(G7 t).1≤6000000
    have h5:(G7 t).2.2=true:=by simpa using h4
    unfold G7 at h5 ⊢
    split at h5
    ·cases h5
    ·rename_i c1
     rw[if_neg c1]
     split at h5
     ·cases h5
     ·rename_i c2
      rw[if_neg c2]
      split at h5
      ·cases h5
      ·rename_i c3
       rw[if_neg c3]
       simpa using h5
theorem Uy {L:A4} {s:Sc} (h:(Ft L s).1=false):s.d.Code=0∧L.A5.length≤s.n:=by
 unfold Ft at h
 split at h
 ·cases h
 ·rename_i hc
  split at h
  ·cases h
  ·rename_i hn
   exact⟨by
    by_cases hh:s.d.Code=0
    ·exact hh
    ·exact absurd hh hc,by omega⟩
structure AA3 (h:Hd):Prop where
 x : -2000000≤h.x∧h.x≤2000000
 y : -2000000≤h.y∧h.y≤2000000
 c:1≤h.c∧h.c≤2000000
 a:1≤h.a∧h.a≤16
 b:1≤h.b∧h.b≤16
 e:0≤h.e∧h.e≤60
theorem sy {L:A4} (h:(Cl L).f.1=false):AA3 (Cl L):=by
 obtain⟨c6,_⟩:=Uy h
 obtain⟨c5,e6⟩:=Fd c6
 obtain⟨c4,e5⟩:=Fd c5
 obtain⟨c3,e4⟩:=Fd c4
 obtain⟨c2,e3⟩:=Fd c3
 obtain⟨c1,e2⟩:=Fd c2
 obtain⟨c0,e1⟩:=Fd c1
 exact⟨e1,e2,e3,e4,e5,e6⟩
theorem fq {al:List Int} {L:A4} {z:Int} (h:Lg al L=.inl z):al.length≠8∧(-200000≤z∧z≤6000000)∧(0 < al.length→al.getD (al.length - 1) default < z):=by
 unfold Lg at h
 split at h
 ·cases h
 ·rename_i h1
  split at h
  ·cases h
  ·rename_i h2
   injection h with h
   subst h
   have hE:(Lf al.length L).1=false:=by simpa using h1
   obtain⟨c2,_⟩:=Uy hE
   obtain⟨c1,hz⟩:=AA8 c2
   refine⟨fun h8=>?_,hz,fun h0=>?_⟩
   ·unfold Ew at c1
    rw[if_pos h8]at c1
    have:=(Ng c1).2
    cases this
   ·have:¬ Qr al.length L≤al.getD (al.length - 1) default:=fun h=>h2 ⟨h0,h⟩
    omega
def zG:Aa:=⟨⟨0,0⟩,0,0,0,[],[],[],0⟩
def Dp (K:Nat) (L:A4) (i:Nat) (g:Aa):Aa⊕Ac :=
 if(i - 1) % (K+1)=0 then(match Lg g.Alts L with | .inr d=>.inr d | .inl z=>.inl { g with Alts:=g.Alts++[z] })
 else if(Gm L).1=true then .inr (Gm L).2 else .inl { g with Winds:=g.Winds++[Lj L],Devs:=g.Devs++[Nc L] }
def E9 (K:Nat) (ls:List A4):Nat→Nat→Aa→Aa⊕Ac
 | 0,i,g=>.inl g
 | k+1,i,g=>match Dp K (ls.getD i default) i g with
  | .inr d=>.inr d
  | .inl g'=>E9 K ls k (i+1) g'
def V0 (K:Nat) (ls:List A4):Aa⊕Ac→Aa×List Ac
 | .inr d=>(zG,[d])
 | .inl g=>if ls.length=1∨(ls.length - 1) % (K+1)≠0 then(zG,[Cm ls])else(g,[])
def Wu (h:Hd):Aa:=⟨⟨h.x,h.y⟩,h.c,h.a,h.b,[],[],[],h.e⟩
def pG (ls:List A4):Aa×List Ac :=
 if ls.length=0 then(zG,[Cm ls])
 else if(Cl (ls.getD 0 default)).f.1=true then(zG,[(Cl (ls.getD 0 default)).f.2])
 else V0 ((Cl (ls.getD 0 default)).a * (Cl (ls.getD 0 default)).b).toNat ls (E9 ((Cl (ls.getD 0 default)).a * (Cl (ls.getD 0 default)).b).toNat ls (ls.length - 1) 1 (Wu (Cl (ls.getD 0 default))))
theorem mod_w {m K j:Nat} (h:j < K):(m * (K+1)+2+j - 1) % (K+1)=j+1:=by
 rw[show m * (K+1)+2+j - 1=(j+1)+m * (K+1) from by omega,Nat.add_mul_mod_self_right,Nat.mod_eq_of_lt (by omega)]
theorem wloop {ls:List A4} (hl:ls.length≤300001) (ho:∀ L∈ls,Dd L) {K:Nat} (hK:K≤256) {a4 a5:Int} (hK2:IntKind.wrap .i64 (a4 * a5)=(K:Int)) (a2:Ax) (a3:Int) (p:Int) (a9:Int) :
  ∀ (k j i m:Nat) (g:Aa),j+k=K→i≤ls.length→i=m * (K+1)+2+j→g.Winds.length≤i→g.Devs.length≤i →
  (∃ (d:Ac) (i':Int) (ws':List Ao) (ds':List Int),Am (E1 a4 a5 ls a2 a3 (p,g.Alts) a9) ((j:Int),(i:Int),g.Winds,g.Devs)=some (.inr (true,d.Line,d.Aj,d.Code,i',g.Alts,ws',ds'))∧V0 K ls (E9 K ls (ls.length - i) i g)=(zG,[d])) ∨
  (∃ (ws':List Ao) (ds':List Int),Am (E1 a4 a5 ls a2 a3 (p,g.Alts) a9) ((j:Int),(i:Int),g.Winds,g.Devs)=some (.inl (((i+k:Nat):Int),ws',ds'))∧i+k≤ls.length∧ws'.length≤i+k∧ds'.length≤i+k∧E9 K ls (ls.length - i) i g=E9 K ls (ls.length - (i+k)) (i+k) { g with Winds:=ws',Devs:=ds' }):=by
 intro k
 induction k with
 | zero =>
  intro j i m g hj hi him hw hd
  obtain rfl:j=K:=by omega
  refine .inr ⟨g.Winds,g.Devs,Be ?_,hi,hw,hd,rfl⟩
  simp only[E1,hK2,Int.lt_irrefl,decide_false,Bool.false_eq_true,if_false]
  rfl
 | succ k ih =>
  intro j i m g hj hi him hw hd
  have hjK:decide ((j:Int) < IntKind.wrap .i64 (a4 * a5))=true:=by rw[hK2];exact decide_eq_true (by omega)
  have hmod:(i - 1) % (K+1)=j+1:=by rw[him];exact mod_w (by omega)
  rcases Nat.eq_or_lt_of_le hi with e | h
  ·refine .inl ⟨Cm ls,(ls.length:Int),g.Winds,g.Devs,Be ?_,?_⟩
   ·simp only[E1]
    rw[if_pos hjK,e,AB7 hl ho]
    rfl
   ·rw[e,Nat.sub_self]
    show (if _ then _ else _)=_
    rw[if_pos (Or.inr (by rw[← e,hmod];omega))]
  ·have hwi:=wind_in hl ho h rfl a2 a3 a4 a5 g.Alts g.Winds g.Devs a9 (by omega) (by omega)
   have hrun:E9 K ls (ls.length - i) i g=match Dp K (ls.getD i default) i g with | .inr d=>(Sum.inr d:Aa⊕Ac) | .inl g'=>E9 K ls (ls.length - (i+1)) (i+1) g':=by
    rw[show ls.length - i=(ls.length - (i+1))+1 from by omega]
    rfl
   have hst:Dp K (ls.getD i default) i g=if(Gm (ls.getD i default)).1=true then(Sum.inr (Gm (ls.getD i default)).2:Aa⊕Ac)else Sum.inl { g with Winds:=g.Winds++[Lj (ls.getD i default)],Devs:=g.Devs++[Nc (ls.getD i default)] }:=by
    unfold Dp
    rw[if_neg (by rw[hmod];omega)]
   cases hb:(Gm (ls.getD i default)).1 with
   | true =>
    refine .inl ⟨(Gm (ls.getD i default)).2,_,_,_,Be (x:=Sum.inr (true,(Gm (ls.getD i default)).2.Line,(Gm (ls.getD i default)).2.Aj,(Gm (ls.getD i default)).2.Code,((i+1:Nat):Int),g.Alts,g.Winds++[Lj (ls.getD i default)],g.Devs++[Nc (ls.getD i default)])) ?_,?_⟩
    ·simp only[E1]
     rw[if_pos hjK,hwi,hb]
     rfl
    ·rw[hrun,hst,hb];rfl
   | false =>
    have step:(E1 a4 a5 ls a2 a3 (p,g.Alts) a9) ((j:Int),(i:Int),g.Winds,g.Devs)=some (.inl (((j+1:Nat):Int),((i+1:Nat):Int),g.Winds++[Lj (ls.getD i default)],g.Devs++[Nc (ls.getD i default)])):=by
     simp only[E1]
     rw[if_pos hjK,hwi,hb]
     simp only[bs,Bool.false_eq_true,if_false]
     rw[wn (i:=j) (by omega)]
    have hr2:E9 K ls (ls.length - i) i g=E9 K ls (ls.length - (i+1)) (i+1) { g with Winds:=g.Winds++[Lj (ls.getD i default)],Devs:=g.Devs++[Nc (ls.getD i default)] }:=by
     rw[hrun,hst,hb];rfl
    have I:=ih (j+1) (i+1) m { g with Winds:=g.Winds++[Lj (ls.getD i default)],Devs:=g.Devs++[Nc (ls.getD i default)] } (by omega) h (by omega) (by simp;omega) (by simp;omega)
    rw[hr2]
    rcases I with⟨d,i',w',d',h1,h2⟩ | ⟨w',d',h1,h2,h3,h4,h5⟩
    ·exact .inl ⟨d,i',w',d',Bg step h1,h2⟩
    ·rw[show i+(k+1)=i+1+k from by omega]
     exact .inr ⟨w',d',Bg step h1,h2,h3,h4,h5⟩
def post (c a b e:Int) (y:Bool×Int×Int×(List Int)×(List Ao)×(List Int)×Int×Int×Int):Aa×List Ac :=
 if y.1=true then(zG,[⟨y.2.2.2.2.2.2.1,y.2.2.2.2.2.2.2.1,y.2.2.2.2.2.2.2.2⟩])else(⟨⟨y.2.1,y.2.2.1⟩,c,a,b,y.2.2.2.1,y.2.2.2.2.1,y.2.2.2.2.2.1,e⟩,[])
theorem oloop {ls:List A4} (hl:ls.length≤300001) (ho:∀ L∈ls,Dd L) {K:Nat} (hK:K≤256) {c a b e:Int} (hK2:IntKind.wrap .i64 (a * b)=(K:Int)) {y1:Bool×(List A4)×Int×Int×Int×Int×Int×Int×Int×Int×Int×Int}
  (hy:y1.2.1=ls∧y1.2.2.2.2.2.1=c∧y1.2.2.2.2.2.2.1=a∧y1.2.2.2.2.2.2.2.1=b∧y1.2.2.2.2.2.2.2.2.1=e) :
  ∀ (k i m:Nat) (first:Bool) (g:Aa) (d1 d2 d3:Int),ls.length - i=k→1≤i→i≤ls.length→i=m * (K+1)+1→(first=true↔i=1)→g.Cell=c→g.NX=a→g.NY=b→g.Err=e→g.Alts.length≤8→g.Winds.length≤i→g.Devs.length≤i →
  ∃ y3,Am (Fy y1) (false,first,(i:Int),g.Corner.X,g.Corner.Y,g.Alts,g.Winds,g.Devs,d1,d2,d3)=some (.inl y3)∧post c a b e y3=V0 K ls (E9 K ls (ls.length - i) i g):=by
 obtain⟨y_1,y_2,y_3,y_4,y_5,y_6,y_7,y_8,y_9,y_10⟩:=y1
 obtain⟨e1,e2,e3,e4,e5⟩:=hy
 simp only at e1 e2 e3 e4 e5
 subst e1 e2 e3 e4 e5
 have out:∀ (i:Int) (X Y:Int) (al:List Int) (ws:List Ao) (ds:List Int) (d1 d2 d3:Int),Am (Fy (y_1,y_2,y_3,y_4,y_5,y_6,y_7,y_8,y_9,y_10)) (true,false,i,X,Y,al,ws,ds,d1,d2,d3)=some (.inl (true,X,Y,al,ws,ds,d1,d2,d3)):=fun i X Y al ws ds d1 d2 d3=>Be (by
  simp only[Fy,Bool.not_true,Bool.false_and,Bool.false_eq_true,if_false])
 intro k
 induction k using Nat.strongRecOn with
 | _ k ih =>
  intro i m first g d1 d2 d3 hk h1 hi him hf gc ga gb ge hal hw hd
  have hmod:(i - 1) % (K+1)=0:=by rw[him,Nat.add_sub_cancel];exact Nat.mul_mod_left _ _
  rcases Nat.eq_or_lt_of_le hi with e | h
  ·cases first with
   | true =>
    have h1':=hf.1 rfl
    refine⟨_,Bg (s':=(true,false,(y_2.length:Int),g.Corner.X,g.Corner.Y,g.Alts,g.Winds,g.Devs,(Cm y_2).Line,(Cm y_2).Aj,(Cm y_2).Code)) ?_ (out _ _ _ _ _ _ _ _ _),?_⟩
    ·simp only[Fy,Bool.not_false,Bool.true_and,Bool.true_or,if_true]
     rw[e,wo hl ho]
     rfl
    ·rw[e,Nat.sub_self]
     show (zG,[Cm y_2])=(if _ then _ else _)
     rw[if_pos (Or.inl (by omega))]
   | false =>
    have h1':¬ i=1:=fun h=>by have:=hf.2 h;cases this
    refine⟨_,Be (x:=Sum.inl (false,g.Corner.X,g.Corner.Y,g.Alts,g.Winds,g.Devs,d1,d2,d3)) ?_,?_⟩
    ·simp only[Fy,Bool.not_false,Bool.true_and,Bool.false_or]
     rw[if_neg (by simp;omega)]
    ·rw[e,Nat.sub_self]
     show (_,_)=(if _ then _ else _)
     rw[if_neg (by rw[← e];omega),← gc,← ga,← gb,← ge]
  ·have hcond:(!false&&(first || decide ((i:Int) < (y_2.length:Int))))=true:=by
    rw[show decide ((i:Int) < (y_2.length:Int))=true from decide_eq_true (by omega)];simp
   have hle:=AAT hl ho h rfl ⟨g.Corner.X,g.Corner.Y⟩ y_6 y_7 y_8 g.Alts g.Winds g.Devs y_9 (by omega)
   have hrun:E9 K y_2 (y_2.length - i) i g=match Dp K (y_2.getD i default) i g with | .inr d=>(Sum.inr d:Aa⊕Ac) | .inl g'=>E9 K y_2 (y_2.length - (i+1)) (i+1) g':=by
    rw[show y_2.length - i=(y_2.length - (i+1))+1 from by omega]
    rfl
   have hst:Dp K (y_2.getD i default) i g=match Lg g.Alts (y_2.getD i default) with | .inr d=>(Sum.inr d:Aa⊕Ac) | .inl z=>Sum.inl { g with Alts:=g.Alts++[z] }:=by
    unfold Dp
    rw[if_pos hmod]
   cases hlv:Lg g.Alts (y_2.getD i default) with
   | inr d =>
    rw[hlv]at hle hst
    refine⟨_,Bg (s':=(true,false,((i+1:Nat):Int),g.Corner.X,g.Corner.Y,g.Alts,g.Winds,g.Devs,d.Line,d.Aj,d.Code)) ?_ (out _ _ _ _ _ _ _ _ _),?_⟩
    ·simp only[Fy]
     rw[if_pos hcond,hle]
     rfl
    ·rw[hrun,hst];rfl
   | inl z =>
    rw[hlv]at hle hst
    have hz:=fq hlv
    have W:=wloop hl ho hK hK2 ⟨g.Corner.X,g.Corner.Y⟩ y_6 ((i+1:Nat):Int) y_9 K 0 (i+1) m { g with Alts:=g.Alts++[z] } (by omega) h (by omega) (by show g.Winds.length≤i+1;omega) (by show g.Devs.length≤i+1;omega)
    simp only at hle
    rcases W with⟨d,i',w',d',q1,q2⟩ | ⟨w',d',q1,q2,q3,q4,q5⟩
    ·refine⟨_,Bg (s':=(true,false,i',g.Corner.X,g.Corner.Y,g.Alts++[z],w',d',d.Line,d.Aj,d.Code)) ?_ (out _ _ _ _ _ _ _ _ _),?_⟩
     ·simp only[Fy]
      rw[if_pos hcond,hle]
      rw[show ((0:Nat):Int)=0 from rfl]at q1
      rw[show Am (E1 y_7 y_8 y_2 ⟨g.Corner.X,g.Corner.Y⟩ y_6 (((i+1:Nat):Int),g.Alts++[z]) y_9) ((0:Int),((i+1:Nat):Int),g.Winds,g.Devs)=_ from q1]
      rfl
     ·rw[hrun,hst]
      exact q2.symm
    ·obtain⟨y3,r1,r2⟩:=ih (y_2.length - (i+1+K)) (by omega) (i+1+K) (m+1) false { g with Alts:=g.Alts++[z],Winds:=w',Devs:=d' } 0 0 0 rfl (by omega) q2 (by rw[him,Nat.add_mul];omega) ⟨fun h=>(by cases h),fun h=>(by omega)⟩ gc ga gb ge (by show (g.Alts++[z]).length≤8;have:=hz.1;simp;omega) q3 q4
     refine⟨y3,Bg (s':=(false,false,((i+1+K:Nat):Int),g.Corner.X,g.Corner.Y,g.Alts++[z],w',d',0,0,0)) ?_ r1,?_⟩
     ·simp only[Fy]
      rw[if_pos hcond,hle]
      rw[show ((0:Nat):Int)=0 from rfl]at q1
      rw[show Am (E1 y_7 y_8 y_2 ⟨g.Corner.X,g.Corner.Y⟩ y_6 (((i+1:Nat):Int),g.Alts++[z]) y_9) ((0:Int),((i+1:Nat):Int),g.Winds,g.Devs)=_ from q1]
      rfl
     ·rw[r2,hrun,hst]
      exact congrArg (V0 K y_2) q5.symm
def C8 (s:List UInt8):Aa×List Ac:=if 0 < (Dn s).1.length then(zG,(Dn s).1)else pG (Dn s).2
theorem Sd {a b:Int} (ha:1≤a∧a≤16) (hb:1≤b∧b≤16):(a * b).toNat≤256∧IntKind.wrap .i64 (a * b)=(((a * b).toNat:Nat):Int)∧1≤a * b:=by
 have h1:a * b≤16 * 16:=Int.mul_le_mul ha.2 hb.2 (by omega) (by omega)
 have h2:1 * 1≤a * b:=Int.mul_le_mul ha.1 hb.1 (by omega) (by omega)
 exact⟨by omega,by rw[Bh (by omega) (by omega)];omega,by omega⟩
theorem lw (s:List UInt8):m8 s=some (C8 s):=by
 rw[A8,Read_p]
 simp only[bs]
 unfold C8
 obtain⟨hl,ho⟩:=jk s
 generalize Dn s=R at hl ho
 obtain⟨ds,ls⟩:=R
 simp only at hl ho ⊢
 by_cases hd:0 < ds.length
 ·rw[if_pos (decide_eq_true (show (0:Int) < (ds.length:Int) from by omega)),if_pos hd]
  rfl
 ·rw[if_neg (show ¬ decide ((0:Int) < (ds.length:Int))=true from fun e=>hd (by have:=of_decide_eq_true e;omega)),if_neg hd]
  unfold pG
  by_cases h0:ls.length=0
  ·have hnil:ls=[]:=List.length_eq_zero_iff.1 h0
   subst hnil
   rw[if_pos h0,AAP ho]
   simp only[bs,ol]
   rw[show Am (Fy (true,([]:List A4),(0:Int),(0:Int),(0:Int),(0:Int),(0:Int),(0:Int),(0:Int),(1:Int),(1:Int),(4:Int))) (true,true,(0:Int),(0:Int),(0:Int),([]:List Int),([]:List Ao),([]:List Int),(1:Int),(1:Int),(4:Int))=some (.inl (true,0,0,[],[],[],1,1,4)) from Be (by simp only[Fy,Bool.not_true,Bool.false_and,Bool.false_eq_true,if_false])]
   rfl
  ·rw[if_neg h0]
   have hpos:0 < ls.length:=by omega
   rw[head_in hl ho hpos rfl]
   simp only[bs,ol]
   generalize hh:Cl (ls.getD 0 default)=h
   cases hb:h.f.1 with
   | true =>
    rw[if_pos rfl]
    rw[show Am (Fy (true,ls,(1:Int),h.x,h.y,h.c,h.a,h.b,h.e,h.f.2.Line,h.f.2.Aj,h.f.2.Code)) (true,true,(1:Int),h.x,h.y,([]:List Int),([]:List Ao),([]:List Int),h.f.2.Line,h.f.2.Aj,h.f.2.Code)=some (.inl (true,h.x,h.y,[],[],[],h.f.2.Line,h.f.2.Aj,h.f.2.Code)) from Be (by simp only[Fy,Bool.not_true,Bool.false_and,Bool.false_eq_true,if_false])]
    rfl
   | false =>
    have H:AA3 h:=by rw[← hh];exact sy (by rw[hh];exact hb)
    obtain⟨k1,k2',k3⟩:=Sd H.a H.b
    obtain⟨y3,r1,r2⟩:=oloop hl ho k1 (c:=h.c) (e:=h.e) k2' (y1:=(false,ls,(1:Int),h.x,h.y,h.c,h.a,h.b,h.e,h.f.2.Line,h.f.2.Aj,h.f.2.Code)) ⟨rfl,rfl,rfl,rfl,rfl⟩ _ 1 0 true (Wu h) h.f.2.Line h.f.2.Aj h.f.2.Code rfl (Nat.le_refl _) (by omega) (by omega) ⟨fun _=>rfl,fun _=>rfl⟩ rfl rfl rfl rfl (Nat.zero_le _) (Nat.zero_le _) (Nat.zero_le _)
    rw[if_neg (by decide),← r2]
    rw[show Am (Fy (false,ls,(1:Int),h.x,h.y,h.c,h.a,h.b,h.e,h.f.2.Line,h.f.2.Aj,h.f.2.Code)) (false,true,(1:Int),h.x,h.y,([]:List Int),([]:List Ao),([]:List Int),h.f.2.Line,h.f.2.Aj,h.f.2.Code)=_ from r1]
    simp only[bs,ol]
    unfold post
    cases y3.1<;>rfl
end Go.Av.Txs
