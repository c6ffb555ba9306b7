/- A part of the proof. -/
import Derived.Test.YtmjgpbohlbakiaaGreatDoorPart5
set_option linter.unusedVariables false
set_option linter.unusedSimpArgs false
set_option maxRecDepth 1000000
namespace Go.Av
open Ch Mo Go.Proofs
theorem Mo.join_len {m:Nat} {sep:List UInt8}:∀ (l:List (List UInt8)),(∀ s∈l,s.length≤m)→(Lib.join l sep).length≤l.length * (m+sep.length)
 | [],_=>by simp[Lib.join,List.intercalate]
 | [x],h=>by
  have:=h x (by simp)
  simp only[Lib.join,List.intercalate,List.intersperse,List.flatten_cons,List.flatten_nil,List.append_nil,List.length_cons,List.length_nil]
  omega
 | x :: y :: r,h=>by
  have h1:=h x (by simp)
  have h2:=Mo.join_len (sep:=sep) (y :: r) (fun s hs=>h s (List.mem_cons_of_mem _ hs))
  have e:Lib.join (x :: y :: r) sep=x++sep++Lib.join (y :: r) sep:=by simp[Lib.join,List.intercalate,List.intersperse]
  rw[e,List.length_append,List.length_append,List.length_cons,Nat.succ_mul]
  omega
theorem Mo.join_ok {l:List (List UInt8)} (h:∀ s∈l,s.length≤100) (hl:l.length≤100):m22 l [32]=some (Lib.join l [32]):=by
 have:=Mo.join_len (m:=100) (sep:=[32]) l h
 have h2:l.length * (100+([32]:List UInt8).length)≤100 * 101:=Nat.mul_le_mul hl (Nat.le_refl _)
 unfold m22
 rw[if_pos ⟨by omega,by omega⟩]
theorem Mo.rep_loop {R:Type} (n:Nat) (hn:n≤1000):loopO (fun(s3:Int×(List Int))=>((if(decide (s3.1 < (n:Int)))=true then(if((s3.2.length+1) * 8≤140737488355328)then(some (.inl ((IntKind.wrap .i64 (s3.1+1)),(s3.2++([(-1:Int)]:List Int)))))else none)else(some (.inr (.inl s3.2)))):Option ((Int×(List Int))⊕((List Int)⊕R)))) ((0:Int),[])=some (.inl (List.replicate n (-1))):=by
 refine loop_st n (fun i=>((i:Int),List.replicate i (-1:Int))) (Sum.inl (List.replicate n (-1))) (fun i hi=>?_) ?_
 ·have c1:(((List.replicate i (-1:Int)).length+1) * 8≤140737488355328)=True:=eq_true (by rw[List.length_replicate];omega)
  have w1:IntKind.wrap .i64 ((i:Int)+1)=((i+1:Nat):Int):=by rw[w64 (by omega) (by omega)];omega
  simp only[inL hi,decide_true,if_true,c1,w1,List.replicate_succ']
 ·simp only[lt_irr,decide_false,Bool.false_eq_true,if_false]
def Mo.smallE (r:T41×List (List UInt8)×Int):Bool:=decide (r.2.1.length≤10)&&r.2.1.all fun s=>decide (s.length≤100)
theorem Mo.ev1:allBy C1 (leavesS C1) [] (fun _ r=>smallE r)=true:=by kernel_rfl
theorem Mo.ev2:allBy C2 (leavesS C2) [] (fun _ r=>smallE r)=true:=by kernel_rfl
theorem Mo.ev3:allBy C3 (leavesS C3) [] (fun _ r=>smallE r)=true:=by kernel_rfl
theorem Mo.small_of {r:T41×List (List UInt8)×Int} (h:smallE r=true):r.2.1.length≤10∧∀ s∈r.2.1,s.length≤100:=by
 simp only[smallE,Bool.and_eq_true,decide_eq_true_eq,List.all_eq_true]at h
 exact h
theorem M5 (a0:T49) (a1:Int):m5 a0 a1=((Option.bind (Option.bind (Option.bind (m18) fun r=>some r) fun x1=>(if(!x1)=true then(some (.inr (false)))else(Option.bind (Option.bind (m19 a0 a1) fun r=>some r) fun x3=>(if(x3.2.2 != 0)=true then(some (.inr ((((x3.1.Lateral==0)&&((x3.1.Vertical==0)&&((x3.1.Phase==0)&&true)))&&((x3.2.1.length:Int)==(0:Int))))))else(some (.inl (x3.2.1,x3.1))))))) (onS fun(y1:(List (List UInt8))×T49)=>(Option.bind (Option.bind (some (.inl ())) (onS fun(_:Unit)=>(Option.bind (Option.bind (Option.bind (some (.inl ())) (onS fun(_:Unit)=>(some (.inl ())))) (onS fun(_:Unit)=>(Option.bind (Option.bind (Option.bind (Option.bind (m20 (1:Int)) fun r=>some r) fun x10=>(Option.bind (Option.bind (m21 (1:Int) a1) fun r=>some r) fun x11=>(some (.inl (x11.1,x11.2,x10.1))))) (onS fun(y2:Int×Int×T27)=>(Option.bind (Option.bind (some (.inl ())) (onS fun(_:Unit)=>(if(y2.2.1 != 0)=true then(some (.inr (.inr (.inr (.inr (false))))))else(some (.inl ()))))) (onS fun(_:Unit)=>(Option.bind (if((0:Int)≤(1:Int))then(if((1:Int) < (4:Int))then(some (.inl ()))else none)else none) (onS fun(_:Unit)=>(Option.bind (Option.bind (some (.inl ())) (onS fun(_:Unit)=>(loopO (fun(s3:Int×(List Int))=>((if(decide (s3.1 < (y2.2.2.States.length:Int)))=true then(if((s3.2.length+1) * 8≤140737488355328)then(some (.inl ((IntKind.wrap .i64 (s3.1+1)),(s3.2++([(-1:Int)]:List Int)))))else none)else(some (.inr (.inl s3.2)))):Option ((Int×(List Int))⊕(((List Int))⊕(((List (List UInt8)))⊕(((List (List UInt8)))⊕(((List (List UInt8)))⊕(Bool)))))))) ((0:Int),[])))) (onS fun(y4:(List Int))=>(Option.bind (Option.bind (Option.bind (m16 y2.2.2 (⟨(IntKind.wrap .i64 (a0.Lateral)),y4⟩:T41) y2.1) fun r=>some r) fun x19=>(some (.inl (x19.2.1,x19.2.2,x19.1)))) (onS fun(y5:(List (List UInt8))×Int×T41)=>(Option.bind (Option.bind (if(!(y5.2.1 != 0))=true→((0:Int)≤(1:Int))then(if(!(y5.2.1 != 0))=true→((1:Int) < (4:Int))then(some (.inl ()))else none)else none) (onS fun(_:Unit)=>(if((y5.2.1 != 0) || (y5.2.2.Leaf != (IntKind.wrap .i64 (y1.2.Lateral))))=true then(some (.inr (.inr (.inr (.inr (false))))))else(some (.inl ()))))) (onS fun(_:Unit)=>(if(y5.1.length * 16≤140737488355328)then(some (.inl y5.1))else none))))))))))))) (onS fun(y6:(List (List UInt8)))=>(some (.inl y6)))))) (onS fun(y7:(List (List UInt8)))=>(Option.bind (Option.bind (Option.bind (some (.inl ())) (onS fun(_:Unit)=>(some (.inl ())))) (onS fun(_:Unit)=>(Option.bind (Option.bind (Option.bind (Option.bind (m20 (2:Int)) fun r=>some r) fun x10=>(Option.bind (Option.bind (m21 (2:Int) a1) fun r=>some r) fun x11=>(some (.inl (x11.1,x11.2,x10.1))))) (onS fun(y8:Int×Int×T27)=>(Option.bind (Option.bind (some (.inl ())) (onS fun(_:Unit)=>(if(y8.2.1 != 0)=true then(some (.inr (.inr (.inr (.inr (false))))))else(some (.inl ()))))) (onS fun(_:Unit)=>(Option.bind (if((0:Int)≤(2:Int))then(if((2:Int) < (4:Int))then(some (.inl ()))else none)else none) (onS fun(_:Unit)=>(Option.bind (Option.bind (some (.inl ())) (onS fun(_:Unit)=>(loopO (fun(s9:Int×(List Int))=>((if(decide (s9.1 < (y8.2.2.States.length:Int)))=true then(if((s9.2.length+1) * 8≤140737488355328)then(some (.inl ((IntKind.wrap .i64 (s9.1+1)),(s9.2++([(-1:Int)]:List Int)))))else none)else(some (.inr (.inl s9.2)))):Option ((Int×(List Int))⊕(((List Int))⊕(((List (List UInt8)))⊕(((List (List UInt8)))⊕(((List (List UInt8)))⊕(Bool)))))))) ((0:Int),[])))) (onS fun(y10:(List Int))=>(Option.bind (Option.bind (Option.bind (m16 y8.2.2 (⟨(IntKind.wrap .i64 (a0.Vertical)),y10⟩:T41) y8.1) fun r=>some r) fun x19=>(some (.inl (x19.2.1,x19.2.2,x19.1)))) (onS fun(y11:(List (List UInt8))×Int×T41)=>(Option.bind (Option.bind (if(!(y11.2.1 != 0))=true→((0:Int)≤(2:Int))then(if(!(y11.2.1 != 0))=true→((2:Int) < (4:Int))then(some (.inl ()))else none)else none) (onS fun(_:Unit)=>(if((y11.2.1 != 0) || (y11.2.2.Leaf != (IntKind.wrap .i64 (y1.2.Vertical))))=true then(some (.inr (.inr (.inr (.inr (false))))))else(some (.inl ()))))) (onS fun(_:Unit)=>(if((y7.length+y11.1.length) * 16≤140737488355328)then(some (.inl (y7++y11.1)))else none))))))))))))) (onS fun(y12:(List (List UInt8)))=>(some (.inl y12)))))) (onS fun(y13:(List (List UInt8)))=>(Option.bind (Option.bind (Option.bind (some (.inl ())) (onS fun(_:Unit)=>(some (.inl ())))) (onS fun(_:Unit)=>(Option.bind (Option.bind (Option.bind (Option.bind (m20 (3:Int)) fun r=>some r) fun x10=>(Option.bind (Option.bind (m21 (3:Int) a1) fun r=>some r) fun x11=>(some (.inl (x11.1,x11.2,x10.1))))) (onS fun(y14:Int×Int×T27)=>(Option.bind (Option.bind (some (.inl ())) (onS fun(_:Unit)=>(if(y14.2.1 != 0)=true then(some (.inr (.inr (.inr (.inr (false))))))else(some (.inl ()))))) (onS fun(_:Unit)=>(Option.bind (if((0:Int)≤(3:Int))then(if((3:Int) < (4:Int))then(some (.inl ()))else none)else none) (onS fun(_:Unit)=>(Option.bind (Option.bind (some (.inl ())) (onS fun(_:Unit)=>(loopO (fun(s15:Int×(List Int))=>((if(decide (s15.1 < (y14.2.2.States.length:Int)))=true then(if((s15.2.length+1) * 8≤140737488355328)then(some (.inl ((IntKind.wrap .i64 (s15.1+1)),(s15.2++([(-1:Int)]:List Int)))))else none)else(some (.inr (.inl s15.2)))):Option ((Int×(List Int))⊕(((List Int))⊕(((List (List UInt8)))⊕(((List (List UInt8)))⊕(((List (List UInt8)))⊕(Bool)))))))) ((0:Int),[])))) (onS fun(y16:(List Int))=>(Option.bind (Option.bind (Option.bind (m16 y14.2.2 (⟨(IntKind.wrap .i64 (a0.Phase)),y16⟩:T41) y14.1) fun r=>some r) fun x19=>(some (.inl (x19.2.1,x19.2.2,x19.1)))) (onS fun(y17:(List (List UInt8))×Int×T41)=>(Option.bind (Option.bind (if(!(y17.2.1 != 0))=true→((0:Int)≤(3:Int))then(if(!(y17.2.1 != 0))=true→((3:Int) < (4:Int))then(some (.inl ()))else none)else none) (onS fun(_:Unit)=>(if((y17.2.1 != 0) || (y17.2.2.Leaf != (IntKind.wrap .i64 (y1.2.Phase))))=true then(some (.inr (.inr (.inr (.inr (false))))))else(some (.inl ()))))) (onS fun(_:Unit)=>(if((y13.length+y17.1.length) * 16≤140737488355328)then(some (.inl (y13++y17.1)))else none))))))))))))) (onS fun(y18:(List (List UInt8)))=>(some (.inl y18)))))) (onS fun(y19:(List (List UInt8)))=>(Option.bind (Option.bind (Option.bind (some (.inl ())) (onS fun(_:Unit)=>(some (.inr (.inr (.inl y19)))))) onE) onE))))))))) (onS fun(y20:(List (List UInt8)))=>(Option.bind (((m22 y20 ([32]:List UInt8)).bind fun r23_0=>((m22 y1.1 ([32]:List UInt8)).bind fun r23_1=>((if(r23_0==r23_1)=true then m23 y1.2 else some default).bind fun r23_2=>some (r23_0,r23_1,r23_2))))) fun(x23:((List UInt8)×(List UInt8)×Bool))=>(some ((x23.1==x23.2.1)&&x23.2.2))))))):Option (Bool)):=by kernel_rfl
set_option maxHeartbeats 2000000 in
theorem Mo.axes_of {l v p b:Nat} {r1 r2 r3:T41×List (List UInt8)×Int} {v1 v2 v3:Int} (hl:l < 256) (hv:v < 256) (hp:p < 256)
  (hs:m19 ⟨(l:Int),(v:Int),(p:Int)⟩ (b:Int)=some (⟨r1.1.Leaf,r2.1.Leaf,r3.1.Leaf⟩,r1.2.1++r2.2.1++r3.2.1,0))
  (a1:m21 1 (b:Int)=some (v1,0)) (a2:m21 2 (b:Int)=some (v2,0)) (a3:m21 3 (b:Int)=some (v3,0))
  (s1:m16 C1 ⟨(l:Int),List.replicate C1.States.length (-1)⟩ v1=some r1) (s2:m16 C2 ⟨(v:Int),List.replicate C2.States.length (-1)⟩ v2=some r2) (s3:m16 C3 ⟨(p:Int),List.replicate C3.States.length (-1)⟩ v3=some r3)
  (o1:r1.2.2=0) (o2:r2.2.2=0) (o3:r3.2.2=0) (f1:smallE r1=true) (f2:smallE r2=true) (f3:smallE r3=true)
  (k1:1≤r1.1.Leaf∧r1.1.Leaf≤6) (k2:1≤r2.1.Leaf∧r2.1.Leaf≤8) (k3:1≤r3.1.Leaf∧r3.1.Leaf≤8):m5 ⟨(l:Int),(v:Int),(p:Int)⟩ (b:Int)=some true:=by
 obtain⟨n1,t1⟩:=small_of f1
 obtain⟨n2,t2⟩:=small_of f2
 obtain⟨n3,t3⟩:=small_of f3
 have hw:=awake_true
 have c1:=Mo.read1
 have c2:=Mo.read2
 have c3:=Mo.read3
 have L1:=fun R:Type=>rep_loop (R:=R) C1.States.length (by decide)
 have L2:=fun R:Type=>rep_loop (R:=R) C2.States.length (by decide)
 have L3:=fun R:Type=>rep_loop (R:=R) C3.States.length (by decide)
 have z1:IntKind.wrap .i64 (l:Int)=l:=w64 (by omega) (by omega)
 have z2:IntKind.wrap .i64 (v:Int)=v:=w64 (by omega) (by omega)
 have z3:IntKind.wrap .i64 (p:Int)=p:=w64 (by omega) (by omega)
 have y1:IntKind.wrap .i64 r1.1.Leaf=r1.1.Leaf:=w64 (by omega) (by omega)
 have y2:IntKind.wrap .i64 r2.1.Leaf=r2.1.Leaf:=w64 (by omega) (by omega)
 have y3:IntKind.wrap .i64 r3.1.Leaf=r3.1.Leaf:=w64 (by omega) (by omega)
 have g1:(r1.2.1.length * 16≤140737488355328)=True:=eq_true (by omega)
 have g2:((r1.2.1.length+r2.2.1.length) * 16≤140737488355328)=True:=eq_true (by omega)
 have g3:(((r1.2.1++r2.2.1).length+r3.2.1.length) * 16≤140737488355328)=True:=eq_true (by rw[List.length_append];omega)
 have j:=join_ok (l:=r1.2.1++r2.2.1++r3.2.1) (fun s hs=>by
  rcases List.mem_append.1 hs with hs | hs
  ·rcases List.mem_append.1 hs with hs | hs
   ·exact t1 s hs
   ·exact t2 s hs
  ·exact t3 s hs) (by rw[List.length_append,List.length_append];omega)
 have vd:m23 ⟨r1.1.Leaf,r2.1.Leaf,r3.1.Leaf⟩=some true:=by
  have:=Valid_eq (l:=r1.1.Leaf.toNat) (v:=r2.1.Leaf.toNat) (p:=r3.1.Leaf.toNat) (by omega) (by omega) (by omega)
  rw[Int.toNat_of_nonneg (by omega),Int.toNat_of_nonneg (by omega),Int.toNat_of_nonneg (by omega)]at this
  have hv:validN r1.1.Leaf.toNat r2.1.Leaf.toNat r3.1.Leaf.toNat=true:=by
   unfold validN
   simp only[Bool.and_eq_true,decide_eq_true_eq]
   omega
  exact this.trans (congrArg some hv)
 have i0:((0:Int)≤(1:Int))=True:=eq_true (by decide)
 have i1:((1:Int) < (4:Int))=True:=eq_true (by decide)
 have i2:((0:Int)≤(2:Int))=True:=eq_true (by decide)
 have i3:((2:Int) < (4:Int))=True:=eq_true (by decide)
 have i4:((0:Int)≤(3:Int))=True:=eq_true (by decide)
 have i5:((3:Int) < (4:Int))=True:=eq_true (by decide)
 have n0:((0:Int) != 0)=false:=rfl
 have b1:(r1.1.Leaf != r1.1.Leaf)=false:=by simp
 have b2:(r2.1.Leaf != r2.1.Leaf)=false:=by simp
 have b3:(r3.1.Leaf != r3.1.Leaf)=false:=by simp
 simp only[M5,bind_id]
 generalize m18=A at hw ⊢
 generalize m19=F1 at hs ⊢
 generalize m20=F2 at c1 c2 c3 ⊢
 generalize m21=F3 at a1 a2 a3 ⊢
 generalize m16=F4 at s1 s2 s3 ⊢
 generalize m22=F5 at j ⊢
 generalize m23=F6 at vd ⊢
 simp only[hw,hs,bs,ol,or_,oe,Bool.not_true,Bool.not_false,n0,Bool.false_eq_true,if_false,if_true,c1,c2,c3,a1,a2,a3,i0,i1,i2,i3,i4,i5,L1,L2,L3,z1,z2,z3,s1,s2,s3,o1,o2,o3,y1,y2,y3,b1,b2,b3,Bool.or_self,imp_true_iff,true_implies,g1,g2,g3,j,vd,beq_self_eq_true,Bool.and_self]
theorem plain5 {s:T49} {c:Int} (hs:ok49 s) (hc:(Lit.int .u32 c).wf=true):m5 s c=some true:=by
 obtain⟨l,v,p,rfl,hl,hv,hp⟩:=ok_state hs
 obtain⟨b,rfl,hb⟩:=u32_nat hc
 have e1:=Step_eqM hl hv hp hb
 by_cases h0:(stepP l v p b).2.2=0
 ·obtain⟨⟨l1,l2⟩,⟨v1,v2⟩,⟨p1,p2⟩,hb19,a1,a2,a3,he⟩:=step_good h0
  have m1:=mem1 l1 l2
  have m2:=mem2 v1 v2
  have m3:=mem3 p1 p2
  have x1:=go1 l1 l2 a1
  have x2:=go2 v1 v2 a2
  have x3:=go3 p1 p2 a3
  have V:∀ (c:T27),allowedS c (valS c b)=true→valR c b=((valS c b:Int),0):=fun c h=>by
   unfold valR
   rw[if_neg (by omega),h];rfl
  refine axes_of hl hv hp (e1.trans (by rw[he])) ((Valuation_of Mo.read1 (val1 hb) hb).trans (by rw[V C1 a1])) ((Valuation_of Mo.read2 (val2 hb) hb).trans (by rw[V C2 a2])) ((Valuation_of Mo.read3 (val3 hb) hb).trans (by rw[V C3 a3])) (cstep1 l1 l2 a1) (cstep2 v1 v2 a2) (cstep3 p1 p2 a3) rfl rfl rfl
   (by_all ev1 m1 x1 rfl (fun q hq=>by cases hq)) (by_all ev2 m2 x2 rfl (fun q hq=>by cases hq)) (by_all ev3 m3 x3 rfl (fun q hq=>by cases hq)) (gol1 l1 l2 a1).1 (gol2 v1 v2 a2).1 (gol3 p1 p2 a3).1
 ·have hz:∃ e,stepP l v p b=(⟨0,0,0⟩,[],e)∧e≠0:=by
   unfold stepP at h0 ⊢
   split
   ·exact⟨_,rfl,by decide⟩
   ·rename_i q1
    rw[if_neg q1]at h0
    split
    ·exact⟨_,rfl,by decide⟩
    ·rename_i q2
     rw[if_neg q2]at h0
     split
     ·exact⟨_,rfl,by decide⟩
     ·rename_i q3
      rw[if_neg q3]at h0
      exact absurd rfl h0
  obtain⟨e,he,hne⟩:=hz
  have hb:(e != 0)=true:=by simpa using hne
  replace e1:=e1.trans (congrArg some he)
  have hw:=awake_true
  simp only[M5,bind_id,hw,e1,bs,hb,Bool.not_true,Bool.false_eq_true,if_false,if_true,or_]
  rfl
end Go.Av
