/- A part of the proof. -/
import Derived.Test.YtmjgpbohlbakiaaGreatDoorPart5
set_option linter.unusedVariables false
set_option linter.unusedSimpArgs false
set_option maxRecDepth 100000
namespace Go.Av
open Ch Go.Proofs
def upS {X:Type} {S:Type} (mk:SS→S) (bad:Option X):Option SS→Option (S⊕X)
 | some s=>some (.inl (mk s))
 | none=>bad.map .inr
def endS {X:Type} (out:SS→X) (bad:Option X):Option SS→Option X
 | some s=>some (out s)
 | none=>bad
theorem getD_app {α:Type} [Inhabited α] {l k:List α} {i:Nat} (h:i < l.length):(l++k).getD i default=l.getD i default:=by
 simp only[List.getD_eq_getElem?_getD,List.getElem?_append_left h]
theorem visit_get {c:T27} {i:Nat} {s s':SS} {v:Int} (hs:visit c i s v=some s'):∃ k,s'.1=s.1++k:=by
 unfold visit at hs
 split at hs
 ·injection hs with hs;subst hs;exact⟨[],by simp⟩
 ·unfold addS at hs
  split at hs
  ·injection hs with hs;subst hs;exact⟨[],by simp⟩
  ·split at hs
   ·cases hs
   ·injection hs with hs;subst hs;exact⟨_,rfl⟩
theorem done_loop {c:T27} (H:Fit c) {i:Nat} {X:Type} {b:(Int×List T41×List Int×List Int×Nat×(List UInt8→Option Int))→Option ((Int×List T41×List Int×List Int×Nat×(List UInt8→Option Int))⊕X)} (out:SS→X) (bad:Option X) (w:List Int)
  (P:SS→(List UInt8→Option Int)→Prop)
  (hb:∀ (k:Nat) (s:SS) (n:Nat) (f:List UInt8→Option Int),k < w.length→Inv c s→i < s.1.length→n≤k→P s f→∃ n' f',n'≤k+1∧(∀ s',visit c i s (w.getD k default)=some s'→P s' f') ∧
   b ((k:Int),s.1,s.2.1,s.2.2,n,f)=upS (fun s'=>(((k+1:Nat):Int),s'.1,s'.2.1,s'.2.2,n',f')) bad (visit c i s (w.getD k default)))
  (he:∀ (s:SS) n f,Inv c s→b ((w.length:Int),s.1,s.2.1,s.2.2,n,f)=some (.inr (out s)))
  {s:SS} (I:Inv c s) (hi:i < s.1.length) (f0:List UInt8→Option Int) (hP:P s f0):loopO b (0,s.1,s.2.1,s.2.2,0,f0)=(endS out bad (rnd c i w s)):=by
 have key:∀ (m k:Nat) (s:SS) (n:Nat) (f:List UInt8→Option Int),k+m=w.length→Inv c s→i < s.1.length→n≤k→P s f→loopO b ((k:Int),s.1,s.2.1,s.2.2,n,f)=(endS out bad (rnd c i (w.drop k) s)):=by
  intro m
  induction m with
  | zero =>
   intro k s n f hk I hi hn hp
   obtain rfl:k=w.length:=by omega
   rw[loopO_eq,he s n f I,List.drop_length]
   rfl
  | succ m ih =>
   intro k s n f hk I hi hn hp
   have hkl:k < w.length:=by omega
   obtain⟨n',f',h1,h2,h3⟩:=hb k s n f hkl I hi hn hp
   have hd:w.drop k=w.getD k default :: w.drop (k+1):=by
    rw[List.drop_eq_getElem_cons hkl];simp[List.getD_eq_getElem?_getD,List.getElem?_eq_getElem hkl]
   rw[loopO_eq,h3,hd,rnd]
   cases hv:visit c i s (w.getD k default) with
   | none=>cases bad<;>rfl
   | some s' =>
    obtain⟨I',h'⟩:=visit_inv H I hv
    simp only[upS,Option.bind_some]
    exact ih (k+1) s' n' f' (by omega) I' (by omega) h1 (h2 s' hv)
 have:=key w.length 0 s 0 f0 (by omega) I hi (by omega) hP
 rw[List.drop_zero]at this
 exact this
theorem srch_loop {c:T27} (H:Fit c) {S X:Type} {b:S→Option (S⊕X)} (mk:Nat→SS→S) (out:SS→X) (bad:Option X)
  (hb:∀ (i:Nat) (s:SS),Inv c s→i < s.1.length→b (mk i s)=upS (mk (i+1)) bad (rnd c i (allV c) s))
  (he:∀ (s:SS),Inv c s→b (mk s.1.length s)=some (.inr (out s))) :
  ∀ (n i:Nat) (s:SS),Inv c s→i≤s.1.length→n+i=402→loopO b (mk i s)=(endS out bad (srch c n i s)):=by
 intro n
 induction n with
 | zero=>intro i s I hi hn;have:=I.le;omega
 | succ n ih =>
  intro i s I hi hn
  unfold srch
  by_cases h:i < s.1.length
  ·rw[if_pos h,loopO_eq,hb i s I h]
   cases hr:rnd c i (allV c) s with
   | none=>cases bad<;>rfl
   | some s' =>
    obtain⟨I',h'⟩:=rnd_inv H I hr
    simp only[upS,Option.bind_some]
    exact ih (i+1) s' I' (by omega) (by omega)
  ·obtain rfl:i=s.1.length:=by omega
   rw[if_neg h,loopO_eq,he s I]
   rfl
def searchS (c:T27):Option SS:=srch c 402 0 (begS ⟨(startS c).1,(startS c).2.1⟩)
theorem beg_inv {c:T27} (H:Fit c) (hc:checkM c=some 0):Inv c (begS ⟨(startS c).1,(startS c).2.1⟩):=by
 refine⟨by simp[begS],by simp[begS],by simp[begS],by simp[begS],fun g hg=>?_⟩
 simp only[begS,List.mem_singleton]at hg
 subst hg
 exact(startS_ok (good_of hc) H).1
theorem M68o1 (a0:T27):m68o1 a0=((Option.bind (Option.bind (Option.bind (m14o0 a0) fun r=>some r) fun x1=>(if(x1.1 != 0)=true then(some (.inr (x1.1)))else(Option.bind (Option.bind (m117 a0) fun r=>some r) fun x4=>(some (.inl (([(⟨x1.2.2.1,x1.2.2.2⟩:T41)]:List T41),x4)))))) (onS fun(y1:(List T41)×(List Int))=>(Option.bind (Option.bind (some (.inl ())) (onS fun(_:Unit)=>(loopO (fun(s2:Int×(List T41)×(List Int)×(List Int))=>((Option.bind (if(decide (s2.1 < (s2.2.1.length:Int)))=true then(some (.inl ()))else(some (.inr (.inr (.inl (s2.2.1,s2.2.2.1,s2.2.2.2)))))) (onS fun(_:Unit)=>(Option.bind (Option.bind (some (.inl ())) (onS fun(_:Unit)=>(loopO (fun(s3:Int×(List T41)×(List Int)×(List Int)×Nat×(List UInt8→Option Int))=>((if(decide (s3.1 < (y1.2.length:Int)))=true then(if(0≤s3.1)then(if(s3.1 < (y1.2.length:Int))then(Option.bind ((if 0≤s2.1 then(if s2.1 < (s3.2.1.length:Int)then((m33 a0 (s3.2.1.getD s2.1.toNat default).Leaf (y1.2.getD s3.1.toNat default)).bind fun r12_0=>some r12_0)else none)else none)) fun(x12:((List Int)))=>(if(!((x12.length:Int) != (1:Int)))=true→((0:Int)≤(0:Int))then(if(!((x12.length:Int) != (1:Int)))=true→(0 < (x12.length:Int))then(if(!((x12.length:Int) != (1:Int)))=true→(Tryz.prog=Tryz.prog)then(if(!((x12.length:Int) != (1:Int)))=true→((Lit.int .i64 (x12.getD (0:Int).toNat default)).wf=true)then(if(((x12.length:Int) != (1:Int)) || ((s3.2.2.2.2.2 (encK (x12.getD (0:Int).toNat default))).getD 0 != 0))=true then(some (.inl ((IntKind.wrap .i64 (s3.1+1)),s3.2.1,s3.2.2.1,s3.2.2.2.1,s3.2.2.2.2.1,s3.2.2.2.2.2)))else(if((0:Int)≤(0:Int))then(if(0 < (x12.length:Int))then(if((Lit.int .i64 (x12.getD (0:Int).toNat default)).wf=true)then(if(s3.2.2.2.2.1 < maxLen)then(Option.bind ((if 0≤s2.1 then(if s2.1 < (s3.2.1.length:Int)then(if(0:Int)≤(0:Int)then(if 0 < (x12.length:Int)then((m58 a0 (s3.2.1.getD s2.1.toNat default) (x12.getD (0:Int).toNat default)).bind fun r15_0=>some r15_0)else none)else none)else none)else none)) fun(x15:((T41×(List (List UInt8))×Int)))=>(Option.bind (((if(!(x15.2.2 != 0))=true then m118 s3.2.1 x15.1 else some default).bind fun r16_0=>some r16_0)) fun(x16:(Int))=>(if((x15.2.2 != 0) || (decide (0≤x16)))=true then(some (.inl ((IntKind.wrap .i64 (s3.1+1)),s3.2.1,s3.2.2.1,s3.2.2.2.1,(s3.2.2.2.2.1+1),(fun q=>if q=(encK (x12.getD (0:Int).toNat default))then some (if true=true then(1:Int)else 0)else s3.2.2.2.2.2 q))))else(if((s3.2.1.length:Int)==(400:Int))=true then(some (.inr (.inr (.inr (.inr ((3:Int)))))))else(if((s3.2.1.length+1) * 32≤140737488355328)then(if((s3.2.2.1.length+1) * 8≤140737488355328)then(if((s3.2.2.2.1.length+1) * 2≤140737488355328)then(some (.inl ((IntKind.wrap .i64 (s3.1+1)),(s3.2.1++([x15.1]:List T41)),(s3.2.2.1++([s2.1]:List Int)),(s3.2.2.2.1++([(y1.2.getD s3.1.toNat default)]:List Int)),(s3.2.2.2.2.1+1),(fun q=>if q=(encK (x12.getD (0:Int).toNat default))then some (if true=true then(1:Int)else 0)else s3.2.2.2.2.2 q))))else none)else none)else none)))))else none)else none)else none)else none))else none)else none)else none)else none))else none)else none)else(some (.inr (.inl (s3.2.1,s3.2.2.1,s3.2.2.2.1))))):Option ((Int×(List T41)×(List Int)×(List Int)×Nat×(List UInt8→Option Int))⊕(((List T41)×(List Int)×(List Int))⊕((Int×(List T41)×(List Int)×(List Int))⊕(((List T41)×(List Int)×(List Int))⊕(Int))))))) ((0:Int),s2.2.1,s2.2.2.1,s2.2.2.2,0,(fun _=>none))))) (onS fun(y4:(List T41)×(List Int)×(List Int))=>(some (.inl ((IntKind.wrap .i64 (s2.1+1)),y4.1,y4.2.1,y4.2.2))))))):Option ((Int×(List T41)×(List Int)×(List Int))⊕(((List T41)×(List Int)×(List Int))⊕(Int))))) ((0:Int),y1.1,([(-1:Int)]:List Int),([(0:Int)]:List Int))))) (onS fun(y5:(List T41)×(List Int)×(List Int))=>none)))):Option (Int)):=by kernel_rfl
theorem M68o2 (a0:T27):m68o2 a0=((Option.bind (Option.bind (Option.bind (m14o0 a0) fun r=>some r) fun x1=>(if(x1.1 != 0)=true then none else(Option.bind (Option.bind (m117 a0) fun r=>some r) fun x4=>(some (.inl (([(⟨x1.2.2.1,x1.2.2.2⟩:T41)]:List T41),x4)))))) (onS fun(y1:(List T41)×(List Int))=>(Option.bind (Option.bind (some (.inl ())) (onS fun(_:Unit)=>(loopO (fun(s2:Int×(List T41)×(List Int)×(List Int))=>((Option.bind (if(decide (s2.1 < (s2.2.1.length:Int)))=true then(some (.inl ()))else(some (.inr (.inr (.inl (s2.2.1,s2.2.2.1,s2.2.2.2)))))) (onS fun(_:Unit)=>(Option.bind (Option.bind (some (.inl ())) (onS fun(_:Unit)=>(loopO (fun(s3:Int×(List T41)×(List Int)×(List Int)×Nat×(List UInt8→Option Int))=>((if(decide (s3.1 < (y1.2.length:Int)))=true then(if(0≤s3.1)then(if(s3.1 < (y1.2.length:Int))then(Option.bind ((if 0≤s2.1 then(if s2.1 < (s3.2.1.length:Int)then((m33 a0 (s3.2.1.getD s2.1.toNat default).Leaf (y1.2.getD s3.1.toNat default)).bind fun r12_0=>some r12_0)else none)else none)) fun(x12:((List Int)))=>(if(!((x12.length:Int) != (1:Int)))=true→((0:Int)≤(0:Int))then(if(!((x12.length:Int) != (1:Int)))=true→(0 < (x12.length:Int))then(if(!((x12.length:Int) != (1:Int)))=true→(Tryz.prog=Tryz.prog)then(if(!((x12.length:Int) != (1:Int)))=true→((Lit.int .i64 (x12.getD (0:Int).toNat default)).wf=true)then(if(((x12.length:Int) != (1:Int)) || ((s3.2.2.2.2.2 (encK (x12.getD (0:Int).toNat default))).getD 0 != 0))=true then(some (.inl ((IntKind.wrap .i64 (s3.1+1)),s3.2.1,s3.2.2.1,s3.2.2.2.1,s3.2.2.2.2.1,s3.2.2.2.2.2)))else(if((0:Int)≤(0:Int))then(if(0 < (x12.length:Int))then(if((Lit.int .i64 (x12.getD (0:Int).toNat default)).wf=true)then(if(s3.2.2.2.2.1 < maxLen)then(Option.bind ((if 0≤s2.1 then(if s2.1 < (s3.2.1.length:Int)then(if(0:Int)≤(0:Int)then(if 0 < (x12.length:Int)then((m58 a0 (s3.2.1.getD s2.1.toNat default) (x12.getD (0:Int).toNat default)).bind fun r15_0=>some r15_0)else none)else none)else none)else none)) fun(x15:((T41×(List (List UInt8))×Int)))=>(Option.bind (((if(!(x15.2.2 != 0))=true then m118 s3.2.1 x15.1 else some default).bind fun r16_0=>some r16_0)) fun(x16:(Int))=>(if((x15.2.2 != 0) || (decide (0≤x16)))=true then(some (.inl ((IntKind.wrap .i64 (s3.1+1)),s3.2.1,s3.2.2.1,s3.2.2.2.1,(s3.2.2.2.2.1+1),(fun q=>if q=(encK (x12.getD (0:Int).toNat default))then some (if true=true then(1:Int)else 0)else s3.2.2.2.2.2 q))))else(if((s3.2.1.length:Int)==(400:Int))=true then none else(if((s3.2.1.length+1) * 32≤140737488355328)then(if((s3.2.2.1.length+1) * 8≤140737488355328)then(if((s3.2.2.2.1.length+1) * 2≤140737488355328)then(some (.inl ((IntKind.wrap .i64 (s3.1+1)),(s3.2.1++([x15.1]:List T41)),(s3.2.2.1++([s2.1]:List Int)),(s3.2.2.2.1++([(y1.2.getD s3.1.toNat default)]:List Int)),(s3.2.2.2.2.1+1),(fun q=>if q=(encK (x12.getD (0:Int).toNat default))then some (if true=true then(1:Int)else 0)else s3.2.2.2.2.2 q))))else none)else none)else none)))))else none)else none)else none)else none))else none)else none)else none)else none))else none)else none)else(some (.inr (.inl (s3.2.1,s3.2.2.1,s3.2.2.2.1))))):Option ((Int×(List T41)×(List Int)×(List Int)×Nat×(List UInt8→Option Int))⊕(((List T41)×(List Int)×(List Int))⊕((Int×(List T41)×(List Int)×(List Int))⊕(((List T41)×(List Int)×(List Int))⊕((List T41)×(List Int)×(List Int)×(List Int)))))))) ((0:Int),s2.2.1,s2.2.2.1,s2.2.2.2,0,(fun _=>none))))) (onS fun(y4:(List T41)×(List Int)×(List Int))=>(some (.inl ((IntKind.wrap .i64 (s2.1+1)),y4.1,y4.2.1,y4.2.2))))))):Option ((Int×(List T41)×(List Int)×(List Int))⊕(((List T41)×(List Int)×(List Int))⊕((List T41)×(List Int)×(List Int)×(List Int)))))) ((0:Int),y1.1,([(-1:Int)]:List Int),([(0:Int)]:List Int))))) (onS fun(y5:(List T41)×(List Int)×(List Int))=>(some (y5.1,y5.2.1,y5.2.2,y1.2)))))):Option ((List T41)×(List Int)×(List Int)×(List Int))):=by kernel_rfl
theorem enab_one {c:T27} (hc:checkM c=some 0) {g:T41} (hg:validS c g=true) {v:Int} (ha:allowedS c v=true):stepO c g v=if((((enabledS c g.Leaf v).length:Int))==1)=true then some (fireR c g ((enabledS c g.Leaf v).getD 0 default)).1 else none:=by
 unfold stepO stepM
 simp only[hc,Option.bind_some,bne_self,hg,ha,Bool.not_true,Bool.false_eq_true,if_false]
 by_cases h1:(((enabledS c g.Leaf v).length:Int)==1)=true
 ·have h0:(((enabledS c g.Leaf v).length:Int)==0)=false:=by
   have:((enabledS c g.Leaf v).length:Int)=1:=by simpa using h1
   rw[this];rfl
  simp only[h0,h1,Bool.false_eq_true,if_false,if_true,Option.bind_some];rfl
 ·have h1':=Bool.eq_false_iff.2 h1
  simp only[h1',Bool.false_eq_true,if_false]
  by_cases h0:(((enabledS c g.Leaf v).length:Int)==0)=true
  ·simp only[h0,if_true,Option.bind_some];rfl
  ·have h0':=Bool.eq_false_iff.2 h0
   simp only[h0',Bool.false_eq_true,if_false,Option.bind_some];rfl
def DoneP (c:T27) (g:T41) (s:SS) (f:List UInt8→Option Int):Prop:=∀ t:Int,((f (encK t)).getD 0 != 0)=true→hasC s.1 (fireR c g t).1=true
theorem fire_at {c:T27} (H:Fit c) (hc:checkM c=some 0) {g:T41} (hg:validS c g=true) {v:Int} (h1:(((enabledS c g.Leaf v).length:Int)==1)=true):m58 c g ((enabledS c g.Leaf v).getD 0 default)=some (fireR c g ((enabledS c g.Leaf v).getD 0 default)):=by
 have hl:0 < (enabledS c g.Leaf v).length:=by
  have:((enabledS c g.Leaf v).length:Int)=1:=by simpa using h1
  omega
 obtain⟨i,hi,hx,hon⟩:=enabled_at hl
 rw[fire_err H,hx]
 have hn:(decide ((i:Int) < 0) || decide ((c.Transitions.length:Int)≤(i:Int)))=false:=by
  simp only[Bool.or_eq_false_iff,decide_eq_false_iff_not];omega
 simp only[hc,Option.bind_some,bne_self,hg,hn,Int.toNat_natCast,hon,Bool.not_true,Bool.false_eq_true,if_false]
 rfl
end Go.Av
set_option maxRecDepth 100000
namespace Go.Av
open Ch Go.Proofs
theorem hasC_app {l k:List T41} {g:T41} (h:hasC l g=true):hasC (l++k) g=true:=by
 rw[hasC_iff]at h ⊢
 exact List.mem_append_left _ h
theorem DoneP.same {c:T27} {g:T41} {s:SS} {f:List UInt8→Option Int} (h:DoneP c g s f) {t:Int} (ht:hasC s.1 (fireR c g t).1=true):DoneP c g s (fun q=>if q=encK t then some (if true=true then(1:Int)else 0)else f q):=fun u hu=>by
 by_cases e:u=t
 ·rw[e];exact ht
 ·have:encK u≠encK t:=fun k=>e (encK_inj k)
  simp only[this,if_false]at hu
  exact h u hu
theorem DoneP.more {c:T27} {g:T41} {s:SS} {f:List UInt8→Option Int} (h:DoneP c g s f) {t:Int} {fr bv:List Int}:DoneP c g (s.1++[(fireR c g t).1],fr,bv) (fun q=>if q=encK t then some (if true=true then(1:Int)else 0)else f q):=fun u hu=>by
 by_cases e:u=t
 ·rw[e];rw[hasC_iff];simp
 ·have:encK u≠encK t:=fun k=>e (encK_inj k)
  simp only[this,if_false]at hu
  exact hasC_app (h u hu)
theorem wf_small {i:Nat} (h:i < 1000000):(Lit.int .i64 (i:Int)).wf=true:=by
 simp[Lit.wf,IntKind.min,IntKind.max,IntKind.signed,IntKind.bits];omega
theorem srchE_eq {c : T27} (H : Fit c) (hn : c.Conds.length ≤ 12) : m68o1 c = (checkM c).bind fun e => if (e != 0) = true then some e else match searchS c with | some s => none | none => some 3 := by
  obtain ⟨e, he⟩ := checkM_some c
  have h1 := numV_pos c
  have h2 := numV_le hn
  have hv2 := valsA_len (c := c)
  have q1 := Start_eq c H
  have q2 := allowedL_eq H hn
  have q3 : ∀ (leaf v : Int), m33 c leaf v = some (enabledS c leaf v) := Enabled_eq c H
  have q4 : ∀ (l : List T41) (g : T41), Short l → l.length ≤ 1000000 → m118 l g = some (findC l g) := find_eq
  have q5 : checkM c = some 0 → ∀ (g : T41) (v : Int), validS c g = true → (((enabledS c g.Leaf v).length : Int) == 1) = true → m58 c g ((enabledS c g.Leaf v).getD 0 default) = some (fireR c g ((enabledS c g.Leaf v).getD 0 default)) := fun hc g v hg h => fire_at H hc hg h
  simp only [M68o1, bind_id, q1, q2]
  generalize m33 = F1 at q3 ⊢
  generalize m118 = F2 at q4 ⊢
  generalize m58 = F3 at q5 ⊢
  unfold startM
  by_cases h0 : (e != 0) = true
  · simp only [he, bs, h0, if_true, or_, bn]
  · have h0 := Bool.eq_false_iff.2 h0
    have e0 : e = 0 := by simpa using h0
    subst e0
    simp only [he, bs, h0, Bool.false_eq_true, if_false, ol, bne_self]
    have q5 := q5 he
    have I0 := beg_inv H he
    refine bind_eq (srch_loop H (fun i s => ((i : Int), s.1, s.2.1, s.2.2)) (fun s => .inl (s.1, s.2.1, s.2.2)) (some (.inr (3 : Int))) (fun i s I hi => ?_) (fun s I => ?_) 402 0 _ I0 (by omega) (by omega)) ?_
    · have hi' : (i : Int) < (s.1.length : Int) := by omega
      simp only [hi', decide_true, if_true, bs, ol]
      have hg : validS c (s.1.getD i default) = true := I.ok _ (getD_mem hi)
      refine bind_eq (done_loop H (i := i) (fun s => .inl (s.1, s.2.1, s.2.2)) (some (.inr (.inr (.inr (3 : Int))))) (valsA c) (fun t f => t.1.getD i default = s.1.getD i default ∧ DoneP c (s.1.getD i default) t f) (fun k s' n f hk I' hi'' hn' hP => ?_) (fun s n f I => ?_) I hi (fun _ => none) ⟨rfl, fun t ht => by simp at ht⟩) ?_
      · generalize s.1.getD i default = g at hg hP
        obtain ⟨hP1, hP2⟩ := hP
        obtain ⟨vn, hvn, hve, hall⟩ := valsA_mem.1 (getD_mem hk)
        obtain ⟨v, hvd⟩ : ∃ v, v = (valsA c).getD k default := ⟨_, rfl⟩
        rw [← hvd] at hve hall ⊢
        have b1 := I'.le
        have b2 := I'.l1
        have b3 := I'.l2
        have hb1 := enab_one he hg hall
        have w2 : IntKind.wrap .i64 ((k : Int) + 1) = ((k + 1 : Nat) : Int) := by rw [w64 (by omega) (by omega)]; omega
        have c1 : ((s'.1.length + 1) * 32 ≤ 140737488355328) = True := eq_true (by omega)
        have c2 : ((s'.2.1.length + 1) * 8 ≤ 140737488355328) = True := eq_true (by omega)
        have c3 : ((s'.2.2.length + 1) * 2 ≤ 140737488355328) = True := eq_true (by omega)
        have c4 : (n < maxLen) = True := eq_true (by unfold maxLen; omega)
        have c5 : ((0 : Int) ≤ (0 : Int)) = True := eq_true (by omega)
        unfold visit
        rw [hP1, hb1]
        simp only [inL hk, inL hi'', decide_true, if_true, Int.toNat_natCast, hP1, q3, bs, w2, c5, ← hvd]
        by_cases hl : (((enabledS c g.Leaf v).length : Int) == 1) = true
        · have hl2 : (((enabledS c g.Leaf v).length : Int) != 1) = false := by simpa using hl
          have hl3 : (0 < ((enabledS c g.Leaf v).length : Int)) = True := eq_true (by have : ((enabledS c g.Leaf v).length : Int) = 1 := by simpa using hl
                                                                                      omega)
          have hf := q5 g v hg hl
          obtain ⟨t, ht⟩ : ∃ t, t = (enabledS c g.Leaf v).getD 0 default := ⟨_, rfl⟩
          obtain ⟨ti, hti, htx, _⟩ := enabled_at (c := c) (leaf := g.Leaf) (v := v) (by have : ((enabledS c g.Leaf v).length : Int) = 1 := by simpa using hl
                                                                                        omega)
          have htr := H.trans
          rw [← ht] at htx hf
          have hwf : ((Lit.int .i64 t).wf = true) = True := eq_true (by rw [htx]; exact wf_small (by omega))
          simp only [hl, hl2, hl3, hwf, c4, c5, if_true, Bool.not_false, true_implies, Bool.false_or, Int.toNat_zero, ← ht, hf, bs]
          by_cases hd : ((f (encK t)).getD 0 != 0) = true
          · have hh := hP2 t hd
            refine ⟨n, f, by omega, fun s'' hs'' => ?_, ?_⟩
            · unfold addS at hs''
              rw [if_pos hh] at hs''
              injection hs'' with hs''
              subst hs''
              exact ⟨hP1, hP2⟩
            · unfold addS
              rw [if_pos hh]
              simp only [hd, if_true]; rfl
          · have hd := Bool.eq_false_iff.2 hd
            have e1 : ((fireR c g t).2.2 != 0) = false := rfl
            have hfd := q4 s'.1 (fireR c g t).1 (I'.short H) (by omega)
            refine ⟨n + 1, fun q => if q = encK t then some (if true = true then (1 : Int) else 0) else f q, by omega, fun s'' hs'' => ?_, ?_⟩
            · unfold addS at hs''
              split at hs''
              · rename_i hh
                injection hs'' with hs''
                subst hs''
                exact ⟨hP1, hP2.same hh⟩
              · split at hs''
                · cases hs''
                · injection hs'' with hs''
                  subst hs''
                  exact ⟨by rw [getD_app hi'']; exact hP1, hP2.more⟩
            · simp only [hd, e1, hfd, bs, Bool.false_eq_true, if_false, Bool.not_false, if_true, Bool.false_or, find_in]
              unfold addS
              cases hh : hasC s'.1 (fireR c g t).1 with
              | true => simp only [if_true]; rfl
              | false =>
                simp only [Bool.false_eq_true, if_false]
                by_cases h4 : s'.1.length = 400
                · have d2 : ((s'.1.length : Int) == (400 : Int)) = true := by simp; omega
                  simp only [d2, h4, if_true]; rfl
                · have d2 : ((s'.1.length : Int) == (400 : Int)) = false := by simp; omega
                  simp only [d2, h4, c1, c2, c3, Bool.false_eq_true, if_false, if_true]; rfl
        · have hl2 : (((enabledS c g.Leaf v).length : Int) != 1) = true := by simpa using hl
          have hl := Bool.eq_false_iff.2 hl
          refine ⟨n, f, by omega, fun s'' hs'' => ?_, ?_⟩
          · simp only [hl, Bool.false_eq_true, if_false] at hs''
            injection hs'' with hs''
            subst hs''
            exact ⟨hP1, hP2⟩
          · simp only [hl, hl2, Bool.not_true, Bool.false_eq_true, false_implies, if_true, if_false, Bool.true_or]; rfl
      · simp only [lt_irr, decide_false, Bool.false_eq_true, if_false]
      · rw [rnd_vals]
        cases hr : rnd c i (allV c) s with
        | none => rfl
        | some s' =>
          have w2 : IntKind.wrap .i64 ((i : Int) + 1) = ((i + 1 : Nat) : Int) := by
            have := I.le
            rw [w64 (by omega) (by omega)]; omega
          simp only [endS, bs, ol, w2]; rfl
    · simp only [lt_irr, decide_false, Bool.false_eq_true, if_false, bs, or_]
    · unfold searchS
      cases srch c 402 0 (begS ⟨(startS c).1, (startS c).2.1⟩) with
      | some s => rfl
      | none => rfl
theorem srchR_eq {c : T27} (H : Fit c) (hn : c.Conds.length ≤ 12) : m68o2 c = (checkM c).bind fun e => if (e != 0) = true then none else match searchS c with | some s => some (s.1, s.2.1, s.2.2, valsA c) | none => none := by
  obtain ⟨e, he⟩ := checkM_some c
  have h1 := numV_pos c
  have h2 := numV_le hn
  have hv2 := valsA_len (c := c)
  have q1 := Start_eq c H
  have q2 := allowedL_eq H hn
  have q3 : ∀ (leaf v : Int), m33 c leaf v = some (enabledS c leaf v) := Enabled_eq c H
  have q4 : ∀ (l : List T41) (g : T41), Short l → l.length ≤ 1000000 → m118 l g = some (findC l g) := find_eq
  have q5 : checkM c = some 0 → ∀ (g : T41) (v : Int), validS c g = true → (((enabledS c g.Leaf v).length : Int) == 1) = true → m58 c g ((enabledS c g.Leaf v).getD 0 default) = some (fireR c g ((enabledS c g.Leaf v).getD 0 default)) := fun hc g v hg h => fire_at H hc hg h
  simp only [M68o2, bind_id, q1, q2]
  generalize m33 = F1 at q3 ⊢
  generalize m118 = F2 at q4 ⊢
  generalize m58 = F3 at q5 ⊢
  unfold startM
  by_cases h0 : (e != 0) = true
  · simp only [he, bs, h0, if_true, or_, bn]
  · have h0 := Bool.eq_false_iff.2 h0
    have e0 : e = 0 := by simpa using h0
    subst e0
    simp only [he, bs, h0, Bool.false_eq_true, if_false, ol, bne_self]
    have q5 := q5 he
    have I0 := beg_inv H he
    refine bind_eq (srch_loop H (fun i s => ((i : Int), s.1, s.2.1, s.2.2)) (fun s => .inl (s.1, s.2.1, s.2.2)) none (fun i s I hi => ?_) (fun s I => ?_) 402 0 _ I0 (by omega) (by omega)) ?_
    · have hi' : (i : Int) < (s.1.length : Int) := by omega
      simp only [hi', decide_true, if_true, bs, ol]
      have hg : validS c (s.1.getD i default) = true := I.ok _ (getD_mem hi)
      refine bind_eq (done_loop H (i := i) (fun s => .inl (s.1, s.2.1, s.2.2)) none (valsA c) (fun t f => t.1.getD i default = s.1.getD i default ∧ DoneP c (s.1.getD i default) t f) (fun k s' n f hk I' hi'' hn' hP => ?_) (fun s n f I => ?_) I hi (fun _ => none) ⟨rfl, fun t ht => by simp at ht⟩) ?_
      · generalize s.1.getD i default = g at hg hP
        obtain ⟨hP1, hP2⟩ := hP
        obtain ⟨vn, hvn, hve, hall⟩ := valsA_mem.1 (getD_mem hk)
        obtain ⟨v, hvd⟩ : ∃ v, v = (valsA c).getD k default := ⟨_, rfl⟩
        rw [← hvd] at hve hall ⊢
        have b1 := I'.le
        have b2 := I'.l1
        have b3 := I'.l2
        have hb1 := enab_one he hg hall
        have w2 : IntKind.wrap .i64 ((k : Int) + 1) = ((k + 1 : Nat) : Int) := by rw [w64 (by omega) (by omega)]; omega
        have c1 : ((s'.1.length + 1) * 32 ≤ 140737488355328) = True := eq_true (by omega)
        have c2 : ((s'.2.1.length + 1) * 8 ≤ 140737488355328) = True := eq_true (by omega)
        have c3 : ((s'.2.2.length + 1) * 2 ≤ 140737488355328) = True := eq_true (by omega)
        have c4 : (n < maxLen) = True := eq_true (by unfold maxLen; omega)
        have c5 : ((0 : Int) ≤ (0 : Int)) = True := eq_true (by omega)
        unfold visit
        rw [hP1, hb1]
        simp only [inL hk, inL hi'', decide_true, if_true, Int.toNat_natCast, hP1, q3, bs, w2, c5, ← hvd]
        by_cases hl : (((enabledS c g.Leaf v).length : Int) == 1) = true
        · have hl2 : (((enabledS c g.Leaf v).length : Int) != 1) = false := by simpa using hl
          have hl3 : (0 < ((enabledS c g.Leaf v).length : Int)) = True := eq_true (by have : ((enabledS c g.Leaf v).length : Int) = 1 := by simpa using hl
                                                                                      omega)
          have hf := q5 g v hg hl
          obtain ⟨t, ht⟩ : ∃ t, t = (enabledS c g.Leaf v).getD 0 default := ⟨_, rfl⟩
          obtain ⟨ti, hti, htx, _⟩ := enabled_at (c := c) (leaf := g.Leaf) (v := v) (by have : ((enabledS c g.Leaf v).length : Int) = 1 := by simpa using hl
                                                                                        omega)
          have htr := H.trans
          rw [← ht] at htx hf
          have hwf : ((Lit.int .i64 t).wf = true) = True := eq_true (by rw [htx]; exact wf_small (by omega))
          simp only [hl, hl2, hl3, hwf, c4, c5, if_true, Bool.not_false, true_implies, Bool.false_or, Int.toNat_zero, ← ht, hf, bs]
          by_cases hd : ((f (encK t)).getD 0 != 0) = true
          · have hh := hP2 t hd
            refine ⟨n, f, by omega, fun s'' hs'' => ?_, ?_⟩
            · unfold addS at hs''
              rw [if_pos hh] at hs''
              injection hs'' with hs''
              subst hs''
              exact ⟨hP1, hP2⟩
            · unfold addS
              rw [if_pos hh]
              simp only [hd, if_true]; rfl
          · have hd := Bool.eq_false_iff.2 hd
            have e1 : ((fireR c g t).2.2 != 0) = false := rfl
            have hfd := q4 s'.1 (fireR c g t).1 (I'.short H) (by omega)
            refine ⟨n + 1, fun q => if q = encK t then some (if true = true then (1 : Int) else 0) else f q, by omega, fun s'' hs'' => ?_, ?_⟩
            · unfold addS at hs''
              split at hs''
              · rename_i hh
                injection hs'' with hs''
                subst hs''
                exact ⟨hP1, hP2.same hh⟩
              · split at hs''
                · cases hs''
                · injection hs'' with hs''
                  subst hs''
                  exact ⟨by rw [getD_app hi'']; exact hP1, hP2.more⟩
            · simp only [hd, e1, hfd, bs, Bool.false_eq_true, if_false, Bool.not_false, if_true, Bool.false_or, find_in]
              unfold addS
              cases hh : hasC s'.1 (fireR c g t).1 with
              | true => simp only [if_true]; rfl
              | false =>
                simp only [Bool.false_eq_true, if_false]
                by_cases h4 : s'.1.length = 400
                · have d2 : ((s'.1.length : Int) == (400 : Int)) = true := by simp; omega
                  simp only [d2, h4, if_true]; rfl
                · have d2 : ((s'.1.length : Int) == (400 : Int)) = false := by simp; omega
                  simp only [d2, h4, c1, c2, c3, Bool.false_eq_true, if_false, if_true]; rfl
        · have hl2 : (((enabledS c g.Leaf v).length : Int) != 1) = true := by simpa using hl
          have hl := Bool.eq_false_iff.2 hl
          refine ⟨n, f, by omega, fun s'' hs'' => ?_, ?_⟩
          · simp only [hl, Bool.false_eq_true, if_false] at hs''
            injection hs'' with hs''
            subst hs''
            exact ⟨hP1, hP2⟩
          · simp only [hl, hl2, Bool.not_true, Bool.false_eq_true, false_implies, if_true, if_false, Bool.true_or]; rfl
      · simp only [lt_irr, decide_false, Bool.false_eq_true, if_false]
      · rw [rnd_vals]
        cases hr : rnd c i (allV c) s with
        | none => rfl
        | some s' =>
          have w2 : IntKind.wrap .i64 ((i : Int) + 1) = ((i + 1 : Nat) : Int) := by
            have := I.le
            rw [w64 (by omega) (by omega)]; omega
          simp only [endS, bs, ol, w2]; rfl
    · simp only [lt_irr, decide_false, Bool.false_eq_true, if_false, bs, or_]
    · unfold searchS
      cases srch c 402 0 (begS ⟨(startS c).1, (startS c).2.1⟩) with
      | some s => rfl
      | none => rfl
end Go.Av
set_option maxRecDepth 100000
namespace Go.Av
open Ch Go.Proofs
structure Tiny (c:T27):Prop where
 fit:Fit c
 conds:c.Conds.length≤3
 states:c.States.length≤7
 trans:c.Transitions.length≤14
theorem srch_inv {c:T27} (H:Fit c):∀ {n i:Nat} {s s':SS},Inv c s→srch c n i s=some s'→Inv c s'
 | 0,_,_,_,_,h=>by cases h
 | n+1,i,s,s',I,h=>by
  unfold srch at h
  split at h
  ·rw[Option.bind_eq_some_iff]at h
   obtain⟨t,h1,h2⟩:=h
   exact srch_inv H (rnd_inv H I h1).1 h2
  ·injection h with h;subst h;exact I
theorem searchS_inv {c:T27} (H:Fit c) (hc:checkM c=some 0) {s:SS} (h:searchS c=some s):Inv c s:=srch_inv H (beg_inv H hc) h
end Go.Av
set_option maxRecDepth 100000
namespace Go.Av
open Ch Go.Proofs
theorem getD_end {α:Type} [Inhabited α] {l:List α} {x:α} {n:Nat} (h:n=l.length):(l++[x]).getD n default=x:=by
 subst h;simp[List.getD_eq_getElem?_getD]
structure Wy (c:T27) (g0:T41) (s:SS):Prop where
 i0:s.1.getD 0 default=g0
 f0:s.2.1.getD 0 default = -1
 w:∀ k,0 < k→k < s.1.length→∃ j v:Nat,j < k∧s.2.1.getD k default=(j:Int)∧v < numV c∧s.2.2.getD k default=(v:Int)∧stepO c (s.1.getD j default) (v:Int)=some (s.1.getD k default)
 nd:s.1.Nodup
theorem beg_wy (c:T27) (g:T41):Wy c g (begS g):=⟨rfl,rfl,fun k h1 h2=>by simp only[begS,List.length_cons,List.length_nil]at h2;omega,by simp[begS]⟩
theorem visit_wy {c:T27} {g0:T41} {i v:Nat} {s s':SS} (I:Inv c s) (W:Wy c g0 s) (hi:i < s.1.length) (hv:v < numV c) (hs:visit c i s (v:Int)=some s'):Wy c g0 s':=by
 unfold visit at hs
 split at hs
 ·injection hs with hs;subst hs;exact W
 ·rename_i h he
  unfold addS at hs
  split at hs
  ·injection hs with hs;subst hs;exact W
  ·rename_i hh
   split at hs
   ·cases hs
   ·injection hs with hs
    subst hs
    have l1:=I.l1
    have l2:=I.l2
    have pos:=I.pos
    refine⟨?_,?_,fun k h1 h2=>?_,?_⟩
    ·show (s.1++[h]).getD 0 default=g0
     rw[getD_app pos];exact W.i0
    ·show (s.2.1++[(i:Int)]).getD 0 default = -1
     rw[getD_app (by omega)];exact W.f0
    ·simp only[List.length_append,List.length_cons,List.length_nil]at h2
     show ∃ j v':Nat,j < k∧(s.2.1++[(i:Int)]).getD k default=(j:Int)∧v' < numV c∧(s.2.2++[(v:Int)]).getD k default=(v':Int)∧stepO c ((s.1++[h]).getD j default) (v':Int)=some ((s.1++[h]).getD k default)
     by_cases hk:k < s.1.length
     ·obtain⟨j,v',q1,q2,q3,q4,q5⟩:=W.w k h1 hk
      refine⟨j,v',q1,?_,q3,?_,?_⟩
      ·rw[getD_app (by omega)];exact q2
      ·rw[getD_app (by omega)];exact q4
      ·rw[getD_app (by omega),getD_app hk];exact q5
     ·obtain rfl:k=s.1.length:=by omega
      refine⟨i,v,hi,?_,hv,?_,?_⟩
      ·rw[getD_end l1.symm]
      ·rw[getD_end l2.symm]
      ·rw[getD_app hi,getD_end rfl];exact he
    ·show (s.1++[h]).Nodup
     rw[List.nodup_append]
     refine⟨W.nd,by simp,fun a ha b hb=>?_⟩
     simp only[List.mem_singleton]at hb
     subst hb
     rintro rfl
     exact hh (hasC_iff.2 ha)
theorem rnd_wy {c:T27} (H:Fit c) {g0:T41} {i:Nat}:∀ {l:List Int} {s s':SS},(∀ v∈l,∃ n:Nat,v=n∧n < numV c)→Inv c s→Wy c g0 s→i < s.1.length→rnd c i l s=some s'→Wy c g0 s'
 | [],s,s',_,_,W,_,hs=>by injection hs with hs;subst hs;exact W
 | v :: l,s,s',hl,I,W,hi,hs=>by
  unfold rnd at hs
  rw[Option.bind_eq_some_iff]at hs
  obtain⟨t,h1,h2⟩:=hs
  obtain⟨n,rfl,hn⟩:=hl v (by simp)
  obtain⟨I1,k1⟩:=visit_inv H I h1
  exact rnd_wy H (fun w hw=>hl w (by simp[hw])) I1 (visit_wy I W hi hn h1) (by omega) h2
theorem allV_mem {c:T27} {v:Int}:v∈allV c↔∃ n:Nat,v=n∧n < numV c:=by
 unfold allV
 rw[List.mem_map]
 constructor
 ·rintro⟨n,h,rfl⟩;exact⟨n,rfl,List.mem_range.1 h⟩
 ·rintro⟨n,rfl,h⟩;exact⟨n,List.mem_range.2 h,rfl⟩
theorem srch_wy {c:T27} (H:Fit c) {g0:T41}:∀ {n i:Nat} {s s':SS},Inv c s→Wy c g0 s→srch c n i s=some s'→Wy c g0 s'
 | 0,_,_,_,_,_,h=>by cases h
 | n+1,i,s,s',I,W,h=>by
  unfold srch at h
  split at h
  ·rename_i hi
   rw[Option.bind_eq_some_iff]at h
   obtain⟨t,h1,h2⟩:=h
   exact srch_wy H (rnd_inv H I h1).1 (rnd_wy H (fun v hv=>allV_mem.1 hv) I W hi h1) h2
  ·injection h with h;subst h;exact W
def begG (c:T27):T41:=⟨(startS c).1,(startS c).2.1⟩
theorem searchS_wy {c:T27} (H:Fit c) (hc:checkM c=some 0) {s:SS} (h:searchS c=some s):Wy c (begG c) s:=srch_wy H (beg_inv H hc) (beg_wy c (begG c)) h
theorem visit_mem {c:T27} {i:Nat} {s s':SS} {v:Int} (hs:visit c i s v=some s') {h:T41} (he:stepO c (s.1.getD i default) v=some h):h∈s'.1:=by
 unfold visit at hs
 rw[he]at hs
 simp only at hs
 unfold addS at hs
 split at hs
 ·rename_i hh;injection hs with hs;subst hs;exact hasC_iff.1 hh
 ·split at hs
  ·cases hs
  ·injection hs with hs;subst hs;simp
theorem rnd_get {c:T27} {i:Nat}:∀ {l:List Int} {s s':SS},rnd c i l s=some s'→∃ k,s'.1=s.1++k
 | [],s,s',hs=>by injection hs with hs;subst hs;exact⟨[],by simp⟩
 | v :: l,s,s',hs=>by
  unfold rnd at hs
  rw[Option.bind_eq_some_iff]at hs
  obtain⟨t,h1,h2⟩:=hs
  obtain⟨k1,e1⟩:=visit_get h1
  obtain⟨k2,e2⟩:=rnd_get h2
  exact⟨k1++k2,by rw[e2,e1,List.append_assoc]⟩
theorem rnd_mem {c:T27} {i:Nat}:∀ {l:List Int} {s s':SS},i < s.1.length→rnd c i l s=some s'→∀ v∈l,∀ h,stepO c (s.1.getD i default) v=some h→h∈s'.1
 | [],s,s',_,_,v,hv,_,_=>by cases hv
 | v :: l,s,s',hi,hs,w,hw,h,he=>by
  unfold rnd at hs
  rw[Option.bind_eq_some_iff]at hs
  obtain⟨t,h1,h2⟩:=hs
  obtain⟨k1,e1⟩:=visit_get h1
  have e3:t.1.getD i default=s.1.getD i default:=by rw[e1,getD_app hi]
  rcases List.mem_cons.1 hw with rfl | hw
  ·obtain⟨k2,e2⟩:=rnd_get h2
   rw[e2];exact List.mem_append_left _ (visit_mem h1 he)
  ·exact rnd_mem (by rw[e1];simp;omega) h2 w hw h (by rw[e3];exact he)
def Cl (c:T27) (s:SS) (i:Nat):Prop:=∀ j,j < i→∀ v:Nat,v < numV c→∀ h,stepO c (s.1.getD j default) (v:Int)=some h→h∈s.1
theorem srch_cl {c:T27}:∀ {n i:Nat} {s s':SS},i≤s.1.length→Cl c s i→srch c n i s=some s'→Cl c s' s'.1.length
 | 0,_,_,_,_,_,h=>by cases h
 | n+1,i,s,s',hi,C,h=>by
  unfold srch at h
  split at h
  ·rename_i hlt
   rw[Option.bind_eq_some_iff]at h
   obtain⟨t,h1,h2⟩:=h
   obtain⟨k,e⟩:=rnd_get h1
   refine srch_cl (by rw[e];simp;omega) (fun j hj v hv x hx=>?_) h2
   by_cases hji:j=i
   ·subst hji
    rw[e,getD_app hlt]at hx
    exact rnd_mem hlt h1 v (allV_mem.2 ⟨v,rfl,hv⟩) x hx
   ·rw[e,getD_app (by omega)]at hx
    rw[e];exact List.mem_append_left _ (C j (by omega) v hv x hx)
  ·injection h with h
   subst h
   obtain rfl:i=s.1.length:=by omega
   exact C
theorem searchS_cl {c:T27} {s:SS} (h:searchS c=some s):Cl c s s.1.length:=srch_cl (by simp) (fun j hj=>by omega) h
theorem reach_step {c:T27} {s:SS} (h:searchS c=some s) {g x:T41} (hg:g∈s.1) {v:Nat} (hv:v < numV c) (he:stepO c g (v:Int)=some x):x∈s.1:=by
 obtain⟨j,hj,rfl⟩:=List.getElem_of_mem hg
 exact searchS_cl h j hj v hv x (by simpa [List.getD_eq_getElem?_getD,List.getElem?_eq_getElem hj] using he)
end Go.Av
set_option maxRecDepth 100000
namespace Go.Av
open Ch Go.Proofs
theorem getD_set {l:List Int} {i k:Nat} {a:Int} (hi:i < l.length):(l.set i a).getD k default=if k=i then a else l.getD k default:=by
 simp only[List.getD_eq_getElem?_getD,List.getElem?_set]
 by_cases h:i=k
 ·subst h;simp[hi]
 ·have:¬ k=i:=fun e=>h e.symm
  simp[h,this]
structure Fb (s:SS):Prop where
 le:s.1.length≤400
 l1:s.2.1.length=s.1.length
 l2:s.2.2.length=s.1.length
 pos:0 < s.1.length
 f0:s.2.1.getD 0 default = -1
 w:∀ k,0 < k→k < s.1.length→∃ j:Nat,j < k∧s.2.1.getD k default=(j:Int)
def leafI (s:SS) (leaf:Int):Int:=findR (fun i=>(s.1.getD i default).Leaf==leaf) s.1.length
end Go.Av
set_option maxRecDepth 100000
namespace Go.Av
open Ch Go.Proofs
def reachB (s:SS) (leaf:Int):Bool:=anyR (fun i=>(s.1.getD i default).Leaf==leaf) s.1.length
theorem reachB_iff {s:SS} {leaf:Int}:reachB s leaf=true↔∃ g∈s.1,g.Leaf=leaf:=by
 unfold reachB
 rw[anyR_iff]
 constructor
 ·rintro⟨i,hi,h⟩;exact⟨_,getD_mem hi,by simpa using h⟩
 ·rintro⟨g,hg,h⟩
  obtain⟨i,hi,rfl⟩:=List.getElem_of_mem hg
  exact⟨i,hi,by simpa [List.getD_eq_getElem?_getD,List.getElem?_eq_getElem hi] using h⟩
def finV (c:T27) (leaf kind:Int) (v:Nat):Option T194 :=
 if allowedS c (v:Int)=true then
  if(kind==1&&((enabledS c leaf (v:Int)).length:Int)==0)=true then some ⟨kind,leaf,(v:Int),-1,-1⟩
  else if(kind==2&&decide (1 < ((enabledS c leaf (v:Int)).length:Int)))=true then some ⟨kind,leaf,(v:Int),(enabledS c leaf (v:Int)).getD 0 default,(enabledS c leaf (v:Int)).getD 1 default⟩else none
 else none
def leafFd (c:T27) (leaf kind:Int):Option T194:=firstR (finV c leaf kind) (numV c)
def aliveV (c:T27) (leaf t:Int) (v:Nat):Bool:=allowedS c (v:Int)&&hasK (enabledS c leaf (v:Int)) (enabledS c leaf (v:Int)).length t
def aliveB (c:T27) (leaf t:Int):Bool:=anyR (aliveV c leaf t) (numV c)
end Go.Av
set_option maxRecDepth 100000
namespace Go.Av
open Ch Go.Proofs
def leafA (c:T27) (i:Nat):Int:=(leavesS c).getD i default
def kindG (c:T27) (s:SS) (kind:Int) (i:Nat):List T194:=if reachB s (leafA c i)=true then(leafFd c (leafA c i) kind).toList else[]
def unrG (c:T27) (s:SS) (i:Nat):List T194:=if reachB s (leafA c i)=true then[]else[⟨3,leafA c i,0,-1,-1⟩]
def liveB (c:T27) (s:SS) (t:Nat):Bool:=anyR (fun i=>reachB s (leafA c i)&&aliveB c (leafA c i) (t:Int)) (leavesS c).length
def deadG (c:T27) (s:SS) (t:Nat):List T194:=if liveB c s t=true then[]else[⟨4,-1,0,(t:Int),-1⟩]
def kindL (c:T27) (s:SS) (kind:Int):List T194:=(List.range (leavesS c).length).flatMap (kindG c s kind)
def findS (c:T27) (s:SS):List T194:=kindL c s 1++kindL c s 2++(List.range (leavesS c).length).flatMap (unrG c s)++(List.range c.Transitions.length).flatMap (deadG c s)
theorem kindG_len (c:T27) (s:SS) (kind:Int) (i:Nat):(kindG c s kind i).length≤1:=by
 unfold kindG;split
 ·cases leafFd c (leafA c i) kind<;>simp
 ·simp
theorem unrG_len (c:T27) (s:SS) (i:Nat):(unrG c s i).length≤1:=by unfold unrG;split<;>simp
theorem deadG_len (c:T27) (s:SS) (i:Nat):(deadG c s i).length≤1:=by unfold deadG;split<;>simp
theorem kindL_len (c:T27) (s:SS) (kind:Int):(kindL c s kind).length≤(leavesS c).length:=by
 have:=flatMap_len (kindG_len c s kind) (leavesS c).length
 unfold kindL;omega
theorem loop_app {A St X:Type} {b:St→Option (St⊕X)} (n:Nat) (mk:Nat→List A→St) (g:Nat→List A) (out:List A→X) (pre:List A)
  (hs:∀ i,i < n→b (mk i (pre++(List.range i).flatMap g))=some (.inl (mk (i+1) (pre++(List.range i).flatMap g++g i)))) (he:b (mk n (pre++(List.range n).flatMap g))=some (.inr (out (pre++(List.range n).flatMap g)))) :
  loopO b (mk 0 pre)=some (out (pre++(List.range n).flatMap g)):=by
 have key:∀ k i,i+k=n→loopO b (mk i (pre++(List.range i).flatMap g))=some (out (pre++(List.range n).flatMap g)):=by
  intro k
  induction k with
  | zero =>
   intro i hk
   obtain rfl:i=n:=by omega
   rw[loopO_eq,he];rfl
  | succ k ih =>
   intro i hk
   rw[loopO_eq,hs i (by omega),List.append_assoc,← flatMap_app]
   exact ih (i+1) (by omega)
 have:=key n 0 (by omega)
 simpa using this
def findM (c:T27):Option (List T194×Int):=(checkM c).bind fun e=>if(e != 0)=true then some ([],e)else match searchS c with | some s=>some (findS c s,0) | none=>some ([],3)
theorem leavesS_len {c:T27}:(leavesS c).length≤c.States.length:=by
 have:=flatMap_len (leafG_len c) c.States.length
 unfold leavesS;omega
end Go.Av
set_option maxRecDepth 100000
namespace Go.Av
open Ch Go.Proofs
theorem arr_get {zs:List Int} {j:Nat} (h:j < zs.length):(zs.toArray)[j]! = zs[j]:=by
 rw[getElem!_pos _ _ (by simpa using h)];simp
theorem cmpI_mem {zs:List Int} {x:Int}:x∈cmpI zs↔x∈zs:=by
 unfold cmpI Lib.compact Lib.compactUpTo
 rw[List.mem_map]
 constructor
 ·rintro⟨j,hj,rfl⟩
  have:=List.mem_range.1 (List.mem_filter.1 hj).1
  rw[arr_get this];exact List.getElem_mem _
 ·intro hx
  obtain⟨j,hj,e⟩:=List.getElem_of_mem hx
  -- the first place where it stands
  have key:∀ n j,j≤n→(h:j < zs.length)→∃ k,k < zs.length∧Lib.keeps zs.toArray k=true∧(zs.toArray)[k]! = zs[j]:=by
   intro n
   induction n with
   | zero =>
    intro j h1 h2
    obtain rfl:j=0:=by omega
    exact⟨0,h2,by simp[Lib.keeps],arr_get h2⟩
   | succ n ih =>
    intro j h1 h2
    cases hk:Lib.keeps zs.toArray j with
    | true=>exact⟨j,h2,hk,arr_get h2⟩
    | false =>
     have h3:¬ (j=0):=by rintro rfl;simp[Lib.keeps]at hk
     have h4:(zs.toArray)[j]! = (zs.toArray)[j - 1]! := by
      simp only[Lib.keeps,decide_eq_false_iff_not,not_or,Decidable.not_not]at hk;exact hk.2
     rw[arr_get h2,arr_get (show j - 1 < zs.length by omega)]at h4
     obtain⟨k,k1,k2,k3⟩:=ih (j - 1) (by omega) (by omega)
     exact⟨k,k1,k2,by rw[k3,← h4]⟩
  obtain⟨k,k1,k2,k3⟩:=key j j (Nat.le_refl _) hj
  exact⟨k,List.mem_filter.2 ⟨List.mem_range.2 k1,k2⟩,by rw[k3,e]⟩
theorem cmpI_lt {zs:List Int} (hs:zs.Pairwise (·≤·)):(cmpI zs).Pairwise (· < ·):=by
 unfold cmpI Lib.compact Lib.compactUpTo
 rw[List.pairwise_map]
 have h1:(List.range zs.length).Pairwise (· < ·):=List.pairwise_lt_range
 have h2:=h1.filter (Lib.keeps zs.toArray)
 refine h2.imp_of_mem (fun {a b} ha hb hab=>?_)
 have ha':=List.mem_range.1 (List.mem_filter.1 ha).1
 have hb':=List.mem_range.1 (List.mem_filter.1 hb).1
 have hk:=(List.mem_filter.1 hb).2
 rw[arr_get ha',arr_get hb']
 have h0:b≠0:=by omega
 have h4:(zs.toArray)[b]! ≠ (zs.toArray)[b - 1]! := by
  simp only[Lib.keeps,decide_eq_true_eq]at hk;exact hk.resolve_left h0
 rw[arr_get hb',arr_get (show b - 1 < zs.length by omega)]at h4
 have le:∀ i j,(hi:i < zs.length)→(hj:j < zs.length)→i≤j→zs[i]≤zs[j]:=fun i j hi hj hij=>by
  rcases Nat.eq_or_lt_of_le hij with rfl | h
  ·exact Int.le_refl _
  ·exact List.pairwise_iff_getElem.1 hs i j hi hj h
 have l1:=le a (b - 1) ha' (by omega) (by omega)
 have l2:=le (b - 1) b (by omega) hb' (by omega)
 omega
def lvs (s:SS):List Int:=(List.range s.1.length).flatMap fun i=>[(s.1.getD i default).Leaf]
def rL (c:T27) (s:SS):List Int:=(leavesS c).filter (reachB s)
theorem lvs_mem {s:SS} {x:Int}:x∈lvs s↔reachB s x=true:=by
 unfold lvs reachB
 rw[List.mem_flatMap,anyR_iff]
 constructor
 ·rintro⟨i,h1,h2⟩
  simp only[List.mem_singleton]at h2
  exact⟨i,List.mem_range.1 h1,by rw[h2];simp⟩
 ·rintro⟨i,h1,h2⟩
  exact⟨i,List.mem_range.2 h1,List.mem_singleton.2 (eq_of_beq h2).symm⟩
theorem leavesS_lt (c:T27):(leavesS c).Pairwise (· < ·):=by
 unfold leavesS
 generalize c.States.length=n
 induction n with
 | zero=>simp
 | succ n ih =>
  rw[flatMap_app,List.pairwise_append]
  refine⟨ih,?_,fun a ha b hb=>?_⟩
  ·unfold leafG;split<;>simp
  ·obtain⟨i,h1,h2⟩:=List.mem_flatMap.1 ha
   have:=List.mem_range.1 h1
   unfold leafG at h2 hb
   split at h2
   ·cases h2
   ·split at hb
    ·cases hb
    ·simp only[List.mem_singleton]at h2 hb
     omega
theorem lt_unique {l k:List Int} (h1:l.Pairwise (· < ·)) (h2:k.Pairwise (· < ·)) (h:∀ x,x∈l↔x∈k):l=k:=by
 have n1:l.Nodup:=h1.imp fun h=>by omega
 have n2:k.Nodup:=h2.imp fun h=>by omega
 exact List.Perm.eq_of_pairwise (le:=fun x y:Int=>x≤y) (fun a b _ _ h1 h2=>by omega) (h1.imp fun h=>by omega) (h2.imp fun h=>by omega) ((List.perm_ext_iff_of_nodup n1 n2).2 h)
theorem sorted_leaves {c:T27} {s:SS} (I:Inv c s):cmpI (sortI (lvs s))=rL c s:=by
 refine lt_unique (cmpI_lt (sortI_sorted _)) ((leavesS_lt c).filter _) fun x=>?_
 rw[cmpI_mem,(sortI_perm _).mem_iff,lvs_mem]
 unfold rL
 rw[List.mem_filter]
 constructor
 ·intro h
  refine⟨?_,h⟩
  obtain⟨g,hg,rfl⟩:=reachB_iff.1 h
  have:=validS_iff.1 (I.ok g hg)
  exact leavesS_iff.2 ⟨this.1,this.2.1⟩
 ·exact fun h=>h.2
theorem M119o1 (a0:T27) (a1:List T41) (a2 a3 a4:List Int):m119o1 a0 a1 a2 a3 a4=((Option.bind (some (.inl ())) (onS fun(_:Unit)=>(Option.bind (Option.bind (some (.inl ())) (onS fun(_:Unit)=>(loopO (fun(s1:(List Int)×Int)=>((if(decide (s1.2 < (a1.length:Int)))=true then(if(0≤s1.2)then(if(s1.2 < (a1.length:Int))then(Option.bind ((if(s1.1.length+1) * 8≤140737488355328 then some ()else none)) fun(x5:(Unit))=>(some (.inl ((s1.1++([(a1.getD s1.2.toNat default).Leaf]:List Int)),(IntKind.wrap .i64 (s1.2+1))))))else none)else none)else(some (.inr (.inl s1.1)))):Option (((List Int)×Int)⊕(((List Int))⊕((List Int)))))) (([]:List Int),(0:Int))))) (onS fun(y2:(List Int))=>(Option.bind (Option.bind (msrt y2) fun r=>some r) fun x7=>(Option.bind (Option.bind (mcmp (sortI y2)) fun r=>some r) fun x8=>(some (cmpI (sortI y2))))))))):Option ((List Int))):=by kernel_rfl
theorem sleaves_eq {c:T27} {s:SS} (I:Inv c s) (w:List Int):m119o1 c s.1 s.2.1 s.2.2 w=some (rL c s):=by
 have b1:=I.le
 simp only[M119o1,bind_id,bs,ol]
 refine on_l (loop_coll s.1.length (fun i l=>(l,(i:Int))) (fun i=>[(s.1.getD i default).Leaf]) Sum.inl (fun i hi=>?_) ?_) ?_
 ·have hgl:=flatMap_len (g:=fun i=>[(s.1.getD i default).Leaf]) (m:=1) (fun i=>by simp) i
  have c1:(((List.range i).flatMap fun i=>[(s.1.getD i default).Leaf]).length+1) * 8≤140737488355328:=by omega
  have w2:IntKind.wrap .i64 ((i:Int)+1)=((i+1:Nat):Int):=by rw[w64 (by omega) (by omega)];omega
  simp only[inL hi,decide_true,if_true,Int.toNat_natCast,eq_true c1,bs,w2]
 ·simp only[lt_irr,decide_false,Bool.false_eq_true,if_false]
 ·have hlen:(lvs s).length≤400:=by
   have:=flatMap_len (g:=fun i=>[(s.1.getD i default).Leaf]) (m:=1) (fun i=>by simp) s.1.length
   unfold lvs;omega
  have m1:msrt (lvs s)=some ():=by unfold msrt;rw[if_pos (by omega)]
  have m2:mcmp (sortI (lvs s))=some ():=by unfold mcmp;rw[if_pos (by rw[sortI_len];omega)]
  show (msrt (lvs s)).bind (fun _=>(mcmp (sortI (lvs s))).bind fun _=>some (cmpI (sortI (lvs s))))=_
  rw[m1,Option.bind_some,m2,Option.bind_some,sorted_leaves I]
end Go.Av
set_option maxRecDepth 100000
namespace Go.Av
open Ch Go.Proofs
theorem range_flat {α β:Type} [Inhabited α] (f:α→List β):∀ (l:List α),(List.range l.length).flatMap (fun j=>f (l.getD j default))=l.flatMap f
 | []=>rfl
 | x :: l=>by
  rw[List.length_cons,List.range_succ_eq_map,List.flatMap_cons,List.flatMap_map,List.flatMap_cons]
  congr 1
  exact range_flat f l
theorem filter_flat {α β:Type} (p:α→Bool) (f:α→List β):∀ (l:List α),(l.filter p).flatMap f=l.flatMap fun x=>if p x=true then f x else[]
 | []=>rfl
 | x :: l=>by
  rw[List.flatMap_cons,← filter_flat p f l]
  cases h:p x with
  | true=>rw[List.filter_cons_of_pos (by exact h),List.flatMap_cons,if_pos rfl]
  | false=>rw[List.filter_cons_of_neg (by rw[h];decide),if_neg (by decide),List.nil_append]
theorem firstR_list {α Y:Type} [Inhabited α] (f:α→Option Y) (l:List α):firstR (fun j=>f (l.getD j default)) l.length=l.findSome? f:=by
 unfold firstR
 induction l with
 | nil=>rfl
 | cons x l ih =>
  rw[List.length_cons,List.range_succ_eq_map,List.findSome?_cons,List.findSome?_cons,List.findSome?_map]
  show (match f x with | some b=>some b | none=>_)=_
  cases f x with
  | some b=>rfl
  | none=>exact ih
theorem anyR_list {α:Type} [Inhabited α] (p:α→Bool) (l:List α):anyR (fun j=>p (l.getD j default)) l.length=l.any p:=by
 rw[Bool.eq_iff_iff,anyR_iff,List.any_eq_true]
 constructor
 ·rintro⟨i,hi,h⟩;exact⟨_,getD_mem hi,h⟩
 ·rintro⟨x,hx,h⟩
  obtain⟨i,hi,rfl⟩:=List.getElem_of_mem hx
  exact⟨i,hi,by simpa [List.getD_eq_getElem?_getD,List.getElem?_eq_getElem hi] using h⟩
theorem findSome_flat {α β Y:Type} (f:β→Option Y) (g:α→List β):∀ l:List α,(l.flatMap g).findSome? f=l.findSome? fun x=>(g x).findSome? f
 | []=>rfl
 | x :: l=>by
  rw[List.flatMap_cons,List.findSome?_append,List.findSome?_cons,findSome_flat f g l]
  cases (g x).findSome? f<;>rfl
theorem firstR_orK {Y:Type} {f:Nat→Option Y} {n:Nat}:firstR f (n+1)=orK (firstR f n) (f n):=by
 rw[firstR_succ]
 cases firstR f n<;>rfl
def mkL (n:Nat) (B:Nat→Bool):List Bool:=(List.range n).map B
theorem mkL_len (n:Nat) (B:Nat→Bool):(mkL n B).length=n:=by simp[mkL]
theorem mkL_at {n:Nat} {B:Nat→Bool} {i:Nat} (h:i < n):(mkL n B).getD i default=B i:=by simp[mkL,List.getD_eq_getElem?_getD,h]
theorem mkL_congr {n:Nat} {B C:Nat→Bool} (h:∀ i,i < n→B i=C i):mkL n B=mkL n C:=by
 unfold mkL
 exact List.map_congr_left fun i hi=>h i (List.mem_range.1 hi)
theorem mkL_sub {n:Nat} {B:Nat→Bool}:subL (mkL n B) 0 n=mkL n B:=by
 rw[list_eq_iff (by rw[subL_len,mkL_len])]
 intro i hi
 rw[subL_len]at hi
 exact subL_getD hi
theorem mkL_set {n:Nat} {B:Nat→Bool} {t:Nat} (h:t < n):(mkL n B).set t true=mkL n fun u=>B u || t==u:=by
 apply List.ext_getElem?
 intro u
 simp only[mkL,List.getElem?_set,List.getElem?_map,List.length_map,List.length_range]
 by_cases e:t=u
 ·subst e;simp[h]
 ·rw[if_neg e]
  have:(t==u)=false:=by simpa using e
  by_cases hu:u < n
  ·simp[hu,this]
  ·simp[hu]
def f1 (c:T27) (leaf v:Int):Option T194:=if(((enabledS c leaf v).length:Int)==0)=true then some ⟨1,leaf,v,-1,-1⟩else none
def f2 (c:T27) (leaf v:Int):Option T194:=if decide (1 < ((enabledS c leaf v).length:Int))=true then some ⟨2,leaf,v,(enabledS c leaf v).getD 0 default,(enabledS c leaf v).getD 1 default⟩else none
def pA (c:T27) (leaf:Int) (u:Nat) (v:Int):Bool:=hasK (enabledS c leaf v) (enabledS c leaf v).length (u:Int)
theorem alG_find {c:T27} {Y:Type} (f:Int→Option Y) (v:Nat):(alG c v).findSome? f=if allowedS c (v:Int)=true then f (v:Int)else none:=by
 unfold alG
 split
 ·simp[List.findSome?_cons]
  cases f (v:Int)<;>rfl
 ·rfl
theorem f1_all {c:T27} {leaf:Int}:firstR (fun j=>f1 c leaf ((valsA c).getD j default)) (valsA c).length=leafFd c leaf 1:=by
 rw[firstR_list (f1 c leaf) (valsA c)]
 unfold valsA leafFd firstR
 rw[findSome_flat]
 congr 1
 funext v
 rw[alG_find]
 unfold finV f1
 simp only[show ((1:Int)==1)=true from rfl,show ((1:Int)==2)=false from rfl,Bool.true_and,Bool.false_and,Bool.false_eq_true,if_false]
theorem f2_all {c:T27} {leaf:Int}:firstR (fun j=>f2 c leaf ((valsA c).getD j default)) (valsA c).length=leafFd c leaf 2:=by
 rw[firstR_list (f2 c leaf) (valsA c)]
 unfold valsA leafFd firstR
 rw[findSome_flat]
 congr 1
 funext v
 rw[alG_find]
 unfold finV f2
 simp only[show ((2:Int)==2)=true from rfl,show ((2:Int)==1)=false from rfl,Bool.true_and,Bool.false_and,Bool.false_eq_true,if_false]
theorem pA_all {c:T27} {leaf:Int} {u:Nat}:anyR (fun j=>pA c leaf u ((valsA c).getD j default)) (valsA c).length=aliveB c leaf (u:Int):=by
 rw[anyR_list (pA c leaf u) (valsA c),Bool.eq_iff_iff,List.any_eq_true]
 unfold aliveB
 rw[anyR_iff]
 constructor
 ·rintro⟨x,hx,h⟩
  obtain⟨n,hn,rfl,ha⟩:=valsA_mem.1 hx
  exact⟨n,hn,by unfold aliveV;rw[ha];exact h⟩
 ·rintro⟨n,hn,h⟩
  unfold aliveV at h
  simp only[Bool.and_eq_true]at h
  exact⟨(n:Int),valsA_mem.2 ⟨n,hn,rfl,h.1⟩,h.2⟩
theorem enab_lt {c:T27} {leaf v:Int} {x:Int} (h:x∈enabledS c leaf v):∃ t:Nat,x=t∧t < c.Transitions.length:=by
 unfold enabledS at h
 obtain⟨i,hi,hx⟩:=List.mem_flatMap.1 h
 unfold enabG at hx
 split at hx
 ·simp only[List.mem_singleton]at hx
  exact⟨i,hx,List.mem_range.1 hi⟩
 ·cases hx
theorem toList_len {α:Type} (o:Option α):o.toList.length≤1:=by cases o<;>simp
theorem kind_rL {c:T27} {s:SS} {kind:Int}:(List.range (rL c s).length).flatMap (fun j=>(leafFd c ((rL c s).getD j default) kind).toList)=kindL c s kind:=by
 rw[range_flat (fun x=>(leafFd c x kind).toList) (rL c s)]
 unfold rL
 rw[filter_flat,← range_flat (fun x=>if reachB s x=true then(leafFd c x kind).toList else[]) (leavesS c)]
 rfl
theorem live_rL {c:T27} {s:SS} {t:Nat}:anyR (fun j=>aliveB c ((rL c s).getD j default) (t:Int)) (rL c s).length=liveB c s t:=by
 rw[anyR_list (fun x=>aliveB c x (t:Int)) (rL c s)]
 unfold liveB leafA
 rw[anyR_list (fun x=>reachB s x&&aliveB c x (t:Int)) (leavesS c),Bool.eq_iff_iff,List.any_eq_true,List.any_eq_true]
 unfold rL
 constructor
 ·rintro⟨x,hx,h⟩
  obtain⟨h1,h2⟩:=List.mem_filter.1 hx
  exact⟨x,h1,by rw[h2,h];rfl⟩
 ·rintro⟨x,hx,h⟩
  simp only[Bool.and_eq_true]at h
  exact⟨x,List.mem_filter.2 ⟨hx,h.1⟩,h.2⟩
theorem rL_has {c:T27} {s:SS} {x:Int} (hx:x∈leavesS c):hasK (rL c s) (rL c s).length x=reachB s x:=by
 rw[Bool.eq_iff_iff,hasK_iff]
 unfold rL
 rw[List.mem_filter]
 exact⟨fun h=>h.2,fun h=>⟨hx,h⟩⟩
theorem alive_loop {X:Type} {T:Nat} {l:List Int} (hm:∀ x∈l,∃ t:Nat,x=t∧t < T) {b:List Bool×Int→Option ((List Bool×Int)⊕X)} (out:List Bool→X)
  (hb:∀ (B:Nat→Bool) (j t:Nat),j < l.length→l.getD j default=(t:Int)→t < T→b (mkL T B,(j:Int))=some (.inl ((mkL T B).set t true,((j+1:Nat):Int)))) (he:∀ B,b (mkL T B,(l.length:Int))=some (.inr (out (mkL T B)))) (B:Nat→Bool) :
  loopO b (mkL T B,0)=some (out (mkL T fun t=>B t || hasK l l.length (t:Int))):=by
 have e0:(mkL T B,(0:Int))=(fun j:Nat=>(mkL T (fun t=>B t || anyR (fun i=>l.getD i default==(t:Int)) j),(j:Int))) 0:=by
  have:mkL T B=mkL T (fun t=>B t || anyR (fun i=>l.getD i default==(t:Int)) 0):=mkL_congr fun t _=>by simp[anyR]
  rw[this];rfl
 have e9:mkL T (fun t=>B t || hasK l l.length (t:Int))=mkL T (fun t=>B t || anyR (fun i=>l.getD i default==(t:Int)) l.length):=by
  refine mkL_congr fun t _=>?_
  unfold hasK
  congr 1
  refine anyR_congr fun i hi=>?_
  rw[Bool.eq_iff_iff,beq_iff_eq,beq_iff_eq];exact eq_comm
 rw[e0,e9]
 refine loop_st l.length (fun j:Nat=>(mkL T (fun t=>B t || anyR (fun i=>l.getD i default==(t:Int)) j),(j:Int))) _ (fun j hj=>?_) (he _)
 obtain⟨t,ht,htl⟩:=hm _ (getD_mem hj)
 have r4:mkL T (fun u=>B u || anyR (fun i=>l.getD i default==(u:Int)) (j+1))=mkL T (fun u=>(B u || anyR (fun i=>l.getD i default==(u:Int)) j) || t==u):=by
  refine mkL_congr fun u _=>?_
  unfold anyR
  rw[List.range_succ,List.any_append,← Bool.or_assoc]
  congr 1
  simp only[List.any_cons,List.any_nil,Bool.or_false,ht]
  rw[Bool.eq_iff_iff,beq_iff_eq,beq_iff_eq];omega
 show b _=some (.inl (mkL T (fun u=>B u || anyR (fun i=>l.getD i default==(u:Int)) (j+1)),((j+1:Nat):Int)))
 rw[r4,← mkL_set htl]
 exact hb _ j t hj ht htl
theorem M69o1 (a0:T27) (a1:List T41) (a2 a3 a4:List Int):m69o1 a0 a1 a2 a3 a4=((Option.bind (Option.bind (Option.bind (m119o1 a0 a1 a2 a3 a4) fun r=>some r) fun x1=>(if(0≤(a0.Transitions.length:Int))then(if((a0.Transitions.length:Int)=(a0.Transitions.length:Int))then(if((a0.Transitions.length:Int) * 1≤140737488355328)then(if((a0.Transitions.length:Int)≤9223372036854775807)then(some (.inl x1))else none)else none)else none)else none)) (onS fun(y1:(List Int))=>(Option.bind (Option.bind (some (.inl ())) (onS fun(_:Unit)=>(loopO (fun(s2:(List T194)×(List T194)×(List Bool)×Int)=>((Option.bind (if(decide (s2.2.2.2 < (y1.length:Int)))=true then(some (.inl ()))else(some (.inr (.inr (.inl (s2.1,s2.2.1,s2.2.2.1)))))) (onS fun(_:Unit)=>(Option.bind (Option.bind (if(0≤s2.2.2.2)then(if(s2.2.2.2 < (y1.length:Int))then(if(s2.2.2.2.toNat < y1.length)then(some (.inl ()))else none)else none)else none) (onS fun(_:Unit)=>(loopO (fun(s3:(List T194)×(List T194)×(List Bool)×Bool×Bool×Int)=>((Option.bind (if(decide (s3.2.2.2.2.2 < (a4.length:Int)))=true then(some (.inl ()))else(some (.inr (.inr (.inl (s3.1,s3.2.1,s3.2.2.1)))))) (onS fun(_:Unit)=>(Option.bind (Option.bind (if(0≤s3.2.2.2.2.2)then(if(s3.2.2.2.2.2 < (a4.length:Int))then(Option.bind (Option.bind (m33 a0 (y1.getD s2.2.2.2.toNat default) (a4.getD s3.2.2.2.2.2.toNat default)) fun r=>some r) fun x11=>(some (.inl x11)))else none)else none) (onS fun(y4:(List Int))=>(Option.bind (Option.bind (some (.inl ())) (onS fun(_:Unit)=>(loopO (fun(s5:(List Bool)×Int)=>((if(decide (s5.2 < (y4.length:Int)))=true then(if(0≤s5.2)then(if(s5.2 < (y4.length:Int))then(if(0≤(y4.getD s5.2.toNat default))then(if((y4.getD s5.2.toNat default) < ((a0.Transitions.length:Int).toNat:Int))then(if((y4.getD s5.2.toNat default).toNat < (a0.Transitions.length:Int).toNat)then(some (.inl (((subL s5.1 0 (a0.Transitions.length:Int).toNat).set (y4.getD s5.2.toNat default).toNat true),(IntKind.wrap .i64 (s5.2+1)))))else none)else none)else none)else none)else none)else(some (.inr (.inl s5.1)))):Option (((List Bool)×Int)⊕(((List Bool))⊕(((List T194)×(List T194)×(List Bool)×Bool×Bool)⊕(((List T194)×(List T194)×(List Bool)×Bool×Bool×Int)⊕(((List T194)×(List T194)×(List Bool))⊕(((List T194)×(List T194)×(List Bool)×Int)⊕(((List T194)×(List T194)×(List Bool))⊕((List T194))))))))))) (s3.2.2.1,(0:Int))))) (onS fun(y6:(List Bool))=>(if(((y4.length:Int)==(0:Int))&&(!s3.2.2.2.1))=true then(if((s3.1.length+1) * 40≤140737488355328)then(if((decide (1 < (y4.length:Int)))&&(!s3.2.2.2.2.1))=true then(if((0:Int)≤(0:Int))then(if(0 < (y4.length:Int))then(if((0:Int)≤(1:Int))then(if(1 < (y4.length:Int))then(if((s3.2.1.length+1) * 40≤140737488355328)then(some (.inl ((s3.1++([(⟨(1:Int),(y1.getD s2.2.2.2.toNat default),(a4.getD s3.2.2.2.2.2.toNat default),(-1:Int),(-1:Int)⟩:T194)]:List T194)),(s3.2.1++([(⟨(2:Int),(y1.getD s2.2.2.2.toNat default),(a4.getD s3.2.2.2.2.2.toNat default),(y4.getD (0:Int).toNat default),(y4.getD (1:Int).toNat default)⟩:T194)]:List T194)),y6,true,true)))else none)else none)else none)else none)else none)else(some (.inl ((s3.1++([(⟨(1:Int),(y1.getD s2.2.2.2.toNat default),(a4.getD s3.2.2.2.2.2.toNat default),(-1:Int),(-1:Int)⟩:T194)]:List T194)),s3.2.1,y6,true,s3.2.2.2.2.1))))else none)else(if((decide (1 < (y4.length:Int)))&&(!s3.2.2.2.2.1))=true then(if((0:Int)≤(0:Int))then(if(0 < (y4.length:Int))then(if((0:Int)≤(1:Int))then(if(1 < (y4.length:Int))then(if((s3.2.1.length+1) * 40≤140737488355328)then(some (.inl (s3.1,(s3.2.1++([(⟨(2:Int),(y1.getD s2.2.2.2.toNat default),(a4.getD s3.2.2.2.2.2.toNat default),(y4.getD (0:Int).toNat default),(y4.getD (1:Int).toNat default)⟩:T194)]:List T194)),y6,s3.2.2.2.1,true)))else none)else none)else none)else none)else none)else(some (.inl (s3.1,s3.2.1,y6,s3.2.2.2.1,s3.2.2.2.2.1))))))))) (onS fun(y7:(List T194)×(List T194)×(List Bool)×Bool×Bool)=>(some (.inl (y7.1,y7.2.1,y7.2.2.1,y7.2.2.2.1,y7.2.2.2.2,(IntKind.wrap .i64 (s3.2.2.2.2.2+1))))))))):Option (((List T194)×(List T194)×(List Bool)×Bool×Bool×Int)⊕(((List T194)×(List T194)×(List Bool))⊕(((List T194)×(List T194)×(List Bool)×Int)⊕(((List T194)×(List T194)×(List Bool))⊕((List T194)))))))) (s2.1,s2.2.1,s2.2.2.1,false,false,(0:Int))))) (onS fun(y8:(List T194)×(List T194)×(List Bool))=>(some (.inl (y8.1,y8.2.1,y8.2.2,(IntKind.wrap .i64 (s2.2.2.2+1))))))))):Option (((List T194)×(List T194)×(List Bool)×Int)⊕(((List T194)×(List T194)×(List Bool))⊕((List T194)))))) ([],[],(List.replicate (a0.Transitions.length:Int).toNat false),(0:Int))))) (onS fun(y9:(List T194)×(List T194)×(List Bool))=>(Option.bind (if((y9.1.length+y9.2.1.length) * 40≤140737488355328)then(some (.inl ()))else none) (onS fun(_:Unit)=>(Option.bind (Option.bind (Option.bind (Option.bind (m120 a0) fun r=>some r) fun x26=>(some (.inl (x26,(x26.length:Int))))) (onS fun(y10:(List Int)×Int)=>(loopO (fun(s11:(List T194)×Int)=>((if(decide (s11.2 < y10.2))=true then(if(0≤s11.2)then(if(s11.2 < (y10.1.length:Int))then(Option.bind (Option.bind (m71 y1 (y10.1.getD s11.2.toNat default)) fun r=>some r) fun x29=>(if(!x29)=true then(if((s11.1.length+1) * 40≤140737488355328)then(some (.inl ((s11.1++([(⟨(3:Int),(y10.1.getD s11.2.toNat default),(0:Int),(-1:Int),(-1:Int)⟩:T194)]:List T194)),(IntKind.wrap .i64 (s11.2+1)))))else none)else(some (.inl (s11.1,(IntKind.wrap .i64 (s11.2+1)))))))else none)else none)else(some (.inr (.inl s11.1)))):Option (((List T194)×Int)⊕(((List T194))⊕((List T194)))))) ((y9.1++y9.2.1),(0:Int))))) (onS fun(y12:(List T194))=>(Option.bind (Option.bind (some (.inl ())) (onS fun(_:Unit)=>(loopO (fun(s13:(List T194)×Int)=>((if(decide (s13.2 < ((a0.Transitions.length:Int).toNat:Int)))=true then(if(0≤s13.2)then(if(s13.2 < ((a0.Transitions.length:Int).toNat:Int))then(if(s13.2.toNat < (a0.Transitions.length:Int).toNat)then(if(!(y9.2.2.getD s13.2.toNat default))=true then(if((s13.1.length+1) * 40≤140737488355328)then(some (.inl ((s13.1++([(⟨(4:Int),(-1:Int),(0:Int),s13.2,(-1:Int)⟩:T194)]:List T194)),(IntKind.wrap .i64 (s13.2+1)))))else none)else(some (.inl (s13.1,(IntKind.wrap .i64 (s13.2+1))))))else none)else none)else none)else(some (.inr (.inl s13.1)))):Option (((List T194)×Int)⊕(((List T194))⊕((List T194)))))) (y12,(0:Int))))) (onS fun(y14:(List T194))=>(some y14))))))))))):Option ((List T194))):=by kernel_rfl
theorem sfind_eq {c:T27} (H:Fit c) (hn:c.Conds.length≤12) {s:SS} (I:Inv c s):m69o1 c s.1 s.2.1 s.2.2 (valsA c)=some (findS c s):=by
 have hst:=H.states
 have htr:=H.trans
 have h2:=numV_le hn
 have hv2:=valsA_len (c:=c)
 have hll:=leavesS_len (c:=c)
 have hrl:(rL c s).length≤(leavesS c).length:=by unfold rL;exact List.length_filter_le _ _
 have q0:=sleaves_eq I (valsA c)
 have q1:=Leaves_eq c H
 have q2:∀ (leaf v:Int),m33 c leaf v=some (enabledS c leaf v):=Enabled_eq c H
 have q3:∀ x,m71 (rL c s) x=some (hasK (rL c s) (rL c s).length x):=fun x=>containsI_eq (rL c s) x (by omega)
 have c0:((0:Int)≤(c.Transitions.length:Int))=True:=eq_true (by omega)
 have c1:((c.Transitions.length:Int) * 1≤140737488355328)=True:=eq_true (by omega)
 have c2:((c.Transitions.length:Int)≤9223372036854775807)=True:=eq_true (by omega)
 have z0:((0:Int)≤(0:Int))=True:=eq_true (by omega)
 have z1:((0:Int)≤(1:Int))=True:=eq_true (by omega)
 simp only[M69o1,bind_id,q0,q1,q2,q3,bs,c0,c1,c2,if_true,ol,Int.toNat_natCast]
 refine on_l (y:=(kindL c s 1,kindL c s 2,mkL c.Transitions.length fun t=>liveB c s t)) ?_ ?_
 ·have e0:(([]:List T194),([]:List T194),List.replicate c.Transitions.length false,(0:Int))=(fun i:Nat=>((List.range i).flatMap (fun j=>(leafFd c ((rL c s).getD j default) 1).toList),(List.range i).flatMap (fun j=>(leafFd c ((rL c s).getD j default) 2).toList),mkL c.Transitions.length (fun t=>anyR (fun j=>aliveB c ((rL c s).getD j default) (t:Int)) i),(i:Int))) 0:=by
   have:List.replicate c.Transitions.length false=mkL c.Transitions.length (fun t=>anyR (fun j=>aliveB c ((rL c s).getD j default) (t:Int)) 0):=by
    apply List.ext_getElem?
    intro u
    simp only[mkL,List.getElem?_replicate,List.getElem?_map]
    by_cases hu:u < c.Transitions.length
    ·simp[hu,anyR]
    ·simp[hu]
   rw[this];rfl
  have e9:(kindL c s 1,kindL c s 2,mkL c.Transitions.length fun t=>liveB c s t)=((List.range (rL c s).length).flatMap (fun j=>(leafFd c ((rL c s).getD j default) 1).toList),(List.range (rL c s).length).flatMap (fun j=>(leafFd c ((rL c s).getD j default) 2).toList),mkL c.Transitions.length (fun t=>anyR (fun j=>aliveB c ((rL c s).getD j default) (t:Int)) (rL c s).length)):=by
   rw[kind_rL,kind_rL,mkL_congr (fun t _=>live_rL.symm)]
  rw[e0,e9]
  refine loop_st (rL c s).length (fun i:Nat=>((List.range i).flatMap (fun j=>(leafFd c ((rL c s).getD j default) 1).toList),(List.range i).flatMap (fun j=>(leafFd c ((rL c s).getD j default) 2).toList),mkL c.Transitions.length (fun t=>anyR (fun j=>aliveB c ((rL c s).getD j default) (t:Int)) i),(i:Int))) (Sum.inl _) (fun i hi=>?_) ?_
  ·have g1:=flatMap_len (g:=fun j=>(leafFd c ((rL c s).getD j default) 1).toList) (m:=1) (fun j=>toList_len _) i
   have g2:=flatMap_len (g:=fun j=>(leafFd c ((rL c s).getD j default) 2).toList) (m:=1) (fun j=>toList_len _) i
   simp only[inL hi,decide_true,if_true,bs,ol,Int.toNat_natCast,eq_true hi]
   have r1:(List.range (i+1)).flatMap (fun j=>(leafFd c ((rL c s).getD j default) 1).toList)=(List.range i).flatMap (fun j=>(leafFd c ((rL c s).getD j default) 1).toList)++(leafFd c ((rL c s).getD i default) 1).toList:=flatMap_app _ _
   have r2:(List.range (i+1)).flatMap (fun j=>(leafFd c ((rL c s).getD j default) 2).toList)=(List.range i).flatMap (fun j=>(leafFd c ((rL c s).getD j default) 2).toList)++(leafFd c ((rL c s).getD i default) 2).toList:=flatMap_app _ _
   obtain⟨B,hB⟩:∃ B:Nat→Bool,B=fun t:Nat=>anyR (fun j=>aliveB c ((rL c s).getD j default) (t:Int)) i:=⟨_,rfl⟩
   have r0:mkL c.Transitions.length (fun t=>anyR (fun j=>aliveB c ((rL c s).getD j default) (t:Int)) i)=mkL c.Transitions.length B:=by rw[hB]
   have r3:mkL c.Transitions.length (fun t=>anyR (fun j=>aliveB c ((rL c s).getD j default) (t:Int)) (i+1))=mkL c.Transitions.length (fun t=>B t || aliveB c ((rL c s).getD i default) (t:Int)):=by
    rw[hB]
    refine mkL_congr fun t _=>?_
    unfold anyR
    rw[List.range_succ,List.any_append]
    simp
   rw[r1,r2,r3,r0]
   clear r1 r2 r3 r0 hB e0 e9
   generalize (List.range i).flatMap (fun j=>(leafFd c ((rL c s).getD j default) 1).toList)=K1 at g1 ⊢
   generalize (List.range i).flatMap (fun j=>(leafFd c ((rL c s).getD j default) 2).toList)=K2 at g2 ⊢
   generalize (rL c s).getD i default=leaf
   have w2:IntKind.wrap .i64 ((i:Int)+1)=((i+1:Nat):Int):=by rw[w64 (by omega) (by omega)];omega
   refine on_l (y:=(K1++(leafFd c leaf 1).toList,K2++(leafFd c leaf 2).toList,mkL c.Transitions.length fun t=>B t || aliveB c leaf (t:Int))) ?_ (by simp only[bs,ol,w2])
   have e0:(K1,K2,mkL c.Transitions.length B,false,false,(0:Int))=(fun k:Nat=>(K1++(firstR (fun j=>f1 c leaf ((valsA c).getD j default)) k).toList,K2++(firstR (fun j=>f2 c leaf ((valsA c).getD j default)) k).toList,mkL c.Transitions.length (fun t=>B t || anyR (fun j=>pA c leaf t ((valsA c).getD j default)) k),(firstR (fun j=>f1 c leaf ((valsA c).getD j default)) k).isSome,(firstR (fun j=>f2 c leaf ((valsA c).getD j default)) k).isSome,(k:Int))) 0:=by
    have:mkL c.Transitions.length B=mkL c.Transitions.length (fun t=>B t || anyR (fun j=>pA c leaf t ((valsA c).getD j default)) 0):=mkL_congr fun t _=>by simp[anyR]
    rw[this]
    simp[firstR]
   have e9:(K1++(leafFd c leaf 1).toList,K2++(leafFd c leaf 2).toList,mkL c.Transitions.length fun t=>B t || aliveB c leaf (t:Int))=(K1++(firstR (fun j=>f1 c leaf ((valsA c).getD j default)) (valsA c).length).toList,K2++(firstR (fun j=>f2 c leaf ((valsA c).getD j default)) (valsA c).length).toList,mkL c.Transitions.length (fun t=>B t || anyR (fun j=>pA c leaf t ((valsA c).getD j default)) (valsA c).length)):=by
    rw[f1_all,f2_all]
    congr 2
    exact mkL_congr fun t _=>by rw[pA_all]
   rw[e0,e9]
   refine loop_st (valsA c).length (fun k:Nat=>(K1++(firstR (fun j=>f1 c leaf ((valsA c).getD j default)) k).toList,K2++(firstR (fun j=>f2 c leaf ((valsA c).getD j default)) k).toList,mkL c.Transitions.length (fun t=>B t || anyR (fun j=>pA c leaf t ((valsA c).getD j default)) k),(firstR (fun j=>f1 c leaf ((valsA c).getD j default)) k).isSome,(firstR (fun j=>f2 c leaf ((valsA c).getD j default)) k).isSome,(k:Int))) (Sum.inl _) (fun k hk=>?_) ?_
   ·have w3:IntKind.wrap .i64 ((k:Int)+1)=((k+1:Nat):Int):=by rw[w64 (by omega) (by omega)];omega
    have t1:=toList_len (firstR (fun j=>f1 c leaf ((valsA c).getD j default)) k)
    have t2:=toList_len (firstR (fun j=>f2 c leaf ((valsA c).getD j default)) k)
    obtain⟨B',hB⟩:∃ B':Nat→Bool,B'=fun t:Nat=>B t || anyR (fun j=>pA c leaf t ((valsA c).getD j default)) k:=⟨_,rfl⟩
    have r0:mkL c.Transitions.length (fun t=>B t || anyR (fun j=>pA c leaf t ((valsA c).getD j default)) k)=mkL c.Transitions.length B':=by rw[hB]
    have r3:mkL c.Transitions.length (fun t=>B t || anyR (fun j=>pA c leaf t ((valsA c).getD j default)) (k+1))=mkL c.Transitions.length (fun t=>B' t || pA c leaf t ((valsA c).getD k default)):=by
     rw[hB]
     refine mkL_congr fun t _=>?_
     unfold anyR
     rw[List.range_succ,List.any_append,← Bool.or_assoc]
     simp
    simp only[inL hk,decide_true,if_true,bs,ol,Int.toNat_natCast]
    rw[r3,r0,firstR_orK (f:=fun j=>f1 c leaf ((valsA c).getD j default)),firstR_orK (f:=fun j=>f2 c leaf ((valsA c).getD j default))]
    generalize firstR (fun j=>f1 c leaf ((valsA c).getD j default)) k=o1 at t1 ⊢
    generalize firstR (fun j=>f2 c leaf ((valsA c).getD j default)) k=o2 at t2 ⊢
    clear r3 r0 hB e0 e9
    generalize (valsA c).getD k default=v
    have c3:(((K1++o1.toList).length+1) * 40≤140737488355328)=True:=eq_true (by rw[List.length_append];omega)
    have c4:(((K2++o2.toList).length+1) * 40≤140737488355328)=True:=eq_true (by rw[List.length_append];omega)
    have hel:=enabledS_len c leaf v
    refine on_l (y:=(K1++(orK o1 (f1 c leaf v)).toList,K2++(orK o2 (f2 c leaf v)).toList,mkL c.Transitions.length (fun t=>B' t || pA c leaf t v),(orK o1 (f1 c leaf v)).isSome,(orK o2 (f2 c leaf v)).isSome)) ?_ (by simp only[w3])
    refine on_l (alive_loop (l:=enabledS c leaf v) (fun x hx=>enab_lt hx) Sum.inl (fun B'' j t hj ht htl=>?_) (fun B''=>?_) B') ?_
    ·have w4:IntKind.wrap .i64 ((j:Int)+1)=((j+1:Nat):Int):=by rw[w64 (by omega) (by omega)];omega
     have c5:((t:Int) < (c.Transitions.length:Int))=True:=eq_true (by omega)
     have c6:((0:Int)≤(t:Int))=True:=eq_true (by omega)
     simp only[inL hj,decide_true,if_true,Int.toNat_natCast,ht,c5,c6,eq_true htl,mkL_sub,w4]
    ·simp only[lt_irr,decide_false,Bool.false_eq_true,if_false]
    unfold f1 f2 pA
    have c3':((K1.length+1) * 40≤140737488355328)=True:=eq_true (by omega)
    have c4':((K2.length+1) * 40≤140737488355328)=True:=eq_true (by omega)
    have g0:(((enabledS c leaf v).length:Int)==0)=true→decide (1 < ((enabledS c leaf v).length:Int))=false:=fun h=>by
     have:((enabledS c leaf v).length:Int)=0:=by simpa using h
     rw[this];rfl
    have g1:decide (1 < ((enabledS c leaf v).length:Int))=true→((0 < ((enabledS c leaf v).length:Int))=True∧(1 < ((enabledS c leaf v).length:Int))=True):=fun h=>by
     have:=of_decide_eq_true h
     exact⟨eq_true (by omega),eq_true this⟩
    cases e0:(((enabledS c leaf v).length:Int)==0) with
    | true =>
     have e1:=g0 e0
     cases o1 with
     | none=>cases o2<;>simp only[e1,c3',orK_some,orK_none,Option.isSome_none,Option.isSome_some,Option.toList_none,Option.toList_some,List.append_nil,Bool.not_false,Bool.not_true,Bool.and_true,Bool.and_false,Bool.false_and,Bool.true_and,Bool.false_eq_true,if_true,if_false]
     | some x=>cases o2<;>simp only[e1,orK_some,orK_none,Option.isSome_none,Option.isSome_some,Option.toList_none,Option.toList_some,List.append_nil,Bool.not_false,Bool.not_true,Bool.and_true,Bool.and_false,Bool.false_and,Bool.true_and,Bool.false_eq_true,if_true,if_false]
    | false =>
     cases e1:decide (1 < ((enabledS c leaf v).length:Int)) with
     | false =>
      cases o1<;>cases o2<;>simp only[orK_some,orK_none,Option.isSome_none,Option.isSome_some,Option.toList_none,Option.toList_some,List.append_nil,Bool.not_false,Bool.not_true,Bool.and_true,Bool.and_false,Bool.false_and,Bool.true_and,Bool.false_eq_true,if_true,if_false]
     | true =>
      obtain⟨z2,z3⟩:=g1 e1
      cases o1<;>cases o2<;>simp only[z0,z1,z2,z3,c4',orK_some,orK_none,Option.isSome_none,Option.isSome_some,Option.toList_none,Option.toList_some,List.append_nil,Bool.not_false,Bool.not_true,Bool.and_true,Bool.and_false,Bool.false_and,Bool.true_and,Bool.false_eq_true,if_true,if_false]<;>rfl
   ·simp only[lt_irr,decide_false,Bool.false_eq_true,if_false,bs,or_]
  ·simp only[lt_irr,decide_false,Bool.false_eq_true,if_false,bs,or_]
 ·have k1:=kindL_len c s 1
  have k2:=kindL_len c s 2
  have c9:(((kindL c s 1).length+(kindL c s 2).length) * 40≤140737488355328)=True:=eq_true (by omega)
  simp only[c9,if_true,bs,ol]
  refine on_l (y:=kindL c s 1++kindL c s 2++(List.range (leavesS c).length).flatMap (unrG c s)) ?_ ?_
  ·refine loop_app (leavesS c).length (fun j l=>(l,(j:Int))) (unrG c s) Sum.inl (kindL c s 1++kindL c s 2) (fun j hj=>?_) ?_
   ·have hgl:=flatMap_len (unrG_len c s) j
    have c1:(((kindL c s 1++kindL c s 2)++(List.range j).flatMap (unrG c s)).length+1) * 40≤140737488355328:=by rw[List.length_append,List.length_append];omega
    have w2:IntKind.wrap .i64 ((j:Int)+1)=((j+1:Nat):Int):=by rw[w64 (by omega) (by omega)];omega
    simp only[inL hj,decide_true,if_true,Int.toNat_natCast,rL_has (getD_mem hj),bs,w2,eq_true c1]
    cases hr:reachB s ((leavesS c).getD j default) with
    | false =>
     have hd:unrG c s j=[⟨3,(leavesS c).getD j default,0,-1,-1⟩]:=by unfold unrG leafA;rw[hr];rfl
     simp only[Bool.not_false,if_true,hd]
    | true =>
     have hd:unrG c s j=[]:=by unfold unrG leafA;rw[hr];rfl
     simp only[Bool.not_true,Bool.false_eq_true,if_false,hd,List.append_nil]
   ·simp only[lt_irr,decide_false,Bool.false_eq_true,if_false]
  ·have hul:=flatMap_len (unrG_len c s) (leavesS c).length
   refine on_l (y:=findS c s) ?_ rfl
   unfold findS
   refine loop_app c.Transitions.length (fun j l=>(l,(j:Int))) (deadG c s) Sum.inl _ (fun t ht=>?_) ?_
   ·have hgl:=flatMap_len (deadG_len c s) t
    have c1:(((kindL c s 1++kindL c s 2++(List.range (leavesS c).length).flatMap (unrG c s))++(List.range t).flatMap (deadG c s)).length+1) * 40≤140737488355328:=by simp only[List.length_append];omega
    have w2:IntKind.wrap .i64 ((t:Int)+1)=((t+1:Nat):Int):=by rw[w64 (by omega) (by omega)];omega
    simp only[inL ht,decide_true,if_true,Int.toNat_natCast,eq_true ht,mkL_at ht,w2]
    cases hl2:liveB c s t with
    | true =>
     have hd:deadG c s t=[]:=by unfold deadG;rw[hl2];rfl
     simp only[Bool.not_true,Bool.false_eq_true,if_true,if_false,hd,List.append_nil]
    | false =>
     have hd:deadG c s t=[⟨4,-1,0,(t:Int),-1⟩]:=by unfold deadG;rw[hl2];rfl
     simp only[Bool.not_false,Bool.false_eq_true,if_true,if_false,eq_true c1,hd]
   ·simp only[lt_irr,decide_false,Bool.false_eq_true,if_false]
theorem M30 (a0:T27):m30 a0=((orJ (Option.bind (Option.bind (m68o1 a0) fun r=>some r) fun x1=>(if(x1 != 0)=true then(some ([],x1))else(Option.bind (none) fun(x4:(Unit))=>none))) (Option.bind (Option.bind (m68o2 a0) fun r=>some r) fun x1=>(if((0:Int) != (0:Int))=true then(some ([],(0:Int)))else(Option.bind (((m69o1 a0 x1.1 x1.2.1 x1.2.2.1 x1.2.2.2).bind fun r4_0=>some (r4_0,x1))) fun(x4:((List T194)×((List T41)×(List Int)×(List Int)×(List Int))))=>(some (x4.1,(0:Int))))))):Option ((List T194)×Int)):=by kernel_rfl
theorem Findings_eq {c:T27} (H:Fit c) (hn:c.Conds.length≤12):m30 c=findM c:=by
 obtain⟨e,he⟩:=checkM_some c
 have q1:=srchE_eq H hn
 have q2:=srchR_eq H hn
 have q3:∀ s:SS,Inv c s→m69o1 c s.1 s.2.1 s.2.2 (valsA c)=some (findS c s):=fun s I=>sfind_eq H hn I
 unfold findM
 simp only[M30,bind_id,q1,q2,he,bs]
 generalize m69o1=F at q3 ⊢
 by_cases h0:(e != 0)=true
 ·simp only[h0,bs,if_true];rfl
 ·have h0:=Bool.eq_false_iff.2 h0
  have e0:e=0:=by simpa using h0
  subst e0
  simp only[h0,Bool.false_eq_true,if_false]
  cases hs:searchS c with
  | none=>rfl
  | some s =>
   have q4:=q3 s (searchS_inv H he hs)
   simp only[bs,bn,q4];rfl
end Go.Av
set_option maxRecDepth 100000
namespace Go.Av
open Ch Go.Proofs
end Go.Av
set_option maxRecDepth 100000
namespace Go.Av
open Ch Go.Proofs
theorem kind_mem {c:T27} {s:SS} {kind:Int} {x:T194}:x∈kindL c s kind↔∃ leaf∈leavesS c,reachB s leaf=true∧leafFd c leaf kind=some x:=by
 unfold kindL
 rw[List.mem_flatMap]
 constructor
 ·rintro⟨i,h1,h2⟩
  unfold kindG at h2
  split at h2
  ·rename_i h3
   refine⟨leafA c i,getD_mem (List.mem_range.1 h1),h3,?_⟩
   simpa using h2
  ·cases h2
 ·rintro⟨leaf,h1,h2,h3⟩
  obtain⟨i,hi,rfl⟩:=List.getElem_of_mem h1
  have e:leafA c i=(leavesS c)[i]:=by simp[leafA,List.getD_eq_getElem?_getD,List.getElem?_eq_getElem hi]
  refine⟨i,List.mem_range.2 hi,?_⟩
  unfold kindG
  rw[e,if_pos h2,h3];simp
theorem leafFd_some {c:T27} {leaf kind:Int} {x:T194} (h:leafFd c leaf kind=some x):∃ v:Nat,v < numV c∧allowedS c (v:Int)=true∧((kind=1∧(enabledS c leaf (v:Int)).length=0∧x=⟨1,leaf,(v:Int),-1,-1⟩)∨(kind=2∧1 < (enabledS c leaf (v:Int)).length∧x=⟨2,leaf,(v:Int),(enabledS c leaf (v:Int)).getD 0 default,(enabledS c leaf (v:Int)).getD 1 default⟩)):=by
 obtain⟨v,hv,h2⟩:=firstR_some h
 unfold finV at h2
 split at h2
 ·rename_i ha
  refine⟨v,hv,ha,?_⟩
  split at h2
  ·rename_i h3
   simp only[Bool.and_eq_true,beq_iff_eq]at h3
   obtain⟨rfl,h3⟩:=h3
   injection h2 with h2
   exact .inl ⟨rfl,by omega,h2.symm⟩
  ·split at h2
   ·rename_i h3
    simp only[Bool.and_eq_true,beq_iff_eq,decide_eq_true_eq]at h3
    obtain⟨rfl,h3⟩:=h3
    injection h2 with h2
    exact .inr ⟨rfl,by omega,h2.symm⟩
   ·cases h2
 ·cases h2
end Go.Av
set_option maxRecDepth 100000
namespace Go.Av
open Ch Go.Proofs
end Go.Av
set_option maxRecDepth 100000
namespace Go.Av
open Ch Go.Proofs
theorem nodup_bound:∀ (n:Nat) (l:List Nat),l.Nodup→(∀ x∈l,x < n)→l.length≤n
 | 0,l,_,h=>by
  cases l with
  | nil=>simp
  | cons x l=>have:=h x (by simp);omega
 | n+1,l,hd,h=>by
  have h1:=nodup_bound n (l.erase n) (hd.erase n) (fun x hx=>by
   have h2:=(hd.mem_erase_iff).1 hx
   have h3:=h x h2.2
   have h4:x≠n:=h2.1
   omega)
  rw[List.length_erase]at h1
  split at h1<;>omega
end Go.Av
set_option maxRecDepth 1000000
namespace Go.Av
open Ch Go.Proofs
structure Calm (c:T27):Prop where
 fit:Fit c
 check:checkM c=some 0
 hist:∀ x,isS c x=true→(stA c x).History=false
 one:∀ v:Nat,v < numV c→∀ leaf∈leavesS c,allowedS c (v:Int)=true→(enabledS c leaf (v:Int)).length=1
section
variable {c:T27} {s:SS}
def memN (c:T27):List Int:=List.replicate c.States.length (-1)
theorem Calm.cfg (P:Calm c) {g:T41} (hg:validS c g=true):g=⟨g.Leaf,memN c⟩∧g.Leaf∈leavesS c:=by
 obtain⟨h1,h2,M⟩:=validS_iff.1 hg
 refine⟨?_,leavesS_iff.2 ⟨h1,h2⟩⟩
 have hm:g.Memory=memN c:=by
  unfold memN
  rw[list_eq_iff (by rw[M.len,List.length_replicate])]
  intro i hi
  have hi2:i < c.States.length:=by rw[← M.len];exact hi
  have hx:isS c (i:Int)=true:=isS_iff.2 (by omega)
  have:=M.none hx (P.hist _ hx)
  rw[Int.toNat_natCast]at this
  rw[this]
  simp[List.getD_eq_getElem?_getD,List.getElem?_replicate,hi2]
 cases g
 simp only at hm
 rw[hm]
theorem Calm.len (P:Calm c) (I:Inv c s) (nd:s.1.Nodup):s.1.length≤40:=by
 have G:=good_of P.check
 have h1:=nodup_bound c.States.length (s.1.map fun g=>g.Leaf.toNat) (by
  refine(List.pairwise_map).2 (List.Pairwise.imp_of_mem (fun {a b} ha hb hab=>?_) nd)
  intro e
  have va:=I.ok a ha
  have vb:=I.ok b hb
  have la:=isS_iff.1 (validS_iff.1 va).1
  have lb:=isS_iff.1 (validS_iff.1 vb).1
  have e2:a.Leaf=b.Leaf:=by omega
  exact hab (by rw[(P.cfg va).1,(P.cfg vb).1,e2])) (fun x hx=>by
  obtain⟨g,hg,rfl⟩:=List.mem_map.1 hx
  have:=isS_iff.1 (validS_iff.1 (I.ok g hg)).1
  omega)
 have h2:=G.cap
 rw[List.length_map]at h1
 omega
theorem Calm.visit (P:Calm c) {g0:T41} (I:Inv c s) (W:Wy c g0 s) {i:Nat} {v:Int}:∃ s',Av.visit c i s v=some s':=by
 have h:=P.len I W.nd
 unfold Av.visit
 split
 ·exact⟨_,rfl⟩
 ·unfold addS
  split
  ·exact⟨_,rfl⟩
  ·rw[if_neg (by omega)];exact⟨_,rfl⟩
theorem Calm.rnd (P:Calm c) {g0:T41} {i:Nat}:∀ {l:List Int} {s:SS},(∀ v∈l,∃ n:Nat,v=n∧n < numV c)→Inv c s→Wy c g0 s→i < s.1.length→∃ s',Av.rnd c i l s=some s'
 | [],s,_,_,_,_=>⟨s,rfl⟩
 | v :: l,s,hl,I,W,hi=>by
  obtain⟨t,ht⟩:=P.visit I W (i:=i) (v:=v)
  obtain⟨n,hn,hn2⟩:=hl v (by simp)
  have I2:=visit_inv P.fit I ht
  have W2:=visit_wy I W hi hn2 (by rw[← hn];exact ht)
  obtain⟨s',hs⟩:=P.rnd (i:=i) (l:=l) (s:=t) (fun w hw=>hl w (by simp[hw])) I2.1 W2 (by omega)
  exact⟨s',by unfold Av.rnd;rw[ht];exact hs⟩
theorem Calm.srch (P:Calm c) {g0:T41}:∀ (n i:Nat) (s:SS),Inv c s→Wy c g0 s→i≤s.1.length→40 < n+i→∃ s',Av.srch c n i s=some s'
 | 0,i,s,I,W,hi,hn=>by have:=P.len I W.nd;omega
 | n+1,i,s,I,W,hi,hn=>by
  unfold Av.srch
  by_cases h:i < s.1.length
  ·rw[if_pos h]
   obtain⟨t,ht⟩:=P.rnd (l:=allV c) (fun v hv=>allV_mem.1 hv) I W h
   have I2:=rnd_inv P.fit I ht
   have W2:=rnd_wy P.fit (fun v hv=>allV_mem.1 hv) I W h ht
   rw[ht]
   exact P.srch n (i+1) t I2.1 W2 (by omega) (by omega)
  ·rw[if_neg h];exact⟨s,rfl⟩
theorem Calm.search (P:Calm c):∃ s,searchS c=some s:=P.srch 402 0 _ (beg_inv P.fit P.check) (beg_wy c _) (by simp[begS]) (by omega)
def stepB (c:T27) (q:Int×Nat×Nat×Int):Bool:=decide (q.2.1 < numV c)&&allowedS c (q.2.1:Int)&&(enabledS c q.1 (q.2.1:Int)==[(q.2.2.1:Int)])&&((fireR c ⟨q.1,memN c⟩ (q.2.2.1:Int)).1.Leaf==q.2.2.2)
def reachT (c:T27):List Int→List (Int×Nat×Nat×Int)→Bool
 | seen,[]=>(leavesS c).all fun x=>seen.contains x
 | seen,q :: l=>seen.contains q.1&&stepB c q&&reachT c (q.2.2.2 :: seen) l
theorem Calm.reach (P:Calm c) (hs:searchS c=some s) (I:Inv c s):∀ {l:List (Int×Nat×Nat×Int)} {seen:List Int},reachT c seen l=true→(∀ x∈seen,reachB s x=true)→∀ leaf∈leavesS c,reachB s leaf=true
 | [],seen,h,hx,leaf,hl=>by
  unfold reachT at h
  have:=List.all_eq_true.1 h leaf hl
  exact hx leaf (by simpa using this)
 | q :: l,seen,h,hx,leaf,hl=>by
  unfold reachT at h
  simp only[Bool.and_eq_true]at h
  refine P.reach hs I (l:=l) h.2 (fun x hm=>?_) leaf hl
  rcases List.mem_cons.1 hm with rfl | hm
  ·obtain⟨g,hg,hgl⟩:=reachB_iff.1 (hx q.1 (by simpa using h.1.1))
   have hb:=h.1.2
   unfold stepB at hb
   simp only[Bool.and_eq_true,decide_eq_true_eq,beq_iff_eq]at hb
   obtain⟨⟨⟨b1,b2⟩,b3⟩,b4⟩:=hb
   have hv:=I.ok g hg
   have hc:=(P.cfg hv).1
   rw[hgl]at hc
   have st:stepO c g (q.2.1:Int)=some (fireR c g (q.2.2.1:Int)).1:=by
    unfold stepO stepM
    simp only[P.check,Option.bind_some,bne_self,hv,b2,hgl,b3,Bool.not_true,Bool.false_eq_true,if_false,List.length_cons,List.length_nil,show (((0+1:Nat):Int)==0)=false from rfl,show (((0+1:Nat):Int)==1)=true from rfl,if_true]
    rfl
   have hm2:=reach_step hs hg b1 st
   refine reachB_iff.2 ⟨_,hm2,?_⟩
   rw[hc]
   exact b4
  ·exact hx x hm
def liveT (c:T27) (w:List (Int×Nat)):Bool:=(List.range c.Transitions.length).all fun t=>(leavesS c).contains (w.getD t default).1&&(decide ((w.getD t default).2 < numV c)&&(allowedS c ((w.getD t default).2:Int)&&hasK (enabledS c (w.getD t default).1 ((w.getD t default).2:Int)) (enabledS c (w.getD t default).1 ((w.getD t default).2:Int)).length (t:Int)))
theorem Calm.none (P:Calm c) {l:List (Int×Nat×Nat×Int)} {w:List (Int×Nat)} (hr:reachT c [(startS c).1] l=true) (hw:liveT c w=true):findM c=some ([],0):=by
 obtain⟨s,hs⟩:=P.search
 have I:=searchS_inv P.fit P.check hs
 have W:=searchS_wy P.fit P.check hs
 have R:=P.reach hs I hr (fun x hx=>by
  simp only[List.mem_singleton]at hx
  subst hx
  exact reachB_iff.2 ⟨begG c,by rw[← W.i0];exact getD_mem I.pos,rfl⟩)
 have k:∀ kind,kindL c s kind=[]:=fun kind=>by
  rw[List.eq_nil_iff_forall_not_mem]
  intro x hx
  obtain⟨leaf,hl,_,hf⟩:=kind_mem.1 hx
  obtain⟨v,hv,ha,⟨_,h1,_⟩ | ⟨_,h1,_⟩⟩:=leafFd_some hf
  ·have:=P.one v hv leaf hl ha;omega
  ·have:=P.one v hv leaf hl ha;omega
 have at_:∀ i,i < (leavesS c).length→reachB s (leafA c i)=true:=fun i hi=>R _ (getD_mem hi)
 have u:(List.range (leavesS c).length).flatMap (unrG c s)=[]:=by
  rw[List.flatMap_eq_nil_iff]
  intro i hi
  unfold unrG
  rw[if_pos (at_ i (List.mem_range.1 hi))]
 have d:(List.range c.Transitions.length).flatMap (deadG c s)=[]:=by
  rw[List.flatMap_eq_nil_iff]
  intro t ht
  have h:=List.all_eq_true.1 hw t ht
  simp only[Bool.and_eq_true,decide_eq_true_eq]at h
  obtain⟨h1,h2,h3,h4⟩:=h
  unfold deadG
  rw[if_pos]
  have h1:(w.getD t default).1∈leavesS c:=by simpa using h1
  obtain⟨i,hi,he⟩:=List.getElem_of_mem h1
  have e:leafA c i=(w.getD t default).1:=by simp[leafA,List.getD_eq_getElem?_getD,List.getElem?_eq_getElem hi,he]
  refine anyR_iff.2 ⟨i,hi,?_⟩
  rw[at_ i hi,Bool.true_and,e]
  refine anyR_iff.2 ⟨_,h2,?_⟩
  unfold aliveV
  rw[h3,h4];rfl
 unfold findM
 simp only[P.check,Option.bind_some,bne_self,Bool.false_eq_true,if_false,hs]
 unfold findS
 rw[k,k,u,d]
 rfl
end
end Go.Av
namespace Go.Av.Mo
def C1:T27:=⟨[76,65,84,69,82,65,76],[[71,82,79,85,78,68],[72,69,65,68,73,78,71],[78,65,86],[82,69,65,68,89],[90,79,78,69],[70,73,78,65,76],[71,79]],[],[⟨[79,78],(-1),1,false,[],[]⟩,⟨[82,79,76,76],0,(-1),false,[],[]⟩,⟨[72,69,65,68,73,78,71],0,(-1),false,[],[]⟩,⟨[65,82,77,69,68],0,(-1),false,[],[]⟩,⟨[78,65,86],0,(-1),false,[],[]⟩,⟨[65,80,80,82,79,65,67,72],0,(-1),false,[],[]⟩,⟨[71,79,65,82,79,85,78,68],0,(-1),false,[],[]⟩],1,[⟨0,1,[⟨0,false⟩],[]⟩,⟨0,6,[⟨0,true⟩,⟨6,false⟩],[]⟩,⟨0,2,[⟨0,true⟩,⟨1,false⟩,⟨6,true⟩],[]⟩,⟨1,1,[⟨0,true⟩,⟨1,true⟩,⟨2,true⟩,⟨6,true⟩],[]⟩,⟨1,1,[⟨0,true⟩,⟨1,true⟩,⟨2,false⟩,⟨3,true⟩,⟨6,true⟩],[]⟩,⟨1,3,[⟨0,true⟩,⟨1,true⟩,⟨2,false⟩,⟨3,false⟩,⟨4,true⟩,⟨6,true⟩],[]⟩,⟨1,4,[⟨0,true⟩,⟨1,true⟩,⟨2,false⟩,⟨3,false⟩,⟨4,false⟩,⟨5,true⟩,⟨6,true⟩],[[67,65,80,84,85,82,69,68]]⟩,⟨1,5,[⟨0,true⟩,⟨1,true⟩,⟨2,false⟩,⟨3,false⟩,⟨4,false⟩,⟨5,false⟩,⟨6,true⟩],[[67,65,80,84,85,82,69,68]]⟩,⟨2,2,[⟨0,true⟩,⟨1,true⟩,⟨2,true⟩,⟨6,true⟩],[]⟩,⟨2,2,[⟨0,true⟩,⟨1,true⟩,⟨2,false⟩,⟨3,true⟩,⟨6,true⟩],[]⟩,⟨2,3,[⟨0,true⟩,⟨1,true⟩,⟨2,false⟩,⟨3,false⟩,⟨4,true⟩,⟨6,true⟩],[]⟩,⟨2,4,[⟨0,true⟩,⟨1,true⟩,⟨2,false⟩,⟨3,false⟩,⟨4,false⟩,⟨5,true⟩,⟨6,true⟩],[[67,65,80,84,85,82,69,68]]⟩,⟨2,5,[⟨0,true⟩,⟨1,true⟩,⟨2,false⟩,⟨3,false⟩,⟨4,false⟩,⟨5,false⟩,⟨6,true⟩],[[67,65,80,84,85,82,69,68]]⟩,⟨3,2,[⟨0,true⟩,⟨1,true⟩,⟨3,true⟩,⟨6,true⟩],[[76,65,84,82,69,86]]⟩,⟨3,3,[⟨0,true⟩,⟨1,true⟩,⟨3,false⟩,⟨4,true⟩,⟨6,true⟩],[]⟩,⟨3,4,[⟨0,true⟩,⟨1,true⟩,⟨3,false⟩,⟨4,false⟩,⟨5,true⟩,⟨6,true⟩],[[67,65,80,84,85,82,69,68]]⟩,⟨3,5,[⟨0,true⟩,⟨1,true⟩,⟨3,false⟩,⟨4,false⟩,⟨5,false⟩,⟨6,true⟩],[[67,65,80,84,85,82,69,68]]⟩,⟨4,2,[⟨0,true⟩,⟨1,true⟩,⟨3,true⟩,⟨6,true⟩],[[76,65,84,82,69,86]]⟩,⟨4,4,[⟨0,true⟩,⟨1,true⟩,⟨3,false⟩,⟨5,true⟩,⟨6,true⟩],[]⟩,⟨4,5,[⟨0,true⟩,⟨1,true⟩,⟨3,false⟩,⟨5,false⟩,⟨6,true⟩],[]⟩,⟨5,2,[⟨0,true⟩,⟨1,true⟩,⟨3,true⟩,⟨6,true⟩],[[76,65,84,82,69,86]]⟩,⟨5,4,[⟨0,true⟩,⟨1,true⟩,⟨3,false⟩,⟨5,true⟩,⟨6,true⟩],[]⟩,⟨5,5,[⟨0,true⟩,⟨1,true⟩,⟨3,false⟩,⟨5,false⟩,⟨6,true⟩],[]⟩,⟨6,6,[⟨0,true⟩,⟨1,true⟩,⟨2,true⟩,⟨6,true⟩],[]⟩,⟨6,6,[⟨0,true⟩,⟨1,true⟩,⟨2,false⟩,⟨3,true⟩,⟨6,true⟩],[]⟩,⟨6,3,[⟨0,true⟩,⟨1,true⟩,⟨2,false⟩,⟨3,false⟩,⟨4,true⟩,⟨6,true⟩],[]⟩,⟨6,4,[⟨0,true⟩,⟨1,true⟩,⟨2,false⟩,⟨3,false⟩,⟨4,false⟩,⟨5,true⟩,⟨6,true⟩],[[67,65,80,84,85,82,69,68]]⟩,⟨6,5,[⟨0,true⟩,⟨1,true⟩,⟨2,false⟩,⟨3,false⟩,⟨4,false⟩,⟨5,false⟩,⟨6,true⟩],[[67,65,80,84,85,82,69,68]]⟩]⟩
def C2:T27:=⟨[86,69,82,84,73,67,65,76],[[71,82,79,85,78,68],[82,69,65,68,89],[70,73,78,65,76],[71,79],[72,79,76,68],[83,80,69,69,68],[67,72,65,78,71,69],[65,66,79,86,69],[84,65,75,69],[78,69,65,82],[65,84]],[[⟨1,true⟩,⟨8,false⟩],[⟨9,true⟩,⟨10,false⟩]],[⟨[79,78],(-1),1,false,[],[]⟩,⟨[72,79,76,68],0,(-1),false,[],[]⟩,⟨[67,76,73,77,66],0,(-1),false,[],[]⟩,⟨[68,69,83,67,69,78,68],0,(-1),false,[],[]⟩,⟨[83,80,69,69,68],0,(-1),false,[],[]⟩,⟨[67,65,80,84,85,82,69],0,(-1),false,[],[]⟩,⟨[80,65,84,72],0,(-1),false,[],[]⟩,⟨[71,76,73,68,69],0,(-1),false,[],[]⟩,⟨[71,79,65,82,79,85,78,68],0,(-1),false,[],[]⟩],1,[⟨0,1,[⟨0,false⟩],[]⟩,⟨0,8,[⟨0,true⟩,⟨3,false⟩],[]⟩,⟨0,1,[⟨0,true⟩,⟨3,true⟩,⟨4,false⟩],[]⟩,⟨0,4,[⟨0,true⟩,⟨3,true⟩,⟨4,true⟩,⟨5,false⟩],[]⟩,⟨0,2,[⟨0,true⟩,⟨3,true⟩,⟨4,true⟩,⟨5,true⟩,⟨6,false⟩,⟨7,false⟩],[]⟩,⟨0,3,[⟨0,true⟩,⟨3,true⟩,⟨4,true⟩,⟨5,true⟩,⟨6,false⟩,⟨7,true⟩],[]⟩,⟨0,6,[⟨0,true⟩,⟨2,true⟩,⟨3,true⟩,⟨4,true⟩,⟨5,true⟩,⟨6,true⟩,⟨8,false⟩],[[67,65,80,84,85,82,69,68]]⟩,⟨0,7,[⟨0,true⟩,⟨2,false⟩,⟨3,true⟩,⟨4,true⟩,⟨5,true⟩,⟨6,true⟩,⟨8,false⟩],[[67,65,80,84,85,82,69,68]]⟩,⟨1,1,[⟨0,true⟩,⟨3,true⟩,⟨4,true⟩,⟨5,true⟩,⟨6,true⟩,⟨8,true⟩],[]⟩,⟨2,5,[⟨0,true⟩,⟨3,true⟩,⟨4,true⟩,⟨5,true⟩,⟨6,true⟩,⟨8,true⟩,⟨9,false⟩],[]⟩,⟨2,2,[⟨0,true⟩,⟨3,true⟩,⟨4,true⟩,⟨5,true⟩,⟨6,true⟩,⟨8,true⟩,⟨9,true⟩],[]⟩,⟨3,5,[⟨0,true⟩,⟨3,true⟩,⟨4,true⟩,⟨5,true⟩,⟨6,true⟩,⟨8,true⟩,⟨9,false⟩],[]⟩,⟨3,3,[⟨0,true⟩,⟨3,true⟩,⟨4,true⟩,⟨5,true⟩,⟨6,true⟩,⟨8,true⟩,⟨9,true⟩],[]⟩,⟨4,5,[⟨0,true⟩,⟨3,true⟩,⟨4,true⟩,⟨5,true⟩,⟨6,true⟩,⟨8,true⟩,⟨9,false⟩],[]⟩,⟨4,4,[⟨0,true⟩,⟨3,true⟩,⟨4,true⟩,⟨5,true⟩,⟨6,true⟩,⟨8,true⟩,⟨9,true⟩],[]⟩,⟨5,1,[⟨0,true⟩,⟨3,true⟩,⟨4,true⟩,⟨5,true⟩,⟨6,true⟩,⟨8,true⟩,⟨10,false⟩],[]⟩,⟨5,5,[⟨0,true⟩,⟨3,true⟩,⟨4,true⟩,⟨5,true⟩,⟨6,true⟩,⟨8,true⟩,⟨9,false⟩,⟨10,true⟩],[]⟩,⟨5,2,[⟨0,true⟩,⟨3,true⟩,⟨4,true⟩,⟨5,true⟩,⟨6,true⟩,⟨7,false⟩,⟨8,true⟩,⟨9,true⟩,⟨10,true⟩],[[79,86,69,82,83,72,79,84]]⟩,⟨5,3,[⟨0,true⟩,⟨3,true⟩,⟨4,true⟩,⟨5,true⟩,⟨6,true⟩,⟨7,true⟩,⟨8,true⟩,⟨9,true⟩,⟨10,true⟩],[[79,86,69,82,83,72,79,84]]⟩,⟨6,1,[⟨0,true⟩,⟨1,true⟩,⟨3,true⟩,⟨4,true⟩,⟨5,true⟩,⟨6,true⟩,⟨8,true⟩],[[86,69,82,84,82,69,86]]⟩,⟨6,6,[⟨0,true⟩,⟨1,false⟩,⟨2,true⟩,⟨3,true⟩,⟨4,true⟩,⟨5,true⟩,⟨6,true⟩,⟨8,true⟩],[]⟩,⟨6,7,[⟨0,true⟩,⟨1,false⟩,⟨2,false⟩,⟨3,true⟩,⟨4,true⟩,⟨5,true⟩,⟨6,true⟩,⟨8,true⟩],[]⟩,⟨7,1,[⟨0,true⟩,⟨1,true⟩,⟨3,true⟩,⟨4,true⟩,⟨5,true⟩,⟨6,true⟩,⟨8,true⟩],[[86,69,82,84,82,69,86]]⟩,⟨7,6,[⟨0,true⟩,⟨1,false⟩,⟨2,true⟩,⟨3,true⟩,⟨4,true⟩,⟨5,true⟩,⟨6,true⟩,⟨8,true⟩],[]⟩,⟨7,7,[⟨0,true⟩,⟨1,false⟩,⟨2,false⟩,⟨3,true⟩,⟨4,true⟩,⟨5,true⟩,⟨6,true⟩,⟨8,true⟩],[]⟩,⟨8,5,[⟨0,true⟩,⟨3,true⟩,⟨4,true⟩,⟨5,true⟩,⟨6,true⟩,⟨8,true⟩,⟨9,false⟩],[]⟩,⟨8,8,[⟨0,true⟩,⟨3,true⟩,⟨4,true⟩,⟨5,true⟩,⟨6,true⟩,⟨8,true⟩,⟨9,true⟩],[]⟩]⟩
def C3:T27:=⟨[80,72,65,83,69],[[71,82,79,85,78,68],[70,73,78,65,76],[71,79],[84,72,82,85,83,84],[65,67,67,69,76],[76,69,86,69,76],[68,79,87,78],[83,84,79,80,80,69,68]],[[⟨0,false⟩,⟨4,false⟩],[⟨0,true⟩,⟨7,false⟩]],[⟨[65,73,82],(-1),3,false,[],[]⟩,⟨[80,82,69,70,76,84],(-1),(-1),false,[],[]⟩,⟨[84,65,75,69,79,70,70],(-1),(-1),false,[],[]⟩,⟨[67,76,73,77,66],0,(-1),false,[],[]⟩,⟨[67,82,85,73,83,69],0,(-1),false,[],[]⟩,⟨[68,69,83,67,69,78,84],0,(-1),false,[],[]⟩,⟨[65,80,80,82,79,65,67,72],0,(-1),false,[],[]⟩,⟨[71,79,65,82,79,85,78,68],0,(-1),false,[],[]⟩,⟨[76,65,78,68,69,68],(-1),(-1),false,[],[]⟩],1,[⟨0,8,[⟨0,false⟩],[[76,65,78,68,73,78,71]]⟩,⟨0,7,[⟨0,true⟩,⟨2,false⟩],[]⟩,⟨1,3,[⟨0,true⟩],[]⟩,⟨1,2,[⟨0,false⟩,⟨3,false⟩],[]⟩,⟨1,1,[⟨0,false⟩,⟨3,true⟩],[]⟩,⟨2,2,[⟨0,false⟩,⟨3,false⟩],[]⟩,⟨2,1,[⟨0,false⟩,⟨3,true⟩],[[82,69,74,69,67,84,69,68]]⟩,⟨2,2,[⟨0,true⟩,⟨4,true⟩],[]⟩,⟨2,0,[⟨0,true⟩,⟨4,false⟩],[]⟩,⟨3,6,[⟨0,true⟩,⟨1,false⟩,⟨2,true⟩],[]⟩,⟨3,4,[⟨0,true⟩,⟨1,true⟩,⟨2,true⟩,⟨5,false⟩],[]⟩,⟨3,5,[⟨0,true⟩,⟨1,true⟩,⟨2,true⟩,⟨5,true⟩,⟨6,false⟩],[]⟩,⟨3,3,[⟨0,true⟩,⟨1,true⟩,⟨2,true⟩,⟨5,true⟩,⟨6,true⟩],[]⟩,⟨4,6,[⟨0,true⟩,⟨1,false⟩,⟨2,true⟩],[]⟩,⟨4,5,[⟨0,true⟩,⟨1,true⟩,⟨2,true⟩,⟨6,false⟩],[]⟩,⟨4,4,[⟨0,true⟩,⟨1,true⟩,⟨2,true⟩,⟨5,false⟩,⟨6,true⟩],[]⟩,⟨4,3,[⟨0,true⟩,⟨1,true⟩,⟨2,true⟩,⟨5,true⟩,⟨6,true⟩],[]⟩,⟨5,6,[⟨0,true⟩,⟨1,false⟩,⟨2,true⟩],[]⟩,⟨5,5,[⟨0,true⟩,⟨1,true⟩,⟨2,true⟩,⟨6,false⟩],[]⟩,⟨5,4,[⟨0,true⟩,⟨1,true⟩,⟨2,true⟩,⟨5,false⟩,⟨6,true⟩],[]⟩,⟨5,3,[⟨0,true⟩,⟨1,true⟩,⟨2,true⟩,⟨5,true⟩,⟨6,true⟩],[]⟩,⟨6,6,[⟨0,true⟩,⟨1,false⟩,⟨2,true⟩],[]⟩,⟨6,5,[⟨0,true⟩,⟨1,true⟩,⟨2,true⟩,⟨6,false⟩],[]⟩,⟨6,3,[⟨0,true⟩,⟨1,true⟩,⟨2,true⟩,⟨6,true⟩],[]⟩,⟨7,7,[⟨0,true⟩,⟨2,true⟩,⟨4,true⟩],[]⟩,⟨7,3,[⟨0,true⟩,⟨1,true⟩,⟨2,true⟩,⟨4,false⟩],[]⟩,⟨7,6,[⟨0,true⟩,⟨1,false⟩,⟨2,true⟩,⟨4,false⟩],[]⟩,⟨8,3,[⟨0,true⟩],[[84,79,85,67,72,71,79]]⟩,⟨8,2,[⟨0,false⟩,⟨3,false⟩],[]⟩,⟨8,1,[⟨0,false⟩,⟨3,true⟩,⟨7,false⟩],[]⟩,⟨8,8,[⟨0,false⟩,⟨3,true⟩,⟨7,true⟩],[]⟩]⟩
end Go.Av.Mo
set_option maxRecDepth 1000000
namespace Go.Av.Mo
open Go.Av.Ch
def fitB (c:T27):Bool:=decide (c.Conds.length≤1000)&&decide (c.Never.length≤1000)&&c.Never.all (fun l=>decide (l.length≤1000))&&decide (c.States.length≤1000)&&c.States.all (fun s=>decide (s.Entry.length≤1000)&&decide (s.Exit.length≤1000)) &&
 decide (c.Transitions.length≤1000)&&c.Transitions.all (fun t=>decide (t.When.length≤1000)&&decide (t.Actions.length≤1000))
theorem fit_of {c:T27} (h:fitB c=true):Fit c:=by
 simp only[fitB,Bool.and_eq_true,decide_eq_true_eq,List.all_eq_true]at h
 obtain⟨⟨⟨⟨⟨⟨h1,h2⟩,h3⟩,h4⟩,h5⟩,h6⟩,h7⟩:=h
 exact⟨h1,h2,h3,h4,fun s hs=>(h5 s hs).1,fun s hs=>(h5 s hs).2,h6,fun t ht=>(h7 t ht).1,fun t ht=>(h7 t ht).2⟩
theorem fit1:Fit C1:=fit_of (by kernel_rfl)
theorem fit2:Fit C2:=fit_of (by kernel_rfl)
theorem fit3:Fit C3:=fit_of (by kernel_rfl)
theorem chk1:checkM C1=some 0:=by kernel_rfl
theorem chk2:checkM C2=some 0:=by kernel_rfl
theorem chk3:checkM C3=some 0:=by kernel_rfl
end Go.Av.Mo
set_option maxRecDepth 1000000
namespace Go.Av.Mo
open Go.Av.Ch
def rep (c:T27):List Int:=List.replicate c.States.length (-1)
def maskL:List T151→Nat×Nat
 | []=>(0,0)
 | x :: l=>(2 ^ x.Cond.toNat+(maskL l).1,(if x.Neg=true then 0 else 2 ^ x.Cond.toNat)+(maskL l).2)
def ascB:Nat→List T151→Bool
 | _,[]=>true
 | n,x :: l=>decide (0≤x.Cond)&&decide (x.Cond≤15)&&decide (n≤x.Cond.toNat)&&ascB (x.Cond.toNat+1) l
theorem mask_mul:∀ {l:List T151} {n:Nat},ascB n l=true→∃ a b,(maskL l).1=2 ^ n * a∧(maskL l).2=2 ^ n * b
 | [],n,_=>⟨0,0,by simp[maskL],by simp[maskL]⟩
 | x :: l,n,h=>by
  simp only[ascB,Bool.and_eq_true,decide_eq_true_eq]at h
  obtain⟨⟨⟨h1,h2⟩,h3⟩,h4⟩:=h
  obtain⟨a,b,ha,hb⟩:=mask_mul h4
  obtain⟨d,hd⟩:=Nat.le.dest h3
  refine⟨2 ^ d * (1+2 * a),(if x.Neg=true then 0 else 2 ^ d)+2 ^ d * (2 * b),?_,?_⟩
  ·simp only[maskL,ha,← hd]
   rw[Nat.pow_add,Nat.pow_add,Nat.pow_add,Nat.mul_add,Nat.mul_add,Nat.pow_one]
   simp only[Nat.mul_one,Nat.one_mul,Nat.mul_assoc,Nat.mul_comm,Nat.mul_left_comm]
  ·simp only[maskL,hb,← hd]
   rw[Nat.pow_add,Nat.pow_add,Nat.pow_add,Nat.mul_add,Nat.pow_one]
   cases x.Neg<;>simp[Nat.mul_assoc,Nat.mul_comm,Nat.mul_left_comm]
theorem holds_cons {x:T151} {l:List T151} {v:Int}:holdsS (x :: l) v=(!litN v x&&holdsS l v):=by
 unfold holdsS
 rw[Bool.eq_iff_iff]
 simp only[Bool.and_eq_true,Bool.not_eq_true',anyR_false]
 constructor
 ·intro h
  exact⟨by simpa using h 0 (by simp),fun i hi=>by simpa using h (i+1) (by simpa using hi)⟩
 ·rintro⟨h1,h2⟩ i hi
  cases i with
  | zero=>simpa using h1
  | succ i=>simpa using h2 i (by simpa using hi)
theorem nbeq (a b:Nat):Nat.beq a b=(a==b):=by rw[Bool.eq_iff_iff,beq_iff_eq];exact⟨Nat.eq_of_beq_eq_true,fun h=>h ▸ Nat.beq_refl _⟩
theorem land_step {v k a b:Nat} {neg:Bool}:((v &&& (2 ^ k+2 ^ (k+1) * a))==((if neg=true then 0 else 2 ^ k)+2 ^ (k+1) * b))=((v.testBit k != neg)&&((v &&& (2 ^ (k+1) * a))==2 ^ (k+1) * b)):=by
 have t1:∀ (z:Nat) (j:Nat),(2 ^ k+2 ^ (k+1) * z).testBit j=((j==k) || (2 ^ (k+1) * z).testBit j):=fun z j=>by
  rw[Nat.add_comm,Nat.testBit_two_pow_mul_add _ (Nat.pow_lt_pow_right (by omega) (by omega)),Nat.testBit_two_pow_mul]
  by_cases h:j < k+1
  ·rw[if_pos h,decide_eq_false (by omega),Bool.false_and,Bool.or_false,Nat.testBit_two_pow,Bool.eq_iff_iff,decide_eq_true_eq,beq_iff_eq]
   omega
  ·have h2:(j==k)=false:=by rw[beq_eq_false_iff_ne];omega
   rw[if_neg h,decide_eq_true (by omega),Bool.true_and,h2,Bool.false_or]
 have t2:∀ (z:Nat),(2 ^ (k+1) * z).testBit k=false:=fun z=>by
  rw[Nat.testBit_two_pow_mul,decide_eq_false (by omega),Bool.false_and]
 rw[Bool.eq_iff_iff]
 simp only[beq_iff_eq,Bool.and_eq_true,bne_iff_ne,ne_eq]
 constructor
 ·intro h
  have hj:∀ j,(v &&& (2 ^ k+2 ^ (k+1) * a)).testBit j=((if neg=true then 0 else 2 ^ k)+2 ^ (k+1) * b).testBit j:=fun j=>by rw[h]
  refine⟨?_,?_⟩
  ·have:=hj k
   rw[Nat.testBit_and,t1,t2]at this
   cases neg with
   | true=>simp only[if_true,Nat.zero_add,t2]at this;simpa using this
   | false=>simp only[Bool.false_eq_true,if_false,t1,t2]at this;simpa using this
  ·apply Nat.eq_of_testBit_eq
   intro j
   have:=hj j
   rw[Nat.testBit_and,t1]at this
   rw[Nat.testBit_and]
   by_cases e:j=k
   ·subst e;rw[t2,t2,Bool.and_false]
   ·have e2:(j==k)=false:=by simpa using e
    rw[e2,Bool.false_or]at this
    rw[this]
    cases neg with
    | true=>simp
    | false=>simp only[Bool.false_eq_true,if_false,t1,e2,Bool.false_or]
 ·rintro⟨h1,h2⟩
  apply Nat.eq_of_testBit_eq
  intro j
  have hj:(v &&& (2 ^ (k+1) * a)).testBit j=(2 ^ (k+1) * b).testBit j:=by rw[h2]
  rw[Nat.testBit_and]at hj
  rw[Nat.testBit_and,t1]
  by_cases e:j=k
  ·subst e
   rw[beq_self_eq_true,Bool.true_or,Bool.and_true]
   cases neg with
   | true=>simp only[if_true,Nat.zero_add,t2];simpa using h1
   | false=>simp only[Bool.false_eq_true,if_false,t1,beq_self_eq_true,Bool.true_or];simpa using h1
  ·have e2:(j==k)=false:=by simpa using e
   rw[e2,Bool.false_or,hj]
   cases neg with
   | true=>simp
   | false=>simp only[Bool.false_eq_true,if_false,t1,e2,Bool.false_or]
theorem holds_mask:∀ {l:List T151} {n:Nat},ascB n l=true→∀ {v:Nat},holdsS l (v:Int)=((v &&& (maskL l).1)==(maskL l).2)
 | [],_,_,v=>by simp[maskL,holdsS,anyR]
 | x :: l,n,h,v=>by
  simp only[ascB,Bool.and_eq_true,decide_eq_true_eq]at h
  obtain⟨⟨⟨h1,h2⟩,h3⟩,h4⟩:=h
  obtain⟨a,b,ha,hb⟩:=mask_mul h4
  have ih:=holds_mask h4 (v:=v)
  rw[ha,hb]at ih
  simp only[maskL,ha,hb]
  rw[holds_cons,land_step,ih]
  congr 1
  unfold litN
  rw[bitV_eq (by omega) (by omega),Int.toNat_natCast]
  have d1:decide (x.Cond < 0)=false:=by simp;omega
  have d2:decide (15 < x.Cond)=false:=by simp;omega
  rw[d1,d2]
  cases v.testBit x.Cond.toNat<;>cases x.Neg<;>rfl
def cnt (v:Nat):List (Nat×Nat)→Nat
 | []=>0
 | q :: l=>cond (Nat.beq (Nat.land v q.1) q.2) (Nat.succ (cnt v l)) (cnt v l)
def anyM (v:Nat):List (Nat×Nat)→Bool
 | []=>false
 | q :: l=>cond (Nat.beq (Nat.land v q.1) q.2) true (anyM v l)
def tab (c:T27) (leaf:Int):List (Nat×Nat):=(List.range c.Transitions.length).flatMap fun i=>if hasK (pathS c leaf) (pathS c leaf).length (c.Transitions.getD i default).From=true then[maskL (c.Transitions.getD i default).When]else[]
def oneB (tabs:List (List (Nat×Nat))) (nev:List (Nat×Nat)):Nat→Bool
 | 0=>true
 | n+1=>cond (cond (anyM n nev) true (tabs.all fun t=>Nat.beq (cnt n t) 1)) (oneB tabs nev n) false
def ascC (c:T27):Bool:=c.Transitions.all (fun t=>ascB 0 t.When)&&c.Never.all (fun l=>ascB 0 l)
theorem cnt_tab {c:T27} (h:ascC c=true) {leaf:Int} {v:Nat}:(enabledS c leaf (v:Int)).length=cnt v (tab c leaf):=by
 simp only[ascC,Bool.and_eq_true,List.all_eq_true]at h
 unfold enabledS tab
 have key:∀ l:List Nat,(∀ i∈l,i < c.Transitions.length)→(l.flatMap (enabG c (pathS c leaf) (v:Int))).length=cnt v (l.flatMap fun i=>if hasK (pathS c leaf) (pathS c leaf).length (c.Transitions.getD i default).From=true then[maskL (c.Transitions.getD i default).When]else[]):=by
  intro l
  induction l with
  | nil=>intro _;rfl
  | cons i l ih =>
   intro hi
   have ih:=ih fun j hj=>hi j (List.mem_cons_of_mem _ hj)
   have hw:=h.1 _ (getD_mem (hi i (by simp)))
   rw[List.flatMap_cons,List.flatMap_cons,List.length_append,ih]
   unfold enabG
   cases hasK (pathS c leaf) (pathS c leaf).length (c.Transitions.getD i default).From with
   | false=>simp
   | true =>
    rw[holds_mask hw]
    simp only[Bool.true_and,if_true,List.cons_append,List.nil_append,cnt]
    have e:Nat.beq (Nat.land v (maskL (c.Transitions.getD i default).When).1) (maskL (c.Transitions.getD i default).When).2=((v &&& (maskL (c.Transitions.getD i default).When).1)==(maskL (c.Transitions.getD i default).When).2):=nbeq _ _
    rw[e]
    cases ((v &&& (maskL (c.Transitions.getD i default).When).1)==(maskL (c.Transitions.getD i default).When).2) with
    | false=>simp
    | true=>simp;omega
 exact key _ fun i hi=>List.mem_range.1 hi
theorem any_nev {c:T27} (h:ascC c=true) {v:Nat}:anyR (fun i=>holdsS (c.Never.getD i default) (v:Int)) c.Never.length=anyM v (c.Never.map maskL):=by
 simp only[ascC,Bool.and_eq_true,List.all_eq_true]at h
 have h:=h.2
 generalize c.Never=l at h
 induction l with
 | nil=>rfl
 | cons x l ih =>
  have e:anyR (fun i=>holdsS ((x :: l).getD i default) (v:Int)) (x :: l).length=(holdsS x (v:Int) || anyR (fun i=>holdsS (l.getD i default) (v:Int)) l.length):=by
   rw[Bool.eq_iff_iff,Bool.or_eq_true,anyR_iff,anyR_iff]
   constructor
   ·rintro⟨i,hi,hx⟩
    cases i with
    | zero=>exact .inl hx
    | succ i=>exact .inr ⟨i,by simpa using hi,by simpa using hx⟩
   ·rintro(hx | ⟨i,hi,hx⟩)
    ·exact⟨0,by simp,hx⟩
    ·exact⟨i+1,by simpa using hi,by simpa using hx⟩
  rw[e,ih fun y hy=>h y (List.mem_cons_of_mem _ hy),holds_mask (h x (by simp))]
  simp only[List.map_cons,anyM]
  have e:Nat.beq (Nat.land v (maskL x).1) (maskL x).2=((v &&& (maskL x).1)==(maskL x).2):=nbeq _ _
  rw[e]
  cases ((v &&& (maskL x).1)==(maskL x).2)<;>rfl
theorem one_of {c:T27} {ls:List Int} {n:Nat} (ha:ascC c=true) (H:oneB (ls.map (tab c)) (c.Never.map maskL) n=true) {v:Nat} (hv:v < n) {leaf:Int} (hl:leaf∈ls) (h:allowedS c (v:Int)=true):(enabledS c leaf (v:Int)).length=1:=by
 rw[cnt_tab ha]
 unfold allowedS at h
 simp only[Bool.and_eq_true,Bool.not_eq_true']at h
 have h:=h.2
 rw[any_nev ha]at h
 induction n with
 | zero=>omega
 | succ n ih =>
  unfold oneB at H
  cases hc:(cond (anyM n (c.Never.map maskL)) true ((ls.map (tab c)).all fun t=>Nat.beq (cnt n t) 1)) with
  | false=>rw[hc]at H;cases H
  | true =>
   rw[hc]at H
   by_cases e:v=n
   ·subst e
    rw[h]at hc
    simp only[cond_false,List.all_eq_true]at hc
    exact Nat.eq_of_beq_eq_true (hc _ (List.mem_map_of_mem hl))
   ·exact ih H (by omega)
theorem asc1:ascC C1=true:=by kernel_rfl
theorem asc2:ascC C2=true:=by kernel_rfl
theorem asc3:ascC C3=true:=by kernel_rfl
theorem tab1:(leavesS C1).map (tab C1)=[[(1,1),(65,64),(67,2),(71,0),(79,4),(95,12),(127,28),(127,60)],[(1,1),(65,64),(67,2),(71,0),(79,4),(95,12),(127,28),(127,60)],[(1,1),(65,64),(67,2),(75,0),(91,8),(123,24),(123,56)],[(1,1),(65,64),(67,2),(75,0),(107,8),(107,40)],[(1,1),(65,64),(67,2),(75,0),(107,8),(107,40)],[(1,1),(65,64),(67,2),(71,0),(79,4),(95,12),(127,28),(127,60)]]:=by kernel_rfl
theorem nev1:C1.Never.map maskL=([]:List (Nat×Nat)):=by kernel_rfl
theorem all1:oneB ((leavesS C1).map (tab C1)) (C1.Never.map maskL) 128=true:=by rw[tab1,nev1];kernel_rfl
theorem one1 {v:Nat} (hv:v < 128) {leaf:Int} (hl:leaf∈leavesS C1) (h:allowedS C1 (v:Int)=true):(enabledS C1 leaf (v:Int)).length=1:=one_of asc1 all1 hv hl h
theorem tab2:(leavesS C2).map (tab C2)=[[(1,1),(9,8),(25,16),(57,32),(249,192),(249,64),(381,256),(381,260),(377,0)],[(1,1),(9,8),(25,16),(57,32),(249,192),(249,64),(381,256),(381,260),(889,512),(889,0)],[(1,1),(9,8),(25,16),(57,32),(249,192),(249,64),(381,256),(381,260),(889,512),(889,0)],[(1,1),(9,8),(25,16),(57,32),(249,192),(249,64),(381,256),(381,260),(889,512),(889,0)],[(1,1),(9,8),(25,16),(57,32),(249,192),(249,64),(381,256),(381,260),(1401,1024),(1913,512),(2041,128),(2041,0)],[(1,1),(9,8),(25,16),(57,32),(249,192),(249,64),(381,256),(381,260),(379,0),(383,2),(383,6)],[(1,1),(9,8),(25,16),(57,32),(249,192),(249,64),(381,256),(381,260),(379,0),(383,2),(383,6)],[(1,1),(9,8),(25,16),(57,32),(249,192),(249,64),(381,256),(381,260),(889,512),(889,0)]]:=by kernel_rfl
theorem nev2:C2.Never.map maskL=[(258,256),(1536,1024)]:=by kernel_rfl
theorem all2:oneB ((leavesS C2).map (tab C2)) (C2.Never.map maskL) 2048=true:=by rw[tab2,nev2];kernel_rfl
theorem one2 {v:Nat} (hv:v < 2048) {leaf:Int} (hl:leaf∈leavesS C2) (h:allowedS C2 (v:Int)=true):(enabledS C2 leaf (v:Int)).length=1:=one_of asc2 all2 hv hl h
theorem tab3:(leavesS C3).map (tab C3)=[[(1,0),(9,9),(9,1)],[(9,9),(9,1),(17,0),(17,16)],[(1,1),(5,4),(7,2),(39,32),(103,64),(103,0)],[(1,1),(5,4),(7,2),(71,64),(103,32),(103,0)],[(1,1),(5,4),(7,2),(71,64),(103,32),(103,0)],[(1,1),(5,4),(7,2),(71,64),(71,0)],[(1,1),(5,4),(21,0),(23,16),(23,18)],[(1,0),(9,9),(137,129),(137,1)]]:=by kernel_rfl
theorem nev3:C3.Never.map maskL=[(17,17),(129,128)]:=by kernel_rfl
theorem all3:oneB ((leavesS C3).map (tab C3)) (C3.Never.map maskL) 256=true:=by rw[tab3,nev3];kernel_rfl
theorem one3 {v:Nat} (hv:v < 256) {leaf:Int} (hl:leaf∈leavesS C3) (h:allowedS C3 (v:Int)=true):(enabledS C3 leaf (v:Int)).length=1:=one_of asc3 all3 hv hl h
end Go.Av.Mo
set_option maxRecDepth 1000000
namespace Go.Av.Mo
theorem M19 (a0:T49) (a1:Int):m19 a0 a1=((Option.bind (Option.bind (Option.bind (m23 a0) fun r=>some r) fun x1=>(if(!x1)=true then(some (.inr (((⟨(0:Int),(0:Int),(0:Int)⟩:T49),[],(8:Int)))))else(Option.bind (((m24 ).bind fun r3_0=>(if 0≤(r3_0.length:Int)then some r3_0 else none))) fun(x3:((List (List UInt8))))=>(if((Int.fdiv a1 (2 ^ (min (x3.length:Int).toNat (IntKind.bits .u32)))) != 0)=true then(some (.inr (((⟨(0:Int),(0:Int),(0:Int)⟩:T49),[],(1:Int)))))else(some (.inl ())))))) (onS fun(_:Unit)=>(Option.bind (Option.bind (some (.inl ())) (onS fun(_:Unit)=>(Option.bind (Option.bind (some (.inl ())) (onS fun(_:Unit)=>(Option.bind (some (.inl ())) (onS fun(_:Unit)=>(Option.bind (Option.bind (Option.bind (Option.bind (m20 (1:Int)) fun r=>some r) fun x11=>(Option.bind (Option.bind (m61 x11.1 a1) fun r=>some r) fun x12=>(some (.inl (x12.1,x12.2,x11.1))))) (onS fun(y1:Int×Bool×T27)=>(Option.bind (Option.bind (some (.inl ())) (onS fun(_:Unit)=>(if(!y1.2.1)=true then(some (.inr (.inr (.inr (.inr (((⟨(0:Int),(0:Int),(0:Int)⟩:T49),[],(11:Int))))))))else(some (.inl ()))))) (onS fun(_:Unit)=>(some (.inl (y1.2.2,y1.1))))))) (onS fun(y2:T27×Int)=>(some (.inl (y2.1,y2.2))))))))) (onS fun(y3:T27×Int)=>(Option.bind (Option.bind (some (.inl ())) (onS fun(_:Unit)=>(Option.bind (some (.inl ())) (onS fun(_:Unit)=>(Option.bind (Option.bind (Option.bind (Option.bind (m20 (2:Int)) fun r=>some r) fun x11=>(Option.bind (Option.bind (m61 x11.1 a1) fun r=>some r) fun x12=>(some (.inl (x12.1,x12.2,x11.1))))) (onS fun(y4:Int×Bool×T27)=>(Option.bind (Option.bind (some (.inl ())) (onS fun(_:Unit)=>(if(!y4.2.1)=true then(some (.inr (.inr (.inr (.inr (((⟨(0:Int),(0:Int),(0:Int)⟩:T49),[],(11:Int))))))))else(some (.inl ()))))) (onS fun(_:Unit)=>(some (.inl (y4.2.2,y4.1))))))) (onS fun(y5:T27×Int)=>(some (.inl (y5.1,y5.2))))))))) (onS fun(y6:T27×Int)=>(Option.bind (Option.bind (some (.inl ())) (onS fun(_:Unit)=>(Option.bind (some (.inl ())) (onS fun(_:Unit)=>(Option.bind (Option.bind (Option.bind (Option.bind (m20 (3:Int)) fun r=>some r) fun x11=>(Option.bind (Option.bind (m61 x11.1 a1) fun r=>some r) fun x12=>(some (.inl (x12.1,x12.2,x11.1))))) (onS fun(y7:Int×Bool×T27)=>(Option.bind (Option.bind (some (.inl ())) (onS fun(_:Unit)=>(if(!y7.2.1)=true then(some (.inr (.inr (.inr (.inr (((⟨(0:Int),(0:Int),(0:Int)⟩:T49),[],(11:Int))))))))else(some (.inl ()))))) (onS fun(_:Unit)=>(some (.inl (y7.2.2,y7.1))))))) (onS fun(y8:T27×Int)=>(some (.inl (y8.1,y8.2))))))))) (onS fun(y9:T27×Int)=>(Option.bind (Option.bind (some (.inl ())) (onS fun(_:Unit)=>(Option.bind (some (.inr (.inr (.inl (y3.1,y6.1,y9.1,y3.2,y6.2,y9.2))))) onE))) onE))))))))) (onS fun(y10:T27×T27×T27×Int×Int×Int)=>(Option.bind (some (.inl ())) (onS fun(_:Unit)=>(Option.bind (Option.bind (some (.inl ())) (onS fun(_:Unit)=>(Option.bind (Option.bind (some (.inl ())) (onS fun(_:Unit)=>(Option.bind (some (.inl ())) (onS fun(_:Unit)=>(Option.bind (Option.bind (Option.bind (Option.bind (m55 ([(-1:Int)]:List Int) (y10.1.States.length:Int)) fun r=>some r) fun x22=>(Option.bind (Option.bind (m16 y10.1 (⟨(IntKind.wrap .i64 (a0.Lateral)),x22⟩:T41) y10.2.2.2.1) fun r=>some r) fun x23=>(some (.inl (x23.2.1,x23.2.2,x23.1))))) (onS fun(y11:(List (List UInt8))×Int×T41)=>(Option.bind (Option.bind (some (.inl ())) (onS fun(_:Unit)=>(if(y11.2.1 != 0)=true then(some (.inr (.inr (.inr (.inr (((⟨(0:Int),(0:Int),(0:Int)⟩:T49),[],y11.2.1)))))))else(some (.inl ()))))) (onS fun(_:Unit)=>(if(y11.1.length * 16≤140737488355328)then(some (.inl (y11.1,(IntKind.wrap .u8 (y11.2.2.Leaf)))))else none))))) (onS fun(y12:(List (List UInt8))×Int)=>(some (.inl (y12.1,y12.2))))))))) (onS fun(y13:(List (List UInt8))×Int)=>(Option.bind (Option.bind (some (.inl ())) (onS fun(_:Unit)=>(Option.bind (some (.inl ())) (onS fun(_:Unit)=>(Option.bind (Option.bind (Option.bind (Option.bind (m55 ([(-1:Int)]:List Int) (y10.2.1.States.length:Int)) fun r=>some r) fun x22=>(Option.bind (Option.bind (m16 y10.2.1 (⟨(IntKind.wrap .i64 (a0.Vertical)),x22⟩:T41) y10.2.2.2.2.1) fun r=>some r) fun x23=>(some (.inl (x23.2.1,x23.2.2,x23.1))))) (onS fun(y14:(List (List UInt8))×Int×T41)=>(Option.bind (Option.bind (some (.inl ())) (onS fun(_:Unit)=>(if(y14.2.1 != 0)=true then(some (.inr (.inr (.inr (.inr (((⟨(0:Int),(0:Int),(0:Int)⟩:T49),[],y14.2.1)))))))else(some (.inl ()))))) (onS fun(_:Unit)=>(if((y13.1.length+y14.1.length) * 16≤140737488355328)then(some (.inl ((y13.1++y14.1),(IntKind.wrap .u8 (y14.2.2.Leaf)))))else none))))) (onS fun(y15:(List (List UInt8))×Int)=>(some (.inl (y15.1,y15.2))))))))) (onS fun(y16:(List (List UInt8))×Int)=>(Option.bind (Option.bind (some (.inl ())) (onS fun(_:Unit)=>(Option.bind (some (.inl ())) (onS fun(_:Unit)=>(Option.bind (Option.bind (Option.bind (Option.bind (m55 ([(-1:Int)]:List Int) (y10.2.2.1.States.length:Int)) fun r=>some r) fun x22=>(Option.bind (Option.bind (m16 y10.2.2.1 (⟨(IntKind.wrap .i64 (a0.Phase)),x22⟩:T41) y10.2.2.2.2.2) fun r=>some r) fun x23=>(some (.inl (x23.2.1,x23.2.2,x23.1))))) (onS fun(y17:(List (List UInt8))×Int×T41)=>(Option.bind (Option.bind (some (.inl ())) (onS fun(_:Unit)=>(if(y17.2.1 != 0)=true then(some (.inr (.inr (.inr (.inr (((⟨(0:Int),(0:Int),(0:Int)⟩:T49),[],y17.2.1)))))))else(some (.inl ()))))) (onS fun(_:Unit)=>(if((y16.1.length+y17.1.length) * 16≤140737488355328)then(some (.inl ((y16.1++y17.1),(IntKind.wrap .u8 (y17.2.2.Leaf)))))else none))))) (onS fun(y18:(List (List UInt8))×Int)=>(some (.inl (y18.1,y18.2))))))))) (onS fun(y19:(List (List UInt8))×Int)=>(Option.bind (Option.bind (some (.inl ())) (onS fun(_:Unit)=>(Option.bind (some (.inr (.inr (.inl (y19.1,y13.2,y16.2,y19.2))))) onE))) onE))))))))) (onS fun(y20:(List (List UInt8))×Int×Int×Int)=>(some ((⟨y20.2.1,y20.2.2.1,y20.2.2.2⟩:T49),y20.1,(0:Int))))))))))):Option (T49×(List (List UInt8))×Int)):=by kernel_rfl
theorem Step_of {l v p b:Int} {c1 c2 c3:T27} {v1 v2 v3:Int} {g1 g2 g3:T41×List (List UInt8)×Int} {nl:List (List UInt8)} {q1 q2 q3:List Int}
  (e0:m23 ⟨l,v,p⟩=some true) (en:m24=some nl) (hn:(0:Int)≤(nl.length:Int)) (hs:(Int.fdiv b (2 ^ (min (nl.length:Int).toNat (IntKind.bits .u32))) != (0:Int))=false)
  (r1:m20 1=some (c1,0)) (r2:m20 2=some (c2,0)) (r3:m20 3=some (c3,0)) (w1:m61 c1 b=some (v1,true)) (w2:m61 c2 b=some (v2,true)) (w3:m61 c3 b=some (v3,true))
  (p1:m55 ([-1]:List Int) (c1.States.length:Int)=some q1) (p2:m55 ([-1]:List Int) (c2.States.length:Int)=some q2) (p3:m55 ([-1]:List Int) (c3.States.length:Int)=some q3)
  (s1:m16 c1 ⟨l,q1⟩ v1=some g1) (s2:m16 c2 ⟨v,q2⟩ v2=some g2) (s3:m16 c3 ⟨p,q3⟩ v3=some g3) (o1:g1.2.2=0) (o2:g2.2.2=0) (o3:g3.2.2=0)
  (f1:g1.2.1.length≤100000) (f2:g2.2.1.length≤100000) (f3:g3.2.1.length≤100000) (hl:0≤l∧l < 256) (hv:0≤v∧v < 256) (hp:0≤p∧p < 256)
  (k1:0≤g1.1.Leaf∧g1.1.Leaf < 256) (k2:0≤g2.1.Leaf∧g2.1.Leaf < 256) (k3:0≤g3.1.Leaf∧g3.1.Leaf < 256) :
  m19 ⟨l,v,p⟩ b=some (⟨g1.1.Leaf,g2.1.Leaf,g3.1.Leaf⟩,g1.2.1++g2.2.1++g3.2.1,0):=by
 have z1:IntKind.wrap .i64 l=l:=w64 (by omega) (by omega)
 have z2:IntKind.wrap .i64 v=v:=w64 (by omega) (by omega)
 have z3:IntKind.wrap .i64 p=p:=w64 (by omega) (by omega)
 have k1:IntKind.wrap .u8 g1.1.Leaf=g1.1.Leaf:=IntWalk.u8_in _ (by omega)
 have k2:IntKind.wrap .u8 g2.1.Leaf=g2.1.Leaf:=IntWalk.u8_in _ (by omega)
 have k3:IntKind.wrap .u8 g3.1.Leaf=g3.1.Leaf:=IntWalk.u8_in _ (by omega)
 have m1:g1.2.1.length * 16≤140737488355328:=by omega
 have m2:(g1.2.1.length+g2.2.1.length) * 16≤140737488355328:=by omega
 have m3:((g1.2.1++g2.2.1).length+g3.2.1.length) * 16≤140737488355328:=by rw[List.length_append];omega
 simp only[M19,bind_id]
 generalize m20=F at r1 r2 r3 ⊢
 generalize m61=G at w1 w2 w3 ⊢
 generalize m16=S at s1 s2 s3 ⊢
 generalize m55=Q at p1 p2 p3 ⊢
 generalize m23=V at e0 ⊢
 generalize m24=M at en ⊢
 simp only[e0,en,hn,hs,r1,w1,r2,w2,r3,w3,p1,p2,p3,z1,z2,z3,s1,s2,s3,o1,o2,o3,m1,m2,m3,k1,k2,k3,
  bs,ol,or_,oe,bne_self_eq_false,Bool.not_true,Bool.not_false,Bool.true_and,Bool.false_and,Bool.false_eq_true,if_false,if_true]
end Go.Av.Mo
set_option maxRecDepth 1000000
namespace Go.Av.Mo
theorem read1:(m20 1)=some (C1,0):=by kernel_rfl
end Go.Av.Mo
set_option maxRecDepth 1000000
namespace Go.Av.Mo
theorem read2:(m20 2)=some (C2,0):=by kernel_rfl
end Go.Av.Mo
set_option maxRecDepth 1000000
namespace Go.Av.Mo
theorem read3:(m20 3)=some (C3,0):=by kernel_rfl
end Go.Av.Mo
set_option maxRecDepth 1000000
namespace Go.Av.Mo
theorem M18:m18  = ((Option.bind (((m59 ).bind fun r1_0=>((m19 r1_0 (16385:Int)).bind fun r1_1=>some (r1_0,r1_1)))) fun(x1:(T49×(T49×(List (List UInt8))×Int)))=>(Option.bind (Option.bind (m19 x1.2.1 (28:Int)) fun r=>some r) fun x2=>(Option.bind (((m60 x1.2.1).bind fun r3_0=>((if(((r3_0==([82,79,76,76,32,72,79,76,68,32,84,65,75,69,79,70,70]:List UInt8))&&((x1.2.2.1.length:Int)==(0:Int)))&&(x1.2.2.2==0))=true then m60 x2.1 else some default).bind fun r3_1=>(if(((((r3_0==([82,79,76,76,32,72,79,76,68,32,84,65,75,69,79,70,70]:List UInt8))&&((x1.2.2.1.length:Int)==(0:Int)))&&(x1.2.2.2==0))&&(r3_1==([78,65,86,32,72,79,76,68,32,84,65,75,69,79,70,70]:List UInt8)))&&((x2.2.1.length:Int)==(1:Int)))=true→(0:Int)≤(0:Int)then(if(((((r3_0==([82,79,76,76,32,72,79,76,68,32,84,65,75,69,79,70,70]:List UInt8))&&((x1.2.2.1.length:Int)==(0:Int)))&&(x1.2.2.2==0))&&(r3_1==([78,65,86,32,72,79,76,68,32,84,65,75,69,79,70,70]:List UInt8)))&&((x2.2.1.length:Int)==(1:Int)))=true→0 < (x2.2.1.length:Int)then some (r3_0,r3_1)else none)else none)))) fun(x3:((List UInt8)×(List UInt8)))=>(some (((((((x3.1==([82,79,76,76,32,72,79,76,68,32,84,65,75,69,79,70,70]:List UInt8))&&((x1.2.2.1.length:Int)==(0:Int)))&&(x1.2.2.2==0))&&(x3.2==([78,65,86,32,72,79,76,68,32,84,65,75,69,79,70,70]:List UInt8)))&&((x2.2.1.length:Int)==(1:Int)))&&((x2.2.1.getD (0:Int).toNat default)==([67,65,80,84,85,82,69,68]:List UInt8)))&&(x2.2.2==0)))))):Option (Bool)):=by kernel_rfl
theorem names_len:∃ nl,m24=some nl∧nl.length=19:=⟨(m24).getD [],by kernel_rfl,by kernel_rfl⟩
theorem wakeS1:m19 ⟨1,1,1⟩ 16385=some (⟨1,1,2⟩,[],0):=by
 obtain⟨nl,hn,hl⟩:=names_len
 exact Step_of (g1:=(⟨1,[-1,-1,-1,-1,-1,-1,-1]⟩,[],0)) (g2:=(⟨1,[-1,-1,-1,-1,-1,-1,-1,-1,-1]⟩,[],0)) (g3:=(⟨2,[-1,-1,-1,-1,-1,-1,-1,-1,-1]⟩,[],0)) (v1:=1) (v2:=1) (v3:=9) (q1:=[-1,-1,-1,-1,-1,-1,-1]) (q2:=[-1,-1,-1,-1,-1,-1,-1,-1,-1]) (q3:=[-1,-1,-1,-1,-1,-1,-1,-1,-1]) (by kernel_rfl) hn (by omega) (by rw[hl];rfl) read1 read2 read3 (by kernel_rfl) (by kernel_rfl) (by kernel_rfl) (by kernel_rfl) (by kernel_rfl) (by kernel_rfl) (by kernel_rfl) (by kernel_rfl) (by kernel_rfl) rfl rfl rfl (by decide) (by decide) (by decide) (by decide) (by decide) (by decide) (by decide) (by decide) (by decide)
theorem wakeS2:m19 ⟨1,1,2⟩ 28=some (⟨4,1,2⟩,[[67,65,80,84,85,82,69,68]],0):=by
 obtain⟨nl,hn,hl⟩:=names_len
 exact Step_of (g1:=(⟨4,[-1,-1,-1,-1,-1,-1,-1]⟩,[[67,65,80,84,85,82,69,68]],0)) (g2:=(⟨1,[-1,-1,-1,-1,-1,-1,-1,-1,-1]⟩,[],0)) (g3:=(⟨2,[-1,-1,-1,-1,-1,-1,-1,-1,-1]⟩,[],0)) (v1:=28) (v2:=2) (v3:=0) (q1:=[-1,-1,-1,-1,-1,-1,-1]) (q2:=[-1,-1,-1,-1,-1,-1,-1,-1,-1]) (q3:=[-1,-1,-1,-1,-1,-1,-1,-1,-1]) (by kernel_rfl) hn (by omega) (by rw[hl];rfl) read1 read2 read3 (by kernel_rfl) (by kernel_rfl) (by kernel_rfl) (by kernel_rfl) (by kernel_rfl) (by kernel_rfl) (by kernel_rfl) (by kernel_rfl) (by kernel_rfl) rfl rfl rfl (by decide) (by decide) (by decide) (by decide) (by decide) (by decide) (by decide) (by decide) (by decide)
theorem wakeT1:m60 ⟨1,1,2⟩=some [82,79,76,76,32,72,79,76,68,32,84,65,75,69,79,70,70]:=by kernel_rfl
theorem wakeT2:m60 ⟨4,1,2⟩=some [78,65,86,32,72,79,76,68,32,84,65,75,69,79,70,70]:=by kernel_rfl
theorem start_eq:m59=some ⟨1,1,1⟩:=by kernel_rfl
theorem awake_true:m18=some true:=by
 have e1:=wakeS1
 have e2:=wakeS2
 have e3:=wakeT1
 have e4:=wakeT2
 have e5:=start_eq
 simp only[M18,bind_id]
 generalize m19=F at e1 e2 ⊢
 generalize m60=G at e3 e4 ⊢
 generalize m59=S at e5 ⊢
 simp only[e5,bs,e1,e2,e3,e4]
 rfl
end Go.Av.Mo
set_option maxRecDepth 1000000
namespace Go.Av
open Ch Mo
theorem Mo.hist_of {c:T27} (h:c.States.all (fun s=>!s.History)=true) (x:Int) (hx:isS c x=true):(stA c x).History=false:=by
 have h1:=isS_iff.1 hx
 have h2:=List.all_eq_true.1 h _ (getD_mem (l:=c.States) (i:=x.toNat) (by omega))
 simpa [stA] using h2
theorem Mo.reach1:reachT C1 [(startS C1).1] [(1,2,2,2),(1,12,5,3),(1,28,6,4),(1,60,7,5),(1,64,1,6)]=true:=by kernel_rfl
theorem Mo.live1:liveT C1 [(1,1),(1,64),(1,2),(1,0),(1,4),(1,12),(1,28),(1,60),(2,0),(2,4),(2,12),(2,28),(2,60),(3,0),(3,8),(3,24),(3,56),(4,0),(4,8),(4,40),(5,0),(5,8),(5,40),(6,0),(6,4),(6,12),(6,28),(6,60)]=true:=by kernel_rfl
theorem Mo.calm1:Calm C1:=⟨fit1,chk1,fun x hx=>hist_of (by kernel_rfl) x hx,fun v hv leaf hl ha=>one1 (by have:numV C1=128:=rfl;omega) hl ha⟩
theorem Mo.find1:findM C1=some ([],0):=calm1.none reach1 live1
theorem Mo.reach2:reachT C2 [(startS C2).1] [(1,8,1,8),(1,32,3,4),(1,64,5,3),(1,192,4,2),(1,258,6,6),(1,262,7,7),(8,512,25,5)]=true:=by kernel_rfl
theorem Mo.live2:liveT C2 [(1,1),(1,8),(1,16),(1,32),(1,192),(1,64),(1,258),(1,262),(1,0),(2,512),(2,0),(3,512),(3,0),(4,512),(4,0),(5,1536),(5,512),(5,128),(5,0),(6,0),(6,2),(6,6),(7,0),(7,2),(7,6),(8,512),(8,0)]=true:=by kernel_rfl
theorem Mo.calm2:Calm C2:=⟨fit2,chk2,fun x hx=>hist_of (by kernel_rfl) x hx,fun v hv leaf hl ha=>one2 (by have:numV C2=2048:=rfl;omega) hl ha⟩
theorem Mo.find2:findM C2=some ([],0):=calm2.none reach2 live2
theorem Mo.reach3:reachT C3 [(startS C3).1] [(1,0,2,3),(1,9,3,2),(3,1,0,8),(3,2,9,6),(3,4,1,7),(3,32,10,4),(3,64,11,5)]=true:=by kernel_rfl
theorem Mo.live3:liveT C3 [(3,1),(3,4),(1,0),(1,9),(1,1),(2,9),(2,1),(2,0),(2,16),(3,2),(3,32),(3,64),(3,0),(4,2),(4,64),(4,32),(4,0),(5,2),(5,64),(5,32),(5,0),(6,2),(6,64),(6,0),(7,0),(7,16),(7,18),(8,0),(8,9),(8,129),(8,1)]=true:=by kernel_rfl
theorem Mo.calm3:Calm C3:=⟨fit3,chk3,fun x hx=>hist_of (by kernel_rfl) x hx,fun v hv leaf hl ha=>one3 (by have:numV C3=256:=rfl;omega) hl ha⟩
theorem Mo.find3:findM C3=some ([],0):=calm3.none reach3 live3
theorem M7 (a0:Int):m7 a0=((Option.bind (Option.bind (m18) fun r=>some r) fun x1=>(if(!x1)=true then(some false)else(Option.bind ((if(3:Int)≠0 then((m20 (IntKind.wrap .i64 ((Int.tmod (IntKind.wrap .i64 (a0)) (3:Int))+1))).bind fun r3_0=>some r3_0)else none)) fun(x3:((T27×Int)))=>(Option.bind (Option.bind (m30 x3.1) fun r=>some r) fun x4=>(some (((x3.2==0)&&(x4.2==0))&&((x4.1.length:Int)==(0:Int)))))))):Option (Bool)):=by kernel_rfl
theorem Mo.findings_of {c:T27} (H:Fit c) (hn:c.Conds.length≤12) {a0 ax:Int} (hax:IntKind.wrap .i64 ((Int.tmod (IntKind.wrap .i64 a0) (3:Int))+(1:Int))=ax) (hr:m20 ax=some (c,0)) (hf:findM c=some ([],0)):m7 a0=some true:=by
 have q:=(Findings_eq H hn).trans hf
 have hw:=Mo.awake_true
 simp only[M7,bind_id]
 generalize m18=A at hw ⊢
 generalize m20=F at hr ⊢
 generalize m30=G at q ⊢
 simp only[hw,bs,hax,hr,q,show ((3:Int)≠0)=True from by simp,if_true,Bool.not_true,Bool.false_eq_true,if_false]
 rfl
theorem plain7 {a:Int} (ha:(Lit.int .u8 a).wf=true):m7 a=some true:=by
 obtain⟨a,rfl,ha'⟩:=u8_nat ha
 have w:IntKind.wrap .i64 (a:Int)=(a:Int):=w64 (by omega) (by omega)
 have hax:IntKind.wrap .i64 ((Int.tmod (IntKind.wrap .i64 (a:Int)) (3:Int))+(1:Int))=((a % 3+1:Nat):Int):=by
  rw[w,Int.tmod_eq_emod_of_nonneg (by omega)]
  have:((a:Int) % 3+1)=((a % 3+1:Nat):Int):=by omega
  rw[this]
  exact w64 (by omega) (by omega)
 have hcs:a % 3=0∨a % 3=1∨a % 3=2:=by omega
 rcases hcs with h | h | h
 ·rw[h]at hax
  exact findings_of fit1 (by decide) hax Mo.read1 find1
 ·rw[h]at hax
  exact findings_of fit2 (by decide) hax Mo.read2 find2
 ·rw[h]at hax
  exact findings_of fit3 (by decide) hax Mo.read3 find3
end Go.Av
