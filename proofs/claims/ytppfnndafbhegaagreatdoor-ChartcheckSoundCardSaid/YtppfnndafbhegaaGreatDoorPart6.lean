/- A part of the proof. -/
import Derived.Test.YtppfnndafbhegaaGreatDoorPart5
set_option linter.unusedVariables false
set_option linter.unusedSimpArgs false
set_option maxRecDepth 100000
namespace Go.Av
open Ch Go.Proofs
def stepO (c:T27) (g:T37) (v:Int):Option T37:=(stepM c g v).bind fun r=>if(r.2.2==0)=true then some r.1 else none
abbrev SS:=List T37×List Int×List Int
def addS (i:Nat) (v:Int) (h:T37) (s:SS):Option SS:=if hasC s.1 h=true then some s else if s.1.length=400 then none else some (s.1++[h],s.2.1++[(i:Int)],s.2.2++[v])
def visit (c:T27) (i:Nat) (s:SS) (v:Int):Option SS:=match stepO c (s.1.getD i default) v with
 | none=>some s
 | some h=>addS i v h s
def rnd (c:T27) (i:Nat):List Int→SS→Option SS
 | [],s=>some s
 | v :: l,s=>(visit c i s v).bind (rnd c i l)
def allV (c:T27):List Int:=(List.range (numV c)).map fun v:Nat=>(v:Int)
def srch (c:T27):Nat→Nat→SS→Option SS
 | 0,_,_=>none
 | n+1,i,s=>if i < s.1.length then(rnd c i (allV c) s).bind (srch c n (i+1))else some s
def begS (g:T37):SS:=([g],[-1],[0])
structure Inv (c:T27) (s:SS):Prop where
 le:s.1.length≤400
 l1:s.2.1.length=s.1.length
 l2:s.2.2.length=s.1.length
 pos:0 < s.1.length
 ok:∀ g∈s.1,validS c g=true
theorem valid_short {c:T27} (H:Fit c) {g:T37} (h:validS c g=true):g.Memory.length≤1000000:=by
 have h1:=(validS_iff.1 h).2.2.len
 have h2:=H.states
 omega
theorem Inv.short {c:T27} (H:Fit c) {s:SS} (h:Inv c s):Short s.1:=fun g hg=>valid_short H (h.ok g hg)
theorem stepO_ok {c:T27} (H:Fit c) {g h:T37} {v:Int} (hs:stepO c g v=some h):checkM c=some 0∧validS c g=true∧validS c h=true:=by
 unfold stepO at hs
 rw[Option.bind_eq_some_iff]at hs
 obtain⟨r,h1,h2⟩:=hs
 split at h2
 ·rename_i h3
  injection h2 with h2
  subst h2
  exact(stepM_ok H h1).2 (by simpa using h3)
 ·cases h2
theorem addS_inv {c:T27} {i:Nat} {v:Int} {h:T37} {s s':SS} (I:Inv c s) (hv:validS c h=true) (hs:addS i v h s=some s'):Inv c s'∧s.1.length≤s'.1.length:=by
 unfold addS at hs
 split at hs
 ·injection hs with hs;subst hs;exact⟨I,Nat.le_refl _⟩
 ·split at hs
  ·cases hs
  ·rename_i h400
   injection hs with hs
   subst hs
   have:=I.le
   refine⟨⟨?_,?_,?_,?_,?_⟩,?_⟩
   ·simp only[List.length_append,List.length_cons,List.length_nil];omega
   ·simp only[List.length_append,List.length_cons,List.length_nil,I.l1]
   ·simp only[List.length_append,List.length_cons,List.length_nil,I.l2]
   ·simp
   ·intro g hg
    rcases List.mem_append.1 hg with h1 | h1
    ·exact I.ok g h1
    ·simp only[List.mem_singleton]at h1;subst h1;exact hv
   ·simp
theorem visit_inv {c:T27} (H:Fit c) {i:Nat} {v:Int} {s s':SS} (I:Inv c s) (hs:visit c i s v=some s'):Inv c s'∧s.1.length≤s'.1.length:=by
 unfold visit at hs
 split at hs
 ·injection hs with hs;subst hs;exact⟨I,Nat.le_refl _⟩
 ·rename_i h he
  exact addS_inv I (stepO_ok H he).2.2 hs
theorem rnd_inv {c:T27} (H:Fit c) {i:Nat}:∀ {l:List Int} {s s':SS},Inv c s→rnd c i l s=some s'→Inv c s'∧s.1.length≤s'.1.length
 | [],s,s',I,hs=>by
  injection hs with hs;subst hs;exact⟨I,Nat.le_refl _⟩
 | v :: l,s,s',I,hs=>by
  unfold rnd at hs
  rw[Option.bind_eq_some_iff]at hs
  obtain⟨t,h1,h2⟩:=hs
  obtain⟨I1,k1⟩:=visit_inv H I h1
  obtain⟨I2,k2⟩:=rnd_inv H I1 h2
  exact⟨I2,by omega⟩
theorem rnd_filter {c:T27} {i:Nat} (p:Int→Bool):∀ {l:List Int} {s:SS},(∀ v∈l,p v=false→∀ s,visit c i s v=some s)→rnd c i (l.flatMap fun v=>if p v=true then[v]else[]) s=rnd c i l s
 | [],s,h=>rfl
 | v :: l,s,h=>by
  simp only[List.flatMap_cons]
  have ih:∀ s,rnd c i (l.flatMap fun v=>if p v=true then[v]else[]) s=rnd c i l s:=fun s=>rnd_filter p (fun w hw=>h w (by simp[hw]))
  cases hp:p v with
  | true =>
   simp only[if_true,List.cons_append,List.nil_append,rnd]
   congr 1;funext t;exact ih t
  | false =>
   simp only[Bool.false_eq_true,if_false,List.nil_append,rnd,h v (by simp) hp,Option.bind_some]
   exact ih s
theorem stepO_not {c:T27} {g:T37} {v:Int} (h:allowedS c v=false):stepO c g v=none:=by
 unfold stepO stepM
 cases hc:checkM c with
 | none=>rfl
 | some e =>
  simp only[Option.bind_some,h,Bool.not_false,if_true]
  split
  ·rename_i h0
   simp only[Option.bind_some]
   have:(e==0)=false:=by simpa using h0
   simp only[this,Bool.false_eq_true,if_false]
  ·split<;>rfl
theorem rnd_vals {c:T27} {i:Nat} {s:SS}:rnd c i (valsA c) s=rnd c i (allV c) s:=by
 have e:valsA c=(allV c).flatMap fun v=>if allowedS c v=true then[v]else[]:=by
  unfold valsA allV
  rw[List.flatMap_map]
  rfl
 rw[e]
 exact rnd_filter (allowedS c) fun v _ h s=>by unfold visit;rw[stepO_not h]
end Go.Av
set_option maxRecDepth 100000
namespace Go.Av
open Ch Go.Proofs
def upS {X:Type} {S:Type} (mk:SS→S) (bad:Option X):Option SS→Option (S⊕X)
 | some s=>some (.inl (mk s))
 | none=>bad.map .inr
def endS {X:Type} (out:SS→X) (bad:Option X):Option SS→Option X
 | some s=>some (out s)
 | none=>bad
theorem getD_app {α:Type} [Inhabited α] {l k:List α} {i:Nat} (h:i < l.length):(l++k).getD i default=l.getD i default:=by
 simp only[List.getD_eq_getElem?_getD,List.getElem?_append_left h]
theorem visit_get {c:T27} {i:Nat} {s s':SS} {v:Int} (hs:visit c i s v=some s'):∃ k,s'.1=s.1++k:=by
 unfold visit at hs
 split at hs
 ·injection hs with hs;subst hs;exact⟨[],by simp⟩
 ·unfold addS at hs
  split at hs
  ·injection hs with hs;subst hs;exact⟨[],by simp⟩
  ·split at hs
   ·cases hs
   ·injection hs with hs;subst hs;exact⟨_,rfl⟩
theorem done_loop {c:T27} (H:Fit c) {i:Nat} {X:Type} {b:(Int×List T37×List Int×List Int×Nat×(List UInt8→Option Int))→Option ((Int×List T37×List Int×List Int×Nat×(List UInt8→Option Int))⊕X)} (out:SS→X) (bad:Option X) (w:List Int)
  (P:SS→(List UInt8→Option Int)→Prop)
  (hb:∀ (k:Nat) (s:SS) (n:Nat) (f:List UInt8→Option Int),k < w.length→Inv c s→i < s.1.length→n≤k→P s f→∃ n' f',n'≤k+1∧(∀ s',visit c i s (w.getD k default)=some s'→P s' f') ∧
   b ((k:Int),s.1,s.2.1,s.2.2,n,f)=upS (fun s'=>(((k+1:Nat):Int),s'.1,s'.2.1,s'.2.2,n',f')) bad (visit c i s (w.getD k default)))
  (he:∀ (s:SS) n f,Inv c s→b ((w.length:Int),s.1,s.2.1,s.2.2,n,f)=some (.inr (out s)))
  {s:SS} (I:Inv c s) (hi:i < s.1.length) (f0:List UInt8→Option Int) (hP:P s f0):loopO b (0,s.1,s.2.1,s.2.2,0,f0)=(endS out bad (rnd c i w s)):=by
 have key:∀ (m k:Nat) (s:SS) (n:Nat) (f:List UInt8→Option Int),k+m=w.length→Inv c s→i < s.1.length→n≤k→P s f→loopO b ((k:Int),s.1,s.2.1,s.2.2,n,f)=(endS out bad (rnd c i (w.drop k) s)):=by
  intro m
  induction m with
  | zero =>
   intro k s n f hk I hi hn hp
   obtain rfl:k=w.length:=by omega
   rw[loopO_eq,he s n f I,List.drop_length]
   rfl
  | succ m ih =>
   intro k s n f hk I hi hn hp
   have hkl:k < w.length:=by omega
   obtain⟨n',f',h1,h2,h3⟩:=hb k s n f hkl I hi hn hp
   have hd:w.drop k=w.getD k default :: w.drop (k+1):=by
    rw[List.drop_eq_getElem_cons hkl];simp[List.getD_eq_getElem?_getD,List.getElem?_eq_getElem hkl]
   rw[loopO_eq,h3,hd,rnd]
   cases hv:visit c i s (w.getD k default) with
   | none=>cases bad<;>rfl
   | some s' =>
    obtain⟨I',h'⟩:=visit_inv H I hv
    simp only[upS,Option.bind_some]
    exact ih (k+1) s' n' f' (by omega) I' (by omega) h1 (h2 s' hv)
 have:=key w.length 0 s 0 f0 (by omega) I hi (by omega) hP
 rw[List.drop_zero]at this
 exact this
theorem srch_loop {c:T27} (H:Fit c) {S X:Type} {b:S→Option (S⊕X)} (mk:Nat→SS→S) (out:SS→X) (bad:Option X)
  (hb:∀ (i:Nat) (s:SS),Inv c s→i < s.1.length→b (mk i s)=upS (mk (i+1)) bad (rnd c i (allV c) s))
  (he:∀ (s:SS),Inv c s→b (mk s.1.length s)=some (.inr (out s))) :
  ∀ (n i:Nat) (s:SS),Inv c s→i≤s.1.length→n+i=402→loopO b (mk i s)=(endS out bad (srch c n i s)):=by
 intro n
 induction n with
 | zero=>intro i s I hi hn;have:=I.le;omega
 | succ n ih =>
  intro i s I hi hn
  unfold srch
  by_cases h:i < s.1.length
  ·rw[if_pos h,loopO_eq,hb i s I h]
   cases hr:rnd c i (allV c) s with
   | none=>cases bad<;>rfl
   | some s' =>
    obtain⟨I',h'⟩:=rnd_inv H I hr
    simp only[upS,Option.bind_some]
    exact ih (i+1) s' I' (by omega) (by omega)
  ·obtain rfl:i=s.1.length:=by omega
   rw[if_neg h,loopO_eq,he s I]
   rfl
def searchS (c:T27):Option SS:=srch c 402 0 (begS ⟨(startS c).1,(startS c).2.1⟩)
theorem beg_inv {c:T27} (H:Fit c) (hc:checkM c=some 0):Inv c (begS ⟨(startS c).1,(startS c).2.1⟩):=by
 refine⟨by simp[begS],by simp[begS],by simp[begS],by simp[begS],fun g hg=>?_⟩
 simp only[begS,List.mem_singleton]at hg
 subst hg
 exact(startS_ok (good_of hc) H).1
theorem M44o1 (a0:T27):m44o1 a0=((Option.bind (Option.bind (Option.bind (m28o0 a0) fun r=>some r) fun x1=>(if(x1.1 != 0)=true then(some (.inr (x1.1)))else(Option.bind (Option.bind (m99 a0) fun r=>some r) fun x4=>(some (.inl (([(⟨x1.2.2.1,x1.2.2.2⟩:T37)]:List T37),x4)))))) (onS fun(y1:(List T37)×(List Int))=>(Option.bind (Option.bind (some (.inl ())) (onS fun(_:Unit)=>(loopO (fun(s2:Int×(List T37)×(List Int)×(List Int))=>((Option.bind (if(decide (s2.1 < (s2.2.1.length:Int)))=true then(some (.inl ()))else(some (.inr (.inr (.inl (s2.2.1,s2.2.2.1,s2.2.2.2)))))) (onS fun(_:Unit)=>(Option.bind (Option.bind (some (.inl ())) (onS fun(_:Unit)=>(loopO (fun(s3:Int×(List T37)×(List Int)×(List Int)×Nat×(List UInt8→Option Int))=>((if(decide (s3.1 < (y1.2.length:Int)))=true then(if(0≤s3.1)then(if(s3.1 < (y1.2.length:Int))then(Option.bind ((if 0≤s2.1 then(if s2.1 < (s3.2.1.length:Int)then((m19 a0 (s3.2.1.getD s2.1.toNat default).Leaf (y1.2.getD s3.1.toNat default)).bind fun r12_0=>some r12_0)else none)else none)) fun(x12:((List Int)))=>(if(!((x12.length:Int) != (1:Int)))=true→((0:Int)≤(0:Int))then(if(!((x12.length:Int) != (1:Int)))=true→(0 < (x12.length:Int))then(if(!((x12.length:Int) != (1:Int)))=true→(Tryz.prog=Tryz.prog)then(if(!((x12.length:Int) != (1:Int)))=true→((Lit.int .i64 (x12.getD (0:Int).toNat default)).wf=true)then(if(((x12.length:Int) != (1:Int)) || ((s3.2.2.2.2.2 (encK (x12.getD (0:Int).toNat default))).getD 0 != 0))=true then(some (.inl ((IntKind.wrap .i64 (s3.1+1)),s3.2.1,s3.2.2.1,s3.2.2.2.1,s3.2.2.2.2.1,s3.2.2.2.2.2)))else(if((0:Int)≤(0:Int))then(if(0 < (x12.length:Int))then(if((Lit.int .i64 (x12.getD (0:Int).toNat default)).wf=true)then(if(s3.2.2.2.2.1 < maxLen)then(Option.bind ((if 0≤s2.1 then(if s2.1 < (s3.2.1.length:Int)then(if(0:Int)≤(0:Int)then(if 0 < (x12.length:Int)then((m67 a0 (s3.2.1.getD s2.1.toNat default) (x12.getD (0:Int).toNat default)).bind fun r15_0=>some r15_0)else none)else none)else none)else none)) fun(x15:((T37×(List (List UInt8))×Int)))=>(Option.bind (((if(!(x15.2.2 != 0))=true then m80 s3.2.1 x15.1 else some default).bind fun r16_0=>some r16_0)) fun(x16:(Int))=>(if((x15.2.2 != 0) || (decide (0≤x16)))=true then(some (.inl ((IntKind.wrap .i64 (s3.1+1)),s3.2.1,s3.2.2.1,s3.2.2.2.1,(s3.2.2.2.2.1+1),(fun q=>if q=(encK (x12.getD (0:Int).toNat default))then some (if true=true then(1:Int)else 0)else s3.2.2.2.2.2 q))))else(if((s3.2.1.length:Int)==(400:Int))=true then(some (.inr (.inr (.inr (.inr ((3:Int)))))))else(if((s3.2.1.length+1) * 32≤140737488355328)then(if((s3.2.2.1.length+1) * 8≤140737488355328)then(if((s3.2.2.2.1.length+1) * 2≤140737488355328)then(some (.inl ((IntKind.wrap .i64 (s3.1+1)),(s3.2.1++([x15.1]:List T37)),(s3.2.2.1++([s2.1]:List Int)),(s3.2.2.2.1++([(y1.2.getD s3.1.toNat default)]:List Int)),(s3.2.2.2.2.1+1),(fun q=>if q=(encK (x12.getD (0:Int).toNat default))then some (if true=true then(1:Int)else 0)else s3.2.2.2.2.2 q))))else none)else none)else none)))))else none)else none)else none)else none))else none)else none)else none)else none))else none)else none)else(some (.inr (.inl (s3.2.1,s3.2.2.1,s3.2.2.2.1))))):Option ((Int×(List T37)×(List Int)×(List Int)×Nat×(List UInt8→Option Int))⊕(((List T37)×(List Int)×(List Int))⊕((Int×(List T37)×(List Int)×(List Int))⊕(((List T37)×(List Int)×(List Int))⊕(Int))))))) ((0:Int),s2.2.1,s2.2.2.1,s2.2.2.2,0,(fun _=>none))))) (onS fun(y4:(List T37)×(List Int)×(List Int))=>(some (.inl ((IntKind.wrap .i64 (s2.1+1)),y4.1,y4.2.1,y4.2.2))))))):Option ((Int×(List T37)×(List Int)×(List Int))⊕(((List T37)×(List Int)×(List Int))⊕(Int))))) ((0:Int),y1.1,([(-1:Int)]:List Int),([(0:Int)]:List Int))))) (onS fun(y5:(List T37)×(List Int)×(List Int))=>none)))):Option (Int)):=by kernel_rfl
theorem M44o2 (a0:T27):m44o2 a0=((Option.bind (Option.bind (Option.bind (m28o0 a0) fun r=>some r) fun x1=>(if(x1.1 != 0)=true then none else(Option.bind (Option.bind (m99 a0) fun r=>some r) fun x4=>(some (.inl (([(⟨x1.2.2.1,x1.2.2.2⟩:T37)]:List T37),x4)))))) (onS fun(y1:(List T37)×(List Int))=>(Option.bind (Option.bind (some (.inl ())) (onS fun(_:Unit)=>(loopO (fun(s2:Int×(List T37)×(List Int)×(List Int))=>((Option.bind (if(decide (s2.1 < (s2.2.1.length:Int)))=true then(some (.inl ()))else(some (.inr (.inr (.inl (s2.2.1,s2.2.2.1,s2.2.2.2)))))) (onS fun(_:Unit)=>(Option.bind (Option.bind (some (.inl ())) (onS fun(_:Unit)=>(loopO (fun(s3:Int×(List T37)×(List Int)×(List Int)×Nat×(List UInt8→Option Int))=>((if(decide (s3.1 < (y1.2.length:Int)))=true then(if(0≤s3.1)then(if(s3.1 < (y1.2.length:Int))then(Option.bind ((if 0≤s2.1 then(if s2.1 < (s3.2.1.length:Int)then((m19 a0 (s3.2.1.getD s2.1.toNat default).Leaf (y1.2.getD s3.1.toNat default)).bind fun r12_0=>some r12_0)else none)else none)) fun(x12:((List Int)))=>(if(!((x12.length:Int) != (1:Int)))=true→((0:Int)≤(0:Int))then(if(!((x12.length:Int) != (1:Int)))=true→(0 < (x12.length:Int))then(if(!((x12.length:Int) != (1:Int)))=true→(Tryz.prog=Tryz.prog)then(if(!((x12.length:Int) != (1:Int)))=true→((Lit.int .i64 (x12.getD (0:Int).toNat default)).wf=true)then(if(((x12.length:Int) != (1:Int)) || ((s3.2.2.2.2.2 (encK (x12.getD (0:Int).toNat default))).getD 0 != 0))=true then(some (.inl ((IntKind.wrap .i64 (s3.1+1)),s3.2.1,s3.2.2.1,s3.2.2.2.1,s3.2.2.2.2.1,s3.2.2.2.2.2)))else(if((0:Int)≤(0:Int))then(if(0 < (x12.length:Int))then(if((Lit.int .i64 (x12.getD (0:Int).toNat default)).wf=true)then(if(s3.2.2.2.2.1 < maxLen)then(Option.bind ((if 0≤s2.1 then(if s2.1 < (s3.2.1.length:Int)then(if(0:Int)≤(0:Int)then(if 0 < (x12.length:Int)then((m67 a0 (s3.2.1.getD s2.1.toNat default) (x12.getD (0:Int).toNat default)).bind fun r15_0=>some r15_0)else none)else none)else none)else none)) fun(x15:((T37×(List (List UInt8))×Int)))=>(Option.bind (((if(!(x15.2.2 != 0))=true then m80 s3.2.1 x15.1 else some default).bind fun r16_0=>some r16_0)) fun(x16:(Int))=>(if((x15.2.2 != 0) || (decide (0≤x16)))=true then(some (.inl ((IntKind.wrap .i64 (s3.1+1)),s3.2.1,s3.2.2.1,s3.2.2.2.1,(s3.2.2.2.2.1+1),(fun q=>if q=(encK (x12.getD (0:Int).toNat default))then some (if true=true then(1:Int)else 0)else s3.2.2.2.2.2 q))))else(if((s3.2.1.length:Int)==(400:Int))=true then none else(if((s3.2.1.length+1) * 32≤140737488355328)then(if((s3.2.2.1.length+1) * 8≤140737488355328)then(if((s3.2.2.2.1.length+1) * 2≤140737488355328)then(some (.inl ((IntKind.wrap .i64 (s3.1+1)),(s3.2.1++([x15.1]:List T37)),(s3.2.2.1++([s2.1]:List Int)),(s3.2.2.2.1++([(y1.2.getD s3.1.toNat default)]:List Int)),(s3.2.2.2.2.1+1),(fun q=>if q=(encK (x12.getD (0:Int).toNat default))then some (if true=true then(1:Int)else 0)else s3.2.2.2.2.2 q))))else none)else none)else none)))))else none)else none)else none)else none))else none)else none)else none)else none))else none)else none)else(some (.inr (.inl (s3.2.1,s3.2.2.1,s3.2.2.2.1))))):Option ((Int×(List T37)×(List Int)×(List Int)×Nat×(List UInt8→Option Int))⊕(((List T37)×(List Int)×(List Int))⊕((Int×(List T37)×(List Int)×(List Int))⊕(((List T37)×(List Int)×(List Int))⊕((List T37)×(List Int)×(List Int)×(List Int)))))))) ((0:Int),s2.2.1,s2.2.2.1,s2.2.2.2,0,(fun _=>none))))) (onS fun(y4:(List T37)×(List Int)×(List Int))=>(some (.inl ((IntKind.wrap .i64 (s2.1+1)),y4.1,y4.2.1,y4.2.2))))))):Option ((Int×(List T37)×(List Int)×(List Int))⊕(((List T37)×(List Int)×(List Int))⊕((List T37)×(List Int)×(List Int)×(List Int)))))) ((0:Int),y1.1,([(-1:Int)]:List Int),([(0:Int)]:List Int))))) (onS fun(y5:(List T37)×(List Int)×(List Int))=>(some (y5.1,y5.2.1,y5.2.2,y1.2)))))):Option ((List T37)×(List Int)×(List Int)×(List Int))):=by kernel_rfl
theorem enab_one {c:T27} (hc:checkM c=some 0) {g:T37} (hg:validS c g=true) {v:Int} (ha:allowedS c v=true):stepO c g v=if((((enabledS c g.Leaf v).length:Int))==1)=true then some (fireR c g ((enabledS c g.Leaf v).getD 0 default)).1 else none:=by
 unfold stepO stepM
 simp only[hc,Option.bind_some,bne_self,hg,ha,Bool.not_true,Bool.false_eq_true,if_false]
 by_cases h1:(((enabledS c g.Leaf v).length:Int)==1)=true
 ·have h0:(((enabledS c g.Leaf v).length:Int)==0)=false:=by
   have:((enabledS c g.Leaf v).length:Int)=1:=by simpa using h1
   rw[this];rfl
  simp only[h0,h1,Bool.false_eq_true,if_false,if_true,Option.bind_some];rfl
 ·have h1':=Bool.eq_false_iff.2 h1
  simp only[h1',Bool.false_eq_true,if_false]
  by_cases h0:(((enabledS c g.Leaf v).length:Int)==0)=true
  ·simp only[h0,if_true,Option.bind_some];rfl
  ·have h0':=Bool.eq_false_iff.2 h0
   simp only[h0',Bool.false_eq_true,if_false,Option.bind_some];rfl
def DoneP (c:T27) (g:T37) (s:SS) (f:List UInt8→Option Int):Prop:=∀ t:Int,((f (encK t)).getD 0 != 0)=true→hasC s.1 (fireR c g t).1=true
theorem fire_at {c:T27} (H:Fit c) (hc:checkM c=some 0) {g:T37} (hg:validS c g=true) {v:Int} (h1:(((enabledS c g.Leaf v).length:Int)==1)=true):m67 c g ((enabledS c g.Leaf v).getD 0 default)=some (fireR c g ((enabledS c g.Leaf v).getD 0 default)):=by
 have hl:0 < (enabledS c g.Leaf v).length:=by
  have:((enabledS c g.Leaf v).length:Int)=1:=by simpa using h1
  omega
 obtain⟨i,hi,hx,hon⟩:=enabled_at hl
 rw[fire_err H,hx]
 have hn:(decide ((i:Int) < 0) || decide ((c.Transitions.length:Int)≤(i:Int)))=false:=by
  simp only[Bool.or_eq_false_iff,decide_eq_false_iff_not];omega
 simp only[hc,Option.bind_some,bne_self,hg,hn,Int.toNat_natCast,hon,Bool.not_true,Bool.false_eq_true,if_false]
 rfl
end Go.Av
set_option maxRecDepth 100000
namespace Go.Av
open Ch Go.Proofs
theorem hasC_app {l k:List T37} {g:T37} (h:hasC l g=true):hasC (l++k) g=true:=by
 rw[hasC_iff]at h ⊢
 exact List.mem_append_left _ h
theorem DoneP.same {c:T27} {g:T37} {s:SS} {f:List UInt8→Option Int} (h:DoneP c g s f) {t:Int} (ht:hasC s.1 (fireR c g t).1=true):DoneP c g s (fun q=>if q=encK t then some (if true=true then(1:Int)else 0)else f q):=fun u hu=>by
 by_cases e:u=t
 ·rw[e];exact ht
 ·have:encK u≠encK t:=fun k=>e (encK_inj k)
  simp only[this,if_false]at hu
  exact h u hu
theorem DoneP.more {c:T27} {g:T37} {s:SS} {f:List UInt8→Option Int} (h:DoneP c g s f) {t:Int} {fr bv:List Int}:DoneP c g (s.1++[(fireR c g t).1],fr,bv) (fun q=>if q=encK t then some (if true=true then(1:Int)else 0)else f q):=fun u hu=>by
 by_cases e:u=t
 ·rw[e];rw[hasC_iff];simp
 ·have:encK u≠encK t:=fun k=>e (encK_inj k)
  simp only[this,if_false]at hu
  exact hasC_app (h u hu)
theorem wf_small {i:Nat} (h:i < 1000000):(Lit.int .i64 (i:Int)).wf=true:=by
 simp[Lit.wf,IntKind.min,IntKind.max,IntKind.signed,IntKind.bits];omega
theorem srchE_eq {c : T27} (H : Fit c) (hn : c.Conds.length ≤ 12) : m44o1 c = (checkM c).bind fun e => if (e != 0) = true then some e else match searchS c with | some s => none | none => some 3 := by
  obtain ⟨e, he⟩ := checkM_some c
  have h1 := numV_pos c
  have h2 := numV_le hn
  have hv2 := valsA_len (c := c)
  have q1 := Start_eq c H
  have q2 := allowedL_eq H hn
  have q3 : ∀ (leaf v : Int), m19 c leaf v = some (enabledS c leaf v) := Enabled_eq c H
  have q4 : ∀ (l : List T37) (g : T37), Short l → l.length ≤ 1000000 → m80 l g = some (findC l g) := find_eq
  have q5 : checkM c = some 0 → ∀ (g : T37) (v : Int), validS c g = true → (((enabledS c g.Leaf v).length : Int) == 1) = true → m67 c g ((enabledS c g.Leaf v).getD 0 default) = some (fireR c g ((enabledS c g.Leaf v).getD 0 default)) := fun hc g v hg h => fire_at H hc hg h
  simp only [M44o1, bind_id, q1, q2]
  generalize m19 = F1 at q3 ⊢
  generalize m80 = F2 at q4 ⊢
  generalize m67 = F3 at q5 ⊢
  unfold startM
  by_cases h0 : (e != 0) = true
  · simp only [he, bs, h0, if_true, or_, bn]
  · have h0 := Bool.eq_false_iff.2 h0
    have e0 : e = 0 := by simpa using h0
    subst e0
    simp only [he, bs, h0, Bool.false_eq_true, if_false, ol, bne_self]
    have q5 := q5 he
    have I0 := beg_inv H he
    refine bind_eq (srch_loop H (fun i s => ((i : Int), s.1, s.2.1, s.2.2)) (fun s => .inl (s.1, s.2.1, s.2.2)) (some (.inr (3 : Int))) (fun i s I hi => ?_) (fun s I => ?_) 402 0 _ I0 (by omega) (by omega)) ?_
    · have hi' : (i : Int) < (s.1.length : Int) := by omega
      simp only [hi', decide_true, if_true, bs, ol]
      have hg : validS c (s.1.getD i default) = true := I.ok _ (getD_mem hi)
      refine bind_eq (done_loop H (i := i) (fun s => .inl (s.1, s.2.1, s.2.2)) (some (.inr (.inr (.inr (3 : Int))))) (valsA c) (fun t f => t.1.getD i default = s.1.getD i default ∧ DoneP c (s.1.getD i default) t f) (fun k s' n f hk I' hi'' hn' hP => ?_) (fun s n f I => ?_) I hi (fun _ => none) ⟨rfl, fun t ht => by simp at ht⟩) ?_
      · generalize s.1.getD i default = g at hg hP
        obtain ⟨hP1, hP2⟩ := hP
        obtain ⟨vn, hvn, hve, hall⟩ := valsA_mem.1 (getD_mem hk)
        obtain ⟨v, hvd⟩ : ∃ v, v = (valsA c).getD k default := ⟨_, rfl⟩
        rw [← hvd] at hve hall ⊢
        have b1 := I'.le
        have b2 := I'.l1
        have b3 := I'.l2
        have hb1 := enab_one he hg hall
        have w2 : IntKind.wrap .i64 ((k : Int) + 1) = ((k + 1 : Nat) : Int) := by rw [w64 (by omega) (by omega)]; omega
        have c1 : ((s'.1.length + 1) * 32 ≤ 140737488355328) = True := eq_true (by omega)
        have c2 : ((s'.2.1.length + 1) * 8 ≤ 140737488355328) = True := eq_true (by omega)
        have c3 : ((s'.2.2.length + 1) * 2 ≤ 140737488355328) = True := eq_true (by omega)
        have c4 : (n < maxLen) = True := eq_true (by unfold maxLen; omega)
        have c5 : ((0 : Int) ≤ (0 : Int)) = True := eq_true (by omega)
        unfold visit
        rw [hP1, hb1]
        simp only [inL hk, inL hi'', decide_true, if_true, Int.toNat_natCast, hP1, q3, bs, w2, c5, ← hvd]
        by_cases hl : (((enabledS c g.Leaf v).length : Int) == 1) = true
        · have hl2 : (((enabledS c g.Leaf v).length : Int) != 1) = false := by simpa using hl
          have hl3 : (0 < ((enabledS c g.Leaf v).length : Int)) = True := eq_true (by have : ((enabledS c g.Leaf v).length : Int) = 1 := by simpa using hl
                                                                                      omega)
          have hf := q5 g v hg hl
          obtain ⟨t, ht⟩ : ∃ t, t = (enabledS c g.Leaf v).getD 0 default := ⟨_, rfl⟩
          obtain ⟨ti, hti, htx, _⟩ := enabled_at (c := c) (leaf := g.Leaf) (v := v) (by have : ((enabledS c g.Leaf v).length : Int) = 1 := by simpa using hl
                                                                                        omega)
          have htr := H.trans
          rw [← ht] at htx hf
          have hwf : ((Lit.int .i64 t).wf = true) = True := eq_true (by rw [htx]; exact wf_small (by omega))
          simp only [hl, hl2, hl3, hwf, c4, c5, if_true, Bool.not_false, true_implies, Bool.false_or, Int.toNat_zero, ← ht, hf, bs]
          by_cases hd : ((f (encK t)).getD 0 != 0) = true
          · have hh := hP2 t hd
            refine ⟨n, f, by omega, fun s'' hs'' => ?_, ?_⟩
            · unfold addS at hs''
              rw [if_pos hh] at hs''
              injection hs'' with hs''
              subst hs''
              exact ⟨hP1, hP2⟩
            · unfold addS
              rw [if_pos hh]
              simp only [hd, if_true]; rfl
          · have hd := Bool.eq_false_iff.2 hd
            have e1 : ((fireR c g t).2.2 != 0) = false := rfl
            have hfd := q4 s'.1 (fireR c g t).1 (I'.short H) (by omega)
            refine ⟨n + 1, fun q => if q = encK t then some (if true = true then (1 : Int) else 0) else f q, by omega, fun s'' hs'' => ?_, ?_⟩
            · unfold addS at hs''
              split at hs''
              · rename_i hh
                injection hs'' with hs''
                subst hs''
                exact ⟨hP1, hP2.same hh⟩
              · split at hs''
                · cases hs''
                · injection hs'' with hs''
                  subst hs''
                  exact ⟨by rw [getD_app hi'']; exact hP1, hP2.more⟩
            · simp only [hd, e1, hfd, bs, Bool.false_eq_true, if_false, Bool.not_false, if_true, Bool.false_or, find_in]
              unfold addS
              cases hh : hasC s'.1 (fireR c g t).1 with
              | true => simp only [if_true]; rfl
              | false =>
                simp only [Bool.false_eq_true, if_false]
                by_cases h4 : s'.1.length = 400
                · have d2 : ((s'.1.length : Int) == (400 : Int)) = true := by simp; omega
                  simp only [d2, h4, if_true]; rfl
                · have d2 : ((s'.1.length : Int) == (400 : Int)) = false := by simp; omega
                  simp only [d2, h4, c1, c2, c3, Bool.false_eq_true, if_false, if_true]; rfl
        · have hl2 : (((enabledS c g.Leaf v).length : Int) != 1) = true := by simpa using hl
          have hl := Bool.eq_false_iff.2 hl
          refine ⟨n, f, by omega, fun s'' hs'' => ?_, ?_⟩
          · simp only [hl, Bool.false_eq_true, if_false] at hs''
            injection hs'' with hs''
            subst hs''
            exact ⟨hP1, hP2⟩
          · simp only [hl, hl2, Bool.not_true, Bool.false_eq_true, false_implies, if_true, if_false, Bool.true_or]; rfl
      · simp only [lt_irr, decide_false, Bool.false_eq_true, if_false]
      · rw [rnd_vals]
        cases hr : rnd c i (allV c) s with
        | none => rfl
        | some s' =>
          have w2 : IntKind.wrap .i64 ((i : Int) + 1) = ((i + 1 : Nat) : Int) := by
            have := I.le
            rw [w64 (by omega) (by omega)]; omega
          simp only [endS, bs, ol, w2]; rfl
    · simp only [lt_irr, decide_false, Bool.false_eq_true, if_false, bs, or_]
    · unfold searchS
      cases srch c 402 0 (begS ⟨(startS c).1, (startS c).2.1⟩) with
      | some s => rfl
      | none => rfl
theorem srchR_eq {c : T27} (H : Fit c) (hn : c.Conds.length ≤ 12) : m44o2 c = (checkM c).bind fun e => if (e != 0) = true then none else match searchS c with | some s => some (s.1, s.2.1, s.2.2, valsA c) | none => none := by
  obtain ⟨e, he⟩ := checkM_some c
  have h1 := numV_pos c
  have h2 := numV_le hn
  have hv2 := valsA_len (c := c)
  have q1 := Start_eq c H
  have q2 := allowedL_eq H hn
  have q3 : ∀ (leaf v : Int), m19 c leaf v = some (enabledS c leaf v) := Enabled_eq c H
  have q4 : ∀ (l : List T37) (g : T37), Short l → l.length ≤ 1000000 → m80 l g = some (findC l g) := find_eq
  have q5 : checkM c = some 0 → ∀ (g : T37) (v : Int), validS c g = true → (((enabledS c g.Leaf v).length : Int) == 1) = true → m67 c g ((enabledS c g.Leaf v).getD 0 default) = some (fireR c g ((enabledS c g.Leaf v).getD 0 default)) := fun hc g v hg h => fire_at H hc hg h
  simp only [M44o2, bind_id, q1, q2]
  generalize m19 = F1 at q3 ⊢
  generalize m80 = F2 at q4 ⊢
  generalize m67 = F3 at q5 ⊢
  unfold startM
  by_cases h0 : (e != 0) = true
  · simp only [he, bs, h0, if_true, or_, bn]
  · have h0 := Bool.eq_false_iff.2 h0
    have e0 : e = 0 := by simpa using h0
    subst e0
    simp only [he, bs, h0, Bool.false_eq_true, if_false, ol, bne_self]
    have q5 := q5 he
    have I0 := beg_inv H he
    refine bind_eq (srch_loop H (fun i s => ((i : Int), s.1, s.2.1, s.2.2)) (fun s => .inl (s.1, s.2.1, s.2.2)) none (fun i s I hi => ?_) (fun s I => ?_) 402 0 _ I0 (by omega) (by omega)) ?_
    · have hi' : (i : Int) < (s.1.length : Int) := by omega
      simp only [hi', decide_true, if_true, bs, ol]
      have hg : validS c (s.1.getD i default) = true := I.ok _ (getD_mem hi)
      refine bind_eq (done_loop H (i := i) (fun s => .inl (s.1, s.2.1, s.2.2)) none (valsA c) (fun t f => t.1.getD i default = s.1.getD i default ∧ DoneP c (s.1.getD i default) t f) (fun k s' n f hk I' hi'' hn' hP => ?_) (fun s n f I => ?_) I hi (fun _ => none) ⟨rfl, fun t ht => by simp at ht⟩) ?_
      · generalize s.1.getD i default = g at hg hP
        obtain ⟨hP1, hP2⟩ := hP
        obtain ⟨vn, hvn, hve, hall⟩ := valsA_mem.1 (getD_mem hk)
        obtain ⟨v, hvd⟩ : ∃ v, v = (valsA c).getD k default := ⟨_, rfl⟩
        rw [← hvd] at hve hall ⊢
        have b1 := I'.le
        have b2 := I'.l1
        have b3 := I'.l2
        have hb1 := enab_one he hg hall
        have w2 : IntKind.wrap .i64 ((k : Int) + 1) = ((k + 1 : Nat) : Int) := by rw [w64 (by omega) (by omega)]; omega
        have c1 : ((s'.1.length + 1) * 32 ≤ 140737488355328) = True := eq_true (by omega)
        have c2 : ((s'.2.1.length + 1) * 8 ≤ 140737488355328) = True := eq_true (by omega)
        have c3 : ((s'.2.2.length + 1) * 2 ≤ 140737488355328) = True := eq_true (by omega)
        have c4 : (n < maxLen) = True := eq_true (by unfold maxLen; omega)
        have c5 : ((0 : Int) ≤ (0 : Int)) = True := eq_true (by omega)
        unfold visit
        rw [hP1, hb1]
        simp only [inL hk, inL hi'', decide_true, if_true, Int.toNat_natCast, hP1, q3, bs, w2, c5, ← hvd]
        by_cases hl : (((enabledS c g.Leaf v).length : Int) == 1) = true
        · have hl2 : (((enabledS c g.Leaf v).length : Int) != 1) = false := by simpa using hl
          have hl3 : (0 < ((enabledS c g.Leaf v).length : Int)) = True := eq_true (by have : ((enabledS c g.Leaf v).length : Int) = 1 := by simpa using hl
                                                                                      omega)
          have hf := q5 g v hg hl
          obtain ⟨t, ht⟩ : ∃ t, t = (enabledS c g.Leaf v).getD 0 default := ⟨_, rfl⟩
          obtain ⟨ti, hti, htx, _⟩ := enabled_at (c := c) (leaf := g.Leaf) (v := v) (by have : ((enabledS c g.Leaf v).length : Int) = 1 := by simpa using hl
                                                                                        omega)
          have htr := H.trans
          rw [← ht] at htx hf
          have hwf : ((Lit.int .i64 t).wf = true) = True := eq_true (by rw [htx]; exact wf_small (by omega))
          simp only [hl, hl2, hl3, hwf, c4, c5, if_true, Bool.not_false, true_implies, Bool.false_or, Int.toNat_zero, ← ht, hf, bs]
          by_cases hd : ((f (encK t)).getD 0 != 0) = true
          · have hh := hP2 t hd
            refine ⟨n, f, by omega, fun s'' hs'' => ?_, ?_⟩
            · unfold addS at hs''
              rw [if_pos hh] at hs''
              injection hs'' with hs''
              subst hs''
              exact ⟨hP1, hP2⟩
            · unfold addS
              rw [if_pos hh]
              simp only [hd, if_true]; rfl
          · have hd := Bool.eq_false_iff.2 hd
            have e1 : ((fireR c g t).2.2 != 0) = false := rfl
            have hfd := q4 s'.1 (fireR c g t).1 (I'.short H) (by omega)
            refine ⟨n + 1, fun q => if q = encK t then some (if true = true then (1 : Int) else 0) else f q, by omega, fun s'' hs'' => ?_, ?_⟩
            · unfold addS at hs''
              split at hs''
              · rename_i hh
                injection hs'' with hs''
                subst hs''
                exact ⟨hP1, hP2.same hh⟩
              · split at hs''
                · cases hs''
                · injection hs'' with hs''
                  subst hs''
                  exact ⟨by rw [getD_app hi'']; exact hP1, hP2.more⟩
            · simp only [hd, e1, hfd, bs, Bool.false_eq_true, if_false, Bool.not_false, if_true, Bool.false_or, find_in]
              unfold addS
              cases hh : hasC s'.1 (fireR c g t).1 with
              | true => simp only [if_true]; rfl
              | false =>
                simp only [Bool.false_eq_true, if_false]
                by_cases h4 : s'.1.length = 400
                · have d2 : ((s'.1.length : Int) == (400 : Int)) = true := by simp; omega
                  simp only [d2, h4, if_true]; rfl
                · have d2 : ((s'.1.length : Int) == (400 : Int)) = false := by simp; omega
                  simp only [d2, h4, c1, c2, c3, Bool.false_eq_true, if_false, if_true]; rfl
        · have hl2 : (((enabledS c g.Leaf v).length : Int) != 1) = true := by simpa using hl
          have hl := Bool.eq_false_iff.2 hl
          refine ⟨n, f, by omega, fun s'' hs'' => ?_, ?_⟩
          · simp only [hl, Bool.false_eq_true, if_false] at hs''
            injection hs'' with hs''
            subst hs''
            exact ⟨hP1, hP2⟩
          · simp only [hl, hl2, Bool.not_true, Bool.false_eq_true, false_implies, if_true, if_false, Bool.true_or]; rfl
      · simp only [lt_irr, decide_false, Bool.false_eq_true, if_false]
      · rw [rnd_vals]
        cases hr : rnd c i (allV c) s with
        | none => rfl
        | some s' =>
          have w2 : IntKind.wrap .i64 ((i : Int) + 1) = ((i + 1 : Nat) : Int) := by
            have := I.le
            rw [w64 (by omega) (by omega)]; omega
          simp only [endS, bs, ol, w2]; rfl
    · simp only [lt_irr, decide_false, Bool.false_eq_true, if_false, bs, or_]
    · unfold searchS
      cases srch c 402 0 (begS ⟨(startS c).1, (startS c).2.1⟩) with
      | some s => rfl
      | none => rfl
end Go.Av
set_option maxRecDepth 100000
namespace Go.Av
open Ch Go.Proofs
def cutN {A:Type} [Inhabited A] (k:Int) (l:List A):List A:=subL l 0 (if k < (l.length:Int)then k else(l.length:Int)).toNat
theorem cutN_len {A:Type} [Inhabited A] {k:Nat} {l:List A}:(cutN (k:Int) l).length≤k:=by
 unfold cutN;rw[subL_len];split<;>omega
theorem cutN_mem {A:Type} [Inhabited A] {k:Int} (hk:0≤k) {l:List A}:∀ x∈cutN k l,x∈l:=fun x hx=>by
 unfold cutN at hx
 rw[subL_eq (by split<;>omega)]at hx
 exact List.mem_of_mem_drop (List.mem_of_mem_take hx)
def few8 (c:T27):T27:=⟨(fewS c).Name,cutN 3 (fewS c).Conds,(fewS c).Never,cutN 7 (fewS c).States,(fewS c).Start,cutN 14 (fewS c).Transitions⟩
structure Tiny (c:T27):Prop where
 fit:Fit c
 conds:c.Conds.length≤3
 states:c.States.length≤7
 trans:c.Transitions.length≤14
theorem few8_tiny (c:T27):Tiny (few8 c):=by
 have S:=few_small c
 have l1:(few8 c).Conds.length≤3:=cutN_len (k:=3)
 have l2:(few8 c).States.length≤7:=cutN_len (k:=7)
 have l3:(few8 c).Transitions.length≤14:=cutN_len (k:=14)
 exact⟨⟨by omega,Nat.le_trans S.never (by omega),fun l hl=>Nat.le_trans (S.lits l hl) (by omega),by omega,fun s hs=>Nat.le_trans (S.entry s (cutN_mem (by omega) s hs)) (by omega),fun s hs=>Nat.le_trans (S.exit_ s (cutN_mem (by omega) s hs)) (by omega),by omega,
  fun t ht=>Nat.le_trans (S.when_ t (cutN_mem (by omega) t ht)) (by omega),fun t ht=>Nat.le_trans (S.acts t (cutN_mem (by omega) t ht)) (by omega)⟩,l1,l2,l3⟩
theorem M14 (a0:T27):m14 a0=((Option.bind (Option.bind (m43 a0) fun r=>some r) fun x1=>(if(0≤(if 7 < (x1.States.length:Int)then(7:Int)else(x1.States.length:Int)))then(if((if 7 < (x1.States.length:Int)then(7:Int)else(x1.States.length:Int))≤(x1.States.length:Int))then(if(0≤(if 3 < (x1.Conds.length:Int)then(3:Int)else(x1.Conds.length:Int)))then(if((if 3 < (x1.Conds.length:Int)then(3:Int)else(x1.Conds.length:Int))≤(x1.Conds.length:Int))then(if(0≤(if 14 < (x1.Transitions.length:Int)then(14:Int)else(x1.Transitions.length:Int)))then(if((if 14 < (x1.Transitions.length:Int)then(14:Int)else(x1.Transitions.length:Int))≤(x1.Transitions.length:Int))then(some (⟨x1.Name,(subL x1.Conds 0 (if 3 < (x1.Conds.length:Int)then(3:Int)else(x1.Conds.length:Int)).toNat),x1.Never,(subL x1.States 0 (if 7 < (x1.States.length:Int)then(7:Int)else(x1.States.length:Int)).toNat),x1.Start,(subL x1.Transitions 0 (if 14 < (x1.Transitions.length:Int)then(14:Int)else(x1.Transitions.length:Int)).toNat)⟩:T27))else none)else none)else none)else none)else none)else none)):Option (T27)):=by kernel_rfl
theorem few_eq8 (c:T27):m14 c=some (few8 c):=by
 have h:=Few_eq c
 simp only[M14,bind_id,h,bs,minQ0 7 (by omega),minQ0 3 (by omega),minQ0 14 (by omega),minQ1,if_true]
 rfl
def reachM (c:T27):Option (List T37×Int):=(checkM c).bind fun e=>if(e != 0)=true then some ([],e)else match searchS c with | some s=>some (s.1,0) | none=>some ([],3)
theorem M15 (a0:T27):m15 a0=((orJ (Option.bind (Option.bind (m44o1 a0) fun r=>some r) fun x1=>(if(x1 != 0)=true then(some ([],x1))else none)) (Option.bind (Option.bind (m44o2 a0) fun r=>some r) fun x1=>(if((0:Int) != (0:Int))=true then(some ([],(0:Int)))else(some (x1.1,(0:Int)))))):Option ((List T37)×Int)):=by kernel_rfl
theorem Reachable_eq {c:T27} (H:Fit c) (hn:c.Conds.length≤12):m15 c=reachM c:=by
 obtain⟨e,he⟩:=checkM_some c
 have q1:=srchE_eq H hn
 have q2:=srchR_eq H hn
 unfold reachM
 simp only[M15,bind_id,q1,q2,he,bs]
 by_cases h0:(e != 0)=true
 ·simp only[h0,bs,if_true];rfl
 ·have h0:=Bool.eq_false_iff.2 h0
  simp only[h0,Bool.false_eq_true,if_false]
  cases searchS c with
  | none=>rfl
  | some s=>rfl
theorem srch_inv {c:T27} (H:Fit c):∀ {n i:Nat} {s s':SS},Inv c s→srch c n i s=some s'→Inv c s'
 | 0,_,_,_,_,h=>by cases h
 | n+1,i,s,s',I,h=>by
  unfold srch at h
  split at h
  ·rw[Option.bind_eq_some_iff]at h
   obtain⟨t,h1,h2⟩:=h
   exact srch_inv H (rnd_inv H I h1).1 h2
  ·injection h with h;subst h;exact I
theorem searchS_inv {c:T27} (H:Fit c) (hc:checkM c=some 0) {s:SS} (h:searchS c=some s):Inv c s:=srch_inv H (beg_inv H hc) h
end Go.Av
set_option maxRecDepth 100000
namespace Go.Av
open Ch Go.Proofs
theorem any_loop {X:Type} {b:(Bool×Int)→Option ((Bool×Int)⊕(Bool⊕X))} {k:Bool→Option X} (n:Nat) (p:Nat→Bool) {z:Option X} (hb:∀ (f:Bool) (i:Nat),i < n→b (f,(i:Int))=some (.inl ((f || p i),((i+1:Nat):Int)))) (he:∀ f,b (f,(n:Int))=some (.inr (.inl f))) (hz:k (anyR p n)=z) :
  (loopO b (false,0)).bind (onS k)=z:=by
 have key:∀ m i f,i+m=n→loopO b (f,(i:Int))=some (.inl (f || (List.range' i m).any p)):=by
  intro m
  induction m with
  | zero =>
   intro i f h
   obtain rfl:i=n:=by omega
   rw[loopO_eq,he];simp
  | succ m ih =>
   intro i f h
   rw[loopO_eq,hb f i (by omega)]
   simp only[Option.bind_some]
   rw[ih (i+1) _ (by omega),List.range'_succ,List.any_cons,Bool.or_assoc]
 have:=key n 0 false (by omega)
 rw[← List.range_eq_range',Bool.false_or]at this
 refine bind_to this ?_
 exact hz
theorem getD_end {α:Type} [Inhabited α] {l:List α} {x:α} {n:Nat} (h:n=l.length):(l++[x]).getD n default=x:=by
 subst h;simp[List.getD_eq_getElem?_getD]
structure Wy (c:T27) (g0:T37) (s:SS):Prop where
 i0:s.1.getD 0 default=g0
 f0:s.2.1.getD 0 default = -1
 w:∀ k,0 < k→k < s.1.length→∃ j v:Nat,j < k∧s.2.1.getD k default=(j:Int)∧v < numV c∧s.2.2.getD k default=(v:Int)∧stepO c (s.1.getD j default) (v:Int)=some (s.1.getD k default)
 nd:s.1.Nodup
theorem beg_wy (c:T27) (g:T37):Wy c g (begS g):=⟨rfl,rfl,fun k h1 h2=>by simp only[begS,List.length_cons,List.length_nil]at h2;omega,by simp[begS]⟩
theorem visit_wy {c:T27} {g0:T37} {i v:Nat} {s s':SS} (I:Inv c s) (W:Wy c g0 s) (hi:i < s.1.length) (hv:v < numV c) (hs:visit c i s (v:Int)=some s'):Wy c g0 s':=by
 unfold visit at hs
 split at hs
 ·injection hs with hs;subst hs;exact W
 ·rename_i h he
  unfold addS at hs
  split at hs
  ·injection hs with hs;subst hs;exact W
  ·rename_i hh
   split at hs
   ·cases hs
   ·injection hs with hs
    subst hs
    have l1:=I.l1
    have l2:=I.l2
    have pos:=I.pos
    refine⟨?_,?_,fun k h1 h2=>?_,?_⟩
    ·show (s.1++[h]).getD 0 default=g0
     rw[getD_app pos];exact W.i0
    ·show (s.2.1++[(i:Int)]).getD 0 default = -1
     rw[getD_app (by omega)];exact W.f0
    ·simp only[List.length_append,List.length_cons,List.length_nil]at h2
     show ∃ j v':Nat,j < k∧(s.2.1++[(i:Int)]).getD k default=(j:Int)∧v' < numV c∧(s.2.2++[(v:Int)]).getD k default=(v':Int)∧stepO c ((s.1++[h]).getD j default) (v':Int)=some ((s.1++[h]).getD k default)
     by_cases hk:k < s.1.length
     ·obtain⟨j,v',q1,q2,q3,q4,q5⟩:=W.w k h1 hk
      refine⟨j,v',q1,?_,q3,?_,?_⟩
      ·rw[getD_app (by omega)];exact q2
      ·rw[getD_app (by omega)];exact q4
      ·rw[getD_app (by omega),getD_app hk];exact q5
     ·obtain rfl:k=s.1.length:=by omega
      refine⟨i,v,hi,?_,hv,?_,?_⟩
      ·rw[getD_end l1.symm]
      ·rw[getD_end l2.symm]
      ·rw[getD_app hi,getD_end rfl];exact he
    ·show (s.1++[h]).Nodup
     rw[List.nodup_append]
     refine⟨W.nd,by simp,fun a ha b hb=>?_⟩
     simp only[List.mem_singleton]at hb
     subst hb
     rintro rfl
     exact hh (hasC_iff.2 ha)
theorem rnd_wy {c:T27} (H:Fit c) {g0:T37} {i:Nat}:∀ {l:List Int} {s s':SS},(∀ v∈l,∃ n:Nat,v=n∧n < numV c)→Inv c s→Wy c g0 s→i < s.1.length→rnd c i l s=some s'→Wy c g0 s'
 | [],s,s',_,_,W,_,hs=>by injection hs with hs;subst hs;exact W
 | v :: l,s,s',hl,I,W,hi,hs=>by
  unfold rnd at hs
  rw[Option.bind_eq_some_iff]at hs
  obtain⟨t,h1,h2⟩:=hs
  obtain⟨n,rfl,hn⟩:=hl v (by simp)
  obtain⟨I1,k1⟩:=visit_inv H I h1
  exact rnd_wy H (fun w hw=>hl w (by simp[hw])) I1 (visit_wy I W hi hn h1) (by omega) h2
theorem allV_mem {c:T27} {v:Int}:v∈allV c↔∃ n:Nat,v=n∧n < numV c:=by
 unfold allV
 rw[List.mem_map]
 constructor
 ·rintro⟨n,h,rfl⟩;exact⟨n,rfl,List.mem_range.1 h⟩
 ·rintro⟨n,rfl,h⟩;exact⟨n,List.mem_range.2 h,rfl⟩
theorem srch_wy {c:T27} (H:Fit c) {g0:T37}:∀ {n i:Nat} {s s':SS},Inv c s→Wy c g0 s→srch c n i s=some s'→Wy c g0 s'
 | 0,_,_,_,_,_,h=>by cases h
 | n+1,i,s,s',I,W,h=>by
  unfold srch at h
  split at h
  ·rename_i hi
   rw[Option.bind_eq_some_iff]at h
   obtain⟨t,h1,h2⟩:=h
   exact srch_wy H (rnd_inv H I h1).1 (rnd_wy H (fun v hv=>allV_mem.1 hv) I W hi h1) h2
  ·injection h with h;subst h;exact W
def begG (c:T27):T37:=⟨(startS c).1,(startS c).2.1⟩
theorem searchS_wy {c:T27} (H:Fit c) (hc:checkM c=some 0) {s:SS} (h:searchS c=some s):Wy c (begG c) s:=srch_wy H (beg_inv H hc) (beg_wy c (begG c)) h
theorem visit_mem {c:T27} {i:Nat} {s s':SS} {v:Int} (hs:visit c i s v=some s') {h:T37} (he:stepO c (s.1.getD i default) v=some h):h∈s'.1:=by
 unfold visit at hs
 rw[he]at hs
 simp only at hs
 unfold addS at hs
 split at hs
 ·rename_i hh;injection hs with hs;subst hs;exact hasC_iff.1 hh
 ·split at hs
  ·cases hs
  ·injection hs with hs;subst hs;simp
theorem rnd_get {c:T27} {i:Nat}:∀ {l:List Int} {s s':SS},rnd c i l s=some s'→∃ k,s'.1=s.1++k
 | [],s,s',hs=>by injection hs with hs;subst hs;exact⟨[],by simp⟩
 | v :: l,s,s',hs=>by
  unfold rnd at hs
  rw[Option.bind_eq_some_iff]at hs
  obtain⟨t,h1,h2⟩:=hs
  obtain⟨k1,e1⟩:=visit_get h1
  obtain⟨k2,e2⟩:=rnd_get h2
  exact⟨k1++k2,by rw[e2,e1,List.append_assoc]⟩
theorem rnd_mem {c:T27} {i:Nat}:∀ {l:List Int} {s s':SS},i < s.1.length→rnd c i l s=some s'→∀ v∈l,∀ h,stepO c (s.1.getD i default) v=some h→h∈s'.1
 | [],s,s',_,_,v,hv,_,_=>by cases hv
 | v :: l,s,s',hi,hs,w,hw,h,he=>by
  unfold rnd at hs
  rw[Option.bind_eq_some_iff]at hs
  obtain⟨t,h1,h2⟩:=hs
  obtain⟨k1,e1⟩:=visit_get h1
  have e3:t.1.getD i default=s.1.getD i default:=by rw[e1,getD_app hi]
  rcases List.mem_cons.1 hw with rfl | hw
  ·obtain⟨k2,e2⟩:=rnd_get h2
   rw[e2];exact List.mem_append_left _ (visit_mem h1 he)
  ·exact rnd_mem (by rw[e1];simp;omega) h2 w hw h (by rw[e3];exact he)
def Cl (c:T27) (s:SS) (i:Nat):Prop:=∀ j,j < i→∀ v:Nat,v < numV c→∀ h,stepO c (s.1.getD j default) (v:Int)=some h→h∈s.1
theorem srch_cl {c:T27}:∀ {n i:Nat} {s s':SS},i≤s.1.length→Cl c s i→srch c n i s=some s'→Cl c s' s'.1.length
 | 0,_,_,_,_,_,h=>by cases h
 | n+1,i,s,s',hi,C,h=>by
  unfold srch at h
  split at h
  ·rename_i hlt
   rw[Option.bind_eq_some_iff]at h
   obtain⟨t,h1,h2⟩:=h
   obtain⟨k,e⟩:=rnd_get h1
   refine srch_cl (by rw[e];simp;omega) (fun j hj v hv x hx=>?_) h2
   by_cases hji:j=i
   ·subst hji
    rw[e,getD_app hlt]at hx
    exact rnd_mem hlt h1 v (allV_mem.2 ⟨v,rfl,hv⟩) x hx
   ·rw[e,getD_app (by omega)]at hx
    rw[e];exact List.mem_append_left _ (C j (by omega) v hv x hx)
  ·injection h with h
   subst h
   obtain rfl:i=s.1.length:=by omega
   exact C
theorem searchS_cl {c:T27} {s:SS} (h:searchS c=some s):Cl c s s.1.length:=srch_cl (by simp) (fun j hj=>by omega) h
theorem reach_step {c:T27} {s:SS} (h:searchS c=some s) {g x:T37} (hg:g∈s.1) {v:Nat} (hv:v < numV c) (he:stepO c g (v:Int)=some x):x∈s.1:=by
 obtain⟨j,hj,rfl⟩:=List.getElem_of_mem hg
 exact searchS_cl h j hj v hv x (by simpa [List.getD_eq_getElem?_getD,List.getElem?_eq_getElem hj] using he)
end Go.Av
set_option maxRecDepth 100000
namespace Go.Av
open Ch Go.Proofs
theorem getD_set {l:List Int} {i k:Nat} {a:Int} (hi:i < l.length):(l.set i a).getD k default=if k=i then a else l.getD k default:=by
 simp only[List.getD_eq_getElem?_getD,List.getElem?_set]
 by_cases h:i=k
 ·subst h;simp[hi]
 ·have:¬ k=i:=fun e=>h e.symm
  simp[h,this]
structure Fb (s:SS):Prop where
 le:s.1.length≤400
 l1:s.2.1.length=s.1.length
 l2:s.2.2.length=s.1.length
 pos:0 < s.1.length
 f0:s.2.1.getD 0 default = -1
 w:∀ k,0 < k→k < s.1.length→∃ j:Nat,j < k∧s.2.1.getD k default=(j:Int)
def leafI (s:SS) (leaf:Int):Int:=findR (fun i=>(s.1.getD i default).Leaf==leaf) s.1.length
theorem findR_cases (F:Nat→Bool) (n:Nat):(findR F n = -1∧anyR F n=false)∨∃ k:Nat,k < n∧findR F n=(k:Int)∧F k=true:=by
 unfold findR
 cases h:firstR (fun i=>if F i=true then some (i:Int)else none) n with
 | none =>
  left
  refine⟨rfl,?_⟩
  rw[anyR_false]
  intro i hi
  have:=firstR_none.1 h i hi
  split at this
  ·cases this
  ·rename_i h2;simpa using h2
 | some y =>
  right
  obtain⟨i,hi,h2⟩:=firstR_some h
  split at h2
  ·rename_i h3
   injection h2 with h2;subst h2
   exact⟨i,hi,rfl,h3⟩
  ·cases h2
end Go.Av
set_option maxRecDepth 100000
namespace Go.Av
open Ch Go.Proofs
def reachB (s:SS) (leaf:Int):Bool:=anyR (fun i=>(s.1.getD i default).Leaf==leaf) s.1.length
theorem reachB_iff {s:SS} {leaf:Int}:reachB s leaf=true↔∃ g∈s.1,g.Leaf=leaf:=by
 unfold reachB
 rw[anyR_iff]
 constructor
 ·rintro⟨i,hi,h⟩;exact⟨_,getD_mem hi,by simpa using h⟩
 ·rintro⟨g,hg,h⟩
  obtain⟨i,hi,rfl⟩:=List.getElem_of_mem hg
  exact⟨i,hi,by simpa [List.getD_eq_getElem?_getD,List.getElem?_eq_getElem hi] using h⟩
def finV (c:T27) (leaf kind:Int) (v:Nat):Option T44 :=
 if allowedS c (v:Int)=true then
  if(kind==1&&((enabledS c leaf (v:Int)).length:Int)==0)=true then some ⟨kind,leaf,(v:Int),-1,-1⟩
  else if(kind==2&&decide (1 < ((enabledS c leaf (v:Int)).length:Int)))=true then some ⟨kind,leaf,(v:Int),(enabledS c leaf (v:Int)).getD 0 default,(enabledS c leaf (v:Int)).getD 1 default⟩else none
 else none
def leafFd (c:T27) (leaf kind:Int):Option T44:=firstR (finV c leaf kind) (numV c)
def aliveV (c:T27) (leaf t:Int) (v:Nat):Bool:=allowedS c (v:Int)&&hasK (enabledS c leaf (v:Int)) (enabledS c leaf (v:Int)).length t
def aliveB (c:T27) (leaf t:Int):Bool:=anyR (aliveV c leaf t) (numV c)
end Go.Av
set_option maxRecDepth 100000
namespace Go.Av
open Ch Go.Proofs
def leafA (c:T27) (i:Nat):Int:=(leavesS c).getD i default
def kindG (c:T27) (s:SS) (kind:Int) (i:Nat):List T44:=if reachB s (leafA c i)=true then(leafFd c (leafA c i) kind).toList else[]
def unrG (c:T27) (s:SS) (i:Nat):List T44:=if reachB s (leafA c i)=true then[]else[⟨3,leafA c i,0,-1,-1⟩]
def liveB (c:T27) (s:SS) (t:Nat):Bool:=anyR (fun i=>reachB s (leafA c i)&&aliveB c (leafA c i) (t:Int)) (leavesS c).length
def deadG (c:T27) (s:SS) (t:Nat):List T44:=if liveB c s t=true then[]else[⟨4,-1,0,(t:Int),-1⟩]
def kindL (c:T27) (s:SS) (kind:Int):List T44:=(List.range (leavesS c).length).flatMap (kindG c s kind)
def findS (c:T27) (s:SS):List T44:=kindL c s 1++kindL c s 2++(List.range (leavesS c).length).flatMap (unrG c s)++(List.range c.Transitions.length).flatMap (deadG c s)
theorem kindG_len (c:T27) (s:SS) (kind:Int) (i:Nat):(kindG c s kind i).length≤1:=by
 unfold kindG;split
 ·cases leafFd c (leafA c i) kind<;>simp
 ·simp
theorem unrG_len (c:T27) (s:SS) (i:Nat):(unrG c s i).length≤1:=by unfold unrG;split<;>simp
theorem deadG_len (c:T27) (s:SS) (i:Nat):(deadG c s i).length≤1:=by unfold deadG;split<;>simp
theorem kindL_len (c:T27) (s:SS) (kind:Int):(kindL c s kind).length≤(leavesS c).length:=by
 have:=flatMap_len (kindG_len c s kind) (leavesS c).length
 unfold kindL;omega
theorem loop_app {A St X:Type} {b:St→Option (St⊕X)} (n:Nat) (mk:Nat→List A→St) (g:Nat→List A) (out:List A→X) (pre:List A)
  (hs:∀ i,i < n→b (mk i (pre++(List.range i).flatMap g))=some (.inl (mk (i+1) (pre++(List.range i).flatMap g++g i)))) (he:b (mk n (pre++(List.range n).flatMap g))=some (.inr (out (pre++(List.range n).flatMap g)))) :
  loopO b (mk 0 pre)=some (out (pre++(List.range n).flatMap g)):=by
 have key:∀ k i,i+k=n→loopO b (mk i (pre++(List.range i).flatMap g))=some (out (pre++(List.range n).flatMap g)):=by
  intro k
  induction k with
  | zero =>
   intro i hk
   obtain rfl:i=n:=by omega
   rw[loopO_eq,he];rfl
  | succ k ih =>
   intro i hk
   rw[loopO_eq,hs i (by omega),List.append_assoc,← flatMap_app]
   exact ih (i+1) (by omega)
 have:=key n 0 (by omega)
 simpa using this
def findM (c:T27):Option (List T44×Int):=(checkM c).bind fun e=>if(e != 0)=true then some ([],e)else match searchS c with | some s=>some (findS c s,0) | none=>some ([],3)
theorem leavesS_len {c:T27}:(leavesS c).length≤c.States.length:=by
 have:=flatMap_len (leafG_len c) c.States.length
 unfold leavesS;omega
end Go.Av
set_option maxRecDepth 100000
namespace Go.Av
open Ch Go.Proofs
theorem arr_get {zs:List Int} {j:Nat} (h:j < zs.length):(zs.toArray)[j]! = zs[j]:=by
 rw[getElem!_pos _ _ (by simpa using h)];simp
theorem cmpI_mem {zs:List Int} {x:Int}:x∈cmpI zs↔x∈zs:=by
 unfold cmpI Lib.compact Lib.compactUpTo
 rw[List.mem_map]
 constructor
 ·rintro⟨j,hj,rfl⟩
  have:=List.mem_range.1 (List.mem_filter.1 hj).1
  rw[arr_get this];exact List.getElem_mem _
 ·intro hx
  obtain⟨j,hj,e⟩:=List.getElem_of_mem hx
  -- the first place where it stands
  have key:∀ n j,j≤n→(h:j < zs.length)→∃ k,k < zs.length∧Lib.keeps zs.toArray k=true∧(zs.toArray)[k]! = zs[j]:=by
   intro n
   induction n with
   | zero =>
    intro j h1 h2
    obtain rfl:j=0:=by omega
    exact⟨0,h2,by simp[Lib.keeps],arr_get h2⟩
   | succ n ih =>
    intro j h1 h2
    cases hk:Lib.keeps zs.toArray j with
    | true=>exact⟨j,h2,hk,arr_get h2⟩
    | false =>
     have h3:¬ (j=0):=by rintro rfl;simp[Lib.keeps]at hk
     have h4:(zs.toArray)[j]! = (zs.toArray)[j - 1]! := by
      simp only[Lib.keeps,decide_eq_false_iff_not,not_or,Decidable.not_not]at hk;exact hk.2
     rw[arr_get h2,arr_get (show j - 1 < zs.length by omega)]at h4
     obtain⟨k,k1,k2,k3⟩:=ih (j - 1) (by omega) (by omega)
     exact⟨k,k1,k2,by rw[k3,← h4]⟩
  obtain⟨k,k1,k2,k3⟩:=key j j (Nat.le_refl _) hj
  exact⟨k,List.mem_filter.2 ⟨List.mem_range.2 k1,k2⟩,by rw[k3,e]⟩
theorem cmpI_lt {zs:List Int} (hs:zs.Pairwise (·≤·)):(cmpI zs).Pairwise (· < ·):=by
 unfold cmpI Lib.compact Lib.compactUpTo
 rw[List.pairwise_map]
 have h1:(List.range zs.length).Pairwise (· < ·):=List.pairwise_lt_range
 have h2:=h1.filter (Lib.keeps zs.toArray)
 refine h2.imp_of_mem (fun {a b} ha hb hab=>?_)
 have ha':=List.mem_range.1 (List.mem_filter.1 ha).1
 have hb':=List.mem_range.1 (List.mem_filter.1 hb).1
 have hk:=(List.mem_filter.1 hb).2
 rw[arr_get ha',arr_get hb']
 have h0:b≠0:=by omega
 have h4:(zs.toArray)[b]! ≠ (zs.toArray)[b - 1]! := by
  simp only[Lib.keeps,decide_eq_true_eq]at hk;exact hk.resolve_left h0
 rw[arr_get hb',arr_get (show b - 1 < zs.length by omega)]at h4
 have le:∀ i j,(hi:i < zs.length)→(hj:j < zs.length)→i≤j→zs[i]≤zs[j]:=fun i j hi hj hij=>by
  rcases Nat.eq_or_lt_of_le hij with rfl | h
  ·exact Int.le_refl _
  ·exact List.pairwise_iff_getElem.1 hs i j hi hj h
 have l1:=le a (b - 1) ha' (by omega) (by omega)
 have l2:=le (b - 1) b (by omega) hb' (by omega)
 omega
def lvs (s:SS):List Int:=(List.range s.1.length).flatMap fun i=>[(s.1.getD i default).Leaf]
def rL (c:T27) (s:SS):List Int:=(leavesS c).filter (reachB s)
theorem lvs_mem {s:SS} {x:Int}:x∈lvs s↔reachB s x=true:=by
 unfold lvs reachB
 rw[List.mem_flatMap,anyR_iff]
 constructor
 ·rintro⟨i,h1,h2⟩
  simp only[List.mem_singleton]at h2
  exact⟨i,List.mem_range.1 h1,by rw[h2];simp⟩
 ·rintro⟨i,h1,h2⟩
  exact⟨i,List.mem_range.2 h1,List.mem_singleton.2 (eq_of_beq h2).symm⟩
theorem leavesS_lt (c:T27):(leavesS c).Pairwise (· < ·):=by
 unfold leavesS
 generalize c.States.length=n
 induction n with
 | zero=>simp
 | succ n ih =>
  rw[flatMap_app,List.pairwise_append]
  refine⟨ih,?_,fun a ha b hb=>?_⟩
  ·unfold leafG;split<;>simp
  ·obtain⟨i,h1,h2⟩:=List.mem_flatMap.1 ha
   have:=List.mem_range.1 h1
   unfold leafG at h2 hb
   split at h2
   ·cases h2
   ·split at hb
    ·cases hb
    ·simp only[List.mem_singleton]at h2 hb
     omega
theorem lt_unique {l k:List Int} (h1:l.Pairwise (· < ·)) (h2:k.Pairwise (· < ·)) (h:∀ x,x∈l↔x∈k):l=k:=by
 have n1:l.Nodup:=h1.imp fun h=>by omega
 have n2:k.Nodup:=h2.imp fun h=>by omega
 exact List.Perm.eq_of_pairwise (le:=fun x y:Int=>x≤y) (fun a b _ _ h1 h2=>by omega) (h1.imp fun h=>by omega) (h2.imp fun h=>by omega) ((List.perm_ext_iff_of_nodup n1 n2).2 h)
theorem sorted_leaves {c:T27} {s:SS} (I:Inv c s):cmpI (sortI (lvs s))=rL c s:=by
 refine lt_unique (cmpI_lt (sortI_sorted _)) ((leavesS_lt c).filter _) fun x=>?_
 rw[cmpI_mem,(sortI_perm _).mem_iff,lvs_mem]
 unfold rL
 rw[List.mem_filter]
 constructor
 ·intro h
  refine⟨?_,h⟩
  obtain⟨g,hg,rfl⟩:=reachB_iff.1 h
  have:=validS_iff.1 (I.ok g hg)
  exact leavesS_iff.2 ⟨this.1,this.2.1⟩
 ·exact fun h=>h.2
theorem M100o1 (a0:T27) (a1:List T37) (a2 a3 a4:List Int):m100o1 a0 a1 a2 a3 a4=((Option.bind (some (.inl ())) (onS fun(_:Unit)=>(Option.bind (Option.bind (some (.inl ())) (onS fun(_:Unit)=>(loopO (fun(s1:(List Int)×Int)=>((if(decide (s1.2 < (a1.length:Int)))=true then(if(0≤s1.2)then(if(s1.2 < (a1.length:Int))then(Option.bind ((if(s1.1.length+1) * 8≤140737488355328 then some ()else none)) fun(x5:(Unit))=>(some (.inl ((s1.1++([(a1.getD s1.2.toNat default).Leaf]:List Int)),(IntKind.wrap .i64 (s1.2+1))))))else none)else none)else(some (.inr (.inl s1.1)))):Option (((List Int)×Int)⊕(((List Int))⊕((List Int)))))) (([]:List Int),(0:Int))))) (onS fun(y2:(List Int))=>(Option.bind (Option.bind (msrt y2) fun r=>some r) fun x7=>(Option.bind (Option.bind (mcmp (sortI y2)) fun r=>some r) fun x8=>(some (cmpI (sortI y2))))))))):Option ((List Int))):=by kernel_rfl
theorem sleaves_eq {c:T27} {s:SS} (I:Inv c s) (w:List Int):m100o1 c s.1 s.2.1 s.2.2 w=some (rL c s):=by
 have b1:=I.le
 simp only[M100o1,bind_id,bs,ol]
 refine on_l (loop_coll s.1.length (fun i l=>(l,(i:Int))) (fun i=>[(s.1.getD i default).Leaf]) Sum.inl (fun i hi=>?_) ?_) ?_
 ·have hgl:=flatMap_len (g:=fun i=>[(s.1.getD i default).Leaf]) (m:=1) (fun i=>by simp) i
  have c1:(((List.range i).flatMap fun i=>[(s.1.getD i default).Leaf]).length+1) * 8≤140737488355328:=by omega
  have w2:IntKind.wrap .i64 ((i:Int)+1)=((i+1:Nat):Int):=by rw[w64 (by omega) (by omega)];omega
  simp only[inL hi,decide_true,if_true,Int.toNat_natCast,eq_true c1,bs,w2]
 ·simp only[lt_irr,decide_false,Bool.false_eq_true,if_false]
 ·have hlen:(lvs s).length≤400:=by
   have:=flatMap_len (g:=fun i=>[(s.1.getD i default).Leaf]) (m:=1) (fun i=>by simp) s.1.length
   unfold lvs;omega
  have m1:msrt (lvs s)=some ():=by unfold msrt;rw[if_pos (by omega)]
  have m2:mcmp (sortI (lvs s))=some ():=by unfold mcmp;rw[if_pos (by rw[sortI_len];omega)]
  show (msrt (lvs s)).bind (fun _=>(mcmp (sortI (lvs s))).bind fun _=>some (cmpI (sortI (lvs s))))=_
  rw[m1,Option.bind_some,m2,Option.bind_some,sorted_leaves I]
end Go.Av
set_option maxRecDepth 100000
namespace Go.Av
open Ch Go.Proofs
theorem range_flat {α β:Type} [Inhabited α] (f:α→List β):∀ (l:List α),(List.range l.length).flatMap (fun j=>f (l.getD j default))=l.flatMap f
 | []=>rfl
 | x :: l=>by
  rw[List.length_cons,List.range_succ_eq_map,List.flatMap_cons,List.flatMap_map,List.flatMap_cons]
  congr 1
  exact range_flat f l
theorem filter_flat {α β:Type} (p:α→Bool) (f:α→List β):∀ (l:List α),(l.filter p).flatMap f=l.flatMap fun x=>if p x=true then f x else[]
 | []=>rfl
 | x :: l=>by
  rw[List.flatMap_cons,← filter_flat p f l]
  cases h:p x with
  | true=>rw[List.filter_cons_of_pos (by exact h),List.flatMap_cons,if_pos rfl]
  | false=>rw[List.filter_cons_of_neg (by rw[h];decide),if_neg (by decide),List.nil_append]
theorem firstR_list {α Y:Type} [Inhabited α] (f:α→Option Y) (l:List α):firstR (fun j=>f (l.getD j default)) l.length=l.findSome? f:=by
 unfold firstR
 induction l with
 | nil=>rfl
 | cons x l ih =>
  rw[List.length_cons,List.range_succ_eq_map,List.findSome?_cons,List.findSome?_cons,List.findSome?_map]
  show (match f x with | some b=>some b | none=>_)=_
  cases f x with
  | some b=>rfl
  | none=>exact ih
theorem anyR_list {α:Type} [Inhabited α] (p:α→Bool) (l:List α):anyR (fun j=>p (l.getD j default)) l.length=l.any p:=by
 rw[Bool.eq_iff_iff,anyR_iff,List.any_eq_true]
 constructor
 ·rintro⟨i,hi,h⟩;exact⟨_,getD_mem hi,h⟩
 ·rintro⟨x,hx,h⟩
  obtain⟨i,hi,rfl⟩:=List.getElem_of_mem hx
  exact⟨i,hi,by simpa [List.getD_eq_getElem?_getD,List.getElem?_eq_getElem hi] using h⟩
theorem findSome_flat {α β Y:Type} (f:β→Option Y) (g:α→List β):∀ l:List α,(l.flatMap g).findSome? f=l.findSome? fun x=>(g x).findSome? f
 | []=>rfl
 | x :: l=>by
  rw[List.flatMap_cons,List.findSome?_append,List.findSome?_cons,findSome_flat f g l]
  cases (g x).findSome? f<;>rfl
theorem firstR_orK {Y:Type} {f:Nat→Option Y} {n:Nat}:firstR f (n+1)=orK (firstR f n) (f n):=by
 rw[firstR_succ]
 cases firstR f n<;>rfl
def mkL (n:Nat) (B:Nat→Bool):List Bool:=(List.range n).map B
theorem mkL_len (n:Nat) (B:Nat→Bool):(mkL n B).length=n:=by simp[mkL]
theorem mkL_at {n:Nat} {B:Nat→Bool} {i:Nat} (h:i < n):(mkL n B).getD i default=B i:=by simp[mkL,List.getD_eq_getElem?_getD,h]
theorem mkL_congr {n:Nat} {B C:Nat→Bool} (h:∀ i,i < n→B i=C i):mkL n B=mkL n C:=by
 unfold mkL
 exact List.map_congr_left fun i hi=>h i (List.mem_range.1 hi)
theorem mkL_sub {n:Nat} {B:Nat→Bool}:subL (mkL n B) 0 n=mkL n B:=by
 rw[list_eq_iff (by rw[subL_len,mkL_len])]
 intro i hi
 rw[subL_len]at hi
 exact subL_getD hi
theorem mkL_set {n:Nat} {B:Nat→Bool} {t:Nat} (h:t < n):(mkL n B).set t true=mkL n fun u=>B u || t==u:=by
 apply List.ext_getElem?
 intro u
 simp only[mkL,List.getElem?_set,List.getElem?_map,List.length_map,List.length_range]
 by_cases e:t=u
 ·subst e;simp[h]
 ·rw[if_neg e]
  have:(t==u)=false:=by simpa using e
  by_cases hu:u < n
  ·simp[hu,this]
  ·simp[hu]
def f1 (c:T27) (leaf v:Int):Option T44:=if(((enabledS c leaf v).length:Int)==0)=true then some ⟨1,leaf,v,-1,-1⟩else none
def f2 (c:T27) (leaf v:Int):Option T44:=if decide (1 < ((enabledS c leaf v).length:Int))=true then some ⟨2,leaf,v,(enabledS c leaf v).getD 0 default,(enabledS c leaf v).getD 1 default⟩else none
def pA (c:T27) (leaf:Int) (u:Nat) (v:Int):Bool:=hasK (enabledS c leaf v) (enabledS c leaf v).length (u:Int)
theorem alG_find {c:T27} {Y:Type} (f:Int→Option Y) (v:Nat):(alG c v).findSome? f=if allowedS c (v:Int)=true then f (v:Int)else none:=by
 unfold alG
 split
 ·simp[List.findSome?_cons]
  cases f (v:Int)<;>rfl
 ·rfl
theorem f1_all {c:T27} {leaf:Int}:firstR (fun j=>f1 c leaf ((valsA c).getD j default)) (valsA c).length=leafFd c leaf 1:=by
 rw[firstR_list (f1 c leaf) (valsA c)]
 unfold valsA leafFd firstR
 rw[findSome_flat]
 congr 1
 funext v
 rw[alG_find]
 unfold finV f1
 simp only[show ((1:Int)==1)=true from rfl,show ((1:Int)==2)=false from rfl,Bool.true_and,Bool.false_and,Bool.false_eq_true,if_false]
theorem f2_all {c:T27} {leaf:Int}:firstR (fun j=>f2 c leaf ((valsA c).getD j default)) (valsA c).length=leafFd c leaf 2:=by
 rw[firstR_list (f2 c leaf) (valsA c)]
 unfold valsA leafFd firstR
 rw[findSome_flat]
 congr 1
 funext v
 rw[alG_find]
 unfold finV f2
 simp only[show ((2:Int)==2)=true from rfl,show ((2:Int)==1)=false from rfl,Bool.true_and,Bool.false_and,Bool.false_eq_true,if_false]
theorem pA_all {c:T27} {leaf:Int} {u:Nat}:anyR (fun j=>pA c leaf u ((valsA c).getD j default)) (valsA c).length=aliveB c leaf (u:Int):=by
 rw[anyR_list (pA c leaf u) (valsA c),Bool.eq_iff_iff,List.any_eq_true]
 unfold aliveB
 rw[anyR_iff]
 constructor
 ·rintro⟨x,hx,h⟩
  obtain⟨n,hn,rfl,ha⟩:=valsA_mem.1 hx
  exact⟨n,hn,by unfold aliveV;rw[ha];exact h⟩
 ·rintro⟨n,hn,h⟩
  unfold aliveV at h
  simp only[Bool.and_eq_true]at h
  exact⟨(n:Int),valsA_mem.2 ⟨n,hn,rfl,h.1⟩,h.2⟩
theorem enab_lt {c:T27} {leaf v:Int} {x:Int} (h:x∈enabledS c leaf v):∃ t:Nat,x=t∧t < c.Transitions.length:=by
 unfold enabledS at h
 obtain⟨i,hi,hx⟩:=List.mem_flatMap.1 h
 unfold enabG at hx
 split at hx
 ·simp only[List.mem_singleton]at hx
  exact⟨i,hx,List.mem_range.1 hi⟩
 ·cases hx
theorem toList_len {α:Type} (o:Option α):o.toList.length≤1:=by cases o<;>simp
theorem kind_rL {c:T27} {s:SS} {kind:Int}:(List.range (rL c s).length).flatMap (fun j=>(leafFd c ((rL c s).getD j default) kind).toList)=kindL c s kind:=by
 rw[range_flat (fun x=>(leafFd c x kind).toList) (rL c s)]
 unfold rL
 rw[filter_flat,← range_flat (fun x=>if reachB s x=true then(leafFd c x kind).toList else[]) (leavesS c)]
 rfl
theorem live_rL {c:T27} {s:SS} {t:Nat}:anyR (fun j=>aliveB c ((rL c s).getD j default) (t:Int)) (rL c s).length=liveB c s t:=by
 rw[anyR_list (fun x=>aliveB c x (t:Int)) (rL c s)]
 unfold liveB leafA
 rw[anyR_list (fun x=>reachB s x&&aliveB c x (t:Int)) (leavesS c),Bool.eq_iff_iff,List.any_eq_true,List.any_eq_true]
 unfold rL
 constructor
 ·rintro⟨x,hx,h⟩
  obtain⟨h1,h2⟩:=List.mem_filter.1 hx
  exact⟨x,h1,by rw[h2,h];rfl⟩
 ·rintro⟨x,hx,h⟩
  simp only[Bool.and_eq_true]at h
  exact⟨x,List.mem_filter.2 ⟨hx,h.1⟩,h.2⟩
theorem rL_has {c:T27} {s:SS} {x:Int} (hx:x∈leavesS c):hasK (rL c s) (rL c s).length x=reachB s x:=by
 rw[Bool.eq_iff_iff,hasK_iff]
 unfold rL
 rw[List.mem_filter]
 exact⟨fun h=>h.2,fun h=>⟨hx,h⟩⟩
theorem alive_loop {X:Type} {T:Nat} {l:List Int} (hm:∀ x∈l,∃ t:Nat,x=t∧t < T) {b:List Bool×Int→Option ((List Bool×Int)⊕X)} (out:List Bool→X)
  (hb:∀ (B:Nat→Bool) (j t:Nat),j < l.length→l.getD j default=(t:Int)→t < T→b (mkL T B,(j:Int))=some (.inl ((mkL T B).set t true,((j+1:Nat):Int)))) (he:∀ B,b (mkL T B,(l.length:Int))=some (.inr (out (mkL T B)))) (B:Nat→Bool) :
  loopO b (mkL T B,0)=some (out (mkL T fun t=>B t || hasK l l.length (t:Int))):=by
 have e0:(mkL T B,(0:Int))=(fun j:Nat=>(mkL T (fun t=>B t || anyR (fun i=>l.getD i default==(t:Int)) j),(j:Int))) 0:=by
  have:mkL T B=mkL T (fun t=>B t || anyR (fun i=>l.getD i default==(t:Int)) 0):=mkL_congr fun t _=>by simp[anyR]
  rw[this];rfl
 have e9:mkL T (fun t=>B t || hasK l l.length (t:Int))=mkL T (fun t=>B t || anyR (fun i=>l.getD i default==(t:Int)) l.length):=by
  refine mkL_congr fun t _=>?_
  unfold hasK
  congr 1
  refine anyR_congr fun i hi=>?_
  rw[Bool.eq_iff_iff,beq_iff_eq,beq_iff_eq];exact eq_comm
 rw[e0,e9]
 refine loop_st l.length (fun j:Nat=>(mkL T (fun t=>B t || anyR (fun i=>l.getD i default==(t:Int)) j),(j:Int))) _ (fun j hj=>?_) (he _)
 obtain⟨t,ht,htl⟩:=hm _ (getD_mem hj)
 have r4:mkL T (fun u=>B u || anyR (fun i=>l.getD i default==(u:Int)) (j+1))=mkL T (fun u=>(B u || anyR (fun i=>l.getD i default==(u:Int)) j) || t==u):=by
  refine mkL_congr fun u _=>?_
  unfold anyR
  rw[List.range_succ,List.any_append,← Bool.or_assoc]
  congr 1
  simp only[List.any_cons,List.any_nil,Bool.or_false,ht]
  rw[Bool.eq_iff_iff,beq_iff_eq,beq_iff_eq];omega
 show b _=some (.inl (mkL T (fun u=>B u || anyR (fun i=>l.getD i default==(u:Int)) (j+1)),((j+1:Nat):Int)))
 rw[r4,← mkL_set htl]
 exact hb _ j t hj ht htl
theorem M47o1 (a0:T27) (a1:List T37) (a2 a3 a4:List Int):m47o1 a0 a1 a2 a3 a4=((Option.bind (Option.bind (Option.bind (m100o1 a0 a1 a2 a3 a4) fun r=>some r) fun x1=>(if(0≤(a0.Transitions.length:Int))then(if((a0.Transitions.length:Int)=(a0.Transitions.length:Int))then(if((a0.Transitions.length:Int) * 1≤140737488355328)then(if((a0.Transitions.length:Int)≤9223372036854775807)then(some (.inl x1))else none)else none)else none)else none)) (onS fun(y1:(List Int))=>(Option.bind (Option.bind (some (.inl ())) (onS fun(_:Unit)=>(loopO (fun(s2:(List T44)×(List T44)×(List Bool)×Int)=>((Option.bind (if(decide (s2.2.2.2 < (y1.length:Int)))=true then(some (.inl ()))else(some (.inr (.inr (.inl (s2.1,s2.2.1,s2.2.2.1)))))) (onS fun(_:Unit)=>(Option.bind (Option.bind (if(0≤s2.2.2.2)then(if(s2.2.2.2 < (y1.length:Int))then(if(s2.2.2.2.toNat < y1.length)then(some (.inl ()))else none)else none)else none) (onS fun(_:Unit)=>(loopO (fun(s3:(List T44)×(List T44)×(List Bool)×Bool×Bool×Int)=>((Option.bind (if(decide (s3.2.2.2.2.2 < (a4.length:Int)))=true then(some (.inl ()))else(some (.inr (.inr (.inl (s3.1,s3.2.1,s3.2.2.1)))))) (onS fun(_:Unit)=>(Option.bind (Option.bind (if(0≤s3.2.2.2.2.2)then(if(s3.2.2.2.2.2 < (a4.length:Int))then(Option.bind (Option.bind (m19 a0 (y1.getD s2.2.2.2.toNat default) (a4.getD s3.2.2.2.2.2.toNat default)) fun r=>some r) fun x11=>(some (.inl x11)))else none)else none) (onS fun(y4:(List Int))=>(Option.bind (Option.bind (some (.inl ())) (onS fun(_:Unit)=>(loopO (fun(s5:(List Bool)×Int)=>((if(decide (s5.2 < (y4.length:Int)))=true then(if(0≤s5.2)then(if(s5.2 < (y4.length:Int))then(if(0≤(y4.getD s5.2.toNat default))then(if((y4.getD s5.2.toNat default) < ((a0.Transitions.length:Int).toNat:Int))then(if((y4.getD s5.2.toNat default).toNat < (a0.Transitions.length:Int).toNat)then(some (.inl (((subL s5.1 0 (a0.Transitions.length:Int).toNat).set (y4.getD s5.2.toNat default).toNat true),(IntKind.wrap .i64 (s5.2+1)))))else none)else none)else none)else none)else none)else(some (.inr (.inl s5.1)))):Option (((List Bool)×Int)⊕(((List Bool))⊕(((List T44)×(List T44)×(List Bool)×Bool×Bool)⊕(((List T44)×(List T44)×(List Bool)×Bool×Bool×Int)⊕(((List T44)×(List T44)×(List Bool))⊕(((List T44)×(List T44)×(List Bool)×Int)⊕(((List T44)×(List T44)×(List Bool))⊕((List T44))))))))))) (s3.2.2.1,(0:Int))))) (onS fun(y6:(List Bool))=>(if(((y4.length:Int)==(0:Int))&&(!s3.2.2.2.1))=true then(if((s3.1.length+1) * 40≤140737488355328)then(if((decide (1 < (y4.length:Int)))&&(!s3.2.2.2.2.1))=true then(if((0:Int)≤(0:Int))then(if(0 < (y4.length:Int))then(if((0:Int)≤(1:Int))then(if(1 < (y4.length:Int))then(if((s3.2.1.length+1) * 40≤140737488355328)then(some (.inl ((s3.1++([(⟨(1:Int),(y1.getD s2.2.2.2.toNat default),(a4.getD s3.2.2.2.2.2.toNat default),(-1:Int),(-1:Int)⟩:T44)]:List T44)),(s3.2.1++([(⟨(2:Int),(y1.getD s2.2.2.2.toNat default),(a4.getD s3.2.2.2.2.2.toNat default),(y4.getD (0:Int).toNat default),(y4.getD (1:Int).toNat default)⟩:T44)]:List T44)),y6,true,true)))else none)else none)else none)else none)else none)else(some (.inl ((s3.1++([(⟨(1:Int),(y1.getD s2.2.2.2.toNat default),(a4.getD s3.2.2.2.2.2.toNat default),(-1:Int),(-1:Int)⟩:T44)]:List T44)),s3.2.1,y6,true,s3.2.2.2.2.1))))else none)else(if((decide (1 < (y4.length:Int)))&&(!s3.2.2.2.2.1))=true then(if((0:Int)≤(0:Int))then(if(0 < (y4.length:Int))then(if((0:Int)≤(1:Int))then(if(1 < (y4.length:Int))then(if((s3.2.1.length+1) * 40≤140737488355328)then(some (.inl (s3.1,(s3.2.1++([(⟨(2:Int),(y1.getD s2.2.2.2.toNat default),(a4.getD s3.2.2.2.2.2.toNat default),(y4.getD (0:Int).toNat default),(y4.getD (1:Int).toNat default)⟩:T44)]:List T44)),y6,s3.2.2.2.1,true)))else none)else none)else none)else none)else none)else(some (.inl (s3.1,s3.2.1,y6,s3.2.2.2.1,s3.2.2.2.2.1))))))))) (onS fun(y7:(List T44)×(List T44)×(List Bool)×Bool×Bool)=>(some (.inl (y7.1,y7.2.1,y7.2.2.1,y7.2.2.2.1,y7.2.2.2.2,(IntKind.wrap .i64 (s3.2.2.2.2.2+1))))))))):Option (((List T44)×(List T44)×(List Bool)×Bool×Bool×Int)⊕(((List T44)×(List T44)×(List Bool))⊕(((List T44)×(List T44)×(List Bool)×Int)⊕(((List T44)×(List T44)×(List Bool))⊕((List T44)))))))) (s2.1,s2.2.1,s2.2.2.1,false,false,(0:Int))))) (onS fun(y8:(List T44)×(List T44)×(List Bool))=>(some (.inl (y8.1,y8.2.1,y8.2.2,(IntKind.wrap .i64 (s2.2.2.2+1))))))))):Option (((List T44)×(List T44)×(List Bool)×Int)⊕(((List T44)×(List T44)×(List Bool))⊕((List T44)))))) ([],[],(List.replicate (a0.Transitions.length:Int).toNat false),(0:Int))))) (onS fun(y9:(List T44)×(List T44)×(List Bool))=>(Option.bind (if((y9.1.length+y9.2.1.length) * 40≤140737488355328)then(some (.inl ()))else none) (onS fun(_:Unit)=>(Option.bind (Option.bind (Option.bind (Option.bind (m53 a0) fun r=>some r) fun x26=>(some (.inl (x26,(x26.length:Int))))) (onS fun(y10:(List Int)×Int)=>(loopO (fun(s11:(List T44)×Int)=>((if(decide (s11.2 < y10.2))=true then(if(0≤s11.2)then(if(s11.2 < (y10.1.length:Int))then(Option.bind (Option.bind (m49 y1 (y10.1.getD s11.2.toNat default)) fun r=>some r) fun x29=>(if(!x29)=true then(if((s11.1.length+1) * 40≤140737488355328)then(some (.inl ((s11.1++([(⟨(3:Int),(y10.1.getD s11.2.toNat default),(0:Int),(-1:Int),(-1:Int)⟩:T44)]:List T44)),(IntKind.wrap .i64 (s11.2+1)))))else none)else(some (.inl (s11.1,(IntKind.wrap .i64 (s11.2+1)))))))else none)else none)else(some (.inr (.inl s11.1)))):Option (((List T44)×Int)⊕(((List T44))⊕((List T44)))))) ((y9.1++y9.2.1),(0:Int))))) (onS fun(y12:(List T44))=>(Option.bind (Option.bind (some (.inl ())) (onS fun(_:Unit)=>(loopO (fun(s13:(List T44)×Int)=>((if(decide (s13.2 < ((a0.Transitions.length:Int).toNat:Int)))=true then(if(0≤s13.2)then(if(s13.2 < ((a0.Transitions.length:Int).toNat:Int))then(if(s13.2.toNat < (a0.Transitions.length:Int).toNat)then(if(!(y9.2.2.getD s13.2.toNat default))=true then(if((s13.1.length+1) * 40≤140737488355328)then(some (.inl ((s13.1++([(⟨(4:Int),(-1:Int),(0:Int),s13.2,(-1:Int)⟩:T44)]:List T44)),(IntKind.wrap .i64 (s13.2+1)))))else none)else(some (.inl (s13.1,(IntKind.wrap .i64 (s13.2+1))))))else none)else none)else none)else(some (.inr (.inl s13.1)))):Option (((List T44)×Int)⊕(((List T44))⊕((List T44)))))) (y12,(0:Int))))) (onS fun(y14:(List T44))=>(some y14))))))))))):Option ((List T44))):=by kernel_rfl
theorem sfind_eq {c:T27} (H:Fit c) (hn:c.Conds.length≤12) {s:SS} (I:Inv c s):m47o1 c s.1 s.2.1 s.2.2 (valsA c)=some (findS c s):=by
 have hst:=H.states
 have htr:=H.trans
 have h2:=numV_le hn
 have hv2:=valsA_len (c:=c)
 have hll:=leavesS_len (c:=c)
 have hrl:(rL c s).length≤(leavesS c).length:=by unfold rL;exact List.length_filter_le _ _
 have q0:=sleaves_eq I (valsA c)
 have q1:=Leaves_eq c H
 have q2:∀ (leaf v:Int),m19 c leaf v=some (enabledS c leaf v):=Enabled_eq c H
 have q3:∀ x,m49 (rL c s) x=some (hasK (rL c s) (rL c s).length x):=fun x=>containsI_eq (rL c s) x (by omega)
 have c0:((0:Int)≤(c.Transitions.length:Int))=True:=eq_true (by omega)
 have c1:((c.Transitions.length:Int) * 1≤140737488355328)=True:=eq_true (by omega)
 have c2:((c.Transitions.length:Int)≤9223372036854775807)=True:=eq_true (by omega)
 have z0:((0:Int)≤(0:Int))=True:=eq_true (by omega)
 have z1:((0:Int)≤(1:Int))=True:=eq_true (by omega)
 simp only[M47o1,bind_id,q0,q1,q2,q3,bs,c0,c1,c2,if_true,ol,Int.toNat_natCast]
 refine on_l (y:=(kindL c s 1,kindL c s 2,mkL c.Transitions.length fun t=>liveB c s t)) ?_ ?_
 ·have e0:(([]:List T44),([]:List T44),List.replicate c.Transitions.length false,(0:Int))=(fun i:Nat=>((List.range i).flatMap (fun j=>(leafFd c ((rL c s).getD j default) 1).toList),(List.range i).flatMap (fun j=>(leafFd c ((rL c s).getD j default) 2).toList),mkL c.Transitions.length (fun t=>anyR (fun j=>aliveB c ((rL c s).getD j default) (t:Int)) i),(i:Int))) 0:=by
   have:List.replicate c.Transitions.length false=mkL c.Transitions.length (fun t=>anyR (fun j=>aliveB c ((rL c s).getD j default) (t:Int)) 0):=by
    apply List.ext_getElem?
    intro u
    simp only[mkL,List.getElem?_replicate,List.getElem?_map]
    by_cases hu:u < c.Transitions.length
    ·simp[hu,anyR]
    ·simp[hu]
   rw[this];rfl
  have e9:(kindL c s 1,kindL c s 2,mkL c.Transitions.length fun t=>liveB c s t)=((List.range (rL c s).length).flatMap (fun j=>(leafFd c ((rL c s).getD j default) 1).toList),(List.range (rL c s).length).flatMap (fun j=>(leafFd c ((rL c s).getD j default) 2).toList),mkL c.Transitions.length (fun t=>anyR (fun j=>aliveB c ((rL c s).getD j default) (t:Int)) (rL c s).length)):=by
   rw[kind_rL,kind_rL,mkL_congr (fun t _=>live_rL.symm)]
  rw[e0,e9]
  refine loop_st (rL c s).length (fun i:Nat=>((List.range i).flatMap (fun j=>(leafFd c ((rL c s).getD j default) 1).toList),(List.range i).flatMap (fun j=>(leafFd c ((rL c s).getD j default) 2).toList),mkL c.Transitions.length (fun t=>anyR (fun j=>aliveB c ((rL c s).getD j default) (t:Int)) i),(i:Int))) (Sum.inl _) (fun i hi=>?_) ?_
  ·have g1:=flatMap_len (g:=fun j=>(leafFd c ((rL c s).getD j default) 1).toList) (m:=1) (fun j=>toList_len _) i
   have g2:=flatMap_len (g:=fun j=>(leafFd c ((rL c s).getD j default) 2).toList) (m:=1) (fun j=>toList_len _) i
   simp only[inL hi,decide_true,if_true,bs,ol,Int.toNat_natCast,eq_true hi]
   have r1:(List.range (i+1)).flatMap (fun j=>(leafFd c ((rL c s).getD j default) 1).toList)=(List.range i).flatMap (fun j=>(leafFd c ((rL c s).getD j default) 1).toList)++(leafFd c ((rL c s).getD i default) 1).toList:=flatMap_app _ _
   have r2:(List.range (i+1)).flatMap (fun j=>(leafFd c ((rL c s).getD j default) 2).toList)=(List.range i).flatMap (fun j=>(leafFd c ((rL c s).getD j default) 2).toList)++(leafFd c ((rL c s).getD i default) 2).toList:=flatMap_app _ _
   obtain⟨B,hB⟩:∃ B:Nat→Bool,B=fun t:Nat=>anyR (fun j=>aliveB c ((rL c s).getD j default) (t:Int)) i:=⟨_,rfl⟩
   have r0:mkL c.Transitions.length (fun t=>anyR (fun j=>aliveB c ((rL c s).getD j default) (t:Int)) i)=mkL c.Transitions.length B:=by rw[hB]
   have r3:mkL c.Transitions.length (fun t=>anyR (fun j=>aliveB c ((rL c s).getD j default) (t:Int)) (i+1))=mkL c.Transitions.length (fun t=>B t || aliveB c ((rL c s).getD i default) (t:Int)):=by
    rw[hB]
    refine mkL_congr fun t _=>?_
    unfold anyR
    rw[List.range_succ,List.any_append]
    simp
   rw[r1,r2,r3,r0]
   clear r1 r2 r3 r0 hB e0 e9
   generalize (List.range i).flatMap (fun j=>(leafFd c ((rL c s).getD j default) 1).toList)=K1 at g1 ⊢
   generalize (List.range i).flatMap (fun j=>(leafFd c ((rL c s).getD j default) 2).toList)=K2 at g2 ⊢
   generalize (rL c s).getD i default=leaf
   have w2:IntKind.wrap .i64 ((i:Int)+1)=((i+1:Nat):Int):=by rw[w64 (by omega) (by omega)];omega
   refine on_l (y:=(K1++(leafFd c leaf 1).toList,K2++(leafFd c leaf 2).toList,mkL c.Transitions.length fun t=>B t || aliveB c leaf (t:Int))) ?_ (by simp only[bs,ol,w2])
   have e0:(K1,K2,mkL c.Transitions.length B,false,false,(0:Int))=(fun k:Nat=>(K1++(firstR (fun j=>f1 c leaf ((valsA c).getD j default)) k).toList,K2++(firstR (fun j=>f2 c leaf ((valsA c).getD j default)) k).toList,mkL c.Transitions.length (fun t=>B t || anyR (fun j=>pA c leaf t ((valsA c).getD j default)) k),(firstR (fun j=>f1 c leaf ((valsA c).getD j default)) k).isSome,(firstR (fun j=>f2 c leaf ((valsA c).getD j default)) k).isSome,(k:Int))) 0:=by
    have:mkL c.Transitions.length B=mkL c.Transitions.length (fun t=>B t || anyR (fun j=>pA c leaf t ((valsA c).getD j default)) 0):=mkL_congr fun t _=>by simp[anyR]
    rw[this]
    simp[firstR]
   have e9:(K1++(leafFd c leaf 1).toList,K2++(leafFd c leaf 2).toList,mkL c.Transitions.length fun t=>B t || aliveB c leaf (t:Int))=(K1++(firstR (fun j=>f1 c leaf ((valsA c).getD j default)) (valsA c).length).toList,K2++(firstR (fun j=>f2 c leaf ((valsA c).getD j default)) (valsA c).length).toList,mkL c.Transitions.length (fun t=>B t || anyR (fun j=>pA c leaf t ((valsA c).getD j default)) (valsA c).length)):=by
    rw[f1_all,f2_all]
    congr 2
    exact mkL_congr fun t _=>by rw[pA_all]
   rw[e0,e9]
   refine loop_st (valsA c).length (fun k:Nat=>(K1++(firstR (fun j=>f1 c leaf ((valsA c).getD j default)) k).toList,K2++(firstR (fun j=>f2 c leaf ((valsA c).getD j default)) k).toList,mkL c.Transitions.length (fun t=>B t || anyR (fun j=>pA c leaf t ((valsA c).getD j default)) k),(firstR (fun j=>f1 c leaf ((valsA c).getD j default)) k).isSome,(firstR (fun j=>f2 c leaf ((valsA c).getD j default)) k).isSome,(k:Int))) (Sum.inl _) (fun k hk=>?_) ?_
   ·have w3:IntKind.wrap .i64 ((k:Int)+1)=((k+1:Nat):Int):=by rw[w64 (by omega) (by omega)];omega
    have t1:=toList_len (firstR (fun j=>f1 c leaf ((valsA c).getD j default)) k)
    have t2:=toList_len (firstR (fun j=>f2 c leaf ((valsA c).getD j default)) k)
    obtain⟨B',hB⟩:∃ B':Nat→Bool,B'=fun t:Nat=>B t || anyR (fun j=>pA c leaf t ((valsA c).getD j default)) k:=⟨_,rfl⟩
    have r0:mkL c.Transitions.length (fun t=>B t || anyR (fun j=>pA c leaf t ((valsA c).getD j default)) k)=mkL c.Transitions.length B':=by rw[hB]
    have r3:mkL c.Transitions.length (fun t=>B t || anyR (fun j=>pA c leaf t ((valsA c).getD j default)) (k+1))=mkL c.Transitions.length (fun t=>B' t || pA c leaf t ((valsA c).getD k default)):=by
     rw[hB]
     refine mkL_congr fun t _=>?_
     unfold anyR
     rw[List.range_succ,List.any_append,← Bool.or_assoc]
     simp
    simp only[inL hk,decide_true,if_true,bs,ol,Int.toNat_natCast]
    rw[r3,r0,firstR_orK (f:=fun j=>f1 c leaf ((valsA c).getD j default)),firstR_orK (f:=fun j=>f2 c leaf ((valsA c).getD j default))]
    generalize firstR (fun j=>f1 c leaf ((valsA c).getD j default)) k=o1 at t1 ⊢
    generalize firstR (fun j=>f2 c leaf ((valsA c).getD j default)) k=o2 at t2 ⊢
    clear r3 r0 hB e0 e9
    generalize (valsA c).getD k default=v
    have c3:(((K1++o1.toList).length+1) * 40≤140737488355328)=True:=eq_true (by rw[List.length_append];omega)
    have c4:(((K2++o2.toList).length+1) * 40≤140737488355328)=True:=eq_true (by rw[List.length_append];omega)
    have hel:=enabledS_len c leaf v
    refine on_l (y:=(K1++(orK o1 (f1 c leaf v)).toList,K2++(orK o2 (f2 c leaf v)).toList,mkL c.Transitions.length (fun t=>B' t || pA c leaf t v),(orK o1 (f1 c leaf v)).isSome,(orK o2 (f2 c leaf v)).isSome)) ?_ (by simp only[w3])
    refine on_l (alive_loop (l:=enabledS c leaf v) (fun x hx=>enab_lt hx) Sum.inl (fun B'' j t hj ht htl=>?_) (fun B''=>?_) B') ?_
    ·have w4:IntKind.wrap .i64 ((j:Int)+1)=((j+1:Nat):Int):=by rw[w64 (by omega) (by omega)];omega
     have c5:((t:Int) < (c.Transitions.length:Int))=True:=eq_true (by omega)
     have c6:((0:Int)≤(t:Int))=True:=eq_true (by omega)
     simp only[inL hj,decide_true,if_true,Int.toNat_natCast,ht,c5,c6,eq_true htl,mkL_sub,w4]
    ·simp only[lt_irr,decide_false,Bool.false_eq_true,if_false]
    unfold f1 f2 pA
    have c3':((K1.length+1) * 40≤140737488355328)=True:=eq_true (by omega)
    have c4':((K2.length+1) * 40≤140737488355328)=True:=eq_true (by omega)
    have g0:(((enabledS c leaf v).length:Int)==0)=true→decide (1 < ((enabledS c leaf v).length:Int))=false:=fun h=>by
     have:((enabledS c leaf v).length:Int)=0:=by simpa using h
     rw[this];rfl
    have g1:decide (1 < ((enabledS c leaf v).length:Int))=true→((0 < ((enabledS c leaf v).length:Int))=True∧(1 < ((enabledS c leaf v).length:Int))=True):=fun h=>by
     have:=of_decide_eq_true h
     exact⟨eq_true (by omega),eq_true this⟩
    cases e0:(((enabledS c leaf v).length:Int)==0) with
    | true =>
     have e1:=g0 e0
     cases o1 with
     | none=>cases o2<;>simp only[e1,c3',orK_some,orK_none,Option.isSome_none,Option.isSome_some,Option.toList_none,Option.toList_some,List.append_nil,Bool.not_false,Bool.not_true,Bool.and_true,Bool.and_false,Bool.false_and,Bool.true_and,Bool.false_eq_true,if_true,if_false]
     | some x=>cases o2<;>simp only[e1,orK_some,orK_none,Option.isSome_none,Option.isSome_some,Option.toList_none,Option.toList_some,List.append_nil,Bool.not_false,Bool.not_true,Bool.and_true,Bool.and_false,Bool.false_and,Bool.true_and,Bool.false_eq_true,if_true,if_false]
    | false =>
     cases e1:decide (1 < ((enabledS c leaf v).length:Int)) with
     | false =>
      cases o1<;>cases o2<;>simp only[orK_some,orK_none,Option.isSome_none,Option.isSome_some,Option.toList_none,Option.toList_some,List.append_nil,Bool.not_false,Bool.not_true,Bool.and_true,Bool.and_false,Bool.false_and,Bool.true_and,Bool.false_eq_true,if_true,if_false]
     | true =>
      obtain⟨z2,z3⟩:=g1 e1
      cases o1<;>cases o2<;>simp only[z0,z1,z2,z3,c4',orK_some,orK_none,Option.isSome_none,Option.isSome_some,Option.toList_none,Option.toList_some,List.append_nil,Bool.not_false,Bool.not_true,Bool.and_true,Bool.and_false,Bool.false_and,Bool.true_and,Bool.false_eq_true,if_true,if_false]<;>rfl
   ·simp only[lt_irr,decide_false,Bool.false_eq_true,if_false,bs,or_]
  ·simp only[lt_irr,decide_false,Bool.false_eq_true,if_false,bs,or_]
 ·have k1:=kindL_len c s 1
  have k2:=kindL_len c s 2
  have c9:(((kindL c s 1).length+(kindL c s 2).length) * 40≤140737488355328)=True:=eq_true (by omega)
  simp only[c9,if_true,bs,ol]
  refine on_l (y:=kindL c s 1++kindL c s 2++(List.range (leavesS c).length).flatMap (unrG c s)) ?_ ?_
  ·refine loop_app (leavesS c).length (fun j l=>(l,(j:Int))) (unrG c s) Sum.inl (kindL c s 1++kindL c s 2) (fun j hj=>?_) ?_
   ·have hgl:=flatMap_len (unrG_len c s) j
    have c1:(((kindL c s 1++kindL c s 2)++(List.range j).flatMap (unrG c s)).length+1) * 40≤140737488355328:=by rw[List.length_append,List.length_append];omega
    have w2:IntKind.wrap .i64 ((j:Int)+1)=((j+1:Nat):Int):=by rw[w64 (by omega) (by omega)];omega
    simp only[inL hj,decide_true,if_true,Int.toNat_natCast,rL_has (getD_mem hj),bs,w2,eq_true c1]
    cases hr:reachB s ((leavesS c).getD j default) with
    | false =>
     have hd:unrG c s j=[⟨3,(leavesS c).getD j default,0,-1,-1⟩]:=by unfold unrG leafA;rw[hr];rfl
     simp only[Bool.not_false,if_true,hd]
    | true =>
     have hd:unrG c s j=[]:=by unfold unrG leafA;rw[hr];rfl
     simp only[Bool.not_true,Bool.false_eq_true,if_false,hd,List.append_nil]
   ·simp only[lt_irr,decide_false,Bool.false_eq_true,if_false]
  ·have hul:=flatMap_len (unrG_len c s) (leavesS c).length
   refine on_l (y:=findS c s) ?_ rfl
   unfold findS
   refine loop_app c.Transitions.length (fun j l=>(l,(j:Int))) (deadG c s) Sum.inl _ (fun t ht=>?_) ?_
   ·have hgl:=flatMap_len (deadG_len c s) t
    have c1:(((kindL c s 1++kindL c s 2++(List.range (leavesS c).length).flatMap (unrG c s))++(List.range t).flatMap (deadG c s)).length+1) * 40≤140737488355328:=by simp only[List.length_append];omega
    have w2:IntKind.wrap .i64 ((t:Int)+1)=((t+1:Nat):Int):=by rw[w64 (by omega) (by omega)];omega
    simp only[inL ht,decide_true,if_true,Int.toNat_natCast,eq_true ht,mkL_at ht,w2]
    cases hl2:liveB c s t with
    | true =>
     have hd:deadG c s t=[]:=by unfold deadG;rw[hl2];rfl
     simp only[Bool.not_true,Bool.false_eq_true,if_true,if_false,hd,List.append_nil]
    | false =>
     have hd:deadG c s t=[⟨4,-1,0,(t:Int),-1⟩]:=by unfold deadG;rw[hl2];rfl
     simp only[Bool.not_false,Bool.false_eq_true,if_true,if_false,eq_true c1,hd]
   ·simp only[lt_irr,decide_false,Bool.false_eq_true,if_false]
theorem M18 (a0:T27):m18 a0=((orJ (Option.bind (Option.bind (m44o1 a0) fun r=>some r) fun x1=>(if(x1 != 0)=true then(some ([],x1))else(Option.bind (none) fun(x4:(Unit))=>none))) (Option.bind (Option.bind (m44o2 a0) fun r=>some r) fun x1=>(if((0:Int) != (0:Int))=true then(some ([],(0:Int)))else(Option.bind (((m47o1 a0 x1.1 x1.2.1 x1.2.2.1 x1.2.2.2).bind fun r4_0=>some (r4_0,x1))) fun(x4:((List T44)×((List T37)×(List Int)×(List Int)×(List Int))))=>(some (x4.1,(0:Int))))))):Option ((List T44)×Int)):=by kernel_rfl
theorem Findings_eq {c:T27} (H:Fit c) (hn:c.Conds.length≤12):m18 c=findM c:=by
 obtain⟨e,he⟩:=checkM_some c
 have q1:=srchE_eq H hn
 have q2:=srchR_eq H hn
 have q3:∀ s:SS,Inv c s→m47o1 c s.1 s.2.1 s.2.2 (valsA c)=some (findS c s):=fun s I=>sfind_eq H hn I
 unfold findM
 simp only[M18,bind_id,q1,q2,he,bs]
 generalize m47o1=F at q3 ⊢
 by_cases h0:(e != 0)=true
 ·simp only[h0,bs,if_true];rfl
 ·have h0:=Bool.eq_false_iff.2 h0
  have e0:e=0:=by simpa using h0
  subst e0
  simp only[h0,Bool.false_eq_true,if_false]
  cases hs:searchS c with
  | none=>rfl
  | some s =>
   have q4:=q3 s (searchS_inv H he hs)
   simp only[bs,bn,q4];rfl
end Go.Av
set_option maxRecDepth 100000
namespace Go.Av
open Ch Go.Proofs
def kindI (l:List T44) (kind:Int):Int:=findR (fun i=>(l.getD i default).Kind==kind) l.length
def firstM (c:T27) (kind:Int):Option (T44×Bool×Int):=(findM c).bind fun r=>if(r.2 != 0)=true then some (⟨0,0,0,0,0⟩,false,r.2)else if decide (kindI r.1 kind < 0)=true then some (⟨0,0,0,0,0⟩,true,0)else some (r.1.getD (kindI r.1 kind).toNat default,false,0)
theorem findS_len {c:T27} (H:Fit c) (s:SS):(findS c s).length≤4000:=by
 have hst:=H.states
 have htr:=H.trans
 have hll:=leavesS_len (c:=c)
 have k1:=kindL_len c s 1
 have k2:=kindL_len c s 2
 have hul:=flatMap_len (unrG_len c s) (leavesS c).length
 have hgl:=flatMap_len (deadG_len c s) c.Transitions.length
 unfold findS
 simp only[List.length_append];omega
theorem findM_some (c:T27):∃ r,findM c=some r:=by
 obtain⟨e,he⟩:=checkM_some c
 unfold findM
 rw[he,Option.bind_some]
 split
 ·exact⟨_,rfl⟩
 ·split<;>exact⟨_,rfl⟩
theorem findM_len {c:T27} (H:Fit c) {r:List T44×Int} (h:findM c=some r):r.1.length≤4000:=by
 obtain⟨e,he⟩:=checkM_some c
 unfold findM at h
 rw[he,Option.bind_some]at h
 split at h
 ·injection h with h;subst h;simp
 ·split at h
  ·injection h with h;subst h;exact findS_len H _
  ·injection h with h;subst h;simp
theorem M108o0 (a0:List T44) (a1:Int):m108o0 a0 a1=((Option.bind (some (.inl ())) (onS fun(_:Unit)=>(Option.bind (Option.bind (some (.inl ())) (onS fun(_:Unit)=>(loopO (fun(s1:Int)=>((if(decide (s1 < (a0.length:Int)))=true then(Option.bind ((if 0≤s1 then(if s1 < (a0.length:Int)then((m109o0 (a0.getD s1.toNat default) a1).bind fun r4_0=>some r4_0)else none)else none)) fun(x4:(Unit))=>(if((a0.getD s1.toNat default).Kind==a1)=true then(some (.inr (.inr (s1))))else(some (.inl (IntKind.wrap .i64 (s1+1))))))else(some (.inr (.inl ())))):Option ((Int)⊕((Unit)⊕(Int))))) (0:Int)))) (onS fun(_:Unit)=>(some (-1:Int)))))):Option (Int)):=by kernel_rfl
theorem M61 (a0:T27) (a1:Int):m61 a0 a1=((Option.bind (Option.bind (m18 a0) fun r=>some r) fun x1=>(if(x1.2 != 0)=true then(some ((⟨(0:Int),(0:Int),(0:Int),(0:Int),(0:Int)⟩:T44),false,x1.2))else(Option.bind (Option.bind (m108o0 x1.1 a1) fun r=>some r) fun x4=>(if(decide (x4 < 0))=true then(some ((⟨(0:Int),(0:Int),(0:Int),(0:Int),(0:Int)⟩:T44),true,(0:Int)))else(if(0≤x4)then(if(x4 < (x1.1.length:Int))then(some ((x1.1.getD x4.toNat default),false,(0:Int)))else none)else none))))):Option (T44×Bool×Int)):=by kernel_rfl
theorem first_eq {c:T27} (H:Fit c) (hn:c.Conds.length≤12) (kind:Int):m61 c kind=firstM c kind:=by
 have q1:=Findings_eq H hn
 obtain⟨r,hr⟩:=findM_some c
 have hl:=findM_len H hr
 have q2:m108o0 r.1 kind=some (kindI r.1 kind):=by
  simp only[M108o0,bind_id,bs,ol]
  refine idx_loop (fun i hi=>?_) ?_
  ·simp only[exB_ite,exB_some,exB_none,inL hi,decide_true,Int.toNat_natCast,if_true,wr1 hi (by omega),bs,show ∀ x,m109o0 x kind=some () from fun x=>rfl]
  ·simp only[lt_irr,decide_false,Bool.false_eq_true,if_false]
 unfold firstM
 simp only[M61,bind_id,q1,hr,bs,q2]
 by_cases h0:(r.2 != 0)=true
 ·simp only[h0,if_true]
 ·have h0:=Bool.eq_false_iff.2 h0
  simp only[h0,Bool.false_eq_true,if_false]
  rcases findR_cases (fun i=>(r.1.getD i default).Kind==kind) r.1.length with⟨h1,_⟩ | ⟨k,h1,h2,_⟩
  ·have h1:kindI r.1 kind = -1:=h1
   rw[h1];rfl
  ·have h2:kindI r.1 kind=(k:Int):=h2
   rw[h2]
   have d:decide ((k:Int) < 0)=false:=by simp
   simp only[d,Bool.false_eq_true,if_false,inL h1,if_true]
theorem firstM_some {c:T27} {kind:Int}:∃ r,firstM c kind=some r:=by
 obtain⟨r,hr⟩:=findM_some c
 unfold firstM
 rw[hr,Option.bind_some]
 split
 ·exact⟨_,rfl⟩
 ·split<;>exact⟨_,rfl⟩
theorem Complete_eq {c:T27} (H:Fit c) (hn:c.Conds.length≤12):m23 c=firstM c 1:=by
 have h:=first_eq H hn 1
 obtain⟨r,hr⟩:=firstM_some (c:=c) (kind:=1)
 rw[hr]at h ⊢
 delta m23 d23
 simp only[↓JD.sg_m,↓JD.sq_m,↓JD.sc_m,↓JD.bk_m,↓JD.lp_m,↓JD.cd_m,↓JD.lu_m,↓JD.ct_m,↓JD.ce_m,↓JL.r_m,↓JL.z_m,↓JD.se_m,onE_r,↓Tr.run,↓Tr.run_nd,↓Tr.run_c3,↓Tr.run_c2,↓Tr.run_nx,↓onS,bind_ite,Option.bind_some,Option.bind_none,obR,h]
theorem Exclusive_eq {c:T27} (H:Fit c) (hn:c.Conds.length≤12):m25 c=firstM c 2:=by
 have h:=first_eq H hn 2
 obtain⟨r,hr⟩:=firstM_some (c:=c) (kind:=2)
 rw[hr]at h ⊢
 delta m25 d25
 simp only[↓JD.sg_m,↓JD.sq_m,↓JD.sc_m,↓JD.bk_m,↓JD.lp_m,↓JD.cd_m,↓JD.lu_m,↓JD.ct_m,↓JD.ce_m,↓JL.r_m,↓JL.z_m,↓JD.se_m,onE_r,↓Tr.run,↓Tr.run_nd,↓Tr.run_c3,↓Tr.run_c2,↓Tr.run_nx,↓onS,bind_ite,Option.bind_some,Option.bind_none,obR,h]
end Go.Av
set_option maxRecDepth 100000
namespace Go.Av
open Ch Go.Proofs
theorem leaf_in {c:T27} {s:SS} (I:Inv c s) {leaf:Int} (h:reachB s leaf=true):leaf∈leavesS c:=by
 obtain⟨g,hg,rfl⟩:=reachB_iff.1 h
 have:=validS_iff.1 (I.ok g hg)
 exact leavesS_iff.2 ⟨this.1,this.2.1⟩
theorem kind_mem {c:T27} {s:SS} {kind:Int} {x:T44}:x∈kindL c s kind↔∃ leaf∈leavesS c,reachB s leaf=true∧leafFd c leaf kind=some x:=by
 unfold kindL
 rw[List.mem_flatMap]
 constructor
 ·rintro⟨i,h1,h2⟩
  unfold kindG at h2
  split at h2
  ·rename_i h3
   refine⟨leafA c i,getD_mem (List.mem_range.1 h1),h3,?_⟩
   simpa using h2
  ·cases h2
 ·rintro⟨leaf,h1,h2,h3⟩
  obtain⟨i,hi,rfl⟩:=List.getElem_of_mem h1
  have e:leafA c i=(leavesS c)[i]:=by simp[leafA,List.getD_eq_getElem?_getD,List.getElem?_eq_getElem hi]
  refine⟨i,List.mem_range.2 hi,?_⟩
  unfold kindG
  rw[e,if_pos h2,h3];simp
theorem leafFd_some {c:T27} {leaf kind:Int} {x:T44} (h:leafFd c leaf kind=some x):∃ v:Nat,v < numV c∧allowedS c (v:Int)=true∧((kind=1∧(enabledS c leaf (v:Int)).length=0∧x=⟨1,leaf,(v:Int),-1,-1⟩)∨(kind=2∧1 < (enabledS c leaf (v:Int)).length∧x=⟨2,leaf,(v:Int),(enabledS c leaf (v:Int)).getD 0 default,(enabledS c leaf (v:Int)).getD 1 default⟩)):=by
 obtain⟨v,hv,h2⟩:=firstR_some h
 unfold finV at h2
 split at h2
 ·rename_i ha
  refine⟨v,hv,ha,?_⟩
  split at h2
  ·rename_i h3
   simp only[Bool.and_eq_true,beq_iff_eq]at h3
   obtain⟨rfl,h3⟩:=h3
   injection h2 with h2
   exact .inl ⟨rfl,by omega,h2.symm⟩
  ·split at h2
   ·rename_i h3
    simp only[Bool.and_eq_true,beq_iff_eq,decide_eq_true_eq]at h3
    obtain⟨rfl,h3⟩:=h3
    injection h2 with h2
    exact .inr ⟨rfl,by omega,h2.symm⟩
   ·cases h2
 ·cases h2
theorem leafFd_kind {c:T27} {leaf kind:Int} {x:T44} (h:leafFd c leaf kind=some x):x.Kind=kind:=by
 obtain⟨v,_,_,⟨rfl,_,rfl⟩ | ⟨rfl,_,rfl⟩⟩:=leafFd_some h<;>rfl
theorem first_true {c:T27} {kind:Int} {f:T44} (h:firstM c kind=some (f,true,0)):checkM c=some 0∧∃ s,searchS c=some s∧∀ x∈findS c s,x.Kind≠kind:=by
 obtain⟨e,he⟩:=checkM_some c
 unfold firstM findM at h
 simp only[he,Option.bind_some]at h
 by_cases h0:(e != 0)=true
 ·simp only[h0,if_true,Option.bind_some]at h
  injection h with h;injection h with _ h;injection h with h _;cases h
 ·have h0:=Bool.eq_false_iff.2 h0
  have e0:e=0:=by simpa using h0
  subst e0
  refine⟨he,?_⟩
  simp only[h0,Bool.false_eq_true,if_false]at h
  cases hs:searchS c with
  | none =>
   rw[hs]at h
   simp only[Option.bind_some,show ((3:Int) != 0)=true from rfl,if_true]at h
   injection h with h;injection h with _ h;injection h with h _;cases h
  | some s =>
   rw[hs]at h
   simp only[Option.bind_some,h0,Bool.false_eq_true,if_false]at h
   refine⟨s,rfl,fun x hx hk=>?_⟩
   split at h
   ·rename_i h3
    obtain⟨i,hi,rfl⟩:=List.getElem_of_mem hx
    rcases findR_cases (fun i=>((findS c s).getD i default).Kind==kind) (findS c s).length with⟨_,h4⟩ | ⟨k,_,h4,_⟩
    ·have:=anyR_false.1 h4 i hi
     simp[List.getD_eq_getElem?_getD,List.getElem?_eq_getElem hi,hk]at this
    ·have h4:kindI (findS c s) kind=(k:Int):=h4
     rw[h4]at h3
     simp at h3
     omega
   ·injection h with h;injection h with _ h;injection h with h _;cases h
theorem one_enabled {c:T27} {s:SS} (I:Inv c s) (n1:∀ x∈findS c s,x.Kind≠1) (n2:∀ x∈findS c s,x.Kind≠2) {leaf:Int} (h:reachB s leaf=true) {v:Nat} (hv:v < numV c) (ha:allowedS c (v:Int)=true):(enabledS c leaf (v:Int)).length=1:=by
 have hl:=leaf_in I h
 have k:∀ kind:Int,kind=1∨kind=2→leafFd c leaf kind=none:=fun kind hk=>by
  cases hf:leafFd c leaf kind with
  | none=>rfl
  | some x =>
   exfalso
   have hm:x∈kindL c s kind:=kind_mem.2 ⟨leaf,hl,h,hf⟩
   have hx:=leafFd_kind hf
   rcases hk with rfl | rfl
   ·exact n1 x (by unfold findS;simp only[List.mem_append];exact .inl (.inl (.inl hm))) hx
   ·exact n2 x (by unfold findS;simp only[List.mem_append];exact .inl (.inl (.inr hm))) hx
 have k1:=firstR_none.1 (k 1 (.inl rfl)) v hv
 have k2:=firstR_none.1 (k 2 (.inr rfl)) v hv
 unfold finV at k1 k2
 rw[if_pos ha]at k1 k2
 have c1:¬ (enabledS c leaf (v:Int)).length=0:=fun h0=>by
  rw[if_pos (by simp[h0])]at k1;cases k1
 have c2:¬ 1 < (enabledS c leaf (v:Int)).length:=fun h0=>by
  have d1:decide (1 < ((enabledS c leaf (v:Int)).length:Int))=true:=by simp;omega
  simp only[show ((2:Int)==1)=false from rfl,Bool.false_and,Bool.false_eq_true,if_false,show ((2:Int)==2)=true from rfl,Bool.true_and,d1,if_true]at k2
  cases k2
 omega
theorem run_sound {c:T27} {s:SS} (hc:checkM c=some 0) (I:Inv c s) (hs:searchS c=some s) (one:∀ leaf,reachB s leaf=true→∀ v:Nat,v < numV c→allowedS c (v:Int)=true→(enabledS c leaf (v:Int)).length=1):∀ {l:List Int} {g:T37} {ls:List Int} {a:List (List UInt8)},(∀ v∈l,∃ n:Nat,v=n∧n < numV c∧allowedS c v=true)→g∈s.1→(∀ x∈ls,reachB s x=true) →
  ∃ z,runS c l g ls a=some z∧z.2.2=0∧z.1.length=ls.length+l.length∧∀ x∈z.1,reachB s x=true
 | [],g,ls,a,hl,hg,hx=>⟨_,rfl,rfl,by simp,hx⟩
 | v :: l,g,ls,a,hl,hg,hx=>by
  obtain⟨n,hvn,hn,ha⟩:=hl v (by simp)
  have hr:reachB s g.Leaf=true:=reachB_iff.2 ⟨g,hg,rfl⟩
  have h1:=one g.Leaf hr n hn (by rw[← hvn];exact ha)
  have h2:=enab_one hc (I.ok g hg) ha
  rw[hvn,h1]at h2
  rw[show ((((1:Nat):Int))==1)=true from rfl,if_pos rfl]at h2
  have hm:=reach_step hs hg hn h2
  unfold stepO at h2
  rw[Option.bind_eq_some_iff]at h2
  obtain⟨r,h3,h4⟩:=h2
  split at h4
  ·rename_i h5
   injection h4 with h4
   rw[← h4]at hm
   obtain⟨z,z1,z2,z3,z4⟩:=run_sound hc I hs one (l:=l) (ls:=ls++[r.1.Leaf]) (a:=a++r.2.1) (fun w hw=>hl w (by simp[hw])) hm (fun x h=>by
    rcases List.mem_append.1 h with h | h
    ·exact hx x h
    ·simp only[List.mem_singleton]at h
     subst h
     exact reachB_iff.2 ⟨r.1,hm,rfl⟩)
   refine⟨z,?_,z2,by rw[z3];simp;omega,z4⟩
   unfold runS
   have h6:(r.2.2 != 0)=false:=by simpa using h5
   rw[hvn,h3,Option.bind_some,h6,if_neg (by decide)]
   exact z1
  ·cases h4
end Go.Av
set_option maxRecDepth 1000000
namespace Go.Av
open Ch Go.Proofs
theorem Cc.awake_true:m13=some true:=by kernel_rfl
def mskV (n x:Int):Int:=IntKind.wrap .u16 ((((BitVec.ofInt (IntKind.bits .u16) x) &&& (BitVec.ofInt (IntKind.bits .u16) (IntKind.wrap .u16 ((IntKind.wrap .u16 ((1:Int) * 2 ^ (min n.toNat (IntKind.bits .u16)))) - 1)))).toNat:Int))
theorem msk_top:∀ k:Nat,k≤3→(BitVec.ofInt (IntKind.bits .u16) (IntKind.wrap .u16 ((IntKind.wrap .u16 ((1:Int) * 2 ^ (min (k:Int).toNat (IntKind.bits .u16)))) - 1))).toNat=2 ^ k - 1
 | 0,_=>by decide
 | 1,_=>by decide
 | 2,_=>by decide
 | 3,_=>by decide
 | k+4,h=>by omega
theorem mskV_lt {c:T27} (h:c.Conds.length≤3) (x:Int):∃ m:Nat,mskV (c.Conds.length:Int) x=m∧m < numV c:=by
 have h1:=msk_top _ h
 have h2:=numV_pos c
 have h3:=numV_le (c:=c) (by omega)
 unfold mskV
 rw[BitVec.toNat_and,h1]
 have h4:=Nat.and_le_right (n:=(BitVec.ofInt (IntKind.bits .u16) x).toNat) (m:=2 ^ c.Conds.length - 1)
 have h5:numV c=2 ^ c.Conds.length:=rfl
 generalize ((BitVec.ofInt (IntKind.bits .u16) x).toNat &&& 2 ^ c.Conds.length - 1)=m at h4 ⊢
 exact⟨m,n16 (by omega),by omega⟩
theorem M8 (a0:T27) (a1:List Int):m8 a0 a1=((Option.bind (Option.bind (Option.bind (m13) fun r=>some r) fun x1=>(if(!x1)=true then(some (.inr (false)))else(Option.bind (Option.bind (m14 a0) fun r=>some r) fun x3=>(Option.bind (Option.bind (m23 x3) fun r=>some r) fun x4=>(Option.bind (Option.bind (m25 x3) fun r=>some r) fun x5=>(if((((x4.2.2 != 0) || (x5.2.2 != 0)) || (!x4.2.1)) || (!x5.2.1))=true then(some (.inr (true)))else(some (.inl (x3.Name,x3.Conds,x3.Never,x3.States,x3.Start,x3.Transitions))))))))) (onS fun(y1:(List UInt8)×(List (List UInt8))×(List (List T116))×(List T119)×Int×(List T85))=>(Option.bind (Option.bind (some (.inl ())) (onS fun(_:Unit)=>(loopO (fun(s2:(List Int)×Int)=>((if((decide (s2.2 < (a1.length:Int)))&&(decide (s2.2 < 12)))=true then(if(0≤s2.2)then(if(s2.2 < (a1.length:Int))then(if(0≤(y1.2.1.length:Int))then(Option.bind (Option.bind (m20 (⟨y1.1,y1.2.1,y1.2.2.1,y1.2.2.2.1,y1.2.2.2.2.1,y1.2.2.2.2.2⟩:T27) (IntKind.wrap .u16 ((((BitVec.ofInt (IntKind.bits .u16) (a1.getD s2.2.toNat default)) &&& (BitVec.ofInt (IntKind.bits .u16) (IntKind.wrap .u16 ((IntKind.wrap .u16 ((1:Int) * 2 ^ (min (y1.2.1.length:Int).toNat (IntKind.bits .u16)))) - 1)))).toNat:Int)))) fun r=>some r) fun x13=>(if x13=true then(if((s2.1.length+1) * 2≤140737488355328)then(some (.inl ((s2.1++([(IntKind.wrap .u16 ((((BitVec.ofInt (IntKind.bits .u16) (a1.getD s2.2.toNat default)) &&& (BitVec.ofInt (IntKind.bits .u16) (IntKind.wrap .u16 ((IntKind.wrap .u16 ((1:Int) * 2 ^ (min (y1.2.1.length:Int).toNat (IntKind.bits .u16)))) - 1)))).toNat:Int)))]:List Int)),(IntKind.wrap .i64 (s2.2+1)))))else none)else(some (.inl (s2.1,(IntKind.wrap .i64 (s2.2+1)))))))else none)else none)else none)else(some (.inr (.inl s2.1)))):Option (((List Int)×Int)⊕(((List Int))⊕(Bool))))) ([],(0:Int))))) (onS fun(y3:(List Int))=>(Option.bind (Option.bind (Option.bind (m32 (⟨y1.1,y1.2.1,y1.2.2.1,y1.2.2.2.1,y1.2.2.2.2.1,y1.2.2.2.2.2⟩:T27) y3) fun r=>some r) fun x15=>(if((x15.2.2 != 0) || ((x15.1.length:Int) != (IntKind.wrap .i64 ((y3.length:Int)+(1:Int)))))=true then(some (.inr (false)))else(Option.bind (Option.bind (m15 (⟨y1.1,y1.2.1,y1.2.2.1,y1.2.2.2.1,y1.2.2.2.2.1,y1.2.2.2.2.2⟩:T27)) fun r=>some r) fun x18=>(some (.inl (x15.1,x18.1)))))) (onS fun(y4:(List Int)×(List T37))=>(Option.bind (Option.bind (some (.inl ())) (onS fun(_:Unit)=>(loopO (fun(s5:Int)=>((Option.bind (if(decide (s5 < (y4.1.length:Int)))=true then(some (.inl ()))else(some (.inr (.inr (.inl ()))))) (onS fun(_:Unit)=>(Option.bind (Option.bind (if(0≤s5)then(if(s5 < (y4.1.length:Int))then(some (.inl ()))else none)else none) (onS fun(_:Unit)=>(Option.bind (Option.bind (some (.inl ())) (onS fun(_:Unit)=>(loopO (fun(s6:Bool×Int)=>((if(decide (s6.2 < (y4.2.length:Int)))=true then(if(0≤s6.2)then(if(s6.2 < (y4.2.length:Int))then(some (.inl ((s6.1 || ((y4.2.getD s6.2.toNat default).Leaf==(y4.1.getD s5.toNat default))),(IntKind.wrap .i64 (s6.2+1)))))else none)else none)else(some (.inr (.inl s6.1)))):Option ((Bool×Int)⊕((Bool)⊕((Unit)⊕((Int)⊕((Unit)⊕(Bool)))))))) (false,(0:Int))))) (onS fun(y7:Bool)=>(Option.bind ((if((!(!y7))&&(decide (s5 < (y3.length:Int))))=true→0≤s5 then(if((!(!y7))&&(decide (s5 < (y3.length:Int))))=true→s5 < (y3.length:Int)then((if((!(!y7))&&(decide (s5 < (y3.length:Int))))=true then m19 (⟨y1.1,y1.2.1,y1.2.2.1,y1.2.2.2.1,y1.2.2.2.2.1,y1.2.2.2.2.2⟩:T27) (y4.1.getD s5.toNat default) (y3.getD s5.toNat default)else some default).bind fun r28_0=>some r28_0)else none)else none)) fun(x28:((List Int)))=>(if((!y7) || ((decide (s5 < (y3.length:Int)))&&((x28.length:Int) != (1:Int))))=true then(some (.inr (.inr (.inr (false)))))else(some (.inl ())))))))) (onS fun(_:Unit)=>(some (.inl (IntKind.wrap .i64 (s5+1)))))))):Option ((Int)⊕((Unit)⊕(Bool))))) (0:Int)))) (onS fun(_:Unit)=>(some true))))))))):Option (Bool)):=by kernel_rfl
theorem plain8 {c:T27} {l:List Int} (_:ok27 c) (_:l.length≤maxLen∧∀ x∈l,(Lit.int .u16 x).wf=true):m8 c l=some true:=by
 have T:=few8_tiny c
 have H:=T.fit
 have hn3:=T.conds
 have hn:(few8 c).Conds.length≤12:=by omega
 have q0:=Cc.awake_true
 have q1:=few_eq8 c
 have q2:=Complete_eq H hn
 have q3:=Exclusive_eq H hn
 have q4:=Reachable_eq H hn
 have q5:=fun l hl=>Run_eq (few8 c) H l hl
 have q6:=fun leaf v=>Enabled_eq (few8 c) H leaf v
 have q7:=fun v=>Allowed_eq (few8 c) H v
 obtain⟨a,ha⟩:=firstM_some (c:=few8 c) (kind:=1)
 obtain⟨b,hb⟩:=firstM_some (c:=few8 c) (kind:=2)
 rw[ha]at q2
 rw[hb]at q3
 have hM:=fun x=>mskV_lt (c:=few8 c) hn3 x
 have w1:∀ n:Nat,n≤20→IntKind.wrap .i64 ((n:Int)+1)=((n+1:Nat):Int):=fun n hn=>by rw[w64 (by omega) (by omega)];omega
 simp only[M8,bind_id,q0,q1,q2,q3,q4,q6,q7,bs,Bool.not_true,Bool.false_eq_true,if_false,eta]
 by_cases h0:((((a.2.2 != 0) || (b.2.2 != 0)) || (!a.2.1)) || (!b.2.1))=true
 ·simp only[h0,if_true,bs,or_]
 have h0:=Bool.eq_false_iff.2 h0
 simp only[h0,Bool.false_eq_true,if_false,bs,ol]
 have g0:=h0
 simp only[Bool.or_eq_false_iff,bne_eq_false_iff_eq,Bool.not_eq_false']at g0
 obtain⟨⟨⟨g1,g2⟩,g3⟩,g4⟩:=g0
 obtain⟨hc,s,hs,n1⟩:=first_true (f:=a.1) (by rw[ha,← g3,← g1])
 obtain⟨_,s',hs',n2⟩:=first_true (f:=b.1) (by rw[hb,← g4,← g2])
 obtain rfl:s=s':=by rw[hs]at hs';injection hs'
 have I:=searchS_inv H hc hs
 have W:=searchS_wy H hc hs
 have I1:=I.le
 have one:=fun leaf h v hv ha=>one_enabled I n1 n2 (leaf:=leaf) h (v:=v) hv ha
 have hl12:min l.length 12≤12:=Nat.min_le_right _ _
 have hl1:min l.length 12≤l.length:=Nat.min_le_left _ _
 let G:Nat→List Int:=fun i=>if allowedS (few8 c) (mskV ((few8 c).Conds.length:Int) (l.getD i default))=true then[mskV ((few8 c).Conds.length:Int) (l.getD i default)]else[]
 have G1:∀ i,(G i).length≤1:=fun i=>by show (if _ then _ else _:List Int).length≤1;split<;>simp
 have Gl:=flatMap_len G1 (min l.length 12)
 have Gm:∀ v∈(List.range (min l.length 12)).flatMap G,∃ n:Nat,v=n∧n < numV (few8 c)∧allowedS (few8 c) v=true:=fun v hv=>by
  obtain⟨i,_,h2⟩:=List.mem_flatMap.1 hv
  have h2:v∈(if allowedS (few8 c) (mskV ((few8 c).Conds.length:Int) (l.getD i default))=true then[mskV ((few8 c).Conds.length:Int) (l.getD i default)]else[]:List Int):=h2
  split at h2
  ·rename_i h3
   simp only[List.mem_singleton]at h2
   subst h2
   obtain⟨m,m1,m2⟩:=hM (l.getD i default)
   exact⟨m,m1,m2,h3⟩
  ·cases h2
 refine bind_eq (loop_coll (min l.length 12) (fun i k=>((k,(i:Int)):List Int×Int)) G Sum.inl (fun i hi=>?_) ?_) ?_
 ·have hgl:=flatMap_len G1 i
  have d1:decide ((i:Int) < (l.length:Int))=true:=by simp;omega
  have d2:decide ((i:Int) < 12)=true:=by simp;omega
  have d3:((0:Int)≤(i:Int))=True:=eq_true (by omega)
  have d4:((i:Int) < (l.length:Int))=True:=eq_true (by omega)
  have d5:((0:Int)≤((few8 c).Conds.length:Int))=True:=eq_true (by omega)
  have d6:((((List.range i).flatMap G).length+1) * 2≤140737488355328)=True:=eq_true (by omega)
  have d7:=w1 i (by omega)
  simp only[d1,d2,d3,d4,d5,d6,d7,decide_true,Bool.and_self,if_true,Int.toNat_natCast,eta,q7,bs]
  show (if allowedS (few8 c) (mskV ((few8 c).Conds.length:Int) (l.getD i default))=true then _ else _)=_
  have e:G i=if allowedS (few8 c) (mskV ((few8 c).Conds.length:Int) (l.getD i default))=true then[mskV ((few8 c).Conds.length:Int) (l.getD i default)]else[]:=rfl
  rw[e]
  cases h5:allowedS (few8 c) (mskV ((few8 c).Conds.length:Int) (l.getD i default)) with
  | true=>simp only[h5,if_true];rfl
  | false=>simp only[h5,Bool.false_eq_true,if_false,List.append_nil]
 ·have d:(decide (((min l.length 12:Nat):Int) < (l.length:Int))&&decide (((min l.length 12:Nat):Int) < 12))=false:=by
   simp only[Bool.and_eq_false_iff,decide_eq_false_iff_not];omega
  simp only[d,Bool.false_eq_true,if_false]
 ·generalize (List.range (min l.length 12)).flatMap G=vs at Gl Gm
  have q5':=q5 vs (by omega)
  have hst:startM (few8 c)=some (0,(startS (few8 c)).2.2,(startS (few8 c)).1,(startS (few8 c)).2.1):=by
   unfold startM;rw[hc];rfl
  have hbg:(begG (few8 c))∈s.1:=by
   have:=W.i0
   rw[← this];exact getD_mem I.pos
  obtain⟨z,z1,z2,z3,z4⟩:=run_sound hc I hs one (l:=vs) (g:=begG (few8 c)) (ls:=[(startS (few8 c)).1]) (a:=(startS (few8 c)).2.2) Gm hbg (fun x hx=>by
   simp only[List.mem_singleton]at hx
   subst hx
   exact reachB_iff.2 ⟨_,hbg,rfl⟩)
  have hz:m32 (few8 c) vs=some z:=by
   rw[q5']
   unfold runM
   rw[hst]
   exact z1
  have hr:m15 (few8 c)=some (s.1,0):=by
   rw[q4];unfold reachM;rw[hc,hs];rfl
  have z3':z.1.length=vs.length+1:=by rw[z3];simp;omega
  have z0:(z.2.2 != 0)=false:=by rw[z2];rfl
  have zl:((z.1.length:Int) != ((vs.length+1:Nat):Int))=false:=by rw[z3'];simp
  have w2:=w1 vs.length (by omega)
  simp only[bs,ol,hz,hr,w2,z0,zl,Bool.or_false,Bool.false_eq_true,if_false]
  refine loop_pass z.1.length (fun i hi=>?_) (by simp only[lt_irr,decide_false,Bool.false_eq_true,if_false,bs,or_]) rfl
  have hzi:=z4 _ (getD_mem hi)
  simp only[inL hi,decide_true,Int.toNat_natCast,if_true,bs,ol,wr1 hi (by omega)]
  refine bind_eq (any_loop s.1.length (fun j=>(s.1.getD j default).Leaf==z.1.getD i default) (fun f j hj=>?_) (fun f=>?_) ?_ (z:=some (.inl ()))) (by rfl)
  ·have w3:IntKind.wrap .i64 ((j:Int)+1)=((j+1:Nat):Int):=by rw[w64 (by omega) (by omega)];omega
   simp only[inL hj,decide_true,Int.toNat_natCast,if_true,w3]
  ·simp only[lt_irr,decide_false,Bool.false_eq_true,if_false]
  ·have hz2:anyR (fun j=>(s.1.getD j default).Leaf==z.1.getD i default) s.1.length=true:=hzi
   rw[hz2]
   by_cases hiv:i < vs.length
   ·have d1:decide ((i:Int) < (vs.length:Int))=true:=by simp;omega
    have d2:((i:Int) < (vs.length:Int))=True:=eq_true (by omega)
    have d3:((0:Int)≤(i:Int))=True:=eq_true (by omega)
    obtain⟨n,v1,v2,v3⟩:=Gm _ (getD_mem hiv)
    have h1:=one _ hzi n v2 (by rw[← v1];exact v3)
    rw[← v1]at h1
    simp only[d1,d2,d3,decide_true,Bool.not_true,Bool.not_false,Bool.true_and,Bool.false_or,true_implies,if_true,q6,bs,h1]
    rfl
   ·have d1:decide ((i:Int) < (vs.length:Int))=false:=by simp;omega
    simp only[d1,Bool.not_true,Bool.not_false,Bool.true_and,Bool.false_or,Bool.and_false,Bool.false_and,Bool.false_eq_true,false_implies,if_true,if_false,bs]
end Go.Av
