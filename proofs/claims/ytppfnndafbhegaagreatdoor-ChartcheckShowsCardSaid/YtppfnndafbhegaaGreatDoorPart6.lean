/- A part of the proof. -/
import Derived.Test.YtppfnndafbhegaaGreatDoorPart5
set_option linter.unusedVariables false
set_option linter.unusedSimpArgs false
set_option maxRecDepth 100000
namespace Go.Av
open Ch Go.Proofs
theorem hasC_app {l k:List T37} {g:T37} (h:hasC l g=true):hasC (l++k) g=true:=by
 rw[hasC_iff]at h ⊢
 exact List.mem_append_left _ h
theorem DoneP.same {c:T27} {g:T37} {s:SS} {f:List UInt8→Option Int} (h:DoneP c g s f) {t:Int} (ht:hasC s.1 (fireR c g t).1=true):DoneP c g s (fun q=>if q=encK t then some (if true=true then(1:Int)else 0)else f q):=fun u hu=>by
 by_cases e:u=t
 ·rw[e];exact ht
 ·have:encK u≠encK t:=fun k=>e (encK_inj k)
  simp only[this,if_false]at hu
  exact h u hu
theorem DoneP.more {c:T27} {g:T37} {s:SS} {f:List UInt8→Option Int} (h:DoneP c g s f) {t:Int} {fr bv:List Int}:DoneP c g (s.1++[(fireR c g t).1],fr,bv) (fun q=>if q=encK t then some (if true=true then(1:Int)else 0)else f q):=fun u hu=>by
 by_cases e:u=t
 ·rw[e];rw[hasC_iff];simp
 ·have:encK u≠encK t:=fun k=>e (encK_inj k)
  simp only[this,if_false]at hu
  exact hasC_app (h u hu)
theorem wf_small {i:Nat} (h:i < 1000000):(Lit.int .i64 (i:Int)).wf=true:=by
 simp[Lit.wf,IntKind.min,IntKind.max,IntKind.signed,IntKind.bits];omega
theorem srchE_eq {c : T27} (H : Fit c) (hn : c.Conds.length ≤ 12) : m44o1 c = (checkM c).bind fun e => if (e != 0) = true then some e else match searchS c with | some s => none | none => some 3 := by
  obtain ⟨e, he⟩ := checkM_some c
  have h1 := numV_pos c
  have h2 := numV_le hn
  have hv2 := valsA_len (c := c)
  have q1 := Start_eq c H
  have q2 := allowedL_eq H hn
  have q3 : ∀ (leaf v : Int), m19 c leaf v = some (enabledS c leaf v) := Enabled_eq c H
  have q4 : ∀ (l : List T37) (g : T37), Short l → l.length ≤ 1000000 → m80 l g = some (findC l g) := find_eq
  have q5 : checkM c = some 0 → ∀ (g : T37) (v : Int), validS c g = true → (((enabledS c g.Leaf v).length : Int) == 1) = true → m67 c g ((enabledS c g.Leaf v).getD 0 default) = some (fireR c g ((enabledS c g.Leaf v).getD 0 default)) := fun hc g v hg h => fire_at H hc hg h
  simp only [M44o1, bind_id, q1, q2]
  generalize m19 = F1 at q3 ⊢
  generalize m80 = F2 at q4 ⊢
  generalize m67 = F3 at q5 ⊢
  unfold startM
  by_cases h0 : (e != 0) = true
  · simp only [he, bs, h0, if_true, or_, bn]
  · have h0 := Bool.eq_false_iff.2 h0
    have e0 : e = 0 := by simpa using h0
    subst e0
    simp only [he, bs, h0, Bool.false_eq_true, if_false, ol, bne_self]
    have q5 := q5 he
    have I0 := beg_inv H he
    refine bind_eq (srch_loop H (fun i s => ((i : Int), s.1, s.2.1, s.2.2)) (fun s => .inl (s.1, s.2.1, s.2.2)) (some (.inr (3 : Int))) (fun i s I hi => ?_) (fun s I => ?_) 402 0 _ I0 (by omega) (by omega)) ?_
    · have hi' : (i : Int) < (s.1.length : Int) := by omega
      simp only [hi', decide_true, if_true, bs, ol]
      have hg : validS c (s.1.getD i default) = true := I.ok _ (getD_mem hi)
      refine bind_eq (done_loop H (i := i) (fun s => .inl (s.1, s.2.1, s.2.2)) (some (.inr (.inr (.inr (3 : Int))))) (valsA c) (fun t f => t.1.getD i default = s.1.getD i default ∧ DoneP c (s.1.getD i default) t f) (fun k s' n f hk I' hi'' hn' hP => ?_) (fun s n f I => ?_) I hi (fun _ => none) ⟨rfl, fun t ht => by simp at ht⟩) ?_
      · generalize s.1.getD i default = g at hg hP
        obtain ⟨hP1, hP2⟩ := hP
        obtain ⟨vn, hvn, hve, hall⟩ := valsA_mem.1 (getD_mem hk)
        obtain ⟨v, hvd⟩ : ∃ v, v = (valsA c).getD k default := ⟨_, rfl⟩
        rw [← hvd] at hve hall ⊢
        have b1 := I'.le
        have b2 := I'.l1
        have b3 := I'.l2
        have hb1 := enab_one he hg hall
        have w2 : IntKind.wrap .i64 ((k : Int) + 1) = ((k + 1 : Nat) : Int) := by rw [w64 (by omega) (by omega)]; omega
        have c1 : ((s'.1.length + 1) * 32 ≤ 140737488355328) = True := eq_true (by omega)
        have c2 : ((s'.2.1.length + 1) * 8 ≤ 140737488355328) = True := eq_true (by omega)
        have c3 : ((s'.2.2.length + 1) * 2 ≤ 140737488355328) = True := eq_true (by omega)
        have c4 : (n < maxLen) = True := eq_true (by unfold maxLen; omega)
        have c5 : ((0 : Int) ≤ (0 : Int)) = True := eq_true (by omega)
        unfold visit
        rw [hP1, hb1]
        simp only [inL hk, inL hi'', decide_true, if_true, Int.toNat_natCast, hP1, q3, bs, w2, c5, ← hvd]
        by_cases hl : (((enabledS c g.Leaf v).length : Int) == 1) = true
        · have hl2 : (((enabledS c g.Leaf v).length : Int) != 1) = false := by simpa using hl
          have hl3 : (0 < ((enabledS c g.Leaf v).length : Int)) = True := eq_true (by have : ((enabledS c g.Leaf v).length : Int) = 1 := by simpa using hl
                                                                                      omega)
          have hf := q5 g v hg hl
          obtain ⟨t, ht⟩ : ∃ t, t = (enabledS c g.Leaf v).getD 0 default := ⟨_, rfl⟩
          obtain ⟨ti, hti, htx, _⟩ := enabled_at (c := c) (leaf := g.Leaf) (v := v) (by have : ((enabledS c g.Leaf v).length : Int) = 1 := by simpa using hl
                                                                                        omega)
          have htr := H.trans
          rw [← ht] at htx hf
          have hwf : ((Lit.int .i64 t).wf = true) = True := eq_true (by rw [htx]; exact wf_small (by omega))
          simp only [hl, hl2, hl3, hwf, c4, c5, if_true, Bool.not_false, true_implies, Bool.false_or, Int.toNat_zero, ← ht, hf, bs]
          by_cases hd : ((f (encK t)).getD 0 != 0) = true
          · have hh := hP2 t hd
            refine ⟨n, f, by omega, fun s'' hs'' => ?_, ?_⟩
            · unfold addS at hs''
              rw [if_pos hh] at hs''
              injection hs'' with hs''
              subst hs''
              exact ⟨hP1, hP2⟩
            · unfold addS
              rw [if_pos hh]
              simp only [hd, if_true]; rfl
          · have hd := Bool.eq_false_iff.2 hd
            have e1 : ((fireR c g t).2.2 != 0) = false := rfl
            have hfd := q4 s'.1 (fireR c g t).1 (I'.short H) (by omega)
            refine ⟨n + 1, fun q => if q = encK t then some (if true = true then (1 : Int) else 0) else f q, by omega, fun s'' hs'' => ?_, ?_⟩
            · unfold addS at hs''
              split at hs''
              · rename_i hh
                injection hs'' with hs''
                subst hs''
                exact ⟨hP1, hP2.same hh⟩
              · split at hs''
                · cases hs''
                · injection hs'' with hs''
                  subst hs''
                  exact ⟨by rw [getD_app hi'']; exact hP1, hP2.more⟩
            · simp only [hd, e1, hfd, bs, Bool.false_eq_true, if_false, Bool.not_false, if_true, Bool.false_or, find_in]
              unfold addS
              cases hh : hasC s'.1 (fireR c g t).1 with
              | true => simp only [if_true]; rfl
              | false =>
                simp only [Bool.false_eq_true, if_false]
                by_cases h4 : s'.1.length = 400
                · have d2 : ((s'.1.length : Int) == (400 : Int)) = true := by simp; omega
                  simp only [d2, h4, if_true]; rfl
                · have d2 : ((s'.1.length : Int) == (400 : Int)) = false := by simp; omega
                  simp only [d2, h4, c1, c2, c3, Bool.false_eq_true, if_false, if_true]; rfl
        · have hl2 : (((enabledS c g.Leaf v).length : Int) != 1) = true := by simpa using hl
          have hl := Bool.eq_false_iff.2 hl
          refine ⟨n, f, by omega, fun s'' hs'' => ?_, ?_⟩
          · simp only [hl, Bool.false_eq_true, if_false] at hs''
            injection hs'' with hs''
            subst hs''
            exact ⟨hP1, hP2⟩
          · simp only [hl, hl2, Bool.not_true, Bool.false_eq_true, false_implies, if_true, if_false, Bool.true_or]; rfl
      · simp only [lt_irr, decide_false, Bool.false_eq_true, if_false]
      · rw [rnd_vals]
        cases hr : rnd c i (allV c) s with
        | none => rfl
        | some s' =>
          have w2 : IntKind.wrap .i64 ((i : Int) + 1) = ((i + 1 : Nat) : Int) := by
            have := I.le
            rw [w64 (by omega) (by omega)]; omega
          simp only [endS, bs, ol, w2]; rfl
    · simp only [lt_irr, decide_false, Bool.false_eq_true, if_false, bs, or_]
    · unfold searchS
      cases srch c 402 0 (begS ⟨(startS c).1, (startS c).2.1⟩) with
      | some s => rfl
      | none => rfl
theorem srchR_eq {c : T27} (H : Fit c) (hn : c.Conds.length ≤ 12) : m44o2 c = (checkM c).bind fun e => if (e != 0) = true then none else match searchS c with | some s => some (s.1, s.2.1, s.2.2, valsA c) | none => none := by
  obtain ⟨e, he⟩ := checkM_some c
  have h1 := numV_pos c
  have h2 := numV_le hn
  have hv2 := valsA_len (c := c)
  have q1 := Start_eq c H
  have q2 := allowedL_eq H hn
  have q3 : ∀ (leaf v : Int), m19 c leaf v = some (enabledS c leaf v) := Enabled_eq c H
  have q4 : ∀ (l : List T37) (g : T37), Short l → l.length ≤ 1000000 → m80 l g = some (findC l g) := find_eq
  have q5 : checkM c = some 0 → ∀ (g : T37) (v : Int), validS c g = true → (((enabledS c g.Leaf v).length : Int) == 1) = true → m67 c g ((enabledS c g.Leaf v).getD 0 default) = some (fireR c g ((enabledS c g.Leaf v).getD 0 default)) := fun hc g v hg h => fire_at H hc hg h
  simp only [M44o2, bind_id, q1, q2]
  generalize m19 = F1 at q3 ⊢
  generalize m80 = F2 at q4 ⊢
  generalize m67 = F3 at q5 ⊢
  unfold startM
  by_cases h0 : (e != 0) = true
  · simp only [he, bs, h0, if_true, or_, bn]
  · have h0 := Bool.eq_false_iff.2 h0
    have e0 : e = 0 := by simpa using h0
    subst e0
    simp only [he, bs, h0, Bool.false_eq_true, if_false, ol, bne_self]
    have q5 := q5 he
    have I0 := beg_inv H he
    refine bind_eq (srch_loop H (fun i s => ((i : Int), s.1, s.2.1, s.2.2)) (fun s => .inl (s.1, s.2.1, s.2.2)) none (fun i s I hi => ?_) (fun s I => ?_) 402 0 _ I0 (by omega) (by omega)) ?_
    · have hi' : (i : Int) < (s.1.length : Int) := by omega
      simp only [hi', decide_true, if_true, bs, ol]
      have hg : validS c (s.1.getD i default) = true := I.ok _ (getD_mem hi)
      refine bind_eq (done_loop H (i := i) (fun s => .inl (s.1, s.2.1, s.2.2)) none (valsA c) (fun t f => t.1.getD i default = s.1.getD i default ∧ DoneP c (s.1.getD i default) t f) (fun k s' n f hk I' hi'' hn' hP => ?_) (fun s n f I => ?_) I hi (fun _ => none) ⟨rfl, fun t ht => by simp at ht⟩) ?_
      · generalize s.1.getD i default = g at hg hP
        obtain ⟨hP1, hP2⟩ := hP
        obtain ⟨vn, hvn, hve, hall⟩ := valsA_mem.1 (getD_mem hk)
        obtain ⟨v, hvd⟩ : ∃ v, v = (valsA c).getD k default := ⟨_, rfl⟩
        rw [← hvd] at hve hall ⊢
        have b1 := I'.le
        have b2 := I'.l1
        have b3 := I'.l2
        have hb1 := enab_one he hg hall
        have w2 : IntKind.wrap .i64 ((k : Int) + 1) = ((k + 1 : Nat) : Int) := by rw [w64 (by omega) (by omega)]; omega
        have c1 : ((s'.1.length + 1) * 32 ≤ 140737488355328) = True := eq_true (by omega)
        have c2 : ((s'.2.1.length + 1) * 8 ≤ 140737488355328) = True := eq_true (by omega)
        have c3 : ((s'.2.2.length + 1) * 2 ≤ 140737488355328) = True := eq_true (by omega)
        have c4 : (n < maxLen) = True := eq_true (by unfold maxLen; omega)
        have c5 : ((0 : Int) ≤ (0 : Int)) = True := eq_true (by omega)
        unfold visit
        rw [hP1, hb1]
        simp only [inL hk, inL hi'', decide_true, if_true, Int.toNat_natCast, hP1, q3, bs, w2, c5, ← hvd]
        by_cases hl : (((enabledS c g.Leaf v).length : Int) == 1) = true
        · have hl2 : (((enabledS c g.Leaf v).length : Int) != 1) = false := by simpa using hl
          have hl3 : (0 < ((enabledS c g.Leaf v).length : Int)) = True := eq_true (by have : ((enabledS c g.Leaf v).length : Int) = 1 := by simpa using hl
                                                                                      omega)
          have hf := q5 g v hg hl
          obtain ⟨t, ht⟩ : ∃ t, t = (enabledS c g.Leaf v).getD 0 default := ⟨_, rfl⟩
          obtain ⟨ti, hti, htx, _⟩ := enabled_at (c := c) (leaf := g.Leaf) (v := v) (by have : ((enabledS c g.Leaf v).length : Int) = 1 := by simpa using hl
                                                                                        omega)
          have htr := H.trans
          rw [← ht] at htx hf
          have hwf : ((Lit.int .i64 t).wf = true) = True := eq_true (by rw [htx]; exact wf_small (by omega))
          simp only [hl, hl2, hl3, hwf, c4, c5, if_true, Bool.not_false, true_implies, Bool.false_or, Int.toNat_zero, ← ht, hf, bs]
          by_cases hd : ((f (encK t)).getD 0 != 0) = true
          · have hh := hP2 t hd
            refine ⟨n, f, by omega, fun s'' hs'' => ?_, ?_⟩
            · unfold addS at hs''
              rw [if_pos hh] at hs''
              injection hs'' with hs''
              subst hs''
              exact ⟨hP1, hP2⟩
            · unfold addS
              rw [if_pos hh]
              simp only [hd, if_true]; rfl
          · have hd := Bool.eq_false_iff.2 hd
            have e1 : ((fireR c g t).2.2 != 0) = false := rfl
            have hfd := q4 s'.1 (fireR c g t).1 (I'.short H) (by omega)
            refine ⟨n + 1, fun q => if q = encK t then some (if true = true then (1 : Int) else 0) else f q, by omega, fun s'' hs'' => ?_, ?_⟩
            · unfold addS at hs''
              split at hs''
              · rename_i hh
                injection hs'' with hs''
                subst hs''
                exact ⟨hP1, hP2.same hh⟩
              · split at hs''
                · cases hs''
                · injection hs'' with hs''
                  subst hs''
                  exact ⟨by rw [getD_app hi'']; exact hP1, hP2.more⟩
            · simp only [hd, e1, hfd, bs, Bool.false_eq_true, if_false, Bool.not_false, if_true, Bool.false_or, find_in]
              unfold addS
              cases hh : hasC s'.1 (fireR c g t).1 with
              | true => simp only [if_true]; rfl
              | false =>
                simp only [Bool.false_eq_true, if_false]
                by_cases h4 : s'.1.length = 400
                · have d2 : ((s'.1.length : Int) == (400 : Int)) = true := by simp; omega
                  simp only [d2, h4, if_true]; rfl
                · have d2 : ((s'.1.length : Int) == (400 : Int)) = false := by simp; omega
                  simp only [d2, h4, c1, c2, c3, Bool.false_eq_true, if_false, if_true]; rfl
        · have hl2 : (((enabledS c g.Leaf v).length : Int) != 1) = true := by simpa using hl
          have hl := Bool.eq_false_iff.2 hl
          refine ⟨n, f, by omega, fun s'' hs'' => ?_, ?_⟩
          · simp only [hl, Bool.false_eq_true, if_false] at hs''
            injection hs'' with hs''
            subst hs''
            exact ⟨hP1, hP2⟩
          · simp only [hl, hl2, Bool.not_true, Bool.false_eq_true, false_implies, if_true, if_false, Bool.true_or]; rfl
      · simp only [lt_irr, decide_false, Bool.false_eq_true, if_false]
      · rw [rnd_vals]
        cases hr : rnd c i (allV c) s with
        | none => rfl
        | some s' =>
          have w2 : IntKind.wrap .i64 ((i : Int) + 1) = ((i + 1 : Nat) : Int) := by
            have := I.le
            rw [w64 (by omega) (by omega)]; omega
          simp only [endS, bs, ol, w2]; rfl
    · simp only [lt_irr, decide_false, Bool.false_eq_true, if_false, bs, or_]
    · unfold searchS
      cases srch c 402 0 (begS ⟨(startS c).1, (startS c).2.1⟩) with
      | some s => rfl
      | none => rfl
end Go.Av
set_option maxRecDepth 100000
namespace Go.Av
open Ch Go.Proofs
def cutN {A:Type} [Inhabited A] (k:Int) (l:List A):List A:=subL l 0 (if k < (l.length:Int)then k else(l.length:Int)).toNat
theorem cutN_len {A:Type} [Inhabited A] {k:Nat} {l:List A}:(cutN (k:Int) l).length≤k:=by
 unfold cutN;rw[subL_len];split<;>omega
theorem cutN_mem {A:Type} [Inhabited A] {k:Int} (hk:0≤k) {l:List A}:∀ x∈cutN k l,x∈l:=fun x hx=>by
 unfold cutN at hx
 rw[subL_eq (by split<;>omega)]at hx
 exact List.mem_of_mem_drop (List.mem_of_mem_take hx)
def few8 (c:T27):T27:=⟨(fewS c).Name,cutN 3 (fewS c).Conds,(fewS c).Never,cutN 7 (fewS c).States,(fewS c).Start,cutN 14 (fewS c).Transitions⟩
structure Tiny (c:T27):Prop where
 fit:Fit c
 conds:c.Conds.length≤3
 states:c.States.length≤7
 trans:c.Transitions.length≤14
theorem few8_tiny (c:T27):Tiny (few8 c):=by
 have S:=few_small c
 have l1:(few8 c).Conds.length≤3:=cutN_len (k:=3)
 have l2:(few8 c).States.length≤7:=cutN_len (k:=7)
 have l3:(few8 c).Transitions.length≤14:=cutN_len (k:=14)
 exact⟨⟨by omega,Nat.le_trans S.never (by omega),fun l hl=>Nat.le_trans (S.lits l hl) (by omega),by omega,fun s hs=>Nat.le_trans (S.entry s (cutN_mem (by omega) s hs)) (by omega),fun s hs=>Nat.le_trans (S.exit_ s (cutN_mem (by omega) s hs)) (by omega),by omega,
  fun t ht=>Nat.le_trans (S.when_ t (cutN_mem (by omega) t ht)) (by omega),fun t ht=>Nat.le_trans (S.acts t (cutN_mem (by omega) t ht)) (by omega)⟩,l1,l2,l3⟩
theorem M14 (a0:T27):m14 a0=((Option.bind (Option.bind (m43 a0) fun r=>some r) fun x1=>(if(0≤(if 7 < (x1.States.length:Int)then(7:Int)else(x1.States.length:Int)))then(if((if 7 < (x1.States.length:Int)then(7:Int)else(x1.States.length:Int))≤(x1.States.length:Int))then(if(0≤(if 3 < (x1.Conds.length:Int)then(3:Int)else(x1.Conds.length:Int)))then(if((if 3 < (x1.Conds.length:Int)then(3:Int)else(x1.Conds.length:Int))≤(x1.Conds.length:Int))then(if(0≤(if 14 < (x1.Transitions.length:Int)then(14:Int)else(x1.Transitions.length:Int)))then(if((if 14 < (x1.Transitions.length:Int)then(14:Int)else(x1.Transitions.length:Int))≤(x1.Transitions.length:Int))then(some (⟨x1.Name,(subL x1.Conds 0 (if 3 < (x1.Conds.length:Int)then(3:Int)else(x1.Conds.length:Int)).toNat),x1.Never,(subL x1.States 0 (if 7 < (x1.States.length:Int)then(7:Int)else(x1.States.length:Int)).toNat),x1.Start,(subL x1.Transitions 0 (if 14 < (x1.Transitions.length:Int)then(14:Int)else(x1.Transitions.length:Int)).toNat)⟩:T27))else none)else none)else none)else none)else none)else none)):Option (T27)):=by kernel_rfl
theorem few_eq8 (c:T27):m14 c=some (few8 c):=by
 have h:=Few_eq c
 simp only[M14,bind_id,h,bs,minQ0 7 (by omega),minQ0 3 (by omega),minQ0 14 (by omega),minQ1,if_true]
 rfl
theorem srch_inv {c:T27} (H:Fit c):∀ {n i:Nat} {s s':SS},Inv c s→srch c n i s=some s'→Inv c s'
 | 0,_,_,_,_,h=>by cases h
 | n+1,i,s,s',I,h=>by
  unfold srch at h
  split at h
  ·rw[Option.bind_eq_some_iff]at h
   obtain⟨t,h1,h2⟩:=h
   exact srch_inv H (rnd_inv H I h1).1 h2
  ·injection h with h;subst h;exact I
theorem searchS_inv {c:T27} (H:Fit c) (hc:checkM c=some 0) {s:SS} (h:searchS c=some s):Inv c s:=srch_inv H (beg_inv H hc) h
end Go.Av
set_option maxRecDepth 100000
namespace Go.Av
open Ch Go.Proofs
theorem getD_end {α:Type} [Inhabited α] {l:List α} {x:α} {n:Nat} (h:n=l.length):(l++[x]).getD n default=x:=by
 subst h;simp[List.getD_eq_getElem?_getD]
structure Wy (c:T27) (g0:T37) (s:SS):Prop where
 i0:s.1.getD 0 default=g0
 f0:s.2.1.getD 0 default = -1
 w:∀ k,0 < k→k < s.1.length→∃ j v:Nat,j < k∧s.2.1.getD k default=(j:Int)∧v < numV c∧s.2.2.getD k default=(v:Int)∧stepO c (s.1.getD j default) (v:Int)=some (s.1.getD k default)
 nd:s.1.Nodup
theorem beg_wy (c:T27) (g:T37):Wy c g (begS g):=⟨rfl,rfl,fun k h1 h2=>by simp only[begS,List.length_cons,List.length_nil]at h2;omega,by simp[begS]⟩
theorem visit_wy {c:T27} {g0:T37} {i v:Nat} {s s':SS} (I:Inv c s) (W:Wy c g0 s) (hi:i < s.1.length) (hv:v < numV c) (hs:visit c i s (v:Int)=some s'):Wy c g0 s':=by
 unfold visit at hs
 split at hs
 ·injection hs with hs;subst hs;exact W
 ·rename_i h he
  unfold addS at hs
  split at hs
  ·injection hs with hs;subst hs;exact W
  ·rename_i hh
   split at hs
   ·cases hs
   ·injection hs with hs
    subst hs
    have l1:=I.l1
    have l2:=I.l2
    have pos:=I.pos
    refine⟨?_,?_,fun k h1 h2=>?_,?_⟩
    ·show (s.1++[h]).getD 0 default=g0
     rw[getD_app pos];exact W.i0
    ·show (s.2.1++[(i:Int)]).getD 0 default = -1
     rw[getD_app (by omega)];exact W.f0
    ·simp only[List.length_append,List.length_cons,List.length_nil]at h2
     show ∃ j v':Nat,j < k∧(s.2.1++[(i:Int)]).getD k default=(j:Int)∧v' < numV c∧(s.2.2++[(v:Int)]).getD k default=(v':Int)∧stepO c ((s.1++[h]).getD j default) (v':Int)=some ((s.1++[h]).getD k default)
     by_cases hk:k < s.1.length
     ·obtain⟨j,v',q1,q2,q3,q4,q5⟩:=W.w k h1 hk
      refine⟨j,v',q1,?_,q3,?_,?_⟩
      ·rw[getD_app (by omega)];exact q2
      ·rw[getD_app (by omega)];exact q4
      ·rw[getD_app (by omega),getD_app hk];exact q5
     ·obtain rfl:k=s.1.length:=by omega
      refine⟨i,v,hi,?_,hv,?_,?_⟩
      ·rw[getD_end l1.symm]
      ·rw[getD_end l2.symm]
      ·rw[getD_app hi,getD_end rfl];exact he
    ·show (s.1++[h]).Nodup
     rw[List.nodup_append]
     refine⟨W.nd,by simp,fun a ha b hb=>?_⟩
     simp only[List.mem_singleton]at hb
     subst hb
     rintro rfl
     exact hh (hasC_iff.2 ha)
theorem rnd_wy {c:T27} (H:Fit c) {g0:T37} {i:Nat}:∀ {l:List Int} {s s':SS},(∀ v∈l,∃ n:Nat,v=n∧n < numV c)→Inv c s→Wy c g0 s→i < s.1.length→rnd c i l s=some s'→Wy c g0 s'
 | [],s,s',_,_,W,_,hs=>by injection hs with hs;subst hs;exact W
 | v :: l,s,s',hl,I,W,hi,hs=>by
  unfold rnd at hs
  rw[Option.bind_eq_some_iff]at hs
  obtain⟨t,h1,h2⟩:=hs
  obtain⟨n,rfl,hn⟩:=hl v (by simp)
  obtain⟨I1,k1⟩:=visit_inv H I h1
  exact rnd_wy H (fun w hw=>hl w (by simp[hw])) I1 (visit_wy I W hi hn h1) (by omega) h2
theorem allV_mem {c:T27} {v:Int}:v∈allV c↔∃ n:Nat,v=n∧n < numV c:=by
 unfold allV
 rw[List.mem_map]
 constructor
 ·rintro⟨n,h,rfl⟩;exact⟨n,rfl,List.mem_range.1 h⟩
 ·rintro⟨n,rfl,h⟩;exact⟨n,List.mem_range.2 h,rfl⟩
theorem srch_wy {c:T27} (H:Fit c) {g0:T37}:∀ {n i:Nat} {s s':SS},Inv c s→Wy c g0 s→srch c n i s=some s'→Wy c g0 s'
 | 0,_,_,_,_,_,h=>by cases h
 | n+1,i,s,s',I,W,h=>by
  unfold srch at h
  split at h
  ·rename_i hi
   rw[Option.bind_eq_some_iff]at h
   obtain⟨t,h1,h2⟩:=h
   exact srch_wy H (rnd_inv H I h1).1 (rnd_wy H (fun v hv=>allV_mem.1 hv) I W hi h1) h2
  ·injection h with h;subst h;exact W
def begG (c:T27):T37:=⟨(startS c).1,(startS c).2.1⟩
theorem searchS_wy {c:T27} (H:Fit c) (hc:checkM c=some 0) {s:SS} (h:searchS c=some s):Wy c (begG c) s:=srch_wy H (beg_inv H hc) (beg_wy c (begG c)) h
end Go.Av
set_option maxRecDepth 100000
namespace Go.Av
open Ch Go.Proofs
def xsR (l:List Int) (i:Nat):List Int:=(List.range l.length).map fun k=>if k < i∨l.length - 1 - i < k then l.getD (l.length - 1 - k) default else l.getD k default
theorem xsR_len (l:List Int) (i:Nat):(xsR l i).length=l.length:=by simp[xsR]
theorem xsR_at {l:List Int} {i k:Nat} (hk:k < l.length):(xsR l i).getD k default=if k < i∨l.length - 1 - i < k then l.getD (l.length - 1 - k) default else l.getD k default:=by
 simp[xsR,List.getD_eq_getElem?_getD,hk]
theorem getD_set {l:List Int} {i k:Nat} {a:Int} (hi:i < l.length):(l.set i a).getD k default=if k=i then a else l.getD k default:=by
 simp only[List.getD_eq_getElem?_getD,List.getElem?_set]
 by_cases h:i=k
 ·subst h;simp[hi]
 ·have:¬ k=i:=fun e=>h e.symm
  simp[h,this]
theorem xsR_0 (l:List Int):xsR l 0=l:=by
 rw[list_eq_iff (xsR_len l 0)]
 intro i hi
 rw[xsR_len]at hi
 rw[xsR_at hi,if_neg (by omega)]
theorem xsR_step {l:List Int} {i:Nat} (h:2 * i+1 < l.length):((xsR l i).set i ((xsR l i).getD (l.length - 1 - i) default)).set (l.length - 1 - i) ((xsR l i).getD i default)=xsR l (i+1):=by
 have hn:=xsR_len l i
 rw[list_eq_iff (by simp only[List.length_set,xsR_len])]
 intro k hk
 simp only[List.length_set,xsR_len]at hk
 rw[getD_set (by simp only[List.length_set];omega),getD_set (by omega),xsR_at hk,xsR_at hk,xsR_at (show i < l.length by omega),xsR_at (show l.length - 1 - i < l.length by omega)]
 by_cases h1:k=l.length - 1 - i
 ·subst h1
  rw[if_pos rfl,if_neg (by omega),if_pos (by omega)]
  congr 1;omega
 ·rw[if_neg h1]
  by_cases h2:k=i
  ·subst h2
   rw[if_pos rfl,if_neg (by omega),if_pos (by omega)]
  ·rw[if_neg h2]
   by_cases h3:k < i∨l.length - 1 - i < k
   ·rw[if_pos h3,if_pos (by omega)]
   ·rw[if_neg h3,if_neg (by omega)]
theorem xsR_end {l:List Int} {i:Nat} (h1:l.length≤2 * i+1) (h2:2 * i≤l.length):xsR l i=l.reverse:=by
 rw[list_eq_iff (by rw[xsR_len];simp)]
 intro k hk
 rw[xsR_len]at hk
 rw[xsR_at hk]
 have e:l.reverse.getD k default=l.getD (l.length - 1 - k) default:=by
  simp[List.getD_eq_getElem?_getD,List.getElem?_reverse hk]
 rw[e]
 by_cases h:k < i∨l.length - 1 - i < k
 ·rw[if_pos h]
 ·rw[if_neg h]
  congr 1;omega
theorem M104o0 (a0:List Int):m104o0 a0=((Option.bind (some (.inl ())) (onS fun(_:Unit)=>(loopO (fun(s1:(List Int)×Int×Int)=>((if(decide (s1.2.1 < s1.2.2))=true then(if(0≤s1.2.2)then(if(s1.2.2 < (a0.length:Int))then(if(s1.2.2.toNat < a0.length)then(if(0≤s1.2.1)then(if(s1.2.1 < (a0.length:Int))then(if(s1.2.1.toNat < a0.length)then(if(0≤s1.2.1)then(if(s1.2.1 < (a0.length:Int))then(if(s1.2.1.toNat < a0.length)then(if(0≤s1.2.2)then(if(s1.2.2 < (a0.length:Int))then(if(s1.2.2.toNat < a0.length)then(some (.inl ((((subL s1.1 0 a0.length).set s1.2.1.toNat (s1.1.getD s1.2.2.toNat default)).set s1.2.2.toNat (s1.1.getD s1.2.1.toNat default)),(IntKind.wrap .i64 (s1.2.1+1)),(IntKind.wrap .i64 (s1.2.2 - 1)))))else none)else none)else none)else none)else none)else none)else none)else none)else none)else none)else none)else none)else(some (.inr (s1.1)))):Option (((List Int)×Int×Int)⊕((List Int))))) (a0,(0:Int),(IntKind.wrap .i64 ((a0.length:Int) - (1:Int))))))):Option ((List Int))):=by kernel_rfl
theorem rev_eq (l:List Int) (hl:l.length≤1000000):m104o0 l=some l.reverse:=by
 simp only[M104o0,bind_id,bs,ol]
 by_cases h0:l.length=0
 ·have:l=[]:=List.length_eq_zero_iff.1 h0
  subst this
  rfl
 have w0:IntKind.wrap .i64 ((l.length:Int) - 1)=(l.length:Int) - 1:=w64 (by omega) (by omega)
 rw[w0]
 rw[show ((l,(0:Int),(l.length:Int) - 1):List Int×Int×Int)=(xsR l 0,((0:Nat):Int),(l.length:Int) - 1 - ((0:Nat):Int)) from by rw[xsR_0];simp]
 refine loop_st (l.length / 2) (fun i=>(xsR l i,(i:Int),(l.length:Int) - 1 - (i:Int))) l.reverse (fun i hi=>?_) ?_
 ·have h1:2 * i+1 < l.length:=by omega
  have j0:((l.length:Int) - 1 - (i:Int))=((l.length - 1 - i:Nat):Int):=by omega
  have hs:subL (xsR l i) 0 l.length=xsR l i:=by
   rw[list_eq_iff (by rw[subL_len,xsR_len])]
   intro k hk
   rw[subL_len]at hk
   exact subL_getD hk
  have c1:decide ((i:Int) < ((l.length - 1 - i:Nat):Int))=true:=by simp;omega
  have c2:=inL (show i < l.length by omega)
  have c3:=inL (show l.length - 1 - i < l.length by omega)
  have c4:(i < l.length)=True:=eq_true (by omega)
  have c5:(l.length - 1 - i < l.length)=True:=eq_true (by omega)
  have w1:IntKind.wrap .i64 ((i:Int)+1)=((i+1:Nat):Int):=by rw[w64 (by omega) (by omega)];omega
  have w2:IntKind.wrap .i64 (((l.length - 1 - i:Nat):Int) - 1)=(l.length:Int) - 1 - ((i+1:Nat):Int):=by rw[w64 (by omega) (by omega)];omega
  simp only[j0,c1,c2,c3,c4,c5,if_true,Int.toNat_natCast,hs,w1,w2,xsR_step h1]
 ·have c1:decide (((l.length / 2:Nat):Int) < (l.length:Int) - 1 - ((l.length / 2:Nat):Int))=false:=by simp;omega
  simp only[c1,Bool.false_eq_true,if_false,xsR_end (l:=l) (i:=l.length / 2) (by omega) (by omega)]
def wayL (s:SS):Nat→Nat→List Int
 | 0,_=>[]
 | n+1,k=>if k=0 then[]else wayL s n (s.2.1.getD k default).toNat++[s.2.2.getD k default]
theorem wayL_len (s:SS):∀ n k,(wayL s n k).length≤n
 | 0,_=>by simp[wayL]
 | n+1,k=>by
  unfold wayL
  split
  ·simp
  ·have:=wayL_len s n (s.2.1.getD k default).toNat
   simp only[List.length_append,List.length_cons,List.length_nil];omega
structure Fb (s:SS):Prop where
 le:s.1.length≤400
 l1:s.2.1.length=s.1.length
 l2:s.2.2.length=s.1.length
 pos:0 < s.1.length
 f0:s.2.1.getD 0 default = -1
 w:∀ k,0 < k→k < s.1.length→∃ j:Nat,j < k∧s.2.1.getD k default=(j:Int)
theorem fb_of {c:T27} {g0:T37} {s:SS} (I:Inv c s) (W:Wy c g0 s):Fb s:=⟨I.le,I.l1,I.l2,I.pos,W.f0,fun k h1 h2=>by
 obtain⟨j,v,q1,q2,_⟩:=W.w k h1 h2
 exact⟨j,q1,q2⟩⟩
theorem way_loop {s:SS} (F:Fb s) {X:Type} {b:Int×List Int→Option ((Int×List Int)⊕X)} (out:List Int→X) (hb0:∀ acc,b (((0:Nat):Int),acc)=some (.inr (out acc)))
  (hb:∀ (k j:Nat) (acc:List Int),0 < k→k < s.1.length→s.2.1.getD k default=(j:Int)→acc.length≤1000→b ((k:Int),acc)=some (.inl ((j:Int),acc++[s.2.2.getD k default]))) :
  ∀ (n k:Nat) (acc:List Int),k≤n→n≤400→k < s.1.length→acc.length+n≤1000→loopO b ((k:Int),acc)=some (out (acc++(wayL s n k).reverse)):=by
 intro n
 induction n with
 | zero =>
  intro k acc h1 h2 h3 h4
  obtain rfl:k=0:=by omega
  rw[loopO_eq,hb0]
  simp only[Option.bind_some,wayL,List.reverse_nil,List.append_nil]
 | succ n ih =>
  intro k acc h1 h2 h3 h4
  by_cases hk0:k=0
  ·subst hk0
   rw[loopO_eq,hb0]
   simp only[Option.bind_some,wayL,if_true,List.reverse_nil,List.append_nil]
  ·obtain⟨j,q1,q2⟩:=F.w k (by omega) h3
   rw[loopO_eq,hb k j acc (by omega) h3 q2 (by omega)]
   simp only[Option.bind_some]
   rw[ih j _ (by omega) (by omega) (by omega) (by simp;omega)]
   simp only[wayL,hk0,if_false,q2,Int.toNat_natCast,List.reverse_append,List.reverse_cons,List.reverse_nil,List.nil_append,List.append_assoc]
theorem M56o0 (a0 a1:List Int) (a2:Int):m56o0 a0 a1 a2=((Option.bind (some (.inl ())) (onS fun(_:Unit)=>(Option.bind (loopO (fun(s1:Int×(List Int))=>((if(0≤s1.1)then(if(s1.1 < (a0.length:Int))then(if(decide (0≤(a0.getD s1.1.toNat default)))=true then(Option.bind ((if 0≤s1.1 then(if s1.1 < (a1.length:Int)then(if(s1.2.length+1) * 2≤140737488355328 then some ()else none)else none)else none)) fun(x4:(Unit))=>(if(0≤s1.1)then(if(s1.1 < (a0.length:Int))then(some (.inl ((a0.getD s1.1.toNat default),(s1.2++([(a1.getD s1.1.toNat default)]:List Int)))))else none)else none))else(some (.inr (.inl s1.2))))else none)else none):Option ((Int×(List Int))⊕(((List Int))⊕((List Int)))))) (a2,([]:List Int))) (onS fun(y2:(List Int))=>(Option.bind (Option.bind (m104o0 y2) fun r=>some r) fun x5=>(some (subL x5 0 y2.length))))))):Option ((List Int))):=by kernel_rfl
theorem way_fb {s:SS} (F:Fb s) {k:Nat} (hk:k < s.1.length):m56o0 s.2.1 s.2.2 (k:Int)=some (wayL s k k):=by
 have q1:=rev_eq
 have b1:=F.le
 have b2:=F.l1
 have b3:=F.l2
 have pos:=F.pos
 simp only[M56o0,bind_id,bs,ol]
 generalize m104o0=R at q1 ⊢
 refine bind_eq (way_loop F Sum.inl (fun acc=>?_) (fun k j acc h1 h2 h3 h4=>?_) k k [] (Nat.le_refl _) (by omega) hk (by simp;omega)) ?_
 ·have c1:=inL (show 0 < s.2.1.length by omega)
  have d:decide ((0:Int)≤s.2.1.getD 0 default)=false:=by rw[F.f0];rfl
  simp only[c1,if_true,Int.toNat_natCast,d,Bool.false_eq_true,if_false]
 ·have c1:=inL (show k < s.2.1.length by omega)
  have c2:=inL (show k < s.2.2.length by omega)
  have d:decide ((0:Int)≤s.2.1.getD k default)=true:=by rw[h3];simp
  have c3:((acc.length+1) * 2≤140737488355328)=True:=eq_true (by omega)
  simp only[c1,c2,c3,if_true,Int.toNat_natCast,d,bs]
  rw[h3]
 ·have hl:=wayL_len s k k
  have q2:=q1 (wayL s k k).reverse (by rw[List.length_reverse];omega)
  rw[List.reverse_reverse]at q2
  have e:subL (wayL s k k) 0 (wayL s k k).reverse.length=wayL s k k:=by
   rw[list_eq_iff (by rw[subL_len,List.length_reverse])]
   intro i hi
   rw[subL_len]at hi
   exact subL_getD hi
  simp only[List.nil_append,bs,ol,q2,e]
theorem way_eq {c:T27} {g0:T37} {s:SS} (I:Inv c s) (W:Wy c g0 s) {k:Nat} (hk:k < s.1.length):m56o0 s.2.1 s.2.2 (k:Int)=some (wayL s k k):=way_fb (fb_of I W) hk
def leafI (s:SS) (leaf:Int):Int:=findR (fun i=>(s.1.getD i default).Leaf==leaf) s.1.length
def witM (c:T27) (leaf:Int):Option (List Int×Int):=(checkM c).bind fun e=>if(e != 0)=true then some ([],e)else if(!hasK (leavesS c) (leavesS c).length leaf)=true then some ([],2)else match searchS c with
 | none=>some ([],3)
 | some s=>if decide (leafI s leaf < 0)=true then some ([],6)else some (wayL s (leafI s leaf).toNat (leafI s leaf).toNat,0)
theorem findR_cases (F:Nat→Bool) (n:Nat):(findR F n = -1∧anyR F n=false)∨∃ k:Nat,k < n∧findR F n=(k:Int)∧F k=true:=by
 unfold findR
 cases h:firstR (fun i=>if F i=true then some (i:Int)else none) n with
 | none =>
  left
  refine⟨rfl,?_⟩
  rw[anyR_false]
  intro i hi
  have:=firstR_none.1 h i hi
  split at this
  ·cases this
  ·rename_i h2;simpa using h2
 | some y =>
  right
  obtain⟨i,hi,h2⟩:=firstR_some h
  split at h2
  ·rename_i h3
   injection h2 with h2;subst h2
   exact⟨i,hi,rfl,h3⟩
  ·cases h2
theorem leaves_len {c:T27}:(leavesS c).length≤c.States.length:=by
 have:=flatMap_len (leafG_len c) c.States.length
 unfold leavesS;omega
theorem M54o1 (a0:List T37) (a1:Int):m54o1 a0 a1=((Option.bind (some (.inl ())) (onS fun(_:Unit)=>(Option.bind (Option.bind (some (.inl ())) (onS fun(_:Unit)=>(loopO (fun(s1:Int)=>((if(decide (s1 < (a0.length:Int)))=true then(Option.bind ((if 0≤s1 then(if s1 < (a0.length:Int)then((m55o0 (a0.getD s1.toNat default) a1).bind fun r4_0=>some r4_0)else none)else none)) fun(x4:(Unit))=>(if((a0.getD s1.toNat default).Leaf==a1)=true then(some (.inr (.inr (s1))))else(some (.inl (IntKind.wrap .i64 (s1+1))))))else(some (.inr (.inl ())))):Option ((Int)⊕((Unit)⊕(Int))))) (0:Int)))) (onS fun(_:Unit)=>(some (-1:Int)))))):Option (Int)):=by kernel_rfl
theorem M21 (a0:T27) (a1:Int):m21 a0 a1=((orJ (Option.bind (Option.bind (m38 a0) fun r=>some r) fun x1=>(if(x1 != 0)=true then(some ([],x1))else(Option.bind (((m53 a0).bind fun r4_0=>((m49 r4_0 a1).bind fun r4_1=>some (r4_0,r4_1)))) fun(x4:((List Int)×Bool))=>(if(!x4.2)=true then(some ([],(2:Int)))else(Option.bind (Option.bind (m44o1 a0) fun r=>some r) fun x6=>(if(x6 != 0)=true then(some ([],x6))else(Option.bind (none) fun(x9:(Unit))=>none))))))) (Option.bind (Option.bind (m38 a0) fun r=>some r) fun x1=>(if(x1 != 0)=true then(some ([],x1))else(Option.bind (((m53 a0).bind fun r4_0=>((m49 r4_0 a1).bind fun r4_1=>some (r4_0,r4_1)))) fun(x4:((List Int)×Bool))=>(if(!x4.2)=true then(some ([],(2:Int)))else(Option.bind (Option.bind (m44o2 a0) fun r=>some r) fun x6=>(if((0:Int) != (0:Int))=true then(some ([],(0:Int)))else(Option.bind (Option.bind (m54o1 x6.1 a1) fun r=>some r) fun x9=>(if(decide (x9 < 0))=true then(some ([],(6:Int)))else(Option.bind (Option.bind (m56o0 x6.2.1 x6.2.2.1 x9) fun r=>some r) fun x12=>(some (x12,(0:Int))))))))))))):Option ((List Int)×Int)):=by kernel_rfl
theorem Witness_eq {c:T27} (H:Fit c) (hn:c.Conds.length≤12) (leaf:Int):m21 c leaf=witM c leaf:=by
 obtain⟨e,he⟩:=checkM_some c
 have hst:=H.states
 have hll:=leaves_len (c:=c)
 have q0:=Check_eq c H
 have q1:=srchE_eq H hn
 have q2:=srchR_eq H hn
 have q3:=Leaves_eq c H
 have q4:=containsI_eq (leavesS c) leaf (by omega)
 have q5:∀ s:SS,Inv c s→m54o1 s.1 leaf=some (leafI s leaf):=fun s I=>by
  have b1:=I.le
  simp only[M54o1,bind_id,bs,ol]
  refine idx_loop (fun i hi=>?_) ?_
  ·simp only[exB_ite,exB_some,exB_none,inL hi,decide_true,Int.toNat_natCast,if_true,wr1 hi (by omega),bs,show ∀ x,m55o0 x leaf=some () from fun x=>rfl]
  ·simp only[lt_irr,decide_false,Bool.false_eq_true,if_false]
 have q6:∀ s:SS,Inv c s→Wy c (begG c) s→∀ k:Nat,k < s.1.length→m56o0 s.2.1 s.2.2 (k:Int)=some (wayL s k k):=fun s I W k hk=>way_eq I W hk
 unfold witM
 simp only[M21,bind_id,q0,q1,q2,q3,q4,he,bs]
 generalize m54o1=F1 at q5 ⊢
 generalize m56o0=F2 at q6 ⊢
 by_cases h0:(e != 0)=true
 ·simp only[h0,if_true];rfl
 ·have h0:=Bool.eq_false_iff.2 h0
  have e0:e=0:=by simpa using h0
  subst e0
  simp only[h0,Bool.false_eq_true,if_false]
  cases hasK (leavesS c) (leavesS c).length leaf with
  | false=>simp only[Bool.not_false,if_true];rfl
  | true =>
   simp only[Bool.not_true,Bool.false_eq_true,if_false]
   cases hs:searchS c with
   | none=>simp only[bs,bn,show ((3:Int) != 0)=true from rfl,if_true];rfl
   | some s =>
    have I:=searchS_inv H he hs
    have W:=searchS_wy H he hs
    have k1:=q5 s I
    have k2:=q6 s I W
    simp only[bs,bn,k1]
    rcases findR_cases (fun i=>(s.1.getD i default).Leaf==leaf) s.1.length with⟨h1,_⟩ | ⟨k,h1,h2,_⟩
    ·have h1:leafI s leaf = -1:=h1
     rw[h1];rfl
    ·have h2:leafI s leaf=(k:Int):=h2
     rw[h2]
     have d:decide ((k:Int) < 0)=false:=by simp
     simp only[d,k2 k h1,bs,Bool.false_eq_true,if_false,Int.toNat_natCast];rfl
end Go.Av
set_option maxRecDepth 100000
namespace Go.Av
open Ch Go.Proofs
def reachB (s:SS) (leaf:Int):Bool:=anyR (fun i=>(s.1.getD i default).Leaf==leaf) s.1.length
theorem reachB_iff {s:SS} {leaf:Int}:reachB s leaf=true↔∃ g∈s.1,g.Leaf=leaf:=by
 unfold reachB
 rw[anyR_iff]
 constructor
 ·rintro⟨i,hi,h⟩;exact⟨_,getD_mem hi,by simpa using h⟩
 ·rintro⟨g,hg,h⟩
  obtain⟨i,hi,rfl⟩:=List.getElem_of_mem hg
  exact⟨i,hi,by simpa [List.getD_eq_getElem?_getD,List.getElem?_eq_getElem hi] using h⟩
def finV (c:T27) (leaf kind:Int) (v:Nat):Option T44 :=
 if allowedS c (v:Int)=true then
  if(kind==1&&((enabledS c leaf (v:Int)).length:Int)==0)=true then some ⟨kind,leaf,(v:Int),-1,-1⟩
  else if(kind==2&&decide (1 < ((enabledS c leaf (v:Int)).length:Int)))=true then some ⟨kind,leaf,(v:Int),(enabledS c leaf (v:Int)).getD 0 default,(enabledS c leaf (v:Int)).getD 1 default⟩else none
 else none
def leafFd (c:T27) (leaf kind:Int):Option T44:=firstR (finV c leaf kind) (numV c)
def aliveV (c:T27) (leaf t:Int) (v:Nat):Bool:=allowedS c (v:Int)&&hasK (enabledS c leaf (v:Int)) (enabledS c leaf (v:Int)).length t
def aliveB (c:T27) (leaf t:Int):Bool:=anyR (aliveV c leaf t) (numV c)
end Go.Av
set_option maxRecDepth 100000
namespace Go.Av
open Ch Go.Proofs
def leafA (c:T27) (i:Nat):Int:=(leavesS c).getD i default
def kindG (c:T27) (s:SS) (kind:Int) (i:Nat):List T44:=if reachB s (leafA c i)=true then(leafFd c (leafA c i) kind).toList else[]
def unrG (c:T27) (s:SS) (i:Nat):List T44:=if reachB s (leafA c i)=true then[]else[⟨3,leafA c i,0,-1,-1⟩]
def liveB (c:T27) (s:SS) (t:Nat):Bool:=anyR (fun i=>reachB s (leafA c i)&&aliveB c (leafA c i) (t:Int)) (leavesS c).length
def deadG (c:T27) (s:SS) (t:Nat):List T44:=if liveB c s t=true then[]else[⟨4,-1,0,(t:Int),-1⟩]
def kindL (c:T27) (s:SS) (kind:Int):List T44:=(List.range (leavesS c).length).flatMap (kindG c s kind)
def findS (c:T27) (s:SS):List T44:=kindL c s 1++kindL c s 2++(List.range (leavesS c).length).flatMap (unrG c s)++(List.range c.Transitions.length).flatMap (deadG c s)
theorem kindG_len (c:T27) (s:SS) (kind:Int) (i:Nat):(kindG c s kind i).length≤1:=by
 unfold kindG;split
 ·cases leafFd c (leafA c i) kind<;>simp
 ·simp
theorem unrG_len (c:T27) (s:SS) (i:Nat):(unrG c s i).length≤1:=by unfold unrG;split<;>simp
theorem deadG_len (c:T27) (s:SS) (i:Nat):(deadG c s i).length≤1:=by unfold deadG;split<;>simp
theorem kindL_len (c:T27) (s:SS) (kind:Int):(kindL c s kind).length≤(leavesS c).length:=by
 have:=flatMap_len (kindG_len c s kind) (leavesS c).length
 unfold kindL;omega
theorem loop_app {A St X:Type} {b:St→Option (St⊕X)} (n:Nat) (mk:Nat→List A→St) (g:Nat→List A) (out:List A→X) (pre:List A)
  (hs:∀ i,i < n→b (mk i (pre++(List.range i).flatMap g))=some (.inl (mk (i+1) (pre++(List.range i).flatMap g++g i)))) (he:b (mk n (pre++(List.range n).flatMap g))=some (.inr (out (pre++(List.range n).flatMap g)))) :
  loopO b (mk 0 pre)=some (out (pre++(List.range n).flatMap g)):=by
 have key:∀ k i,i+k=n→loopO b (mk i (pre++(List.range i).flatMap g))=some (out (pre++(List.range n).flatMap g)):=by
  intro k
  induction k with
  | zero =>
   intro i hk
   obtain rfl:i=n:=by omega
   rw[loopO_eq,he];rfl
  | succ k ih =>
   intro i hk
   rw[loopO_eq,hs i (by omega),List.append_assoc,← flatMap_app]
   exact ih (i+1) (by omega)
 have:=key n 0 (by omega)
 simpa using this
def findM (c:T27):Option (List T44×Int):=(checkM c).bind fun e=>if(e != 0)=true then some ([],e)else match searchS c with | some s=>some (findS c s,0) | none=>some ([],3)
theorem leavesS_len {c:T27}:(leavesS c).length≤c.States.length:=by
 have:=flatMap_len (leafG_len c) c.States.length
 unfold leavesS;omega
end Go.Av
set_option maxRecDepth 100000
namespace Go.Av
open Ch Go.Proofs
theorem arr_get {zs:List Int} {j:Nat} (h:j < zs.length):(zs.toArray)[j]! = zs[j]:=by
 rw[getElem!_pos _ _ (by simpa using h)];simp
theorem cmpI_mem {zs:List Int} {x:Int}:x∈cmpI zs↔x∈zs:=by
 unfold cmpI Lib.compact Lib.compactUpTo
 rw[List.mem_map]
 constructor
 ·rintro⟨j,hj,rfl⟩
  have:=List.mem_range.1 (List.mem_filter.1 hj).1
  rw[arr_get this];exact List.getElem_mem _
 ·intro hx
  obtain⟨j,hj,e⟩:=List.getElem_of_mem hx
  -- the first place where it stands
  have key:∀ n j,j≤n→(h:j < zs.length)→∃ k,k < zs.length∧Lib.keeps zs.toArray k=true∧(zs.toArray)[k]! = zs[j]:=by
   intro n
   induction n with
   | zero =>
    intro j h1 h2
    obtain rfl:j=0:=by omega
    exact⟨0,h2,by simp[Lib.keeps],arr_get h2⟩
   | succ n ih =>
    intro j h1 h2
    cases hk:Lib.keeps zs.toArray j with
    | true=>exact⟨j,h2,hk,arr_get h2⟩
    | false =>
     have h3:¬ (j=0):=by rintro rfl;simp[Lib.keeps]at hk
     have h4:(zs.toArray)[j]! = (zs.toArray)[j - 1]! := by
      simp only[Lib.keeps,decide_eq_false_iff_not,not_or,Decidable.not_not]at hk;exact hk.2
     rw[arr_get h2,arr_get (show j - 1 < zs.length by omega)]at h4
     obtain⟨k,k1,k2,k3⟩:=ih (j - 1) (by omega) (by omega)
     exact⟨k,k1,k2,by rw[k3,← h4]⟩
  obtain⟨k,k1,k2,k3⟩:=key j j (Nat.le_refl _) hj
  exact⟨k,List.mem_filter.2 ⟨List.mem_range.2 k1,k2⟩,by rw[k3,e]⟩
theorem cmpI_lt {zs:List Int} (hs:zs.Pairwise (·≤·)):(cmpI zs).Pairwise (· < ·):=by
 unfold cmpI Lib.compact Lib.compactUpTo
 rw[List.pairwise_map]
 have h1:(List.range zs.length).Pairwise (· < ·):=List.pairwise_lt_range
 have h2:=h1.filter (Lib.keeps zs.toArray)
 refine h2.imp_of_mem (fun {a b} ha hb hab=>?_)
 have ha':=List.mem_range.1 (List.mem_filter.1 ha).1
 have hb':=List.mem_range.1 (List.mem_filter.1 hb).1
 have hk:=(List.mem_filter.1 hb).2
 rw[arr_get ha',arr_get hb']
 have h0:b≠0:=by omega
 have h4:(zs.toArray)[b]! ≠ (zs.toArray)[b - 1]! := by
  simp only[Lib.keeps,decide_eq_true_eq]at hk;exact hk.resolve_left h0
 rw[arr_get hb',arr_get (show b - 1 < zs.length by omega)]at h4
 have le:∀ i j,(hi:i < zs.length)→(hj:j < zs.length)→i≤j→zs[i]≤zs[j]:=fun i j hi hj hij=>by
  rcases Nat.eq_or_lt_of_le hij with rfl | h
  ·exact Int.le_refl _
  ·exact List.pairwise_iff_getElem.1 hs i j hi hj h
 have l1:=le a (b - 1) ha' (by omega) (by omega)
 have l2:=le (b - 1) b (by omega) hb' (by omega)
 omega
def lvs (s:SS):List Int:=(List.range s.1.length).flatMap fun i=>[(s.1.getD i default).Leaf]
def rL (c:T27) (s:SS):List Int:=(leavesS c).filter (reachB s)
theorem lvs_mem {s:SS} {x:Int}:x∈lvs s↔reachB s x=true:=by
 unfold lvs reachB
 rw[List.mem_flatMap,anyR_iff]
 constructor
 ·rintro⟨i,h1,h2⟩
  simp only[List.mem_singleton]at h2
  exact⟨i,List.mem_range.1 h1,by rw[h2];simp⟩
 ·rintro⟨i,h1,h2⟩
  exact⟨i,List.mem_range.2 h1,List.mem_singleton.2 (eq_of_beq h2).symm⟩
theorem leavesS_lt (c:T27):(leavesS c).Pairwise (· < ·):=by
 unfold leavesS
 generalize c.States.length=n
 induction n with
 | zero=>simp
 | succ n ih =>
  rw[flatMap_app,List.pairwise_append]
  refine⟨ih,?_,fun a ha b hb=>?_⟩
  ·unfold leafG;split<;>simp
  ·obtain⟨i,h1,h2⟩:=List.mem_flatMap.1 ha
   have:=List.mem_range.1 h1
   unfold leafG at h2 hb
   split at h2
   ·cases h2
   ·split at hb
    ·cases hb
    ·simp only[List.mem_singleton]at h2 hb
     omega
theorem lt_unique {l k:List Int} (h1:l.Pairwise (· < ·)) (h2:k.Pairwise (· < ·)) (h:∀ x,x∈l↔x∈k):l=k:=by
 have n1:l.Nodup:=h1.imp fun h=>by omega
 have n2:k.Nodup:=h2.imp fun h=>by omega
 exact List.Perm.eq_of_pairwise (le:=fun x y:Int=>x≤y) (fun a b _ _ h1 h2=>by omega) (h1.imp fun h=>by omega) (h2.imp fun h=>by omega) ((List.perm_ext_iff_of_nodup n1 n2).2 h)
theorem sorted_leaves {c:T27} {s:SS} (I:Inv c s):cmpI (sortI (lvs s))=rL c s:=by
 refine lt_unique (cmpI_lt (sortI_sorted _)) ((leavesS_lt c).filter _) fun x=>?_
 rw[cmpI_mem,(sortI_perm _).mem_iff,lvs_mem]
 unfold rL
 rw[List.mem_filter]
 constructor
 ·intro h
  refine⟨?_,h⟩
  obtain⟨g,hg,rfl⟩:=reachB_iff.1 h
  have:=validS_iff.1 (I.ok g hg)
  exact leavesS_iff.2 ⟨this.1,this.2.1⟩
 ·exact fun h=>h.2
theorem M100o1 (a0:T27) (a1:List T37) (a2 a3 a4:List Int):m100o1 a0 a1 a2 a3 a4=((Option.bind (some (.inl ())) (onS fun(_:Unit)=>(Option.bind (Option.bind (some (.inl ())) (onS fun(_:Unit)=>(loopO (fun(s1:(List Int)×Int)=>((if(decide (s1.2 < (a1.length:Int)))=true then(if(0≤s1.2)then(if(s1.2 < (a1.length:Int))then(Option.bind ((if(s1.1.length+1) * 8≤140737488355328 then some ()else none)) fun(x5:(Unit))=>(some (.inl ((s1.1++([(a1.getD s1.2.toNat default).Leaf]:List Int)),(IntKind.wrap .i64 (s1.2+1))))))else none)else none)else(some (.inr (.inl s1.1)))):Option (((List Int)×Int)⊕(((List Int))⊕((List Int)))))) (([]:List Int),(0:Int))))) (onS fun(y2:(List Int))=>(Option.bind (Option.bind (msrt y2) fun r=>some r) fun x7=>(Option.bind (Option.bind (mcmp (sortI y2)) fun r=>some r) fun x8=>(some (cmpI (sortI y2))))))))):Option ((List Int))):=by kernel_rfl
theorem sleaves_eq {c:T27} {s:SS} (I:Inv c s) (w:List Int):m100o1 c s.1 s.2.1 s.2.2 w=some (rL c s):=by
 have b1:=I.le
 simp only[M100o1,bind_id,bs,ol]
 refine on_l (loop_coll s.1.length (fun i l=>(l,(i:Int))) (fun i=>[(s.1.getD i default).Leaf]) Sum.inl (fun i hi=>?_) ?_) ?_
 ·have hgl:=flatMap_len (g:=fun i=>[(s.1.getD i default).Leaf]) (m:=1) (fun i=>by simp) i
  have c1:(((List.range i).flatMap fun i=>[(s.1.getD i default).Leaf]).length+1) * 8≤140737488355328:=by omega
  have w2:IntKind.wrap .i64 ((i:Int)+1)=((i+1:Nat):Int):=by rw[w64 (by omega) (by omega)];omega
  simp only[inL hi,decide_true,if_true,Int.toNat_natCast,eq_true c1,bs,w2]
 ·simp only[lt_irr,decide_false,Bool.false_eq_true,if_false]
 ·have hlen:(lvs s).length≤400:=by
   have:=flatMap_len (g:=fun i=>[(s.1.getD i default).Leaf]) (m:=1) (fun i=>by simp) s.1.length
   unfold lvs;omega
  have m1:msrt (lvs s)=some ():=by unfold msrt;rw[if_pos (by omega)]
  have m2:mcmp (sortI (lvs s))=some ():=by unfold mcmp;rw[if_pos (by rw[sortI_len];omega)]
  show (msrt (lvs s)).bind (fun _=>(mcmp (sortI (lvs s))).bind fun _=>some (cmpI (sortI (lvs s))))=_
  rw[m1,Option.bind_some,m2,Option.bind_some,sorted_leaves I]
end Go.Av
set_option maxRecDepth 100000
namespace Go.Av
open Ch Go.Proofs
theorem range_flat {α β:Type} [Inhabited α] (f:α→List β):∀ (l:List α),(List.range l.length).flatMap (fun j=>f (l.getD j default))=l.flatMap f
 | []=>rfl
 | x :: l=>by
  rw[List.length_cons,List.range_succ_eq_map,List.flatMap_cons,List.flatMap_map,List.flatMap_cons]
  congr 1
  exact range_flat f l
theorem filter_flat {α β:Type} (p:α→Bool) (f:α→List β):∀ (l:List α),(l.filter p).flatMap f=l.flatMap fun x=>if p x=true then f x else[]
 | []=>rfl
 | x :: l=>by
  rw[List.flatMap_cons,← filter_flat p f l]
  cases h:p x with
  | true=>rw[List.filter_cons_of_pos (by exact h),List.flatMap_cons,if_pos rfl]
  | false=>rw[List.filter_cons_of_neg (by rw[h];decide),if_neg (by decide),List.nil_append]
theorem firstR_list {α Y:Type} [Inhabited α] (f:α→Option Y) (l:List α):firstR (fun j=>f (l.getD j default)) l.length=l.findSome? f:=by
 unfold firstR
 induction l with
 | nil=>rfl
 | cons x l ih =>
  rw[List.length_cons,List.range_succ_eq_map,List.findSome?_cons,List.findSome?_cons,List.findSome?_map]
  show (match f x with | some b=>some b | none=>_)=_
  cases f x with
  | some b=>rfl
  | none=>exact ih
theorem anyR_list {α:Type} [Inhabited α] (p:α→Bool) (l:List α):anyR (fun j=>p (l.getD j default)) l.length=l.any p:=by
 rw[Bool.eq_iff_iff,anyR_iff,List.any_eq_true]
 constructor
 ·rintro⟨i,hi,h⟩;exact⟨_,getD_mem hi,h⟩
 ·rintro⟨x,hx,h⟩
  obtain⟨i,hi,rfl⟩:=List.getElem_of_mem hx
  exact⟨i,hi,by simpa [List.getD_eq_getElem?_getD,List.getElem?_eq_getElem hi] using h⟩
theorem findSome_flat {α β Y:Type} (f:β→Option Y) (g:α→List β):∀ l:List α,(l.flatMap g).findSome? f=l.findSome? fun x=>(g x).findSome? f
 | []=>rfl
 | x :: l=>by
  rw[List.flatMap_cons,List.findSome?_append,List.findSome?_cons,findSome_flat f g l]
  cases (g x).findSome? f<;>rfl
theorem firstR_orK {Y:Type} {f:Nat→Option Y} {n:Nat}:firstR f (n+1)=orK (firstR f n) (f n):=by
 rw[firstR_succ]
 cases firstR f n<;>rfl
def mkL (n:Nat) (B:Nat→Bool):List Bool:=(List.range n).map B
theorem mkL_len (n:Nat) (B:Nat→Bool):(mkL n B).length=n:=by simp[mkL]
theorem mkL_at {n:Nat} {B:Nat→Bool} {i:Nat} (h:i < n):(mkL n B).getD i default=B i:=by simp[mkL,List.getD_eq_getElem?_getD,h]
theorem mkL_congr {n:Nat} {B C:Nat→Bool} (h:∀ i,i < n→B i=C i):mkL n B=mkL n C:=by
 unfold mkL
 exact List.map_congr_left fun i hi=>h i (List.mem_range.1 hi)
theorem mkL_sub {n:Nat} {B:Nat→Bool}:subL (mkL n B) 0 n=mkL n B:=by
 rw[list_eq_iff (by rw[subL_len,mkL_len])]
 intro i hi
 rw[subL_len]at hi
 exact subL_getD hi
theorem mkL_set {n:Nat} {B:Nat→Bool} {t:Nat} (h:t < n):(mkL n B).set t true=mkL n fun u=>B u || t==u:=by
 apply List.ext_getElem?
 intro u
 simp only[mkL,List.getElem?_set,List.getElem?_map,List.length_map,List.length_range]
 by_cases e:t=u
 ·subst e;simp[h]
 ·rw[if_neg e]
  have:(t==u)=false:=by simpa using e
  by_cases hu:u < n
  ·simp[hu,this]
  ·simp[hu]
def f1 (c:T27) (leaf v:Int):Option T44:=if(((enabledS c leaf v).length:Int)==0)=true then some ⟨1,leaf,v,-1,-1⟩else none
def f2 (c:T27) (leaf v:Int):Option T44:=if decide (1 < ((enabledS c leaf v).length:Int))=true then some ⟨2,leaf,v,(enabledS c leaf v).getD 0 default,(enabledS c leaf v).getD 1 default⟩else none
def pA (c:T27) (leaf:Int) (u:Nat) (v:Int):Bool:=hasK (enabledS c leaf v) (enabledS c leaf v).length (u:Int)
theorem alG_find {c:T27} {Y:Type} (f:Int→Option Y) (v:Nat):(alG c v).findSome? f=if allowedS c (v:Int)=true then f (v:Int)else none:=by
 unfold alG
 split
 ·simp[List.findSome?_cons]
  cases f (v:Int)<;>rfl
 ·rfl
theorem f1_all {c:T27} {leaf:Int}:firstR (fun j=>f1 c leaf ((valsA c).getD j default)) (valsA c).length=leafFd c leaf 1:=by
 rw[firstR_list (f1 c leaf) (valsA c)]
 unfold valsA leafFd firstR
 rw[findSome_flat]
 congr 1
 funext v
 rw[alG_find]
 unfold finV f1
 simp only[show ((1:Int)==1)=true from rfl,show ((1:Int)==2)=false from rfl,Bool.true_and,Bool.false_and,Bool.false_eq_true,if_false]
theorem f2_all {c:T27} {leaf:Int}:firstR (fun j=>f2 c leaf ((valsA c).getD j default)) (valsA c).length=leafFd c leaf 2:=by
 rw[firstR_list (f2 c leaf) (valsA c)]
 unfold valsA leafFd firstR
 rw[findSome_flat]
 congr 1
 funext v
 rw[alG_find]
 unfold finV f2
 simp only[show ((2:Int)==2)=true from rfl,show ((2:Int)==1)=false from rfl,Bool.true_and,Bool.false_and,Bool.false_eq_true,if_false]
theorem pA_all {c:T27} {leaf:Int} {u:Nat}:anyR (fun j=>pA c leaf u ((valsA c).getD j default)) (valsA c).length=aliveB c leaf (u:Int):=by
 rw[anyR_list (pA c leaf u) (valsA c),Bool.eq_iff_iff,List.any_eq_true]
 unfold aliveB
 rw[anyR_iff]
 constructor
 ·rintro⟨x,hx,h⟩
  obtain⟨n,hn,rfl,ha⟩:=valsA_mem.1 hx
  exact⟨n,hn,by unfold aliveV;rw[ha];exact h⟩
 ·rintro⟨n,hn,h⟩
  unfold aliveV at h
  simp only[Bool.and_eq_true]at h
  exact⟨(n:Int),valsA_mem.2 ⟨n,hn,rfl,h.1⟩,h.2⟩
theorem enab_lt {c:T27} {leaf v:Int} {x:Int} (h:x∈enabledS c leaf v):∃ t:Nat,x=t∧t < c.Transitions.length:=by
 unfold enabledS at h
 obtain⟨i,hi,hx⟩:=List.mem_flatMap.1 h
 unfold enabG at hx
 split at hx
 ·simp only[List.mem_singleton]at hx
  exact⟨i,hx,List.mem_range.1 hi⟩
 ·cases hx
theorem toList_len {α:Type} (o:Option α):o.toList.length≤1:=by cases o<;>simp
theorem kind_rL {c:T27} {s:SS} {kind:Int}:(List.range (rL c s).length).flatMap (fun j=>(leafFd c ((rL c s).getD j default) kind).toList)=kindL c s kind:=by
 rw[range_flat (fun x=>(leafFd c x kind).toList) (rL c s)]
 unfold rL
 rw[filter_flat,← range_flat (fun x=>if reachB s x=true then(leafFd c x kind).toList else[]) (leavesS c)]
 rfl
theorem live_rL {c:T27} {s:SS} {t:Nat}:anyR (fun j=>aliveB c ((rL c s).getD j default) (t:Int)) (rL c s).length=liveB c s t:=by
 rw[anyR_list (fun x=>aliveB c x (t:Int)) (rL c s)]
 unfold liveB leafA
 rw[anyR_list (fun x=>reachB s x&&aliveB c x (t:Int)) (leavesS c),Bool.eq_iff_iff,List.any_eq_true,List.any_eq_true]
 unfold rL
 constructor
 ·rintro⟨x,hx,h⟩
  obtain⟨h1,h2⟩:=List.mem_filter.1 hx
  exact⟨x,h1,by rw[h2,h];rfl⟩
 ·rintro⟨x,hx,h⟩
  simp only[Bool.and_eq_true]at h
  exact⟨x,List.mem_filter.2 ⟨hx,h.1⟩,h.2⟩
theorem rL_has {c:T27} {s:SS} {x:Int} (hx:x∈leavesS c):hasK (rL c s) (rL c s).length x=reachB s x:=by
 rw[Bool.eq_iff_iff,hasK_iff]
 unfold rL
 rw[List.mem_filter]
 exact⟨fun h=>h.2,fun h=>⟨hx,h⟩⟩
theorem alive_loop {X:Type} {T:Nat} {l:List Int} (hm:∀ x∈l,∃ t:Nat,x=t∧t < T) {b:List Bool×Int→Option ((List Bool×Int)⊕X)} (out:List Bool→X)
  (hb:∀ (B:Nat→Bool) (j t:Nat),j < l.length→l.getD j default=(t:Int)→t < T→b (mkL T B,(j:Int))=some (.inl ((mkL T B).set t true,((j+1:Nat):Int)))) (he:∀ B,b (mkL T B,(l.length:Int))=some (.inr (out (mkL T B)))) (B:Nat→Bool) :
  loopO b (mkL T B,0)=some (out (mkL T fun t=>B t || hasK l l.length (t:Int))):=by
 have e0:(mkL T B,(0:Int))=(fun j:Nat=>(mkL T (fun t=>B t || anyR (fun i=>l.getD i default==(t:Int)) j),(j:Int))) 0:=by
  have:mkL T B=mkL T (fun t=>B t || anyR (fun i=>l.getD i default==(t:Int)) 0):=mkL_congr fun t _=>by simp[anyR]
  rw[this];rfl
 have e9:mkL T (fun t=>B t || hasK l l.length (t:Int))=mkL T (fun t=>B t || anyR (fun i=>l.getD i default==(t:Int)) l.length):=by
  refine mkL_congr fun t _=>?_
  unfold hasK
  congr 1
  refine anyR_congr fun i hi=>?_
  rw[Bool.eq_iff_iff,beq_iff_eq,beq_iff_eq];exact eq_comm
 rw[e0,e9]
 refine loop_st l.length (fun j:Nat=>(mkL T (fun t=>B t || anyR (fun i=>l.getD i default==(t:Int)) j),(j:Int))) _ (fun j hj=>?_) (he _)
 obtain⟨t,ht,htl⟩:=hm _ (getD_mem hj)
 have r4:mkL T (fun u=>B u || anyR (fun i=>l.getD i default==(u:Int)) (j+1))=mkL T (fun u=>(B u || anyR (fun i=>l.getD i default==(u:Int)) j) || t==u):=by
  refine mkL_congr fun u _=>?_
  unfold anyR
  rw[List.range_succ,List.any_append,← Bool.or_assoc]
  congr 1
  simp only[List.any_cons,List.any_nil,Bool.or_false,ht]
  rw[Bool.eq_iff_iff,beq_iff_eq,beq_iff_eq];omega
 show b _=some (.inl (mkL T (fun u=>B u || anyR (fun i=>l.getD i default==(u:Int)) (j+1)),((j+1:Nat):Int)))
 rw[r4,← mkL_set htl]
 exact hb _ j t hj ht htl
theorem M47o1 (a0:T27) (a1:List T37) (a2 a3 a4:List Int):m47o1 a0 a1 a2 a3 a4=((Option.bind (Option.bind (Option.bind (m100o1 a0 a1 a2 a3 a4) fun r=>some r) fun x1=>(if(0≤(a0.Transitions.length:Int))then(if((a0.Transitions.length:Int)=(a0.Transitions.length:Int))then(if((a0.Transitions.length:Int) * 1≤140737488355328)then(if((a0.Transitions.length:Int)≤9223372036854775807)then(some (.inl x1))else none)else none)else none)else none)) (onS fun(y1:(List Int))=>(Option.bind (Option.bind (some (.inl ())) (onS fun(_:Unit)=>(loopO (fun(s2:(List T44)×(List T44)×(List Bool)×Int)=>((Option.bind (if(decide (s2.2.2.2 < (y1.length:Int)))=true then(some (.inl ()))else(some (.inr (.inr (.inl (s2.1,s2.2.1,s2.2.2.1)))))) (onS fun(_:Unit)=>(Option.bind (Option.bind (if(0≤s2.2.2.2)then(if(s2.2.2.2 < (y1.length:Int))then(if(s2.2.2.2.toNat < y1.length)then(some (.inl ()))else none)else none)else none) (onS fun(_:Unit)=>(loopO (fun(s3:(List T44)×(List T44)×(List Bool)×Bool×Bool×Int)=>((Option.bind (if(decide (s3.2.2.2.2.2 < (a4.length:Int)))=true then(some (.inl ()))else(some (.inr (.inr (.inl (s3.1,s3.2.1,s3.2.2.1)))))) (onS fun(_:Unit)=>(Option.bind (Option.bind (if(0≤s3.2.2.2.2.2)then(if(s3.2.2.2.2.2 < (a4.length:Int))then(Option.bind (Option.bind (m19 a0 (y1.getD s2.2.2.2.toNat default) (a4.getD s3.2.2.2.2.2.toNat default)) fun r=>some r) fun x11=>(some (.inl x11)))else none)else none) (onS fun(y4:(List Int))=>(Option.bind (Option.bind (some (.inl ())) (onS fun(_:Unit)=>(loopO (fun(s5:(List Bool)×Int)=>((if(decide (s5.2 < (y4.length:Int)))=true then(if(0≤s5.2)then(if(s5.2 < (y4.length:Int))then(if(0≤(y4.getD s5.2.toNat default))then(if((y4.getD s5.2.toNat default) < ((a0.Transitions.length:Int).toNat:Int))then(if((y4.getD s5.2.toNat default).toNat < (a0.Transitions.length:Int).toNat)then(some (.inl (((subL s5.1 0 (a0.Transitions.length:Int).toNat).set (y4.getD s5.2.toNat default).toNat true),(IntKind.wrap .i64 (s5.2+1)))))else none)else none)else none)else none)else none)else(some (.inr (.inl s5.1)))):Option (((List Bool)×Int)⊕(((List Bool))⊕(((List T44)×(List T44)×(List Bool)×Bool×Bool)⊕(((List T44)×(List T44)×(List Bool)×Bool×Bool×Int)⊕(((List T44)×(List T44)×(List Bool))⊕(((List T44)×(List T44)×(List Bool)×Int)⊕(((List T44)×(List T44)×(List Bool))⊕((List T44))))))))))) (s3.2.2.1,(0:Int))))) (onS fun(y6:(List Bool))=>(if(((y4.length:Int)==(0:Int))&&(!s3.2.2.2.1))=true then(if((s3.1.length+1) * 40≤140737488355328)then(if((decide (1 < (y4.length:Int)))&&(!s3.2.2.2.2.1))=true then(if((0:Int)≤(0:Int))then(if(0 < (y4.length:Int))then(if((0:Int)≤(1:Int))then(if(1 < (y4.length:Int))then(if((s3.2.1.length+1) * 40≤140737488355328)then(some (.inl ((s3.1++([(⟨(1:Int),(y1.getD s2.2.2.2.toNat default),(a4.getD s3.2.2.2.2.2.toNat default),(-1:Int),(-1:Int)⟩:T44)]:List T44)),(s3.2.1++([(⟨(2:Int),(y1.getD s2.2.2.2.toNat default),(a4.getD s3.2.2.2.2.2.toNat default),(y4.getD (0:Int).toNat default),(y4.getD (1:Int).toNat default)⟩:T44)]:List T44)),y6,true,true)))else none)else none)else none)else none)else none)else(some (.inl ((s3.1++([(⟨(1:Int),(y1.getD s2.2.2.2.toNat default),(a4.getD s3.2.2.2.2.2.toNat default),(-1:Int),(-1:Int)⟩:T44)]:List T44)),s3.2.1,y6,true,s3.2.2.2.2.1))))else none)else(if((decide (1 < (y4.length:Int)))&&(!s3.2.2.2.2.1))=true then(if((0:Int)≤(0:Int))then(if(0 < (y4.length:Int))then(if((0:Int)≤(1:Int))then(if(1 < (y4.length:Int))then(if((s3.2.1.length+1) * 40≤140737488355328)then(some (.inl (s3.1,(s3.2.1++([(⟨(2:Int),(y1.getD s2.2.2.2.toNat default),(a4.getD s3.2.2.2.2.2.toNat default),(y4.getD (0:Int).toNat default),(y4.getD (1:Int).toNat default)⟩:T44)]:List T44)),y6,s3.2.2.2.1,true)))else none)else none)else none)else none)else none)else(some (.inl (s3.1,s3.2.1,y6,s3.2.2.2.1,s3.2.2.2.2.1))))))))) (onS fun(y7:(List T44)×(List T44)×(List Bool)×Bool×Bool)=>(some (.inl (y7.1,y7.2.1,y7.2.2.1,y7.2.2.2.1,y7.2.2.2.2,(IntKind.wrap .i64 (s3.2.2.2.2.2+1))))))))):Option (((List T44)×(List T44)×(List Bool)×Bool×Bool×Int)⊕(((List T44)×(List T44)×(List Bool))⊕(((List T44)×(List T44)×(List Bool)×Int)⊕(((List T44)×(List T44)×(List Bool))⊕((List T44)))))))) (s2.1,s2.2.1,s2.2.2.1,false,false,(0:Int))))) (onS fun(y8:(List T44)×(List T44)×(List Bool))=>(some (.inl (y8.1,y8.2.1,y8.2.2,(IntKind.wrap .i64 (s2.2.2.2+1))))))))):Option (((List T44)×(List T44)×(List Bool)×Int)⊕(((List T44)×(List T44)×(List Bool))⊕((List T44)))))) ([],[],(List.replicate (a0.Transitions.length:Int).toNat false),(0:Int))))) (onS fun(y9:(List T44)×(List T44)×(List Bool))=>(Option.bind (if((y9.1.length+y9.2.1.length) * 40≤140737488355328)then(some (.inl ()))else none) (onS fun(_:Unit)=>(Option.bind (Option.bind (Option.bind (Option.bind (m53 a0) fun r=>some r) fun x26=>(some (.inl (x26,(x26.length:Int))))) (onS fun(y10:(List Int)×Int)=>(loopO (fun(s11:(List T44)×Int)=>((if(decide (s11.2 < y10.2))=true then(if(0≤s11.2)then(if(s11.2 < (y10.1.length:Int))then(Option.bind (Option.bind (m49 y1 (y10.1.getD s11.2.toNat default)) fun r=>some r) fun x29=>(if(!x29)=true then(if((s11.1.length+1) * 40≤140737488355328)then(some (.inl ((s11.1++([(⟨(3:Int),(y10.1.getD s11.2.toNat default),(0:Int),(-1:Int),(-1:Int)⟩:T44)]:List T44)),(IntKind.wrap .i64 (s11.2+1)))))else none)else(some (.inl (s11.1,(IntKind.wrap .i64 (s11.2+1)))))))else none)else none)else(some (.inr (.inl s11.1)))):Option (((List T44)×Int)⊕(((List T44))⊕((List T44)))))) ((y9.1++y9.2.1),(0:Int))))) (onS fun(y12:(List T44))=>(Option.bind (Option.bind (some (.inl ())) (onS fun(_:Unit)=>(loopO (fun(s13:(List T44)×Int)=>((if(decide (s13.2 < ((a0.Transitions.length:Int).toNat:Int)))=true then(if(0≤s13.2)then(if(s13.2 < ((a0.Transitions.length:Int).toNat:Int))then(if(s13.2.toNat < (a0.Transitions.length:Int).toNat)then(if(!(y9.2.2.getD s13.2.toNat default))=true then(if((s13.1.length+1) * 40≤140737488355328)then(some (.inl ((s13.1++([(⟨(4:Int),(-1:Int),(0:Int),s13.2,(-1:Int)⟩:T44)]:List T44)),(IntKind.wrap .i64 (s13.2+1)))))else none)else(some (.inl (s13.1,(IntKind.wrap .i64 (s13.2+1))))))else none)else none)else none)else(some (.inr (.inl s13.1)))):Option (((List T44)×Int)⊕(((List T44))⊕((List T44)))))) (y12,(0:Int))))) (onS fun(y14:(List T44))=>(some y14))))))))))):Option ((List T44))):=by kernel_rfl
theorem sfind_eq {c:T27} (H:Fit c) (hn:c.Conds.length≤12) {s:SS} (I:Inv c s):m47o1 c s.1 s.2.1 s.2.2 (valsA c)=some (findS c s):=by
 have hst:=H.states
 have htr:=H.trans
 have h2:=numV_le hn
 have hv2:=valsA_len (c:=c)
 have hll:=leavesS_len (c:=c)
 have hrl:(rL c s).length≤(leavesS c).length:=by unfold rL;exact List.length_filter_le _ _
 have q0:=sleaves_eq I (valsA c)
 have q1:=Leaves_eq c H
 have q2:∀ (leaf v:Int),m19 c leaf v=some (enabledS c leaf v):=Enabled_eq c H
 have q3:∀ x,m49 (rL c s) x=some (hasK (rL c s) (rL c s).length x):=fun x=>containsI_eq (rL c s) x (by omega)
 have c0:((0:Int)≤(c.Transitions.length:Int))=True:=eq_true (by omega)
 have c1:((c.Transitions.length:Int) * 1≤140737488355328)=True:=eq_true (by omega)
 have c2:((c.Transitions.length:Int)≤9223372036854775807)=True:=eq_true (by omega)
 have z0:((0:Int)≤(0:Int))=True:=eq_true (by omega)
 have z1:((0:Int)≤(1:Int))=True:=eq_true (by omega)
 simp only[M47o1,bind_id,q0,q1,q2,q3,bs,c0,c1,c2,if_true,ol,Int.toNat_natCast]
 refine on_l (y:=(kindL c s 1,kindL c s 2,mkL c.Transitions.length fun t=>liveB c s t)) ?_ ?_
 ·have e0:(([]:List T44),([]:List T44),List.replicate c.Transitions.length false,(0:Int))=(fun i:Nat=>((List.range i).flatMap (fun j=>(leafFd c ((rL c s).getD j default) 1).toList),(List.range i).flatMap (fun j=>(leafFd c ((rL c s).getD j default) 2).toList),mkL c.Transitions.length (fun t=>anyR (fun j=>aliveB c ((rL c s).getD j default) (t:Int)) i),(i:Int))) 0:=by
   have:List.replicate c.Transitions.length false=mkL c.Transitions.length (fun t=>anyR (fun j=>aliveB c ((rL c s).getD j default) (t:Int)) 0):=by
    apply List.ext_getElem?
    intro u
    simp only[mkL,List.getElem?_replicate,List.getElem?_map]
    by_cases hu:u < c.Transitions.length
    ·simp[hu,anyR]
    ·simp[hu]
   rw[this];rfl
  have e9:(kindL c s 1,kindL c s 2,mkL c.Transitions.length fun t=>liveB c s t)=((List.range (rL c s).length).flatMap (fun j=>(leafFd c ((rL c s).getD j default) 1).toList),(List.range (rL c s).length).flatMap (fun j=>(leafFd c ((rL c s).getD j default) 2).toList),mkL c.Transitions.length (fun t=>anyR (fun j=>aliveB c ((rL c s).getD j default) (t:Int)) (rL c s).length)):=by
   rw[kind_rL,kind_rL,mkL_congr (fun t _=>live_rL.symm)]
  rw[e0,e9]
  refine loop_st (rL c s).length (fun i:Nat=>((List.range i).flatMap (fun j=>(leafFd c ((rL c s).getD j default) 1).toList),(List.range i).flatMap (fun j=>(leafFd c ((rL c s).getD j default) 2).toList),mkL c.Transitions.length (fun t=>anyR (fun j=>aliveB c ((rL c s).getD j default) (t:Int)) i),(i:Int))) (Sum.inl _) (fun i hi=>?_) ?_
  ·have g1:=flatMap_len (g:=fun j=>(leafFd c ((rL c s).getD j default) 1).toList) (m:=1) (fun j=>toList_len _) i
   have g2:=flatMap_len (g:=fun j=>(leafFd c ((rL c s).getD j default) 2).toList) (m:=1) (fun j=>toList_len _) i
   simp only[inL hi,decide_true,if_true,bs,ol,Int.toNat_natCast,eq_true hi]
   have r1:(List.range (i+1)).flatMap (fun j=>(leafFd c ((rL c s).getD j default) 1).toList)=(List.range i).flatMap (fun j=>(leafFd c ((rL c s).getD j default) 1).toList)++(leafFd c ((rL c s).getD i default) 1).toList:=flatMap_app _ _
   have r2:(List.range (i+1)).flatMap (fun j=>(leafFd c ((rL c s).getD j default) 2).toList)=(List.range i).flatMap (fun j=>(leafFd c ((rL c s).getD j default) 2).toList)++(leafFd c ((rL c s).getD i default) 2).toList:=flatMap_app _ _
   obtain⟨B,hB⟩:∃ B:Nat→Bool,B=fun t:Nat=>anyR (fun j=>aliveB c ((rL c s).getD j default) (t:Int)) i:=⟨_,rfl⟩
   have r0:mkL c.Transitions.length (fun t=>anyR (fun j=>aliveB c ((rL c s).getD j default) (t:Int)) i)=mkL c.Transitions.length B:=by rw[hB]
   have r3:mkL c.Transitions.length (fun t=>anyR (fun j=>aliveB c ((rL c s).getD j default) (t:Int)) (i+1))=mkL c.Transitions.length (fun t=>B t || aliveB c ((rL c s).getD i default) (t:Int)):=by
    rw[hB]
    refine mkL_congr fun t _=>?_
    unfold anyR
    rw[List.range_succ,List.any_append]
    simp
   rw[r1,r2,r3,r0]
   clear r1 r2 r3 r0 hB e0 e9
   generalize (List.range i).flatMap (fun j=>(leafFd c ((rL c s).getD j default) 1).toList)=K1 at g1 ⊢
   generalize (List.range i).flatMap (fun j=>(leafFd c ((rL c s).getD j default) 2).toList)=K2 at g2 ⊢
   generalize (rL c s).getD i default=leaf
   have w2:IntKind.wrap .i64 ((i:Int)+1)=((i+1:Nat):Int):=by rw[w64 (by omega) (by omega)];omega
   refine on_l (y:=(K1++(leafFd c leaf 1).toList,K2++(leafFd c leaf 2).toList,mkL c.Transitions.length fun t=>B t || aliveB c leaf (t:Int))) ?_ (by simp only[bs,ol,w2])
   have e0:(K1,K2,mkL c.Transitions.length B,false,false,(0:Int))=(fun k:Nat=>(K1++(firstR (fun j=>f1 c leaf ((valsA c).getD j default)) k).toList,K2++(firstR (fun j=>f2 c leaf ((valsA c).getD j default)) k).toList,mkL c.Transitions.length (fun t=>B t || anyR (fun j=>pA c leaf t ((valsA c).getD j default)) k),(firstR (fun j=>f1 c leaf ((valsA c).getD j default)) k).isSome,(firstR (fun j=>f2 c leaf ((valsA c).getD j default)) k).isSome,(k:Int))) 0:=by
    have:mkL c.Transitions.length B=mkL c.Transitions.length (fun t=>B t || anyR (fun j=>pA c leaf t ((valsA c).getD j default)) 0):=mkL_congr fun t _=>by simp[anyR]
    rw[this]
    simp[firstR]
   have e9:(K1++(leafFd c leaf 1).toList,K2++(leafFd c leaf 2).toList,mkL c.Transitions.length fun t=>B t || aliveB c leaf (t:Int))=(K1++(firstR (fun j=>f1 c leaf ((valsA c).getD j default)) (valsA c).length).toList,K2++(firstR (fun j=>f2 c leaf ((valsA c).getD j default)) (valsA c).length).toList,mkL c.Transitions.length (fun t=>B t || anyR (fun j=>pA c leaf t ((valsA c).getD j default)) (valsA c).length)):=by
    rw[f1_all,f2_all]
    congr 2
    exact mkL_congr fun t _=>by rw[pA_all]
   rw[e0,e9]
   refine loop_st (valsA c).length (fun k:Nat=>(K1++(firstR (fun j=>f1 c leaf ((valsA c).getD j default)) k).toList,K2++(firstR (fun j=>f2 c leaf ((valsA c).getD j default)) k).toList,mkL c.Transitions.length (fun t=>B t || anyR (fun j=>pA c leaf t ((valsA c).getD j default)) k),(firstR (fun j=>f1 c leaf ((valsA c).getD j default)) k).isSome,(firstR (fun j=>f2 c leaf ((valsA c).getD j default)) k).isSome,(k:Int))) (Sum.inl _) (fun k hk=>?_) ?_
   ·have w3:IntKind.wrap .i64 ((k:Int)+1)=((k+1:Nat):Int):=by rw[w64 (by omega) (by omega)];omega
    have t1:=toList_len (firstR (fun j=>f1 c leaf ((valsA c).getD j default)) k)
    have t2:=toList_len (firstR (fun j=>f2 c leaf ((valsA c).getD j default)) k)
    obtain⟨B',hB⟩:∃ B':Nat→Bool,B'=fun t:Nat=>B t || anyR (fun j=>pA c leaf t ((valsA c).getD j default)) k:=⟨_,rfl⟩
    have r0:mkL c.Transitions.length (fun t=>B t || anyR (fun j=>pA c leaf t ((valsA c).getD j default)) k)=mkL c.Transitions.length B':=by rw[hB]
    have r3:mkL c.Transitions.length (fun t=>B t || anyR (fun j=>pA c leaf t ((valsA c).getD j default)) (k+1))=mkL c.Transitions.length (fun t=>B' t || pA c leaf t ((valsA c).getD k default)):=by
     rw[hB]
     refine mkL_congr fun t _=>?_
     unfold anyR
     rw[List.range_succ,List.any_append,← Bool.or_assoc]
     simp
    simp only[inL hk,decide_true,if_true,bs,ol,Int.toNat_natCast]
    rw[r3,r0,firstR_orK (f:=fun j=>f1 c leaf ((valsA c).getD j default)),firstR_orK (f:=fun j=>f2 c leaf ((valsA c).getD j default))]
    generalize firstR (fun j=>f1 c leaf ((valsA c).getD j default)) k=o1 at t1 ⊢
    generalize firstR (fun j=>f2 c leaf ((valsA c).getD j default)) k=o2 at t2 ⊢
    clear r3 r0 hB e0 e9
    generalize (valsA c).getD k default=v
    have c3:(((K1++o1.toList).length+1) * 40≤140737488355328)=True:=eq_true (by rw[List.length_append];omega)
    have c4:(((K2++o2.toList).length+1) * 40≤140737488355328)=True:=eq_true (by rw[List.length_append];omega)
    have hel:=enabledS_len c leaf v
    refine on_l (y:=(K1++(orK o1 (f1 c leaf v)).toList,K2++(orK o2 (f2 c leaf v)).toList,mkL c.Transitions.length (fun t=>B' t || pA c leaf t v),(orK o1 (f1 c leaf v)).isSome,(orK o2 (f2 c leaf v)).isSome)) ?_ (by simp only[w3])
    refine on_l (alive_loop (l:=enabledS c leaf v) (fun x hx=>enab_lt hx) Sum.inl (fun B'' j t hj ht htl=>?_) (fun B''=>?_) B') ?_
    ·have w4:IntKind.wrap .i64 ((j:Int)+1)=((j+1:Nat):Int):=by rw[w64 (by omega) (by omega)];omega
     have c5:((t:Int) < (c.Transitions.length:Int))=True:=eq_true (by omega)
     have c6:((0:Int)≤(t:Int))=True:=eq_true (by omega)
     simp only[inL hj,decide_true,if_true,Int.toNat_natCast,ht,c5,c6,eq_true htl,mkL_sub,w4]
    ·simp only[lt_irr,decide_false,Bool.false_eq_true,if_false]
    unfold f1 f2 pA
    have c3':((K1.length+1) * 40≤140737488355328)=True:=eq_true (by omega)
    have c4':((K2.length+1) * 40≤140737488355328)=True:=eq_true (by omega)
    have g0:(((enabledS c leaf v).length:Int)==0)=true→decide (1 < ((enabledS c leaf v).length:Int))=false:=fun h=>by
     have:((enabledS c leaf v).length:Int)=0:=by simpa using h
     rw[this];rfl
    have g1:decide (1 < ((enabledS c leaf v).length:Int))=true→((0 < ((enabledS c leaf v).length:Int))=True∧(1 < ((enabledS c leaf v).length:Int))=True):=fun h=>by
     have:=of_decide_eq_true h
     exact⟨eq_true (by omega),eq_true this⟩
    cases e0:(((enabledS c leaf v).length:Int)==0) with
    | true =>
     have e1:=g0 e0
     cases o1 with
     | none=>cases o2<;>simp only[e1,c3',orK_some,orK_none,Option.isSome_none,Option.isSome_some,Option.toList_none,Option.toList_some,List.append_nil,Bool.not_false,Bool.not_true,Bool.and_true,Bool.and_false,Bool.false_and,Bool.true_and,Bool.false_eq_true,if_true,if_false]
     | some x=>cases o2<;>simp only[e1,orK_some,orK_none,Option.isSome_none,Option.isSome_some,Option.toList_none,Option.toList_some,List.append_nil,Bool.not_false,Bool.not_true,Bool.and_true,Bool.and_false,Bool.false_and,Bool.true_and,Bool.false_eq_true,if_true,if_false]
    | false =>
     cases e1:decide (1 < ((enabledS c leaf v).length:Int)) with
     | false =>
      cases o1<;>cases o2<;>simp only[orK_some,orK_none,Option.isSome_none,Option.isSome_some,Option.toList_none,Option.toList_some,List.append_nil,Bool.not_false,Bool.not_true,Bool.and_true,Bool.and_false,Bool.false_and,Bool.true_and,Bool.false_eq_true,if_true,if_false]
     | true =>
      obtain⟨z2,z3⟩:=g1 e1
      cases o1<;>cases o2<;>simp only[z0,z1,z2,z3,c4',orK_some,orK_none,Option.isSome_none,Option.isSome_some,Option.toList_none,Option.toList_some,List.append_nil,Bool.not_false,Bool.not_true,Bool.and_true,Bool.and_false,Bool.false_and,Bool.true_and,Bool.false_eq_true,if_true,if_false]<;>rfl
   ·simp only[lt_irr,decide_false,Bool.false_eq_true,if_false,bs,or_]
  ·simp only[lt_irr,decide_false,Bool.false_eq_true,if_false,bs,or_]
 ·have k1:=kindL_len c s 1
  have k2:=kindL_len c s 2
  have c9:(((kindL c s 1).length+(kindL c s 2).length) * 40≤140737488355328)=True:=eq_true (by omega)
  simp only[c9,if_true,bs,ol]
  refine on_l (y:=kindL c s 1++kindL c s 2++(List.range (leavesS c).length).flatMap (unrG c s)) ?_ ?_
  ·refine loop_app (leavesS c).length (fun j l=>(l,(j:Int))) (unrG c s) Sum.inl (kindL c s 1++kindL c s 2) (fun j hj=>?_) ?_
   ·have hgl:=flatMap_len (unrG_len c s) j
    have c1:(((kindL c s 1++kindL c s 2)++(List.range j).flatMap (unrG c s)).length+1) * 40≤140737488355328:=by rw[List.length_append,List.length_append];omega
    have w2:IntKind.wrap .i64 ((j:Int)+1)=((j+1:Nat):Int):=by rw[w64 (by omega) (by omega)];omega
    simp only[inL hj,decide_true,if_true,Int.toNat_natCast,rL_has (getD_mem hj),bs,w2,eq_true c1]
    cases hr:reachB s ((leavesS c).getD j default) with
    | false =>
     have hd:unrG c s j=[⟨3,(leavesS c).getD j default,0,-1,-1⟩]:=by unfold unrG leafA;rw[hr];rfl
     simp only[Bool.not_false,if_true,hd]
    | true =>
     have hd:unrG c s j=[]:=by unfold unrG leafA;rw[hr];rfl
     simp only[Bool.not_true,Bool.false_eq_true,if_false,hd,List.append_nil]
   ·simp only[lt_irr,decide_false,Bool.false_eq_true,if_false]
  ·have hul:=flatMap_len (unrG_len c s) (leavesS c).length
   refine on_l (y:=findS c s) ?_ rfl
   unfold findS
   refine loop_app c.Transitions.length (fun j l=>(l,(j:Int))) (deadG c s) Sum.inl _ (fun t ht=>?_) ?_
   ·have hgl:=flatMap_len (deadG_len c s) t
    have c1:(((kindL c s 1++kindL c s 2++(List.range (leavesS c).length).flatMap (unrG c s))++(List.range t).flatMap (deadG c s)).length+1) * 40≤140737488355328:=by simp only[List.length_append];omega
    have w2:IntKind.wrap .i64 ((t:Int)+1)=((t+1:Nat):Int):=by rw[w64 (by omega) (by omega)];omega
    simp only[inL ht,decide_true,if_true,Int.toNat_natCast,eq_true ht,mkL_at ht,w2]
    cases hl2:liveB c s t with
    | true =>
     have hd:deadG c s t=[]:=by unfold deadG;rw[hl2];rfl
     simp only[Bool.not_true,Bool.false_eq_true,if_true,if_false,hd,List.append_nil]
    | false =>
     have hd:deadG c s t=[⟨4,-1,0,(t:Int),-1⟩]:=by unfold deadG;rw[hl2];rfl
     simp only[Bool.not_false,Bool.false_eq_true,if_true,if_false,eq_true c1,hd]
   ·simp only[lt_irr,decide_false,Bool.false_eq_true,if_false]
theorem M18 (a0:T27):m18 a0=((orJ (Option.bind (Option.bind (m44o1 a0) fun r=>some r) fun x1=>(if(x1 != 0)=true then(some ([],x1))else(Option.bind (none) fun(x4:(Unit))=>none))) (Option.bind (Option.bind (m44o2 a0) fun r=>some r) fun x1=>(if((0:Int) != (0:Int))=true then(some ([],(0:Int)))else(Option.bind (((m47o1 a0 x1.1 x1.2.1 x1.2.2.1 x1.2.2.2).bind fun r4_0=>some (r4_0,x1))) fun(x4:((List T44)×((List T37)×(List Int)×(List Int)×(List Int))))=>(some (x4.1,(0:Int))))))):Option ((List T44)×Int)):=by kernel_rfl
theorem Findings_eq {c:T27} (H:Fit c) (hn:c.Conds.length≤12):m18 c=findM c:=by
 obtain⟨e,he⟩:=checkM_some c
 have q1:=srchE_eq H hn
 have q2:=srchR_eq H hn
 have q3:∀ s:SS,Inv c s→m47o1 c s.1 s.2.1 s.2.2 (valsA c)=some (findS c s):=fun s I=>sfind_eq H hn I
 unfold findM
 simp only[M18,bind_id,q1,q2,he,bs]
 generalize m47o1=F at q3 ⊢
 by_cases h0:(e != 0)=true
 ·simp only[h0,bs,if_true];rfl
 ·have h0:=Bool.eq_false_iff.2 h0
  have e0:e=0:=by simpa using h0
  subst e0
  simp only[h0,Bool.false_eq_true,if_false]
  cases hs:searchS c with
  | none=>rfl
  | some s =>
   have q4:=q3 s (searchS_inv H he hs)
   simp only[bs,bn,q4];rfl
end Go.Av
set_option maxRecDepth 100000
namespace Go.Av
open Ch Go.Proofs
theorem findS_len {c:T27} (H:Fit c) (s:SS):(findS c s).length≤4000:=by
 have hst:=H.states
 have htr:=H.trans
 have hll:=leavesS_len (c:=c)
 have k1:=kindL_len c s 1
 have k2:=kindL_len c s 2
 have hul:=flatMap_len (unrG_len c s) (leavesS c).length
 have hgl:=flatMap_len (deadG_len c s) c.Transitions.length
 unfold findS
 simp only[List.length_append];omega
theorem findM_some (c:T27):∃ r,findM c=some r:=by
 obtain⟨e,he⟩:=checkM_some c
 unfold findM
 rw[he,Option.bind_some]
 split
 ·exact⟨_,rfl⟩
 ·split<;>exact⟨_,rfl⟩
end Go.Av
set_option maxRecDepth 100000
namespace Go.Av
open Ch Go.Proofs
theorem kind_mem {c:T27} {s:SS} {kind:Int} {x:T44}:x∈kindL c s kind↔∃ leaf∈leavesS c,reachB s leaf=true∧leafFd c leaf kind=some x:=by
 unfold kindL
 rw[List.mem_flatMap]
 constructor
 ·rintro⟨i,h1,h2⟩
  unfold kindG at h2
  split at h2
  ·rename_i h3
   refine⟨leafA c i,getD_mem (List.mem_range.1 h1),h3,?_⟩
   simpa using h2
  ·cases h2
 ·rintro⟨leaf,h1,h2,h3⟩
  obtain⟨i,hi,rfl⟩:=List.getElem_of_mem h1
  have e:leafA c i=(leavesS c)[i]:=by simp[leafA,List.getD_eq_getElem?_getD,List.getElem?_eq_getElem hi]
  refine⟨i,List.mem_range.2 hi,?_⟩
  unfold kindG
  rw[e,if_pos h2,h3];simp
theorem leafFd_some {c:T27} {leaf kind:Int} {x:T44} (h:leafFd c leaf kind=some x):∃ v:Nat,v < numV c∧allowedS c (v:Int)=true∧((kind=1∧(enabledS c leaf (v:Int)).length=0∧x=⟨1,leaf,(v:Int),-1,-1⟩)∨(kind=2∧1 < (enabledS c leaf (v:Int)).length∧x=⟨2,leaf,(v:Int),(enabledS c leaf (v:Int)).getD 0 default,(enabledS c leaf (v:Int)).getD 1 default⟩)):=by
 obtain⟨v,hv,h2⟩:=firstR_some h
 unfold finV at h2
 split at h2
 ·rename_i ha
  refine⟨v,hv,ha,?_⟩
  split at h2
  ·rename_i h3
   simp only[Bool.and_eq_true,beq_iff_eq]at h3
   obtain⟨rfl,h3⟩:=h3
   injection h2 with h2
   exact .inl ⟨rfl,by omega,h2.symm⟩
  ·split at h2
   ·rename_i h3
    simp only[Bool.and_eq_true,beq_iff_eq,decide_eq_true_eq]at h3
    obtain⟨rfl,h3⟩:=h3
    injection h2 with h2
    exact .inr ⟨rfl,by omega,h2.symm⟩
   ·cases h2
 ·cases h2
theorem findS_mem {c:T27} {s:SS} {x:T44} (h:x∈findS c s):x∈kindL c s 1∨x∈kindL c s 2∨(∃ leaf∈leavesS c,reachB s leaf=false∧x=⟨3,leaf,0,-1,-1⟩)∨∃ t:Nat,t < c.Transitions.length∧x=⟨4,-1,0,(t:Int),-1⟩:=by
 unfold findS at h
 simp only[List.mem_append]at h
 rcases h with((h | h) | h) | h
 ·exact .inl h
 ·exact .inr (.inl h)
 ·obtain⟨i,h1,h2⟩:=List.mem_flatMap.1 h
  unfold unrG at h2
  split at h2
  ·cases h2
  ·rename_i h3
   exact .inr (.inr (.inl ⟨leafA c i,getD_mem (List.mem_range.1 h1),by simpa using h3,by simpa using h2⟩))
 ·obtain⟨t,h1,h2⟩:=List.mem_flatMap.1 h
  unfold deadG at h2
  split at h2
  ·cases h2
  ·exact .inr (.inr (.inr ⟨t,List.mem_range.1 h1,by simpa using h2⟩))
end Go.Av
set_option maxRecDepth 1000000
namespace Go.Av
open Ch Go.Proofs
theorem Cc.awake_true:m13=some true:=by kernel_rfl
theorem wit_cases {c:T27} {s:SS} (hc:checkM c=some 0) (hs:searchS c=some s) {leaf:Int} (hl:leaf∈leavesS c):∃ w,witM c leaf=some (w,if reachB s leaf=true then 0 else 6):=by
 have h1:hasK (leavesS c) (leavesS c).length leaf=true:=hasK_iff.2 hl
 unfold witM
 rw[hc,Option.bind_some,if_neg (by decide),h1,if_neg (by decide),hs]
 rcases findR_cases (fun i=>(s.1.getD i default).Leaf==leaf) s.1.length with⟨h2,h3⟩ | ⟨k,k1,k2,k3⟩
 ·have h2:leafI s leaf = -1:=h2
  have h3:reachB s leaf=false:=h3
  simp only[h2,h3]
  exact⟨_,rfl⟩
 ·have k2:leafI s leaf=(k:Int):=k2
  have h3:reachB s leaf=true:=anyR_iff.2 ⟨k,k1,k3⟩
  have d:decide ((k:Int) < 0)=false:=by simp
  simp only[k2,h3,d,Bool.false_eq_true,if_false,if_true]
  exact⟨_,rfl⟩
theorem M4 (a0:T27):m4 a0=((Option.bind (Option.bind (Option.bind (m13) fun r=>some r) fun x1=>(if(!x1)=true then(some (.inr (false)))else(Option.bind (Option.bind (m14 a0) fun r=>some r) fun x3=>(Option.bind (Option.bind (m18 x3) fun r=>some r) fun x4=>(if(x4.2 != 0)=true then(some (.inr (((x4.1.length:Int)==(0:Int)))))else(some (.inl (x4.1,x3.Name,x3.Conds,x3.Never,x3.States,x3.Start,x3.Transitions)))))))) (onS fun(y1:(List T44)×(List UInt8)×(List (List UInt8))×(List (List T116))×(List T119)×Int×(List T85))=>(Option.bind (Option.bind (some (.inl ())) (onS fun(_:Unit)=>(loopO (fun(s2:Int)=>((if(decide (s2 < (y1.1.length:Int)))=true then(if(0≤s2)then(if(s2 < (y1.1.length:Int))then(Option.bind (Option.bind (m19 (⟨y1.2.1,y1.2.2.1,y1.2.2.2.1,y1.2.2.2.2.1,y1.2.2.2.2.2.1,y1.2.2.2.2.2.2⟩:T27) (y1.1.getD s2.toNat default).State (y1.1.getD s2.toNat default).Valuation) fun r=>some r) fun x10=>(if((y1.1.getD s2.toNat default).Kind==1)=true then(Option.bind (((if(!((x10.length:Int) != (0:Int)))=true then m20 (⟨y1.2.1,y1.2.2.1,y1.2.2.2.1,y1.2.2.2.2.1,y1.2.2.2.2.2.1,y1.2.2.2.2.2.2⟩:T27) (y1.1.getD s2.toNat default).Valuation else some default).bind fun r14_0=>some r14_0)) fun(x14:(Bool))=>(if(((x10.length:Int) != (0:Int)) || (!x14))=true then(some (.inr (.inr (false))))else(if(((y1.1.getD s2.toNat default).Kind==1) || ((y1.1.getD s2.toNat default).Kind==2))=true then(Option.bind (Option.bind (m21 (⟨y1.2.1,y1.2.2.1,y1.2.2.2.1,y1.2.2.2.2.1,y1.2.2.2.2.2.1,y1.2.2.2.2.2.2⟩:T27) (y1.1.getD s2.toNat default).State) fun r=>some r) fun x27=>(if(x27.2 != 0)=true then(some (.inr (.inr (false))))else(some (.inl (IntKind.wrap .i64 (s2+1))))))else(some (.inl (IntKind.wrap .i64 (s2+1)))))))else(if((y1.1.getD s2.toNat default).Kind==2)=true then(Option.bind (((if(!(decide ((x10.length:Int) < (2:Int))))=true then m20 (⟨y1.2.1,y1.2.2.1,y1.2.2.2.1,y1.2.2.2.2.1,y1.2.2.2.2.2.1,y1.2.2.2.2.2.2⟩:T27) (y1.1.getD s2.toNat default).Valuation else some default).bind fun r17_0=>(if(!((decide ((x10.length:Int) < (2:Int))) || (!r17_0)))=true→(0:Int)≤(0:Int)then(if(!((decide ((x10.length:Int) < (2:Int))) || (!r17_0)))=true→0 < (x10.length:Int)then(if(!(((decide ((x10.length:Int) < (2:Int))) || (!r17_0)) || ((x10.getD (0:Int).toNat default) != (y1.1.getD s2.toNat default).First)))=true→(0:Int)≤(1:Int)then(if(!(((decide ((x10.length:Int) < (2:Int))) || (!r17_0)) || ((x10.getD (0:Int).toNat default) != (y1.1.getD s2.toNat default).First)))=true→1 < (x10.length:Int)then some r17_0 else none)else none)else none)else none))) fun(x17:(Bool))=>(if((((decide ((x10.length:Int) < (2:Int))) || (!x17)) || ((x10.getD (0:Int).toNat default) != (y1.1.getD s2.toNat default).First)) || ((x10.getD (1:Int).toNat default) != (y1.1.getD s2.toNat default).Second))=true then(some (.inr (.inr (false))))else(if(((y1.1.getD s2.toNat default).Kind==1) || ((y1.1.getD s2.toNat default).Kind==2))=true then(Option.bind (Option.bind (m21 (⟨y1.2.1,y1.2.2.1,y1.2.2.2.1,y1.2.2.2.2.1,y1.2.2.2.2.2.1,y1.2.2.2.2.2.2⟩:T27) (y1.1.getD s2.toNat default).State) fun r=>some r) fun x27=>(if(x27.2 != 0)=true then(some (.inr (.inr (false))))else(some (.inl (IntKind.wrap .i64 (s2+1))))))else(some (.inl (IntKind.wrap .i64 (s2+1)))))))else(if((y1.1.getD s2.toNat default).Kind==3)=true then(Option.bind (Option.bind (m21 (⟨y1.2.1,y1.2.2.1,y1.2.2.2.1,y1.2.2.2.2.1,y1.2.2.2.2.2.1,y1.2.2.2.2.2.2⟩:T27) (y1.1.getD s2.toNat default).State) fun r=>some r) fun x20=>(if(x20.2 != 6)=true then(some (.inr (.inr (false))))else(if(((y1.1.getD s2.toNat default).Kind==1) || ((y1.1.getD s2.toNat default).Kind==2))=true then(Option.bind (Option.bind (m21 (⟨y1.2.1,y1.2.2.1,y1.2.2.2.1,y1.2.2.2.2.1,y1.2.2.2.2.2.1,y1.2.2.2.2.2.2⟩:T27) (y1.1.getD s2.toNat default).State) fun r=>some r) fun x27=>(if(x27.2 != 0)=true then(some (.inr (.inr (false))))else(some (.inl (IntKind.wrap .i64 (s2+1))))))else(some (.inl (IntKind.wrap .i64 (s2+1)))))))else(if((y1.1.getD s2.toNat default).Kind==4)=true then(if((decide ((y1.1.getD s2.toNat default).First < 0)) || (decide ((y1.2.2.2.2.2.2.length:Int)≤(y1.1.getD s2.toNat default).First)))=true then(some (.inr (.inr (false))))else(if(((y1.1.getD s2.toNat default).Kind==1) || ((y1.1.getD s2.toNat default).Kind==2))=true then(Option.bind (Option.bind (m21 (⟨y1.2.1,y1.2.2.1,y1.2.2.2.1,y1.2.2.2.2.1,y1.2.2.2.2.2.1,y1.2.2.2.2.2.2⟩:T27) (y1.1.getD s2.toNat default).State) fun r=>some r) fun x27=>(if(x27.2 != 0)=true then(some (.inr (.inr (false))))else(some (.inl (IntKind.wrap .i64 (s2+1))))))else(some (.inl (IntKind.wrap .i64 (s2+1))))))else(some (.inr (.inr (false)))))))))else none)else none)else(some (.inr (.inl ())))):Option ((Int)⊕((Unit)⊕(Bool))))) (0:Int)))) (onS fun(_:Unit)=>(some true))))):Option (Bool)):=by kernel_rfl
theorem plain4 {c:T27} (_:ok27 c):m4 c=some true:=by
 have T:=few8_tiny c
 have H:=T.fit
 have hn3:=T.conds
 have hn:(few8 c).Conds.length≤12:=by omega
 have q0:=Cc.awake_true
 have q1:=few_eq8 c
 have q2:=Findings_eq H hn
 have q3:=Witness_eq H hn
 have q6:=fun leaf v=>Enabled_eq (few8 c) H leaf v
 have q7:=fun v=>Allowed_eq (few8 c) H v
 obtain⟨r,hr⟩:=findM_some (few8 c)
 rw[hr]at q2
 simp only[M4,bind_id,q0,q1,q2,q6,q7,bs,Bool.not_true,Bool.false_eq_true,if_false,eta]
 obtain⟨e,he⟩:=checkM_some (few8 c)
 unfold findM at hr
 rw[he,Option.bind_some]at hr
 by_cases h0:(e != 0)=true
 ·rw[if_pos h0]at hr
  injection hr with hr
  subst hr
  simp only[h0,if_true,bs,or_];rfl
 have h0:=Bool.eq_false_iff.2 h0
 have e0:e=0:=by simpa using h0
 subst e0
 rw[h0,if_neg (by decide)]at hr
 cases hs:searchS (few8 c) with
 | none =>
  rw[hs]at hr
  injection hr with hr
  subst hr
  rfl
 | some s =>
  rw[hs]at hr
  injection hr with hr
  subst hr
  have I:=searchS_inv H he hs
  have fl:=findS_len H s
  simp only[h0,Bool.false_eq_true,if_false,bs,ol]
  refine loop_pass (findS (few8 c) s).length (fun i hi=>?_) (by simp only[lt_irr,decide_false,Bool.false_eq_true,if_false,bs,or_]) rfl
  have hm:=findS_mem (getD_mem hi)
  simp only[inL hi,decide_true,Int.toNat_natCast,if_true,bs,ol,wr1 hi (by omega),eta,q6,q7]
  obtain⟨x,hx⟩:∃ x,x=(findS (few8 c) s).getD i default:=⟨_,rfl⟩
  simp only[← hx]at hm ⊢
  clear hx
  rcases hm with hm | hm | ⟨leaf,hl,hrb,rfl⟩ | ⟨t,ht,rfl⟩
  ·obtain⟨leaf,hl,hrb,hf⟩:=kind_mem.1 hm
   obtain⟨v,hv,ha,⟨_,h1,rfl⟩ | ⟨h1,_⟩⟩:=leafFd_some hf
   ·obtain⟨w,hw⟩:=wit_cases he hs hl
    rw[hrb,if_pos rfl]at hw
    have hw2:=q3 leaf
    rw[hw]at hw2
    have d1:((((enabledS (few8 c) leaf (v:Int)).length:Int)) != 0)=false:=by rw[h1];rfl
    simp only[beq_self_eq_true,if_true,d1,ha,hw2,bs,Bool.not_true,Bool.not_false,Bool.false_or,Bool.true_or,Bool.false_eq_true,if_false,bne_self]
   ·cases h1
  ·obtain⟨leaf,hl,hrb,hf⟩:=kind_mem.1 hm
   obtain⟨v,hv,ha,⟨h1,_⟩ | ⟨_,h1,rfl⟩⟩:=leafFd_some hf
   ·cases h1
   ·obtain⟨w,hw⟩:=wit_cases he hs hl
    rw[hrb,if_pos rfl]at hw
    have hw2:=q3 leaf
    rw[hw]at hw2
    have d1:decide ((((enabledS (few8 c) leaf (v:Int)).length:Int)) < 2)=false:=by simp;omega
    have d2:((0:Int) < ((enabledS (few8 c) leaf (v:Int)).length:Int))=True:=eq_true (by omega)
    have d3:((1:Int) < ((enabledS (few8 c) leaf (v:Int)).length:Int))=True:=eq_true (by omega)
    simp only[show ((2:Int)==1)=false from rfl,beq_self_eq_true,if_true,d1,d2,d3,ha,hw2,bs,Bool.not_true,Bool.not_false,Bool.false_or,Bool.or_true,Bool.true_or,Bool.false_eq_true,if_false,bne_self,Int.toNat_zero,show ((1:Int)).toNat=1 from rfl,show ((0:Int)≤0)=True from eq_true (by omega),show ((0:Int)≤1)=True from eq_true (by omega),imp_true_iff,true_implies]
  ·obtain⟨w,hw⟩:=wit_cases he hs hl
   rw[hrb,if_neg (by decide)]at hw
   have hw2:=q3 leaf
   rw[hw]at hw2
   simp only[show ((3:Int)==1)=false from rfl,show ((3:Int)==2)=false from rfl,beq_self_eq_true,if_true,hw2,bs,Bool.not_true,Bool.not_false,Bool.or_self,Bool.false_eq_true,if_false,bne_self]
  ·have d1:decide ((t:Int) < 0)=false:=by simp
   have d2:decide (((few8 c).Transitions.length:Int)≤(t:Int))=false:=by simp;omega
   simp only[show ((4:Int)==1)=false from rfl,show ((4:Int)==2)=false from rfl,show ((4:Int)==3)=false from rfl,beq_self_eq_true,if_true,d1,d2,bs,Bool.or_self,Bool.false_eq_true,if_false]
end Go.Av
