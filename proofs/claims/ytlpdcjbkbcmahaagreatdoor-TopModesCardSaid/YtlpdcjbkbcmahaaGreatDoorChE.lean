/- Plain laws of chart: valid charts and configurations; entering and leaving states. -/
import Derived.Test.YtlpdcjbkbcmahaaGreatDoorChC
set_option linter.unusedSimpArgs false
set_option linter.unusedVariables false
set_option maxRecDepth 100000
namespace Go.Av.Ch
abbrev stA (c : T48) (x : Int) : T57 := c.States.getD x.toNat default
/-- What is known of a chart without errors. -/
structure Good (c : T48) : Prop where
  ne : 0 < c.States.length
  cap : c.States.length ≤ 40
  parent : ∀ x, isS c x = true → -1 ≤ (stA c x).Parent ∧ (stA c x).Parent < x
  init : ∀ x, isS c x = true → comp c x = true → childS c (stA c x).Initial x = true
  leafI : ∀ x, isS c x = true → comp c x = false → (stA c x).Initial = -1 ∧ (stA c x).History = false
  start : isS c c.Start = true
  tr : ∀ i, i < c.Transitions.length → isS c (c.Transitions.getD i default).From = true ∧ isS c (c.Transitions.getD i default).To = true
  entry : ∀ x, isS c x = true → (stA c x).Entry.length ≤ 8
  exit_ : ∀ x, isS c x = true → (stA c x).Exit.length ≤ 8
  acts : ∀ i, i < c.Transitions.length → (c.Transitions.getD i default).Actions.length ≤ 8
theorem orK_ok {R : Type} {a b : Option R} {z : R} (h : orK a b = some z) (hn : a ≠ some z) : a = none ∧ b = some z := by
  cases a with
  | none => exact ⟨rfl, h⟩
  | some y => exact absurd h hn
theorem none_of {F : Nat → Option Int} {n : Nat} (h : firstR F n ≠ some 0 → False) : False ∨ firstR F n = some 0 := by
  by_cases h1 : firstR F n = some 0
  · exact .inr h1
  · exact .inl (h h1)
theorem ite_err {p : Prop} [Decidable p] {e z : Int} {k : Option Int} (h : (if p then some e else k) = some z) (he : e ≠ z) : ¬ p ∧ k = some z := by
  split at h
  · injection h with h; exact absurd h he
  · rename_i hp; exact ⟨hp, h⟩
theorem good_of {c : T48} (h : checkM c = some 0) : Good c := by
  unfold checkM at h
  obtain ⟨-, h⟩ := ite_err h (by decide)
  obtain ⟨h1, h⟩ := ite_err h (by decide)
  obtain ⟨hcap, h⟩ := ite_err h (by decide)
  have n1 : firstR (condF c) c.Conds.length ≠ some 0 := fun e => by
    obtain ⟨i, _, e⟩ := firstR_some e
    unfold condF at e
    split at e
    · rename_i hh; injection e with e; rw [e] at hh; simp at hh
    · cases e
  obtain ⟨-, h⟩ := orK_ok h n1
  have n2 : firstR (nevF c) c.Never.length ≠ some 0 := fun e => by
    obtain ⟨i, _, e⟩ := firstR_some e
    unfold nevF at e
    split at e
    · cases e
    · split at e
      · rename_i hh; injection e with e; rw [e] at hh; simp at hh
      · cases e
  obtain ⟨-, h⟩ := orK_ok h n2
  have n3 : firstR (stF c) c.States.length ≠ some 0 := fun e => by
    obtain ⟨i, _, e⟩ := firstR_some e
    unfold stF at e
    split at e
    · rename_i hh; injection e with e; rw [e] at hh; simp at hh
    · cases e
  obtain ⟨hst, h⟩ := orK_ok h n3
  obtain ⟨hs, h⟩ := ite_err h (by decide)
  have n4 : firstR (trF c) c.Transitions.length ≠ some 0 := fun e => by
    obtain ⟨i, _, e⟩ := firstR_some e
    unfold trF at e
    split at e
    · cases e
    · split at e
      · rename_i hh; injection e with e; rw [e] at hh; simp at hh
      · split at e
        · rename_i hh; injection e with e; rw [e] at hh; simp at hh
        · cases e
  obtain ⟨htr, -⟩ := orK_ok h n4
  have st : ∀ i, i < c.States.length → stateT c i = 0 := fun i hi => by
    have := firstR_none.1 hst i hi
    unfold stF at this
    split at this
    · cases this
    · rename_i hh
      have hh : stateS c i = 0 := by simpa using hh
      unfold stateS at hh
      split at hh
      · rename_i h2; rw [hh] at h2; simp at h2
      · exact hh
  have key : ∀ x, isS c x = true → x = (x.toNat : Int) ∧ x.toNat < c.States.length := fun x hx => by have := isS_iff.1 hx; omega
  have rows : ∀ x, isS c x = true → (-1 ≤ (stA c x).Parent ∧ (stA c x).Parent < x) ∧ (comp c x = true → childS c (stA c x).Initial x = true) ∧ (comp c x = false → (stA c x).Initial = -1 ∧ (stA c x).History = false) ∧ (stA c x).Entry.length ≤ 8 ∧ (stA c x).Exit.length ≤ 8 := fun x hx => by
    obtain ⟨e, hlt⟩ := key x hx
    have h := st _ hlt
    unfold stateT at h
    rw [← e] at h
    split at h
    · cases h
    rename_i a1
    split at h
    · cases h
    rename_i a2
    split at h
    · cases h
    rename_i a3
    split at h
    · rename_i a4; rw [h] at a4; simp at a4
    rename_i a4
    simp only [Bool.or_eq_true, decide_eq_true_eq, not_or, Int.not_lt, Int.not_le] at a1
    refine ⟨⟨a1.1, a1.2⟩, fun hc => ?_, fun hc => ?_, actS_len (by simpa using a4), actS_len h⟩
    · rw [hc] at a2
      simpa using a2
    · rw [hc] at a2 a3
      exact ⟨by simpa using a2, by simpa using a3⟩
  have trs : ∀ i, i < c.Transitions.length → (isS c (c.Transitions.getD i default).From = true ∧ isS c (c.Transitions.getD i default).To = true) ∧ (c.Transitions.getD i default).Actions.length ≤ 8 := fun i hi => by
    have := firstR_none.1 htr i hi
    unfold trF at this
    split at this
    · cases this
    rename_i a1
    split at this
    · cases this
    split at this
    · cases this
    rename_i a3
    exact ⟨by simpa using a1, actS_len (by simpa using a3)⟩
  refine ⟨?_, by simp only [Bool.or_eq_true, decide_eq_true_eq, not_or, Int.not_lt] at hcap; omega, fun x hx => (rows x hx).1, fun x hx => (rows x hx).2.1, fun x hx => (rows x hx).2.2.1, by simpa using hs, fun i hi => (trs i hi).1, fun x hx => (rows x hx).2.2.2.1, fun x hx => (rows x hx).2.2.2.2, fun i hi => (trs i hi).2⟩
  have : ¬ ((c.States.length : Int) = 0) := by simpa using h1
  omega
/-! ### Configurations -/
def memBad (c : T48) (i m : Int) : Bool := (m != (-1 : Int)) && (!isS c m || !(stA c i).History || ((stA c m).Parent != i))
def validS (c : T48) (g : T71) : Bool := !(!isS c g.Leaf || comp c g.Leaf || ((g.Memory.length : Int) != (c.States.length : Int))) && !anyR (fun i => memBad c i (g.Memory.getD i default)) g.Memory.length
structure MemOk (c : T48) (m : List Int) : Prop where
  len : m.length = c.States.length
  ok : ∀ i : Nat, i < m.length → memBad c i (m.getD i default) = false
theorem validS_iff {c : T48} {g : T71} : validS c g = true ↔ isS c g.Leaf = true ∧ comp c g.Leaf = false ∧ MemOk c g.Memory := by
  unfold validS
  simp only [Bool.and_eq_true, Bool.not_eq_true', Bool.or_eq_false_iff, Bool.not_eq_false', bne_eq_false_iff_eq, anyR_false]
  constructor
  · rintro ⟨⟨⟨h1, h2⟩, h3⟩, h4⟩; exact ⟨h1, h2, ⟨by omega, h4⟩⟩
  · rintro ⟨h1, h2, h3⟩; exact ⟨⟨⟨h1, h2⟩, by have := h3.len; omega⟩, h3.ok⟩
theorem MemOk.none {c : T48} {m : List Int} (h : MemOk c m) {x : Int} (hx : isS c x = true) (hh : (stA c x).History = false) : m.getD x.toNat default = -1 := by
  have hi := isS_iff.1 hx
  have := h.ok x.toNat (by rw [h.len]; omega)
  unfold memBad at this
  rw [Int.toNat_of_nonneg hi.1, hh] at this
  simpa using this
theorem MemOk.child {c : T48} {m : List Int} (h : MemOk c m) {x : Int} (hx : isS c x = true) (hm : m.getD x.toNat default ≠ -1) : childS c (m.getD x.toNat default) x = true := by
  have hi := isS_iff.1 hx
  have := h.ok x.toNat (by rw [h.len]; omega)
  unfold memBad at this
  rw [Int.toNat_of_nonneg hi.1] at this
  simp only [Bool.and_eq_false_iff, bne_eq_false_iff_eq, Bool.or_eq_false_iff, Bool.not_eq_false'] at this
  rcases this with h1 | ⟨⟨h1, h2⟩, h3⟩
  · exact absurd h1 hm
  · unfold childS; rw [h1, h3]; simp
theorem MemOk.set {c : T48} {m : List Int} (h : MemOk c m) {x v : Int} (hv : v = -1 ∨ ((stA c x).History = true ∧ childS c v x = true)) (hx : isS c x = true) : MemOk c (m.set x.toNat v) := by
  have hi := isS_iff.1 hx
  refine ⟨by rw [List.length_set]; exact h.len, fun i hl => ?_⟩
  rw [List.length_set] at hl
  by_cases he : x.toNat = i
  · subst he
    rw [List.getD_eq_getElem?_getD, List.getElem?_set_self hl, Option.getD_some, Int.toNat_of_nonneg hi.1]
    unfold memBad
    rcases hv with rfl | ⟨h1, h2⟩
    · rfl
    · unfold childS at h2
      simp only [Bool.and_eq_true, beq_iff_eq] at h2
      rw [h1, h2.1, h2.2]; simp
  · rw [List.getD_eq_getElem?_getD, List.getElem?_set_ne he, ← List.getD_eq_getElem?_getD]
    exact h.ok i hl
theorem set_same {m : List Int} {i : Nat} {v : Int} (hi : i < m.length) (h : m.getD i default = v) : m.set i v = m := by
  apply List.ext_getElem?
  intro j
  rw [List.getElem?_set]
  split
  · rename_i e; subst e
    rw [← h, List.getD_eq_getElem?_getD, List.getElem?_eq_getElem hi, Option.getD_some]
  · rfl
theorem Valid_eq (c : T48) (H : Fit c) (g : T71) : m53 c g = some (validS c g) := by
  have hs := H.states
  delta m53 d53
  simp only [↓JD.sg_m, ↓JD.sq_m, ↓JD.sc_m, ↓JD.bk_m, ↓JD.lp_m, ↓JD.cd_m, ↓JD.lu_m, ↓JD.ct_m, ↓JD.ce_m, ↓JL.r_m, ↓JL.z_m, ↓JD.se_m, onE_r, ↓Tr.run, ↓Tr.run_nd, ↓Tr.run_c3, ↓Tr.run_c2, ↓Tr.run_nx, ↓onS, bind_ite, Option.bind_some, Option.bind_none, obR, is_eq, composite_eq c _ (Nat.le_trans hs (by omega))]
  unfold validS
  have e0 : (if (!!isS c g.Leaf) = true then some (isS c g.Leaf, comp c g.Leaf) else some (isS c g.Leaf, default)) = some (isS c g.Leaf, if isS c g.Leaf = true then comp c g.Leaf else default) := by
    cases isS c g.Leaf <;> rfl
  cases h1 : (!isS c g.Leaf || comp c g.Leaf || ((g.Memory.length : Int) != (c.States.length : Int))) with
  | true =>
    cases h2 : isS c g.Leaf with
    | false => simp
    | true =>
      rw [h2] at h1
      simp only [Bool.not_true, Bool.false_or] at h1
      simp only [Bool.not_true, Bool.not_false, Bool.false_or, if_true, h1, onS_r, Bool.false_and]
  | false =>
    simp only [Bool.or_eq_false_iff, Bool.not_eq_false', bne_eq_false_iff_eq] at h1
    obtain ⟨⟨h2, h3⟩, h4⟩ := h1
    have h5 : g.Memory.length = c.States.length := by omega
    simp only [h2, h3, h5, bne_self_eq_false, Bool.not_true, Bool.not_false, Bool.or_false, Bool.false_eq_true, if_false, if_true, onS_l, Bool.true_and]
    rw [loop_ex c.States.length (fun i => if memBad c i (g.Memory.getD i default) = true then some false else none) ?_ ?_, firstR_const]
    · cases anyR (fun i => memBad c i (g.Memory.getD i default)) c.States.length <;> rfl
    · intro i hi
      simp only [exB_ite, exB_some, exB_none]
      simp only [inL hi, decide_true, Int.toNat_natCast, if_true, implies_true, wr1 hi (by omega)]
      unfold memBad stA
      simp only [Int.toNat_natCast]
      by_cases hm : g.Memory.getD i default = -1
      · simp only [hm, bne_self_eq_false, Bool.false_and, Bool.false_eq_true, false_implies, if_false, if_true]
      · have hm' : (g.Memory.getD i default != (-1 : Int)) = true := by simpa using hm
        have a3 := eq_true (show (true && !(!isS c (g.Memory.getD i default) || !(c.States.getD i default).History)) = true → (0 : Int) ≤ g.Memory.getD i default from fun h => by
          simp only [Bool.true_and, Bool.not_eq_true', Bool.or_eq_false_iff, Bool.not_eq_false'] at h; exact (isS_iff.1 h.1).1)
        have a4 := eq_true (show (true && !(!isS c (g.Memory.getD i default) || !(c.States.getD i default).History)) = true → g.Memory.getD i default < (c.States.length : Int) from fun h => by
          simp only [Bool.true_and, Bool.not_eq_true', Bool.or_eq_false_iff, Bool.not_eq_false'] at h; exact (isS_iff.1 h.1).2)
        simp only [hm', a3, a4, if_true, Option.bind_some]
    · (simp only [lt_irr, decide_false, Bool.false_eq_true, if_false]; try rfl)
end Go.Av.Ch
