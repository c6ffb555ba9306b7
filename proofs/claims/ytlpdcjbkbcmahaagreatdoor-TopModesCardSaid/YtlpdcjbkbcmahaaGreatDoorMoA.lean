/- Steps of the three charts of modes. -/
import Derived.Test.YtlpdcjbkbcmahaaGreatDoorMoF
import Derived.Test.YtlpdcjbkbcmahaaGreatDoorChI
set_option linter.unusedVariables false
set_option linter.unusedSimpArgs false
set_option maxRecDepth 1000000
namespace Go.Av.Mo
open Go.Av.Ch
/-! ### What a step does, by what is known of the valuation -/
def knows (l : List T176) (k : List (Nat × Bool)) : Bool := l.all fun x => k.all fun q => !(x.Cond.toNat == q.1 && x.Neg == q.2)
theorem lit_of {l : List T176} {v : Int} (h : holdsS l v = true) {x : T176} (hx : x ∈ l) : litN v x = false := by
  unfold holdsS at h
  rw [Bool.not_eq_true', anyR_false] at h
  obtain ⟨i, hi, rfl⟩ := List.getElem_of_mem hx
  have := h i hi
  rwa [List.getD_eq_getElem?_getD, List.getElem?_eq_getElem hi, Option.getD_some] at this
theorem knows_of {l : List T176} {v : Int} {k : List (Nat × Bool)} (h : holdsS l v = true) (hk : ∀ q ∈ k, bitV v q.1 = q.2) : knows l k = true := by
  unfold knows
  simp only [List.all_eq_true]
  intro x hx q hq
  have h1 := lit_of h hx
  simp only [litN, Bool.or_eq_false_iff, decide_eq_false_iff_not] at h1
  have h2 := hk q hq
  rw [Bool.not_eq_true', Bool.and_eq_false_iff]
  by_cases e : x.Cond.toNat = q.1
  · right
    rw [← e] at h2
    have h3 := h1.2
    rw [h2] at h3
    cases hn : x.Neg <;> cases hb : q.2 <;> simp_all
  · left; simpa using e
theorem step_by {c : T48} {g : T71} {v : Int} {r : T71 × List (List UInt8) × Int} (h : stepM c g v = some r) (h0 : r.2.2 = 0) :
    ∃ i, i < c.Transitions.length ∧ hasK (pathS c g.Leaf) (pathS c g.Leaf).length (c.Transitions.getD i default).From = true ∧ holdsS (c.Transitions.getD i default).When v = true ∧ r = fireR c g i := by
  obtain ⟨e, he⟩ := checkM_some c
  unfold stepM at h
  rw [he, Option.bind_some] at h
  split at h
  · rename_i h1; injection h with h; subst h; exact absurd h0 (by simpa using h1)
  split at h
  · injection h with h; subst h; exact absurd h0 (by decide)
  split at h
  · injection h with h; subst h; exact absurd h0 (by decide)
  split at h
  · injection h with h; subst h; exact absurd h0 (by decide)
  split at h
  · rename_i h1
    have hl : (enabledS c g.Leaf v).length = 1 := by have := eq_of_beq h1; omega
    injection h with h; subst h
    have hm : (enabledS c g.Leaf v).getD 0 default ∈ enabledS c g.Leaf v := getD_mem (by omega)
    generalize (enabledS c g.Leaf v).getD 0 default = x at *
    unfold enabledS at hm
    obtain ⟨i, hi, hx⟩ := List.mem_flatMap.1 hm
    unfold enabG at hx
    split at hx
    · rename_i h2
      simp only [Bool.and_eq_true] at h2
      simp only [List.mem_singleton] at hx
      subst hx
      exact ⟨i, List.mem_range.1 hi, h2.1, h2.2, rfl⟩
    · cases hx
  · injection h with h; subst h; exact absurd h0 (by decide)
def rep (c : T48) : List Int := List.replicate c.States.length (-1)
/-- All steps from these leaves, as far as something is known of the valuation. -/
def allBy (c : T48) (ls : List Int) (k : List (Nat × Bool)) (Q : Int → T71 × List (List UInt8) × Int → Bool) : Bool :=
  ls.all fun leaf => (List.range c.Transitions.length).all fun i => !(hasK (pathS c leaf) (pathS c leaf).length (c.Transitions.getD i default).From) || !(knows (c.Transitions.getD i default).When k) || Q leaf (fireR c ⟨leaf, rep c⟩ i)
theorem by_all {c : T48} {ls : List Int} {k : List (Nat × Bool)} {Q : Int → T71 × List (List UInt8) × Int → Bool} (H : allBy c ls k Q = true) {leaf v : Int} (hl : leaf ∈ ls) {r : T71 × List (List UInt8) × Int}
    (h : stepM c ⟨leaf, rep c⟩ v = some r) (h0 : r.2.2 = 0) (hk : ∀ q ∈ k, bitV v q.1 = q.2) : Q leaf r = true := by
  obtain ⟨i, hi, h1, h2, rfl⟩ := step_by h h0
  simp only [allBy, List.all_eq_true] at H
  have := H leaf hl i (List.mem_range.2 hi)
  rw [h1, knows_of h2 hk] at this
  simpa using this
/-! ### Literals as masks -/
def maskL : List T176 → Nat × Nat
  | [] => (0, 0)
  | x :: l => (2 ^ x.Cond.toNat + (maskL l).1, (if x.Neg = true then 0 else 2 ^ x.Cond.toNat) + (maskL l).2)
def ascB : Nat → List T176 → Bool
  | _, [] => true
  | n, x :: l => decide (0 ≤ x.Cond) && decide (x.Cond ≤ 15) && decide (n ≤ x.Cond.toNat) && ascB (x.Cond.toNat + 1) l
theorem mask_mul : ∀ {l : List T176} {n : Nat}, ascB n l = true → ∃ a b, (maskL l).1 = 2 ^ n * a ∧ (maskL l).2 = 2 ^ n * b
  | [], n, _ => ⟨0, 0, by simp [maskL], by simp [maskL]⟩
  | x :: l, n, h => by
    simp only [ascB, Bool.and_eq_true, decide_eq_true_eq] at h
    obtain ⟨⟨⟨h1, h2⟩, h3⟩, h4⟩ := h
    obtain ⟨a, b, ha, hb⟩ := mask_mul h4
    obtain ⟨d, hd⟩ := Nat.le.dest h3
    refine ⟨2 ^ d * (1 + 2 * a), (if x.Neg = true then 0 else 2 ^ d) + 2 ^ d * (2 * b), ?_, ?_⟩
    · simp only [maskL, ha, ← hd]
      rw [Nat.pow_add, Nat.pow_add, Nat.pow_add, Nat.mul_add, Nat.mul_add, Nat.pow_one]
      simp only [Nat.mul_one, Nat.one_mul, Nat.mul_assoc, Nat.mul_comm, Nat.mul_left_comm]
    · simp only [maskL, hb, ← hd]
      rw [Nat.pow_add, Nat.pow_add, Nat.pow_add, Nat.mul_add, Nat.pow_one]
      cases x.Neg <;> simp [Nat.mul_assoc, Nat.mul_comm, Nat.mul_left_comm]
theorem holds_cons {x : T176} {l : List T176} {v : Int} : holdsS (x :: l) v = (!litN v x && holdsS l v) := by
  unfold holdsS
  rw [Bool.eq_iff_iff]
  simp only [Bool.and_eq_true, Bool.not_eq_true', anyR_false]
  constructor
  · intro h
    exact ⟨by simpa using h 0 (by simp), fun i hi => by simpa using h (i + 1) (by simpa using hi)⟩
  · rintro ⟨h1, h2⟩ i hi
    cases i with
    | zero => simpa using h1
    | succ i => simpa using h2 i (by simpa using hi)
theorem nbeq (a b : Nat) : Nat.beq a b = (a == b) := by rw [Bool.eq_iff_iff, beq_iff_eq]; exact ⟨Nat.eq_of_beq_eq_true, fun h => h ▸ Nat.beq_refl _⟩
theorem land_step {v k a b : Nat} {neg : Bool} : ((v &&& (2 ^ k + 2 ^ (k + 1) * a)) == ((if neg = true then 0 else 2 ^ k) + 2 ^ (k + 1) * b)) = ((v.testBit k != neg) && ((v &&& (2 ^ (k + 1) * a)) == 2 ^ (k + 1) * b)) := by
  have t1 : ∀ (z : Nat) (j : Nat), (2 ^ k + 2 ^ (k + 1) * z).testBit j = ((j == k) || (2 ^ (k + 1) * z).testBit j) := fun z j => by
    rw [Nat.add_comm, Nat.testBit_two_pow_mul_add _ (Nat.pow_lt_pow_right (by omega) (by omega)), Nat.testBit_two_pow_mul]
    by_cases h : j < k + 1
    · rw [if_pos h, decide_eq_false (by omega), Bool.false_and, Bool.or_false, Nat.testBit_two_pow, Bool.eq_iff_iff, decide_eq_true_eq, beq_iff_eq]
      omega
    · have h2 : (j == k) = false := by rw [beq_eq_false_iff_ne]; omega
      rw [if_neg h, decide_eq_true (by omega), Bool.true_and, h2, Bool.false_or]
  have t2 : ∀ (z : Nat), (2 ^ (k + 1) * z).testBit k = false := fun z => by
    rw [Nat.testBit_two_pow_mul, decide_eq_false (by omega), Bool.false_and]
  rw [Bool.eq_iff_iff]
  simp only [beq_iff_eq, Bool.and_eq_true, bne_iff_ne, ne_eq]
  constructor
  · intro h
    have hj : ∀ j, (v &&& (2 ^ k + 2 ^ (k + 1) * a)).testBit j = ((if neg = true then 0 else 2 ^ k) + 2 ^ (k + 1) * b).testBit j := fun j => by rw [h]
    refine ⟨?_, ?_⟩
    · have := hj k
      rw [Nat.testBit_and, t1, t2] at this
      cases neg with
      | true => simp only [if_true, Nat.zero_add, t2] at this; simpa using this
      | false => simp only [Bool.false_eq_true, if_false, t1, t2] at this; simpa using this
    · apply Nat.eq_of_testBit_eq
      intro j
      have := hj j
      rw [Nat.testBit_and, t1] at this
      rw [Nat.testBit_and]
      by_cases e : j = k
      · subst e; rw [t2, t2, Bool.and_false]
      · have e2 : (j == k) = false := by simpa using e
        rw [e2, Bool.false_or] at this
        rw [this]
        cases neg with
        | true => simp
        | false => simp only [Bool.false_eq_true, if_false, t1, e2, Bool.false_or]
  · rintro ⟨h1, h2⟩
    apply Nat.eq_of_testBit_eq
    intro j
    have hj : (v &&& (2 ^ (k + 1) * a)).testBit j = (2 ^ (k + 1) * b).testBit j := by rw [h2]
    rw [Nat.testBit_and] at hj
    rw [Nat.testBit_and, t1]
    by_cases e : j = k
    · subst e
      rw [beq_self_eq_true, Bool.true_or, Bool.and_true]
      cases neg with
      | true => simp only [if_true, Nat.zero_add, t2]; simpa using h1
      | false => simp only [Bool.false_eq_true, if_false, t1, beq_self_eq_true, Bool.true_or]; simpa using h1
    · have e2 : (j == k) = false := by simpa using e
      rw [e2, Bool.false_or, hj]
      cases neg with
      | true => simp
      | false => simp only [Bool.false_eq_true, if_false, t1, e2, Bool.false_or]
theorem holds_mask : ∀ {l : List T176} {n : Nat}, ascB n l = true → ∀ {v : Nat}, holdsS l (v : Int) = ((v &&& (maskL l).1) == (maskL l).2)
  | [], _, _, v => by simp [maskL, holdsS, anyR]
  | x :: l, n, h, v => by
    simp only [ascB, Bool.and_eq_true, decide_eq_true_eq] at h
    obtain ⟨⟨⟨h1, h2⟩, h3⟩, h4⟩ := h
    obtain ⟨a, b, ha, hb⟩ := mask_mul h4
    have ih := holds_mask h4 (v := v)
    rw [ha, hb] at ih
    simp only [maskL, ha, hb]
    rw [holds_cons, land_step, ih]
    congr 1
    unfold litN
    rw [bitV_eq (by omega) (by omega), Int.toNat_natCast]
    have d1 : decide (x.Cond < 0) = false := by simp; omega
    have d2 : decide (15 < x.Cond) = false := by simp; omega
    rw [d1, d2]
    cases v.testBit x.Cond.toNat <;> cases x.Neg <;> rfl
/-! ### All valuations -/
/-- How many of these hold. -/
def cnt (v : Nat) : List (Nat × Nat) → Nat
  | [] => 0
  | q :: l => cond (Nat.beq (Nat.land v q.1) q.2) (Nat.succ (cnt v l)) (cnt v l)
def anyM (v : Nat) : List (Nat × Nat) → Bool
  | [] => false
  | q :: l => cond (Nat.beq (Nat.land v q.1) q.2) true (anyM v l)
/-- The transitions of a leaf as masks. -/
def tab (c : T48) (leaf : Int) : List (Nat × Nat) := (List.range c.Transitions.length).flatMap fun i => if hasK (pathS c leaf) (pathS c leaf).length (c.Transitions.getD i default).From = true then [maskL (c.Transitions.getD i default).When] else []
def oneB (tabs : List (List (Nat × Nat))) (nev : List (Nat × Nat)) : Nat → Bool
  | 0 => true
  | n + 1 => cond (cond (anyM n nev) true (tabs.all fun t => Nat.beq (cnt n t) 1)) (oneB tabs nev n) false
def ascC (c : T48) : Bool := c.Transitions.all (fun t => ascB 0 t.When) && c.Never.all (fun l => ascB 0 l)
theorem cnt_tab {c : T48} (h : ascC c = true) {leaf : Int} {v : Nat} : (enabledS c leaf (v : Int)).length = cnt v (tab c leaf) := by
  simp only [ascC, Bool.and_eq_true, List.all_eq_true] at h
  unfold enabledS tab
  have key : ∀ l : List Nat, (∀ i ∈ l, i < c.Transitions.length) → (l.flatMap (enabG c (pathS c leaf) (v : Int))).length = cnt v (l.flatMap fun i => if hasK (pathS c leaf) (pathS c leaf).length (c.Transitions.getD i default).From = true then [maskL (c.Transitions.getD i default).When] else []) := by
    intro l
    induction l with
    | nil => intro _; rfl
    | cons i l ih =>
      intro hi
      have ih := ih fun j hj => hi j (List.mem_cons_of_mem _ hj)
      have hw := h.1 _ (getD_mem (hi i (by simp)))
      rw [List.flatMap_cons, List.flatMap_cons, List.length_append, ih]
      unfold enabG
      cases hasK (pathS c leaf) (pathS c leaf).length (c.Transitions.getD i default).From with
      | false => simp
      | true =>
        rw [holds_mask hw]
        simp only [Bool.true_and, if_true, List.cons_append, List.nil_append, cnt]
        have e : Nat.beq (Nat.land v (maskL (c.Transitions.getD i default).When).1) (maskL (c.Transitions.getD i default).When).2 = ((v &&& (maskL (c.Transitions.getD i default).When).1) == (maskL (c.Transitions.getD i default).When).2) := nbeq _ _
        rw [e]
        cases ((v &&& (maskL (c.Transitions.getD i default).When).1) == (maskL (c.Transitions.getD i default).When).2) with
        | false => simp
        | true => simp; omega
  exact key _ fun i hi => List.mem_range.1 hi
theorem any_nev {c : T48} (h : ascC c = true) {v : Nat} : anyR (fun i => holdsS (c.Never.getD i default) (v : Int)) c.Never.length = anyM v (c.Never.map maskL) := by
  simp only [ascC, Bool.and_eq_true, List.all_eq_true] at h
  have h := h.2
  generalize c.Never = l at h
  induction l with
  | nil => rfl
  | cons x l ih =>
    have e : anyR (fun i => holdsS ((x :: l).getD i default) (v : Int)) (x :: l).length = (holdsS x (v : Int) || anyR (fun i => holdsS (l.getD i default) (v : Int)) l.length) := by
      rw [Bool.eq_iff_iff, Bool.or_eq_true, anyR_iff, anyR_iff]
      constructor
      · rintro ⟨i, hi, hx⟩
        cases i with
        | zero => exact .inl hx
        | succ i => exact .inr ⟨i, by simpa using hi, by simpa using hx⟩
      · rintro (hx | ⟨i, hi, hx⟩)
        · exact ⟨0, by simp, hx⟩
        · exact ⟨i + 1, by simpa using hi, by simpa using hx⟩
    rw [e, ih fun y hy => h y (List.mem_cons_of_mem _ hy), holds_mask (h x (by simp))]
    simp only [List.map_cons, anyM]
    have e : Nat.beq (Nat.land v (maskL x).1) (maskL x).2 = ((v &&& (maskL x).1) == (maskL x).2) := nbeq _ _
    rw [e]
    cases ((v &&& (maskL x).1) == (maskL x).2) <;> rfl
theorem one_of {c : T48} {ls : List Int} {n : Nat} (ha : ascC c = true) (H : oneB (ls.map (tab c)) (c.Never.map maskL) n = true) {v : Nat} (hv : v < n) {leaf : Int} (hl : leaf ∈ ls) (h : allowedS c (v : Int) = true) : (enabledS c leaf (v : Int)).length = 1 := by
  rw [cnt_tab ha]
  unfold allowedS at h
  simp only [Bool.and_eq_true, Bool.not_eq_true'] at h
  have h := h.2
  rw [any_nev ha] at h
  induction n with
  | zero => omega
  | succ n ih =>
    unfold oneB at H
    cases hc : (cond (anyM n (c.Never.map maskL)) true ((ls.map (tab c)).all fun t => Nat.beq (cnt n t) 1)) with
    | false => rw [hc] at H; cases H
    | true =>
      rw [hc] at H
      by_cases e : v = n
      · subst e
        rw [h] at hc
        simp only [cond_false, List.all_eq_true] at hc
        exact Nat.eq_of_beq_eq_true (hc _ (List.mem_map_of_mem hl))
      · exact ih H (by omega)
theorem asc1 : ascC C1 = true := by kernel_rfl
theorem asc2 : ascC C2 = true := by kernel_rfl
theorem asc3 : ascC C3 = true := by kernel_rfl
theorem tab1 : (leavesS C1).map (tab C1) = [[(1, 1), (65, 64), (67, 2), (71, 0), (79, 4), (95, 12), (127, 28), (127, 60)], [(1, 1), (65, 64), (67, 2), (71, 0), (79, 4), (95, 12), (127, 28), (127, 60)], [(1, 1), (65, 64), (67, 2), (75, 0), (91, 8), (123, 24), (123, 56)], [(1, 1), (65, 64), (67, 2), (75, 0), (107, 8), (107, 40)], [(1, 1), (65, 64), (67, 2), (75, 0), (107, 8), (107, 40)], [(1, 1), (65, 64), (67, 2), (71, 0), (79, 4), (95, 12), (127, 28), (127, 60)]] := by kernel_rfl
theorem nev1 : C1.Never.map maskL = ([] : List (Nat × Nat)) := by kernel_rfl
theorem all1 : oneB ((leavesS C1).map (tab C1)) (C1.Never.map maskL) 128 = true := by rw [tab1, nev1]; kernel_rfl
theorem one1 {v : Nat} (hv : v < 128) {leaf : Int} (hl : leaf ∈ leavesS C1) (h : allowedS C1 (v : Int) = true) : (enabledS C1 leaf (v : Int)).length = 1 := one_of asc1 all1 hv hl h
theorem tab2 : (leavesS C2).map (tab C2) = [[(1, 1), (9, 8), (25, 16), (57, 32), (249, 192), (249, 64), (381, 256), (381, 260), (377, 0)], [(1, 1), (9, 8), (25, 16), (57, 32), (249, 192), (249, 64), (381, 256), (381, 260), (889, 512), (889, 0)], [(1, 1), (9, 8), (25, 16), (57, 32), (249, 192), (249, 64), (381, 256), (381, 260), (889, 512), (889, 0)], [(1, 1), (9, 8), (25, 16), (57, 32), (249, 192), (249, 64), (381, 256), (381, 260), (889, 512), (889, 0)], [(1, 1), (9, 8), (25, 16), (57, 32), (249, 192), (249, 64), (381, 256), (381, 260), (1401, 1024), (1913, 512), (2041, 128), (2041, 0)], [(1, 1), (9, 8), (25, 16), (57, 32), (249, 192), (249, 64), (381, 256), (381, 260), (379, 0), (383, 2), (383, 6)], [(1, 1), (9, 8), (25, 16), (57, 32), (249, 192), (249, 64), (381, 256), (381, 260), (379, 0), (383, 2), (383, 6)], [(1, 1), (9, 8), (25, 16), (57, 32), (249, 192), (249, 64), (381, 256), (381, 260), (889, 512), (889, 0)]] := by kernel_rfl
theorem nev2 : C2.Never.map maskL = [(258, 256), (1536, 1024)] := by kernel_rfl
theorem all2 : oneB ((leavesS C2).map (tab C2)) (C2.Never.map maskL) 2048 = true := by rw [tab2, nev2]; kernel_rfl
theorem one2 {v : Nat} (hv : v < 2048) {leaf : Int} (hl : leaf ∈ leavesS C2) (h : allowedS C2 (v : Int) = true) : (enabledS C2 leaf (v : Int)).length = 1 := one_of asc2 all2 hv hl h
theorem tab3 : (leavesS C3).map (tab C3) = [[(1, 0), (9, 9), (9, 1)], [(9, 9), (9, 1), (17, 0), (17, 16)], [(1, 1), (5, 4), (7, 2), (39, 32), (103, 64), (103, 0)], [(1, 1), (5, 4), (7, 2), (71, 64), (103, 32), (103, 0)], [(1, 1), (5, 4), (7, 2), (71, 64), (103, 32), (103, 0)], [(1, 1), (5, 4), (7, 2), (71, 64), (71, 0)], [(1, 1), (5, 4), (21, 0), (23, 16), (23, 18)], [(1, 0), (9, 9), (137, 129), (137, 1)]] := by kernel_rfl
theorem nev3 : C3.Never.map maskL = [(17, 17), (129, 128)] := by kernel_rfl
theorem all3 : oneB ((leavesS C3).map (tab C3)) (C3.Never.map maskL) 256 = true := by rw [tab3, nev3]; kernel_rfl
theorem one3 {v : Nat} (hv : v < 256) {leaf : Int} (hl : leaf ∈ leavesS C3) (h : allowedS C3 (v : Int) = true) : (enabledS C3 leaf (v : Int)).length = 1 := one_of asc3 all3 hv hl h
end Go.Av.Mo
