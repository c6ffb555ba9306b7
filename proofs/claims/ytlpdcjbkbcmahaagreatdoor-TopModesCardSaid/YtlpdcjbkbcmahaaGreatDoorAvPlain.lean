/- Plain laws of the models' loops. -/
import Derived.Test.YtlpdcjbkbcmahaaGreatDoorAvTree
import Derived.IntWalk
set_option linter.unusedVariables false
set_option linter.unusedSimpArgs false
namespace Go.Av

/-- All of p from i0 to n. -/
def allR (i0 n : Nat) (p : Nat → Bool) : Bool := (List.range' i0 (n - i0)).all p
theorem allR_iff {i0 n : Nat} {p : Nat → Bool} : allR i0 n p = true ↔ ∀ i, i0 ≤ i → i < n → p i = true := by
  unfold allR
  rw [List.all_eq_true]
  constructor
  · intro h i h1 h2; exact h i (by rw [List.mem_range'_1]; omega)
  · intro h i hi; rw [List.mem_range'_1] at hi; exact h i (by omega) (by omega)
theorem allR_congr {i0 n : Nat} {p q : Nat → Bool} (h : ∀ i, i0 ≤ i → i < n → p i = q i) : allR i0 n p = allR i0 n q := by
  rw [Bool.eq_iff_iff, allR_iff, allR_iff]
  exact ⟨fun k i h1 h2 => by rw [← h i h1 h2]; exact k i h1 h2, fun k i h1 h2 => by rw [h i h1 h2]; exact k i h1 h2⟩
theorem allR_step {i0 n : Nat} {p : Nat → Bool} (h : i0 < n) : allR i0 n p = (p i0 && allR (i0 + 1) n p) := by
  rw [Bool.eq_iff_iff, Bool.and_eq_true, allR_iff, allR_iff]
  refine ⟨fun k => ⟨k i0 (Nat.le_refl _) h, fun i h1 h2 => k i (by omega) h2⟩, fun ⟨k1, k2⟩ i h1 h2 => ?_⟩
  rcases Nat.eq_or_lt_of_le h1 with rfl | h3
  · exact k1
  · exact k2 i h3 h2
theorem allR_end {i0 n : Nat} {p : Nat → Bool} (h : n ≤ i0) : allR i0 n p = true := by rw [allR_iff]; intro i h1 h2; omega
/-- A loop over numbers that leaves early where p fails. -/
theorem loop_all {X : Type} {b : Int → Option (Int ⊕ X)} {n : Nat} (p : Nat → Bool) (bad done : X) (hd : ∀ i : Nat, n ≤ i → b i = some (.inr done)) : ∀ (k i0 : Nat), n - i0 = k →
    (∀ i : Nat, i0 ≤ i → i < n → b i = some (if p i = true then .inl ((i : Int) + 1) else .inr bad)) → loopO b i0 = some (if allR i0 n p = true then done else bad)
  | 0, i0, hk, hb => by rw [loopO_eq, hd i0 (by omega), allR_end (by omega)]; rfl
  | k + 1, i0, hk, hb => by
    rw [loopO_eq, hb i0 (Nat.le_refl _) (by omega), allR_step (by omega)]
    cases hp : p i0 with
    | false => simp
    | true =>
      simp only [if_true, Option.bind_some, Bool.true_and]
      have := loop_all p bad done hd k (i0 + 1) (by omega) fun i h1 h2 => hb i (by omega) h2
      simpa using this
/-- A loop over numbers that stops where p fails, and tells where. -/
theorem loop_find {X : Type} {b : Int → Option (Int ⊕ X)} {n : Nat} (p : Nat → Bool) (out : Nat → X) (hd : b n = some (.inr (out n))) : ∀ (k i0 : Nat), n - i0 = k → i0 ≤ n →
    (∀ i : Nat, i0 ≤ i → i < n → b i = some (if p i = true then .inl ((i : Int) + 1) else .inr (out i))) → ∃ r, loopO b i0 = some (out r) ∧ i0 ≤ r ∧ r ≤ n ∧ (∀ j, i0 ≤ j → j < r → p j = true) ∧ (r < n → p r = false)
  | 0, i0, hk, hi, hb => by
    obtain rfl : i0 = n := by omega
    exact ⟨i0, by rw [loopO_eq, hd]; rfl, Nat.le_refl _, Nat.le_refl _, fun j h1 h2 => by omega, fun h => by omega⟩
  | k + 1, i0, hk, hi, hb => by
    cases hp : p i0 with
    | false => exact ⟨i0, by rw [loopO_eq, hb i0 (Nat.le_refl _) (by omega), hp]; rfl, Nat.le_refl _, hi, fun j h1 h2 => by omega, fun _ => hp⟩
    | true =>
      obtain ⟨r, h1, h2, h3, h4, h5⟩ := loop_find p out hd k (i0 + 1) (by omega) (by omega) fun i h1 h2 => hb i (by omega) h2
      refine ⟨r, ?_, by omega, h3, fun j h6 h7 => ?_, h5⟩
      · rw [loopO_eq, hb i0 (Nat.le_refl _) (by omega), hp]
        simpa using h1
      · rcases Nat.eq_or_lt_of_le h6 with rfl | h8
        · exact hp
        · exact h4 j h8 h7
/-- A loop with an invariant and a measure. -/
theorem loop_inv {S X : Type} {b : S → Option (S ⊕ X)} (I : Nat → S → Prop) (Q : X → Prop) (step : ∀ m s, I m s → (∃ s', b s = some (.inl s') ∧ ∃ m', m' < m ∧ I m' s') ∨ ∃ x, b s = some (.inr x) ∧ Q x) : ∀ (m : Nat) (s : S), I m s → ∃ x, loopO b s = some x ∧ Q x := by
  intro m
  induction m using Nat.strongRecOn with
  | _ m ih =>
    intro s hs
    rcases step m s hs with ⟨s', h1, m', h2, h3⟩ | ⟨x, h1, h2⟩
    · obtain ⟨x, h4, h5⟩ := ih m' h2 s' h3
      exact ⟨x, by rw [loopO_eq, h1]; exact h4, h5⟩
    · exact ⟨x, by rw [loopO_eq, h1]; rfl, h2⟩
/-- A loop that counts up to n. -/
theorem loop_for {S X : Type} {b : S → Option (S ⊕ X)} (I : Nat → S → Prop) (Q : X → Prop) (n : Nat) (step : ∀ i s, i < n → I i s → ∃ s', b s = some (.inl s') ∧ I (i + 1) s') (fin : ∀ s, I n s → ∃ x, b s = some (.inr x) ∧ Q x) (s : S) (h0 : I 0 s) : ∃ x, loopO b s = some x ∧ Q x :=
  loop_inv (fun m s => ∃ i, i ≤ n ∧ m = n - i ∧ I i s) Q (fun m s ⟨i, h1, h2, h3⟩ => by
    by_cases h : i < n
    · obtain ⟨s', h4, h5⟩ := step i s h h3
      exact .inl ⟨s', h4, n - (i + 1), by omega, i + 1, h, rfl, h5⟩
    · obtain rfl : i = n := by omega
      exact .inr (fin s h3)) n s ⟨0, Nat.zero_le _, rfl, h0⟩
theorem not_lt_cast {i n : Nat} (h : n ≤ i) : ¬ ((i : Int) < (n : Int)) := by omega
theorem w64 {x : Int} (h1 : -9223372036854775808 ≤ x) (h2 : x ≤ 9223372036854775807) : IntKind.wrap .i64 x = x := IntWalk.i64_in x ⟨h1, h2⟩
theorem getD_mem {α : Type} [Inhabited α] {l : List α} {i : Nat} (h : i < l.length) : l.getD i default ∈ l := by
  rw [List.getD_eq_getElem?_getD, List.getElem?_eq_getElem h, Option.getD_some]; exact List.getElem_mem h
theorem beq_cast (a b : Nat) : ((a : Int) == (b : Int)) = (a == b) := by rw [Bool.eq_iff_iff]; simp [Int.natCast_inj]
theorem bne_cast (a b : Nat) : ((a : Int) != (b : Int)) = (a != b) := by rw [bne, bne, beq_cast]
theorem maxLen_le {n : Nat} (h : n ≤ maxLen) : (n : Int) ≤ 9223372036854775807 := by unfold maxLen at h; omega
end Go.Av
