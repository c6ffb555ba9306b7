/- A region that draws its order, by what each of its operations leaves: one walk an operation, whatever the order. -/
import Derived.Test.YtlpdcjbkbcmahaaGreatDoorAvB
import Derived.Orders
set_option linter.unusedVariables false
set_option linter.unusedSimpArgs false
namespace Go.Base
open Go.RowKit

/-- The edges look back, and no temporary is written twice. -/
def backB (l : List Oper) : Bool := (List.range l.length).all fun i => ((l[i]?).map fun o => o.after.toList.all fun e => !Region.binds .any e || decide (e.on < i)).getD true
/-- The state in the midst of the region: what has been listed is as V says. -/
theorem countP_lt {p q : Nat → Bool} : ∀ (l : List Nat), (∀ x ∈ l, q x = true → p x = true) → (∃ x ∈ l, p x = true ∧ q x = false) → l.countP q < l.countP p
  | [], _, ⟨x, h, _⟩ => by cases h
  | y :: l, h, ⟨x, hx, hp, hq⟩ => by
    have hle : l.countP q ≤ l.countP p := List.countP_mono_left fun z hz => h z (by simp [hz])
    rw [List.countP_cons, List.countP_cons]
    rcases List.mem_cons.1 hx with rfl | hx
    · rw [hp, hq]; simp; omega
    · have := countP_lt l (fun z hz => h z (by simp [hz])) ⟨x, hx, hp, hq⟩
      have hy := h y (by simp)
      cases hqy : q y
      · simp; omega
      · rw [hy hqy]; simp; omega

theorem ready_mem {l : List Oper} {listed : Array Bool} {k : Nat} {o : Oper} (hs : listed.size = l.length) (hk : l[k]? = some o) :
    k ∈ Region.ready .any l.toArray listed ↔ listed.getD k false = false ∧ ∀ e ∈ o.after, Region.binds .any e = true → listed.getD e.on false = true := by
  have hlt : k < l.length := (List.getElem?_eq_some_iff.1 hk).1
  unfold Region.ready
  rw [List.mem_filter, List.mem_range, List.getElem?_toArray, hk]
  simp only [List.size_toArray, hlt, true_and, Option.map_some, Option.getD_some, Bool.and_eq_true, Bool.not_eq_true']
  have h1 : listed.getD k true = listed.getD k false := by simp [Array.getD, hs, hlt]
  rw [h1, Array.all_eq_true']
  constructor
  · rintro ⟨a, b⟩
    refine ⟨a, fun e he hb => ?_⟩
    have := b e he
    rw [hb] at this
    simpa using this
  · rintro ⟨a, b⟩
    refine ⟨a, fun e he => ?_⟩
    cases hb : Region.binds .any e
    · simp
    · simp [b e he hb]
theorem back_at {l : List Oper} (h : backB l = true) {k : Nat} {o : Oper} (hk : l[k]? = some o) : ∀ e ∈ o.after, Region.binds .any e = true → e.on < k := by
  have hlt : k < l.length := (List.getElem?_eq_some_iff.1 hk).1
  unfold backB at h
  rw [List.all_eq_true] at h
  have := h k (List.mem_range.2 hlt)
  rw [hk] at this
  simp only [Option.map_some, Option.getD_some, List.all_eq_true, Bool.or_eq_true, Bool.not_eq_true', decide_eq_true_eq] at this
  intro e he hb
  rcases this e (Array.mem_toList_iff.2 he) with h2 | h2
  · rw [hb] at h2; cases h2
  · exact h2
theorem all_listed {l : List Oper} {listed : Array Bool} (hb : backB l = true) (hs : listed.size = l.length) (hr : Region.ready .any l.toArray listed = []) :
    ∀ n k, k ≤ n → k < l.length → listed.getD k false = true := by
  intro n
  induction n with
  | zero =>
    intro k hk hl
    obtain rfl : k = 0 := by omega
    cases h : listed.getD 0 false
    · have ho : l[0]? = some l[0] := List.getElem?_eq_getElem hl
      have := (ready_mem hs ho).2 ⟨h, fun e he hbb => absurd (back_at hb ho e he hbb) (by omega)⟩
      rw [hr] at this
      cases this
    · rfl
  | succ n ih =>
    intro k hk hl
    cases h : listed.getD k false
    · have ho : l[k]? = some l[k] := List.getElem?_eq_getElem hl
      have := (ready_mem hs ho).2 ⟨h, fun e he hbb => ih e.on (by have := back_at hb ho e he hbb; omega) (by have := back_at hb ho e he hbb; omega)⟩
      rw [hr] at this
      cases this
    · rfl
theorem getD_set (listed : Array Bool) (i k : Nat) (b : Bool) : (listed.setIfInBounds i true).getD k b = if i = k ∧ k < listed.size then true else listed.getD k b := by
  simp only [Array.getD_eq_getD_getElem?]
  rw [Array.getElem?_setIfInBounds]
  by_cases h : i = k
  · subst h
    by_cases h2 : i < listed.size
    · simp [h2]
    · simp [h2]
  · simp [h]

end Go.Base
