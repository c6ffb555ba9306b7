/- Plain laws of chart: what the laws of starts, fires, steps and runs want. -/
import Derived.Test.YtpdncdnjkjpigaaGreatDoorChS
import Derived.Test.YtpdncdnjkjpigaaGreatDoorChJ
set_option linter.unusedSimpArgs false
set_option linter.unusedVariables false
set_option maxRecDepth 100000
namespace Go.Av.Ch
def fewG (g : T44) : T44 := ⟨g.Leaf, cutL 14 g.Memory⟩
theorem minQ8 (k : Int) (hk : k ≤ 1000) (L : Nat) : (0 + (if k < (L : Int) then k else (L : Int)).toNat) * 8 ≤ 140737488355328 := by split <;> omega
theorem startM_mem {c : T27} (H : Fit c) {r : Int × List (List UInt8) × Int × List Int} (h : startM c = some r) : r.2.2.2.length ≤ 1000 := by
  have hs := H.states
  obtain ⟨e, he⟩ := checkM_some c
  unfold startM at h
  rw [he, Option.bind_some] at h
  split at h
  · injection h with h; subst h; simp
  rename_i h0
  have h0' : e = 0 := by simpa using h0
  subst h0'
  injection h with h; subst h
  have := (validS_iff.1 (startS_ok (good_of he) H).1).2.2.len
  exact Nat.le_trans (Nat.le_of_eq this) hs
def fireM (c : T27) (g : T44) (t : Int) : Option (T44 × List (List UInt8) × Int) := (checkM c).bind fun e => if (e != 0) = true then some (⟨0, []⟩, [], e) else if (!validS c g) = true then some (⟨0, []⟩, [], 8) else if (decide (t < 0) || decide ((c.Transitions.length : Int) ≤ t)) = true then some (⟨0, []⟩, [], 2) else
    if (!hasK (pathS c g.Leaf) (pathS c g.Leaf).length (c.Transitions.getD t.toNat default).From) = true then some (⟨0, []⟩, [], 9) else some (⟨(fireS c g (c.Transitions.getD t.toNat default)).1, (fireS c g (c.Transitions.getD t.toNat default)).2.1⟩, (fireS c g (c.Transitions.getD t.toNat default)).2.2, 0)
theorem fireM_some (c : T27) (g : T44) (t : Int) : ∃ r, fireM c g t = some r := by
  obtain ⟨e, he⟩ := checkM_some c
  unfold fireM
  rw [he, Option.bind_some]
  exact ite_total (ite_total (ite_total (ite_total ⟨_, rfl⟩)))
theorem fireM_ok {c : T27} (H : Fit c) {g : T44} {t : Int} {r : T44 × List (List UInt8) × Int} (h : fireM c g t = some r) : r.2.1.length ≤ 32000 ∧ r.1.Memory.length ≤ 1000 ∧ (r.2.2 = 0 → validS c r.1 = true) := by
  have hs := H.states
  obtain ⟨e, he⟩ := checkM_some c
  unfold fireM at h
  rw [he, Option.bind_some] at h
  split at h
  · rename_i h0; injection h with h; subst h; exact ⟨by simp, by simp, fun h => absurd h (by simpa using h0)⟩
  rename_i h0
  have h0' : e = 0 := by simpa using h0
  subst h0'
  split at h
  · injection h with h; subst h; exact ⟨by simp, by simp, fun h => absurd h (by decide)⟩
  rename_i hv
  have hv : validS c g = true := by simpa using hv
  split at h
  · injection h with h; subst h; exact ⟨by simp, by simp, fun h => absurd h (by decide)⟩
  rename_i ht
  simp only [Bool.or_eq_true, decide_eq_true_eq, not_or] at ht
  split at h
  · injection h with h; subst h; exact ⟨by simp, by simp, fun h => absurd h (by decide)⟩
  injection h with h; subst h
  obtain ⟨k1, k2⟩ := fireS_ok (good_of he) H hv (i := t.toNat) (by omega)
  exact ⟨k2, Nat.le_trans (Nat.le_of_eq (validS_iff.1 k1).2.2.len) hs, fun _ => k1⟩
theorem stepM_mem {c : T27} (H : Fit c) {g : T44} {v : Int} {r : T44 × List (List UInt8) × Int} (h : stepM c g v = some r) : r.1.Memory.length ≤ 1000 := by
  have hs := H.states
  by_cases h0 : r.2.2 = 0
  · exact Nat.le_trans (Nat.le_of_eq (validS_iff.1 ((stepM_ok H h).2 h0).2.2).2.2.len) hs
  · obtain ⟨e, he⟩ := checkM_some c
    unfold stepM at h
    rw [he, Option.bind_some] at h
    split at h
    · injection h with h; subst h; simp
    split at h
    · injection h with h; subst h; simp
    split at h
    · injection h with h; subst h; simp
    split at h
    · injection h with h; subst h; simp
    split at h
    · injection h with h; subst h; exact absurd rfl h0
    · injection h with h; subst h; simp
theorem loop_passZ {R : Type} {b : Int → Option (Int ⊕ (Unit ⊕ R))} {k : Unit → Option R} {n : Int} (hd : ∀ i, n < i → b i = some (.inr (.inl ()))) {z : Option R} (hk : k () = z) :
    ∀ (m : Nat) (lo : Int), lo + m = n + 1 → (∀ i, lo ≤ i → i ≤ n → b i = some (.inl (i + 1))) → (loopO b lo).bind (onS k) = z := by
  intro m
  induction m with
  | zero => intro lo h hb; rw [loopO_eq, hd lo (by omega)]; exact hk
  | succ m ih => intro lo h hb; rw [loopO_eq, hb lo (Int.le_refl _) (by omega)]; exact ih (lo + 1) (by omega) fun i h1 h2 => hb i (by omega) h2
theorem cut12 (l : List Int) : ∃ k, subL l 0 (if 12 < (l.length : Int) then 12 else (l.length : Int)).toNat = k ∧ k.length ≤ 12 ∧ ∀ v ∈ k, v ∈ l := by
  refine ⟨_, rfl, ?_, fun x hx => ?_⟩
  · rw [subL_len]; split <;> omega
  · rw [subL_eq (by split <;> omega)] at hx
    exact List.mem_of_mem_drop (List.mem_of_mem_take hx)
end Go.Av.Ch
