/- Plain laws of chart: the specification's functions that change a configuration compute the same. -/
import Derived.Test.YtpdncdnjkjpigaaGreatDoorChI
set_option linter.unusedSimpArgs false
set_option linter.unusedVariables false
set_option maxRecDepth 100000
namespace Go.Av.Ch
/-- The loop that enters the states of a list, the last one first. -/
theorem down_loop {c : T27} (G : Good c) {l : List Int} (hl : ∀ x ∈ l, isS c x = true) (h1 : l.length ≤ 2000) {m : List Int} (M : MemOk c m) {a : List (List UInt8)} (ha : a.length ≤ 60000) {R : Type} {b : List Int × List (List UInt8) × Int → Option ((List Int × List (List UInt8) × Int) ⊕ ((List Int × List (List UInt8)) ⊕ R))}
    (hb : ∀ (j : Nat) (m : List Int) (a : List (List UInt8)) (x : Int), j < l.length → l.getD j default = x → isS c x = true → MemOk c m → a.length ≤ 100000 → b (m, a, (j : Int)) = some (.inl (m.set x.toNat (-1), a ++ (stA c x).Entry, (j : Int) - 1)))
    (he : ∀ m a, b (m, a, -1) = some (.inr (.inl (m, a)))) : loopO b (m, a, (l.length : Int) - 1) = some (.inl (aroundS c l m a)) := by
  have key : ∀ j, j ≤ l.length → loopO b ((aroundS c (l.drop j) m a).1, (aroundS c (l.drop j) m a).2, (j : Int) - 1) = some (.inl (aroundS c l m a)) := by
    intro j
    induction j with
    | zero => intro _; rw [show ((0 : Nat) : Int) - 1 = -1 from rfl, loopO_eq, he]; rfl
    | succ j ih =>
      intro hj
      have hi : j < l.length := by omega
      have hx : isS c (l.getD j default) = true := hl _ (getD_mem hi)
      obtain ⟨k1, k2⟩ := aroundS_ok G (a := a) M (l.drop (j + 1)) fun x hx => hl x (List.mem_of_mem_drop hx)
      rw [show ((j + 1 : Nat) : Int) - 1 = (j : Int) by omega, loopO_eq, hb j _ _ _ hi rfl hx k1 (by rw [List.length_drop] at k2; omega)]
      have hd : l.drop j = l.getD j default :: l.drop (j + 1) := by
        rw [List.drop_eq_getElem_cons hi]; simp [List.getD_eq_getElem?_getD, List.getElem?_eq_getElem hi]
      have := ih (by omega)
      rw [hd] at this
      exact this
  have := key l.length (Nat.le_refl _)
  rwa [List.drop_length] at this
/-- The loop that collects states up to s. -/
theorem until_loop {s : Int} {l : List Int} {R : Type} {b : List Int × Int → Option ((List Int × Int) ⊕ (List Int ⊕ R))}
    (hb : ∀ (j : Nat) (o : List Int) (x : Int), j < l.length → o.length ≤ j → l.getD j default = x → b (o, (j : Int)) = if (x == s) = true then some (.inr (.inl o)) else some (.inl (o ++ [x], ((j + 1 : Nat) : Int))))
    (he : ∀ o, b (o, (l.length : Int)) = some (.inr (.inl o))) : loopO b ([], 0) = some (.inl (untilS s l)) := by
  have key : ∀ k j (o : List Int), j + k = l.length → o.length ≤ j → loopO b (o, (j : Int)) = some (.inl (o ++ untilS s (l.drop j))) := by
    intro k
    induction k with
    | zero =>
      intro j o hk ho
      obtain rfl : j = l.length := by omega
      rw [loopO_eq, he, List.drop_length]; simp [untilS]
    | succ k ih =>
      intro j o hk ho
      have hj : j < l.length := by omega
      have hd : l.drop j = l.getD j default :: l.drop (j + 1) := by
        rw [List.drop_eq_getElem_cons hj]; simp [List.getD_eq_getElem?_getD, List.getElem?_eq_getElem hj]
      rw [loopO_eq, hb j o _ hj ho rfl, hd]
      by_cases hx : (l.getD j default == s) = true
      · have hx' : (s == l.getD j default) = true := by rw [eq_of_beq hx]; simp
        simp only [hx, if_true, Option.bind_some]
        unfold untilS; rw [List.takeWhile_cons, hx']; simp
      · have hx' : (s == l.getD j default) = false := by simp only [beq_eq_false_iff_ne, ne_eq]; intro e; rw [e] at hx; simp at hx
        simp only [hx, if_false, Bool.false_eq_true, Option.bind_some]
        rw [ih (j + 1) _ (by omega) (by rw [List.length_append]; simp; omega)]
        unfold untilS; rw [List.takeWhile_cons, hx']; simp
  exact key l.length 0 [] (by omega) (Nat.le_refl _)
end Go.Av.Ch
