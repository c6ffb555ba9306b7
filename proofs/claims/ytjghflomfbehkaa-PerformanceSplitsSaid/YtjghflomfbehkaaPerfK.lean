/- Values of lists and tables, in both packages. -/
import Derived.Test.YtjghflomfbehkaaPerfJ
set_option linter.unusedSimpArgs false
namespace Go.Av
theorem Below.uniq {P : List Int} {x : Int} {k k' : Nat} (h : Below P x k) (h' : Below P x k') : k = k' := by
  rcases Nat.lt_trichotomy k k' with hlt | heq | hlt
  · exact absurd (h'.2.1 k hlt) (h.2.2 (Nat.lt_of_lt_of_le hlt h'.1))
  · exact heq
  · exact absurd (h.2.1 k' hlt) (h'.2.2 (Nat.lt_of_lt_of_le hlt h.1))
theorem t53 {P l : List Int} {x : Int} (h : Vb P l x) {k : Nat} (hk : Below P x k) : m53 P l x = some (valAt P l x k) := by
  obtain ⟨k', h1, h2⟩ := s53 h
  rw [h1.uniq hk] at h2
  exact h2
theorem Vb.mono {P l : List Int} {x : Int} (h : Vb P l x) {i j : Nat} (hij : i ≤ j) (hj : j < P.length) : gi P i ≤ gi P j := by
  rcases Nat.eq_or_lt_of_le hij with rfl | hlt
  · exact Int.le_refl _
  · exact Int.le_of_lt (h.up i j hlt hj)
theorem interp_top {P l : List Int} {x : Int} (h : Vb P l x) {k : Nat} (h1 : 0 < k) (h2 : k < P.length) (hx : x = gi P k) : interp P l x k = gi l k := by
  subst hx
  unfold interp
  rw [Int.mul_ediv_cancel _ (by have := h.up (k - 1) k (by omega) h2; omega)]
  omega
theorem interp_bot {P l : List Int} {x : Int} {k : Nat} (hx : x = gi P (k - 1)) : interp P l x k = gi l (k - 1) := by
  subst hx
  unfold interp
  rw [Int.sub_self, Int.mul_zero, Int.zero_ediv, Int.add_zero]
theorem find54 {P l : List Int} {x : Int} (h : Vb P l x) (h1 : gi P 0 < x) (h2 : x < gi P (P.length - 1)) : ∃ r : Nat, loopO (b54_9 P l x) 0 = some (r : Int) ∧ r + 1 < P.length ∧ gi P r ≤ x ∧ x < gi P (r + 1) := by
  have hm := maxLen_le h.fit
  have hlen : 2 ≤ P.length := by
    have := h.pos
    rcases Nat.lt_or_ge P.length 2 with h3 | h3
    · have : P.length - 1 = 0 := by omega
      rw [this] at h2; omega
    · exact h3
  have one : ∀ i : Nat, i + 1 < P.length → b54_9 P l x i = some (if decide (gi P (i + 1) ≤ x) = true then .inl ((i : Int) + 1) else .inr (i : Int)) := fun i hi => by
    have w : IntKind.wrap .i64 ((i : Int) + 1) = ((i + 1 : Nat) : Int) := by rw [w64 (by omega) (by omega)]; omega
    have h0 : (0 : Int) ≤ ((i + 1 : Nat) : Int) := by omega
    have h1 : ((i + 1 : Nat) : Int) < P.length := by omega
    simp only [b54_9, m54_1, m54_2, m54_3, m54_4, m54_7, m54_9, m54_10, m54_12, m54_13, m54_14, m54_15, m54_16, m54_17, m54, w, h0, h1, Int.toNat_natCast, if_true]
    unfold gi
    by_cases hc : P.getD (i + 1) default ≤ x <;> (simp only [hc, decide_true, decide_false, Bool.false_eq_true, if_true, if_false]; rfl)
  have hlast : P.length - 2 + 1 = P.length - 1 := by omega
  obtain ⟨r, e1, _, e2, e3, e4⟩ := loop_find (b := b54_9 P l x) (n := P.length - 2) (fun i => decide (gi P (i + 1) ≤ x)) (fun r => (r : Int))
    (by rw [one _ (by omega), hlast]; simp only [show ¬ gi P (P.length - 1) ≤ x by omega, decide_false, Bool.false_eq_true, if_false]) _ 0 rfl (Nat.zero_le _) fun i _ hi => one i (by omega)
  refine ⟨r, e1, by omega, ?_, ?_⟩
  · cases r with
    | zero => omega
    | succ r => simpa using e3 r (Nat.zero_le _) (Nat.lt_succ_self r)
  · rcases Nat.lt_or_ge r (P.length - 2) with h3 | h3
    · simpa using e4 h3
    · obtain rfl : r = P.length - 2 := by omega
      rw [hlast]; exact h2
theorem t54 {P l : List Int} {x : Int} (h : Vb P l x) {k : Nat} (hk : Below P x k) : m54 P l x = some (valAt P l x k) := by
  have hm := maxLen_le h.fit
  have hl := h.len
  have hp := h.pos
  have zz : (0 : Int) ≤ 0 := by decide
  have t0 : (0 : Int).toNat = 0 := rfl
  have b1 : (0 : Int) < P.length := by omega
  have b2 : (0 : Int) < l.length := by omega
  have wl : IntKind.wrap .i64 ((P.length : Int) - 1) = ((P.length - 1 : Nat) : Int) := by rw [w64 (by omega) (by omega)]; omega
  have b3 : (0 : Int) ≤ ((P.length - 1 : Nat) : Int) := by omega
  have b4 : ((P.length - 1 : Nat) : Int) < P.length := by omega
  have b5 : ((P.length - 1 : Nat) : Int) < l.length := by omega
  by_cases c1 : x ≤ gi P 0
  · obtain rfl : k = 0 := hk.uniq ⟨Nat.zero_le _, fun j hj => by omega, fun _ => by omega⟩
    unfold gi at c1
    simp only [m54_1, m54_2, m54_3, m54_4, m54_7, m54_9, m54_10, m54_12, m54_13, m54_14, m54_15, m54_16, m54_17, m54, t0, zz, b1, b2, c1, decide_true, if_true, Option.bind_some, valAt, gi]
  · by_cases c2 : gi P (P.length - 1) ≤ x
    · have hv : valAt P l x k = gi l (P.length - 1) := by
        by_cases c3 : gi P (P.length - 1) < x
        · obtain rfl : k = P.length := hk.uniq ⟨Nat.le_refl _, fun j hj => by have := h.mono (i := j) (j := P.length - 1) (by omega) (by omega); omega, fun hh => by omega⟩
          unfold valAt
          rw [if_neg (by omega), if_pos rfl]
        · have hne : P.length - 1 ≠ 0 := fun e => by rw [e] at c2 c3; omega
          obtain rfl : k = P.length - 1 := hk.uniq ⟨by omega, fun j hj => by have := h.up j (P.length - 1) hj (by omega); omega, fun _ => c3⟩
          unfold valAt
          rw [if_neg hne, if_neg (by omega), interp_top h (by omega) (by omega) (by omega)]
      rw [hv]
      unfold gi at c1 c2
      simp only [m54_1, m54_2, m54_3, m54_4, m54_7, m54_9, m54_10, m54_12, m54_13, m54_14, m54_15, m54_16, m54_17, m54, t0, zz, b1, b2, b3, b4, b5, c1, c2, wl, Int.toNat_natCast, decide_true, decide_false, Bool.false_eq_true, if_true, if_false, Option.bind_some, gi]
    · obtain ⟨r, e, r1, r2, r3⟩ := find54 h (by omega) (by omega)
      have hv : valAt P l x k = interp P l x (r + 1) := by
        by_cases c3 : gi P r = x
        · have hr0 : r ≠ 0 := fun e => by rw [e] at c3; omega
          obtain rfl : k = r := hk.uniq ⟨by omega, fun j hj => by have := h.up j r hj (by omega); omega, fun _ => by omega⟩
          unfold valAt
          rw [if_neg hr0, if_neg (by omega), interp_top h (by omega) (by omega) c3.symm, interp_bot (by rw [Nat.add_sub_cancel]; exact c3.symm), Nat.add_sub_cancel]
        · obtain rfl : k = r + 1 := hk.uniq ⟨by omega, fun j hj => by have := h.mono (i := j) (j := r) (by omega) (by omega); omega, fun _ => by omega⟩
          unfold valAt
          rw [if_neg (by omega), if_neg (by omega)]
      rw [hv]
      have l1 := h.lb r
      have l2 := h.lb (r + 1)
      have p1 := h.pb r
      have p2 := h.pb (r + 1)
      have x1 := h.xb
      have hup := h.up r (r + 1) (by omega) (by omega)
      have wr : IntKind.wrap .i64 ((r : Int) + 1) = ((r + 1 : Nat) : Int) := by rw [w64 (by omega) (by omega)]; omega
      have d1 : (0 : Int) ≤ ((r + 1 : Nat) : Int) := by omega
      have d2 : ((r + 1 : Nat) : Int) < l.length := by omega
      have d3 : ((r + 1 : Nat) : Int) < P.length := by omega
      have d4 : (0 : Int) ≤ (r : Int) := by omega
      have d5 : (r : Int) < l.length := by omega
      have d6 : (r : Int) < P.length := by omega
      have hmu := mul_b (u := gi l (r + 1) - gi l r) (v := x - gi P r) (by omega) (by omega) (by omega) (by omega)
      have w1 : IntKind.wrap .i64 (gi l (r + 1) - gi l r) = gi l (r + 1) - gi l r := w64 (by omega) (by omega)
      have w2 : IntKind.wrap .i64 (x - gi P r) = x - gi P r := w64 (by omega) (by omega)
      have w3 : IntKind.wrap .i64 (gi P (r + 1) - gi P r) = gi P (r + 1) - gi P r := w64 (by omega) (by omega)
      have w4 : IntKind.wrap .i64 ((gi l (r + 1) - gi l r) * (x - gi P r)) = (gi l (r + 1) - gi l r) * (x - gi P r) := w64 (by omega) (by omega)
      have f := s56 ((gi l (r + 1) - gi l r) * (x - gi P r)) (gi P (r + 1) - gi P r) (by omega) (by omega) (by omega) (by omega)
      have hq : -2000000000000000 ≤ (gi l (r + 1) - gi l r) * (x - gi P r) / (gi P (r + 1) - gi P r) ∧ (gi l (r + 1) - gi l r) * (x - gi P r) / (gi P (r + 1) - gi P r) ≤ 2000000000000000 := by
        have hD : 0 < gi P (r + 1) - gi P r := by omega
        generalize (gi l (r + 1) - gi l r) * (x - gi P r) = A at hmu ⊢
        generalize gi P (r + 1) - gi P r = D at hD ⊢
        exact ⟨(Int.le_ediv_iff_mul_le hD).2 (by omega), Int.ediv_le_of_le_mul hD (by omega)⟩
      have w5 : IntKind.wrap .i64 (gi l r + (gi l (r + 1) - gi l r) * (x - gi P r) / (gi P (r + 1) - gi P r)) = gi l r + (gi l (r + 1) - gi l r) * (x - gi P r) / (gi P (r + 1) - gi P r) := w64 (by omega) (by omega)
      unfold interp
      rw [Nat.add_sub_cancel]
      unfold gi at c1 c2 w1 w2 w3 w4 w5 f ⊢
      simp only [m54_1, m54_2, m54_3, m54_4, m54_7, m54_9, m54_10, m54_12, m54_13, m54_14, m54_15, m54_16, m54_17, m54, t0, zz, b1, b2, b3, b4, b5, c1, c2, wl, Int.toNat_natCast, decide_true, decide_false, Bool.false_eq_true, if_true, if_false, Option.bind_some, e]
      simp only [wr, d1, d2, d3, d4, d5, d6, Int.toNat_natCast, if_true]
      simp only [w1, w2, w3, w4, f, Option.bind_some, w5]
end Go.Av
