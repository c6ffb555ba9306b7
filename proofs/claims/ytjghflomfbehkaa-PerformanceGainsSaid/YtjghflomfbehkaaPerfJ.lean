/- Values of lists between places. -/
import Derived.Test.YtjghflomfbehkaaPerfI
set_option linter.unusedSimpArgs false
namespace Go.Av
def gi (l : List Int) (i : Nat) : Int := l.getD i default
/-- Between the places k - 1 and k. -/
def interp (P l : List Int) (x : Int) (k : Nat) : Int := gi l (k - 1) + (gi l k - gi l (k - 1)) * (x - gi P (k - 1)) / (gi P k - gi P (k - 1))
def valAt (P l : List Int) (x : Int) (k : Nat) : Int := if k = 0 then gi l 0 else if k = P.length then gi l (k - 1) else interp P l x k
/-- k places are below x. -/
def Below (P : List Int) (x : Int) (k : Nat) : Prop := k ≤ P.length ∧ (∀ j, j < k → gi P j < x) ∧ (k < P.length → ¬ gi P k < x)
theorem find53 {P l : List Int} {x : Int} (hl : P.length ≤ maxLen) : ∃ k : Nat, loopO (b53_7 P l x) 0 = some (k : Int) ∧ Below P x k := by
  have hm := maxLen_le hl
  obtain ⟨r, h1, _, h2, h3, h4⟩ := loop_find (b := b53_7 P l x) (n := P.length) (fun i => decide (gi P i < x)) (fun r => (r : Int))
    (by
      have h0 : ¬ ((P.length : Int) < P.length) := by omega
      simp only [b53_7, m53_1, m53_2, m53_5, m53_7, m53_8, m53_10, m53_11, m53_12, m53_13, m53, h0, decide_false, Bool.false_eq_true, false_implies, if_true, Bool.false_and, if_false]; rfl) _ 0 rfl (Nat.zero_le _) fun i _ hi => by
      have h0 : (0 : Int) ≤ i := by omega
      have h1 : (i : Int) < P.length := by omega
      have w : IntKind.wrap .i64 ((i : Int) + 1) = (i : Int) + 1 := w64 (by omega) (by omega)
      simp only [b53_7, m53_1, m53_2, m53_5, m53_7, m53_8, m53_10, m53_11, m53_12, m53_13, m53, h0, h1, decide_true, if_true, true_implies, implies_true, Bool.true_and, Int.toNat_natCast, w]
      unfold gi
      by_cases hc : P.getD i default < x <;> (simp only [hc, decide_true, decide_false, Bool.false_eq_true, if_true, if_false]; rfl)
  exact ⟨r, h1, h2, fun j hj => by simpa using h3 j (Nat.zero_le _) hj, fun h => by simpa using h4 h⟩
/-- Small enough for the products. -/
structure Vb (P l : List Int) (x : Int) : Prop where
  fit : P.length ≤ maxLen
  len : l.length = P.length
  pos : 0 < P.length
  lb : ∀ i, 0 ≤ gi l i ∧ gi l i ≤ 100000
  pb : ∀ i, -10000000000 ≤ gi P i ∧ gi P i ≤ 10000000000
  xb : -10000000000 ≤ x ∧ x ≤ 10000000000
  up : ∀ i j, i < j → j < P.length → gi P i < gi P j
theorem mul_b {u v : Int} (h1 : -100000 ≤ u) (h2 : u ≤ 100000) (h3 : -20000000000 ≤ v) (h4 : v ≤ 20000000000) : -2000000000000000 ≤ u * v ∧ u * v ≤ 2000000000000000 := by
  have h := Int.mul_le_mul (a := (u.natAbs : Int)) (b := (v.natAbs : Int)) (c := 100000) (d := 20000000000) (by omega) (by omega) (by omega) (by omega)
  rw [← Int.natCast_mul, ← Int.natAbs_mul] at h
  omega
theorem s53 {P l : List Int} {x : Int} (h : Vb P l x) : ∃ k : Nat, Below P x k ∧ m53 P l x = some (valAt P l x k) := by
  obtain ⟨k, e, hk⟩ := find53 (l := l) (x := x) h.fit
  have hm := maxLen_le h.fit
  refine ⟨k, hk, ?_⟩
  have hk1 := hk.1
  have hl := h.len
  have hp := h.pos
  simp only [m53, m53_13, m53_12, m53_11, m53_8, m53_7, m53_1, m53_2, Option.bind_some, e]
  unfold valAt m53_10
  have zz : (0 : Int) ≤ 0 := by decide
  have t0 : (0 : Int).toNat = 0 := rfl
  by_cases h0 : k = 0
  · subst h0
    have b0 : (((0 : Nat) : Int) == 0) = true := rfl
    have b1 : (0 : Int) < l.length := by omega
    simp only [b0, zz, b1, t0, if_true, gi]
  · have b0 : ((k : Int) == 0) = false := by rw [beq_eq_false_iff_ne]; omega
    have w : IntKind.wrap .i64 ((k : Int) - 1) = ((k - 1 : Nat) : Int) := by rw [w64 (by omega) (by omega)]; omega
    have b1 : (0 : Int) ≤ ((k - 1 : Nat) : Int) := by omega
    have b2 : ((k - 1 : Nat) : Int) < l.length := by omega
    by_cases hn : k = P.length
    · have b3 : ((k : Int) == (P.length : Int)) = true := by rw [beq_iff_eq]; omega
      rw [if_neg h0, if_pos hn]
      simp only [b0, b3, w, b1, b2, Int.toNat_natCast, Bool.false_eq_true, if_true, if_false, gi]
    · have b3 : ((k : Int) == (P.length : Int)) = false := by rw [beq_eq_false_iff_ne]; omega
      have b4 : ((k - 1 : Nat) : Int) < P.length := by omega
      have b5 : (0 : Int) ≤ (k : Int) := by omega
      have b6 : (k : Int) < P.length := by omega
      have b7 : (k : Int) < l.length := by omega
      have l1 := h.lb k
      have l2 := h.lb (k - 1)
      have p1 := h.pb k
      have p2 := h.pb (k - 1)
      have x1 := h.xb
      have hup := h.up (k - 1) k (by omega) (by omega)
      have hmu := mul_b (u := gi l k - gi l (k - 1)) (v := x - gi P (k - 1)) (by omega) (by omega) (by omega) (by omega)
      have w1 : IntKind.wrap .i64 (gi l k - gi l (k - 1)) = gi l k - gi l (k - 1) := w64 (by omega) (by omega)
      have w2 : IntKind.wrap .i64 (x - gi P (k - 1)) = x - gi P (k - 1) := w64 (by omega) (by omega)
      have w3 : IntKind.wrap .i64 (gi P k - gi P (k - 1)) = gi P k - gi P (k - 1) := w64 (by omega) (by omega)
      have w4 : IntKind.wrap .i64 ((gi l k - gi l (k - 1)) * (x - gi P (k - 1))) = (gi l k - gi l (k - 1)) * (x - gi P (k - 1)) := w64 (by omega) (by omega)
      have f := s55 ((gi l k - gi l (k - 1)) * (x - gi P (k - 1))) (gi P k - gi P (k - 1)) (by omega) (by omega) (by omega) (by omega)
      have hq : -2000000000000000 ≤ (gi l k - gi l (k - 1)) * (x - gi P (k - 1)) / (gi P k - gi P (k - 1)) ∧ (gi l k - gi l (k - 1)) * (x - gi P (k - 1)) / (gi P k - gi P (k - 1)) ≤ 2000000000000000 := by
        have hD : 0 < gi P k - gi P (k - 1) := by omega
        generalize (gi l k - gi l (k - 1)) * (x - gi P (k - 1)) = A at hmu ⊢
        generalize gi P k - gi P (k - 1) = D at hD ⊢
        exact ⟨(Int.le_ediv_iff_mul_le hD).2 (by omega), Int.ediv_le_of_le_mul hD (by omega)⟩
      have w5 : IntKind.wrap .i64 (gi l (k - 1) + (gi l k - gi l (k - 1)) * (x - gi P (k - 1)) / (gi P k - gi P (k - 1))) = gi l (k - 1) + (gi l k - gi l (k - 1)) * (x - gi P (k - 1)) / (gi P k - gi P (k - 1)) := w64 (by omega) (by omega)
      rw [if_neg h0, if_neg hn]
      unfold interp
      unfold gi at w1 w2 w3 w4 w5 f ⊢
      simp only [b0, b3, w, b1, b2, b4, b5, b6, b7, Int.toNat_natCast, Bool.false_eq_true, if_true, if_false]
      simp only [w1, w2, w3, w4, f, Option.bind_some, w5]
end Go.Av
