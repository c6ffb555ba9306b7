/- Interpolation, plain. -/
import Derived.Test.YtjghflomfbehkaaPerfK
set_option linter.unusedSimpArgs false
namespace Go.Av
def kOf (P : List Int) (x : Int) : Nat := (P.takeWhile fun y => decide (y < x)).length
theorem below_kOf : ∀ (P : List Int) (x : Int), Below P x (kOf P x)
  | [], x => ⟨Nat.le_refl _, fun j hj => by simp [kOf] at hj, fun h => by simp [kOf] at h⟩
  | y :: P, x => by
    by_cases h : y < x
    · have e : kOf (y :: P) x = kOf P x + 1 := by simp [kOf, List.takeWhile_cons, h]
      obtain ⟨h1, h2, h3⟩ := below_kOf P x
      rw [e]
      refine ⟨by simp; exact h1, fun j hj => ?_, fun hk => ?_⟩
      · cases j with
        | zero => simpa [gi] using h
        | succ j => simpa [gi] using h2 j (by omega)
      · simpa [gi] using h3 (by simpa using hk)
    · have e : kOf (y :: P) x = 0 := by simp [kOf, List.takeWhile_cons, h]
      rw [e]
      exact ⟨Nat.zero_le _, fun j hj => by omega, fun _ => by simpa [gi] using h⟩
/-- The value of a list at x. -/
def V (P l : List Int) (x : Int) : Int := valAt P l x (kOf P x)
theorem v53 {P l : List Int} {x : Int} (h : Vb P l x) : m53 P l x = some (V P l x) := t53 h (below_kOf P x)
theorem v54 {P l : List Int} {x : Int} (h : Vb P l x) : m54 P l x = some (V P l x) := t54 h (below_kOf P x)
/-- Strictly ascending. -/
def Asc (P : List Int) : Prop := ∀ i j, i < j → j < P.length → gi P i < gi P j
theorem interp_eq {P : List Int} (hP : Asc P) (l : List Int) (x : Int) {k : Nat} (h1 : 0 < k) (h2 : k < P.length) :
    interp P l x k = (gi l (k - 1) * (gi P k - x) + gi l k * (x - gi P (k - 1))) / (gi P k - gi P (k - 1)) := by
  have hd := hP (k - 1) k (by omega) h2
  unfold interp
  rw [Int.add_comm, ← Int.add_mul_ediv_right _ _ (by omega)]
  congr 1
  rw [Int.sub_mul, Int.mul_sub, Int.mul_sub, Int.mul_sub, Int.mul_sub]
  omega
theorem kOf_lt {P : List Int} {x : Int} {j : Nat} (h : j < kOf P x) : gi P j < x := (below_kOf P x).2.1 j h
theorem kOf_ge {P : List Int} {x : Int} (h : kOf P x < P.length) : x ≤ gi P (kOf P x) := by have := (below_kOf P x).2.2 h; omega
theorem kOf_le (P : List Int) (x : Int) : kOf P x ≤ P.length := (below_kOf P x).1
/-- The greater the list the greater the value. -/
theorem V_mono {P : List Int} (hP : Asc P) {l l' : List Int} (hl : ∀ i, i < P.length → gi l i ≤ gi l' i) (h0 : 0 < P.length) (x : Int) : V P l x ≤ V P l' x := by
  unfold V valAt
  have hk := kOf_le P x
  split
  · exact hl 0 h0
  · split
    · exact hl _ (by omega)
    · rename_i a b
      have hlt : kOf P x < P.length := by omega
      rw [interp_eq hP l x (by omega) hlt, interp_eq hP l' x (by omega) hlt]
      have h1 := kOf_lt (P := P) (x := x) (j := kOf P x - 1) (by omega)
      have h2 := kOf_ge hlt
      refine Int.ediv_le_ediv (by omega) (Int.add_le_add (Int.mul_le_mul_of_nonneg_right (hl _ (by omega)) (by omega)) (Int.mul_le_mul_of_nonneg_right (hl _ hlt) (by omega)))
theorem V_add {P : List Int} (hP : Asc P) {l l' : List Int} {c : Int} (hl : ∀ i, i < P.length → gi l' i = gi l i + c) (h0 : 0 < P.length) (x : Int) : V P l' x = V P l x + c := by
  unfold V valAt
  have hk := kOf_le P x
  split
  · exact hl 0 h0
  · split
    · exact hl _ (by omega)
    · have hlt : kOf P x < P.length := by omega
      unfold interp
      rw [hl _ (by omega), hl _ hlt]
      have : gi l (kOf P x) + c - (gi l (kOf P x - 1) + c) = gi l (kOf P x) - gi l (kOf P x - 1) := by omega
      rw [this]
      omega
theorem V_bound {P : List Int} (hP : Asc P) {l : List Int} {a b : Int} (hl : ∀ i, i < P.length → a ≤ gi l i ∧ gi l i ≤ b) (h0 : 0 < P.length) (x : Int) : a ≤ V P l x ∧ V P l x ≤ b := by
  have key : ∀ (c : Int), V P (List.replicate P.length c) x = c := fun c => by
    have hg : ∀ i, i < P.length → gi (List.replicate P.length c) i = c := fun i hi => by
      unfold gi
      rw [List.getD_eq_getElem?_getD, List.getElem?_replicate, if_pos hi, Option.getD_some]
    unfold V valAt
    have hk := kOf_le P x
    split
    · exact hg 0 h0
    · split
      · exact hg _ (by omega)
      · unfold interp
        rw [hg _ (by omega), hg _ (by omega), Int.sub_self, Int.zero_mul, Int.zero_ediv, Int.add_zero]
  have hg : ∀ c i, i < P.length → gi (List.replicate P.length c) i = c := fun c i hi => by
    unfold gi
    rw [List.getD_eq_getElem?_getD, List.getElem?_replicate, if_pos hi, Option.getD_some]
  have h1 := V_mono hP (l := List.replicate P.length a) (l' := l) (fun i hi => by rw [hg a i hi]; exact (hl i hi).1) h0 x
  have h2 := V_mono hP (l := l) (l' := List.replicate P.length b) (fun i hi => by rw [hg b i hi]; exact (hl i hi).2) h0 x
  rw [key] at h1 h2
  exact ⟨h1, h2⟩
theorem kOf_mono {P : List Int} {x y : Int} (h : x ≤ y) : kOf P x ≤ kOf P y := by
  rcases Nat.lt_or_ge (kOf P y) (kOf P x) with hlt | hge
  · have h1 := kOf_lt hlt
    have h2 := kOf_ge (Nat.lt_of_lt_of_le hlt (kOf_le P x))
    omega
  · exact hge
/-- Between two places: what is added to x to make a list that rises. -/
theorem interp_mono {P : List Int} (hP : Asc P) (l : List Int) (s : Int) {k : Nat} (h1 : 0 < k) (h2 : k < P.length) (hl : gi l (k - 1) + s * gi P (k - 1) ≤ gi l k + s * gi P k) {x y : Int} (hxy : x ≤ y) : interp P l x k + s * x ≤ interp P l y k + s * y := by
  have hd := hP (k - 1) k (by omega) h2
  have e : ∀ z, interp P l z k + s * z = (gi l (k - 1) + s * gi P (k - 1)) + ((gi l k + s * gi P k) - (gi l (k - 1) + s * gi P (k - 1))) * (z - gi P (k - 1)) / (gi P k - gi P (k - 1)) := fun z => by
    unfold interp
    have : ((gi l k + s * gi P k) - (gi l (k - 1) + s * gi P (k - 1))) * (z - gi P (k - 1)) = (gi l k - gi l (k - 1)) * (z - gi P (k - 1)) + (s * (z - gi P (k - 1))) * (gi P k - gi P (k - 1)) := by
      generalize gi P k = a
      generalize gi P (k - 1) = b
      generalize gi l k = c
      generalize gi l (k - 1) = d
      have e1 : (c + s * a - (d + s * b)) = (c - d) + s * (a - b) := by rw [Int.mul_sub]; omega
      rw [e1, Int.add_mul, Int.mul_assoc, Int.mul_assoc, Int.mul_comm (a - b) (z - b)]
    rw [this, Int.add_mul_ediv_right _ _ (by omega)]
    have : s * (z - gi P (k - 1)) = s * z - s * gi P (k - 1) := Int.mul_sub _ _ _
    omega
  rw [e x, e y]
  refine Int.add_le_add_left (Int.ediv_le_ediv (by omega) (Int.mul_le_mul_of_nonneg_left (by omega) (by omega))) _
theorem V_at {P : List Int} (hP : Asc P) (l : List Int) {k : Nat} (hk : k < P.length) : V P l (gi P k) = gi l k := by
  have hb : Below P (gi P k) k := ⟨by omega, fun j hj => hP j k hj hk, fun _ => by omega⟩
  have e : kOf P (gi P k) = k := (below_kOf P (gi P k)).uniq hb
  unfold V valAt
  rw [e]
  split
  · rename_i h; rw [h]
  · rw [if_neg (by omega)]
    unfold interp
    rw [Int.mul_ediv_cancel _ (by have := hP (k - 1) k (by omega) hk; omega)]
    omega
/-- x and y in one gap between two places, or below or above all. -/
theorem V_piece {P : List Int} (hP : Asc P) (l : List Int) (s : Int) (hs : 0 ≤ s) (h0 : 0 < P.length) (hl : ∀ k, 0 < k → k < P.length → gi l (k - 1) + s * gi P (k - 1) ≤ gi l k + s * gi P k) {x y : Int} (hxy : x ≤ y) (hk : kOf P x = kOf P y) : V P l x + s * x ≤ V P l y + s * y := by
  have hm : s * x ≤ s * y := Int.mul_le_mul_of_nonneg_left hxy hs
  unfold V valAt
  rw [← hk]
  have := kOf_le P x
  split
  · omega
  · split
    · omega
    · exact interp_mono hP l s (by omega) (by omega) (hl _ (by omega) (by omega)) hxy
theorem V_rise {P : List Int} (hP : Asc P) (l : List Int) (s : Int) (hs : 0 ≤ s) (h0 : 0 < P.length) (hl : ∀ k, 0 < k → k < P.length → gi l (k - 1) + s * gi P (k - 1) ≤ gi l k + s * gi P k) : ∀ (n : Nat) {x y : Int}, kOf P y - kOf P x = n → x ≤ y → V P l x + s * x ≤ V P l y + s * y
  | 0, x, y, hn, hxy => V_piece hP l s hs h0 hl hxy (by have := kOf_mono (P := P) hxy; omega)
  | n + 1, x, y, hn, hxy => by
    have hm : s * x ≤ s * y := Int.mul_le_mul_of_nonneg_left hxy hs
    have hlt : kOf P x < P.length := by have := kOf_le P y; omega
    have h1 : x ≤ gi P (kOf P x) := kOf_ge hlt
    have h2 : gi P (kOf P x) < y := kOf_lt (by omega)
    have e : kOf P (gi P (kOf P x)) = kOf P x := (below_kOf P _).uniq ⟨by omega, fun j hj => hP j _ hj hlt, fun _ => by omega⟩
    have a1 := V_piece hP l s hs h0 hl h1 e.symm
    -- just above the place
    have e2 : kOf P (gi P (kOf P x) + 1) = kOf P x + 1 := (below_kOf P _).uniq ⟨by omega, fun j hj => by
      rcases Nat.lt_or_ge j (kOf P x) with h | h
      · have := hP j _ h hlt; omega
      · obtain rfl : j = kOf P x := by omega
        omega, fun h => by have := hP (kOf P x) (kOf P x + 1) (by omega) h; omega⟩
    have a2 := V_rise hP l s hs h0 hl n (x := gi P (kOf P x) + 1) (y := y) (by omega) (by omega)
    have a3 : V P l (gi P (kOf P x)) + s * gi P (kOf P x) ≤ V P l (gi P (kOf P x) + 1) + s * (gi P (kOf P x) + 1) := by
      have hs1 : s * (gi P (kOf P x) + 1) = s * gi P (kOf P x) + s := by rw [Int.mul_add, Int.mul_one]
      rw [V_at hP l hlt]
      unfold V valAt
      rw [e2, if_neg (by omega)]
      split
      · rw [Nat.add_sub_cancel]; omega
      · have b := interp_mono hP l s (k := kOf P x + 1) (by omega) (by have := kOf_le P (gi P (kOf P x) + 1); omega) (hl _ (by omega) (by have := kOf_le P (gi P (kOf P x) + 1); omega)) (x := gi P (kOf P x)) (y := gi P (kOf P x) + 1) (by omega)
        rw [interp_bot (by rw [Nat.add_sub_cancel]), Nat.add_sub_cancel] at b
        exact b
    omega
end Go.Av
