/- Places on the lattice and clamped places: plain mathematics. -/
import Derived.Test.YtfgeoeipnidfhaaWg
namespace Wg

theorem clamp_clamp {x lo hi : Int} (h : lo ≤ hi) : clamp (clamp x lo hi) lo hi = clamp x lo hi := by unfold clamp; omega
theorem clamp_in {x lo hi a b : Int} (h : lo ≤ hi) (h1 : a ≤ x) (h2 : x ≤ b) (h3 : a ≤ lo) (h4 : lo ≤ b) : a ≤ clamp x lo hi ∧ clamp x lo hi ≤ b := by unfold clamp; omega
theorem side_clamp {c cell n x : Int} (hn : 1 ≤ n) (hc : 1 ≤ cell) : sideI c cell n (clamp x c (c + (n - 1) * cell)) = sideI c cell n x ∧ sideF c cell n (clamp x c (c + (n - 1) * cell)) = sideF c cell n x := by
  have h : 0 ≤ (n - 1) * cell := Int.mul_nonneg (by omega) (by omega)
  have e : sideX c cell n (clamp x c (c + (n - 1) * cell)) = sideX c cell n x := by unfold sideX; rw [clamp_clamp (by omega)]
  have e2 : sideI c cell n (clamp x c (c + (n - 1) * cell)) = sideI c cell n x := by unfold sideI; rw [e]
  exact ⟨e2, by unfold sideF; rw [e, e2]⟩
theorem lev_ends {l : List Int} (hl : 1 ≤ l.length) (ho : ∀ i (h : i + 1 < l.length), l[i] < l[i + 1]) : l.getD 0 0 ≤ l.getD (l.length - 1) 0 := by
  have := strict_le ho (Nat.zero_le (l.length - 1)) (by omega)
  rw [getD_lt (by omega), getD_lt (by omega)]; exact this
theorem lev_clamp {l : List Int} (hl : 1 ≤ l.length) (ho : ∀ i (h : i + 1 < l.length), l[i] < l[i + 1]) (a : Int) : levI l (levA l a) = levI l a ∧ levF l (levA l a) = levF l a ∧ levC l (levA l a) = levC l a := by
  have e : levA l (levA l a) = levA l a := by
    have := lev_ends hl ho
    unfold levA; rw [clamp_clamp this]
  have e2 : levI l (levA l a) = levI l a := by unfold levI; rw [e]
  exact ⟨e2, by unfold levF; rw [e, e2], by unfold levC; rw [e2]⟩
theorem side_lat {c cell n j : Int} (hn : 1 ≤ n) (hc : 1 ≤ cell) (h0 : 0 ≤ j) (h1 : j ≤ n - 1) (f : Int → Int) :
    bl (sideF c cell n (c + j * cell)) cell (f (sideI c cell n (c + j * cell))) (f (sideI c cell n (c + j * cell) + 1)) = f j := by
  have a1 : 0 ≤ j * cell := Int.mul_nonneg h0 (by omega)
  have a2 : j * cell ≤ (n - 1) * cell := Int.mul_le_mul_of_nonneg_right h1 (by omega)
  have hX : sideX c cell n (c + j * cell) = j * cell := by unfold sideX clamp; omega
  have hI : sideI c cell n (c + j * cell) = max (min j (n - 2)) 0 := by unfold sideI; rw [hX, Int.mul_ediv_cancel _ (by omega)]
  unfold sideF
  rw [hI, hX]
  by_cases h : j ≤ n - 2
  · rw [show max (min j (n - 2)) 0 = j by omega, Int.sub_self, bl_zero]
  · obtain rfl : j = n - 1 := by omega
    by_cases h2 : n = 1
    · subst h2
      rw [show max (min ((1 : Int) - 1) (1 - 2)) 0 = 0 by omega]
      simp [bl_zero]
    · rw [show max (min (n - 1) (n - 2)) 0 = n - 2 by omega, show (n - 1) * cell - (n - 2) * cell = cell by rw [← Int.sub_mul, show n - 1 - (n - 2) = 1 by omega, Int.one_mul], bl_full (by omega), show n - 2 + 1 = n - 1 by omega]
theorem lev_lat {l : List Int} (hl : 1 ≤ l.length) (ho : ∀ i (h : i + 1 < l.length), l[i] < l[i + 1]) {z : Nat} (hz : z < l.length) (f : Int → Int) :
    bl (levF l l[z]) (levC l l[z]) (f (levI l l[z] : Nat)) (f ((levI l l[z] : Nat) + 1)) = f z := by
  have hin := lev_in hl l[z]
  unfold levF levC
  by_cases h1 : l.length = 1
  · rw [if_pos h1, bl_zero]
    rw [show levI l l[z] = z by omega]
  · rw [if_neg h1, if_neg h1]
    have hA : levA l l[z] = l[z] := by
      have a1 := strict_le ho (Nat.zero_le z) hz
      have a2 := strict_le ho (show z ≤ l.length - 1 by omega) (by omega)
      unfold levA clamp
      rw [getD_lt (by omega), getD_lt (by omega)]
      omega
    have hi := hin.2 (by omega)
    have hlo := levW_lo l (levA l l[z]) 0 (.inl rfl)
    have hhi := levW_hi l (levA l l[z]) 0
    change levI l l[z] = 0 ∨ l.getD (levI l l[z]) 0 ≤ levA l l[z] at hlo
    change l.length ≤ levI l l[z] + 2 ∨ levA l l[z] < l.getD (levI l l[z] + 1) 0 at hhi
    rw [hA] at hlo hhi ⊢
    obtain ⟨i, e⟩ : ∃ i, levI l l[z] = i := ⟨_, rfl⟩
    rw [e] at hi hlo hhi ⊢
    clear hin e hA
    rw [getD_lt (show i < l.length by omega)] at hlo ⊢
    rw [getD_lt (show i + 1 < l.length by omega)] at hhi ⊢
    have k1 : i ≤ z := by
      apply Classical.byContradiction
      intro hc
      rcases hlo with h | h
      · omega
      · have := strict_lt ho (show z < i by omega) (by omega); omega
    have k2 : z ≤ i + 1 := by
      apply Classical.byContradiction
      intro hc
      rcases hhi with h | h
      · omega
      · have := strict_lt ho (show i + 1 < z by omega) hz; omega
    rcases Nat.lt_or_ge i z with h | h
    · obtain rfl : z = i + 1 := by omega
      have := ho i (by omega)
      rw [bl_full (by omega)]
      simp
    · obtain rfl : z = i := by omega
      rw [Int.sub_self, bl_zero]
end Wg
