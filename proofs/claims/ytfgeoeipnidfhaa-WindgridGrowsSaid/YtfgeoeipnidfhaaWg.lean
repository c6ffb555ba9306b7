/- Plain mathematics of forecasts (no program). -/
namespace Wg

structure Grid where
  cx : Int
  cy : Int
  cell : Int
  nx : Int
  ny : Int
  alts : List Int
  winds : List (Int × Int)
  devs : List Int
  err : Int

def inR (n lo hi : Int) : Bool := decide (lo ≤ n) && decide (n ≤ hi)
def inPlane (x y : Int) : Bool := inR x (-2000000) 2000000 && inR y (-2000000) 2000000
def altOk (a : Int) : Bool := inR a (-200000) 6000000
def windOk (p : (Int × Int) × Int) : Bool := inR p.1.1 (-340) 340 && inR p.1.2 (-340) 340 && inR p.2 (-4000) 4000
def vals (g : Grid) : Bool := inPlane g.cx g.cy && inR g.cell 1 2000000 && inR g.err 0 60 && g.alts.all altOk && (g.winds.zip g.devs).all windOk
def ord (l : List Int) : Bool := (l.zip l.tail).all fun p => decide (p.1 < p.2)
def small (g : Grid) : Bool := inR g.nx 1 16 && inR g.ny 1 16 && inR g.alts.length 1 8
def count (g : Grid) : Int := g.nx * g.ny * g.alts.length
def counted (g : Grid) : Bool := decide ((g.winds.length : Int) = count g) && decide ((g.devs.length : Int) = count g)
def chk (g : Grid) : Int := if small g = false then 3 else if counted g = false then 1 else if vals g = false then 2 else if ord g.alts = false then 9 else 0

structure Ok (g : Grid) : Prop where
  nx1 : 1 ≤ g.nx
  nx2 : g.nx ≤ 16
  ny1 : 1 ≤ g.ny
  ny2 : g.ny ≤ 16
  al1 : 1 ≤ g.alts.length
  al2 : g.alts.length ≤ 8
  wl : (g.winds.length : Int) = count g
  dl : (g.devs.length : Int) = count g
  cx1 : -2000000 ≤ g.cx
  cx2 : g.cx ≤ 2000000
  cy1 : -2000000 ≤ g.cy
  cy2 : g.cy ≤ 2000000
  cell1 : 1 ≤ g.cell
  cell2 : g.cell ≤ 2000000
  err1 : 0 ≤ g.err
  err2 : g.err ≤ 60
  alts : ∀ i (h : i < g.alts.length), -200000 ≤ g.alts[i] ∧ g.alts[i] ≤ 6000000
  wind : ∀ i (h : i < g.winds.length), -340 ≤ (g.winds[i]).1 ∧ (g.winds[i]).1 ≤ 340 ∧ -340 ≤ (g.winds[i]).2 ∧ (g.winds[i]).2 ≤ 340
  dev : ∀ i (h : i < g.devs.length), -4000 ≤ g.devs[i] ∧ g.devs[i] ≤ 4000
  ord : ∀ i (h : i + 1 < g.alts.length), g.alts[i] < g.alts[i + 1]

theorem inR_iff {n lo hi : Int} : inR n lo hi = true ↔ lo ≤ n ∧ n ≤ hi := by simp [inR]
theorem ord_iff (l : List Int) : ord l = true ↔ ∀ i (h : i + 1 < l.length), l[i] < l[i + 1] := by
  unfold ord
  rw [List.all_eq_true]
  constructor
  · intro h i hi
    have := h (l[i], l[i + 1]) (by
      rw [List.mem_iff_getElem]
      exact ⟨i, by simp; omega, by simp⟩)
    simpa using this
  · intro h p hp
    obtain ⟨i, hi, rfl⟩ := List.mem_iff_getElem.1 hp
    simp at hi
    simpa using h i (by omega)
theorem ok_of {g : Grid} (h : chk g = 0) : Ok g := by
  unfold chk at h
  split at h
  · cases h
  · rename_i h1
    split at h
    · cases h
    · rename_i h2
      split at h
      · cases h
      · rename_i h3
        split at h
        · cases h
        · rename_i h4
          simp only [Bool.not_eq_false] at h1 h2 h3 h4
          simp only [small, Bool.and_eq_true, inR_iff] at h1
          simp only [counted, Bool.and_eq_true, decide_eq_true_eq] at h2
          simp only [vals, inPlane, Bool.and_eq_true, inR_iff, List.all_eq_true] at h3
          obtain ⟨⟨⟨⟨⟨⟨a1, a2⟩, a3, a4⟩, a5, a6⟩, a7, a8⟩, a9⟩, b1⟩ := h3
          refine ⟨h1.1.1.1, h1.1.1.2, h1.1.2.1, h1.1.2.2, by omega, by omega, h2.1, h2.2, a1, a2, a3, a4, a5, a6, a7, a8, ?_, ?_, ?_, (ord_iff _).1 h4⟩
          · intro i hi
            have := a9 _ (List.getElem_mem hi)
            simpa [altOk, inR_iff] using this
          · intro i hi
            have := b1 (g.winds[i], g.devs[i]'(by omega)) (by
              rw [List.mem_iff_getElem]
              exact ⟨i, by simp; omega, by simp⟩)
            simp only [windOk, Bool.and_eq_true, inR_iff] at this
            omega
          · intro i hi
            have := b1 (g.winds[i]'(by omega), g.devs[i]) (by
              rw [List.mem_iff_getElem]
              exact ⟨i, by simp; omega, by simp⟩)
            simp only [windOk, Bool.and_eq_true, inR_iff] at this
            omega

theorem strict {l : List Int} (h : ∀ i (h : i + 1 < l.length), l[i] < l[i + 1]) : ∀ (d i : Nat) (hj : i + d + 1 < l.length), l[i] < l[i + d + 1]
  | 0, i, hj => h i hj
  | d + 1, i, hj => Int.lt_trans (strict h d i (by omega)) (h (i + d + 1) (by omega))
theorem strict_lt {l : List Int} (h : ∀ i (h : i + 1 < l.length), l[i] < l[i + 1]) {i j : Nat} (hij : i < j) (hj : j < l.length) : l[i] < l[j] := by
  obtain ⟨d, rfl⟩ : ∃ d, j = i + d + 1 := ⟨j - i - 1, by omega⟩
  exact strict h d i hj
theorem strict_le {l : List Int} (h : ∀ i (h : i + 1 < l.length), l[i] < l[i + 1]) {i j : Nat} (hij : i ≤ j) (hj : j < l.length) : l[i]'(by omega) ≤ l[j] := by
  rcases Nat.lt_or_ge i j with h1 | h1
  · exact Int.le_of_lt (strict_lt h h1 hj)
  · obtain rfl : i = j := by omega
    exact Int.le_refl _

/-! ### Places -/
def clamp (x lo hi : Int) : Int := min (max x lo) hi
def sideX (c cell n x : Int) : Int := clamp x c (c + (n - 1) * cell) - c
def sideI (c cell n x : Int) : Int := max (min (sideX c cell n x / cell) (n - 2)) 0
def sideF (c cell n x : Int) : Int := sideX c cell n x - sideI c cell n x * cell
def levW (l : List Int) (a : Int) (i : Nat) : Nat := if _h : i + 2 < l.length ∧ l.getD (i + 1) 0 ≤ a then levW l a (i + 1) else i
termination_by l.length - i
def levA (l : List Int) (a : Int) : Int := clamp a (l.getD 0 0) (l.getD (l.length - 1) 0)
def levI (l : List Int) (a : Int) : Nat := levW l (levA l a) 0
def levF (l : List Int) (a : Int) : Int := if l.length = 1 then 0 else levA l a - l.getD (levI l a) 0
def levC (l : List Int) (a : Int) : Int := if l.length = 1 then 1 else l.getD (levI l a + 1) 0 - l.getD (levI l a) 0

/-! ### Blends -/
def bl (f c u v : Int) : Int := if f = 0 then u else u + (v - u) * f / c
theorem bl_in {f c u v lo hi : Int} (hc : 0 < c) (h0 : 0 ≤ f) (h1 : f ≤ c) (hu1 : lo ≤ u) (hu2 : u ≤ hi) (hv : f ≠ 0 → lo ≤ v ∧ v ≤ hi) : lo ≤ bl f c u v ∧ bl f c u v ≤ hi := by
  unfold bl
  split
  · exact ⟨hu1, hu2⟩
  · rename_i hf
    obtain ⟨hv1, hv2⟩ := hv hf
    rcases Int.le_total u v with h | h
    · have e1 : 0 ≤ (v - u) * f / c := Int.ediv_nonneg (Int.mul_nonneg (by omega) h0) (by omega)
      have e2 : (v - u) * f / c < (v - u) + 1 := (Int.ediv_lt_iff_lt_mul hc).2 (by
        have := Int.mul_le_mul_of_nonneg_left h1 (show 0 ≤ v - u by omega)
        rw [Int.add_mul, Int.one_mul]; omega)
      omega
    · have e1 : (v - u) * f / c < 0 + 1 := (Int.ediv_lt_iff_lt_mul hc).2 (by
        have := Int.mul_nonneg (show 0 ≤ u - v by omega) h0
        rw [show v - u = -(u - v) by omega, Int.neg_mul]; omega)
      have e2 : (v - u) ≤ (v - u) * f / c := (Int.le_ediv_iff_mul_le hc).2 (by
        have := Int.mul_le_mul_of_nonneg_left h1 (show 0 ≤ u - v by omega)
        rw [show v - u = -(u - v) by omega, Int.neg_mul, Int.neg_mul]; omega)
      omega
theorem bl_full {c u v : Int} (hc : 0 < c) : bl c c u v = v := by
  unfold bl
  rw [if_neg (by omega), Int.mul_ediv_cancel _ (by omega)]; omega
theorem bl_zero (c u v : Int) : bl 0 c u v = u := by simp [bl]

/-! ### Facts of places -/
theorem sideX_in {c cell n x : Int} (hn : 1 ≤ n) (hc : 1 ≤ cell) : 0 ≤ sideX c cell n x ∧ sideX c cell n x ≤ (n - 1) * cell := by
  have : 0 ≤ (n - 1) * cell := Int.mul_nonneg (by omega) (by omega)
  unfold sideX clamp
  omega
theorem sideI_in {c cell n x : Int} (hn : 1 ≤ n) : 0 ≤ sideI c cell n x ∧ sideI c cell n x ≤ n - 1 ∧ (2 ≤ n → sideI c cell n x ≤ n - 2) := by
  unfold sideI; omega
theorem side_f {c cell n x : Int} (hn : 1 ≤ n) (hc : 1 ≤ cell) : 0 ≤ sideF c cell n x ∧ sideF c cell n x ≤ cell ∧ (sideF c cell n x ≠ 0 → 2 ≤ n) := by
  have hx := sideX_in (c := c) (x := x) hn hc
  unfold sideF sideI
  have hd := Int.mul_ediv_add_emod (sideX c cell n x) cell
  have hm1 := Int.emod_nonneg (sideX c cell n x) (show cell ≠ 0 by omega)
  have hm2 := Int.emod_lt_of_pos (sideX c cell n x) (show 0 < cell by omega)
  have hq : 0 ≤ sideX c cell n x / cell := Int.ediv_nonneg hx.1 (by omega)
  generalize sideX c cell n x = X at *
  generalize hQ : X / cell = q at *
  generalize X % cell = r at *
  rcases Int.lt_or_le q (n - 1) with h | h
  · rcases Int.lt_or_le 1 n with h1 | h1
    · rw [show max (min q (n - 2)) 0 = q by omega, Int.mul_comm]
      omega
    · obtain rfl : n = 1 := by omega
      omega
  · have h2 : (n - 1) * cell ≤ q * cell := Int.mul_le_mul_of_nonneg_right h (by omega)
    rw [Int.mul_comm] at hd
    rcases Int.lt_or_le 1 n with h1 | h1
    · rw [show max (min q (n - 2)) 0 = n - 2 by omega]
      have e : (n - 1) * cell = (n - 2) * cell + cell := by rw [show n - 1 = (n - 2) + 1 by omega, Int.add_mul, Int.one_mul]
      omega
    · obtain rfl : n = 1 := by omega
      rw [show max (min q (1 - 2)) 0 = 0 by omega]
      simp at *
      omega
theorem clamp_mono {x y lo hi : Int} (h : x ≤ y) : clamp x lo hi ≤ clamp y lo hi := by unfold clamp; omega
theorem sideI_mono {c cell n x y : Int} (hc : 1 ≤ cell) (h : x ≤ y) : sideI c cell n x ≤ sideI c cell n y := by
  have h1 : sideX c cell n x ≤ sideX c cell n y := by unfold sideX; have := clamp_mono (lo := c) (hi := c + (n - 1) * cell) h; omega
  have := Int.ediv_le_ediv (show 0 < cell by omega) h1
  unfold sideI; omega
theorem levW_ge (l : List Int) (a : Int) (i : Nat) : i ≤ levW l a i := by
  fun_induction levW l a i with
  | case1 i h ih => omega
  | case2 i h => omega
theorem levW_le (l : List Int) (a : Int) (i : Nat) (hi : i + 2 ≤ l.length ∨ i = 0) : levW l a i + 2 ≤ l.length ∨ levW l a i = 0 := by
  fun_induction levW l a i with
  | case1 i h ih => exact ih (by omega)
  | case2 i h => exact hi
theorem levW_lo (l : List Int) (a : Int) (i : Nat) (h0 : i = 0 ∨ l.getD i 0 ≤ a) : levW l a i = 0 ∨ l.getD (levW l a i) 0 ≤ a := by
  fun_induction levW l a i with
  | case1 i h ih => exact ih (.inr h.2)
  | case2 i h => exact h0
theorem levW_hi (l : List Int) (a : Int) (i : Nat) : l.length ≤ levW l a i + 2 ∨ a < l.getD (levW l a i + 1) 0 := by
  fun_induction levW l a i with
  | case1 i h ih => exact ih
  | case2 i h => omega
theorem levW_mono (l : List Int) {a b : Int} (h : a ≤ b) (i : Nat) : levW l a i ≤ levW l b i := by
  fun_induction levW l a i with
  | case1 i h1 ih => rw [levW.eq_def l b i, dif_pos ⟨h1.1, by omega⟩]; exact ih
  | case2 i h1 => exact levW_ge _ _ _
theorem levI_mono (l : List Int) {a b : Int} (h : a ≤ b) : levI l a ≤ levI l b := levW_mono _ (clamp_mono h) _
theorem lev_in {l : List Int} (hl : 1 ≤ l.length) (a : Int) : levI l a + 1 ≤ l.length ∧ (2 ≤ l.length → levI l a + 2 ≤ l.length) := by
  have := levW_le l (levA l a) 0 (.inr rfl)
  unfold levI; omega
theorem getD_lt {l : List Int} {i : Nat} (h : i < l.length) : l.getD i 0 = l[i] := by simp [List.getD, h]
theorem lev_f {l : List Int} (hl : 1 ≤ l.length) (ho : ∀ i (h : i + 1 < l.length), l[i] < l[i + 1]) (a : Int) : 0 < levC l a ∧ 0 ≤ levF l a ∧ levF l a ≤ levC l a ∧ (levF l a ≠ 0 → 2 ≤ l.length) := by
  unfold levC levF
  by_cases h1 : l.length = 1
  · rw [if_pos h1, if_pos h1]; omega
  · rw [if_neg h1, if_neg h1]
    have hin := lev_in hl a
    have hi := hin.2 (by omega)
    have hlo := levW_lo l (levA l a) 0 (.inl rfl)
    have hhi := levW_hi l (levA l a) 0
    change levI l a = 0 ∨ l.getD (levI l a) 0 ≤ levA l a at hlo
    change l.length ≤ levI l a + 2 ∨ levA l a < l.getD (levI l a + 1) 0 at hhi
    have hA1 : l.getD 0 0 ≤ levA l a ∧ levA l a ≤ l.getD (l.length - 1) 0 := by
      have := strict_le ho (Nat.zero_le (l.length - 1)) (by omega)
      unfold levA clamp
      rw [getD_lt (by omega), getD_lt (by omega)]
      omega
    obtain ⟨i, e⟩ : ∃ i, levI l a = i := ⟨_, rfl⟩
    rw [e] at hi hlo hhi ⊢
    clear hin e
    have hst := ho i (by omega)
    have e1 := getD_lt (show i < l.length by omega)
    have e2 := getD_lt (show i + 1 < l.length by omega)
    rw [e2] at hhi
    rw [e1] at hlo
    rw [e1, e2]
    have g1 : l[i] ≤ levA l a := by
      rcases hlo with h | h
      · subst h; rw [getD_lt (by omega)] at hA1; exact hA1.1
      · exact h
    have g2 : levA l a ≤ l[i + 1] := by
      rcases hhi with h | h
      · have e : l.length - 1 = i + 1 := by omega
        rw [e, getD_lt (show i + 1 < l.length by omega)] at hA1; exact hA1.2
      · omega
    omega
end Wg
