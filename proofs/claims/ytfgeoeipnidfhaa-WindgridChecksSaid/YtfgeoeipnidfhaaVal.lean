/- The program's value at a place: index, blends and the closures. -/
import Derived.Test.YtfgeoeipnidfhaaPlace
import Derived.Test.YtfgeoeipnidfhaaInv
import Derived.Deep.DeepCutAuto
namespace Go.Proofs.Ytfgeoeipnidfhaa
open Go.RowKit Go.Base Wg

def idx (g : Grid) (x y z : Int) : Int := (z * g.ny + y) * g.nx + x
theorem idx_in {g : Grid} (h : Ok g) {x y z : Int} (x0 : 0 ≤ x) (x1 : x ≤ g.nx - 1) (y0 : 0 ≤ y) (y1 : y ≤ g.ny - 1) (z0 : 0 ≤ z) (z1 : z ≤ (g.alts.length : Int) - 1) :
    0 ≤ z * g.ny ∧ z * g.ny ≤ 2000 ∧ 0 ≤ (z * g.ny + y) * g.nx ∧ (z * g.ny + y) * g.nx ≤ 3000 ∧ 0 ≤ idx g x y z ∧ idx g x y z < count g := by
  have a1 := h.nx1
  have a2 := h.nx2
  have a3 := h.ny1
  have a4 := h.ny2
  have a5 := h.al2
  have b1 : 0 ≤ z * g.ny := Int.mul_nonneg z0 (by omega)
  have b2 : z * g.ny ≤ ((g.alts.length : Int) - 1) * g.ny := Int.mul_le_mul_of_nonneg_right z1 (by omega)
  have b3 : ((g.alts.length : Int) - 1) * g.ny ≤ 7 * 16 := Int.mul_le_mul (by omega) a4 (by omega) (by omega)
  have b4 : ((g.alts.length : Int) - 1) * g.ny = g.alts.length * g.ny - g.ny := by rw [Int.sub_mul, Int.one_mul]
  have c1 : 0 ≤ (z * g.ny + y) * g.nx := Int.mul_nonneg (by omega) (by omega)
  have c2 : (z * g.ny + y) * g.nx ≤ (g.alts.length * g.ny - 1) * g.nx := Int.mul_le_mul_of_nonneg_right (by omega) (by omega)
  have c3 : (g.alts.length * g.ny - 1) * g.nx ≤ 127 * 16 := Int.mul_le_mul (by omega) a2 (by omega) (by omega)
  have c4 : (g.alts.length * g.ny - 1) * g.nx = count g - g.nx := by
    unfold count; rw [Int.sub_mul, Int.one_mul, Int.mul_assoc, Int.mul_comm g.ny g.nx, Int.mul_comm (g.alts.length : Int)]
  unfold idx
  refine ⟨b1, by omega, c1, by omega, by omega, by omega⟩
set_option maxHeartbeats 400000 in
theorem index_any (g : Grid) (A1 A2 A3 : Option Addr) (c1 c2 c3 : Nat) (x y z : Int) (w : World) (h : Ok g) (x0 : 0 ≤ x) (x1 : x ≤ g.nx - 1) (y0 : 0 ≤ y) (y1 : y ≤ g.ny - 1) (z0 : 0 ≤ z) (z1 : z ≤ (g.alts.length : Int) - 1) :
    Calls Try.prog 32 #[gv g A1 c1 A2 c2 A3 c3, .int .i64 x, .int .i64 y, .int .i64 z] w fun e w' => e = .returned (.int .i64 (idx g x y z)) ∧ Ext w w' := by
  have b := idx_in h x0 x1 y0 y1 z0 z1
  obtain ⟨b1, b2, b3, b4, b5, b6⟩ := b
  have n1 := h.nx2
  have n2 := h.ny2
  unfold idx at b5 ⊢
  clear b5 b6
  go_enter Try.func32, Try.ntmps32
  go_wp2_with fail
  go_ret
  exact ⟨rfl, (Below.refl _ _).alloc (Nat.le_refl _) _⟩

theorem blend_range {f c u v : Int} (hf0 : 0 ≤ f) (hf1 : f ≤ c) (hc0 : 0 < c) (hc1 : c ≤ 10000000) (hu1 : -4000 ≤ u) (hu2 : u ≤ 4000) (hv1 : -4000 ≤ v) (hv2 : v ≤ 4000) :
    -(8000 * 10000000) ≤ (v - u) * f ∧ (v - u) * f ≤ 8000 * 10000000 ∧ -8000 ≤ (v - u) * f / c ∧ (v - u) * f / c ≤ 8000 := by
  have h1 : (v - u) * f ≤ 8000 * f := Int.mul_le_mul_of_nonneg_right (by omega) hf0
  have h2 : -8000 * f ≤ (v - u) * f := Int.mul_le_mul_of_nonneg_right (by omega) hf0
  refine ⟨by omega, by omega, (Int.le_ediv_iff_mul_le hc0).2 (by omega), Int.le_of_lt_add_one ((Int.ediv_lt_iff_lt_mul hc0).2 (by omega))⟩
set_option maxHeartbeats 1000000 in
theorem blend_x (i f c u v : Int) (q1 q2 q3 q4 : Value) (w : World) (hi0 : 0 ≤ i) (hi1 : i ≤ 100) (hf0 : 0 ≤ f) (hf1 : f ≤ c) (hc0 : 0 < c) (hc1 : c ≤ 10000000) (hu1 : -4000 ≤ u) (hu2 : u ≤ 4000) (hv1 : -4000 ≤ v) (hv2 : v ≤ 4000)
    (hu : ∀ w', Ext w w' → Calls Try.prog 31 #[.int .i64 i, q1, q2, q3, q4] w' fun e w'' => e = .returned (.int .i64 u) ∧ Ext w' w'')
    (hv : f ≠ 0 → ∀ w', Ext w w' → Calls Try.prog 31 #[.int .i64 (i + 1), q1, q2, q3, q4] w' fun e w'' => e = .returned (.int .i64 v) ∧ Ext w' w'') :
    Calls Try.prog 28 #[.agg #[.int .i64 i, .int .i64 f, .int .i64 c], .func (.func 31) #[] #[q1, q2, q3, q4]] w fun e w' => e = .returned (.int .i64 (bl f c u v)) ∧ Ext w w' := by
  have HU := hide hu
  have HV := hide hv
  clear hu hv
  go_enter Try.func28, Try.ntmps28
  go_wp2_with fail
  refine (HU.out _ ((Below.refl _ _).alloc (Nat.le_refl _) _)).mono ?_
  rintro e w1 ⟨rfl, hx⟩
  have HX := hide (Ext.trans ((Below.refl _ _).alloc (Nat.le_refl _) _) hx)
  obtain ⟨hc, -⟩ := bcell hx
  have hz := hx.size
  clear hx
  cases hf : (f == 0)
  · go_wp2_with fail
    obtain ⟨wb, rfl⟩ : ∃ wb : World, wb = w := ⟨_, rfl⟩
    have hf' : f ≠ 0 := by simpa using hf
    obtain ⟨hm1, hm2, hm3, hm4⟩ := blend_range hf0 hf1 hc0 hc1 hu1 hu2 hv1 hv2
    have hsz : wb.heap.size < w1.heap.size := by simp at hz; omega
    clear hz
    refine wp_region_inv (w0 := w1) (V := [fun vv _ => vv = .func (.func 31) #[] #[q1, q2, q3, q4], fun vv _ => vv = .pointer (some ⟨wb.heap.size, 0, none⟩), fun vv _ => vv = .int .i64 i, fun vv _ => vv = .int .i64 (i + 1), fun vv _ => vv = .int .i64 v, fun vv _ => vv = .int .i64 u, fun vv _ => vv = .int .i64 (v - u), fun vv _ => vv = .pointer (some ⟨wb.heap.size, 1, none⟩), fun vv _ => vv = .int .i64 f, fun vv _ => vv = .int .i64 ((v - u) * f), fun vv _ => vv = .pointer (some ⟨wb.heap.size, 2, none⟩), fun vv _ => vv = .int .i64 c, fun vv _ => vv = .tuple #[.int .i64 ((v - u) * f / c), .int .i64 0], fun vv _ => vv = .tuple #[.int .i64 ((v - u) * f / c), .int .i64 0], fun vv _ => vv = .int .i64 ((v - u) * f / c), fun vv _ => vv = .int .i64 0, fun vv _ => vv = .int .i64 ((v - u) * f / c), fun vv _ => vv = .int .i64 0]) (by kernel_rfl) (by kernel_rfl) (stable_nth ?_) ?_ ?_
    · exact ⟨Stable.eq _, Stable.eq _, Stable.eq _, Stable.eq _, Stable.eq _, Stable.eq _, Stable.eq _, Stable.eq _, Stable.eq _, Stable.eq _, Stable.eq _, Stable.eq _, Stable.eq _, Stable.eq _, Stable.eq _, Stable.eq _, Stable.eq _, Stable.eq _, trivial⟩
    · intro U A hA
      simp only [putFrom, Act.put, List.setIfInBounds_toArray, List.set_cons_zero, List.set_cons_succ] at hA
      subst hA
      refine ⟨?_, ?_, ?_, ?_, ?_, ?_, ?_, ?_, ?_, ?_, ?_, ?_, ?_, ?_, ?_, ?_, ?_, ?_, trivial⟩
      all_goals
        intro w hx hp
        dsimp only [Preds, nth, pick] at hp
        try simp only [hp]
        obtain ⟨hc2, -⟩ := bcell hx
        have hz2 := hx.size
      case refine_5 =>
        go_wp2_with fail
        refine (HV.out hf' _ (Ext.trans HX.out hx)).mono ?_
        rintro e w3 ⟨rfl, hx3⟩
        go_wp2_with fail
        exact ⟨_, rfl, rfl, hx3⟩
      case refine_13 =>
        go_wp2_with fail
        refine (floor_any _ _ (by unfold i64; omega) (by unfold i64; omega) hc0 (by omega) _).mono ?_
        rintro e w3 ⟨rfl, n, rfl⟩
        go_wp2_with fail
        exact ⟨_, rfl, rfl, below_drewN (Below.refl _ _) n⟩
      all_goals
        go_wp2
        exact ⟨_, rfl, rfl, Below.refl _ _⟩
    · intro U A w hA hx h
      simp only [putFrom, Act.put, List.setIfInBounds_toArray, List.set_cons_zero, List.set_cons_succ] at hA
      subst hA
      have h16 : U 16 = .int .i64 ((v - u) * f / c) := h 16 (by decide)
      simp only [h16]
      go_wp2_with fail
      go_ret
      exact ⟨ret_int (by unfold bl; rw [if_neg hf']), Ext.trans HX.out hx⟩
  · go_wp2_with fail
    go_ret
    exact ⟨ret_int (by unfold bl; rw [if_pos (by simpa using hf)]), HX.out⟩
set_option maxHeartbeats 1000000 in
theorem blend_y (i f c u v : Int) (q1 q2 q3 q4 : Value) (w : World) (hi0 : 0 ≤ i) (hi1 : i ≤ 100) (hf0 : 0 ≤ f) (hf1 : f ≤ c) (hc0 : 0 < c) (hc1 : c ≤ 10000000) (hu1 : -4000 ≤ u) (hu2 : u ≤ 4000) (hv1 : -4000 ≤ v) (hv2 : v ≤ 4000)
    (hu : ∀ w', Ext w w' → Calls Try.prog 30 #[.int .i64 i, q1, q2, q3, q4] w' fun e w'' => e = .returned (.int .i64 u) ∧ Ext w' w'')
    (hv : f ≠ 0 → ∀ w', Ext w w' → Calls Try.prog 30 #[.int .i64 (i + 1), q1, q2, q3, q4] w' fun e w'' => e = .returned (.int .i64 v) ∧ Ext w' w'') :
    Calls Try.prog 28 #[.agg #[.int .i64 i, .int .i64 f, .int .i64 c], .func (.func 30) #[] #[q1, q2, q3, q4]] w fun e w' => e = .returned (.int .i64 (bl f c u v)) ∧ Ext w w' := by
  have HU := hide hu
  have HV := hide hv
  clear hu hv
  go_enter Try.func28, Try.ntmps28
  go_wp2_with fail
  refine (HU.out _ ((Below.refl _ _).alloc (Nat.le_refl _) _)).mono ?_
  rintro e w1 ⟨rfl, hx⟩
  have HX := hide (Ext.trans ((Below.refl _ _).alloc (Nat.le_refl _) _) hx)
  obtain ⟨hc, -⟩ := bcell hx
  have hz := hx.size
  clear hx
  cases hf : (f == 0)
  · go_wp2_with fail
    obtain ⟨wb, rfl⟩ : ∃ wb : World, wb = w := ⟨_, rfl⟩
    have hf' : f ≠ 0 := by simpa using hf
    obtain ⟨hm1, hm2, hm3, hm4⟩ := blend_range hf0 hf1 hc0 hc1 hu1 hu2 hv1 hv2
    have hsz : wb.heap.size < w1.heap.size := by simp at hz; omega
    clear hz
    refine wp_region_inv (w0 := w1) (V := [fun vv _ => vv = .func (.func 30) #[] #[q1, q2, q3, q4], fun vv _ => vv = .pointer (some ⟨wb.heap.size, 0, none⟩), fun vv _ => vv = .int .i64 i, fun vv _ => vv = .int .i64 (i + 1), fun vv _ => vv = .int .i64 v, fun vv _ => vv = .int .i64 u, fun vv _ => vv = .int .i64 (v - u), fun vv _ => vv = .pointer (some ⟨wb.heap.size, 1, none⟩), fun vv _ => vv = .int .i64 f, fun vv _ => vv = .int .i64 ((v - u) * f), fun vv _ => vv = .pointer (some ⟨wb.heap.size, 2, none⟩), fun vv _ => vv = .int .i64 c, fun vv _ => vv = .tuple #[.int .i64 ((v - u) * f / c), .int .i64 0], fun vv _ => vv = .tuple #[.int .i64 ((v - u) * f / c), .int .i64 0], fun vv _ => vv = .int .i64 ((v - u) * f / c), fun vv _ => vv = .int .i64 0, fun vv _ => vv = .int .i64 ((v - u) * f / c), fun vv _ => vv = .int .i64 0]) (by kernel_rfl) (by kernel_rfl) (stable_nth ?_) ?_ ?_
    · exact ⟨Stable.eq _, Stable.eq _, Stable.eq _, Stable.eq _, Stable.eq _, Stable.eq _, Stable.eq _, Stable.eq _, Stable.eq _, Stable.eq _, Stable.eq _, Stable.eq _, Stable.eq _, Stable.eq _, Stable.eq _, Stable.eq _, Stable.eq _, Stable.eq _, trivial⟩
    · intro U A hA
      simp only [putFrom, Act.put, List.setIfInBounds_toArray, List.set_cons_zero, List.set_cons_succ] at hA
      subst hA
      refine ⟨?_, ?_, ?_, ?_, ?_, ?_, ?_, ?_, ?_, ?_, ?_, ?_, ?_, ?_, ?_, ?_, ?_, ?_, trivial⟩
      all_goals
        intro w hx hp
        dsimp only [Preds, nth, pick] at hp
        try simp only [hp]
        obtain ⟨hc2, -⟩ := bcell hx
        have hz2 := hx.size
      case refine_5 =>
        go_wp2_with fail
        refine (HV.out hf' _ (Ext.trans HX.out hx)).mono ?_
        rintro e w3 ⟨rfl, hx3⟩
        go_wp2_with fail
        exact ⟨_, rfl, rfl, hx3⟩
      case refine_13 =>
        go_wp2_with fail
        refine (floor_any _ _ (by unfold i64; omega) (by unfold i64; omega) hc0 (by omega) _).mono ?_
        rintro e w3 ⟨rfl, n, rfl⟩
        go_wp2_with fail
        exact ⟨_, rfl, rfl, below_drewN (Below.refl _ _) n⟩
      all_goals
        go_wp2
        exact ⟨_, rfl, rfl, Below.refl _ _⟩
    · intro U A w hA hx h
      simp only [putFrom, Act.put, List.setIfInBounds_toArray, List.set_cons_zero, List.set_cons_succ] at hA
      subst hA
      have h16 : U 16 = .int .i64 ((v - u) * f / c) := h 16 (by decide)
      simp only [h16]
      go_wp2_with fail
      go_ret
      exact ⟨ret_int (by unfold bl; rw [if_neg hf']), Ext.trans HX.out hx⟩
  · go_wp2_with fail
    go_ret
    exact ⟨ret_int (by unfold bl; rw [if_pos (by simpa using hf)]), HX.out⟩
set_option maxHeartbeats 1000000 in
theorem blend_z (i f c u v : Int) (q1 q2 q3 q4 : Value) (w : World) (hi0 : 0 ≤ i) (hi1 : i ≤ 100) (hf0 : 0 ≤ f) (hf1 : f ≤ c) (hc0 : 0 < c) (hc1 : c ≤ 10000000) (hu1 : -4000 ≤ u) (hu2 : u ≤ 4000) (hv1 : -4000 ≤ v) (hv2 : v ≤ 4000)
    (hu : ∀ w', Ext w w' → Calls Try.prog 29 #[.int .i64 i, q1, q2, q3, q4] w' fun e w'' => e = .returned (.int .i64 u) ∧ Ext w' w'')
    (hv : f ≠ 0 → ∀ w', Ext w w' → Calls Try.prog 29 #[.int .i64 (i + 1), q1, q2, q3, q4] w' fun e w'' => e = .returned (.int .i64 v) ∧ Ext w' w'') :
    Calls Try.prog 28 #[.agg #[.int .i64 i, .int .i64 f, .int .i64 c], .func (.func 29) #[] #[q1, q2, q3, q4]] w fun e w' => e = .returned (.int .i64 (bl f c u v)) ∧ Ext w w' := by
  have HU := hide hu
  have HV := hide hv
  clear hu hv
  go_enter Try.func28, Try.ntmps28
  go_wp2_with fail
  refine (HU.out _ ((Below.refl _ _).alloc (Nat.le_refl _) _)).mono ?_
  rintro e w1 ⟨rfl, hx⟩
  have HX := hide (Ext.trans ((Below.refl _ _).alloc (Nat.le_refl _) _) hx)
  obtain ⟨hc, -⟩ := bcell hx
  have hz := hx.size
  clear hx
  cases hf : (f == 0)
  · go_wp2_with fail
    obtain ⟨wb, rfl⟩ : ∃ wb : World, wb = w := ⟨_, rfl⟩
    have hf' : f ≠ 0 := by simpa using hf
    obtain ⟨hm1, hm2, hm3, hm4⟩ := blend_range hf0 hf1 hc0 hc1 hu1 hu2 hv1 hv2
    have hsz : wb.heap.size < w1.heap.size := by simp at hz; omega
    clear hz
    refine wp_region_inv (w0 := w1) (V := [fun vv _ => vv = .func (.func 29) #[] #[q1, q2, q3, q4], fun vv _ => vv = .pointer (some ⟨wb.heap.size, 0, none⟩), fun vv _ => vv = .int .i64 i, fun vv _ => vv = .int .i64 (i + 1), fun vv _ => vv = .int .i64 v, fun vv _ => vv = .int .i64 u, fun vv _ => vv = .int .i64 (v - u), fun vv _ => vv = .pointer (some ⟨wb.heap.size, 1, none⟩), fun vv _ => vv = .int .i64 f, fun vv _ => vv = .int .i64 ((v - u) * f), fun vv _ => vv = .pointer (some ⟨wb.heap.size, 2, none⟩), fun vv _ => vv = .int .i64 c, fun vv _ => vv = .tuple #[.int .i64 ((v - u) * f / c), .int .i64 0], fun vv _ => vv = .tuple #[.int .i64 ((v - u) * f / c), .int .i64 0], fun vv _ => vv = .int .i64 ((v - u) * f / c), fun vv _ => vv = .int .i64 0, fun vv _ => vv = .int .i64 ((v - u) * f / c), fun vv _ => vv = .int .i64 0]) (by kernel_rfl) (by kernel_rfl) (stable_nth ?_) ?_ ?_
    · exact ⟨Stable.eq _, Stable.eq _, Stable.eq _, Stable.eq _, Stable.eq _, Stable.eq _, Stable.eq _, Stable.eq _, Stable.eq _, Stable.eq _, Stable.eq _, Stable.eq _, Stable.eq _, Stable.eq _, Stable.eq _, Stable.eq _, Stable.eq _, Stable.eq _, trivial⟩
    · intro U A hA
      simp only [putFrom, Act.put, List.setIfInBounds_toArray, List.set_cons_zero, List.set_cons_succ] at hA
      subst hA
      refine ⟨?_, ?_, ?_, ?_, ?_, ?_, ?_, ?_, ?_, ?_, ?_, ?_, ?_, ?_, ?_, ?_, ?_, ?_, trivial⟩
      all_goals
        intro w hx hp
        dsimp only [Preds, nth, pick] at hp
        try simp only [hp]
        obtain ⟨hc2, -⟩ := bcell hx
        have hz2 := hx.size
      case refine_5 =>
        go_wp2_with fail
        refine (HV.out hf' _ (Ext.trans HX.out hx)).mono ?_
        rintro e w3 ⟨rfl, hx3⟩
        go_wp2_with fail
        exact ⟨_, rfl, rfl, hx3⟩
      case refine_13 =>
        go_wp2_with fail
        refine (floor_any _ _ (by unfold i64; omega) (by unfold i64; omega) hc0 (by omega) _).mono ?_
        rintro e w3 ⟨rfl, n, rfl⟩
        go_wp2_with fail
        exact ⟨_, rfl, rfl, below_drewN (Below.refl _ _) n⟩
      all_goals
        go_wp2
        exact ⟨_, rfl, rfl, Below.refl _ _⟩
    · intro U A w hA hx h
      simp only [putFrom, Act.put, List.setIfInBounds_toArray, List.set_cons_zero, List.set_cons_succ] at hA
      subst hA
      have h16 : U 16 = .int .i64 ((v - u) * f / c) := h 16 (by decide)
      simp only [h16]
      go_wp2_with fail
      go_ret
      exact ⟨ret_int (by unfold bl; rw [if_neg hf']), Ext.trans HX.out hx⟩
  · go_wp2_with fail
    go_ret
    exact ⟨ret_int (by unfold bl; rw [if_pos (by simpa using hf)]), HX.out⟩
end Go.Proofs.Ytfgeoeipnidfhaa
