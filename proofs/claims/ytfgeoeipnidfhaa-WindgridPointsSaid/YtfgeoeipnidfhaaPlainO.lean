/- Forecasts at clamped places and at the lattice's places: plain mathematics over the walks' words. -/
import Derived.Test.YtfgeoeipnidfhaaEnc
import Derived.Test.YtfgeoeipnidfhaaLat
namespace Go.Proofs.Ytfgeoeipnidfhaa
open Go.RowKit Go.Base Wg

theorem atE_ok {g : Grid} {x y alt : Int} (h : atE g x y alt = 0) : chk g = 0 ∧ (-2000000 ≤ x ∧ x ≤ 2000000) ∧ (-2000000 ≤ y ∧ y ≤ 2000000) ∧ -200000 ≤ alt ∧ alt ≤ 6000000 := by
  unfold atE at h
  split at h
  · rename_i hc
    split at h
    · rename_i hb
      simp only [Bool.and_eq_true, inPlane, altOk, inR_iff] at hb
      exact ⟨hc, hb.1.1, hb.1.2, hb.2⟩
    · cases h
  · rename_i hc; exact absurd h hc
theorem out_plain {g : Grid} {x y alt : Int} (h : atE g x y alt = 0) :
    atE g (clamp x g.cx (g.cx + (g.nx - 1) * g.cell)) (clamp y g.cy (g.cy + (g.ny - 1) * g.cell)) (levA g.alts alt) = 0 ∧
    ∀ p, atP p g (clamp x g.cx (g.cx + (g.nx - 1) * g.cell)) (clamp y g.cy (g.cy + (g.ny - 1) * g.cell)) (levA g.alts alt) = atP p g x y alt := by
  obtain ⟨hc, hx, hy, ha⟩ := atE_ok h
  have ho := ok_of hc
  have m1 : 0 ≤ (g.nx - 1) * g.cell := Int.mul_nonneg (by have := ho.nx1; omega) (by have := ho.cell1; omega)
  have m2 : 0 ≤ (g.ny - 1) * g.cell := Int.mul_nonneg (by have := ho.ny1; omega) (by have := ho.cell1; omega)
  have e1 := clamp_in (x := x) (lo := g.cx) (hi := g.cx + (g.nx - 1) * g.cell) (a := -2000000) (b := 2000000) (by omega) hx.1 hx.2 ho.cx1 ho.cx2
  have e2 := clamp_in (x := y) (lo := g.cy) (hi := g.cy + (g.ny - 1) * g.cell) (a := -2000000) (b := 2000000) (by omega) hy.1 hy.2 ho.cy1 ho.cy2
  have a0 := ho.alts 0 ho.al1
  have e3 : -200000 ≤ levA g.alts alt ∧ levA g.alts alt ≤ 6000000 := by
    unfold levA
    exact clamp_in (lev_ends ho.al1 ho.ord) ha.1 ha.2 (by rw [getD_lt ho.al1]; exact a0.1) (by rw [getD_lt ho.al1]; exact a0.2)
  have he := atE_in hc ⟨e1, e2, e3⟩
  refine ⟨he, fun p => ?_⟩
  unfold atP
  rw [if_pos he, if_pos h]
  unfold atV
  rw [(side_clamp ho.nx1 ho.cell1).1, (side_clamp ho.nx1 ho.cell1).2, (side_clamp ho.ny1 ho.cell1).1, (side_clamp ho.ny1 ho.cell1).2, (lev_clamp ho.al1 ho.ord alt).1, (lev_clamp ho.al1 ho.ord alt).2.1, (lev_clamp ho.al1 ho.ord alt).2.2]
/-- The place of number i. -/
theorem pt_in {g : Grid} (h : Ok g) {i : Int} (h0 : 0 ≤ i) (h1 : i < count g) : (0 ≤ i % g.nx ∧ i % g.nx ≤ g.nx - 1) ∧ (0 ≤ i / g.nx % g.ny ∧ i / g.nx % g.ny ≤ g.ny - 1) ∧ (0 ≤ i / g.nx / g.ny ∧ i / g.nx / g.ny < g.alts.length) ∧ idx g (i % g.nx) (i / g.nx % g.ny) (i / g.nx / g.ny) = i := by
  have hn := h.nx1
  have hm := h.ny1
  have d0 : 0 ≤ i / g.nx := Int.ediv_nonneg h0 (by omega)
  refine ⟨⟨Int.emod_nonneg _ (by omega), by have := Int.emod_lt_of_pos i (show 0 < g.nx by omega); omega⟩, ⟨Int.emod_nonneg _ (by omega), by have := Int.emod_lt_of_pos (i / g.nx) (show 0 < g.ny by omega); omega⟩, ⟨Int.ediv_nonneg d0 (by omega), ?_⟩, ?_⟩
  · unfold count at h1
    refine Int.ediv_lt_of_lt_mul (by omega) (Int.ediv_lt_of_lt_mul (by omega) ?_)
    rw [Int.mul_comm, Int.mul_comm (g.alts.length : Int), ← Int.mul_assoc]
    exact h1
  · unfold idx
    rw [Int.mul_comm (i / g.nx / g.ny), Int.mul_ediv_add_emod, Int.mul_comm (i / g.nx), Int.mul_ediv_add_emod]
theorem pt_plain {g : Grid} (hc : chk g = 0) {i : Int} (h0 : 0 ≤ i) (h1 : i < count g) {z : Nat} (hz : (z : Int) = i / g.nx / g.ny) (hzl : z < g.alts.length)
    (hx : g.cx + i % g.nx * g.cell ≤ 2000000) (hy : g.cy + i / g.nx % g.ny * g.cell ≤ 2000000) :
    atE g (g.cx + i % g.nx * g.cell) (g.cy + i / g.nx % g.ny * g.cell) g.alts[z] = 0 ∧ ∀ p, atP p g (g.cx + i % g.nx * g.cell) (g.cy + i / g.nx % g.ny * g.cell) g.alts[z] = partV p g i := by
  have ho := ok_of hc
  obtain ⟨hj, hk, _, hi⟩ := pt_in ho h0 h1
  rw [← hz] at hi
  have m1 : 0 ≤ i % g.nx * g.cell := Int.mul_nonneg hj.1 (by have := ho.cell1; omega)
  have m2 : 0 ≤ i / g.nx % g.ny * g.cell := Int.mul_nonneg hk.1 (by have := ho.cell1; omega)
  have he := atE_in (g := g) hc ⟨⟨show -2000000 ≤ g.cx + i % g.nx * g.cell by have := ho.cx1; omega, hx⟩, ⟨show -2000000 ≤ g.cy + i / g.nx % g.ny * g.cell by have := ho.cy1; omega, hy⟩, ho.alts z hzl⟩
  refine ⟨he, fun p => ?_⟩
  unfold atP
  rw [if_pos he]
  unfold atV allV
  rw [lev_lat ho.al1 ho.ord hzl fun z => layV p g (sideI g.cx g.cell g.nx (g.cx + i % g.nx * g.cell)) (sideF g.cx g.cell g.nx (g.cx + i % g.nx * g.cell)) g.cell (sideI g.cy g.cell g.ny (g.cy + i / g.nx % g.ny * g.cell)) (sideF g.cy g.cell g.ny (g.cy + i / g.nx % g.ny * g.cell)) g.cell z]
  unfold layV
  rw [side_lat ho.ny1 ho.cell1 hk.1 hk.2 fun y => rowV p g (sideI g.cx g.cell g.nx (g.cx + i % g.nx * g.cell)) (sideF g.cx g.cell g.nx (g.cx + i % g.nx * g.cell)) g.cell y z]
  unfold rowV
  rw [side_lat ho.nx1 ho.cell1 hj.1 hj.2 fun x => vx p g x (i / g.nx % g.ny) z]
  unfold vx
  rw [hi]
theorem pt_far {g : Grid} (hc : chk g = 0) {x y a : Int} (h : 2000000 < x ∨ 2000000 < y) : atE g x y a = 2 := by
  unfold atE
  rw [if_pos hc, if_neg]
  simp only [Bool.and_eq_true, inPlane, inR_iff]
  omega
end Go.Proofs.Ytfgeoeipnidfhaa
