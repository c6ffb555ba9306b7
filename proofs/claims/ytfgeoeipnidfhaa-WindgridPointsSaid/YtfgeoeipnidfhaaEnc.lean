/- The hull encloses what lies in it, and grows with the rectangle: plain mathematics over the walks' words. -/
import Derived.Test.YtfgeoeipnidfhaaHullp
namespace Go.Proofs.Ytfgeoeipnidfhaa
open Go.RowKit Go.Base Wg

/-- An interval within another one. -/
def sub (s t : Int × Int) : Prop := t.1 ≤ s.1 ∧ s.2 ≤ t.2
def has (t : Int × Int) (v : Int) : Prop := t.1 ≤ v ∧ v ≤ t.2
theorem sub.refl (s : Int × Int) : sub s s := ⟨Int.le_refl _, Int.le_refl _⟩
theorem sub.trans {s t u : Int × Int} (h : sub s t) (k : sub t u) : sub s u := ⟨Int.le_trans k.1 h.1, Int.le_trans h.2 k.2⟩
theorem has.sub {s t : Int × Int} {v : Int} (h : has s v) (k : sub s t) : has t v := ⟨Int.le_trans k.1 h.1, Int.le_trans h.2 k.2⟩
theorem mm_sub (s : Int × Int) (v : Int) : sub s (mm s v) := by unfold sub mm; simp only; omega
theorem mm_has (s : Int × Int) (v : Int) : has (mm s v) v := by unfold has mm; simp only; omega
theorem rowH_sub (p : Nat) (g : Grid) (x0 y z : Int) : ∀ (n : Nat) (s : Int × Int), sub s (rowH p g x0 y z n s)
  | 0, s => sub.refl s
  | n + 1, s => (rowH_sub p g x0 y z n s).trans (mm_sub _ _)
theorem layH_sub (p : Nat) (g : Grid) (x0 : Int) (nx : Nat) (y0 z : Int) : ∀ (n : Nat) (s : Int × Int), sub s (layH p g x0 nx y0 z n s)
  | 0, s => sub.refl s
  | n + 1, s => (layH_sub p g x0 nx y0 z n s).trans (rowH_sub _ _ _ _ _ _ _)
theorem allH_sub (p : Nat) (g : Grid) (x0 : Int) (nx : Nat) (y0 : Int) (ny : Nat) (z0 : Int) : ∀ (n : Nat) (s : Int × Int), sub s (allH p g x0 nx y0 ny z0 n s)
  | 0, s => sub.refl s
  | n + 1, s => (allH_sub p g x0 nx y0 ny z0 n s).trans (layH_sub _ _ _ _ _ _ _ _)
theorem rowH_has (p : Nat) (g : Grid) (x0 y z : Int) : ∀ (n : Nat) (s : Int × Int) (k : Nat), k < n → has (rowH p g x0 y z n s) (vx p g (x0 + k) y z)
  | 0, _, _, h => absurd h (by omega)
  | n + 1, s, k, h => by
    by_cases e : k = n
    · subst e; exact mm_has _ _
    · exact (rowH_has p g x0 y z n s k (by omega)).sub (mm_sub _ _)
theorem layH_has (p : Nat) (g : Grid) (x0 : Int) (nx : Nat) (y0 z : Int) : ∀ (n : Nat) (s : Int × Int) (j k : Nat), j < n → k < nx → has (layH p g x0 nx y0 z n s) (vx p g (x0 + k) (y0 + j) z)
  | 0, _, _, _, h, _ => absurd h (by omega)
  | n + 1, s, j, k, h, hk => by
    by_cases e : j = n
    · subst e; exact rowH_has p g x0 _ z nx _ k hk
    · exact (layH_has p g x0 nx y0 z n s j k (by omega) hk).sub (rowH_sub _ _ _ _ _ _ _)
theorem allH_has (p : Nat) (g : Grid) (x0 : Int) (nx : Nat) (y0 : Int) (ny : Nat) (z0 : Int) : ∀ (n : Nat) (s : Int × Int) (i j k : Nat), i < n → j < ny → k < nx → has (allH p g x0 nx y0 ny z0 n s) (vx p g (x0 + k) (y0 + j) (z0 + i))
  | 0, _, _, _, _, h, _, _ => absurd h (by omega)
  | n + 1, s, i, j, k, h, hj, hk => by
    by_cases e : i = n
    · subst e; exact layH_has p g x0 nx y0 _ ny _ j k hj hk
    · exact (allH_has p g x0 nx y0 ny z0 n s i j k (by omega) hj hk).sub (layH_sub _ _ _ _ _ _ _ _)
theorem hullV_has (p : Nat) (g : Grid) {x0 x1 y0 y1 z0 z1 x y z : Int} (hx0 : x0 ≤ x) (hx1 : x ≤ x1) (hy0 : y0 ≤ y) (hy1 : y ≤ y1) (hz0 : z0 ≤ z) (hz1 : z ≤ z1) : has (hullV p g x0 x1 y0 y1 z0 z1) (vx p g x y z) := by
  obtain ⟨k, hk⟩ : ∃ k : Nat, x = x0 + k := ⟨(x - x0).toNat, by omega⟩
  obtain ⟨j, hj⟩ : ∃ k : Nat, y = y0 + k := ⟨(y - y0).toNat, by omega⟩
  obtain ⟨i, hi⟩ : ∃ k : Nat, z = z0 + k := ⟨(z - z0).toNat, by omega⟩
  subst hk hj hi
  exact allH_has p g x0 _ y0 _ z0 _ _ i j k (by unfold cnt; omega) (by unfold cnt; omega) (by unfold cnt; omega)
theorem mm_bound {s t : Int × Int} {v : Int} (h : sub s t) (k : has t v) : sub (mm s v) t := by unfold sub mm has at *; simp only; omega
theorem rowH_bound (p : Nat) (g : Grid) (x0 y z : Int) (t : Int × Int) : ∀ (n : Nat) (s : Int × Int), (∀ k : Nat, k < n → has t (vx p g (x0 + k) y z)) → sub s t → sub (rowH p g x0 y z n s) t
  | 0, _, _, hs => hs
  | n + 1, s, h, hs => mm_bound (rowH_bound p g x0 y z t n s (fun k hk => h k (by omega)) hs) (h n (by omega))
theorem layH_bound (p : Nat) (g : Grid) (x0 : Int) (nx : Nat) (y0 z : Int) (t : Int × Int) : ∀ (n : Nat) (s : Int × Int), (∀ j k : Nat, j < n → k < nx → has t (vx p g (x0 + k) (y0 + j) z)) → sub s t → sub (layH p g x0 nx y0 z n s) t
  | 0, _, _, hs => hs
  | n + 1, s, h, hs => rowH_bound p g x0 _ z t nx _ (fun k hk => h n k (by omega) hk) (layH_bound p g x0 nx y0 z t n s (fun j k hj hk => h j k (by omega) hk) hs)
theorem allH_bound (p : Nat) (g : Grid) (x0 : Int) (nx : Nat) (y0 : Int) (ny : Nat) (z0 : Int) (t : Int × Int) : ∀ (n : Nat) (s : Int × Int), (∀ i j k : Nat, i < n → j < ny → k < nx → has t (vx p g (x0 + k) (y0 + j) (z0 + i))) → sub s t → sub (allH p g x0 nx y0 ny z0 n s) t
  | 0, _, _, hs => hs
  | n + 1, s, h, hs => layH_bound p g x0 nx y0 _ t ny _ (fun j k hj hk => h n j k (by omega) hj hk) (allH_bound p g x0 nx y0 ny z0 t n s (fun i j k hi hj hk => h i j k (by omega) hj hk) hs)
/-- A box within another one has a hull within the other's. -/
theorem hullV_sub (p : Nat) (g : Grid) {x0 x1 y0 y1 z0 z1 a0 a1 b0 b1 c0 c1 : Int} (hx : x0 ≤ x1) (hy : y0 ≤ y1) (hz : z0 ≤ z1) (h1 : a0 ≤ x0) (h2 : x1 ≤ a1) (h3 : b0 ≤ y0) (h4 : y1 ≤ b1) (h5 : c0 ≤ z0) (h6 : z1 ≤ c1) : sub (hullV p g x0 x1 y0 y1 z0 z1) (hullV p g a0 a1 b0 b1 c0 c1) := by
  have hv := hullV_has p g h1 (by omega : x0 ≤ a1) h3 (by omega : y0 ≤ b1) h5 (by omega : z0 ≤ c1)
  unfold hullV at hv ⊢
  refine allH_bound p g x0 _ y0 _ z0 _ _ _ (fun i j k hi hj hk => ?_) ⟨hv.1, hv.2⟩
  unfold cnt at hi hj hk
  have := hullV_has p g (x0 := a0) (x1 := a1) (y0 := b0) (y1 := b1) (z0 := c0) (z1 := c1) (x := x0 + k) (y := y0 + j) (z := z0 + i) (by omega) (by omega) (by omega) (by omega) (by omega) (by omega)
  unfold hullV at this
  exact this

theorem allV_has (p : Nat) (g : Grid) {t : Int × Int} {X0 X1 Y0 Y1 Z0 Z1 xi xf xc yi yf yc zi zf zc : Int} (h : ∀ x y z, X0 ≤ x → x ≤ X1 → Y0 ≤ y → y ≤ Y1 → Z0 ≤ z → z ≤ Z1 → has t (vx p g x y z))
    (sx : 0 ≤ xf ∧ xf ≤ xc ∧ 0 < xc) (sy : 0 ≤ yf ∧ yf ≤ yc ∧ 0 < yc) (sz : 0 ≤ zf ∧ zf ≤ zc ∧ 0 < zc)
    (x0 : X0 ≤ xi) (x1 : xi ≤ X1) (x2 : xf ≠ 0 → xi + 1 ≤ X1) (y0 : Y0 ≤ yi) (y1 : yi ≤ Y1) (y2 : yf ≠ 0 → yi + 1 ≤ Y1) (z0 : Z0 ≤ zi) (z1 : zi ≤ Z1) (z2 : zf ≠ 0 → zi + 1 ≤ Z1) : has t (allV p g xi xf xc yi yf yc zi zf zc) := by
  have hr : ∀ y z, Y0 ≤ y → y ≤ Y1 → Z0 ≤ z → z ≤ Z1 → has t (rowV p g xi xf xc y z) := fun y z a b c d =>
    bl_in sx.2.2 sx.1 sx.2.1 (h xi y z x0 x1 a b c d).1 (h xi y z x0 x1 a b c d).2 fun hf => h (xi + 1) y z (by omega) (x2 hf) a b c d
  have hl : ∀ z, Z0 ≤ z → z ≤ Z1 → has t (layV p g xi xf xc yi yf yc z) := fun z c d =>
    bl_in sy.2.2 sy.1 sy.2.1 (hr yi z y0 y1 c d).1 (hr yi z y0 y1 c d).2 fun hf => hr (yi + 1) z (by omega) (y2 hf) c d
  exact bl_in sz.2.2 sz.1 sz.2.1 (hl zi z0 z1).1 (hl zi z0 z1).2 fun hf => hl (zi + 1) (by omega) (z2 hf)

structure Sp0 where
  x : Int
  y : Int
  alt : Int
  e : Int
  n : Int
def inside (a : Ar) (s : Sp0) : Prop := (min a.ax a.bx ≤ s.x ∧ s.x ≤ max a.ax a.bx) ∧ (min a.ay a.by_ ≤ s.y ∧ s.y ≤ max a.ay a.by_) ∧ a.lo ≤ s.alt ∧ s.alt ≤ a.hi
theorem hullE_ok {g : Grid} {a : Ar} (h : hullE g a = 0) : Ok g ∧ (-2000000 ≤ a.ax ∧ a.ax ≤ 2000000 ∧ -2000000 ≤ a.ay ∧ a.ay ≤ 2000000) ∧ (-2000000 ≤ a.bx ∧ a.bx ≤ 2000000 ∧ -2000000 ≤ a.by_ ∧ a.by_ ≤ 2000000) ∧ -200000 ≤ a.lo ∧ a.lo ≤ a.hi ∧ a.hi ≤ 6000000 ∧ chk g = 0 := by
  unfold hullE at h
  split at h
  · rename_i hc
    split at h
    · rename_i hb
      simp only [Bool.and_eq_true, decide_eq_true_eq, inPlane, inR_iff] at hb
      exact ⟨ok_of hc, ⟨hb.1.1.1, hb.1.1.2, hb.1.2.1, hb.1.2.2⟩, ⟨hb.2.1.1.1, hb.2.1.1.2, hb.2.1.2.1, hb.2.1.2.2⟩, hb.2.2.1, hb.2.2.2.1, hb.2.2.2.2, hc⟩
    · cases h
  · rename_i hc; exact absurd h hc
theorem atE_in {g : Grid} {x y alt : Int} (hc : chk g = 0) (h : (-2000000 ≤ x ∧ x ≤ 2000000) ∧ (-2000000 ≤ y ∧ y ≤ 2000000) ∧ -200000 ≤ alt ∧ alt ≤ 6000000) : atE g x y alt = 0 := by
  unfold atE
  rw [if_pos hc, if_pos (by simp only [Bool.and_eq_true, inPlane, altOk, inR_iff]; exact ⟨⟨h.1, h.2.1⟩, h.2.2⟩)]
theorem place_in {c cell n lo hi x : Int} (hn : 1 ≤ n) (hc : 1 ≤ cell) (hc2 : cell ≤ 2000000) (h1 : lo ≤ x) (h2 : x ≤ hi) : sideI c cell n lo ≤ sideI c cell n x ∧ sideI c cell n x ≤ min (sideI c cell n hi + 1) (n - 1) ∧ (sideF c cell n x ≠ 0 → sideI c cell n x + 1 ≤ min (sideI c cell n hi + 1) (n - 1)) := by
  have m1 := sideI_mono (c := c) (n := n) hc h1
  have m2 := sideI_mono (c := c) (n := n) hc h2
  have s := side_sp (c := c) (x := x) hn hc hc2
  have h3 := s.i1
  refine ⟨m1, by omega, fun hf => by have := s.s hf; omega⟩
theorem encloses (p : Nat) {g : Grid} {a : Ar} {s : Sp0} (h : hullE g a = 0) (hi : inside a s) : atE g s.x s.y s.alt = 0 ∧ has (hullR p g a) (atP p g s.x s.y s.alt) := by
  obtain ⟨ho, ha, hb, hl, hlh, hh, hc⟩ := hullE_ok h
  obtain ⟨ix, iy, iz⟩ := hi
  have he : atE g s.x s.y s.alt = 0 := atE_in hc ⟨by omega, by omega, by omega⟩
  refine ⟨he, ?_⟩
  unfold atP
  rw [if_pos he]
  have px := place_in (c := g.cx) ho.nx1 ho.cell1 ho.cell2 ix.1 ix.2
  have py := place_in (c := g.cy) ho.ny1 ho.cell1 ho.cell2 iy.1 iy.2
  have sx := side_sp (c := g.cx) (x := s.x) ho.nx1 ho.cell1 ho.cell2
  have sy := side_sp (c := g.cy) (x := s.y) ho.ny1 ho.cell1 ho.cell2
  have sz := lev_sp ho s.alt
  have z1 := levI_mono g.alts iz.1
  have z2 := levI_mono g.alts iz.2
  have z3 := sz.i1
  refine allV_has p g (fun x y z h1 h2 h3 h4 h5 h6 => hullV_has p g h1 h2 h3 h4 h5 h6) ⟨sx.f0, sx.f1, sx.c0⟩ ⟨sy.f0, sy.f1, sy.c0⟩ ⟨sz.f0, sz.f1, sz.c0⟩ px.1 px.2.1 px.2.2 py.1 py.2.1 py.2.2 ?_ ?_ ?_
  · unfold hZ0; omega
  · unfold hZ1; omega
  · intro hf
    have := sz.s hf
    unfold hZ1; omega
/-- Two spots of a rectangle and the rectangle between them. -/
theorem grows (p : Nat) {g : Grid} {a : Ar} {s t : Sp0} (h : hullE g a = 0) (hs : inside a s) (ht : inside a t) :
    hullE g ⟨s.x, s.y, t.x, t.y, min s.alt t.alt, max s.alt t.alt⟩ = 0 ∧ sub (hullR p g ⟨s.x, s.y, t.x, t.y, min s.alt t.alt, max s.alt t.alt⟩) (hullR p g a) := by
  obtain ⟨ho, ha, hb, hl, hlh, hh, hc⟩ := hullE_ok h
  obtain ⟨ix, iy, iz⟩ := hs
  obtain ⟨jx, jy, jz⟩ := ht
  refine ⟨?_, ?_⟩
  · unfold hullE
    rw [if_pos hc, if_pos]
    simp only [Bool.and_eq_true, decide_eq_true_eq, inPlane, inR_iff]
    omega
  · unfold hullR
    have b := hx_in ho ⟨s.x, s.y, t.x, t.y, min s.alt t.alt, max s.alt t.alt⟩
    have c := hy_in ho ⟨s.x, s.y, t.x, t.y, min s.alt t.alt, max s.alt t.alt⟩
    have d := hz_in ho ⟨s.x, s.y, t.x, t.y, min s.alt t.alt, max s.alt t.alt⟩ (by simp only; omega)
    have x1 := sideI_mono (c := g.cx) (n := g.nx) ho.cell1 (show min a.ax a.bx ≤ min s.x t.x by omega)
    have x2 := sideI_mono (c := g.cx) (n := g.nx) ho.cell1 (show max s.x t.x ≤ max a.ax a.bx by omega)
    have y1 := sideI_mono (c := g.cy) (n := g.ny) ho.cell1 (show min a.ay a.by_ ≤ min s.y t.y by omega)
    have y2 := sideI_mono (c := g.cy) (n := g.ny) ho.cell1 (show max s.y t.y ≤ max a.ay a.by_ by omega)
    have z1 := levI_mono g.alts (show a.lo ≤ min s.alt t.alt by omega)
    have z2 := levI_mono g.alts (show max s.alt t.alt ≤ a.hi by omega)
    refine hullV_sub p g b.2.1 c.2.1 d.2.1 ?_ ?_ ?_ ?_ ?_ ?_
    · exact x1
    · unfold hX1; simp only; omega
    · exact y1
    · unfold hY1; simp only; omega
    · unfold hZ0; simp only; omega
    · unfold hZ1; simp only; omega
end Go.Proofs.Ytfgeoeipnidfhaa
