/- The program's forecast at a place: three blends, one within the other. -/
import Derived.Test.YtfgeoeipnidfhaaClo
namespace Go.Proofs.Ytfgeoeipnidfhaa
open Go.RowKit Go.Base Wg

theorem at_x (p : Nat) (hp : p < 3) (g : Grid) (A1 A2 A3 : Option Addr) (c1 c2 c3 gb ob yb zb : Nat) (x y z : Int) (w : World) (h : Ok g) (hg : GIn w g A1 c1 A2 c2 A3 c3) (hgb : Bx w gb (gcells g A1 c1 A2 c2 A3 c3))
    (ho : Bx w ob [.func (.func (ofF p)) #[] #[.pointer (some ⟨gb, 0, none⟩)]]) (hy : Bx w yb [.int .i64 y]) (hz : Bx w zb [.int .i64 z])
    (x0 : 0 ≤ x) (x1 : x ≤ g.nx - 1) (y0 : 0 ≤ y) (y1 : y ≤ g.ny - 1) (z0 : 0 ≤ z) (z1 : z ≤ (g.alts.length : Int) - 1) :
    Calls Try.prog 31 #[.int .i64 x, .pointer (some ⟨ob, 0, none⟩), .pointer (some ⟨gb, 0, none⟩), .pointer (some ⟨yb, 0, none⟩), .pointer (some ⟨zb, 0, none⟩)] w fun e w' => e = .returned (.int .i64 (partV p g (idx g x y z))) ∧ Ext w w' := by
  rcases p with _ | _ | _ | p
  · exact at_x0 g A1 A2 A3 c1 c2 c3 gb ob yb zb x y z w h hg hgb ho hy hz x0 x1 y0 y1 z0 z1
  · exact at_x1 g A1 A2 A3 c1 c2 c3 gb ob yb zb x y z w h hg hgb ho hy hz x0 x1 y0 y1 z0 z1
  · exact at_x2 g A1 A2 A3 c1 c2 c3 gb ob yb zb x y z w h hg hgb ho hy hz x0 x1 y0 y1 z0 z1
  · omega

/-- A place among n values. -/
structure Sp (n i f c : Int) : Prop where
  i0 : 0 ≤ i
  i1 : i ≤ n - 1
  f0 : 0 ≤ f
  f1 : f ≤ c
  c0 : 0 < c
  c1 : c ≤ 10000000
  s : f ≠ 0 → i + 1 ≤ n - 1
theorem bl_alt (f c u v : Int) : bl f c u (if f = 0 then u else v) = bl f c u v := by
  unfold bl
  by_cases h : f = 0
  · simp [h]
  · simp [h]
def vx (p : Nat) (g : Grid) (x y z : Int) : Int := partV p g (idx g x y z)
def rowV (p : Nat) (g : Grid) (xi xf xc y z : Int) : Int := bl xf xc (vx p g xi y z) (vx p g (xi + 1) y z)
def layV (p : Nat) (g : Grid) (xi xf xc yi yf yc z : Int) : Int := bl yf yc (rowV p g xi xf xc yi z) (rowV p g xi xf xc (yi + 1) z)
def allV (p : Nat) (g : Grid) (xi xf xc yi yf yc zi zf zc : Int) : Int := bl zf zc (layV p g xi xf xc yi yf yc zi) (layV p g xi xf xc yi yf yc (zi + 1))
theorem vx_in (p : Nat) {g : Grid} (h : Ok g) {x y z : Int} (x0 : 0 ≤ x) (x1 : x ≤ g.nx - 1) (y0 : 0 ≤ y) (y1 : y ≤ g.ny - 1) (z0 : 0 ≤ z) (z1 : z ≤ (g.alts.length : Int) - 1) : -4000 ≤ vx p g x y z ∧ vx p g x y z ≤ 4000 := by
  obtain ⟨-, -, -, -, hi0, hi1⟩ := idx_in h x0 x1 y0 y1 z0 z1
  exact part_in p h hi0 hi1
theorem rowV_in (p : Nat) {g : Grid} (h : Ok g) {xi xf xc y z : Int} (sx : Sp g.nx xi xf xc) (y0 : 0 ≤ y) (y1 : y ≤ g.ny - 1) (z0 : 0 ≤ z) (z1 : z ≤ (g.alts.length : Int) - 1) : -4000 ≤ rowV p g xi xf xc y z ∧ rowV p g xi xf xc y z ≤ 4000 := by
  have h1 := vx_in p h sx.i0 sx.i1 y0 y1 z0 z1
  exact bl_in sx.c0 sx.f0 sx.f1 h1.1 h1.2 fun hf => vx_in p h (by have := sx.i0; omega) (sx.s hf) y0 y1 z0 z1
theorem layV_in (p : Nat) {g : Grid} (h : Ok g) {xi xf xc yi yf yc z : Int} (sx : Sp g.nx xi xf xc) (sy : Sp g.ny yi yf yc) (z0 : 0 ≤ z) (z1 : z ≤ (g.alts.length : Int) - 1) : -4000 ≤ layV p g xi xf xc yi yf yc z ∧ layV p g xi xf xc yi yf yc z ≤ 4000 := by
  have h1 := rowV_in p h sx sy.i0 sy.i1 z0 z1
  exact bl_in sy.c0 sy.f0 sy.f1 h1.1 h1.2 fun hf => rowV_in p h sx (by have := sy.i0; omega) (sy.s hf) z0 z1
theorem allV_in (p : Nat) {g : Grid} (h : Ok g) {xi xf xc yi yf yc zi zf zc : Int} (sx : Sp g.nx xi xf xc) (sy : Sp g.ny yi yf yc) (sz : Sp g.alts.length zi zf zc) : -4000 ≤ allV p g xi xf xc yi yf yc zi zf zc ∧ allV p g xi xf xc yi yf yc zi zf zc ≤ 4000 := by
  have h1 := layV_in p h sx sy sz.i0 sz.i1
  exact bl_in sz.c0 sz.f0 sz.f1 h1.1 h1.2 fun hf => layV_in p h sx sy (by have := sz.i0; omega) (sz.s hf)
theorem alt_in {f u v lo hi : Int} (hu : lo ≤ u ∧ u ≤ hi) (hv : f ≠ 0 → lo ≤ v ∧ v ≤ hi) : lo ≤ (if f = 0 then u else v) ∧ (if f = 0 then u else v) ≤ hi := by
  split
  · exact hu
  · rename_i h; exact hv h


set_option maxHeartbeats 400000 in
theorem at_y (p : Nat) (hp : p < 3) (g : Grid) (A1 A2 A3 : Option Addr) (c1 c2 c3 : Nat) (gb ob sb zb : Nat) (xi xf xc y z : Int) (w : World) (h : Ok g) (hg : GIn w g A1 c1 A2 c2 A3 c3) (hgb : Bx w gb (gcells g A1 c1 A2 c2 A3 c3)) (ho : Bx w ob [.func (.func (ofF p)) #[] #[.pointer (some ⟨gb, 0, none⟩)]]) (hs : Bx w sb [.int .i64 xi, .int .i64 xf, .int .i64 xc]) (hz : Bx w zb [.int .i64 z])
    (sx : Sp g.nx xi xf xc) (y0 : 0 ≤ y) (y1 : y ≤ g.ny - 1) (z0 : 0 ≤ z) (z1 : z ≤ (g.alts.length : Int) - 1) :
    Calls Try.prog 30 #[.int .i64 y, .pointer (some ⟨sb, 0, none⟩), .pointer (some ⟨ob, 0, none⟩), .pointer (some ⟨gb, 0, none⟩), .pointer (some ⟨zb, 0, none⟩)] w fun e w' => e = .returned (.int .i64 (rowV p g xi xf xc y z)) ∧ Ext w w' := by
  have hb1 := vx_in p h sx.i0 sx.i1 y0 y1 z0 z1
  have hb2 := alt_in hb1 fun hf => vx_in p h (show 0 ≤ xi + 1 by have := sx.i0; omega) (sx.s hf) y0 y1 z0 z1
  have hn1 := h.nx2
  have hn2 := h.ny2
  have hn3 := h.al2
  have hsp1 := sx.i0
  have hsp2 := sx.i1
  have HK := hide (show ∀ w', Ext (w.alloc (.cells #[.int .i64 y] 3)) w' → Calls Try.prog 28 #[.agg #[.int .i64 xi, .int .i64 xf, .int .i64 xc], .func (.func 31) #[] #[.pointer (some ⟨ob, 0, none⟩), .pointer (some ⟨gb, 0, none⟩), .pointer (some ⟨w.heap.size, 0, none⟩), .pointer (some ⟨zb, 0, none⟩)]] w' fun e w'' => e = .returned (.int .i64 (rowV p g xi xf xc y z)) ∧ Ext w' w'' from fun w' hx => by
    have := blend_x xi xf xc (vx p g xi y z) (if xf = 0 then (vx p g xi y z) else (vx p g (xi + 1) y z)) (.pointer (some ⟨ob, 0, none⟩)) (.pointer (some ⟨gb, 0, none⟩)) (.pointer (some ⟨w.heap.size, 0, none⟩)) (.pointer (some ⟨zb, 0, none⟩)) w' hsp1 (by omega) sx.f0 sx.f1 sx.c0 sx.c1 hb1.1 hb1.2 hb2.1 hb2.2
      (fun w2 hx2 => at_x p hp g A1 A2 A3 c1 c2 c3 gb ob w.heap.size zb xi y z w2 h (((hg.ext ((Below.refl _ _).alloc (Nat.le_refl _) _)).ext hx).ext hx2) (((hgb.ext ((Below.refl _ _).alloc (Nat.le_refl _) _)).ext hx).ext hx2) (((ho.ext ((Below.refl _ _).alloc (Nat.le_refl _) _)).ext hx).ext hx2) (((Bx.new w _ _ _).ext hx).ext hx2) (((hz.ext ((Below.refl _ _).alloc (Nat.le_refl _) _)).ext hx).ext hx2) hsp1 hsp2 y0 y1 z0 z1)
      (fun hf w2 hx2 => by
        rw [if_neg hf]
        exact at_x p hp g A1 A2 A3 c1 c2 c3 gb ob w.heap.size zb (xi + 1) y z w2 h (((hg.ext ((Below.refl _ _).alloc (Nat.le_refl _) _)).ext hx).ext hx2) (((hgb.ext ((Below.refl _ _).alloc (Nat.le_refl _) _)).ext hx).ext hx2) (((ho.ext ((Below.refl _ _).alloc (Nat.le_refl _) _)).ext hx).ext hx2) (((Bx.new w _ _ _).ext hx).ext hx2) (((hz.ext ((Below.refl _ _).alloc (Nat.le_refl _) _)).ext hx).ext hx2) (by omega) (sx.s hf) y0 y1 z0 z1)
    rw [bl_alt] at this
    exact this)
  obtain ⟨k1, k2, k3⟩ := hs.three
  have k4 := hs.lt
  clear hb1 hb2 hn1 hn2 hn3 hsp1 hsp2
  go_enter Try.func30, Try.ntmps30
  go_wp2_with fail
  refine (HK.out _ (Below.refl _ _)).mono ?_
  rintro e w' ⟨rfl, hx⟩
  go_wp2_with fail
  go_ret
  exact ⟨rfl, Ext.trans ((Below.refl _ _).alloc (Nat.le_refl _) _) hx⟩

set_option maxHeartbeats 400000 in
theorem at_z (p : Nat) (hp : p < 3) (g : Grid) (A1 A2 A3 : Option Addr) (c1 c2 c3 : Nat) (gb ob sb xb : Nat) (xi xf xc yi yf yc z : Int) (w : World) (h : Ok g) (hg : GIn w g A1 c1 A2 c2 A3 c3) (hgb : Bx w gb (gcells g A1 c1 A2 c2 A3 c3)) (ho : Bx w ob [.func (.func (ofF p)) #[] #[.pointer (some ⟨gb, 0, none⟩)]]) (hs : Bx w sb [.int .i64 yi, .int .i64 yf, .int .i64 yc]) (hx0 : Bx w xb [.int .i64 xi, .int .i64 xf, .int .i64 xc])
    (sx : Sp g.nx xi xf xc) (sy : Sp g.ny yi yf yc) (z0 : 0 ≤ z) (z1 : z ≤ (g.alts.length : Int) - 1) :
    Calls Try.prog 29 #[.int .i64 z, .pointer (some ⟨sb, 0, none⟩), .pointer (some ⟨xb, 0, none⟩), .pointer (some ⟨ob, 0, none⟩), .pointer (some ⟨gb, 0, none⟩)] w fun e w' => e = .returned (.int .i64 (layV p g xi xf xc yi yf yc z)) ∧ Ext w w' := by
  have hb1 := rowV_in p h sx sy.i0 sy.i1 z0 z1
  have hb2 := alt_in hb1 fun hf => rowV_in p h sx (show 0 ≤ yi + 1 by have := sy.i0; omega) (sy.s hf) z0 z1
  have hn1 := h.nx2
  have hn2 := h.ny2
  have hn3 := h.al2
  have hsp1 := sy.i0
  have hsp2 := sy.i1
  have HK := hide (show ∀ w', Ext (w.alloc (.cells #[.int .i64 z] 3)) w' → Calls Try.prog 28 #[.agg #[.int .i64 yi, .int .i64 yf, .int .i64 yc], .func (.func 30) #[] #[.pointer (some ⟨xb, 0, none⟩), .pointer (some ⟨ob, 0, none⟩), .pointer (some ⟨gb, 0, none⟩), .pointer (some ⟨w.heap.size, 0, none⟩)]] w' fun e w'' => e = .returned (.int .i64 (layV p g xi xf xc yi yf yc z)) ∧ Ext w' w'' from fun w' hx => by
    have := blend_y yi yf yc (rowV p g xi xf xc yi z) (if yf = 0 then (rowV p g xi xf xc yi z) else (rowV p g xi xf xc (yi + 1) z)) (.pointer (some ⟨xb, 0, none⟩)) (.pointer (some ⟨ob, 0, none⟩)) (.pointer (some ⟨gb, 0, none⟩)) (.pointer (some ⟨w.heap.size, 0, none⟩)) w' hsp1 (by omega) sy.f0 sy.f1 sy.c0 sy.c1 hb1.1 hb1.2 hb2.1 hb2.2
      (fun w2 hx2 => at_y p hp g A1 A2 A3 c1 c2 c3 gb ob xb w.heap.size xi xf xc yi z w2 h (((hg.ext ((Below.refl _ _).alloc (Nat.le_refl _) _)).ext hx).ext hx2) (((hgb.ext ((Below.refl _ _).alloc (Nat.le_refl _) _)).ext hx).ext hx2) (((ho.ext ((Below.refl _ _).alloc (Nat.le_refl _) _)).ext hx).ext hx2) (((hx0.ext ((Below.refl _ _).alloc (Nat.le_refl _) _)).ext hx).ext hx2) (((Bx.new w _ _ _).ext hx).ext hx2) sx hsp1 hsp2 z0 z1)
      (fun hf w2 hx2 => by
        rw [if_neg hf]
        exact at_y p hp g A1 A2 A3 c1 c2 c3 gb ob xb w.heap.size xi xf xc (yi + 1) z w2 h (((hg.ext ((Below.refl _ _).alloc (Nat.le_refl _) _)).ext hx).ext hx2) (((hgb.ext ((Below.refl _ _).alloc (Nat.le_refl _) _)).ext hx).ext hx2) (((ho.ext ((Below.refl _ _).alloc (Nat.le_refl _) _)).ext hx).ext hx2) (((hx0.ext ((Below.refl _ _).alloc (Nat.le_refl _) _)).ext hx).ext hx2) (((Bx.new w _ _ _).ext hx).ext hx2) sx (by omega) (sy.s hf) z0 z1)
    rw [bl_alt] at this
    exact this)
  obtain ⟨k1, k2, k3⟩ := hs.three
  have k4 := hs.lt
  clear hb1 hb2 hn1 hn2 hn3 hsp1 hsp2
  go_enter Try.func29, Try.ntmps29
  go_wp2_with fail
  refine (HK.out _ (Below.refl _ _)).mono ?_
  rintro e w' ⟨rfl, hx⟩
  go_wp2_with fail
  go_ret
  exact ⟨rfl, Ext.trans ((Below.refl _ _).alloc (Nat.le_refl _) _) hx⟩

set_option maxHeartbeats 400000 in
theorem value_any (p : Nat) (hp : p < 3) (g : Grid) (A1 A2 A3 : Option Addr) (c1 c2 c3 : Nat) (gb sb yb xb : Nat) (xi xf xc yi yf yc zi zf zc : Int) (w : World) (h : Ok g) (hg : GIn w g A1 c1 A2 c2 A3 c3) (hgb : Bx w gb (gcells g A1 c1 A2 c2 A3 c3)) (hs : Bx w sb [.int .i64 zi, .int .i64 zf, .int .i64 zc]) (hy0 : Bx w yb [.int .i64 yi, .int .i64 yf, .int .i64 yc]) (hx0 : Bx w xb [.int .i64 xi, .int .i64 xf, .int .i64 xc])
    (sx : Sp g.nx xi xf xc) (sy : Sp g.ny yi yf yc) (sz : Sp g.alts.length zi zf zc) :
    Calls Try.prog 27 #[.func (.func (ofF p)) #[] #[.pointer (some ⟨gb, 0, none⟩)], .pointer (some ⟨sb, 0, none⟩), .pointer (some ⟨yb, 0, none⟩), .pointer (some ⟨xb, 0, none⟩), .pointer (some ⟨gb, 0, none⟩)] w fun e w' => e = .returned (.int .i64 (allV p g xi xf xc yi yf yc zi zf zc)) ∧ Ext w w' := by
  have hb1 := layV_in p h sx sy sz.i0 sz.i1
  have hb2 := alt_in hb1 fun hf => layV_in p h sx sy (show 0 ≤ zi + 1 by have := sz.i0; omega) (sz.s hf)
  have hn1 := h.nx2
  have hn2 := h.ny2
  have hn3 := h.al2
  have hsp1 := sz.i0
  have hsp2 := sz.i1
  have HK := hide (show ∀ w', Ext (w.alloc (.cells #[.func (.func (ofF p)) #[] #[.pointer (some ⟨gb, 0, none⟩)]] 65)) w' → Calls Try.prog 28 #[.agg #[.int .i64 zi, .int .i64 zf, .int .i64 zc], .func (.func 29) #[] #[.pointer (some ⟨yb, 0, none⟩), .pointer (some ⟨xb, 0, none⟩), .pointer (some ⟨w.heap.size, 0, none⟩), .pointer (some ⟨gb, 0, none⟩)]] w' fun e w'' => e = .returned (.int .i64 (allV p g xi xf xc yi yf yc zi zf zc)) ∧ Ext w' w'' from fun w' hx => by
    have := blend_z zi zf zc (layV p g xi xf xc yi yf yc zi) (if zf = 0 then (layV p g xi xf xc yi yf yc zi) else (layV p g xi xf xc yi yf yc (zi + 1))) (.pointer (some ⟨yb, 0, none⟩)) (.pointer (some ⟨xb, 0, none⟩)) (.pointer (some ⟨w.heap.size, 0, none⟩)) (.pointer (some ⟨gb, 0, none⟩)) w' hsp1 (by omega) sz.f0 sz.f1 sz.c0 sz.c1 hb1.1 hb1.2 hb2.1 hb2.2
      (fun w2 hx2 => at_z p hp g A1 A2 A3 c1 c2 c3 gb w.heap.size yb xb xi xf xc yi yf yc zi w2 h (((hg.ext ((Below.refl _ _).alloc (Nat.le_refl _) _)).ext hx).ext hx2) (((hgb.ext ((Below.refl _ _).alloc (Nat.le_refl _) _)).ext hx).ext hx2) (((Bx.new w _ _ _).ext hx).ext hx2) (((hy0.ext ((Below.refl _ _).alloc (Nat.le_refl _) _)).ext hx).ext hx2) (((hx0.ext ((Below.refl _ _).alloc (Nat.le_refl _) _)).ext hx).ext hx2) sx sy hsp1 hsp2)
      (fun hf w2 hx2 => by
        rw [if_neg hf]
        exact at_z p hp g A1 A2 A3 c1 c2 c3 gb w.heap.size yb xb xi xf xc yi yf yc (zi + 1) w2 h (((hg.ext ((Below.refl _ _).alloc (Nat.le_refl _) _)).ext hx).ext hx2) (((hgb.ext ((Below.refl _ _).alloc (Nat.le_refl _) _)).ext hx).ext hx2) (((Bx.new w _ _ _).ext hx).ext hx2) (((hy0.ext ((Below.refl _ _).alloc (Nat.le_refl _) _)).ext hx).ext hx2) (((hx0.ext ((Below.refl _ _).alloc (Nat.le_refl _) _)).ext hx).ext hx2) sx sy (by omega) (sz.s hf))
    rw [bl_alt] at this
    exact this)
  obtain ⟨k1, k2, k3⟩ := hs.three
  have k4 := hs.lt
  clear hb1 hb2 hn1 hn2 hn3 hsp1 hsp2
  go_enter Try.func27, Try.ntmps27
  go_wp2_with fail
  refine (HK.out _ (Below.refl _ _)).mono ?_
  rintro e w' ⟨rfl, hx⟩
  go_wp2_with fail
  go_ret
  exact ⟨rfl, Ext.trans ((Below.refl _ _).alloc (Nat.le_refl _) _) hx⟩
end Go.Proofs.Ytfgeoeipnidfhaa
