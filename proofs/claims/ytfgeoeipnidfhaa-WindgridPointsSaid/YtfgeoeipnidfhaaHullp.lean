/- The program's hull of a rectangle and a window. -/
import Derived.Test.YtfgeoeipnidfhaaHull
namespace Go.Proofs.Ytfgeoeipnidfhaa
open Go.RowKit Go.Base Wg

structure Ar where
  ax : Int
  ay : Int
  bx : Int
  by_ : Int
  lo : Int
  hi : Int
def hullE (g : Grid) (a : Ar) : Int := if chk g = 0 then (if inPlane a.ax a.ay && (inPlane a.bx a.by_ && (decide (-200000 ≤ a.lo) && (decide (a.lo ≤ a.hi) && decide (a.hi ≤ 6000000)))) then 0 else 2) else chk g
def hX0 (g : Grid) (a : Ar) : Int := sideI g.cx g.cell g.nx (min a.ax a.bx)
def hX1 (g : Grid) (a : Ar) : Int := min (sideI g.cx g.cell g.nx (max a.ax a.bx) + 1) (g.nx - 1)
def hY0 (g : Grid) (a : Ar) : Int := sideI g.cy g.cell g.ny (min a.ay a.by_)
def hY1 (g : Grid) (a : Ar) : Int := min (sideI g.cy g.cell g.ny (max a.ay a.by_) + 1) (g.ny - 1)
def hZ0 (g : Grid) (a : Ar) : Int := levI g.alts a.lo
def hZ1 (g : Grid) (a : Ar) : Int := min ((levI g.alts a.hi : Int) + 1) ((g.alts.length : Int) - 1)
def hullR (p : Nat) (g : Grid) (a : Ar) : Int × Int := hullV p g (hX0 g a) (hX1 g a) (hY0 g a) (hY1 g a) (hZ0 g a) (hZ1 g a)
/-- What the program and the reference answer. -/
def hOut (g : Grid) (a : Ar) : Ending := if hullE g a = 0 then
    .returned (.tuple #[.agg #[.int .i64 ((hullR 0 g a).1 - g.err), .int .i64 ((hullR 0 g a).2 + g.err), .int .i64 ((hullR 1 g a).1 - g.err), .int .i64 ((hullR 1 g a).2 + g.err)], .agg #[.int .i64 (hullR 2 g a).1, .int .i64 (hullR 2 g a).2], .int .i64 0])
  else .returned (.tuple #[.agg #[.int .i64 0, .int .i64 0, .int .i64 0, .int .i64 0], .agg #[.int .i64 0, .int .i64 0], .int .i64 (hullE g a)])
theorem hout_err {g : Grid} {a : Ar} (h : hullE g a ≠ 0) : hOut g a = .returned (.tuple #[.agg #[.int .i64 0, .int .i64 0, .int .i64 0, .int .i64 0], .agg #[.int .i64 0, .int .i64 0], .int .i64 (hullE g a)]) := by unfold hOut; rw [if_neg h]
theorem win_ways (a : Ar) : (decide (a.lo < -200000) = true ∧ (decide (-200000 ≤ a.lo) && (decide (a.lo ≤ a.hi) && decide (a.hi ≤ 6000000))) = false) ∨
    (decide (a.lo < -200000) = false ∧ decide (a.hi < a.lo) = true ∧ (decide (-200000 ≤ a.lo) && (decide (a.lo ≤ a.hi) && decide (a.hi ≤ 6000000))) = false) ∨
    (decide (a.lo < -200000) = false ∧ decide (a.hi < a.lo) = false ∧ decide (6000000 < a.hi) = true ∧ (decide (-200000 ≤ a.lo) && (decide (a.lo ≤ a.hi) && decide (a.hi ≤ 6000000))) = false) ∨
    (decide (a.lo < -200000) = false ∧ decide (a.hi < a.lo) = false ∧ decide (6000000 < a.hi) = false ∧ (decide (-200000 ≤ a.lo) && (decide (a.lo ≤ a.hi) && decide (a.hi ≤ 6000000))) = true) := by
  simp only [decide_eq_true_eq, decide_eq_false_iff_not, Bool.and_eq_false_imp, Bool.and_eq_true]
  by_cases h1 : a.lo < -200000
  · exact .inl ⟨h1, by omega⟩
  by_cases h2 : a.hi < a.lo
  · exact .inr (.inl ⟨h1, h2, by omega⟩)
  by_cases h3 : 6000000 < a.hi
  · exact .inr (.inr (.inl ⟨h1, h2, h3, by omega⟩))
  · exact .inr (.inr (.inr ⟨h1, h2, h3, by omega⟩))
theorem hx_in {g : Grid} (h : Ok g) (a : Ar) : 0 ≤ hX0 g a ∧ hX0 g a ≤ hX1 g a ∧ hX1 g a ≤ g.nx - 1 := by
  have h1 := sideI_in (c := g.cx) (cell := g.cell) (x := min a.ax a.bx) h.nx1
  have h2 := sideI_in (c := g.cx) (cell := g.cell) (x := max a.ax a.bx) h.nx1
  have h3 := sideI_mono (c := g.cx) (n := g.nx) h.cell1 (show min a.ax a.bx ≤ max a.ax a.bx by omega)
  unfold hX0 hX1; omega
theorem hy_in {g : Grid} (h : Ok g) (a : Ar) : 0 ≤ hY0 g a ∧ hY0 g a ≤ hY1 g a ∧ hY1 g a ≤ g.ny - 1 := by
  have h1 := sideI_in (c := g.cy) (cell := g.cell) (x := min a.ay a.by_) h.ny1
  have h2 := sideI_in (c := g.cy) (cell := g.cell) (x := max a.ay a.by_) h.ny1
  have h3 := sideI_mono (c := g.cy) (n := g.ny) h.cell1 (show min a.ay a.by_ ≤ max a.ay a.by_ by omega)
  unfold hY0 hY1; omega
theorem hz_in {g : Grid} (h : Ok g) (a : Ar) (hl : a.lo ≤ a.hi) : 0 ≤ hZ0 g a ∧ hZ0 g a ≤ hZ1 g a ∧ hZ1 g a ≤ (g.alts.length : Int) - 1 := by
  have h1 := lev_in h.al1 a.lo
  have h2 := lev_in h.al1 a.hi
  have h3 := levI_mono g.alts hl
  unfold hZ0 hZ1; omega
def inB (s : Int × Int) : Prop := -4000 ≤ s.1 ∧ s.1 ≤ 4000 ∧ -4000 ≤ s.2 ∧ s.2 ≤ 4000
theorem mm_in {s : Int × Int} {v : Int} (h : inB s) (h1 : -4000 ≤ v) (h2 : v ≤ 4000) : inB (mm s v) := by
  unfold inB mm at *; simp only; omega
theorem rowH_in (p : Nat) {g : Grid} (h : Ok g) (x0 y z : Int) : ∀ (n : Nat) (s : Int × Int), 0 ≤ x0 → x0 + (n : Int) ≤ g.nx → 0 ≤ y → y ≤ g.ny - 1 → 0 ≤ z → z ≤ (g.alts.length : Int) - 1 → inB s → inB (rowH p g x0 y z n s)
  | 0, _, _, _, _, _, _, _, hs => hs
  | n + 1, s, h0, h1, h2, h3, h4, h5, hs => by
    have := vx_in p h (show 0 ≤ x0 + (n : Int) by omega) (by omega) h2 h3 h4 h5
    exact mm_in (rowH_in p h x0 y z n s h0 (by omega) h2 h3 h4 h5 hs) this.1 this.2
theorem layH_in (p : Nat) {g : Grid} (h : Ok g) (x0 : Int) (nx : Nat) (y0 z : Int) : ∀ (n : Nat) (s : Int × Int), 0 ≤ x0 → x0 + (nx : Int) ≤ g.nx → 0 ≤ y0 → y0 + (n : Int) ≤ g.ny → 0 ≤ z → z ≤ (g.alts.length : Int) - 1 → inB s → inB (layH p g x0 nx y0 z n s)
  | 0, _, _, _, _, _, _, _, hs => hs
  | n + 1, s, h0, h1, h2, h3, h4, h5, hs => rowH_in p h x0 (y0 + n) z nx _ h0 h1 (by omega) (by omega) h4 h5 (layH_in p h x0 nx y0 z n s h0 h1 h2 (by omega) h4 h5 hs)
theorem allH_in (p : Nat) {g : Grid} (h : Ok g) (x0 : Int) (nx : Nat) (y0 : Int) (ny : Nat) (z0 : Int) : ∀ (n : Nat) (s : Int × Int), 0 ≤ x0 → x0 + (nx : Int) ≤ g.nx → 0 ≤ y0 → y0 + (ny : Int) ≤ g.ny → 0 ≤ z0 → z0 + (n : Int) ≤ g.alts.length → inB s → inB (allH p g x0 nx y0 ny z0 n s)
  | 0, _, _, _, _, _, _, _, hs => hs
  | n + 1, s, h0, h1, h2, h3, h4, h5, hs => layH_in p h x0 nx y0 (z0 + n) ny _ h0 h1 h2 h3 (by omega) (by omega) (allH_in p h x0 nx y0 ny z0 n s h0 h1 h2 h3 h4 (by omega) hs)
theorem hullR_in (p : Nat) {g : Grid} (h : Ok g) (a : Ar) (hl : a.lo ≤ a.hi) : inB (hullR p g a) := by
  have h1 := hx_in h a
  have h2 := hy_in h a
  have h3 := hz_in h a hl
  have hv := vx_in p h h1.1 (by omega) h2.1 (by omega) h3.1 (show hZ0 g a ≤ (g.alts.length : Int) - 1 by omega)
  unfold hullR hullV cnt
  exact allH_in p h _ _ _ _ _ _ _ h1.1 (by omega) h2.1 (by omega) h3.1 (by omega) ⟨hv.1, hv.2, hv.1, hv.2⟩
theorem idx_ptr0 (b o c q : Nat) (w : World) : (Instr.index 71 (.agg #[.pointer (some ⟨b, o, none⟩), .pointer (some ⟨c, q, none⟩)]) (.int .i64 0)).run Try.prog w = .ok (.pointer (some ⟨b, o, none⟩)) w := by kernel_rfl
theorem idx_ptr1 (b o c q : Nat) (w : World) : (Instr.index 71 (.agg #[.pointer (some ⟨b, o, none⟩), .pointer (some ⟨c, q, none⟩)]) (.int .i64 1)).run Try.prog w = .ok (.pointer (some ⟨c, q, none⟩)) w := by kernel_rfl

abbrev L7 (g : Grid) (A1 : Option Addr) (c1 bw ow c2 bd od c3 : Nat) (a : Ar) (B bb : Nat) (e n : Int × Int) : List (Nat × List Value) :=
  [(B, gcells g A1 c1 (some ⟨bw, ow, none⟩) c2 (some ⟨bd, od, none⟩) c3), (B + 1, [.int .i64 a.ax, .int .i64 a.ay]), (B + 1 + 1, [.int .i64 a.bx, .int .i64 a.by_]), (B + 1 + 1 + 1, [.int .i64 a.lo, .int .i64 a.hi]), (B + 1 + 1 + 1 + 1, [.int .i64 0, .int .i64 0, .int .i64 0, .int .i64 0]), (B + 1 + 1 + 1 + 1 + 1, [.int .i64 0, .int .i64 0]),
   (bb, [.int .i64 e.1, .int .i64 e.2, .int .i64 n.1, .int .i64 n.2])]
abbrev L8 (g : Grid) (A1 : Option Addr) (c1 bw ow c2 bd od c3 : Nat) (a : Ar) (B bb db : Nat) (e n d : Int × Int) : List (Nat × List Value) := L7 g A1 c1 bw ow c2 bd od c3 a B bb e n ++ [(db, [.int .i64 d.1, .int .i64 d.2])]
theorem field_spot (u v t : Int) (w : World) : (Instr.field 62 (.agg #[.int .i64 u, .int .i64 v, .int .i64 t]) 0).run Try.prog w = .ok (.int .i64 u) w := by kernel_rfl
set_option maxRecDepth 100000 in
set_option maxHeartbeats 2000000 in
theorem hullp_any (g : Grid) (A1 A2 A3 : Option Addr) (c1 c2 c3 : Nat) (a : Ar) (w0 : World) (h : GIn w0 g A1 c1 A2 c2 A3 c3) :
    Calls Try.prog 13 #[gv g A1 c1 A2 c2 A3 c3, .agg #[.int .i64 a.ax, .int .i64 a.ay], .agg #[.int .i64 a.bx, .int .i64 a.by_], .agg #[.int .i64 a.lo, .int .i64 a.hi]] w0 fun e w' => e = hOut g a ∧ Ext w0 w' := by
  have HH := hide h
  have hfld := field_spot
  clear h
  go_enter Try.func13, Try.ntmps13
  go_wp2_with fail
  have HM := hide (show MS w0 _ [(w0.heap.size, gcells g A1 c1 A2 c2 A3 c3), (w0.heap.size + 1, [.int .i64 a.ax, .int .i64 a.ay]), (w0.heap.size + 1 + 1, [.int .i64 a.bx, .int .i64 a.by_]), (w0.heap.size + 1 + 1 + 1, [.int .i64 a.lo, .int .i64 a.hi]), (w0.heap.size + 1 + 1 + 1 + 1, [.int .i64 0, .int .i64 0, .int .i64 0, .int .i64 0]), (w0.heap.size + 1 + 1 + 1 + 1 + 1, [.int .i64 0, .int .i64 0])] from ((((((MS.nil w0).new #[.int .i64 g.cx, .int .i64 g.cy, .int .i64 g.cell, .int .i64 g.nx, .int .i64 g.ny, .slice A1 g.alts.length c1, .slice A2 g.winds.length c2, .slice A3 g.devs.length c3, .int .i64 g.err] 27 _ rfl).new #[.int .i64 a.ax, .int .i64 a.ay] 23 (w0.heap.size + 1) (by simp)).new #[.int .i64 a.bx, .int .i64 a.by_] 23 (w0.heap.size + 1 + 1) (by simp)).new #[.int .i64 a.lo, .int .i64 a.hi] 36 (w0.heap.size + 1 + 1 + 1) (by simp)).new #[.int .i64 0, .int .i64 0, .int .i64 0, .int .i64 0] 41 (w0.heap.size + 1 + 1 + 1 + 1) (by simp)).new #[.int .i64 0, .int .i64 0] 39 (w0.heap.size + 1 + 1 + 1 + 1 + 1) (by simp))
  refine (check_any g A1 A2 A3 c1 c2 c3 _ (HH.out.ext HM.out.bel)).mono ?_
  rintro e w1 ⟨rfl, hx⟩
  have HM := hide (HM.out.ext hx)
  clear hx
  have c10 := HM.out.cell 1 0 rfl rfl
  have c11 := HM.out.cell 1 1 rfl rfl
  have c20 := HM.out.cell 2 0 rfl rfl
  have c21 := HM.out.cell 2 1 rfl rfl
  have c30 := HM.out.cell 3 0 rfl rfl
  have c31 := HM.out.cell 3 1 rfl rfl
  have c40 := HM.out.cell 4 0 rfl rfl
  have c41 := HM.out.cell 4 1 rfl rfl
  have c42 := HM.out.cell 4 2 rfl rfl
  have c43 := HM.out.cell 4 3 rfl rfl
  have c50 := HM.out.cell 5 0 rfl rfl
  have c51 := HM.out.cell 5 1 rfl rfl
  have f40 := HM.out.free 4 0 rfl
  have f41 := HM.out.free 4 1 rfl
  have f42 := HM.out.free 4 2 rfl
  have f43 := HM.out.free 4 3 rfl
  have f50 := HM.out.free 5 0 rfl
  have f51 := HM.out.free 5 1 rfl
  cases t : (chk g != 0)
  rotate_left
  · have HE := hide (show chk g ≠ 0 by simpa using t)
    have HQ := hide (show hullE g a = chk g by unfold hullE; rw [if_neg HE.out])
    go_wp2_with fail
    refine bodyPost_ret (v := .tuple #[.agg #[.int .i64 0, .int .i64 0, .int .i64 0, .int .i64 0], .agg #[.int .i64 0, .int .i64 0], .int .i64 (chk g)]) (by simp [results, Try.results13, go_sem, c40, c41, c42, c43, c50, c51]) rfl ⟨?_, ?_⟩
    · rw [hout_err (by rw [HQ.out]; exact HE.out), HQ.out]
    · exact Below.setCell (Below.setCell (Below.setCell (Below.setCell (Below.setCell (Below.setCell (HM.out.bel) (p := ⟨w0.heap.size + 1 + 1 + 1 + 1, 0, none⟩) (by simp; try omega) _) (p := ⟨w0.heap.size + 1 + 1 + 1 + 1, 1, none⟩) (by simp; try omega) _) (p := ⟨w0.heap.size + 1 + 1 + 1 + 1, 2, none⟩) (by simp; try omega) _) (p := ⟨w0.heap.size + 1 + 1 + 1 + 1, 3, none⟩) (by simp; try omega) _) (p := ⟨w0.heap.size + 1 + 1 + 1 + 1 + 1, 0, none⟩) (by simp; try omega) _) (p := ⟨w0.heap.size + 1 + 1 + 1 + 1 + 1, 1, none⟩) (by simp; try omega) _
  have HO := hide (ok_of (show chk g = 0 by simpa using t))
  have HQ0 := hide (show hullE g a = if inPlane a.ax a.ay && (inPlane a.bx a.by_ && (decide (-200000 ≤ a.lo) && (decide (a.lo ≤ a.hi) && decide (a.hi ≤ 6000000)))) then 0 else 2 by unfold hullE; rw [if_pos (by simpa using t)])
  go_wp2_with fail
  refine (inPlane_any a.ax a.ay _).mono ?_
  rintro e w2 ⟨rfl, hx⟩
  have HM := hide (HM.out.ext hx)
  clear hx t
  clear c10 c11 c20 c21 c30 c31 c40 c41 c42 c43 c50 c51 f40 f41 f42 f43 f50 f51
  have c20 := HM.out.cell 2 0 rfl rfl
  have c21 := HM.out.cell 2 1 rfl rfl
  have c30 := HM.out.cell 3 0 rfl rfl
  have c31 := HM.out.cell 3 1 rfl rfl
  have c40 := HM.out.cell 4 0 rfl rfl
  have c41 := HM.out.cell 4 1 rfl rfl
  have c42 := HM.out.cell 4 2 rfl rfl
  have c43 := HM.out.cell 4 3 rfl rfl
  have c50 := HM.out.cell 5 0 rfl rfl
  have c51 := HM.out.cell 5 1 rfl rfl
  have f40 := HM.out.free 4 0 rfl
  have f41 := HM.out.free 4 1 rfl
  have f42 := HM.out.free 4 2 rfl
  have f43 := HM.out.free 4 3 rfl
  have f50 := HM.out.free 5 0 rfl
  have f51 := HM.out.free 5 1 rfl
  cases hp : inPlane a.ax a.ay
  · have HQ := hide (show hullE g a = 2 by rw [HQ0.out, hp]; rfl)
    go_wp2_with fail
    refine bodyPost_ret (v := .tuple #[.agg #[.int .i64 0, .int .i64 0, .int .i64 0, .int .i64 0], .agg #[.int .i64 0, .int .i64 0], .int .i64 2]) (by simp [results, Try.results13, go_sem, c40, c41, c42, c43, c50, c51]) rfl ⟨?_, ?_⟩
    · rw [hout_err (by rw [HQ.out]; decide), HQ.out]
    · exact Below.setCell (Below.setCell (Below.setCell (Below.setCell (Below.setCell (Below.setCell (HM.out.bel) (p := ⟨w0.heap.size + 1 + 1 + 1 + 1, 0, none⟩) (by simp; try omega) _) (p := ⟨w0.heap.size + 1 + 1 + 1 + 1, 1, none⟩) (by simp; try omega) _) (p := ⟨w0.heap.size + 1 + 1 + 1 + 1, 2, none⟩) (by simp; try omega) _) (p := ⟨w0.heap.size + 1 + 1 + 1 + 1, 3, none⟩) (by simp; try omega) _) (p := ⟨w0.heap.size + 1 + 1 + 1 + 1 + 1, 0, none⟩) (by simp; try omega) _) (p := ⟨w0.heap.size + 1 + 1 + 1 + 1 + 1, 1, none⟩) (by simp; try omega) _
  have HIP := hide hp
  go_wp2_with fail
  refine (inPlane_any a.bx a.by_ _).mono ?_
  rintro e w3 ⟨rfl, hx⟩
  have HM := hide (HM.out.ext hx)
  clear hx
  clear c20 c21 c30 c31 c40 c41 c42 c43 c50 c51 f40 f41 f42 f43 f50 f51
  have c30 := HM.out.cell 3 0 rfl rfl
  have c31 := HM.out.cell 3 1 rfl rfl
  have c40 := HM.out.cell 4 0 rfl rfl
  have c41 := HM.out.cell 4 1 rfl rfl
  have c42 := HM.out.cell 4 2 rfl rfl
  have c43 := HM.out.cell 4 3 rfl rfl
  have c50 := HM.out.cell 5 0 rfl rfl
  have c51 := HM.out.cell 5 1 rfl rfl
  have f40 := HM.out.free 4 0 rfl
  have f41 := HM.out.free 4 1 rfl
  have f42 := HM.out.free 4 2 rfl
  have f43 := HM.out.free 4 3 rfl
  have f50 := HM.out.free 5 0 rfl
  have f51 := HM.out.free 5 1 rfl
  cases hp2 : inPlane a.bx a.by_
  · have HQ := hide (show hullE g a = 2 by rw [HQ0.out, HIP.out, hp2]; rfl)
    go_wp2_with fail
    refine bodyPost_ret (v := .tuple #[.agg #[.int .i64 0, .int .i64 0, .int .i64 0, .int .i64 0], .agg #[.int .i64 0, .int .i64 0], .int .i64 2]) (by simp [results, Try.results13, go_sem, c40, c41, c42, c43, c50, c51]) rfl ⟨?_, ?_⟩
    · rw [hout_err (by rw [HQ.out]; decide), HQ.out]
    · exact Below.setCell (Below.setCell (Below.setCell (Below.setCell (Below.setCell (Below.setCell (HM.out.bel) (p := ⟨w0.heap.size + 1 + 1 + 1 + 1, 0, none⟩) (by simp; try omega) _) (p := ⟨w0.heap.size + 1 + 1 + 1 + 1, 1, none⟩) (by simp; try omega) _) (p := ⟨w0.heap.size + 1 + 1 + 1 + 1, 2, none⟩) (by simp; try omega) _) (p := ⟨w0.heap.size + 1 + 1 + 1 + 1, 3, none⟩) (by simp; try omega) _) (p := ⟨w0.heap.size + 1 + 1 + 1 + 1 + 1, 0, none⟩) (by simp; try omega) _) (p := ⟨w0.heap.size + 1 + 1 + 1 + 1 + 1, 1, none⟩) (by simp; try omega) _
  have HIP2 := hide hp2
  rcases win_ways a with ⟨q1, hb⟩ | ⟨q1, q2, hb⟩ | ⟨q1, q2, q3, hb⟩ | ⟨q1, q2, q3, hb⟩
  iterate 3
    · have HQ := hide (show hullE g a = 2 by rw [HQ0.out, HIP.out, HIP2.out, hb]; rfl)
      clear hb
      go_wp2_with fail
      refine bodyPost_ret (v := .tuple #[.agg #[.int .i64 0, .int .i64 0, .int .i64 0, .int .i64 0], .agg #[.int .i64 0, .int .i64 0], .int .i64 2]) (by simp [results, Try.results13, go_sem, c40, c41, c42, c43, c50, c51]) rfl ⟨?_, ?_⟩
      · rw [hout_err (by rw [HQ.out]; decide), HQ.out]
      · exact Below.setCell (Below.setCell (Below.setCell (Below.setCell (Below.setCell (Below.setCell (HM.out.bel) (p := ⟨w0.heap.size + 1 + 1 + 1 + 1, 0, none⟩) (by simp; try omega) _) (p := ⟨w0.heap.size + 1 + 1 + 1 + 1, 1, none⟩) (by simp; try omega) _) (p := ⟨w0.heap.size + 1 + 1 + 1 + 1, 2, none⟩) (by simp; try omega) _) (p := ⟨w0.heap.size + 1 + 1 + 1 + 1, 3, none⟩) (by simp; try omega) _) (p := ⟨w0.heap.size + 1 + 1 + 1 + 1 + 1, 0, none⟩) (by simp; try omega) _) (p := ⟨w0.heap.size + 1 + 1 + 1 + 1 + 1, 1, none⟩) (by simp; try omega) _
  have HQ := hide (show hullE g a = 0 by rw [HQ0.out, HIP.out, HIP2.out, hb]; rfl)
  have hpa := hp
  have hpb := hp2
  unfold inPlane at hpa hpb
  rw [Bool.and_eq_true, inR_iff, inR_iff] at hpa hpb
  have HA := hide hpa
  have HB := hide hpb
  have d1 := of_decide_eq_false q1
  have d2 := of_decide_eq_false q2
  have d3 := of_decide_eq_false q3
  clear hpa hpb HQ0 hb
  go_wp2_with fail
  clear q1 q2 q3 hp hp2
  clear c30 c31 c40 c41 c42 c43 c50 c51 f40 f41 f42 f43 f50 f51
  have b7 := HO.out.nx2
  have b8 := HO.out.ny2
  have b9 := HO.out.al2
  obtain ⟨bw, ow, bd, od, rfl, rfl, hel⟩ := HH.out.elem HO.out
  have HEL := hide hel
  clear hel
  obtain ⟨mnx, emnx⟩ : ∃ m, (if a.bx < a.ax then a.bx else a.ax) = m := ⟨_, rfl⟩
  obtain ⟨mxx, emxx⟩ : ∃ m, (if a.ax < a.bx then a.bx else a.ax) = m := ⟨_, rfl⟩
  obtain ⟨x0, ex0⟩ : ∃ v, sideI g.cx g.cell g.nx mnx = v := ⟨_, rfl⟩
  obtain ⟨px0, epx0⟩ : ∃ v, sideF g.cx g.cell g.nx mnx = v := ⟨_, rfl⟩
  obtain ⟨ix1, eix1⟩ : ∃ v, sideI g.cx g.cell g.nx mxx = v := ⟨_, rfl⟩
  obtain ⟨px1, epx1⟩ : ∃ v, sideF g.cx g.cell g.nx mxx = v := ⟨_, rfl⟩
  obtain ⟨x1, ex1⟩ : ∃ v, (if g.nx - 1 < ix1 + 1 then g.nx - 1 else ix1 + 1) = v := ⟨_, rfl⟩
  have HSx0 := hide (fun w => side_any g.cx g.cell g.nx mnx HO.out.cx1 HO.out.cx2 HO.out.cell1 HO.out.cell2 HO.out.nx1 HO.out.nx2 (by have := HA.out; have := HB.out; omega) (by have := HA.out; have := HB.out; omega) w)
  have HSx1 := hide (fun w => side_any g.cx g.cell g.nx mxx HO.out.cx1 HO.out.cx2 HO.out.cell1 HO.out.cell2 HO.out.nx1 HO.out.nx2 (by have := HA.out; have := HB.out; omega) (by have := HA.out; have := HB.out; omega) w)
  rw [ex0, epx0] at HSx0
  rw [eix1, epx1] at HSx1
  have hix := sideI_in (c := g.cx) (cell := g.cell) (x := mxx) HO.out.nx1
  rw [eix1] at hix
  have hixa := hix.1
  have hixb := hix.2.1
  have Hx0 := hide (show hX0 g a = x0 by unfold hX0; rw [show min a.ax a.bx = mnx by omega, ex0])
  have Hx1 := hide (show hX1 g a = x1 by unfold hX1; rw [show max a.ax a.bx = mxx by omega, eix1]; omega)
  have hrx := hx_in HO.out a
  rw [Hx0.out, Hx1.out] at hrx
  have hrx0 := hrx.1
  have hrx1 := hrx.2.1
  have hrx2 := hrx.2.2
  clear hix hrx ex0 epx0 eix1 epx1
  obtain ⟨mny, emny⟩ : ∃ m, (if a.by_ < a.ay then a.by_ else a.ay) = m := ⟨_, rfl⟩
  obtain ⟨mxy, emxy⟩ : ∃ m, (if a.ay < a.by_ then a.by_ else a.ay) = m := ⟨_, rfl⟩
  obtain ⟨y0, ey0⟩ : ∃ v, sideI g.cy g.cell g.ny mny = v := ⟨_, rfl⟩
  obtain ⟨py0, epy0⟩ : ∃ v, sideF g.cy g.cell g.ny mny = v := ⟨_, rfl⟩
  obtain ⟨iy1, eiy1⟩ : ∃ v, sideI g.cy g.cell g.ny mxy = v := ⟨_, rfl⟩
  obtain ⟨py1, epy1⟩ : ∃ v, sideF g.cy g.cell g.ny mxy = v := ⟨_, rfl⟩
  obtain ⟨y1, ey1⟩ : ∃ v, (if g.ny - 1 < iy1 + 1 then g.ny - 1 else iy1 + 1) = v := ⟨_, rfl⟩
  have HSy0 := hide (fun w => side_any g.cy g.cell g.ny mny HO.out.cy1 HO.out.cy2 HO.out.cell1 HO.out.cell2 HO.out.ny1 HO.out.ny2 (by have := HA.out; have := HB.out; omega) (by have := HA.out; have := HB.out; omega) w)
  have HSy1 := hide (fun w => side_any g.cy g.cell g.ny mxy HO.out.cy1 HO.out.cy2 HO.out.cell1 HO.out.cell2 HO.out.ny1 HO.out.ny2 (by have := HA.out; have := HB.out; omega) (by have := HA.out; have := HB.out; omega) w)
  rw [ey0, epy0] at HSy0
  rw [eiy1, epy1] at HSy1
  have hiy := sideI_in (c := g.cy) (cell := g.cell) (x := mxy) HO.out.ny1
  rw [eiy1] at hiy
  have hiya := hiy.1
  have hiyb := hiy.2.1
  have Hy0 := hide (show hY0 g a = y0 by unfold hY0; rw [show min a.ay a.by_ = mny by omega, ey0])
  have Hy1 := hide (show hY1 g a = y1 by unfold hY1; rw [show max a.ay a.by_ = mxy by omega, eiy1]; omega)
  have hry := hy_in HO.out a
  rw [Hy0.out, Hy1.out] at hry
  have hry0 := hry.1
  have hry1 := hry.2.1
  have hry2 := hry.2.2
  clear hiy hry ey0 epy0 eiy1 epy1
  obtain ⟨z0, ez0⟩ : ∃ v : Int, (levI g.alts a.lo : Int) = v := ⟨_, rfl⟩
  obtain ⟨pz0, epz0⟩ : ∃ v, levF g.alts a.lo = v := ⟨_, rfl⟩
  obtain ⟨qz0, eqz0⟩ : ∃ v, levC g.alts a.lo = v := ⟨_, rfl⟩
  obtain ⟨iz1, eiz1⟩ : ∃ v : Int, (levI g.alts a.hi : Int) = v := ⟨_, rfl⟩
  obtain ⟨pz1, epz1⟩ : ∃ v, levF g.alts a.hi = v := ⟨_, rfl⟩
  obtain ⟨qz1, eqz1⟩ : ∃ v, levC g.alts a.hi = v := ⟨_, rfl⟩
  obtain ⟨z1, ez1⟩ : ∃ v, (if (g.alts.length : Int) - 1 < iz1 + 1 then (g.alts.length : Int) - 1 else iz1 + 1) = v := ⟨_, rfl⟩
  have HSz0 := hide (fun w (hr : Rd w 1 A1 g.alts.length c1 (g.alts.map iv)) => level_any g.alts A1 c1 a.lo w hr HO.out.al1 HO.out.al2 HO.out.ord HO.out.alts (by omega) (by omega))
  have HSz1 := hide (fun w (hr : Rd w 1 A1 g.alts.length c1 (g.alts.map iv)) => level_any g.alts A1 c1 a.hi w hr HO.out.al1 HO.out.al2 HO.out.ord HO.out.alts (by omega) (by omega))
  rw [ez0, epz0, eqz0] at HSz0
  rw [eiz1, epz1, eqz1] at HSz1
  have hiz := lev_in HO.out.al1 a.hi
  have hiza : 0 ≤ iz1 := by omega
  have hizb : iz1 ≤ (g.alts.length : Int) - 1 := by omega
  have Hz0 := hide (show hZ0 g a = z0 from ez0)
  have Hz1 := hide (show hZ1 g a = z1 by unfold hZ1; omega)
  have hrz := hz_in HO.out a (by omega)
  rw [Hz0.out, Hz1.out] at hrz
  have hrz0 := hrz.1
  have hrz1 := hrz.2.1
  have hrz2 := hrz.2.2
  clear hiz hrz ez0 epz0 eqz0 eiz1 epz1 eqz1
  refine wp_region_inv (w0 := _) (V := [fun vv _ => vv = .pointer (some ⟨w0.heap.size, 0, none⟩), fun vv _ => vv = .pointer (some ⟨w0.heap.size, 0, none⟩), fun vv _ => vv = .int .i64 g.cx, fun vv _ => vv = .pointer (some ⟨w0.heap.size, 2, none⟩), fun vv _ => vv = .int .i64 g.cell, fun vv _ => vv = .pointer (some ⟨w0.heap.size, 3, none⟩), fun vv _ => vv = .int .i64 g.nx, fun vv _ => vv = .pointer (some ⟨w0.heap.size + 1, 0, none⟩), fun vv _ => vv = .int .i64 a.ax, fun vv _ => vv = .pointer (some ⟨w0.heap.size + 1 + 1, 0, none⟩), fun vv _ => vv = .int .i64 a.bx, fun vv _ => vv = .int .i64 mnx, fun vv _ => vv = .agg #[.int .i64 x0, .int .i64 px0, .int .i64 g.cell], fun vv _ => vv = .int .i64 x0, fun vv _ => vv = .pointer (some ⟨w0.heap.size, 0, none⟩), fun vv _ => vv = .pointer (some ⟨w0.heap.size, 0, none⟩), fun vv _ => vv = .int .i64 g.cx, fun vv _ => vv = .pointer (some ⟨w0.heap.size, 2, none⟩), fun vv _ => vv = .int .i64 g.cell, fun vv _ => vv = .pointer (some ⟨w0.heap.size, 3, none⟩), fun vv _ => vv = .int .i64 g.nx, fun vv _ => vv = .pointer (some ⟨w0.heap.size + 1, 0, none⟩), fun vv _ => vv = .int .i64 a.ax, fun vv _ => vv = .pointer (some ⟨w0.heap.size + 1 + 1, 0, none⟩), fun vv _ => vv = .int .i64 a.bx, fun vv _ => vv = .int .i64 mxx, fun vv _ => vv = .agg #[.int .i64 ix1, .int .i64 px1, .int .i64 g.cell], fun vv _ => vv = .int .i64 ix1, fun vv _ => vv = .int .i64 (ix1 + 1), fun vv _ => vv = .pointer (some ⟨w0.heap.size, 3, none⟩), fun vv _ => vv = .int .i64 g.nx, fun vv _ => vv = .int .i64 (g.nx - 1), fun vv _ => vv = .int .i64 x1, fun vv _ => vv = .int .i64 x0, fun vv _ => vv = .int .i64 x1]) (by kernel_rfl) (by kernel_rfl) (stable_nth ?_) ?_ ?_
  · exact ⟨Stable.eq _, Stable.eq _, Stable.eq _, Stable.eq _, Stable.eq _, Stable.eq _, Stable.eq _, Stable.eq _, Stable.eq _, Stable.eq _, Stable.eq _, Stable.eq _, Stable.eq _, Stable.eq _, Stable.eq _, Stable.eq _, Stable.eq _, Stable.eq _, Stable.eq _, Stable.eq _, Stable.eq _, Stable.eq _, Stable.eq _, Stable.eq _, Stable.eq _, Stable.eq _, Stable.eq _, Stable.eq _, Stable.eq _, Stable.eq _, Stable.eq _, Stable.eq _, Stable.eq _, Stable.eq _, Stable.eq _, trivial⟩
  · intro U A hA
    simp only [putFrom, Act.put, List.setIfInBounds_toArray, List.set_cons_zero, List.set_cons_succ] at hA
    subst hA
    refine ⟨?_, ?_, ?_, ?_, ?_, ?_, ?_, ?_, ?_, ?_, ?_, ?_, ?_, ?_, ?_, ?_, ?_, ?_, ?_, ?_, ?_, ?_, ?_, ?_, ?_, ?_, ?_, ?_, ?_, ?_, ?_, ?_, ?_, ?_, ?_, trivial⟩
    all_goals
      intro w hx hp
      dsimp only [Preds, nth, pick] at hp
      try simp only [hp]
      have c00 := (HM.out.ext hx).cell 0 0 rfl rfl
      have c01 := (HM.out.ext hx).cell 0 1 rfl rfl
      have c02 := (HM.out.ext hx).cell 0 2 rfl rfl
      have c03 := (HM.out.ext hx).cell 0 3 rfl rfl
      have c04 := (HM.out.ext hx).cell 0 4 rfl rfl
      have c05 := (HM.out.ext hx).cell 0 5 rfl rfl
      have c06 := (HM.out.ext hx).cell 0 6 rfl rfl
      have c07 := (HM.out.ext hx).cell 0 7 rfl rfl
      have c08 := (HM.out.ext hx).cell 0 8 rfl rfl
      have c10 := (HM.out.ext hx).cell 1 0 rfl rfl
      have c11 := (HM.out.ext hx).cell 1 1 rfl rfl
      have c20 := (HM.out.ext hx).cell 2 0 rfl rfl
      have c21 := (HM.out.ext hx).cell 2 1 rfl rfl
    case refine_13 =>
      go_wp2_with fail
      refine (HSx0.out _).mono ?_
      rintro e w9 ⟨rfl, hx3⟩
      go_wp2_with fail
      exact ⟨_, rfl, rfl, hx3⟩
    case refine_27 =>
      go_wp2_with fail
      refine (HSx1.out _).mono ?_
      rintro e w9 ⟨rfl, hx3⟩
      go_wp2_with fail
      exact ⟨_, rfl, rfl, hx3⟩
    all_goals
      go_wp2
      exact ⟨_, rfl, rfl, Below.refl _ _⟩
  · intro U A w hA hx h
    simp only [putFrom, Act.put, List.setIfInBounds_toArray, List.set_cons_zero, List.set_cons_succ] at hA
    subst hA
    have h33 : U 33 = .int .i64 x0 := h 33 (by decide)
    have h34 : U 34 = .int .i64 x1 := h 34 (by decide)
    simp only [h33, h34]
    have HM := hide (HM.out.ext hx)
    clear hx h h33 h34
    go_wp2_with fail
    refine wp_region_inv (w0 := _) (V := [fun vv _ => vv = .pointer (some ⟨w0.heap.size, 0, none⟩), fun vv _ => vv = .pointer (some ⟨w0.heap.size, 1, none⟩), fun vv _ => vv = .int .i64 g.cy, fun vv _ => vv = .pointer (some ⟨w0.heap.size, 2, none⟩), fun vv _ => vv = .int .i64 g.cell, fun vv _ => vv = .pointer (some ⟨w0.heap.size, 4, none⟩), fun vv _ => vv = .int .i64 g.ny, fun vv _ => vv = .pointer (some ⟨w0.heap.size + 1, 1, none⟩), fun vv _ => vv = .int .i64 a.ay, fun vv _ => vv = .pointer (some ⟨w0.heap.size + 1 + 1, 1, none⟩), fun vv _ => vv = .int .i64 a.by_, fun vv _ => vv = .int .i64 mny, fun vv _ => vv = .agg #[.int .i64 y0, .int .i64 py0, .int .i64 g.cell], fun vv _ => vv = .int .i64 y0, fun vv _ => vv = .pointer (some ⟨w0.heap.size, 0, none⟩), fun vv _ => vv = .pointer (some ⟨w0.heap.size, 1, none⟩), fun vv _ => vv = .int .i64 g.cy, fun vv _ => vv = .pointer (some ⟨w0.heap.size, 2, none⟩), fun vv _ => vv = .int .i64 g.cell, fun vv _ => vv = .pointer (some ⟨w0.heap.size, 4, none⟩), fun vv _ => vv = .int .i64 g.ny, fun vv _ => vv = .pointer (some ⟨w0.heap.size + 1, 1, none⟩), fun vv _ => vv = .int .i64 a.ay, fun vv _ => vv = .pointer (some ⟨w0.heap.size + 1 + 1, 1, none⟩), fun vv _ => vv = .int .i64 a.by_, fun vv _ => vv = .int .i64 mxy, fun vv _ => vv = .agg #[.int .i64 iy1, .int .i64 py1, .int .i64 g.cell], fun vv _ => vv = .int .i64 iy1, fun vv _ => vv = .int .i64 (iy1 + 1), fun vv _ => vv = .pointer (some ⟨w0.heap.size, 4, none⟩), fun vv _ => vv = .int .i64 g.ny, fun vv _ => vv = .int .i64 (g.ny - 1), fun vv _ => vv = .int .i64 y1, fun vv _ => vv = .int .i64 y0, fun vv _ => vv = .int .i64 y1]) (by kernel_rfl) (by kernel_rfl) (stable_nth ?_) ?_ ?_
    · exact ⟨Stable.eq _, Stable.eq _, Stable.eq _, Stable.eq _, Stable.eq _, Stable.eq _, Stable.eq _, Stable.eq _, Stable.eq _, Stable.eq _, Stable.eq _, Stable.eq _, Stable.eq _, Stable.eq _, Stable.eq _, Stable.eq _, Stable.eq _, Stable.eq _, Stable.eq _, Stable.eq _, Stable.eq _, Stable.eq _, Stable.eq _, Stable.eq _, Stable.eq _, Stable.eq _, Stable.eq _, Stable.eq _, Stable.eq _, Stable.eq _, Stable.eq _, Stable.eq _, Stable.eq _, Stable.eq _, Stable.eq _, trivial⟩
    · intro U A hA
      simp only [putFrom, Act.put, List.setIfInBounds_toArray, List.set_cons_zero, List.set_cons_succ] at hA
      subst hA
      refine ⟨?_, ?_, ?_, ?_, ?_, ?_, ?_, ?_, ?_, ?_, ?_, ?_, ?_, ?_, ?_, ?_, ?_, ?_, ?_, ?_, ?_, ?_, ?_, ?_, ?_, ?_, ?_, ?_, ?_, ?_, ?_, ?_, ?_, ?_, ?_, trivial⟩
      all_goals
        intro w hx hp
        dsimp only [Preds, nth, pick] at hp
        try simp only [hp]
        have c00 := (HM.out.ext hx).cell 0 0 rfl rfl
        have c01 := (HM.out.ext hx).cell 0 1 rfl rfl
        have c02 := (HM.out.ext hx).cell 0 2 rfl rfl
        have c03 := (HM.out.ext hx).cell 0 3 rfl rfl
        have c04 := (HM.out.ext hx).cell 0 4 rfl rfl
        have c05 := (HM.out.ext hx).cell 0 5 rfl rfl
        have c06 := (HM.out.ext hx).cell 0 6 rfl rfl
        have c07 := (HM.out.ext hx).cell 0 7 rfl rfl
        have c08 := (HM.out.ext hx).cell 0 8 rfl rfl
        have c10 := (HM.out.ext hx).cell 1 0 rfl rfl
        have c11 := (HM.out.ext hx).cell 1 1 rfl rfl
        have c20 := (HM.out.ext hx).cell 2 0 rfl rfl
        have c21 := (HM.out.ext hx).cell 2 1 rfl rfl
      case refine_13 =>
        go_wp2_with fail
        refine (HSy0.out _).mono ?_
        rintro e w9 ⟨rfl, hx3⟩
        go_wp2_with fail
        exact ⟨_, rfl, rfl, hx3⟩
      case refine_27 =>
        go_wp2_with fail
        refine (HSy1.out _).mono ?_
        rintro e w9 ⟨rfl, hx3⟩
        go_wp2_with fail
        exact ⟨_, rfl, rfl, hx3⟩
      all_goals
        go_wp2
        exact ⟨_, rfl, rfl, Below.refl _ _⟩
    · intro U A w hA hx h
      simp only [putFrom, Act.put, List.setIfInBounds_toArray, List.set_cons_zero, List.set_cons_succ] at hA
      subst hA
      have h33 : U 33 = .int .i64 y0 := h 33 (by decide)
      have h34 : U 34 = .int .i64 y1 := h 34 (by decide)
      simp only [h33, h34]
      have HM := hide (HM.out.ext hx)
      clear hx h h33 h34
      go_wp2_with fail
      refine wp_region_inv (w0 := _) (V := [fun vv _ => vv = .pointer (some ⟨w0.heap.size, 5, none⟩), fun vv _ => vv = .slice A1 g.alts.length c1, fun vv _ => vv = .pointer (some ⟨w0.heap.size + 1 + 1 + 1, 0, none⟩), fun vv _ => vv = .int .i64 a.lo, fun vv _ => vv = .agg #[.int .i64 z0, .int .i64 pz0, .int .i64 qz0], fun vv _ => vv = .int .i64 z0, fun vv _ => vv = .pointer (some ⟨w0.heap.size, 5, none⟩), fun vv _ => vv = .slice A1 g.alts.length c1, fun vv _ => vv = .pointer (some ⟨w0.heap.size + 1 + 1 + 1, 1, none⟩), fun vv _ => vv = .int .i64 a.hi, fun vv _ => vv = .agg #[.int .i64 iz1, .int .i64 pz1, .int .i64 qz1], fun vv _ => vv = .int .i64 iz1, fun vv _ => vv = .int .i64 (iz1 + 1), fun vv _ => vv = .pointer (some ⟨w0.heap.size, 5, none⟩), fun vv _ => vv = .slice A1 g.alts.length c1, fun vv _ => vv = .int .i64 (g.alts.length : Int), fun vv _ => vv = .int .i64 ((g.alts.length : Int) - 1), fun vv _ => vv = .int .i64 z1, fun vv _ => vv = .int .i64 z0, fun vv _ => vv = .int .i64 z1]) (by kernel_rfl) (by kernel_rfl) (stable_nth ?_) ?_ ?_
      · exact ⟨Stable.eq _, Stable.eq _, Stable.eq _, Stable.eq _, Stable.eq _, Stable.eq _, Stable.eq _, Stable.eq _, Stable.eq _, Stable.eq _, Stable.eq _, Stable.eq _, Stable.eq _, Stable.eq _, Stable.eq _, Stable.eq _, Stable.eq _, Stable.eq _, Stable.eq _, Stable.eq _, trivial⟩
      · intro U A hA
        simp only [putFrom, Act.put, List.setIfInBounds_toArray, List.set_cons_zero, List.set_cons_succ] at hA
        subst hA
        refine ⟨?_, ?_, ?_, ?_, ?_, ?_, ?_, ?_, ?_, ?_, ?_, ?_, ?_, ?_, ?_, ?_, ?_, ?_, ?_, ?_, trivial⟩
        all_goals
          intro w hx hp
          dsimp only [Preds, nth, pick] at hp
          try simp only [hp]
          have c00 := (HM.out.ext hx).cell 0 0 rfl rfl
          have c01 := (HM.out.ext hx).cell 0 1 rfl rfl
          have c02 := (HM.out.ext hx).cell 0 2 rfl rfl
          have c03 := (HM.out.ext hx).cell 0 3 rfl rfl
          have c04 := (HM.out.ext hx).cell 0 4 rfl rfl
          have c05 := (HM.out.ext hx).cell 0 5 rfl rfl
          have c06 := (HM.out.ext hx).cell 0 6 rfl rfl
          have c07 := (HM.out.ext hx).cell 0 7 rfl rfl
          have c08 := (HM.out.ext hx).cell 0 8 rfl rfl
          have c30 := (HM.out.ext hx).cell 3 0 rfl rfl
          have c31 := (HM.out.ext hx).cell 3 1 rfl rfl
        case refine_5 =>
          go_wp2_with fail
          refine (HSz0.out _ ((HH.out.ext HM.out.bel).ext hx).a).mono ?_
          rintro e w9 ⟨rfl, hx3⟩
          go_wp2_with fail
          exact ⟨_, rfl, rfl, hx3⟩
        case refine_11 =>
          go_wp2_with fail
          refine (HSz1.out _ ((HH.out.ext HM.out.bel).ext hx).a).mono ?_
          rintro e w9 ⟨rfl, hx3⟩
          go_wp2_with fail
          exact ⟨_, rfl, rfl, hx3⟩
        all_goals
          go_wp2
          exact ⟨_, rfl, rfl, Below.refl _ _⟩
      · intro U A w hA hx h
        simp only [putFrom, Act.put, List.setIfInBounds_toArray, List.set_cons_zero, List.set_cons_succ] at hA
        subst hA
        have h18 : U 18 = .int .i64 z0 := h 18 (by decide)
        have h19 : U 19 = .int .i64 z1 := h 19 (by decide)
        simp only [h18, h19]
        have HM := hide (HM.out.ext hx)
        clear hx h h18 h19
        have c00 := HM.out.cell 0 0 rfl rfl
        have c01 := HM.out.cell 0 1 rfl rfl
        have c02 := HM.out.cell 0 2 rfl rfl
        have c03 := HM.out.cell 0 3 rfl rfl
        have c04 := HM.out.cell 0 4 rfl rfl
        have c05 := HM.out.cell 0 5 rfl rfl
        have c06 := HM.out.cell 0 6 rfl rfl
        have c07 := HM.out.cell 0 7 rfl rfl
        have c08 := HM.out.cell 0 8 rfl rfl
        go_wp2_with fail
        refine (index_any g A1 _ _ c1 c2 c3 x0 y0 z0 _ HO.out hrx0 (by omega) hry0 (by omega) hrz0 (by omega)).mono ?_
        rintro e w5 ⟨rfl, hx⟩
        have HM := hide (HM.out.ext hx)
        clear hx
        obtain ⟨k, ek⟩ : ∃ k, idx g x0 y0 z0 = k := ⟨_, rfl⟩
        obtain ⟨E, eE⟩ : ∃ k, vx 0 g x0 y0 z0 = k := ⟨_, rfl⟩
        obtain ⟨N, eN⟩ : ∃ k, vx 1 g x0 y0 z0 = k := ⟨_, rfl⟩
        obtain ⟨D, eD⟩ : ∃ k, vx 2 g x0 y0 z0 = k := ⟨_, rfl⟩
        rw [ek]
        obtain ⟨k0, k1, k2, -, -, -⟩ := HEL.out w5 HM.out.bel x0 y0 z0 hrx0 (by omega) hry0 (by omega) hrz0 (by omega)
        rw [ek] at k0 k1 k2
        have EK := hide ek
        have EE := hide eE
        have EN := hide eN
        have ED := hide eD
        go_wp2_with fail
        refine wp_region_tail (w0 := _) (V := [fun vv _ => vv = .pointer (some ⟨w0.heap.size, 6, none⟩), fun vv _ => vv = .slice (some ⟨bw, ow, none⟩) g.winds.length c2, fun vv _ => vv = .int .i64 k, fun vv _ => vv = .pointer (some ⟨bw, ow + k.toNat * 2, none⟩), fun vv _ => vv = .pointer (some ⟨bw, ow + k.toNat * 2, none⟩), fun vv _ => vv = .int .i64 E, fun vv _ => vv = .pointer (some ⟨w0.heap.size, 6, none⟩), fun vv _ => vv = .slice (some ⟨bw, ow, none⟩) g.winds.length c2, fun vv _ => vv = .int .i64 k, fun vv _ => vv = .pointer (some ⟨bw, ow + k.toNat * 2, none⟩), fun vv _ => vv = .pointer (some ⟨bw, ow + k.toNat * 2, none⟩), fun vv _ => vv = .int .i64 E, fun vv _ => vv = .agg #[.int .i64 E, .int .i64 E], fun vv _ => vv = .pointer (some ⟨w0.heap.size, 6, none⟩), fun vv _ => vv = .slice (some ⟨bw, ow, none⟩) g.winds.length c2, fun vv _ => vv = .int .i64 k, fun vv _ => vv = .pointer (some ⟨bw, ow + k.toNat * 2, none⟩), fun vv _ => vv = .pointer (some ⟨bw, ow + k.toNat * 2 + 1, none⟩), fun vv _ => vv = .int .i64 N, fun vv _ => vv = .pointer (some ⟨w0.heap.size, 6, none⟩), fun vv _ => vv = .slice (some ⟨bw, ow, none⟩) g.winds.length c2, fun vv _ => vv = .int .i64 k, fun vv _ => vv = .pointer (some ⟨bw, ow + k.toNat * 2, none⟩), fun vv _ => vv = .pointer (some ⟨bw, ow + k.toNat * 2 + 1, none⟩), fun vv _ => vv = .int .i64 N, fun vv _ => vv = .agg #[.int .i64 N, .int .i64 N], fun vv _ => vv = .agg #[.int .i64 E, .int .i64 E, .int .i64 N, .int .i64 N], fun vv ww => ∃ b, vv = .pointer (some ⟨b, 0, none⟩) ∧ Bx ww b [.int .i64 0, .int .i64 0, .int .i64 0, .int .i64 0] ∧ Free ww b ∧ w5.heap.size ≤ b]) 28 [27] (by kernel_rfl) (by exact rfl) (by exact rfl) (by kernel_rfl) (by kernel_rfl) (stable_nth ?_) ?_ ?_
        · exact ⟨Stable.eq _, Stable.eq _, Stable.eq _, Stable.eq _, Stable.eq _, Stable.eq _, Stable.eq _, Stable.eq _, Stable.eq _, Stable.eq _, Stable.eq _, Stable.eq _, Stable.eq _, Stable.eq _, Stable.eq _, Stable.eq _, Stable.eq _, Stable.eq _, Stable.eq _, Stable.eq _, Stable.eq _, Stable.eq _, Stable.eq _, Stable.eq _, Stable.eq _, Stable.eq _, Stable.eq _, new_stable, trivial⟩
        · intro U A hA
          simp only [List.take_succ_cons, List.take_zero, putFrom, Act.put, List.setIfInBounds_toArray, List.set_cons_zero, List.set_cons_succ] at hA
          subst hA
          refine ⟨?_, ?_, ?_, ?_, ?_, ?_, ?_, ?_, ?_, ?_, ?_, ?_, ?_, ?_, ?_, ?_, ?_, ?_, ?_, ?_, ?_, ?_, ?_, ?_, ?_, ?_, ?_, ?_, trivial⟩
          all_goals
            intro w hx hp
            dsimp only [Preds, nth, pick] at hp
            try simp only [hp]
            have c00 := (HM.out.ext hx).cell 0 0 rfl rfl
            have c01 := (HM.out.ext hx).cell 0 1 rfl rfl
            have c02 := (HM.out.ext hx).cell 0 2 rfl rfl
            have c03 := (HM.out.ext hx).cell 0 3 rfl rfl
            have c04 := (HM.out.ext hx).cell 0 4 rfl rfl
            have c05 := (HM.out.ext hx).cell 0 5 rfl rfl
            have c06 := (HM.out.ext hx).cell 0 6 rfl rfl
            have c07 := (HM.out.ext hx).cell 0 7 rfl rfl
            have c08 := (HM.out.ext hx).cell 0 8 rfl rfl
            obtain ⟨-, -, -, we, wn, -⟩ := HEL.out w (HM.out.ext hx).bel x0 y0 z0 hrx0 (by omega) hry0 (by omega) hrz0 (by omega)
            rw [ek, eE] at we
            rw [ek, eN] at wn
          case refine_28 =>
            go_wp2
            exact ⟨_, rfl, ⟨w.heap.size, rfl, Bx.at_new _ _ _ _ rfl, Free.new _ _ _ _ rfl, hx.size⟩, ext_new _ _, fun _ => ⟨rfl, by simp⟩⟩
          all_goals
            go_wp2
            exact ⟨_, rfl, rfl, Below.refl _ _, fun h => absurd h (by decide)⟩
        · intro U A w hA hx h hd
          simp only [List.take_succ_cons, List.take_zero, putFrom, Act.put, List.setIfInBounds_toArray, List.set_cons_zero, List.set_cons_succ] at hA
          subst hA
          simp only [List.drop_succ_cons, List.drop_zero]
          obtain ⟨bb, ebb, hbb, fbb, gbb⟩ := h 27 (by decide)
          have hlb := Nat.lt_of_lt_of_le (HM.out.lt 5 rfl) gbb
          have h26 : U 26 = .agg #[.int .i64 E, .int .i64 E, .int .i64 N, .int .i64 N] := h 26 (by decide)
          simp only [ebb, h26]
          have HM := hide (show MS w0 w (List.append _ [(bb, [.int .i64 0, .int .i64 0, .int .i64 0, .int .i64 0])]) from HM.out.add hx gbb hbb fbb)
          have b0 := hbb.at_ 0 _ rfl
          have b1 := hbb.at_ 1 _ rfl
          have b2 := hbb.at_ 2 _ rfl
          have b3 := hbb.at_ 3 _ rfl
          have f0 := fbb.2 0
          have f1 := fbb.2 1
          have f2 := fbb.2 2
          have f3 := fbb.2 3
          have HM := hide (show MS w0 _ (L7 g A1 c1 bw ow c2 bd od c3 a w0.heap.size bb (E, E) (N, N)) from (((HM.out.set 6 0 (.int .i64 E) rfl).set 6 1 (.int .i64 E) rfl).set 6 2 (.int .i64 N) rfl).set 6 3 (.int .i64 N) rfl)
          clear hx h hd ebb h26 hbb fbb gbb
          go_wp2_with fail
          clear b0 f0 b1 f1 b2 f2 b3 f3
          generalize (((w.setCell ⟨bb, 0, none⟩ (.int .i64 E)).setCell ⟨bb, 1, none⟩ (.int .i64 E)).setCell ⟨bb, 2, none⟩ (.int .i64 N)).setCell ⟨bb, 3, none⟩ (.int .i64 N) = w6 at HM ⊢
          refine wp_region_tail (w0 := _) (V := [fun vv _ => vv = .pointer (some ⟨w0.heap.size, 7, none⟩), fun vv _ => vv = .slice (some ⟨bd, od, none⟩) g.devs.length c3, fun vv _ => vv = .int .i64 k, fun vv _ => vv = .pointer (some ⟨bd, od + k.toNat, none⟩), fun vv _ => vv = .int .i64 D, fun vv _ => vv = .pointer (some ⟨w0.heap.size, 7, none⟩), fun vv _ => vv = .slice (some ⟨bd, od, none⟩) g.devs.length c3, fun vv _ => vv = .int .i64 k, fun vv _ => vv = .pointer (some ⟨bd, od + k.toNat, none⟩), fun vv _ => vv = .int .i64 D, fun vv _ => vv = .agg #[.int .i64 D, .int .i64 D], fun vv ww => ∃ b, vv = .pointer (some ⟨b, 0, none⟩) ∧ Bx ww b [.int .i64 0, .int .i64 0] ∧ Free ww b ∧ w6.heap.size ≤ b]) 12 [11] (by kernel_rfl) (by exact rfl) (by exact rfl) (by kernel_rfl) (by kernel_rfl) (stable_nth ?_) ?_ ?_
          · exact ⟨Stable.eq _, Stable.eq _, Stable.eq _, Stable.eq _, Stable.eq _, Stable.eq _, Stable.eq _, Stable.eq _, Stable.eq _, Stable.eq _, Stable.eq _, new_stable, trivial⟩
          · intro U A hA
            simp only [List.take_succ_cons, List.take_zero, putFrom, Act.put, List.setIfInBounds_toArray, List.set_cons_zero, List.set_cons_succ] at hA
            subst hA
            refine ⟨?_, ?_, ?_, ?_, ?_, ?_, ?_, ?_, ?_, ?_, ?_, ?_, trivial⟩
            all_goals
              intro w hx hp
              dsimp only [Preds, nth, pick] at hp
              try simp only [hp]
              have c00 := (HM.out.ext hx).cell 0 0 rfl rfl
              have c01 := (HM.out.ext hx).cell 0 1 rfl rfl
              have c02 := (HM.out.ext hx).cell 0 2 rfl rfl
              have c03 := (HM.out.ext hx).cell 0 3 rfl rfl
              have c04 := (HM.out.ext hx).cell 0 4 rfl rfl
              have c05 := (HM.out.ext hx).cell 0 5 rfl rfl
              have c06 := (HM.out.ext hx).cell 0 6 rfl rfl
              have c07 := (HM.out.ext hx).cell 0 7 rfl rfl
              have c08 := (HM.out.ext hx).cell 0 8 rfl rfl
              obtain ⟨-, -, -, -, -, wd⟩ := HEL.out w (HM.out.ext hx).bel x0 y0 z0 hrx0 (by omega) hry0 (by omega) hrz0 (by omega)
              rw [ek, eD] at wd
            case refine_12 =>
              go_wp2
              exact ⟨_, rfl, ⟨w.heap.size, rfl, Bx.at_new _ _ _ _ rfl, Free.new _ _ _ _ rfl, hx.size⟩, ext_new _ _, fun _ => ⟨rfl, by simp⟩⟩
            all_goals
              go_wp2
              exact ⟨_, rfl, rfl, Below.refl _ _, fun h => absurd h (by decide)⟩
          · intro U A w hA hx h hd
            simp only [List.take_succ_cons, List.take_zero, putFrom, Act.put, List.setIfInBounds_toArray, List.set_cons_zero, List.set_cons_succ] at hA
            subst hA
            simp only [List.drop_succ_cons, List.drop_zero]
            obtain ⟨db, edb, hdb, fdb, gdb⟩ := h 11 (by decide)
            have hld := Nat.lt_of_lt_of_le (HM.out.lt 5 rfl) gdb
            have h10 : U 10 = .agg #[.int .i64 D, .int .i64 D] := h 10 (by decide)
            simp only [edb, h10]
            have HM := hide (show MS w0 w (L8 g A1 c1 bw ow c2 bd od c3 a w0.heap.size bb db (E, E) (N, N) (0, 0)) from HM.out.add hx gdb hdb fdb)
            have d0 := hdb.at_ 0 _ rfl
            have d1 := hdb.at_ 1 _ rfl
            have f0 := fdb.2 0
            have f1 := fdb.2 1
            have HM := hide (show MS w0 _ (L8 g A1 c1 bw ow c2 bd od c3 a w0.heap.size bb db (E, E) (N, N) (D, D)) from (HM.out.set 7 0 (.int .i64 D) rfl).set 7 1 (.int .i64 D) rfl)
            clear hx h hd edb h10 hdb fdb gdb
            go_wp2_with fail
            clear d0 d1 f0 f1
            generalize (w.setCell ⟨db, 0, none⟩ (.int .i64 D)).setCell ⟨db, 1, none⟩ (.int .i64 D) = w7 at HM ⊢
            rw [EE.out.symm, EN.out.symm, ED.out.symm] at HM
            obtain ⟨nx, enx⟩ : ∃ n : Nat, cnt x0 x1 = n := ⟨_, rfl⟩
            obtain ⟨ny, eny⟩ : ∃ n : Nat, cnt y0 y1 = n := ⟨_, rfl⟩
            obtain ⟨nz, enz⟩ : ∃ n : Nat, cnt z0 z1 = n := ⟨_, rfl⟩
            have FX := hide (show x1 + 1 = x0 + (nx : Int) by unfold cnt at enx; omega)
            have FY := hide (show y1 + 1 = y0 + (ny : Int) by unfold cnt at eny; omega)
            have FZ := hide (show z1 + 1 = z0 + (nz : Int) by unfold cnt at enz; omega)
            have ENX := hide enx
            have ENY := hide eny
            have ENZ := hide enz
            clear enx eny enz k0 k1 k2 c00 c01 c02 c03 c04 c05 c06 c07 c08
            go_loopw [21, 22, 23, 24] (fun zv _ _ _ wr => ∃ c : Nat, c ≤ nz ∧ zv = .int .i64 (z0 + (c : Int)) ∧ Hid (MS w0 wr (L8 g A1 c1 bw ow c2 bd od c3 a w0.heap.size bb db (allH 0 g x0 nx y0 ny z0 c (vx 0 g x0 y0 z0, vx 0 g x0 y0 z0)) (allH 1 g x0 nx y0 ny z0 c (vx 1 g x0 y0 z0, vx 1 g x0 y0 z0)) (allH 2 g x0 nx y0 ny z0 c (vx 2 g x0 y0 z0, vx 2 g x0 y0 z0))))) (fun zv _ _ _ _ => (z0 + (nz : Int) - intOf zv).toNat)
            case atStart => exact ⟨0, by omega, num_at z0, HM⟩
            case round =>
            clear HM
            obtain ⟨c, hc, rfl, HM⟩ := hrel
            obtain ⟨wz, rfl⟩ : ∃ wz : World, wz = wr := ⟨_, rfl⟩
            obtain ⟨se, ese⟩ : ∃ s, allH 0 g x0 nx y0 ny z0 c (vx 0 g x0 y0 z0, vx 0 g x0 y0 z0) = s := ⟨_, rfl⟩
            obtain ⟨sn, esn⟩ : ∃ s, allH 1 g x0 nx y0 ny z0 c (vx 1 g x0 y0 z0, vx 1 g x0 y0 z0) = s := ⟨_, rfl⟩
            obtain ⟨sd, esd⟩ : ∃ s, allH 2 g x0 nx y0 ny z0 c (vx 2 g x0 y0 z0, vx 2 g x0 y0 z0) = s := ⟨_, rfl⟩
            rw [ese, esn, esd] at HM
            have EZe := hide ese
            have EZn := hide esn
            have EZd := hide esd
            clear ese esn esd
            by_cases hltz : c < nz
            · have hcz : z0 + (c : Int) ≤ z1 := by have := FZ.out; omega
              have hz2 : 0 ≤ z0 + (c : Int) := by omega
              obtain ⟨te, ete⟩ : ∃ t, se = t := ⟨_, rfl⟩
              obtain ⟨tn, etn⟩ : ∃ t, sn = t := ⟨_, rfl⟩
              obtain ⟨td, etd⟩ : ∃ t, sd = t := ⟨_, rfl⟩
              rw [ete] at HM EZe
              rw [etn] at HM EZn
              rw [etd] at HM EZd
              clear ete etn etd se sn sd
              go_wp2_with fail
              go_loopw [22, 23, 24] (fun yv _ _ wr => ∃ b : Nat, b ≤ ny ∧ yv = .int .i64 (y0 + (b : Int)) ∧ Hid (MS w0 wr (L8 g A1 c1 bw ow c2 bd od c3 a w0.heap.size bb db (layH 0 g x0 nx y0 (z0 + c) b te) (layH 1 g x0 nx y0 (z0 + c) b tn) (layH 2 g x0 nx y0 (z0 + c) b td)))) (fun yv _ _ _ => (y0 + (ny : Int) - intOf yv).toNat)
              case atStart => exact ⟨0, by omega, num_at y0, HM⟩
              case round =>
              clear HM
              obtain ⟨b, hb, rfl, HM⟩ := hrel
              obtain ⟨wy, rfl⟩ : ∃ wy : World, wy = wr := ⟨_, rfl⟩
              obtain ⟨re, ere⟩ : ∃ s, layH 0 g x0 nx y0 (z0 + c) b te = s := ⟨_, rfl⟩
              obtain ⟨rn, ern⟩ : ∃ s, layH 1 g x0 nx y0 (z0 + c) b tn = s := ⟨_, rfl⟩
              obtain ⟨rd, erd⟩ : ∃ s, layH 2 g x0 nx y0 (z0 + c) b td = s := ⟨_, rfl⟩
              rw [ere, ern, erd] at HM
              have EYe := hide ere
              have EYn := hide ern
              have EYd := hide erd
              clear ere ern erd
              by_cases hlty : b < ny
              · have hby : y0 + (b : Int) ≤ y1 := by have := FY.out; omega
                have hy2 : 0 ≤ y0 + (b : Int) := by omega
                go_wp2_with fail
                go_loopw [23, 24] (fun xv _ wr => ∃ q : Nat, q ≤ nx ∧ xv = .int .i64 (x0 + (q : Int)) ∧ Hid (MS w0 wr (L8 g A1 c1 bw ow c2 bd od c3 a w0.heap.size bb db (rowH 0 g x0 (y0 + b) (z0 + c) q re) (rowH 1 g x0 (y0 + b) (z0 + c) q rn) (rowH 2 g x0 (y0 + b) (z0 + c) q rd)))) (fun xv _ _ => (x0 + (nx : Int) - intOf xv).toNat)
                case atStart => exact ⟨0, by omega, num_at x0, HM⟩
                case round =>
                clear HM
                obtain ⟨q, hq, rfl, HM⟩ := hrel
                obtain ⟨wx, rfl⟩ : ∃ wx : World, wx = wr := ⟨_, rfl⟩
                obtain ⟨se, ese⟩ : ∃ s, rowH 0 g x0 (y0 + b) (z0 + c) q re = s := ⟨_, rfl⟩
                obtain ⟨sn, esn⟩ : ∃ s, rowH 1 g x0 (y0 + b) (z0 + c) q rn = s := ⟨_, rfl⟩
                obtain ⟨sd, esd⟩ : ∃ s, rowH 2 g x0 (y0 + b) (z0 + c) q rd = s := ⟨_, rfl⟩
                rw [ese, esn, esd] at HM
                have ESe := hide ese
                have ESn := hide esn
                have ESd := hide esd
                clear ese esn esd
                by_cases hltx : q < nx
                · have hax : x0 + (q : Int) ≤ x1 := by have := FX.out; omega
                  have hx2 : 0 ≤ x0 + (q : Int) := by omega
                  have c00 := HM.out.cell 0 0 rfl rfl
                  have c01 := HM.out.cell 0 1 rfl rfl
                  have c02 := HM.out.cell 0 2 rfl rfl
                  have c03 := HM.out.cell 0 3 rfl rfl
                  have c04 := HM.out.cell 0 4 rfl rfl
                  have c05 := HM.out.cell 0 5 rfl rfl
                  have c06 := HM.out.cell 0 6 rfl rfl
                  have c07 := HM.out.cell 0 7 rfl rfl
                  have c08 := HM.out.cell 0 8 rfl rfl
                  go_wp2_with fail
                  refine (index_any g A1 _ _ c1 c2 c3 (x0 + (q : Int)) (y0 + (b : Int)) (z0 + (c : Int)) _ HO.out hx2 (by omega) hy2 (by omega) hz2 (by omega)).mono ?_
                  rintro e w5 ⟨rfl, hxx⟩
                  have HM := hide (HM.out.ext hxx)
                  clear hxx c00 c01 c02 c03 c04 c05 c06 c07 c08
                  obtain ⟨k, ek⟩ : ∃ k, idx g (x0 + (q : Int)) (y0 + (b : Int)) (z0 + (c : Int)) = k := ⟨_, rfl⟩
                  obtain ⟨k0, k1, k2, we, wn, wd⟩ := HEL.out w5 HM.out.bel (x0 + (q : Int)) (y0 + (b : Int)) (z0 + (c : Int)) hx2 (by omega) hy2 (by omega) hz2 (by omega)
                  have HELK := hide (fun wr hx => HEL.out wr hx (x0 + (q : Int)) (y0 + (b : Int)) (z0 + (c : Int)) hx2 (by omega) hy2 (by omega) hz2 (by omega))
                  rw [ek] at HELK k0 k1 k2 we wn wd
                  rw [ek]
                  clear ek
                  have c00 := HM.out.cell 0 0 rfl rfl
                  have c01 := HM.out.cell 0 1 rfl rfl
                  have c02 := HM.out.cell 0 2 rfl rfl
                  have c03 := HM.out.cell 0 3 rfl rfl
                  have c04 := HM.out.cell 0 4 rfl rfl
                  have c05 := HM.out.cell 0 5 rfl rfl
                  have c06 := HM.out.cell 0 6 rfl rfl
                  have c07 := HM.out.cell 0 7 rfl rfl
                  have c08 := HM.out.cell 0 8 rfl rfl
                  have c60 := HM.out.cell 6 0 rfl rfl
                  have c61 := HM.out.cell 6 1 rfl rfl
                  have c62 := HM.out.cell 6 2 rfl rfl
                  have c63 := HM.out.cell 6 3 rfl rfl
                  have c70 := HM.out.cell 7 0 rfl rfl
                  have c71 := HM.out.cell 7 1 rfl rfl
                  have f60 := HM.out.free 6 0 rfl
                  have f61 := HM.out.free 6 1 rfl
                  have f62 := HM.out.free 6 2 rfl
                  have f63 := HM.out.free 6 3 rfl
                  have f70 := HM.out.free 7 0 rfl
                  have f71 := HM.out.free 7 1 rfl
                  go_wp2_with fail
                  refine (stretch_any bb 0 1 rfl se.1 se.2 _ _ c60 c61 f60 f61).mono ?_
                  rintro e w6 ⟨rfl, hw⟩
                  have HM := hide (show MS w0 w6 (L8 g A1 c1 bw ow c2 bd od c3 a w0.heap.size bb db (mm se (vx 0 g (x0 + (q : Int)) (y0 + (b : Int)) (z0 + (c : Int)))) sn sd) from by
                    rw [hw]; exact ((HM.out.set 6 0 _ rfl).set 6 1 _ rfl).ext (Below.refl _ _).drew)
                  clear hw we wn wd c00 c01 c02 c03 c04 c05 c06 c07 c08
                  clear c60 f60 c61 f61 c62 f62 c63 f63 c70 f70 c71 f71
                  obtain ⟨-, -, -, -, wn, wd⟩ := HELK.out w6 HM.out.bel
                  have c00 := HM.out.cell 0 0 rfl rfl
                  have c01 := HM.out.cell 0 1 rfl rfl
                  have c02 := HM.out.cell 0 2 rfl rfl
                  have c03 := HM.out.cell 0 3 rfl rfl
                  have c04 := HM.out.cell 0 4 rfl rfl
                  have c05 := HM.out.cell 0 5 rfl rfl
                  have c06 := HM.out.cell 0 6 rfl rfl
                  have c07 := HM.out.cell 0 7 rfl rfl
                  have c08 := HM.out.cell 0 8 rfl rfl
                  have c60 := HM.out.cell 6 0 rfl rfl
                  have c61 := HM.out.cell 6 1 rfl rfl
                  have c62 := HM.out.cell 6 2 rfl rfl
                  have c63 := HM.out.cell 6 3 rfl rfl
                  have c70 := HM.out.cell 7 0 rfl rfl
                  have c71 := HM.out.cell 7 1 rfl rfl
                  have f60 := HM.out.free 6 0 rfl
                  have f61 := HM.out.free 6 1 rfl
                  have f62 := HM.out.free 6 2 rfl
                  have f63 := HM.out.free 6 3 rfl
                  have f70 := HM.out.free 7 0 rfl
                  have f71 := HM.out.free 7 1 rfl
                  go_wp2_with fail
                  refine (stretch_any bb 2 3 rfl sn.1 sn.2 _ _ c62 c63 f62 f63).mono ?_
                  rintro e w7 ⟨rfl, hw⟩
                  have HM := hide (show MS w0 w7 (L8 g A1 c1 bw ow c2 bd od c3 a w0.heap.size bb db (mm se (vx 0 g (x0 + (q : Int)) (y0 + (b : Int)) (z0 + (c : Int)))) (mm sn (vx 1 g (x0 + (q : Int)) (y0 + (b : Int)) (z0 + (c : Int)))) sd) from by
                    rw [hw]; exact ((HM.out.set 6 2 _ rfl).set 6 3 _ rfl).ext (Below.refl _ _).drew)
                  clear hw wn wd c00 c01 c02 c03 c04 c05 c06 c07 c08
                  clear c60 f60 c61 f61 c62 f62 c63 f63 c70 f70 c71 f71
                  obtain ⟨-, -, -, -, -, wd⟩ := HELK.out w7 HM.out.bel
                  have c00 := HM.out.cell 0 0 rfl rfl
                  have c01 := HM.out.cell 0 1 rfl rfl
                  have c02 := HM.out.cell 0 2 rfl rfl
                  have c03 := HM.out.cell 0 3 rfl rfl
                  have c04 := HM.out.cell 0 4 rfl rfl
                  have c05 := HM.out.cell 0 5 rfl rfl
                  have c06 := HM.out.cell 0 6 rfl rfl
                  have c07 := HM.out.cell 0 7 rfl rfl
                  have c08 := HM.out.cell 0 8 rfl rfl
                  have c60 := HM.out.cell 6 0 rfl rfl
                  have c61 := HM.out.cell 6 1 rfl rfl
                  have c62 := HM.out.cell 6 2 rfl rfl
                  have c63 := HM.out.cell 6 3 rfl rfl
                  have c70 := HM.out.cell 7 0 rfl rfl
                  have c71 := HM.out.cell 7 1 rfl rfl
                  have f60 := HM.out.free 6 0 rfl
                  have f61 := HM.out.free 6 1 rfl
                  have f62 := HM.out.free 6 2 rfl
                  have f63 := HM.out.free 6 3 rfl
                  have f70 := HM.out.free 7 0 rfl
                  have f71 := HM.out.free 7 1 rfl
                  go_wp2_with fail
                  refine (stretch_any db 0 1 rfl sd.1 sd.2 _ _ c70 c71 f70 f71).mono ?_
                  rintro e w8 ⟨rfl, hw⟩
                  have HM := hide (show MS w0 w8 (L8 g A1 c1 bw ow c2 bd od c3 a w0.heap.size bb db (mm se (vx 0 g (x0 + (q : Int)) (y0 + (b : Int)) (z0 + (c : Int)))) (mm sn (vx 1 g (x0 + (q : Int)) (y0 + (b : Int)) (z0 + (c : Int)))) (mm sd (vx 2 g (x0 + (q : Int)) (y0 + (b : Int)) (z0 + (c : Int))))) from by
                    rw [hw]; exact ((HM.out.set 7 0 _ rfl).set 7 1 _ rfl).ext (Below.refl _ _).drew)
                  clear hw wd c00 c01 c02 c03 c04 c05 c06 c07 c08
                  clear c60 f60 c61 f61 c62 f62 c63 f63 c70 f70 c71 f71
                  go_wp2_with fail
                  go_roundw
                  case rel => first | exact ⟨q + 1, by omega, num_next _ _, hide (by simp only [rowH]; rw [ESe.out, ESn.out, ESd.out]; exact HM.out)⟩ | ((repeat apply Exists.intro); exact ⟨⟨q + 1, by omega, num_next _ _, hide (by simp only [rowH]; rw [ESe.out, ESn.out, ESd.out]; exact HM.out)⟩, rfl⟩)
                  case measure => simp [intOf]; omega
                · obtain rfl : q = nx := by omega
                  have hax : x1 < x0 + (q : Int) := by have := FX.out; omega
                  go_wp2_with fail
                  go_roundw
                  case rel => exact ⟨b + 1, by omega, num_next _ _, hide (by simp only [layH]; rw [EYe.out, EYn.out, EYd.out, ESe.out, ESn.out, ESd.out]; exact HM.out)⟩
                  case measure => simp [intOf]; omega
              · obtain rfl : b = ny := by omega
                have hby : y1 < y0 + (b : Int) := by have := FY.out; omega
                go_wp2_with fail
                go_roundw
                case rel => exact ⟨c + 1, by omega, num_next _ _, hide (by simp only [allH]; rw [EZe.out, EZn.out, EZd.out, EYe.out, EYn.out, EYd.out]; exact HM.out)⟩
                case measure => simp [intOf]; omega
            · obtain rfl : c = nz := by omega
              have hcz : z1 < z0 + (c : Int) := by have := FZ.out; omega
              have HRe := hide (show hullR 0 g a = se by unfold hullR hullV; rw [Hx0.out, Hx1.out, Hy0.out, Hy1.out, Hz0.out, Hz1.out, ENX.out, ENY.out, ENZ.out, EZe.out])
              have HRn := hide (show hullR 1 g a = sn by unfold hullR hullV; rw [Hx0.out, Hx1.out, Hy0.out, Hy1.out, Hz0.out, Hz1.out, ENX.out, ENY.out, ENZ.out, EZn.out])
              have HRd := hide (show hullR 2 g a = sd by unfold hullR hullV; rw [Hx0.out, Hx1.out, Hy0.out, Hy1.out, Hz0.out, Hz1.out, ENX.out, ENY.out, ENZ.out, EZd.out])
              obtain ⟨me1, me2, me3, me4⟩ := hullR_in 0 HO.out a d2
              obtain ⟨mn1, mn2, mn3, mn4⟩ := hullR_in 1 HO.out a d2
              rw [HRe.out] at me1 me2 me3 me4
              rw [HRn.out] at mn1 mn2 mn3 mn4
              have r1 := HO.out.err1
              have r2 := HO.out.err2
              clear EZe EZn EZd ENX ENY ENZ
              have hix0 := idx_ptr0
              have hix1 := idx_ptr1
              go_wp2_with fail
              go_loopw [26, 236] (fun _ i wr => (i = .int .i64 0 ∧ Hid (MS w0 wr (L8 g A1 c1 bw ow c2 bd od c3 a w0.heap.size bb db se sn sd))) ∨ (i = .int .i64 1 ∧ Hid (MS w0 wr (L8 g A1 c1 bw ow c2 bd od c3 a w0.heap.size bb db (se.1 - g.err, se.2 + g.err) sn sd))) ∨ (i = .int .i64 2 ∧ Hid (MS w0 wr (L8 g A1 c1 bw ow c2 bd od c3 a w0.heap.size bb db (se.1 - g.err, se.2 + g.err) (sn.1 - g.err, sn.2 + g.err) sd)))) (fun _ i _ => 2 - (intOf i).toNat)
              case atStart => exact .inl ⟨rfl, HM⟩
              case round =>
              clear HM
              rcases hrel with ⟨rfl, HM⟩ | ⟨rfl, HM⟩ | ⟨rfl, HM⟩
              · have c08 := HM.out.cell 0 8 rfl rfl
                have c60 := HM.out.cell 6 0 rfl rfl
                have c61 := HM.out.cell 6 1 rfl rfl
                have c62 := HM.out.cell 6 2 rfl rfl
                have c63 := HM.out.cell 6 3 rfl rfl
                have c70 := HM.out.cell 7 0 rfl rfl
                have c71 := HM.out.cell 7 1 rfl rfl
                have f60 := HM.out.free 6 0 rfl
                have f61 := HM.out.free 6 1 rfl
                have f62 := HM.out.free 6 2 rfl
                have f63 := HM.out.free 6 3 rfl
                have f70 := HM.out.free 7 0 rfl
                have f71 := HM.out.free 7 1 rfl
                have HM2 := hide (show MS w0 _ (L8 g A1 c1 bw ow c2 bd od c3 a w0.heap.size bb db (se.1 - g.err, se.2 + g.err) sn sd) from (HM.out.set 6 0 (.int .i64 (se.1 - g.err)) rfl).set 6 1 (.int .i64 (se.2 + g.err)) rfl)
                go_wp2_with fail
                go_region
                go_wp2_with fail
                go_region
                go_wp2_with fail
                go_roundw
                case rel => first | exact .inr (.inl ⟨rfl, hide (HM2.out.ext ((Below.refl _ _).drew.drew))⟩) | ((repeat apply Exists.intro); exact ⟨.inr (.inl ⟨rfl, hide (HM2.out.ext ((Below.refl _ _).drew.drew))⟩), rfl⟩)
                case measure => simp [intOf]
              · have c08 := HM.out.cell 0 8 rfl rfl
                have c60 := HM.out.cell 6 0 rfl rfl
                have c61 := HM.out.cell 6 1 rfl rfl
                have c62 := HM.out.cell 6 2 rfl rfl
                have c63 := HM.out.cell 6 3 rfl rfl
                have c70 := HM.out.cell 7 0 rfl rfl
                have c71 := HM.out.cell 7 1 rfl rfl
                have f60 := HM.out.free 6 0 rfl
                have f61 := HM.out.free 6 1 rfl
                have f62 := HM.out.free 6 2 rfl
                have f63 := HM.out.free 6 3 rfl
                have f70 := HM.out.free 7 0 rfl
                have f71 := HM.out.free 7 1 rfl
                have HM2 := hide (show MS w0 _ (L8 g A1 c1 bw ow c2 bd od c3 a w0.heap.size bb db (se.1 - g.err, se.2 + g.err) (sn.1 - g.err, sn.2 + g.err) sd) from (HM.out.set 6 2 (.int .i64 (sn.1 - g.err)) rfl).set 6 3 (.int .i64 (sn.2 + g.err)) rfl)
                go_wp2_with fail
                go_region
                go_wp2_with fail
                go_region
                go_wp2_with fail
                go_roundw
                case rel => first | exact .inr (.inr ⟨rfl, hide (HM2.out.ext ((Below.refl _ _).drew.drew))⟩) | ((repeat apply Exists.intro); exact ⟨.inr (.inr ⟨rfl, hide (HM2.out.ext ((Below.refl _ _).drew.drew))⟩), rfl⟩)
                case measure => simp [intOf]
              · have c60 := HM.out.cell 6 0 rfl rfl
                have c61 := HM.out.cell 6 1 rfl rfl
                have c62 := HM.out.cell 6 2 rfl rfl
                have c63 := HM.out.cell 6 3 rfl rfl
                have c70 := HM.out.cell 7 0 rfl rfl
                have c71 := HM.out.cell 7 1 rfl rfl
                have c40 := HM.out.cell 4 0 rfl rfl
                have c41 := HM.out.cell 4 1 rfl rfl
                have c42 := HM.out.cell 4 2 rfl rfl
                have c43 := HM.out.cell 4 3 rfl rfl
                have f40 := HM.out.free 4 0 rfl
                have f41 := HM.out.free 4 1 rfl
                have f42 := HM.out.free 4 2 rfl
                have f43 := HM.out.free 4 3 rfl
                have c50 := HM.out.cell 5 0 rfl rfl
                have c51 := HM.out.cell 5 1 rfl rfl
                have f50 := HM.out.free 5 0 rfl
                have f51 := HM.out.free 5 1 rfl
                go_wp2_with fail
                go_region
                all_goals
                  go_wp2_with fail
                  refine bodyPost_ret (v := .tuple #[.agg #[.int .i64 (se.1 - g.err), .int .i64 (se.2 + g.err), .int .i64 (sn.1 - g.err), .int .i64 (sn.2 + g.err)], .agg #[.int .i64 sd.1, .int .i64 sd.2], .int .i64 0]) (by simp [results, Try.results13, go_sem, c40, c41, c42, c43, c50, c51]) rfl ⟨?_, ?_⟩
                  · unfold hOut; rw [if_pos HQ.out, HRe.out, HRn.out, HRd.out]
                  · repeat' (first | (with_reducible refine Below.drew ?_) | (with_reducible refine Below.setCell ?_ ?_ _) | (with_reducible exact HM.out.bel) | (simp; done) | (simp; omega))
end Go.Proofs.Ytfgeoeipnidfhaa
