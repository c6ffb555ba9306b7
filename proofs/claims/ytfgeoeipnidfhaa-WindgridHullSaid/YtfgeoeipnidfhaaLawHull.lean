/- The statement on the hull of a rectangle and a window. -/
import Derived.Test.YtfgeoeipnidfhaaHullF
import Derived.Test.YtfgeoeipnidfhaaRhull
namespace Go.Proofs.Ytfgeoeipnidfhaa
open Go.RowKit Go.Base Wg

set_option maxRecDepth 100000 in
set_option maxHeartbeats 1000000 in
theorem hull_law (g : Grid) (A1 A2 A3 : Option Addr) (c1 c2 c3 : Nat) (a : Ar) (w : World) (h : GIn w g A1 c1 A2 c2 A3 c3) :
    Calls Try.prog 4 #[gv g A1 c1 A2 c2 A3 c3, .agg #[.int .i64 a.ax, .int .i64 a.ay, .int .i64 a.bx, .int .i64 a.by_, .int .i64 a.lo, .int .i64 a.hi]] w fun e w' => e = .returned (.bool true) ∧ Ext w w' := by
  have heb := eq_box
  have hei := eq_iv
  have HH := hide h
  clear h
  obtain ⟨b0, b1, b2, b3, d0, d1, er, ho, _⟩ := hout_form g a
  have HO := hide ho
  clear ho
  go_enter Try.func4, Try.ntmps4
  go_wp2_with fail
  have HM := hide (show MS w _ [(w.heap.size, gcells g A1 c1 A2 c2 A3 c3), (w.heap.size + 1, acells a)] from ((MS.nil w).new #[.int .i64 g.cx, .int .i64 g.cy, .int .i64 g.cell, .int .i64 g.nx, .int .i64 g.ny, .slice A1 g.alts.length c1, .slice A2 g.winds.length c2, .slice A3 g.devs.length c3, .int .i64 g.err] 27 _ rfl).new #[.int .i64 a.ax, .int .i64 a.ay, .int .i64 a.bx, .int .i64 a.by_, .int .i64 a.lo, .int .i64 a.hi] 38 (w.heap.size + 1) (by simp))
  refine (awake_any _).mono ?_
  rintro e w1 ⟨rfl, hx⟩
  have HM := hide (HM.out.ext hx)
  clear hx
  have g0 := HM.out.cell 0 0 rfl rfl
  have g1 := HM.out.cell 0 1 rfl rfl
  have g2 := HM.out.cell 0 2 rfl rfl
  have g3 := HM.out.cell 0 3 rfl rfl
  have g4 := HM.out.cell 0 4 rfl rfl
  have g5 := HM.out.cell 0 5 rfl rfl
  have g6 := HM.out.cell 0 6 rfl rfl
  have g7 := HM.out.cell 0 7 rfl rfl
  have g8 := HM.out.cell 0 8 rfl rfl
  have p0 := HM.out.cell 1 0 rfl rfl
  have p1 := HM.out.cell 1 1 rfl rfl
  have p2 := HM.out.cell 1 2 rfl rfl
  have p3 := HM.out.cell 1 3 rfl rfl
  have p4 := HM.out.cell 1 4 rfl rfl
  have p5 := HM.out.cell 1 5 rfl rfl
  go_wp2_with fail
  refine (hullp_any g A1 A2 A3 c1 c2 c3 a _ (HH.out.ext HM.out.bel)).mono ?_
  rintro e w2 ⟨rfl, hx⟩
  rw [HO.out]
  have HM := hide (((HM.out.ext hx).new #[.int .i64 b0, .int .i64 b1, .int .i64 b2, .int .i64 b3] 41 _ rfl).new #[.int .i64 d0, .int .i64 d1] 39 (w2.heap.size + 1) (by simp))
  clear hx g0 g1 g2 g3 g4 g5 g6 g7 g8 p0 p1 p2 p3 p4 p5
  have g0 := HM.out.cell 0 0 rfl rfl
  have g1 := HM.out.cell 0 1 rfl rfl
  have g2 := HM.out.cell 0 2 rfl rfl
  have g3 := HM.out.cell 0 3 rfl rfl
  have g4 := HM.out.cell 0 4 rfl rfl
  have g5 := HM.out.cell 0 5 rfl rfl
  have g6 := HM.out.cell 0 6 rfl rfl
  have g7 := HM.out.cell 0 7 rfl rfl
  have g8 := HM.out.cell 0 8 rfl rfl
  have p0 := HM.out.cell 1 0 rfl rfl
  have p1 := HM.out.cell 1 1 rfl rfl
  have p2 := HM.out.cell 1 2 rfl rfl
  have p3 := HM.out.cell 1 3 rfl rfl
  have p4 := HM.out.cell 1 4 rfl rfl
  have p5 := HM.out.cell 1 5 rfl rfl
  go_wp2_with fail
  refine (rhull_any g A1 A2 A3 c1 c2 c3 a _ (HH.out.ext HM.out.bel)).mono ?_
  rintro e w3 ⟨rfl, hx⟩
  rw [HO.out]
  have HM := hide (HM.out.ext hx)
  clear hx g0 g1 g2 g3 g4 g5 g6 g7 g8 p0 p1 p2 p3 p4 p5
  have q0 := HM.out.cell 2 0 rfl rfl
  have q1 := HM.out.cell 2 1 rfl rfl
  have q2 := HM.out.cell 2 2 rfl rfl
  have q3 := HM.out.cell 2 3 rfl rfl
  have r0 := HM.out.cell 3 0 rfl rfl
  have r1 := HM.out.cell 3 1 rfl rfl
  have s2 := HM.out.lt 2 rfl
  have s3 := HM.out.lt 3 rfl
  go_wp2_with fail
  go_ret
  exact ⟨by simp, Ext.trans (Ext.trans HM.out.bel (ext_new _ _)) (ext_new _ _)⟩
end Go.Proofs.Ytfgeoeipnidfhaa
