/- What each statement asks first: the chapter's examples; the statement on the forecast at a place. -/
import Derived.Test.YtfgeoeipnidfhaaEx
import Derived.Test.YtfgeoeipnidfhaaRat
namespace Go.Proofs.Ytfgeoeipnidfhaa
open Go.RowKit Go.Base Wg

set_option maxRecDepth 100000 in
set_option maxHeartbeats 1000000 in
theorem awake_any (w : World) :
    Calls Try.prog 10 #[] w fun e w' => e = .returned (.bool true) ∧ Ext w w' := by
  have hew := eq_wind
  have heb := eq_box
  go_enter Try.func10, Try.ntmps10
  go_wp2_with fail
  refine (example_any 10 _).mono ?_
  rintro e w1 ⟨A1, c1, A2, c2, A3, c3, rfl, hg, hx⟩
  have HX := hide hx
  clear hx
  go_wp2_with fail
  refine (at_any (exG 10) A1 A2 A3 c1 c2 c3 4 99 0 _ hg).mono ?_
  rintro e w2 ⟨rfl, hx⟩
  rw [ex1.1, ex1.2.1, ex1.2.2]
  have HM := hide (show MS w (w2.alloc (.cells #[.int .i64 4, .int .i64 (-4)] 30)) [(w2.heap.size, [.int .i64 4, .int .i64 (-4)])] from ((MS.nil w).ext (Ext.trans HX.out hx)).new #[.int .i64 4, .int .i64 (-4)] 30 _ rfl)
  clear hg hx HX
  go_wp2_with fail
  refine (example_any 10 _).mono ?_
  rintro e w3 ⟨A1', c1', A2', c2', A3', c3', rfl, hg, hx⟩
  have HM := hide (HM.out.ext hx)
  clear hx
  go_wp2_with fail
  refine (at_any (exG 10) _ _ _ _ _ _ 25 0 0 _ hg).mono ?_
  rintro e w4 ⟨rfl, hx⟩
  rw [ex2.1, ex2.2.1, ex2.2.2]
  have HM := hide ((HM.out.ext hx).new #[.int .i64 10, .int .i64 (-10)] 30 _ rfl)
  clear hg hx
  go_wp2_with fail
  refine (example_any 7 _).mono ?_
  rintro e w5 ⟨A1'', c1'', A2'', c2'', A3'', c3'', rfl, hg, hx⟩
  have HM := hide (HM.out.ext hx)
  clear hx
  go_wp2_with fail
  refine (at_any (exG 7) _ _ _ _ _ _ 3 0 0 _ hg).mono ?_
  rintro e w6 ⟨rfl, hx⟩
  rw [ex3.1, ex3.2.1, ex3.2.2]
  have HM := hide ((HM.out.ext hx).new #[.int .i64 4, .int .i64 (-5)] 30 _ rfl)
  clear hg hx
  have a0 := HM.out.cell 0 0 rfl rfl
  have a1 := HM.out.cell 0 1 rfl rfl
  have b0 := HM.out.cell 1 0 rfl rfl
  have b1 := HM.out.cell 1 1 rfl rfl
  have d0 := HM.out.cell 2 0 rfl rfl
  have d1 := HM.out.cell 2 1 rfl rfl
  go_wp2_with fail
  refine (example_any 10 _).mono ?_
  rintro e w7 ⟨A1'', c1'', A2'', c2'', A3'', c3'', rfl, hg, hx⟩
  have HM := hide (HM.out.ext hx)
  clear hx a0 a1 b0 b1 d0 d1
  go_wp2_with fail
  refine (hullp_any (exG 10) _ _ _ _ _ _ ⟨0, 0, 4, 0, 0, 0⟩ _ hg).mono ?_
  rintro e w8 ⟨rfl, hx⟩
  rw [ex4]
  have HM := hide (HM.out.ext hx)
  clear hx hg
  go_wp2_with fail
  go_ret
  exact ⟨rfl, Ext.trans (Ext.trans HM.out.bel (ext_new _ _)) (ext_new _ _)⟩

set_option maxRecDepth 100000 in
set_option maxHeartbeats 1000000 in
theorem at_law (g : Grid) (A1 A2 A3 : Option Addr) (c1 c2 c3 : Nat) (x y alt : Int) (w : World) (h : GIn w g A1 c1 A2 c2 A3 c3) :
    Calls Try.prog 3 #[gv g A1 c1 A2 c2 A3 c3, .agg #[.int .i64 x, .int .i64 y], .int .i64 alt] w fun e w' => e = .returned (.bool true) ∧ Ext w w' := by
  have hew := eq_wind
  have HH := hide h
  clear h
  go_enter Try.func3, Try.ntmps3
  go_wp2_with fail
  have HM := hide (show MS w _ [(w.heap.size, gcells g A1 c1 A2 c2 A3 c3), (w.heap.size + 1, [.int .i64 x, .int .i64 y])] from ((MS.nil w).new #[.int .i64 g.cx, .int .i64 g.cy, .int .i64 g.cell, .int .i64 g.nx, .int .i64 g.ny, .slice A1 g.alts.length c1, .slice A2 g.winds.length c2, .slice A3 g.devs.length c3, .int .i64 g.err] 27 _ rfl).new #[.int .i64 x, .int .i64 y] 23 (w.heap.size + 1) (by simp))
  refine (awake_any _).mono ?_
  rintro e w1 ⟨rfl, hx⟩
  have HM := hide (HM.out.ext hx)
  clear hx
  have g0 := HM.out.cell 0 0 rfl rfl
  have g1 := HM.out.cell 0 1 rfl rfl
  have g2 := HM.out.cell 0 2 rfl rfl
  have g3 := HM.out.cell 0 3 rfl rfl
  have g4 := HM.out.cell 0 4 rfl rfl
  have g5 := HM.out.cell 0 5 rfl rfl
  have g6 := HM.out.cell 0 6 rfl rfl
  have g7 := HM.out.cell 0 7 rfl rfl
  have g8 := HM.out.cell 0 8 rfl rfl
  have p0 := HM.out.cell 1 0 rfl rfl
  have p1 := HM.out.cell 1 1 rfl rfl
  go_wp2_with fail
  refine (at_any g A1 A2 A3 c1 c2 c3 x y alt _ (HH.out.ext HM.out.bel)).mono ?_
  rintro e w2 ⟨rfl, hx⟩
  have HM := hide ((HM.out.ext hx).new #[.int .i64 (atP 0 g x y alt), .int .i64 (atP 1 g x y alt)] 30 _ rfl)
  clear hx g0 g1 g2 g3 g4 g5 g6 g7 g8 p0 p1
  have g0 := HM.out.cell 0 0 rfl rfl
  have g1 := HM.out.cell 0 1 rfl rfl
  have g2 := HM.out.cell 0 2 rfl rfl
  have g3 := HM.out.cell 0 3 rfl rfl
  have g4 := HM.out.cell 0 4 rfl rfl
  have g5 := HM.out.cell 0 5 rfl rfl
  have g6 := HM.out.cell 0 6 rfl rfl
  have g7 := HM.out.cell 0 7 rfl rfl
  have g8 := HM.out.cell 0 8 rfl rfl
  have p0 := HM.out.cell 1 0 rfl rfl
  have p1 := HM.out.cell 1 1 rfl rfl
  go_wp2_with fail
  refine (rat_any g A1 A2 A3 c1 c2 c3 x y alt _ (HH.out.ext HM.out.bel)).mono ?_
  rintro e w3 ⟨rfl, hx⟩
  have HM := hide ((HM.out.ext hx).new #[.int .i64 (atP 0 g x y alt), .int .i64 (atP 1 g x y alt)] 30 _ rfl)
  clear hx g0 g1 g2 g3 g4 g5 g6 g7 g8 p0 p1
  have q0 := HM.out.cell 2 0 rfl rfl
  have q1 := HM.out.cell 2 1 rfl rfl
  have r0 := HM.out.cell 3 0 rfl rfl
  have r1 := HM.out.cell 3 1 rfl rfl
  go_wp2_with fail
  go_ret
  exact ⟨by simp, HM.out.bel⟩
end Go.Proofs.Ytfgeoeipnidfhaa
