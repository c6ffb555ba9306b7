/- The reference's hull of a rectangle and a window. -/
import Derived.Test.YtfgeoeipnidfhaaHullp
import Derived.Test.YtfgeoeipnidfhaaKeep
namespace Go.Proofs.Ytfgeoeipnidfhaa
open Go.RowKit Go.Base Wg

theorem MS_add2 {w0 w1 wq : World} {L : List (Nat × List Value)} (h : MS w0 w1 L) (hx : Ext w1 wq) {b1 b2 : Nat} {vs1 vs2 : List Value} (g1 : w1.heap.size ≤ b1) (h1 : Bx wq b1 vs1) (f1 : Free wq b1) (g2 : w1.heap.size ≤ b2) (h2 : Bx wq b2 vs2) (f2 : Free wq b2) (hne : b1 ≠ b2) : MS w0 wq (L ++ [(b1, vs1)] ++ [(b2, vs2)]) := by
  have k := h.add hx g1 h1 f1
  refine ⟨fun e he => ?_, ?_, k.bel⟩
  · rcases List.mem_append.1 he with he | he
    · exact k.at_ e he
    · obtain rfl := List.mem_singleton.1 he
      exact ⟨h2, f2, Nat.le_trans h.bel.size g2⟩
  · rw [List.map_append, List.nodup_append]
    refine ⟨k.nd, by simp, fun a ha c hc => ?_⟩
    simp at hc
    subst hc
    obtain ⟨e, he, rfl⟩ := List.mem_map.1 ha
    rcases List.mem_append.1 he with he | he
    · exact Nat.ne_of_lt (Nat.lt_of_lt_of_le (h.at_ e he).1.lt g2)
    · obtain rfl := List.mem_singleton.1 he
      exact hne
def frH (e n : Int × Int) : List Fr := [⟨16, 18, [.int .i64 0, .int .i64 0], [.int .i64 e.1, .int .i64 e.2]⟩, ⟨17, 19, [.int .i64 0, .int .i64 0], [.int .i64 n.1, .int .i64 n.2]⟩]
theorem win_ways2 (a : Ar) : (decide (a.lo < -200000) = true ∧ (decide (-200000 ≤ a.lo) && (decide (a.lo ≤ a.hi) && decide (a.hi ≤ 6000000))) = false) ∨
    (decide (a.lo < -200000) = false ∧ decide (6000000 < a.hi) = true ∧ (decide (-200000 ≤ a.lo) && (decide (a.lo ≤ a.hi) && decide (a.hi ≤ 6000000))) = false) ∨
    (decide (a.lo < -200000) = false ∧ decide (6000000 < a.hi) = false ∧ decide (a.hi < a.lo) = true ∧ (decide (-200000 ≤ a.lo) && (decide (a.lo ≤ a.hi) && decide (a.hi ≤ 6000000))) = false) ∨
    (decide (a.lo < -200000) = false ∧ decide (6000000 < a.hi) = false ∧ decide (a.hi < a.lo) = false ∧ (decide (-200000 ≤ a.lo) && (decide (a.lo ≤ a.hi) && decide (a.hi ≤ 6000000))) = true) := by
  simp only [decide_eq_true_eq, decide_eq_false_iff_not, Bool.and_eq_false_imp, Bool.and_eq_true]
  by_cases h1 : a.lo < -200000
  · exact .inl ⟨h1, by omega⟩
  by_cases h3 : 6000000 < a.hi
  · exact .inr (.inl ⟨h1, h3, by omega⟩)
  by_cases h2 : a.hi < a.lo
  · exact .inr (.inr (.inl ⟨h1, h3, h2, by omega⟩))
  · exact .inr (.inr (.inr ⟨h1, h3, h2, by omega⟩))
set_option maxRecDepth 100000 in
set_option maxHeartbeats 2000000 in
theorem rhull_any (g : Grid) (A1 A2 A3 : Option Addr) (c1 c2 c3 : Nat) (a : Ar) (w0 : World) (h : GIn w0 g A1 c1 A2 c2 A3 c3) :
    Calls Try.prog 14 #[gv g A1 c1 A2 c2 A3 c3, .agg #[.int .i64 a.ax, .int .i64 a.ay], .agg #[.int .i64 a.bx, .int .i64 a.by_], .agg #[.int .i64 a.lo, .int .i64 a.hi]] w0 fun e w' => e = hOut g a ∧ Ext w0 w' := by
  have HH := hide h
  clear h
  go_enter Try.func14, Try.ntmps14
  go_wp2_with fail
  have HM := hide (show MS w0 _ [(w0.heap.size, gcells g A1 c1 A2 c2 A3 c3), (w0.heap.size + 1, [.int .i64 a.ax, .int .i64 a.ay]), (w0.heap.size + 1 + 1, [.int .i64 a.bx, .int .i64 a.by_]), (w0.heap.size + 1 + 1 + 1, [.int .i64 a.lo, .int .i64 a.hi]), (w0.heap.size + 1 + 1 + 1 + 1, [.int .i64 0, .int .i64 0, .int .i64 0, .int .i64 0]), (w0.heap.size + 1 + 1 + 1 + 1 + 1, [.int .i64 0, .int .i64 0])] from ((((((MS.nil w0).new #[.int .i64 g.cx, .int .i64 g.cy, .int .i64 g.cell, .int .i64 g.nx, .int .i64 g.ny, .slice A1 g.alts.length c1, .slice A2 g.winds.length c2, .slice A3 g.devs.length c3, .int .i64 g.err] 27 _ rfl).new #[.int .i64 a.ax, .int .i64 a.ay] 23 (w0.heap.size + 1) (by simp)).new #[.int .i64 a.bx, .int .i64 a.by_] 23 (w0.heap.size + 1 + 1) (by simp)).new #[.int .i64 a.lo, .int .i64 a.hi] 36 (w0.heap.size + 1 + 1 + 1) (by simp)).new #[.int .i64 0, .int .i64 0, .int .i64 0, .int .i64 0] 41 (w0.heap.size + 1 + 1 + 1 + 1) (by simp)).new #[.int .i64 0, .int .i64 0] 39 (w0.heap.size + 1 + 1 + 1 + 1 + 1) (by simp))
  refine (rcheck_any g A1 A2 A3 c1 c2 c3 _ (HH.out.ext HM.out.bel)).mono ?_
  rintro e w1 ⟨rfl, hx⟩
  have HM := hide (HM.out.ext hx)
  clear hx
  have c10 := HM.out.cell 1 0 rfl rfl
  have c11 := HM.out.cell 1 1 rfl rfl
  have c20 := HM.out.cell 2 0 rfl rfl
  have c21 := HM.out.cell 2 1 rfl rfl
  have c30 := HM.out.cell 3 0 rfl rfl
  have c31 := HM.out.cell 3 1 rfl rfl
  have c40 := HM.out.cell 4 0 rfl rfl
  have c41 := HM.out.cell 4 1 rfl rfl
  have c42 := HM.out.cell 4 2 rfl rfl
  have c43 := HM.out.cell 4 3 rfl rfl
  have c50 := HM.out.cell 5 0 rfl rfl
  have c51 := HM.out.cell 5 1 rfl rfl
  have f40 := HM.out.free 4 0 rfl
  have f41 := HM.out.free 4 1 rfl
  have f42 := HM.out.free 4 2 rfl
  have f43 := HM.out.free 4 3 rfl
  have f50 := HM.out.free 5 0 rfl
  have f51 := HM.out.free 5 1 rfl
  cases t : (chk g != 0)
  rotate_left
  · have HE := hide (show chk g ≠ 0 by simpa using t)
    have HQ := hide (show hullE g a = chk g by unfold hullE; rw [if_neg HE.out])
    go_wp2_with fail
    refine bodyPost_ret (v := .tuple #[.agg #[.int .i64 0, .int .i64 0, .int .i64 0, .int .i64 0], .agg #[.int .i64 0, .int .i64 0], .int .i64 (chk g)]) (by simp [results, Try.results14, go_sem, c40, c41, c42, c43, c50, c51]) rfl ⟨?_, ?_⟩
    · rw [hout_err (by rw [HQ.out]; exact HE.out), HQ.out]
    · exact Below.setCell (Below.setCell (Below.setCell (Below.setCell (Below.setCell (Below.setCell (HM.out.bel) (p := ⟨w0.heap.size + 1 + 1 + 1 + 1, 0, none⟩) (by simp; try omega) _) (p := ⟨w0.heap.size + 1 + 1 + 1 + 1, 1, none⟩) (by simp; try omega) _) (p := ⟨w0.heap.size + 1 + 1 + 1 + 1, 2, none⟩) (by simp; try omega) _) (p := ⟨w0.heap.size + 1 + 1 + 1 + 1, 3, none⟩) (by simp; try omega) _) (p := ⟨w0.heap.size + 1 + 1 + 1 + 1 + 1, 0, none⟩) (by simp; try omega) _) (p := ⟨w0.heap.size + 1 + 1 + 1 + 1 + 1, 1, none⟩) (by simp; try omega) _
  have HO := hide (ok_of (show chk g = 0 by simpa using t))
  have HQ0 := hide (show hullE g a = if inPlane a.ax a.ay && (inPlane a.bx a.by_ && (decide (-200000 ≤ a.lo) && (decide (a.lo ≤ a.hi) && decide (a.hi ≤ 6000000)))) then 0 else 2 by unfold hullE; rw [if_pos (by simpa using t)])
  go_wp2_with fail
  refine (point_any a.ax a.ay _).mono ?_
  rintro e w2 ⟨rfl, hx⟩
  have HM := hide (HM.out.ext hx)
  clear hx t
  clear c10 c11 c20 c21 c30 c31 c40 c41 c42 c43 c50 c51 f40 f41 f42 f43 f50 f51
  have c20 := HM.out.cell 2 0 rfl rfl
  have c21 := HM.out.cell 2 1 rfl rfl
  have c30 := HM.out.cell 3 0 rfl rfl
  have c31 := HM.out.cell 3 1 rfl rfl
  have c40 := HM.out.cell 4 0 rfl rfl
  have c41 := HM.out.cell 4 1 rfl rfl
  have c42 := HM.out.cell 4 2 rfl rfl
  have c43 := HM.out.cell 4 3 rfl rfl
  have c50 := HM.out.cell 5 0 rfl rfl
  have c51 := HM.out.cell 5 1 rfl rfl
  have f40 := HM.out.free 4 0 rfl
  have f41 := HM.out.free 4 1 rfl
  have f42 := HM.out.free 4 2 rfl
  have f43 := HM.out.free 4 3 rfl
  have f50 := HM.out.free 5 0 rfl
  have f51 := HM.out.free 5 1 rfl
  cases hp : inPlane a.ax a.ay
  · have HQ := hide (show hullE g a = 2 by rw [HQ0.out, hp]; rfl)
    go_wp2_with fail
    refine bodyPost_ret (v := .tuple #[.agg #[.int .i64 0, .int .i64 0, .int .i64 0, .int .i64 0], .agg #[.int .i64 0, .int .i64 0], .int .i64 2]) (by simp [results, Try.results14, go_sem, c40, c41, c42, c43, c50, c51]) rfl ⟨?_, ?_⟩
    · rw [hout_err (by rw [HQ.out]; decide), HQ.out]
    · exact Below.setCell (Below.setCell (Below.setCell (Below.setCell (Below.setCell (Below.setCell (HM.out.bel) (p := ⟨w0.heap.size + 1 + 1 + 1 + 1, 0, none⟩) (by simp; try omega) _) (p := ⟨w0.heap.size + 1 + 1 + 1 + 1, 1, none⟩) (by simp; try omega) _) (p := ⟨w0.heap.size + 1 + 1 + 1 + 1, 2, none⟩) (by simp; try omega) _) (p := ⟨w0.heap.size + 1 + 1 + 1 + 1, 3, none⟩) (by simp; try omega) _) (p := ⟨w0.heap.size + 1 + 1 + 1 + 1 + 1, 0, none⟩) (by simp; try omega) _) (p := ⟨w0.heap.size + 1 + 1 + 1 + 1 + 1, 1, none⟩) (by simp; try omega) _
  have HIP := hide hp
  go_wp2_with fail
  refine (point_any a.bx a.by_ _).mono ?_
  rintro e w3 ⟨rfl, hx⟩
  have HM := hide (HM.out.ext hx)
  clear hx
  clear c20 c21 c30 c31 c40 c41 c42 c43 c50 c51 f40 f41 f42 f43 f50 f51
  have c30 := HM.out.cell 3 0 rfl rfl
  have c31 := HM.out.cell 3 1 rfl rfl
  have c40 := HM.out.cell 4 0 rfl rfl
  have c41 := HM.out.cell 4 1 rfl rfl
  have c42 := HM.out.cell 4 2 rfl rfl
  have c43 := HM.out.cell 4 3 rfl rfl
  have c50 := HM.out.cell 5 0 rfl rfl
  have c51 := HM.out.cell 5 1 rfl rfl
  have f40 := HM.out.free 4 0 rfl
  have f41 := HM.out.free 4 1 rfl
  have f42 := HM.out.free 4 2 rfl
  have f43 := HM.out.free 4 3 rfl
  have f50 := HM.out.free 5 0 rfl
  have f51 := HM.out.free 5 1 rfl
  cases hp2 : inPlane a.bx a.by_
  · have HQ := hide (show hullE g a = 2 by rw [HQ0.out, HIP.out, hp2]; rfl)
    go_wp2_with fail
    refine bodyPost_ret (v := .tuple #[.agg #[.int .i64 0, .int .i64 0, .int .i64 0, .int .i64 0], .agg #[.int .i64 0, .int .i64 0], .int .i64 2]) (by simp [results, Try.results14, go_sem, c40, c41, c42, c43, c50, c51]) rfl ⟨?_, ?_⟩
    · rw [hout_err (by rw [HQ.out]; decide), HQ.out]
    · exact Below.setCell (Below.setCell (Below.setCell (Below.setCell (Below.setCell (Below.setCell (HM.out.bel) (p := ⟨w0.heap.size + 1 + 1 + 1 + 1, 0, none⟩) (by simp; try omega) _) (p := ⟨w0.heap.size + 1 + 1 + 1 + 1, 1, none⟩) (by simp; try omega) _) (p := ⟨w0.heap.size + 1 + 1 + 1 + 1, 2, none⟩) (by simp; try omega) _) (p := ⟨w0.heap.size + 1 + 1 + 1 + 1, 3, none⟩) (by simp; try omega) _) (p := ⟨w0.heap.size + 1 + 1 + 1 + 1 + 1, 0, none⟩) (by simp; try omega) _) (p := ⟨w0.heap.size + 1 + 1 + 1 + 1 + 1, 1, none⟩) (by simp; try omega) _
  have HIP2 := hide hp2
  rcases win_ways2 a with ⟨q1, hb⟩ | ⟨q1, q2, hb⟩ | ⟨q1, q2, q3, hb⟩ | ⟨q1, q2, q3, hb⟩
  iterate 3
    · have HQ := hide (show hullE g a = 2 by rw [HQ0.out, HIP.out, HIP2.out, hb]; rfl)
      clear hb
      go_wp2_with fail
      refine bodyPost_ret (v := .tuple #[.agg #[.int .i64 0, .int .i64 0, .int .i64 0, .int .i64 0], .agg #[.int .i64 0, .int .i64 0], .int .i64 2]) (by simp [results, Try.results14, go_sem, c40, c41, c42, c43, c50, c51]) rfl ⟨?_, ?_⟩
      · rw [hout_err (by rw [HQ.out]; decide), HQ.out]
      · exact Below.setCell (Below.setCell (Below.setCell (Below.setCell (Below.setCell (Below.setCell (HM.out.bel) (p := ⟨w0.heap.size + 1 + 1 + 1 + 1, 0, none⟩) (by simp; try omega) _) (p := ⟨w0.heap.size + 1 + 1 + 1 + 1, 1, none⟩) (by simp; try omega) _) (p := ⟨w0.heap.size + 1 + 1 + 1 + 1, 2, none⟩) (by simp; try omega) _) (p := ⟨w0.heap.size + 1 + 1 + 1 + 1, 3, none⟩) (by simp; try omega) _) (p := ⟨w0.heap.size + 1 + 1 + 1 + 1 + 1, 0, none⟩) (by simp; try omega) _) (p := ⟨w0.heap.size + 1 + 1 + 1 + 1 + 1, 1, none⟩) (by simp; try omega) _
  have HQ := hide (show hullE g a = 0 by rw [HQ0.out, HIP.out, HIP2.out, hb]; rfl)
  have hpa := hp
  have hpb := hp2
  unfold inPlane at hpa hpb
  rw [Bool.and_eq_true, inR_iff, inR_iff] at hpa hpb
  have HA := hide hpa
  have HB := hide hpb
  have d1 := of_decide_eq_false q1
  have d3 := of_decide_eq_false q2
  have d2 := of_decide_eq_false q3
  clear hpa hpb HQ0 hb
  clear c40 f40 c41 f41 c42 f42 c43 f43 c50 f50 c51 f51
  have b7 := HO.out.nx2
  have b8 := HO.out.ny2
  have b9 := HO.out.al2
  obtain ⟨mnx, emnx⟩ : ∃ m, (if a.bx < a.ax then a.bx else a.ax) = m := ⟨_, rfl⟩
  obtain ⟨mxx, emxx⟩ : ∃ m, (if a.ax < a.bx then a.bx else a.ax) = m := ⟨_, rfl⟩
  obtain ⟨x0, ex0⟩ : ∃ v, sideI g.cx g.cell g.nx mnx = v := ⟨_, rfl⟩
  obtain ⟨px0, epx0⟩ : ∃ v, sideF g.cx g.cell g.nx mnx = v := ⟨_, rfl⟩
  obtain ⟨ix1, eix1⟩ : ∃ v, sideI g.cx g.cell g.nx mxx = v := ⟨_, rfl⟩
  obtain ⟨px1, epx1⟩ : ∃ v, sideF g.cx g.cell g.nx mxx = v := ⟨_, rfl⟩
  obtain ⟨x1, ex1⟩ : ∃ v, (if g.nx - 1 < ix1 + 1 then g.nx - 1 else ix1 + 1) = v := ⟨_, rfl⟩
  have HSx0 := hide (fun w => rplace_any g.cx g.cell g.nx mnx HO.out.cx1 HO.out.cx2 HO.out.cell1 HO.out.cell2 HO.out.nx1 HO.out.nx2 (by have := HA.out; have := HB.out; omega) (by have := HA.out; have := HB.out; omega) w)
  have HSx1 := hide (fun w => rplace_any g.cx g.cell g.nx mxx HO.out.cx1 HO.out.cx2 HO.out.cell1 HO.out.cell2 HO.out.nx1 HO.out.nx2 (by have := HA.out; have := HB.out; omega) (by have := HA.out; have := HB.out; omega) w)
  rw [ex0, epx0] at HSx0
  rw [eix1, epx1] at HSx1
  have hix := sideI_in (c := g.cx) (cell := g.cell) (x := mxx) HO.out.nx1
  rw [eix1] at hix
  have hixa := hix.1
  have hixb := hix.2.1
  have Hx0 := hide (show hX0 g a = x0 by unfold hX0; rw [show min a.ax a.bx = mnx by omega, ex0])
  have Hx1 := hide (show hX1 g a = x1 by unfold hX1; rw [show max a.ax a.bx = mxx by omega, eix1]; omega)
  have hrx := hx_in HO.out a
  rw [Hx0.out, Hx1.out] at hrx
  have hrx0 := hrx.1
  have hrx1 := hrx.2.1
  have hrx2 := hrx.2.2
  clear hix hrx ex0 epx0 eix1 epx1
  obtain ⟨mny, emny⟩ : ∃ m, (if a.by_ < a.ay then a.by_ else a.ay) = m := ⟨_, rfl⟩
  obtain ⟨mxy, emxy⟩ : ∃ m, (if a.ay < a.by_ then a.by_ else a.ay) = m := ⟨_, rfl⟩
  obtain ⟨y0, ey0⟩ : ∃ v, sideI g.cy g.cell g.ny mny = v := ⟨_, rfl⟩
  obtain ⟨py0, epy0⟩ : ∃ v, sideF g.cy g.cell g.ny mny = v := ⟨_, rfl⟩
  obtain ⟨iy1, eiy1⟩ : ∃ v, sideI g.cy g.cell g.ny mxy = v := ⟨_, rfl⟩
  obtain ⟨py1, epy1⟩ : ∃ v, sideF g.cy g.cell g.ny mxy = v := ⟨_, rfl⟩
  obtain ⟨y1, ey1⟩ : ∃ v, (if g.ny - 1 < iy1 + 1 then g.ny - 1 else iy1 + 1) = v := ⟨_, rfl⟩
  have HSy0 := hide (fun w => rplace_any g.cy g.cell g.ny mny HO.out.cy1 HO.out.cy2 HO.out.cell1 HO.out.cell2 HO.out.ny1 HO.out.ny2 (by have := HA.out; have := HB.out; omega) (by have := HA.out; have := HB.out; omega) w)
  have HSy1 := hide (fun w => rplace_any g.cy g.cell g.ny mxy HO.out.cy1 HO.out.cy2 HO.out.cell1 HO.out.cell2 HO.out.ny1 HO.out.ny2 (by have := HA.out; have := HB.out; omega) (by have := HA.out; have := HB.out; omega) w)
  rw [ey0, epy0] at HSy0
  rw [eiy1, epy1] at HSy1
  have hiy := sideI_in (c := g.cy) (cell := g.cell) (x := mxy) HO.out.ny1
  rw [eiy1] at hiy
  have hiya := hiy.1
  have hiyb := hiy.2.1
  have Hy0 := hide (show hY0 g a = y0 by unfold hY0; rw [show min a.ay a.by_ = mny by omega, ey0])
  have Hy1 := hide (show hY1 g a = y1 by unfold hY1; rw [show max a.ay a.by_ = mxy by omega, eiy1]; omega)
  have hry := hy_in HO.out a
  rw [Hy0.out, Hy1.out] at hry
  have hry0 := hry.1
  have hry1 := hry.2.1
  have hry2 := hry.2.2
  clear hiy hry ey0 epy0 eiy1 epy1
  obtain ⟨z0, ez0⟩ : ∃ v : Int, (levI g.alts a.lo : Int) = v := ⟨_, rfl⟩
  obtain ⟨pz0, epz0⟩ : ∃ v, levF g.alts a.lo = v := ⟨_, rfl⟩
  obtain ⟨qz0, eqz0⟩ : ∃ v, levC g.alts a.lo = v := ⟨_, rfl⟩
  obtain ⟨iz1, eiz1⟩ : ∃ v : Int, (levI g.alts a.hi : Int) = v := ⟨_, rfl⟩
  obtain ⟨pz1, epz1⟩ : ∃ v, levF g.alts a.hi = v := ⟨_, rfl⟩
  obtain ⟨qz1, eqz1⟩ : ∃ v, levC g.alts a.hi = v := ⟨_, rfl⟩
  obtain ⟨z1, ez1⟩ : ∃ v, (if (g.alts.length : Int) - 1 < iz1 + 1 then (g.alts.length : Int) - 1 else iz1 + 1) = v := ⟨_, rfl⟩
  have HSz0 := hide (fun w (hr : Rd w 1 A1 g.alts.length c1 (g.alts.map iv)) => rlevel_any g.alts A1 c1 a.lo w hr HO.out.al1 HO.out.al2 HO.out.ord HO.out.alts (by omega) (by omega))
  have HSz1 := hide (fun w (hr : Rd w 1 A1 g.alts.length c1 (g.alts.map iv)) => rlevel_any g.alts A1 c1 a.hi w hr HO.out.al1 HO.out.al2 HO.out.ord HO.out.alts (by omega) (by omega))
  rw [ez0, epz0, eqz0] at HSz0
  rw [eiz1, epz1, eqz1] at HSz1
  have hiz := lev_in HO.out.al1 a.hi
  have hiza : 0 ≤ iz1 := by omega
  have hizb : iz1 ≤ (g.alts.length : Int) - 1 := by omega
  have Hz0 := hide (show hZ0 g a = z0 from ez0)
  have Hz1 := hide (show hZ1 g a = z1 by unfold hZ1; omega)
  have hrz := hz_in HO.out a (by omega)
  rw [Hz0.out, Hz1.out] at hrz
  have hrz0 := hrz.1
  have hrz1 := hrz.2.1
  have hrz2 := hrz.2.2
  clear hiz hrz ez0 epz0 eqz0 eiz1 epz1 eqz1
  have c00 := HM.out.cell 0 0 rfl rfl
  have c01 := HM.out.cell 0 1 rfl rfl
  have c02 := HM.out.cell 0 2 rfl rfl
  have c03 := HM.out.cell 0 3 rfl rfl
  have c04 := HM.out.cell 0 4 rfl rfl
  have c05 := HM.out.cell 0 5 rfl rfl
  have c06 := HM.out.cell 0 6 rfl rfl
  have c07 := HM.out.cell 0 7 rfl rfl
  have c08 := HM.out.cell 0 8 rfl rfl
  have c10 := HM.out.cell 1 0 rfl rfl
  have c11 := HM.out.cell 1 1 rfl rfl
  have c20 := HM.out.cell 2 0 rfl rfl
  have c21 := HM.out.cell 2 1 rfl rfl
  go_wp2_with fail
  refine (HSx0.out _).mono ?_
  rintro e w' ⟨rfl, rfl⟩
  go_wp2_with fail
  refine (HSx1.out _).mono ?_
  rintro e w' ⟨rfl, rfl⟩
  go_wp2_with fail
  refine (HSy0.out _).mono ?_
  rintro e w' ⟨rfl, rfl⟩
  go_wp2_with fail
  refine (HSy1.out _).mono ?_
  rintro e w' ⟨rfl, rfl⟩
  go_wp2_with fail
  refine (HSz0.out _ (HH.out.ext HM.out.bel).a).mono ?_
  rintro e w' ⟨rfl, n1, rfl⟩
  have HM0 := HM
  have HM := hide (HM.out.ext (below_drewN (Below.refl _ _) n1))
  go_wp2_with fail
  refine (HSz1.out _ (HH.out.ext HM.out.bel).a).mono ?_
  rintro e w' ⟨rfl, n2, rfl⟩
  have HM := hide (HM0.out.ext (below_drewN (Below.refl _ _) (n1 + n2)))
  clear HM0
  clear c00 c01 c02 c03 c04 c05 c06 c07 c08 c10 c11 c20 c21 c30 c31 q1 q2 q3 hp hp2
  go_wp2_with fail
  refine wp_region_keep (w0 := _) (V := [fun vv _ => vv = .int .i64 ix1, fun vv _ => vv = .int .i64 (ix1 + 1), fun vv _ => vv = .pointer (some ⟨w0.heap.size, 3, none⟩), fun vv _ => vv = .int .i64 g.nx, fun vv _ => vv = .int .i64 (g.nx - 1), fun vv _ => vv = .int .i64 x1, fun vv _ => vv = .int .i64 iy1, fun vv _ => vv = .int .i64 (iy1 + 1), fun vv _ => vv = .pointer (some ⟨w0.heap.size, 4, none⟩), fun vv _ => vv = .int .i64 g.ny, fun vv _ => vv = .int .i64 (g.ny - 1), fun vv _ => vv = .int .i64 y1, fun vv _ => vv = .int .i64 iz1, fun vv _ => vv = .int .i64 (iz1 + 1), fun vv _ => vv = .pointer (some ⟨w0.heap.size, 5, none⟩), fun vv _ => vv = .slice A1 g.alts.length c1, fun vv _ => vv = .int .i64 (g.alts.length : Int), fun vv _ => vv = .int .i64 ((g.alts.length : Int) - 1), fun vv _ => vv = .int .i64 z1, fun vv _ => vv = .int .i64 x1, fun vv _ => vv = .int .i64 y1, fun vv _ => vv = .int .i64 z1]) (by kernel_rfl) (by kernel_rfl) (stable_nth ?_) ?_ ?_
  · exact ⟨Stable.eq _, Stable.eq _, Stable.eq _, Stable.eq _, Stable.eq _, Stable.eq _, Stable.eq _, Stable.eq _, Stable.eq _, Stable.eq _, Stable.eq _, Stable.eq _, Stable.eq _, Stable.eq _, Stable.eq _, Stable.eq _, Stable.eq _, Stable.eq _, Stable.eq _, Stable.eq _, Stable.eq _, Stable.eq _, trivial⟩
  · intro U A hA
    simp only [putFrom, Act.put, List.setIfInBounds_toArray, List.set_cons_zero, List.set_cons_succ] at hA
    subst hA
    refine ⟨?_, ?_, ?_, ?_, ?_, ?_, ?_, ?_, ?_, ?_, ?_, ?_, ?_, ?_, ?_, ?_, ?_, ?_, ?_, ?_, ?_, ?_, trivial⟩
    all_goals
      intro w hx hk hp
      dsimp only [Preds, nth, pick] at hp
      try simp only [hp]
      have c00 := (HM.out.ext hx).cell 0 0 rfl rfl
      have c01 := (HM.out.ext hx).cell 0 1 rfl rfl
      have c02 := (HM.out.ext hx).cell 0 2 rfl rfl
      have c03 := (HM.out.ext hx).cell 0 3 rfl rfl
      have c04 := (HM.out.ext hx).cell 0 4 rfl rfl
      have c05 := (HM.out.ext hx).cell 0 5 rfl rfl
      have c06 := (HM.out.ext hx).cell 0 6 rfl rfl
      have c07 := (HM.out.ext hx).cell 0 7 rfl rfl
      have c08 := (HM.out.ext hx).cell 0 8 rfl rfl
    case refine_1 =>
      have kv : U 19 = .int .i64 ix1 := hk 19 14 (by kernel_rfl)
      simp only [kv]
      go_wp2
      exact ⟨_, rfl, rfl, Below.refl _ _⟩
    case refine_7 =>
      have kv : U 20 = .int .i64 iy1 := hk 20 18 (by kernel_rfl)
      simp only [kv]
      go_wp2
      exact ⟨_, rfl, rfl, Below.refl _ _⟩
    case refine_13 =>
      have kv : U 21 = .int .i64 iz1 := hk 21 23 (by kernel_rfl)
      simp only [kv]
      go_wp2
      exact ⟨_, rfl, rfl, Below.refl _ _⟩
    all_goals
      go_wp2
      exact ⟨_, rfl, rfl, Below.refl _ _⟩
  · intro U A w hA hx h
    simp only [putFrom, Act.put, List.setIfInBounds_toArray, List.set_cons_zero, List.set_cons_succ] at hA
    subst hA
    have h19 : U 19 = .int .i64 x1 := h 19 (by decide)
    have h20 : U 20 = .int .i64 y1 := h 20 (by decide)
    have h21 : U 21 = .int .i64 z1 := h 21 (by decide)
    simp only [h19, h20, h21]
    have HM := hide (HM.out.ext hx)
    clear hx h h19 h20 h21
    go_wp2_with fail
    clear HSx0 HSx1 HSy0 HSy1 HSz0 HSz1
    obtain ⟨w9, rfl⟩ : ∃ z : World, z = w := ⟨_, rfl⟩
    obtain ⟨se, ese⟩ : ∃ s, hullV 0 g x0 x1 y0 y1 z0 z1 = s := ⟨_, rfl⟩
    obtain ⟨sn, esn⟩ : ∃ s, hullV 1 g x0 x1 y0 y1 z0 z1 = s := ⟨_, rfl⟩
    obtain ⟨sd, esd⟩ : ∃ s, hullV 2 g x0 x1 y0 y1 z0 z1 = s := ⟨_, rfl⟩
    have Ee := hide ese
    have En := hide esn
    have Ed := hide esd
    have HRe := hide (show hullR 0 g a = se by unfold hullR; rw [Hx0.out, Hx1.out, Hy0.out, Hy1.out, Hz0.out, Hz1.out, ese])
    have HRn := hide (show hullR 1 g a = sn by unfold hullR; rw [Hx0.out, Hx1.out, Hy0.out, Hy1.out, Hz0.out, Hz1.out, esn])
    have HRd := hide (show hullR 2 g a = sd by unfold hullR; rw [Hx0.out, Hx1.out, Hy0.out, Hy1.out, Hz0.out, Hz1.out, esd])
    obtain ⟨me1, me2, me3, me4⟩ := hullR_in 0 HO.out a (by omega)
    obtain ⟨mn1, mn2, mn3, mn4⟩ := hullR_in 1 HO.out a (by omega)
    rw [HRe.out] at me1 me2 me3 me4
    rw [HRn.out] at mn1 mn2 mn3 mn4
    have r1 := HO.out.err1
    have r2 := HO.out.err2
    have HEL0 := hide (elem_0 g A1 A2 A3 c1 c2 c3 HO.out)
    have HEL1 := hide (elem_1 g A1 A2 A3 c1 c2 c3 HO.out)
    have HEL2 := hide (elem_2 g A1 A2 A3 c1 c2 c3 HO.out)
    clear ese esn esd
    refine wp_region_heap (w0 := w9) (V := [fun vv _ => vv = .agg #[.int .i64 g.cx, .int .i64 g.cy, .int .i64 g.cell, .int .i64 g.nx, .int .i64 g.ny, .slice A1 g.alts.length c1, .slice A2 g.winds.length c2, .slice A3 g.devs.length c3, .int .i64 g.err], fun vv _ => vv = .int .i64 x0, fun vv _ => vv = .int .i64 x1, fun vv _ => vv = .int .i64 y0, fun vv _ => vv = .int .i64 y1, fun vv _ => vv = .int .i64 z0, fun vv _ => vv = .int .i64 z1, fun vv _ => vv = .agg #[.int .i64 se.1, .int .i64 se.2], fun vv _ => vv = .agg #[.int .i64 g.cx, .int .i64 g.cy, .int .i64 g.cell, .int .i64 g.nx, .int .i64 g.ny, .slice A1 g.alts.length c1, .slice A2 g.winds.length c2, .slice A3 g.devs.length c3, .int .i64 g.err], fun vv _ => vv = .int .i64 x0, fun vv _ => vv = .int .i64 x1, fun vv _ => vv = .int .i64 y0, fun vv _ => vv = .int .i64 y1, fun vv _ => vv = .int .i64 z0, fun vv _ => vv = .int .i64 z1, fun vv _ => vv = .agg #[.int .i64 sn.1, .int .i64 sn.2], fun _ _ => True, fun _ _ => True, fun _ _ => True, fun _ _ => True]) (w9.heap.size) [16, 17, 18, 19] (FreshH w9.heap.size (frH se sn)) (by kernel_rfl) (by kernel_rfl) (stableB_nth ?_) (Nat.le_refl _) (fun M w w' h hx => h.ext hx) (fun w _ => FreshH.start _ _ _) ?_ ?_
    · exact ⟨StableB.eq _ _, StableB.eq _ _, StableB.eq _ _, StableB.eq _ _, StableB.eq _ _, StableB.eq _ _, StableB.eq _ _, StableB.eq _ _, StableB.eq _ _, StableB.eq _ _, StableB.eq _ _, StableB.eq _ _, StableB.eq _ _, StableB.eq _ _, StableB.eq _ _, StableB.eq _ _, StableB.true_ _, StableB.true_ _, StableB.true_ _, StableB.true_ _, trivial⟩
    · intro U A hA
      simp only [putFrom, Act.put, List.setIfInBounds_toArray, List.set_cons_zero, List.set_cons_succ] at hA
      subst hA
      refine ⟨?_, ?_, ?_, ?_, ?_, ?_, ?_, ?_, ?_, ?_, ?_, ?_, ?_, ?_, ?_, ?_, ?_, ?_, ?_, ?_, trivial⟩
      all_goals
        intro w M hx hM hk hp hq
        dsimp only [Preds, PredsM, nth, pick] at hp hq
        try simp only [hp]
        have c00 := (HM.out.ext hx).cell 0 0 rfl rfl
        have c01 := (HM.out.ext hx).cell 0 1 rfl rfl
        have c02 := (HM.out.ext hx).cell 0 2 rfl rfl
        have c03 := (HM.out.ext hx).cell 0 3 rfl rfl
        have c04 := (HM.out.ext hx).cell 0 4 rfl rfl
        have c05 := (HM.out.ext hx).cell 0 5 rfl rfl
        have c06 := (HM.out.ext hx).cell 0 6 rfl rfl
        have c07 := (HM.out.ext hx).cell 0 7 rfl rfl
        have c08 := (HM.out.ext hx).cell 0 8 rfl rfl
      case refine_8 =>
        go_wp2_with fail
        refine (hull_any 0 1 g A1 A2 A3 c1 c2 c3 x0 x1 y0 y1 z0 z1 _ (HH.out.ext (HM.out.ext hx).bel) HO.out (HEL0.out) hrx0 hrx1 hrx2 hry0 hry1 hry2 hrz0 hrz1 hrz2).mono ?_
        rintro e w9 ⟨rfl, hx3⟩
        rw [Ee.out]
        go_wp2_with fail
        exact ⟨_, rfl, rfl, Below.mono hx3 hx.size, fun _ => hx3, fun h => absurd h (by decide)⟩
      case refine_16 =>
        go_wp2_with fail
        refine (hull_any 1 2 g A1 A2 A3 c1 c2 c3 x0 x1 y0 y1 z0 z1 _ (HH.out.ext (HM.out.ext hx).bel) HO.out (HEL1.out) hrx0 hrx1 hrx2 hry0 hry1 hry2 hrz0 hrz1 hrz2).mono ?_
        rintro e w9 ⟨rfl, hx3⟩
        rw [En.out]
        go_wp2_with fail
        exact ⟨_, rfl, rfl, Below.mono hx3 hx.size, fun _ => hx3, fun h => absurd h (by decide)⟩
      case refine_17 =>
        go_wp2
        exact ⟨_, rfl, trivial, (Below.refl _ _).alloc hx.size _, fun h => absurd h (by decide), fun _ => FreshH.alloc hM (by kernel_rfl) (fr_uniq (by simp [frH])) (t := ⟨16, 18, [.int .i64 0, .int .i64 0], [.int .i64 se.1, .int .i64 se.2]⟩) (by simp [frH]) hk hx.size _ rfl _⟩
      case refine_18 =>
        go_wp2
        exact ⟨_, rfl, trivial, (Below.refl _ _).alloc hx.size _, fun h => absurd h (by decide), fun _ => FreshH.alloc hM (by kernel_rfl) (fr_uniq (by simp [frH])) (t := ⟨17, 19, [.int .i64 0, .int .i64 0], [.int .i64 sn.1, .int .i64 sn.2]⟩) (by simp [frH]) hk hx.size _ rfl _⟩
      case refine_19 =>
        obtain ⟨b, e1, e2, e3, e4⟩ := hM.1 ⟨16, 18, [.int .i64 0, .int .i64 0], [.int .i64 se.1, .int .i64 se.2]⟩ (by simp [frH]) _ (hq.1 (by decide))
        have hMb := hq.1 (by decide)
        rw [e1] at hMb
        simp only [e1]
        change Bx w b (if (M 18).isSome = true then _ else _) at e4
        rw [hk] at e4
        have l0 := e4.at_ 0 _ rfl
        have l1 := e4.at_ 1 _ rfl
        have k0 := e3.2 0
        have k1 := e3.2 1
        have HMM := hide hM
        have HMb := hide hMb
        have HEE := hide e4
        have HXX := hide e2
        clear hM hMb e4 e3 e2 e1 hk hp hq
        go_wp2
        exact ⟨undef, rfl, trivial, upd_below HXX.out _ _ (upd_below HXX.out _ _ (Below.refl _ _)), fun h => absurd h (by decide), fun _ => FreshH.store HMM.out (by kernel_rfl) (fr_uniq (by simp [frH])) (t := ⟨16, 18, [.int .i64 0, .int .i64 0], [.int .i64 se.1, .int .i64 se.2]⟩) (by simp [frH]) HMb.out _ ((Upd.set _ _ _ _).trans (Upd.set _ _ _ _)) ((HEE.out.set 0 _).set 1 _)⟩
      case refine_20 =>
        obtain ⟨b, e1, e2, e3, e4⟩ := hM.1 ⟨17, 19, [.int .i64 0, .int .i64 0], [.int .i64 sn.1, .int .i64 sn.2]⟩ (by simp [frH]) _ (hq.1 (by decide))
        have hMb := hq.1 (by decide)
        rw [e1] at hMb
        simp only [e1]
        change Bx w b (if (M 19).isSome = true then _ else _) at e4
        rw [hk] at e4
        have l0 := e4.at_ 0 _ rfl
        have l1 := e4.at_ 1 _ rfl
        have k0 := e3.2 0
        have k1 := e3.2 1
        have HMM := hide hM
        have HMb := hide hMb
        have HEE := hide e4
        have HXX := hide e2
        clear hM hMb e4 e3 e2 e1 hk hp hq
        go_wp2
        exact ⟨undef, rfl, trivial, upd_below HXX.out _ _ (upd_below HXX.out _ _ (Below.refl _ _)), fun h => absurd h (by decide), fun _ => FreshH.store HMM.out (by kernel_rfl) (fr_uniq (by simp [frH])) (t := ⟨17, 19, [.int .i64 0, .int .i64 0], [.int .i64 sn.1, .int .i64 sn.2]⟩) (by simp [frH]) HMb.out _ ((Upd.set _ _ _ _).trans (Upd.set _ _ _ _)) ((HEE.out.set 0 _).set 1 _)⟩
      all_goals
        go_wp2
        exact ⟨_, rfl, rfl, Below.refl _ _, fun _ => Below.refl _ _, fun h => absurd h (by decide)⟩
    · intro U A w hA hx h hH
      simp only [putFrom, Act.put, List.setIfInBounds_toArray, List.set_cons_zero, List.set_cons_succ] at hA
      subst hA
      obtain ⟨b1, e1, gb1, fb1, hb1⟩ := hH.1 ⟨16, 18, [.int .i64 0, .int .i64 0], [.int .i64 se.1, .int .i64 se.2]⟩ (by simp [frH]) (U 16) rfl
      obtain ⟨b2, e2, gb2, fb2, hb2⟩ := hH.1 ⟨17, 19, [.int .i64 0, .int .i64 0], [.int .i64 sn.1, .int .i64 sn.2]⟩ (by simp [frH]) (U 17) rfl
      have hne : b1 ≠ b2 := fun e => hH.2.1 ⟨16, 18, [.int .i64 0, .int .i64 0], [.int .i64 se.1, .int .i64 se.2]⟩ (by simp [frH]) ⟨17, 19, [.int .i64 0, .int .i64 0], [.int .i64 sn.1, .int .i64 sn.2]⟩ (by simp [frH]) (show (16 : Nat) ≠ 17 by decide) (U 16) (U 17) rfl rfl (by rw [e1, e2, e])
      simp only [e1, e2]
      have HM := hide ((MS_add2 HM.out hx gb1 (show Bx w b1 [.int .i64 se.1, .int .i64 se.2] from hb1) fb1 gb2 (show Bx w b2 [.int .i64 sn.1, .int .i64 sn.2] from hb2) fb2 hne))
      clear e1 e2 hb1 hb2 fb1 fb2 gb1 gb2 h hH hx hne
      have c00 := HM.out.cell 0 0 rfl rfl
      have c01 := HM.out.cell 0 1 rfl rfl
      have c02 := HM.out.cell 0 2 rfl rfl
      have c03 := HM.out.cell 0 3 rfl rfl
      have c04 := HM.out.cell 0 4 rfl rfl
      have c05 := HM.out.cell 0 5 rfl rfl
      have c06 := HM.out.cell 0 6 rfl rfl
      have c07 := HM.out.cell 0 7 rfl rfl
      have c08 := HM.out.cell 0 8 rfl rfl
      have c60 := HM.out.cell 6 0 rfl rfl
      have c61 := HM.out.cell 6 1 rfl rfl
      have c70 := HM.out.cell 7 0 rfl rfl
      have c71 := HM.out.cell 7 1 rfl rfl
      go_wp2_with fail
      have HM := hide (HM.out.new #[.int .i64 (se.1 - g.err), .int .i64 (se.2 + g.err), .int .i64 (sn.1 - g.err), .int .i64 (sn.2 + g.err)] 41 _ rfl)
      clear c00 c01 c02 c03 c04 c05 c06 c07 c08 c60 c61 c70 c71
      refine wp_region_tail (w0 := _) (V := [fun vv _ => vv = .agg #[.int .i64 (se.1 - g.err), .int .i64 (se.2 + g.err), .int .i64 (sn.1 - g.err), .int .i64 (sn.2 + g.err)], fun vv _ => vv = .agg #[.int .i64 g.cx, .int .i64 g.cy, .int .i64 g.cell, .int .i64 g.nx, .int .i64 g.ny, .slice A1 g.alts.length c1, .slice A2 g.winds.length c2, .slice A3 g.devs.length c3, .int .i64 g.err], fun vv _ => vv = .int .i64 x0, fun vv _ => vv = .int .i64 x1, fun vv _ => vv = .int .i64 y0, fun vv _ => vv = .int .i64 y1, fun vv _ => vv = .int .i64 z0, fun vv _ => vv = .int .i64 z1, fun vv _ => vv = .agg #[.int .i64 sd.1, .int .i64 sd.2]]) 9 [] (by kernel_rfl) (by exact rfl) (by exact rfl) (by kernel_rfl) (by kernel_rfl) (stable_nth ?_) ?_ ?_
      · exact ⟨Stable.eq _, Stable.eq _, Stable.eq _, Stable.eq _, Stable.eq _, Stable.eq _, Stable.eq _, Stable.eq _, Stable.eq _, trivial⟩
      · intro U A hA
        simp only [List.take_succ_cons, List.take_zero, putFrom, Act.put, List.setIfInBounds_toArray, List.set_cons_zero, List.set_cons_succ] at hA
        subst hA
        refine ⟨?_, ?_, ?_, ?_, ?_, ?_, ?_, ?_, ?_, trivial⟩
        all_goals
          intro w hx hp
          dsimp only [Preds, nth, pick] at hp
          try simp only [hp]
          have c00 := (HM.out.ext hx).cell 0 0 rfl rfl
          have c01 := (HM.out.ext hx).cell 0 1 rfl rfl
          have c02 := (HM.out.ext hx).cell 0 2 rfl rfl
          have c03 := (HM.out.ext hx).cell 0 3 rfl rfl
          have c04 := (HM.out.ext hx).cell 0 4 rfl rfl
          have c05 := (HM.out.ext hx).cell 0 5 rfl rfl
          have c06 := (HM.out.ext hx).cell 0 6 rfl rfl
          have c07 := (HM.out.ext hx).cell 0 7 rfl rfl
          have c08 := (HM.out.ext hx).cell 0 8 rfl rfl
          have c80 := (HM.out.ext hx).cell 8 0 rfl rfl
          have c81 := (HM.out.ext hx).cell 8 1 rfl rfl
          have c82 := (HM.out.ext hx).cell 8 2 rfl rfl
          have c83 := (HM.out.ext hx).cell 8 3 rfl rfl
        case refine_9 =>
          go_wp2_with fail
          refine (hull_any 2 3 g A1 A2 A3 c1 c2 c3 x0 x1 y0 y1 z0 z1 _ (HH.out.ext (HM.out.ext hx).bel) HO.out (HEL2.out) hrx0 hrx1 hrx2 hry0 hry1 hry2 hrz0 hrz1 hrz2).mono ?_
          rintro e w9 ⟨rfl, hx3⟩
          rw [Ed.out]
          go_wp2_with fail
          exact ⟨_, rfl, rfl, hx3, fun h => absurd h (by decide)⟩
        all_goals
          go_wp2
          exact ⟨_, rfl, rfl, Below.refl _ _, fun h => absurd h (by decide)⟩
      · intro U A w hA hx h hd
        simp only [List.take_succ_cons, List.take_zero, putFrom, Act.put, List.setIfInBounds_toArray, List.set_cons_zero, List.set_cons_succ] at hA
        subst hA
        simp only [List.drop_succ_cons, List.drop_zero]
        have h0 : U 0 = .agg #[.int .i64 (se.1 - g.err), .int .i64 (se.2 + g.err), .int .i64 (sn.1 - g.err), .int .i64 (sn.2 + g.err)] := h 0 (by decide)
        have h8 : U 8 = .agg #[.int .i64 sd.1, .int .i64 sd.2] := h 8 (by decide)
        simp only [h0, h8]
        have HM := hide (HM.out.ext hx)
        clear hx h h0 h8 hd
        have c40 := HM.out.cell 4 0 rfl rfl
        have c41 := HM.out.cell 4 1 rfl rfl
        have c42 := HM.out.cell 4 2 rfl rfl
        have c43 := HM.out.cell 4 3 rfl rfl
        have c50 := HM.out.cell 5 0 rfl rfl
        have c51 := HM.out.cell 5 1 rfl rfl
        have f40 := HM.out.free 4 0 rfl
        have f41 := HM.out.free 4 1 rfl
        have f42 := HM.out.free 4 2 rfl
        have f43 := HM.out.free 4 3 rfl
        have f50 := HM.out.free 5 0 rfl
        have f51 := HM.out.free 5 1 rfl
        go_wp2_with fail
        refine bodyPost_ret (v := .tuple #[.agg #[.int .i64 (se.1 - g.err), .int .i64 (se.2 + g.err), .int .i64 (sn.1 - g.err), .int .i64 (sn.2 + g.err)], .agg #[.int .i64 sd.1, .int .i64 sd.2], .int .i64 0]) (by simp [results, Try.results14, go_sem, c40, c41, c42, c43, c50, c51]) rfl ⟨?_, ?_⟩
        · unfold hOut; rw [if_pos HQ.out, HRe.out, HRn.out, HRd.out]
        · repeat' (first | (with_reducible refine Below.drew ?_) | (with_reducible refine Below.setCell ?_ ?_ _) | (with_reducible exact HM.out.bel) | (simp; done) | (simp; omega))
end Go.Proofs.Ytfgeoeipnidfhaa
