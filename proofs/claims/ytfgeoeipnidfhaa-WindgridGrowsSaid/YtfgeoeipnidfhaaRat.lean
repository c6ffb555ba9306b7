/- The reference's forecast at a place and an altitude. -/
import Derived.Test.YtfgeoeipnidfhaaRval
namespace Go.Proofs.Ytfgeoeipnidfhaa
open Go.RowKit Go.Base Wg

theorem elem_0 (g : Grid) (A1 A2 A3 : Option Addr) (c1 c2 c3 : Nat) (h : Ok g) : ElemC 0 1 g A1 A2 A3 c1 c2 c3 := fun x y z w hg x0 x1 y0 y1 z0 z1 => element_0 g A1 A2 A3 c1 c2 c3 x y z w h hg x0 x1 y0 y1 z0 z1
theorem elem_1 (g : Grid) (A1 A2 A3 : Option Addr) (c1 c2 c3 : Nat) (h : Ok g) : ElemC 1 2 g A1 A2 A3 c1 c2 c3 := fun x y z w hg x0 x1 y0 y1 z0 z1 => element_1 g A1 A2 A3 c1 c2 c3 x y z w h hg x0 x1 y0 y1 z0 z1
theorem elem_2 (g : Grid) (A1 A2 A3 : Option Addr) (c1 c2 c3 : Nat) (h : Ok g) : ElemC 2 3 g A1 A2 A3 c1 c2 c3 := fun x y z w hg x0 x1 y0 y1 z0 z1 => element_2 g A1 A2 A3 c1 c2 c3 x y z w h hg x0 x1 y0 y1 z0 z1

set_option maxRecDepth 100000 in
set_option maxHeartbeats 1000000 in
theorem rat_any (g : Grid) (A1 A2 A3 : Option Addr) (c1 c2 c3 : Nat) (x y alt : Int) (w0 : World) (h : GIn w0 g A1 c1 A2 c2 A3 c3) :
    Calls Try.prog 12 #[gv g A1 c1 A2 c2 A3 c3, .agg #[.int .i64 x, .int .i64 y], .int .i64 alt] w0 fun e w' => e = .returned (.tuple #[.agg #[.int .i64 (atP 0 g x y alt), .int .i64 (atP 1 g x y alt)], .int .i64 (atP 2 g x y alt), .int .i64 (atE g x y alt)]) ∧ Ext w0 w' := by
  have HH := hide h
  clear h
  go_enter Try.func12, Try.ntmps12
  go_wp2_with fail
  refine (rcheck_any g A1 A2 A3 c1 c2 c3 _ (((HH.out.ext (ext_new _ _)).ext (ext_new _ _)).ext (ext_new _ _))).mono ?_
  rintro e w1 ⟨rfl, hx⟩
  have HB := hide ((((Bx.at_new w0 _ _ _ rfl).ext (ext_new _ _)).ext (ext_new _ _)).ext hx)
  have HP := hide (((Bx.at_new (w0.alloc _) _ _ (w0.heap.size + 1) (by simp)).ext (ext_new _ _)).ext hx)
  have HR := hide ((Bx.at_new ((w0.alloc _).alloc _) _ _ (w0.heap.size + 1 + 1) (by simp)).ext hx)
  have HF := hide ((Free.new ((w0.alloc _).alloc _) #[.int .i64 0, .int .i64 0] _ (w0.heap.size + 1 + 1) (by simp)).ext hx)
  have HX := hide (((ext_new _ _).trans (ext_new _ _)).trans (ext_new _ _) |>.trans hx)
  clear hx
  have r0 := HR.out.at_ 0 _ rfl
  have r1 := HR.out.at_ 1 _ rfl
  have f0 := HF.out.2 0
  have f1 := HF.out.2 1
  have p0 := HP.out.at_ 0 _ rfl
  have p1 := HP.out.at_ 1 _ rfl
  cases t : (chk g != 0)
  rotate_left
  · have HE := hide (show chk g ≠ 0 by simpa using t)
    have HQ := hide (show atE g x y alt = chk g by unfold atE; rw [if_neg HE.out])
    go_wp2_with fail
    refine bodyPost_ret (v := .tuple #[.agg #[.int .i64 0, .int .i64 0], .int .i64 0, .int .i64 (chk g)]) (by simp [results, Try.results12, go_sem, r0, r1]) rfl ⟨ret_at ?_ ?_ ?_ ?_, ?_⟩
    · exact (at_err (by rw [HQ.out]; exact HE.out)).symm
    · exact (at_err (by rw [HQ.out]; exact HE.out)).symm
    · exact (at_err (by rw [HQ.out]; exact HE.out)).symm
    · exact HQ.out.symm
    · exact Below.setCell (Below.setCell HX.out (p := ⟨w0.heap.size + 1 + 1, 0, none⟩) (by simp; omega) _) (p := ⟨w0.heap.size + 1 + 1, 1, none⟩) (by simp; omega) _
  have HO := hide (ok_of (show chk g = 0 by simpa using t))
  have HQ0 := hide (show atE g x y alt = if inPlane x y && altOk alt then 0 else 2 by unfold atE; rw [if_pos (by simpa using t)])
  go_wp2_with fail
  refine (point_any x y _).mono ?_
  rintro e w2 ⟨rfl, hx⟩
  have HB := hide (HB.out.ext hx)
  have HP := hide (HP.out.ext hx)
  have HR := hide (HR.out.ext hx)
  have HF := hide (HF.out.ext hx)
  have HX := hide (Ext.trans HX.out hx)
  clear hx r0 r1 f0 f1 p0 p1 t
  have r0 := HR.out.at_ 0 _ rfl
  have r1 := HR.out.at_ 1 _ rfl
  have f0 := HF.out.2 0
  have f1 := HF.out.2 1
  cases hp : inPlane x y
  · have HQ := hide (show atE g x y alt = 2 by rw [HQ0.out, hp]; rfl)
    go_wp2_with fail
    refine bodyPost_ret (v := .tuple #[.agg #[.int .i64 0, .int .i64 0], .int .i64 0, .int .i64 2]) (by simp [results, Try.results12, go_sem, r0, r1]) rfl ⟨ret_at ?_ ?_ ?_ ?_, ?_⟩
    · exact (at_err (by rw [HQ.out]; decide)).symm
    · exact (at_err (by rw [HQ.out]; decide)).symm
    · exact (at_err (by rw [HQ.out]; decide)).symm
    · exact HQ.out.symm
    · exact Below.setCell (Below.setCell HX.out (p := ⟨w0.heap.size + 1 + 1, 0, none⟩) (by simp; omega) _) (p := ⟨w0.heap.size + 1 + 1, 1, none⟩) (by simp; omega) _
  have HIP := hide hp
  rcases inR_ways alt (-200000) 6000000 with ⟨q1, ha⟩ | ⟨q1, q2, ha⟩ | ⟨q1, q2, ha⟩
  · have HQ := hide (show atE g x y alt = 2 by rw [HQ0.out, HIP.out, altOk, ha]; rfl)
    clear ha
    go_wp2_with fail
    refine bodyPost_ret (v := .tuple #[.agg #[.int .i64 0, .int .i64 0], .int .i64 0, .int .i64 2]) (by simp [results, Try.results12, go_sem, r0, r1]) rfl ⟨ret_at ?_ ?_ ?_ ?_, ?_⟩
    · exact (at_err (by rw [HQ.out]; decide)).symm
    · exact (at_err (by rw [HQ.out]; decide)).symm
    · exact (at_err (by rw [HQ.out]; decide)).symm
    · exact HQ.out.symm
    · exact Below.setCell (Below.setCell HX.out (p := ⟨w0.heap.size + 1 + 1, 0, none⟩) (by simp; omega) _) (p := ⟨w0.heap.size + 1 + 1, 1, none⟩) (by simp; omega) _
  · have HQ := hide (show atE g x y alt = 2 by rw [HQ0.out, HIP.out, altOk, ha]; rfl)
    clear ha
    go_wp2_with fail
    refine bodyPost_ret (v := .tuple #[.agg #[.int .i64 0, .int .i64 0], .int .i64 0, .int .i64 2]) (by simp [results, Try.results12, go_sem, r0, r1]) rfl ⟨ret_at ?_ ?_ ?_ ?_, ?_⟩
    · exact (at_err (by rw [HQ.out]; decide)).symm
    · exact (at_err (by rw [HQ.out]; decide)).symm
    · exact (at_err (by rw [HQ.out]; decide)).symm
    · exact HQ.out.symm
    · exact Below.setCell (Below.setCell HX.out (p := ⟨w0.heap.size + 1 + 1, 0, none⟩) (by simp; omega) _) (p := ⟨w0.heap.size + 1 + 1, 1, none⟩) (by simp; omega) _
  have HQ := hide (show atE g x y alt = 0 by rw [HQ0.out, HIP.out, altOk, ha]; rfl)
  have hal := inR_iff.1 ha
  have hxx := hp
  unfold inPlane at hxx
  rw [Bool.and_eq_true, inR_iff, inR_iff] at hxx
  have hx1 := hxx.1.1
  have hx2 := hxx.1.2
  have hy1 := hxx.2.1
  have hy2 := hxx.2.2
  have ha1 := hal.1
  have ha2 := hal.2
  have HEL0 := hide (elem_0 g A1 A2 A3 c1 c2 c3 HO.out)
  have HEL1 := hide (elem_1 g A1 A2 A3 c1 c2 c3 HO.out)
  have HEL2 := hide (elem_2 g A1 A2 A3 c1 c2 c3 HO.out)
  clear hxx hal HQ0 ha
  go_wp2_with fail
  clear r0 r1 f0 f1 q1 q2
  refine wp_region_tail (w0 := _) (V := [fun vv _ => vv = .agg #[.int .i64 g.cx, .int .i64 g.cy, .int .i64 g.cell, .int .i64 g.nx, .int .i64 g.ny, .slice A1 g.alts.length c1, .slice A2 g.winds.length c2, .slice A3 g.devs.length c3, .int .i64 g.err], fun vv _ => vv = .agg #[.int .i64 x, .int .i64 y], fun vv _ => vv = .int .i64 alt, fun vv _ => vv = .int .i64 (atV 0 g x y alt), fun vv _ => vv = .agg #[.int .i64 g.cx, .int .i64 g.cy, .int .i64 g.cell, .int .i64 g.nx, .int .i64 g.ny, .slice A1 g.alts.length c1, .slice A2 g.winds.length c2, .slice A3 g.devs.length c3, .int .i64 g.err], fun vv _ => vv = .agg #[.int .i64 x, .int .i64 y], fun vv _ => vv = .int .i64 alt, fun vv _ => vv = .int .i64 (atV 1 g x y alt), fun vv _ => vv = .agg #[.int .i64 (atV 0 g x y alt), .int .i64 (atV 1 g x y alt)], fun vv _ => vv = .agg #[.int .i64 g.cx, .int .i64 g.cy, .int .i64 g.cell, .int .i64 g.nx, .int .i64 g.ny, .slice A1 g.alts.length c1, .slice A2 g.winds.length c2, .slice A3 g.devs.length c3, .int .i64 g.err], fun vv _ => vv = .agg #[.int .i64 x, .int .i64 y], fun vv _ => vv = .int .i64 alt, fun vv _ => vv = .int .i64 (atV 2 g x y alt)]) 13 [] (by kernel_rfl) (by exact rfl) (by exact rfl) (by kernel_rfl) (by kernel_rfl) (stable_nth ?_) ?_ ?_
  · exact ⟨Stable.eq _, Stable.eq _, Stable.eq _, Stable.eq _, Stable.eq _, Stable.eq _, Stable.eq _, Stable.eq _, Stable.eq _, Stable.eq _, Stable.eq _, Stable.eq _, Stable.eq _, trivial⟩
  · intro U A hA
    simp only [List.take_succ_cons, List.take_zero, putFrom, Act.put, List.setIfInBounds_toArray, List.set_cons_zero, List.set_cons_succ] at hA
    subst hA
    refine ⟨?_, ?_, ?_, ?_, ?_, ?_, ?_, ?_, ?_, ?_, ?_, ?_, ?_, trivial⟩
    all_goals
      intro w hx hp
      dsimp only [Preds, nth, pick] at hp
      try simp only [hp]
      have g0 := (HB.out.ext hx).at_ 0 _ rfl
      have g1 := (HB.out.ext hx).at_ 1 _ rfl
      have g2 := (HB.out.ext hx).at_ 2 _ rfl
      have g3 := (HB.out.ext hx).at_ 3 _ rfl
      have g4 := (HB.out.ext hx).at_ 4 _ rfl
      have g5 := (HB.out.ext hx).at_ 5 _ rfl
      have g6 := (HB.out.ext hx).at_ 6 _ rfl
      have g7 := (HB.out.ext hx).at_ 7 _ rfl
      have g8 := (HB.out.ext hx).at_ 8 _ rfl
      have p0 := (HP.out.ext hx).at_ 0 _ rfl
      have p1 := (HP.out.ext hx).at_ 1 _ rfl
    case refine_4 =>
      go_wp2_with fail
      refine (rvalue_any 0 1 g A1 A2 A3 c1 c2 c3 x y alt _ ((HH.out.ext HX.out).ext hx) HO.out (HEL0.out) hx1 hx2 hy1 hy2 ha1 ha2).mono ?_
      rintro e w3 ⟨rfl, hx3⟩
      go_wp2_with fail
      exact ⟨_, rfl, rfl, hx3, fun h => absurd h (by decide)⟩
    case refine_8 =>
      go_wp2_with fail
      refine (rvalue_any 1 2 g A1 A2 A3 c1 c2 c3 x y alt _ ((HH.out.ext HX.out).ext hx) HO.out (HEL1.out) hx1 hx2 hy1 hy2 ha1 ha2).mono ?_
      rintro e w3 ⟨rfl, hx3⟩
      go_wp2_with fail
      exact ⟨_, rfl, rfl, hx3, fun h => absurd h (by decide)⟩
    case refine_13 =>
      go_wp2_with fail
      refine (rvalue_any 2 3 g A1 A2 A3 c1 c2 c3 x y alt _ ((HH.out.ext HX.out).ext hx) HO.out (HEL2.out) hx1 hx2 hy1 hy2 ha1 ha2).mono ?_
      rintro e w3 ⟨rfl, hx3⟩
      go_wp2_with fail
      exact ⟨_, rfl, rfl, hx3, fun h => absurd h (by decide)⟩
    all_goals
      go_wp2
      exact ⟨_, rfl, rfl, Below.refl _ _, fun h => absurd h (by decide)⟩
  · intro U A w hA hx h hd
    simp only [List.take_succ_cons, List.take_zero, putFrom, Act.put, List.setIfInBounds_toArray, List.set_cons_zero, List.set_cons_succ] at hA
    subst hA
    simp only [List.drop_succ_cons, List.drop_zero]
    have h8 : U 8 = .agg #[.int .i64 (atV 0 g x y alt), .int .i64 (atV 1 g x y alt)] := h 8 (by decide)
    have h12 : U 12 = .int .i64 (atV 2 g x y alt) := h 12 (by decide)
    simp only [h8, h12]
    have r0 := (HR.out.ext hx).at_ 0 _ rfl
    have r1 := (HR.out.ext hx).at_ 1 _ rfl
    have f0 := (HF.out.ext hx).2 0
    have f1 := (HF.out.ext hx).2 1
    have HXX := hide (Ext.trans HX.out hx)
    clear hx h h8 h12 hd
    go_wp2_with fail
    refine bodyPost_ret (v := .tuple #[.agg #[.int .i64 (atV 0 g x y alt), .int .i64 (atV 1 g x y alt)], .int .i64 (atV 2 g x y alt), .int .i64 0]) (by simp [results, Try.results12, go_sem, r0, r1]) rfl ⟨ret_at ?_ ?_ ?_ ?_, ?_⟩
    · unfold atP; rw [if_pos HQ.out]
    · unfold atP; rw [if_pos HQ.out]
    · unfold atP; rw [if_pos HQ.out]
    · exact HQ.out.symm
    · exact Below.setCell (Below.setCell HXX.out (p := ⟨w0.heap.size + 1 + 1, 0, none⟩) (by simp; omega) _) (p := ⟨w0.heap.size + 1 + 1, 1, none⟩) (by simp; omega) _
end Go.Proofs.Ytfgeoeipnidfhaa
