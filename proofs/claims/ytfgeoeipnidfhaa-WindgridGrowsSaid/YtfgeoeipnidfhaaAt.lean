/- The program's forecast at a place and an altitude. -/
import Derived.Test.YtfgeoeipnidfhaaClo2
namespace Go.Proofs.Ytfgeoeipnidfhaa
open Go.RowKit Go.Base Wg

def atV (p : Nat) (g : Grid) (x y alt : Int) : Int :=
  allV p g (sideI g.cx g.cell g.nx x) (sideF g.cx g.cell g.nx x) g.cell (sideI g.cy g.cell g.ny y) (sideF g.cy g.cell g.ny y) g.cell (levI g.alts alt) (levF g.alts alt) (levC g.alts alt)
def atE (g : Grid) (x y alt : Int) : Int := if chk g = 0 then (if inPlane x y && altOk alt then 0 else 2) else chk g
def atP (p : Nat) (g : Grid) (x y alt : Int) : Int := if atE g x y alt = 0 then atV p g x y alt else 0
theorem side_sp {c cell n x : Int} (hn : 1 ≤ n) (hc : 1 ≤ cell) (hc2 : cell ≤ 2000000) : Sp n (sideI c cell n x) (sideF c cell n x) cell := by
  have h1 := sideI_in (c := c) (cell := cell) (x := x) hn
  have h2 := side_f (c := c) (x := x) hn hc
  exact ⟨h1.1, h1.2.1, h2.1, h2.2.1, by omega, by omega, fun hf => by have := h1.2.2 (h2.2.2 hf); omega⟩
theorem lev_sp {g : Grid} (h : Ok g) (a : Int) : Sp g.alts.length (levI g.alts a) (levF g.alts a) (levC g.alts a) := by
  have h1 := lev_in h.al1 a
  have h2 := lev_f h.al1 h.ord a
  have h3 : levC g.alts a ≤ 10000000 := by
    unfold levC
    split
    · omega
    · have h5 := h1.2 (by have := h.al1; omega)
      rw [getD_lt (by omega), getD_lt (by omega)]
      have e1 := h.alts (levI g.alts a) (by omega)
      have e2 := h.alts (levI g.alts a + 1) (by omega)
      omega
  exact ⟨by omega, by have := h1.1; omega, h2.2.1, h2.2.2.1, h2.1, h3, fun hf => by have := h1.2 (h2.2.2.2 hf); omega⟩

def frAt (g : Grid) (x y alt : Int) : List Fr := [⟨24, 27, [.int .i64 0, .int .i64 0, .int .i64 0], [.int .i64 (sideI g.cx g.cell g.nx x), .int .i64 (sideF g.cx g.cell g.nx x), .int .i64 g.cell]⟩, ⟨25, 28, [.int .i64 0, .int .i64 0, .int .i64 0], [.int .i64 (sideI g.cy g.cell g.ny y), .int .i64 (sideF g.cy g.cell g.ny y), .int .i64 g.cell]⟩, ⟨26, 29, [.int .i64 0, .int .i64 0, .int .i64 0], [.int .i64 (levI g.alts alt), .int .i64 (levF g.alts alt), .int .i64 (levC g.alts alt)]⟩]
theorem ret_at {a b c d a' b' c' d' : Int} (h1 : a = a') (h2 : b = b') (h3 : c = c') (h4 : d = d') :
    Ending.returned (.tuple #[.agg #[.int .i64 a, .int .i64 b], .int .i64 c, .int .i64 d]) = .returned (.tuple #[.agg #[.int .i64 a', .int .i64 b'], .int .i64 c', .int .i64 d']) := by rw [h1, h2, h3, h4]
theorem at_err {p : Nat} {g : Grid} {x y alt : Int} (h : atE g x y alt ≠ 0) : atP p g x y alt = 0 := by unfold atP; rw [if_neg h]

set_option maxRecDepth 100000 in
set_option maxHeartbeats 1000000 in
theorem at_any (g : Grid) (A1 A2 A3 : Option Addr) (c1 c2 c3 : Nat) (x y alt : Int) (w0 : World) (h : GIn w0 g A1 c1 A2 c2 A3 c3) :
    Calls Try.prog 11 #[gv g A1 c1 A2 c2 A3 c3, .agg #[.int .i64 x, .int .i64 y], .int .i64 alt] w0 fun e w' => e = .returned (.tuple #[.agg #[.int .i64 (atP 0 g x y alt), .int .i64 (atP 1 g x y alt)], .int .i64 (atP 2 g x y alt), .int .i64 (atE g x y alt)]) ∧ Ext w0 w' := by
  have HH := hide h
  clear h
  go_enter Try.func11, Try.ntmps11
  go_wp2_with fail
  refine (check_any g A1 A2 A3 c1 c2 c3 _ (((HH.out.ext (ext_new _ _)).ext (ext_new _ _)).ext (ext_new _ _))).mono ?_
  rintro e w1 ⟨rfl, hx⟩
  have HB := hide ((((Bx.at_new w0 _ _ _ rfl).ext (ext_new _ _)).ext (ext_new _ _)).ext hx)
  have HP := hide (((Bx.at_new (w0.alloc _) _ _ (w0.heap.size + 1) (by simp)).ext (ext_new _ _)).ext hx)
  have HR := hide ((Bx.at_new ((w0.alloc _).alloc _) _ _ (w0.heap.size + 1 + 1) (by simp)).ext hx)
  have HF := hide ((Free.new ((w0.alloc _).alloc _) #[.int .i64 0, .int .i64 0] _ (w0.heap.size + 1 + 1) (by simp)).ext hx)
  have HX := hide (((ext_new _ _).trans (ext_new _ _)).trans (ext_new _ _) |>.trans hx)
  clear hx
  have r0 := HR.out.at_ 0 _ rfl
  have r1 := HR.out.at_ 1 _ rfl
  have f0 := HF.out.2 0
  have f1 := HF.out.2 1
  have p0 := HP.out.at_ 0 _ rfl
  have p1 := HP.out.at_ 1 _ rfl
  cases t : (chk g != 0)
  rotate_left
  · have HE := hide (show chk g ≠ 0 by simpa using t)
    have HQ := hide (show atE g x y alt = chk g by unfold atE; rw [if_neg HE.out])
    go_wp2_with fail
    refine bodyPost_ret (v := .tuple #[.agg #[.int .i64 0, .int .i64 0], .int .i64 0, .int .i64 (chk g)]) (by simp [results, Try.results11, go_sem, r0, r1]) rfl ⟨ret_at ?_ ?_ ?_ ?_, ?_⟩
    · exact (at_err (by rw [HQ.out]; exact HE.out)).symm
    · exact (at_err (by rw [HQ.out]; exact HE.out)).symm
    · exact (at_err (by rw [HQ.out]; exact HE.out)).symm
    · exact HQ.out.symm
    · exact Below.setCell (Below.setCell HX.out (p := ⟨w0.heap.size + 1 + 1, 0, none⟩) (by simp; omega) _) (p := ⟨w0.heap.size + 1 + 1, 1, none⟩) (by simp; omega) _
  have HO := hide (ok_of (show chk g = 0 by simpa using t))
  have HQ0 := hide (show atE g x y alt = if inPlane x y && altOk alt then 0 else 2 by unfold atE; rw [if_pos (by simpa using t)])
  go_wp2_with fail
  refine (inPlane_any x y _).mono ?_
  rintro e w2 ⟨rfl, hx⟩
  have HB := hide (HB.out.ext hx)
  have HP := hide (HP.out.ext hx)
  have HR := hide (HR.out.ext hx)
  have HF := hide (HF.out.ext hx)
  have HX := hide (Ext.trans HX.out hx)
  clear hx r0 r1 f0 f1 p0 p1 t
  have r0 := HR.out.at_ 0 _ rfl
  have r1 := HR.out.at_ 1 _ rfl
  have f0 := HF.out.2 0
  have f1 := HF.out.2 1
  cases hp : inPlane x y
  · have HQ := hide (show atE g x y alt = 2 by rw [HQ0.out, hp]; rfl)
    go_wp2_with fail
    refine bodyPost_ret (v := .tuple #[.agg #[.int .i64 0, .int .i64 0], .int .i64 0, .int .i64 2]) (by simp [results, Try.results11, go_sem, r0, r1]) rfl ⟨ret_at ?_ ?_ ?_ ?_, ?_⟩
    · exact (at_err (by rw [HQ.out]; decide)).symm
    · exact (at_err (by rw [HQ.out]; decide)).symm
    · exact (at_err (by rw [HQ.out]; decide)).symm
    · exact HQ.out.symm
    · exact Below.setCell (Below.setCell HX.out (p := ⟨w0.heap.size + 1 + 1, 0, none⟩) (by simp; omega) _) (p := ⟨w0.heap.size + 1 + 1, 1, none⟩) (by simp; omega) _
  have HIP := hide hp
  cases ha : inR alt (-200000) 6000000
  · have HQ := hide (show atE g x y alt = 2 by rw [HQ0.out, HIP.out, altOk, ha]; rfl)
    go_wp2_with fail
    refine (within_any _ _ _ _).mono ?_
    rintro e w' ⟨rfl, rfl⟩
    go_wp2_with fail
    refine bodyPost_ret (v := .tuple #[.agg #[.int .i64 0, .int .i64 0], .int .i64 0, .int .i64 2]) (by simp [results, Try.results11, go_sem, r0, r1]) rfl ⟨ret_at ?_ ?_ ?_ ?_, ?_⟩
    · exact (at_err (by rw [HQ.out]; decide)).symm
    · exact (at_err (by rw [HQ.out]; decide)).symm
    · exact (at_err (by rw [HQ.out]; decide)).symm
    · exact HQ.out.symm
    · exact Below.setCell (Below.setCell HX.out (p := ⟨w0.heap.size + 1 + 1, 0, none⟩) (by simp; omega) _) (p := ⟨w0.heap.size + 1 + 1, 1, none⟩) (by simp; omega) _
  have HQ := hide (show atE g x y alt = 0 by rw [HQ0.out, HIP.out, altOk, ha]; rfl)
  have hal := inR_iff.1 ha
  have hxx := hp
  unfold inPlane at hxx
  rw [Bool.and_eq_true, inR_iff, inR_iff] at hxx
  have hx1 := hxx.1.1
  have hx2 := hxx.1.2
  have hy1 := hxx.2.1
  have hy2 := hxx.2.2
  have ha1 := hal.1
  have ha2 := hal.2
  clear hxx hal HQ0
  go_wp2_with fail
  refine (within_any _ _ _ _).mono ?_
  rintro e w' ⟨rfl, rfl⟩
  go_wp2_with fail
  clear r0 r1 f0 f1
  refine wp_region_heap (w0 := w2) (V := [fun vv _ => vv = .pointer (some ⟨w0.heap.size, 0, none⟩), fun vv _ => vv = .pointer (some ⟨w0.heap.size, 0, none⟩), fun vv _ => vv = .int .i64 g.cx, fun vv _ => vv = .pointer (some ⟨w0.heap.size, 2, none⟩), fun vv _ => vv = .int .i64 g.cell, fun vv _ => vv = .pointer (some ⟨w0.heap.size, 3, none⟩), fun vv _ => vv = .int .i64 g.nx, fun vv _ => vv = .pointer (some ⟨w0.heap.size + 1, 0, none⟩), fun vv _ => vv = .int .i64 x, fun vv _ => vv = .agg #[.int .i64 (sideI g.cx g.cell g.nx x), .int .i64 (sideF g.cx g.cell g.nx x), .int .i64 g.cell], fun vv _ => vv = .pointer (some ⟨w0.heap.size, 0, none⟩), fun vv _ => vv = .pointer (some ⟨w0.heap.size, 1, none⟩), fun vv _ => vv = .int .i64 g.cy, fun vv _ => vv = .pointer (some ⟨w0.heap.size, 2, none⟩), fun vv _ => vv = .int .i64 g.cell, fun vv _ => vv = .pointer (some ⟨w0.heap.size, 4, none⟩), fun vv _ => vv = .int .i64 g.ny, fun vv _ => vv = .pointer (some ⟨w0.heap.size + 1, 1, none⟩), fun vv _ => vv = .int .i64 y, fun vv _ => vv = .agg #[.int .i64 (sideI g.cy g.cell g.ny y), .int .i64 (sideF g.cy g.cell g.ny y), .int .i64 g.cell], fun vv _ => vv = .pointer (some ⟨w0.heap.size, 5, none⟩), fun vv _ => vv = .slice A1 g.alts.length c1, fun vv _ => vv = .int .i64 alt, fun vv _ => vv = .agg #[.int .i64 (levI g.alts alt), .int .i64 (levF g.alts alt), .int .i64 (levC g.alts alt)], fun _ _ => True, fun _ _ => True, fun _ _ => True, fun _ _ => True, fun _ _ => True, fun _ _ => True]) (w2.heap.size) [24, 25, 26, 27, 28, 29] (FreshH w2.heap.size (frAt g x y alt)) (by kernel_rfl) (by kernel_rfl) (stableB_nth ?_) (Nat.le_refl _) (fun M w w' h hx => h.ext hx) (fun w _ => FreshH.start _ _ _) ?_ ?_
  · exact ⟨StableB.eq _ _, StableB.eq _ _, StableB.eq _ _, StableB.eq _ _, StableB.eq _ _, StableB.eq _ _, StableB.eq _ _, StableB.eq _ _, StableB.eq _ _, StableB.eq _ _, StableB.eq _ _, StableB.eq _ _, StableB.eq _ _, StableB.eq _ _, StableB.eq _ _, StableB.eq _ _, StableB.eq _ _, StableB.eq _ _, StableB.eq _ _, StableB.eq _ _, StableB.eq _ _, StableB.eq _ _, StableB.eq _ _, StableB.eq _ _, StableB.true_ _, StableB.true_ _, StableB.true_ _, StableB.true_ _, StableB.true_ _, StableB.true_ _, trivial⟩
  · intro U A hA
    simp only [putFrom, Act.put, List.setIfInBounds_toArray, List.set_cons_zero, List.set_cons_succ] at hA
    subst hA
    refine ⟨?_, ?_, ?_, ?_, ?_, ?_, ?_, ?_, ?_, ?_, ?_, ?_, ?_, ?_, ?_, ?_, ?_, ?_, ?_, ?_, ?_, ?_, ?_, ?_, ?_, ?_, ?_, ?_, ?_, ?_, trivial⟩
    all_goals
      intro w M hx hM hk hp hq
      dsimp only [Preds, PredsM, nth, pick] at hp hq
      try simp only [hp]
      obtain ⟨hc, -⟩ := bcell hx
      have hz := hx.size
      have g0 := (HB.out.ext hx).at_ 0 _ rfl
      have g1 := (HB.out.ext hx).at_ 1 _ rfl
      have g2 := (HB.out.ext hx).at_ 2 _ rfl
      have g3 := (HB.out.ext hx).at_ 3 _ rfl
      have g4 := (HB.out.ext hx).at_ 4 _ rfl
      have g5 := (HB.out.ext hx).at_ 5 _ rfl
      have g6 := (HB.out.ext hx).at_ 6 _ rfl
      have g7 := (HB.out.ext hx).at_ 7 _ rfl
      have g8 := (HB.out.ext hx).at_ 8 _ rfl
      have p0 := (HP.out.ext hx).at_ 0 _ rfl
      have p1 := (HP.out.ext hx).at_ 1 _ rfl
    case refine_10 =>
      go_wp2_with fail
      refine (side_any g.cx g.cell g.nx x HO.out.cx1 HO.out.cx2 HO.out.cell1 HO.out.cell2 HO.out.nx1 HO.out.nx2 hx1 hx2 _).mono ?_
      rintro e w3 ⟨rfl, hx3⟩
      go_wp2_with fail
      exact ⟨_, rfl, rfl, Below.mono hx3 hx.size, fun _ => hx3, fun h => absurd h (by decide)⟩
    case refine_20 =>
      go_wp2_with fail
      refine (side_any g.cy g.cell g.ny y HO.out.cy1 HO.out.cy2 HO.out.cell1 HO.out.cell2 HO.out.ny1 HO.out.ny2 hy1 hy2 _).mono ?_
      rintro e w3 ⟨rfl, hx3⟩
      go_wp2_with fail
      exact ⟨_, rfl, rfl, Below.mono hx3 hx.size, fun _ => hx3, fun h => absurd h (by decide)⟩
    case refine_24 =>
      go_wp2_with fail
      refine (level_any g.alts A1 c1 alt _ ((HH.out.ext HX.out).ext hx).a HO.out.al1 HO.out.al2 HO.out.ord HO.out.alts ha1 ha2).mono ?_
      rintro e w3 ⟨rfl, hx3⟩
      go_wp2_with fail
      exact ⟨_, rfl, rfl, Below.mono hx3 hx.size, fun _ => hx3, fun h => absurd h (by decide)⟩
    case refine_25 =>
      go_wp2
      exact ⟨_, rfl, trivial, (Below.refl _ _).alloc hx.size _, fun h => absurd h (by decide), fun _ => FreshH.alloc hM (by kernel_rfl) (fr_uniq (by simp [frAt])) (t := ⟨24, 27, [.int .i64 0, .int .i64 0, .int .i64 0], [.int .i64 (sideI g.cx g.cell g.nx x), .int .i64 (sideF g.cx g.cell g.nx x), .int .i64 g.cell]⟩) (by simp [frAt]) hk hx.size _ rfl _⟩
    case refine_26 =>
      go_wp2
      exact ⟨_, rfl, trivial, (Below.refl _ _).alloc hx.size _, fun h => absurd h (by decide), fun _ => FreshH.alloc hM (by kernel_rfl) (fr_uniq (by simp [frAt])) (t := ⟨25, 28, [.int .i64 0, .int .i64 0, .int .i64 0], [.int .i64 (sideI g.cy g.cell g.ny y), .int .i64 (sideF g.cy g.cell g.ny y), .int .i64 g.cell]⟩) (by simp [frAt]) hk hx.size _ rfl _⟩
    case refine_27 =>
      go_wp2
      exact ⟨_, rfl, trivial, (Below.refl _ _).alloc hx.size _, fun h => absurd h (by decide), fun _ => FreshH.alloc hM (by kernel_rfl) (fr_uniq (by simp [frAt])) (t := ⟨26, 29, [.int .i64 0, .int .i64 0, .int .i64 0], [.int .i64 (levI g.alts alt), .int .i64 (levF g.alts alt), .int .i64 (levC g.alts alt)]⟩) (by simp [frAt]) hk hx.size _ rfl _⟩
    case refine_28 =>
      obtain ⟨b, e1, e2, e3, e4⟩ := hM.1 ⟨24, 27, [.int .i64 0, .int .i64 0, .int .i64 0], [.int .i64 (sideI g.cx g.cell g.nx x), .int .i64 (sideF g.cx g.cell g.nx x), .int .i64 g.cell]⟩ (by simp [frAt]) _ (hq.1 (by decide))
      have hMb := hq.1 (by decide)
      rw [e1] at hMb
      simp only [e1]
      change Bx w b (if (M 27).isSome = true then _ else _) at e4
      rw [hk] at e4
      have l0 := e4.at_ 0 _ rfl
      have l1 := e4.at_ 1 _ rfl
      have l2 := e4.at_ 2 _ rfl
      have k0 := e3.2 0
      have k1 := e3.2 1
      have k2 := e3.2 2
      have HM := hide hM
      have HMb := hide hMb
      have HE := hide e4
      have HX := hide e2
      clear hM hMb e4 e3 e2 e1 hk hp hq
      go_wp2
      exact ⟨undef, rfl, trivial, upd_below HX.out _ _ (upd_below HX.out _ _ (upd_below HX.out _ _ (Below.refl _ _))), fun h => absurd h (by decide), fun _ => FreshH.store HM.out (by kernel_rfl) (fr_uniq (by simp [frAt])) (t := ⟨24, 27, [.int .i64 0, .int .i64 0, .int .i64 0], [.int .i64 (sideI g.cx g.cell g.nx x), .int .i64 (sideF g.cx g.cell g.nx x), .int .i64 g.cell]⟩) (by simp [frAt]) HMb.out _ (((Upd.set _ _ _ _).trans (Upd.set _ _ _ _)).trans (Upd.set _ _ _ _)) (((HE.out.set 0 _).set 1 _).set 2 _)⟩
    case refine_29 =>
      obtain ⟨b, e1, e2, e3, e4⟩ := hM.1 ⟨25, 28, [.int .i64 0, .int .i64 0, .int .i64 0], [.int .i64 (sideI g.cy g.cell g.ny y), .int .i64 (sideF g.cy g.cell g.ny y), .int .i64 g.cell]⟩ (by simp [frAt]) _ (hq.1 (by decide))
      have hMb := hq.1 (by decide)
      rw [e1] at hMb
      simp only [e1]
      change Bx w b (if (M 28).isSome = true then _ else _) at e4
      rw [hk] at e4
      have l0 := e4.at_ 0 _ rfl
      have l1 := e4.at_ 1 _ rfl
      have l2 := e4.at_ 2 _ rfl
      have k0 := e3.2 0
      have k1 := e3.2 1
      have k2 := e3.2 2
      have HM := hide hM
      have HMb := hide hMb
      have HE := hide e4
      have HX := hide e2
      clear hM hMb e4 e3 e2 e1 hk hp hq
      go_wp2
      exact ⟨undef, rfl, trivial, upd_below HX.out _ _ (upd_below HX.out _ _ (upd_below HX.out _ _ (Below.refl _ _))), fun h => absurd h (by decide), fun _ => FreshH.store HM.out (by kernel_rfl) (fr_uniq (by simp [frAt])) (t := ⟨25, 28, [.int .i64 0, .int .i64 0, .int .i64 0], [.int .i64 (sideI g.cy g.cell g.ny y), .int .i64 (sideF g.cy g.cell g.ny y), .int .i64 g.cell]⟩) (by simp [frAt]) HMb.out _ (((Upd.set _ _ _ _).trans (Upd.set _ _ _ _)).trans (Upd.set _ _ _ _)) (((HE.out.set 0 _).set 1 _).set 2 _)⟩
    case refine_30 =>
      obtain ⟨b, e1, e2, e3, e4⟩ := hM.1 ⟨26, 29, [.int .i64 0, .int .i64 0, .int .i64 0], [.int .i64 (levI g.alts alt), .int .i64 (levF g.alts alt), .int .i64 (levC g.alts alt)]⟩ (by simp [frAt]) _ (hq.1 (by decide))
      have hMb := hq.1 (by decide)
      rw [e1] at hMb
      simp only [e1]
      change Bx w b (if (M 29).isSome = true then _ else _) at e4
      rw [hk] at e4
      have l0 := e4.at_ 0 _ rfl
      have l1 := e4.at_ 1 _ rfl
      have l2 := e4.at_ 2 _ rfl
      have k0 := e3.2 0
      have k1 := e3.2 1
      have k2 := e3.2 2
      have HM := hide hM
      have HMb := hide hMb
      have HE := hide e4
      have HX := hide e2
      clear hM hMb e4 e3 e2 e1 hk hp hq
      go_wp2
      exact ⟨undef, rfl, trivial, upd_below HX.out _ _ (upd_below HX.out _ _ (upd_below HX.out _ _ (Below.refl _ _))), fun h => absurd h (by decide), fun _ => FreshH.store HM.out (by kernel_rfl) (fr_uniq (by simp [frAt])) (t := ⟨26, 29, [.int .i64 0, .int .i64 0, .int .i64 0], [.int .i64 (levI g.alts alt), .int .i64 (levF g.alts alt), .int .i64 (levC g.alts alt)]⟩) (by simp [frAt]) HMb.out _ (((Upd.set _ _ _ _).trans (Upd.set _ _ _ _)).trans (Upd.set _ _ _ _)) (((HE.out.set 0 _).set 1 _).set 2 _)⟩
    all_goals
      go_wp2
      exact ⟨_, rfl, rfl, Below.refl _ _, fun _ => Below.refl _ _, fun h => absurd h (by decide)⟩
  · intro U A w hA hx h hH
    simp only [putFrom, Act.put, List.setIfInBounds_toArray, List.set_cons_zero, List.set_cons_succ] at hA
    subst hA
    obtain ⟨b1, e1, gb1, fb1, hb1⟩ := hH.1 ⟨24, 27, [.int .i64 0, .int .i64 0, .int .i64 0], [.int .i64 (sideI g.cx g.cell g.nx x), .int .i64 (sideF g.cx g.cell g.nx x), .int .i64 g.cell]⟩ (by simp [frAt]) (U 24) rfl
    obtain ⟨b2, e2, gb2, fb2, hb2⟩ := hH.1 ⟨25, 28, [.int .i64 0, .int .i64 0, .int .i64 0], [.int .i64 (sideI g.cy g.cell g.ny y), .int .i64 (sideF g.cy g.cell g.ny y), .int .i64 g.cell]⟩ (by simp [frAt]) (U 25) rfl
    obtain ⟨b3, e3, gb3, fb3, hb3⟩ := hH.1 ⟨26, 29, [.int .i64 0, .int .i64 0, .int .i64 0], [.int .i64 (levI g.alts alt), .int .i64 (levF g.alts alt), .int .i64 (levC g.alts alt)]⟩ (by simp [frAt]) (U 26) rfl
    simp only [e1, e2, e3]
    have H1 := hide (show Bx w b1 [.int .i64 (sideI g.cx g.cell g.nx x), .int .i64 (sideF g.cx g.cell g.nx x), .int .i64 g.cell] from hb1)
    have H2 := hide (show Bx w b2 [.int .i64 (sideI g.cy g.cell g.ny y), .int .i64 (sideF g.cy g.cell g.ny y), .int .i64 g.cell] from hb2)
    have H3 := hide (show Bx w b3 [.int .i64 (levI g.alts alt), .int .i64 (levF g.alts alt), .int .i64 (levC g.alts alt)] from hb3)
    clear e1 e2 e3 hb1 hb2 hb3 fb1 fb2 fb3 gb1 gb2 gb3 h hH
    have HXw := hide hx
    have HV := hide (show ∀ p, p < 3 → ∀ w', Ext w w' → Calls Try.prog 27 #[.func (.func (ofF p)) #[] #[.pointer (some ⟨w0.heap.size, 0, none⟩)], .pointer (some ⟨b3, 0, none⟩), .pointer (some ⟨b2, 0, none⟩), .pointer (some ⟨b1, 0, none⟩), .pointer (some ⟨w0.heap.size, 0, none⟩)] w' fun e w'' => e = .returned (.int .i64 (atV p g x y alt)) ∧ Ext w' w'' from fun p hp w' hx2 => value_any p hp g A1 A2 A3 c1 c2 c3 w0.heap.size b3 b2 b1 _ _ _ _ _ _ _ _ _ w' HO.out (((HH.out.ext HX.out).ext hx).ext hx2) ((HB.out.ext hx).ext hx2) (H3.out.ext hx2) (H2.out.ext hx2) (H1.out.ext hx2) (side_sp HO.out.nx1 HO.out.cell1 HO.out.cell2 (x := x) (c := g.cx)) (side_sp HO.out.ny1 HO.out.cell1 HO.out.cell2 (x := y) (c := g.cy)) (lev_sp HO.out alt))
    clear hx
    obtain ⟨w5, rfl⟩ : ∃ z : World, z = w := ⟨_, rfl⟩
    go_wp2_with fail
    refine (HV.out 0 (by decide) _ (Below.refl _ _)).mono ?_
    rintro e w3 ⟨rfl, hx3⟩
    go_wp2_with fail
    refine (HV.out 1 (by decide) _ hx3).mono ?_
    rintro e w4 ⟨rfl, hx4⟩
    have HX4 := hide (Ext.trans hx3 hx4)
    clear hx3 hx4
    go_wp2_with fail
    refine wp_region_tail (w0 := _) (V := [fun vv _ => vv = .agg #[.int .i64 (atV 0 g x y alt), .int .i64 (atV 1 g x y alt)], fun vv _ => vv = .func (.func 27) #[] #[.pointer (some ⟨b3, 0, none⟩), .pointer (some ⟨b2, 0, none⟩), .pointer (some ⟨b1, 0, none⟩), .pointer (some ⟨w0.heap.size, 0, none⟩)], fun vv _ => vv = .func (.func 35) #[] #[.pointer (some ⟨w0.heap.size, 0, none⟩)], fun vv _ => vv = .int .i64 (atV 2 g x y alt)]) 4 [] (by kernel_rfl) (by exact rfl) (by exact rfl) (by kernel_rfl) (by kernel_rfl) (stable_nth ?_) ?_ ?_
    · exact ⟨Stable.eq _, Stable.eq _, Stable.eq _, Stable.eq _, trivial⟩
    · intro U A hA
      simp only [List.take_succ_cons, List.take_zero, putFrom, Act.put, List.setIfInBounds_toArray, List.set_cons_zero, List.set_cons_succ] at hA
      subst hA
      refine ⟨?_, ?_, ?_, ?_, trivial⟩
      all_goals
        intro w hx hp
        dsimp only [Preds, nth, pick] at hp
        try simp only [hp]
        have q0 := ((Bx.at_new w4 #[.int .i64 (atV 0 g x y alt), .int .i64 (atV 1 g x y alt)] 30 _ rfl).ext hx).at_ 0 _ rfl
        have q1 := ((Bx.at_new w4 #[.int .i64 (atV 0 g x y alt), .int .i64 (atV 1 g x y alt)] 30 _ rfl).ext hx).at_ 1 _ rfl
      case refine_4 =>
        go_wp2_with fail
        refine (HV.out 2 (by decide) _ (Ext.trans HX4.out (Ext.trans (ext_new _ _) hx))).mono ?_
        rintro e w' ⟨rfl, hx3⟩
        go_wp2_with fail
        exact ⟨_, rfl, rfl, hx3, fun h => absurd h (by decide)⟩
      all_goals
        go_wp2
        exact ⟨_, rfl, rfl, Below.refl _ _, fun h => absurd h (by decide)⟩
    · intro U A w hA hx h hd
      simp only [List.take_succ_cons, List.take_zero, putFrom, Act.put, List.setIfInBounds_toArray, List.set_cons_zero, List.set_cons_succ] at hA
      subst hA
      simp only [List.drop_succ_cons, List.drop_zero]
      have h0 : U 0 = .agg #[.int .i64 (atV 0 g x y alt), .int .i64 (atV 1 g x y alt)] := h 0 (by decide)
      have h3 : U 3 = .int .i64 (atV 2 g x y alt) := h 3 (by decide)
      simp only [h0, h3]
      have r0 := (((HR.out.ext HXw.out).ext HX4.out).ext (ext_new _ _)).ext hx |>.at_ 0 _ rfl
      have r1 := (((HR.out.ext HXw.out).ext HX4.out).ext (ext_new _ _)).ext hx |>.at_ 1 _ rfl
      have f0 := ((((HF.out.ext HXw.out).ext HX4.out).ext (ext_new _ _)).ext hx).2 0
      have f1 := ((((HF.out.ext HXw.out).ext HX4.out).ext (ext_new _ _)).ext hx).2 1
      have HXX := hide (Ext.trans (Ext.trans (Ext.trans (Ext.trans HX.out HXw.out) HX4.out) (ext_new _ _)) hx)
      clear hx h h0 h3 hd
      go_wp2_with fail
      refine bodyPost_ret (v := .tuple #[.agg #[.int .i64 (atV 0 g x y alt), .int .i64 (atV 1 g x y alt)], .int .i64 (atV 2 g x y alt), .int .i64 0]) (by simp [results, Try.results11, go_sem, r0, r1]) rfl ⟨ret_at ?_ ?_ ?_ ?_, ?_⟩
      · unfold atP; rw [if_pos HQ.out]
      · unfold atP; rw [if_pos HQ.out]
      · unfold atP; rw [if_pos HQ.out]
      · exact HQ.out.symm
      · exact Below.setCell (Below.setCell HXX.out (p := ⟨w0.heap.size + 1 + 1, 0, none⟩) (by simp; omega) _) (p := ⟨w0.heap.size + 1 + 1, 1, none⟩) (by simp; omega) _
end Go.Proofs.Ytfgeoeipnidfhaa
