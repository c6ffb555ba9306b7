/- The reference's forecast: a part at a place and an altitude. -/
import Derived.Test.YtfgeoeipnidfhaaRpl
namespace Go.Proofs.Ytfgeoeipnidfhaa
open Go.RowKit Go.Base Wg

/-- The state of the reference's loops: the argument, the values of the layers, those of the rows. -/
structure InS (w0 wq : World) (gb ab rb : Nat) (G A R : List Value) : Prop where
  g : Bx wq gb G
  a : Bx wq ab A
  r : Bx wq rb R
  fa : Free wq ab
  fr : Free wq rb
  bel : Below w0.heap.size w0 wq
  n1 : gb ≠ ab
  n2 : gb ≠ rb
  n3 : ab ≠ rb
  l1 : w0.heap.size ≤ ab
  l2 : w0.heap.size ≤ rb
theorem InS.ext {w0 wq w' : World} {gb ab rb : Nat} {G A R : List Value} (h : InS w0 wq gb ab rb G A R) (hx : Ext wq w') : InS w0 w' gb ab rb G A R :=
  ⟨h.g.ext hx, h.a.ext hx, h.r.ext hx, h.fa.ext hx, h.fr.ext hx, below_ext h.bel hx h.bel.size, h.n1, h.n2, h.n3, h.l1, h.l2⟩
theorem InS.setR {w0 wq : World} {gb ab rb : Nat} {G A R : List Value} (h : InS w0 wq gb ab rb G A R) (j : Nat) (v : Value) : InS w0 (wq.setCell ⟨rb, j, none⟩ v) gb ab rb G A (R.set j v) :=
  ⟨h.g.upd (Upd.set _ _ _ _) h.n2, h.a.upd (Upd.set _ _ _ _) h.n3, h.r.set j v, h.fa.upd (Upd.set _ _ _ _), h.fr.upd (Upd.set _ _ _ _), h.bel.setCell h.l2 _, h.n1, h.n2, h.n3, h.l1, h.l2⟩
theorem InS.setA {w0 wq : World} {gb ab rb : Nat} {G A R : List Value} (h : InS w0 wq gb ab rb G A R) (j : Nat) (v : Value) : InS w0 (wq.setCell ⟨ab, j, none⟩ v) gb ab rb G (A.set j v) R :=
  ⟨h.g.upd (Upd.set _ _ _ _) h.n1, h.a.set j v, h.r.upd (Upd.set _ _ _ _) (fun e => h.n3 e.symm), h.fa.upd (Upd.set _ _ _ _), h.fr.upd (Upd.set _ _ _ _), h.bel.setCell h.l1 _, h.n1, h.n2, h.n3, h.l1, h.l2⟩
structure OuS (w0 wq : World) (gb ab : Nat) (G A : List Value) : Prop where
  g : Bx wq gb G
  a : Bx wq ab A
  fa : Free wq ab
  bel : Below w0.heap.size w0 wq
  n1 : gb ≠ ab
  l1 : w0.heap.size ≤ ab
theorem OuS.ext {w0 wq w' : World} {gb ab : Nat} {G A : List Value} (h : OuS w0 wq gb ab G A) (hx : Ext wq w') : OuS w0 w' gb ab G A :=
  ⟨h.g.ext hx, h.a.ext hx, h.fa.ext hx, below_ext h.bel hx h.bel.size, h.n1, h.l1⟩
theorem OuS.row {w0 wq : World} {gb ab : Nat} {G A : List Value} (h : OuS w0 wq gb ab G A) (C : Array Value) (ty : TypeId) : InS w0 (wq.alloc (.cells C ty)) gb ab wq.heap.size G A C.toList :=
  ⟨h.g.ext (ext_new _ _), h.a.ext (ext_new _ _), Bx.at_new _ _ _ _ rfl, h.fa.ext (ext_new _ _), Free.new _ _ _ _ rfl, below_ext h.bel (ext_new _ _) h.bel.size, h.n1, Nat.ne_of_lt h.g.lt, Nat.ne_of_lt h.a.lt, h.l1, h.bel.size⟩
theorem InS.out {w0 wq : World} {gb ab rb : Nat} {G A R : List Value} (h : InS w0 wq gb ab rb G A R) : OuS w0 wq gb ab G A := ⟨h.g, h.a, h.fa, h.bel, h.n1, h.l1⟩
/-- Two cells, of which the first n are filled. -/
def two (F : Nat → Int) (n : Nat) : List Value := [.int .i64 (if 0 < n then F 0 else 0), .int .i64 (if 1 < n then F 1 else 0)]
theorem two_set (F : Nat → Int) (n : Nat) (hn : n ≤ 1) (v : Value) (j : Nat) (hj : j = n) : ((two F n).set j v).set j (.int .i64 (F n)) = two F (n + 1) := by
  subst hj
  rcases (show j = 0 ∨ j = 1 by omega) with rfl | rfl <;> rfl
theorem two_set1 (F : Nat → Int) (n : Nat) (hn : n ≤ 1) : (two F n).set n (.int .i64 (F n)) = two F (n + 1) := by
  rcases (show n = 0 ∨ n = 1 by omega) with rfl | rfl <;> rfl
theorem two_set2 (F : Nat → Int) (n : Nat) (hn : n ≤ 1) {v : Int} (hv : v = F n) : (two F n).set n (.int .i64 v) = two F (n + 1) := by rw [hv]; exact two_set1 F n hn
theorem two_at (F : Nat → Int) (n : Nat) (hn : n ≤ 1) : ∃ v, (two F n)[n]? = some v := by
  rcases (show n = 0 ∨ n = 1 by omega) with rfl | rfl <;> exact ⟨_, rfl⟩
theorem two_set_at (F : Nat → Int) (n : Nat) (hn : n ≤ 1) (v : Value) : ((two F n).set n v)[n]? = some v := by
  rcases (show n = 0 ∨ n = 1 by omega) with rfl | rfl <;> rfl

def ElemC (p : Nat) (pt : Int) (g : Grid) (A1 A2 A3 : Option Addr) (c1 c2 c3 : Nat) : Prop := ∀ (x y z : Int) (w : World), GIn w g A1 c1 A2 c2 A3 c3 → 0 ≤ x → x ≤ g.nx - 1 → 0 ≤ y → y ≤ g.ny - 1 → 0 ≤ z → z ≤ (g.alts.length : Int) - 1 →
    Calls Try.prog 44 #[gv g A1 c1 A2 c2 A3 c3, .int .i64 pt, .int .i64 x, .int .i64 y, .int .i64 z] w fun e w' => e = .returned (.int .i64 (vx p g x y z)) ∧ Ext w w'
theorem bl_pos {f c u v : Int} (h : f ≠ 0) : bl f c u v = u + (v - u) * f / c := by unfold bl; rw [if_neg h]


set_option maxRecDepth 100000 in
set_option maxHeartbeats 2000000 in
theorem rvalue_any (p : Nat) (pt : Int) (g : Grid) (A1 A2 A3 : Option Addr) (c1 c2 c3 : Nat) (x y alt : Int) (w0 : World) (h : GIn w0 g A1 c1 A2 c2 A3 c3) (ho : Ok g) (he : ElemC p pt g A1 A2 A3 c1 c2 c3)
    (hx1 : -2000000 ≤ x) (hx2 : x ≤ 2000000) (hy1 : -2000000 ≤ y) (hy2 : y ≤ 2000000) (ha1 : -200000 ≤ alt) (ha2 : alt ≤ 6000000) :
    Calls Try.prog 37 #[gv g A1 c1 A2 c2 A3 c3, .int .i64 pt, .agg #[.int .i64 x, .int .i64 y], .int .i64 alt] w0 fun e w' => e = .returned (.int .i64 (atV p g x y alt)) ∧ Ext w0 w' := by
  have HG := hide h
  have HO := hide ho
  have HE := hide he
  have HPX := hide (rplace_any g.cx g.cell g.nx x ho.cx1 ho.cx2 ho.cell1 ho.cell2 ho.nx1 ho.nx2 hx1 hx2)
  have HPY := hide (rplace_any g.cy g.cell g.ny y ho.cy1 ho.cy2 ho.cell1 ho.cell2 ho.ny1 ho.ny2 hy1 hy2)
  have HPZ := hide (fun w (hr : Rd w 1 A1 g.alts.length c1 (g.alts.map iv)) => rlevel_any g.alts A1 c1 alt w hr ho.al1 ho.al2 ho.ord ho.alts ha1 ha2)
  have SX := hide (side_sp ho.nx1 ho.cell1 ho.cell2 (x := x) (c := g.cx))
  have SY := hide (side_sp ho.ny1 ho.cell1 ho.cell2 (x := y) (c := g.cy))
  have SZ := hide (lev_sp ho alt)
  unfold atV
  clear h he ha1 ha2 hx1 hx2 hy1 hy2
  generalize sideI g.cx g.cell g.nx x = xi at *
  generalize sideF g.cx g.cell g.nx x = xf at *
  generalize sideI g.cy g.cell g.ny y = yi at *
  generalize sideF g.cy g.cell g.ny y = yf at *
  generalize levF g.alts alt = zf at *
  generalize levC g.alts alt = zc at *
  generalize ((levI g.alts alt : Nat) : Int) = zi at *
  have b1 := SX.out.i0
  have b2 := SX.out.i1
  have b3 := SY.out.i0
  have b4 := SY.out.i1
  have b5 := SZ.out.i0
  have b6 := SZ.out.i1
  have b7 := ho.nx2
  have b8 := ho.ny2
  have b9 := ho.al2
  clear ho
  go_enter Try.func37, Try.ntmps37
  go_wp2_with fail
  refine (HPX.out _).mono ?_
  rintro e w' ⟨rfl, rfl⟩
  go_wp2_with fail
  refine (HPY.out _).mono ?_
  rintro e w' ⟨rfl, rfl⟩
  go_wp2_with fail
  refine (HPZ.out _ ((HG.out.ext (ext_new _ _)).ext (ext_new _ _)).a).mono ?_
  rintro e w' ⟨rfl, nz, rfl⟩
  clear HPX HPY HPZ
  go_wp2_with fail
  go_loopw [17] (fun i wr => ∃ k : Nat, k ≤ 2 ∧ i = .int .i64 k ∧ Hid (k = 2 → zf ≠ 0) ∧ Hid (OuS w0 wr w0.heap.size (w0.heap.size + 1 + 1) (gcells g A1 c1 A2 c2 A3 c3) (two (fun j => layV p g xi xf g.cell yi yf g.cell (zi + j)) k))) (fun i _ => 2 - (intOf i).toNat)
  case atStart =>
    exact ⟨0, by omega, rfl, hide (fun h => by omega), hide ⟨(((Bx.at_new w0 _ _ _ rfl).ext (ext_new _ _)).ext (below_drewN (Below.refl _ _) nz)).ext (ext_new _ _), Bx.at_new _ _ _ _ (by simp), Free.new _ _ _ _ (by simp), Ext.trans (Ext.trans (Ext.trans (ext_new _ _) (ext_new _ _)) (below_drewN (Below.refl _ _) nz)) (ext_new _ _), by omega, by omega⟩⟩
  case round =>
    obtain ⟨k, hk, rfl, HK, HS⟩ := hrel
    obtain ⟨wo, rfl⟩ : ∃ wo : World, wo = wr := ⟨_, rfl⟩
    by_cases hcont : k < 2 ∧ (k = 0 ∨ 0 < zf)
    · obtain ⟨hk2, hkz⟩ := hcont
      have hk1 : k ≤ 1 := by omega
      have hz0 : 0 ≤ zi + (k : Int) := by omega
      have hz1 : zi + (k : Int) ≤ (g.alts.length : Int) - 1 := by
        rcases (show k = 0 ∨ k = 1 by omega) with h | h
        · omega
        · have := SZ.out.s (by omega); omega
      have HC := hide hkz
      clear hkz hk
      cases hkb : ((k : Int) == 0)
      · have hzf : decide (0 < zf) = true := by have := HC.out; simp at hkb; simp; omega
        go_wp2_with fail
        clear hkb hzf
        have HK2 := hide (show k + 1 = 2 → zf ≠ 0 by have := HC.out; omega)
        have hab := HS.out.a.lt
        have HSI := hide (HS.out.row #[.int .i64 0, .int .i64 0] 80)
        go_loopw [19] (fun iv wr => ∃ i : Nat, i ≤ 2 ∧ iv = .int .i64 i ∧ Hid (i = 2 → yf ≠ 0) ∧ Hid (InS w0 wr w0.heap.size (w0.heap.size + 1 + 1) wo.heap.size (gcells g A1 c1 A2 c2 A3 c3) (two (fun j => layV p g xi xf g.cell yi yf g.cell (zi + j)) k) (two (fun j => rowV p g xi xf g.cell (yi + j) (zi + k)) i))) (fun i _ => 2 - (intOf i).toNat)
        case atStart => exact ⟨0, by omega, rfl, hide (fun h => by omega), HSI⟩
        case round =>
        clear HS HSI
        obtain ⟨i, hi, rfl, HI, HS⟩ := hrel
        by_cases hcont2 : i < 2 ∧ (i = 0 ∨ 0 < yf)
        · obtain ⟨hi2, hiy⟩ := hcont2
          have hi1 : i ≤ 1 := by omega
          have hy0 : 0 ≤ yi + (i : Int) := by omega
          have hy1 : yi + (i : Int) ≤ g.ny - 1 := by
            rcases (show i = 0 ∨ i = 1 by omega) with h | h
            · omega
            · have := SY.out.s (by omega); omega
          have HI2 := hide (show i + 1 = 2 → yf ≠ 0 by omega)
          have HC2 := hide hiy
          clear hiy hi HI
          have hyfb : i ≠ 0 → decide (0 < yf) = true := fun h => by have := HC2.out; simp; omega
          cases hib : ((i : Int) == 0)
          · have hyfc := hyfb (by simpa using hib)
            clear hyfb
            have hs := HS.out
            obtain ⟨vr, hvr⟩ := two_at (fun j : Nat => rowV p g xi xf g.cell (yi + (j : Int)) (zi + k)) i hi1
            have r1 := hs.r.at_ i _ hvr
            have f1 := hs.fr.2 i
            have g0 := hs.g.at_ 0 _ rfl
            have g1 := hs.g.at_ 1 _ rfl
            have g2 := hs.g.at_ 2 _ rfl
            have g3 := hs.g.at_ 3 _ rfl
            have g4 := hs.g.at_ 4 _ rfl
            have g5 := hs.g.at_ 5 _ rfl
            have g6 := hs.g.at_ 6 _ rfl
            have g7 := hs.g.at_ 7 _ rfl
            have g8 := hs.g.at_ 8 _ rfl
            clear hs
            go_wp2_with fail
            refine (HE.out _ _ _ _ (HG.out.ext HS.out.bel) b1 b2 hy0 hy1 hz0 hz1).mono ?_
            rintro e w1 ⟨rfl, hx⟩
            have HS := hide (HS.out.ext hx)
            clear hx r1 f1 g0 g1 g2 g3 g4 g5 g6 g7 g8
            have hs := HS.out
            have r1 := hs.r.at_ i _ hvr
            have f1 := hs.fr.2 i
            have g0 := hs.g.at_ 0 _ rfl
            have g1 := hs.g.at_ 1 _ rfl
            have g2 := hs.g.at_ 2 _ rfl
            have g3 := hs.g.at_ 3 _ rfl
            have g4 := hs.g.at_ 4 _ rfl
            have g5 := hs.g.at_ 5 _ rfl
            have g6 := hs.g.at_ 6 _ rfl
            have g7 := hs.g.at_ 7 _ rfl
            have g8 := hs.g.at_ 8 _ rfl
            clear hs
            by_cases hf : xf = 0
            · have hfb : decide (0 < xf) = false := by simp; omega
              have HR := hide (show vx p g xi (yi + i) (zi + k) = rowV p g xi xf g.cell (yi + i) (zi + k) by unfold rowV; rw [hf, bl_zero])
              clear hf
              have HS2 := hide (HS.out.setR i (.int .i64 (vx p g xi (yi + i) (zi + k))))
              go_wp2_with fail
              go_roundw
              case rel => exact ⟨i + 1, by omega, by go_num, HI2, hide (by have := HS2.out; rw [two_set2 (fun j : Nat => rowV p g xi xf g.cell (yi + (j : Int)) (zi + k)) i hi1 HR.out] at this; exact this)⟩
              case measure => simp [intOf]; omega
            · have HX0 := hide hf
              have hfb : decide (0 < xf) = true := by have := SX.out.f0; simp; omega
              have HU := hide (vx_in p HO.out b1 b2 hy0 hy1 hz0 hz1)
              have HV2 := hide (vx_in p HO.out (show 0 ≤ xi + 1 by omega) (SX.out.s hf) hy0 hy1 hz0 hz1)
              have HR := hide (show vx p g xi (yi + i) (zi + k) + (vx p g (xi + 1) (yi + i) (zi + k) - vx p g xi (yi + i) (zi + k)) * xf / g.cell = rowV p g xi xf g.cell (yi + i) (zi + k) by unfold rowV; rw [bl_pos hf])
              clear hf
              have HS := hide (HS.out.setR i (.int .i64 (vx p g xi (yi + i) (zi + k))))
              go_wp2_with fail
              clear r1 f1 g0 g1 g2 g3 g4 g5 g6 g7 g8
              refine wp_region_tail (w0 := _) (V := [fun vv _ => vv = .int .i64 i, fun vv _ => vv = .int .i64 i, fun vv _ => vv = .pointer (some ⟨wo.heap.size, i, none⟩), fun vv _ => vv = .int .i64 (vx p g xi (yi + i) (zi + k)), fun vv _ => vv = .agg #[.int .i64 g.cx, .int .i64 g.cy, .int .i64 g.cell, .int .i64 g.nx, .int .i64 g.ny, .slice A1 g.alts.length c1, .slice A2 g.winds.length c2, .slice A3 g.devs.length c3, .int .i64 g.err], fun vv _ => vv = .int .i64 pt, fun vv _ => vv = .int .i64 xi, fun vv _ => vv = .int .i64 (xi + 1), fun vv _ => vv = .int .i64 yi, fun vv _ => vv = .int .i64 i, fun vv _ => vv = .int .i64 (yi + i), fun vv _ => vv = .int .i64 zi, fun vv _ => vv = .int .i64 k, fun vv _ => vv = .int .i64 (zi + k), fun vv _ => vv = .int .i64 (vx p g (xi + 1) (yi + i) (zi + k)), fun vv _ => vv = .int .i64 xf, fun vv _ => vv = .pointer (some ⟨w0.heap.size, 2, none⟩), fun vv _ => vv = .int .i64 g.cell, fun vv _ => vv = .int .i64 (rowV p g xi xf g.cell (yi + i) (zi + k)), fun vv _ => vv = .pointer (some ⟨wo.heap.size, i, none⟩)]) 20 [] (by kernel_rfl) (by exact rfl) (by exact rfl) (by kernel_rfl) (by kernel_rfl) (stable_nth ?_) ?_ ?_
              · exact ⟨Stable.eq _, Stable.eq _, Stable.eq _, Stable.eq _, Stable.eq _, Stable.eq _, Stable.eq _, Stable.eq _, Stable.eq _, Stable.eq _, Stable.eq _, Stable.eq _, Stable.eq _, Stable.eq _, Stable.eq _, Stable.eq _, Stable.eq _, Stable.eq _, Stable.eq _, Stable.eq _, trivial⟩
              · intro U A hA
                simp only [List.take_succ_cons, List.take_zero, putFrom, Act.put, List.setIfInBounds_toArray, List.set_cons_zero, List.set_cons_succ] at hA
                subst hA
                refine ⟨?_, ?_, ?_, ?_, ?_, ?_, ?_, ?_, ?_, ?_, ?_, ?_, ?_, ?_, ?_, ?_, ?_, ?_, ?_, ?_, trivial⟩
                all_goals
                  intro w hx hp
                  dsimp only [Preds, nth, pick] at hp
                  try simp only [hp]
                  have hs := HS.out.ext hx
                  have r1 := hs.r.at_ i _ (two_set_at _ i hi1 _)
                  have g0 := hs.g.at_ 0 _ rfl
                  have g1 := hs.g.at_ 1 _ rfl
                  have g2 := hs.g.at_ 2 _ rfl
                  have g3 := hs.g.at_ 3 _ rfl
                  have g4 := hs.g.at_ 4 _ rfl
                  have g5 := hs.g.at_ 5 _ rfl
                  have g6 := hs.g.at_ 6 _ rfl
                  have g7 := hs.g.at_ 7 _ rfl
                  have g8 := hs.g.at_ 8 _ rfl
                  clear hs
                case refine_15 =>
                  go_wp2_with fail
                  refine (HE.out _ _ _ _ (HG.out.ext (HS.out.ext hx).bel) (by omega) (SX.out.s HX0.out) hy0 hy1 hz0 hz1).mono ?_
                  rintro e w3 ⟨rfl, hx3⟩
                  go_wp2_with fail
                  exact ⟨_, rfl, rfl, hx3, fun h => absurd h (by decide)⟩
                case refine_19 =>
                  go_wp2_with fail
                  refine (between_any _ _ _ _ HU.out.1 HU.out.2 HV2.out.1 HV2.out.2 SX.out.f0 SX.out.f1 SX.out.c0 SX.out.c1 _).mono ?_
                  rintro e w3 ⟨rfl, rfl⟩
                  rw [HR.out]
                  go_wp2_with fail
                  exact ⟨_, rfl, rfl, Below.refl _ _, fun h => absurd h (by decide)⟩
                all_goals
                  go_wp2
                  exact ⟨_, rfl, rfl, Below.refl _ _, fun h => absurd h (by decide)⟩
              · intro U A w hA hx h hd
                simp only [List.take_succ_cons, List.take_zero, putFrom, Act.put, List.setIfInBounds_toArray, List.set_cons_zero, List.set_cons_succ] at hA
                subst hA
                simp only [List.drop_succ_cons, List.drop_zero]
                have h18 : U 18 = .int .i64 (rowV p g xi xf g.cell (yi + i) (zi + k)) := h 18 (by decide)
                have h19 : U 19 = .pointer (some ⟨wo.heap.size, i, none⟩) := h 19 (by decide)
                simp only [h18, h19]
                have hs := HS.out.ext hx
                have r1 := hs.r.at_ i _ (two_set_at _ i hi1 _)
                have f1 := hs.fr.2 i
                have HS2 := hide (hs.setR i (.int .i64 (rowV p g xi xf g.cell (yi + i) (zi + k))))
                clear hs hx h hd h18 h19
                go_wp2_with fail
                go_roundw
                case rel => exact ⟨i + 1, by omega, by go_num, HI2, hide (by have := HS2.out; rw [two_set (fun j : Nat => rowV p g xi xf g.cell (yi + (j : Int)) (zi + k)) i hi1 _ i rfl] at this; exact this)⟩
                case measure => simp [intOf]; omega
          · clear hyfb
            have hs := HS.out
            obtain ⟨vr, hvr⟩ := two_at (fun j : Nat => rowV p g xi xf g.cell (yi + (j : Int)) (zi + k)) i hi1
            have r1 := hs.r.at_ i _ hvr
            have f1 := hs.fr.2 i
            have g0 := hs.g.at_ 0 _ rfl
            have g1 := hs.g.at_ 1 _ rfl
            have g2 := hs.g.at_ 2 _ rfl
            have g3 := hs.g.at_ 3 _ rfl
            have g4 := hs.g.at_ 4 _ rfl
            have g5 := hs.g.at_ 5 _ rfl
            have g6 := hs.g.at_ 6 _ rfl
            have g7 := hs.g.at_ 7 _ rfl
            have g8 := hs.g.at_ 8 _ rfl
            clear hs
            go_wp2_with fail
            refine (HE.out _ _ _ _ (HG.out.ext HS.out.bel) b1 b2 hy0 hy1 hz0 hz1).mono ?_
            rintro e w1 ⟨rfl, hx⟩
            have HS := hide (HS.out.ext hx)
            clear hx r1 f1 g0 g1 g2 g3 g4 g5 g6 g7 g8
            have hs := HS.out
            have r1 := hs.r.at_ i _ hvr
            have f1 := hs.fr.2 i
            have g0 := hs.g.at_ 0 _ rfl
            have g1 := hs.g.at_ 1 _ rfl
            have g2 := hs.g.at_ 2 _ rfl
            have g3 := hs.g.at_ 3 _ rfl
            have g4 := hs.g.at_ 4 _ rfl
            have g5 := hs.g.at_ 5 _ rfl
            have g6 := hs.g.at_ 6 _ rfl
            have g7 := hs.g.at_ 7 _ rfl
            have g8 := hs.g.at_ 8 _ rfl
            clear hs
            by_cases hf : xf = 0
            · have hfb : decide (0 < xf) = false := by simp; omega
              have HR := hide (show vx p g xi (yi + i) (zi + k) = rowV p g xi xf g.cell (yi + i) (zi + k) by unfold rowV; rw [hf, bl_zero])
              clear hf
              have HS2 := hide (HS.out.setR i (.int .i64 (vx p g xi (yi + i) (zi + k))))
              go_wp2_with fail
              go_roundw
              case rel => exact ⟨i + 1, by omega, by go_num, HI2, hide (by have := HS2.out; rw [two_set2 (fun j : Nat => rowV p g xi xf g.cell (yi + (j : Int)) (zi + k)) i hi1 HR.out] at this; exact this)⟩
              case measure => simp [intOf]; omega
            · have HX0 := hide hf
              have hfb : decide (0 < xf) = true := by have := SX.out.f0; simp; omega
              have HU := hide (vx_in p HO.out b1 b2 hy0 hy1 hz0 hz1)
              have HV2 := hide (vx_in p HO.out (show 0 ≤ xi + 1 by omega) (SX.out.s hf) hy0 hy1 hz0 hz1)
              have HR := hide (show vx p g xi (yi + i) (zi + k) + (vx p g (xi + 1) (yi + i) (zi + k) - vx p g xi (yi + i) (zi + k)) * xf / g.cell = rowV p g xi xf g.cell (yi + i) (zi + k) by unfold rowV; rw [bl_pos hf])
              clear hf
              have HS := hide (HS.out.setR i (.int .i64 (vx p g xi (yi + i) (zi + k))))
              go_wp2_with fail
              clear r1 f1 g0 g1 g2 g3 g4 g5 g6 g7 g8
              refine wp_region_tail (w0 := _) (V := [fun vv _ => vv = .int .i64 i, fun vv _ => vv = .int .i64 i, fun vv _ => vv = .pointer (some ⟨wo.heap.size, i, none⟩), fun vv _ => vv = .int .i64 (vx p g xi (yi + i) (zi + k)), fun vv _ => vv = .agg #[.int .i64 g.cx, .int .i64 g.cy, .int .i64 g.cell, .int .i64 g.nx, .int .i64 g.ny, .slice A1 g.alts.length c1, .slice A2 g.winds.length c2, .slice A3 g.devs.length c3, .int .i64 g.err], fun vv _ => vv = .int .i64 pt, fun vv _ => vv = .int .i64 xi, fun vv _ => vv = .int .i64 (xi + 1), fun vv _ => vv = .int .i64 yi, fun vv _ => vv = .int .i64 i, fun vv _ => vv = .int .i64 (yi + i), fun vv _ => vv = .int .i64 zi, fun vv _ => vv = .int .i64 k, fun vv _ => vv = .int .i64 (zi + k), fun vv _ => vv = .int .i64 (vx p g (xi + 1) (yi + i) (zi + k)), fun vv _ => vv = .int .i64 xf, fun vv _ => vv = .pointer (some ⟨w0.heap.size, 2, none⟩), fun vv _ => vv = .int .i64 g.cell, fun vv _ => vv = .int .i64 (rowV p g xi xf g.cell (yi + i) (zi + k)), fun vv _ => vv = .pointer (some ⟨wo.heap.size, i, none⟩)]) 20 [] (by kernel_rfl) (by exact rfl) (by exact rfl) (by kernel_rfl) (by kernel_rfl) (stable_nth ?_) ?_ ?_
              · exact ⟨Stable.eq _, Stable.eq _, Stable.eq _, Stable.eq _, Stable.eq _, Stable.eq _, Stable.eq _, Stable.eq _, Stable.eq _, Stable.eq _, Stable.eq _, Stable.eq _, Stable.eq _, Stable.eq _, Stable.eq _, Stable.eq _, Stable.eq _, Stable.eq _, Stable.eq _, Stable.eq _, trivial⟩
              · intro U A hA
                simp only [List.take_succ_cons, List.take_zero, putFrom, Act.put, List.setIfInBounds_toArray, List.set_cons_zero, List.set_cons_succ] at hA
                subst hA
                refine ⟨?_, ?_, ?_, ?_, ?_, ?_, ?_, ?_, ?_, ?_, ?_, ?_, ?_, ?_, ?_, ?_, ?_, ?_, ?_, ?_, trivial⟩
                all_goals
                  intro w hx hp
                  dsimp only [Preds, nth, pick] at hp
                  try simp only [hp]
                  have hs := HS.out.ext hx
                  have r1 := hs.r.at_ i _ (two_set_at _ i hi1 _)
                  have g0 := hs.g.at_ 0 _ rfl
                  have g1 := hs.g.at_ 1 _ rfl
                  have g2 := hs.g.at_ 2 _ rfl
                  have g3 := hs.g.at_ 3 _ rfl
                  have g4 := hs.g.at_ 4 _ rfl
                  have g5 := hs.g.at_ 5 _ rfl
                  have g6 := hs.g.at_ 6 _ rfl
                  have g7 := hs.g.at_ 7 _ rfl
                  have g8 := hs.g.at_ 8 _ rfl
                  clear hs
                case refine_15 =>
                  go_wp2_with fail
                  refine (HE.out _ _ _ _ (HG.out.ext (HS.out.ext hx).bel) (by omega) (SX.out.s HX0.out) hy0 hy1 hz0 hz1).mono ?_
                  rintro e w3 ⟨rfl, hx3⟩
                  go_wp2_with fail
                  exact ⟨_, rfl, rfl, hx3, fun h => absurd h (by decide)⟩
                case refine_19 =>
                  go_wp2_with fail
                  refine (between_any _ _ _ _ HU.out.1 HU.out.2 HV2.out.1 HV2.out.2 SX.out.f0 SX.out.f1 SX.out.c0 SX.out.c1 _).mono ?_
                  rintro e w3 ⟨rfl, rfl⟩
                  rw [HR.out]
                  go_wp2_with fail
                  exact ⟨_, rfl, rfl, Below.refl _ _, fun h => absurd h (by decide)⟩
                all_goals
                  go_wp2
                  exact ⟨_, rfl, rfl, Below.refl _ _, fun h => absurd h (by decide)⟩
              · intro U A w hA hx h hd
                simp only [List.take_succ_cons, List.take_zero, putFrom, Act.put, List.setIfInBounds_toArray, List.set_cons_zero, List.set_cons_succ] at hA
                subst hA
                simp only [List.drop_succ_cons, List.drop_zero]
                have h18 : U 18 = .int .i64 (rowV p g xi xf g.cell (yi + i) (zi + k)) := h 18 (by decide)
                have h19 : U 19 = .pointer (some ⟨wo.heap.size, i, none⟩) := h 19 (by decide)
                simp only [h18, h19]
                have hs := HS.out.ext hx
                have r1 := hs.r.at_ i _ (two_set_at _ i hi1 _)
                have f1 := hs.fr.2 i
                have HS2 := hide (hs.setR i (.int .i64 (rowV p g xi xf g.cell (yi + i) (zi + k))))
                clear hs hx h hd h18 h19
                go_wp2_with fail
                go_roundw
                case rel => exact ⟨i + 1, by omega, by go_num, HI2, hide (by have := HS2.out; rw [two_set (fun j : Nat => rowV p g xi xf g.cell (yi + (j : Int)) (zi + k)) i hi1 _ i rfl] at this; exact this)⟩
                case measure => simp [intOf]; omega
        · have hi3 : i = 2 ∨ (i = 1 ∧ yf = 0) := by have := SY.out.f0; omega
          have h0i : 0 < i := by omega
          have hs := HS.out
          have r0 : wr.cell? ⟨wo.heap.size, 0, none⟩ = some (.int .i64 (rowV p g xi xf g.cell yi (zi + k))) := by
            have := hs.r.at_ 0 _ rfl
            rw [if_pos h0i] at this
            rw [this]; simp
          obtain ⟨va, hva⟩ := two_at (fun j : Nat => layV p g xi xf g.cell yi yf g.cell (zi + (j : Int))) k hk1
          have a1 := hs.a.at_ k _ hva
          have f1 := hs.fa.2 k
          have g2 := hs.g.at_ 2 _ rfl
          clear hs
          rcases hi3 with hi3 | ⟨hi3, hy0⟩
          · have hyf : yf ≠ 0 := HI.out hi3
            have r1 : wr.cell? ⟨wo.heap.size, 1, none⟩ = some (.int .i64 (rowV p g xi xf g.cell (yi + 1) (zi + k))) := by
              have := HS.out.r.at_ 1 _ rfl
              rw [if_pos (by omega)] at this
              rw [this]; simp
            have hyb : decide (0 < yf) = true := by have := SY.out.f0; simp; omega
            have hib : ¬ i < 2 := by omega
            have HU := hide (rowV_in p HO.out SX.out b3 b4 hz0 hz1)
            have HV := hide (rowV_in p HO.out SX.out (show 0 ≤ yi + 1 by omega) (SY.out.s hyf) hz0 hz1)
            have HR := hide (show rowV p g xi xf g.cell yi (zi + k) + (rowV p g xi xf g.cell (yi + 1) (zi + k) - rowV p g xi xf g.cell yi (zi + k)) * yf / g.cell = layV p g xi xf g.cell yi yf g.cell (zi + k) by unfold layV; rw [bl_pos hyf])
            have HS2 := hide ((HS.out.setA k (.int .i64 (rowV p g xi xf g.cell yi (zi + k)))).setA k (.int .i64 (layV p g xi xf g.cell yi yf g.cell (zi + k))))
            clear hyf hi3 h0i
            go_wp2_with fail
            refine (between_any _ _ _ _ HU.out.1 HU.out.2 HV.out.1 HV.out.2 SY.out.f0 SY.out.f1 SY.out.c0 SY.out.c1 _).mono ?_
            rintro e w3 ⟨rfl, rfl⟩
            rw [HR.out]
            go_wp2_with fail
            go_roundw
            case rel => exact ⟨k + 1, by omega, by go_num, HK2, hide (by have := HS2.out.out; rw [two_set (fun j : Nat => layV p g xi xf g.cell yi yf g.cell (zi + (j : Int))) k hk1 _ k rfl] at this; exact this)⟩
            case measure => simp [intOf]; omega
          · have hyb : decide (0 < yf) = false := by rw [hy0]; rfl
            have hib : ((i : Int) == 0) = false := by simp; omega
            have hi2 : i < 2 := by omega
            have HR := hide (show rowV p g xi xf g.cell yi (zi + k) = layV p g xi xf g.cell yi yf g.cell (zi + k) by unfold layV; rw [hy0, bl_zero])
            have HS2 := hide (HS.out.setA k (.int .i64 (rowV p g xi xf g.cell yi (zi + k))))
            clear hy0 hi3 h0i
            go_wp2_with fail
            go_roundw
            case rel => exact ⟨k + 1, by omega, by go_num, HK2, hide (by have := HS2.out.out; rw [two_set2 (fun j : Nat => layV p g xi xf g.cell yi yf g.cell (zi + (j : Int))) k hk1 HR.out] at this; exact this)⟩
            case measure => simp [intOf]; omega
      · go_wp2_with fail
        clear hkb
        have HK2 := hide (show k + 1 = 2 → zf ≠ 0 by have := HC.out; omega)
        have hab := HS.out.a.lt
        have HSI := hide (HS.out.row #[.int .i64 0, .int .i64 0] 80)
        go_loopw [19] (fun iv wr => ∃ i : Nat, i ≤ 2 ∧ iv = .int .i64 i ∧ Hid (i = 2 → yf ≠ 0) ∧ Hid (InS w0 wr w0.heap.size (w0.heap.size + 1 + 1) wo.heap.size (gcells g A1 c1 A2 c2 A3 c3) (two (fun j => layV p g xi xf g.cell yi yf g.cell (zi + j)) k) (two (fun j => rowV p g xi xf g.cell (yi + j) (zi + k)) i))) (fun i _ => 2 - (intOf i).toNat)
        case atStart => exact ⟨0, by omega, rfl, hide (fun h => by omega), HSI⟩
        case round =>
        clear HS HSI
        obtain ⟨i, hi, rfl, HI, HS⟩ := hrel
        by_cases hcont2 : i < 2 ∧ (i = 0 ∨ 0 < yf)
        · obtain ⟨hi2, hiy⟩ := hcont2
          have hi1 : i ≤ 1 := by omega
          have hy0 : 0 ≤ yi + (i : Int) := by omega
          have hy1 : yi + (i : Int) ≤ g.ny - 1 := by
            rcases (show i = 0 ∨ i = 1 by omega) with h | h
            · omega
            · have := SY.out.s (by omega); omega
          have HI2 := hide (show i + 1 = 2 → yf ≠ 0 by omega)
          have HC2 := hide hiy
          clear hiy hi HI
          have hyfb : i ≠ 0 → decide (0 < yf) = true := fun h => by have := HC2.out; simp; omega
          cases hib : ((i : Int) == 0)
          · have hyfc := hyfb (by simpa using hib)
            clear hyfb
            have hs := HS.out
            obtain ⟨vr, hvr⟩ := two_at (fun j : Nat => rowV p g xi xf g.cell (yi + (j : Int)) (zi + k)) i hi1
            have r1 := hs.r.at_ i _ hvr
            have f1 := hs.fr.2 i
            have g0 := hs.g.at_ 0 _ rfl
            have g1 := hs.g.at_ 1 _ rfl
            have g2 := hs.g.at_ 2 _ rfl
            have g3 := hs.g.at_ 3 _ rfl
            have g4 := hs.g.at_ 4 _ rfl
            have g5 := hs.g.at_ 5 _ rfl
            have g6 := hs.g.at_ 6 _ rfl
            have g7 := hs.g.at_ 7 _ rfl
            have g8 := hs.g.at_ 8 _ rfl
            clear hs
            go_wp2_with fail
            refine (HE.out _ _ _ _ (HG.out.ext HS.out.bel) b1 b2 hy0 hy1 hz0 hz1).mono ?_
            rintro e w1 ⟨rfl, hx⟩
            have HS := hide (HS.out.ext hx)
            clear hx r1 f1 g0 g1 g2 g3 g4 g5 g6 g7 g8
            have hs := HS.out
            have r1 := hs.r.at_ i _ hvr
            have f1 := hs.fr.2 i
            have g0 := hs.g.at_ 0 _ rfl
            have g1 := hs.g.at_ 1 _ rfl
            have g2 := hs.g.at_ 2 _ rfl
            have g3 := hs.g.at_ 3 _ rfl
            have g4 := hs.g.at_ 4 _ rfl
            have g5 := hs.g.at_ 5 _ rfl
            have g6 := hs.g.at_ 6 _ rfl
            have g7 := hs.g.at_ 7 _ rfl
            have g8 := hs.g.at_ 8 _ rfl
            clear hs
            by_cases hf : xf = 0
            · have hfb : decide (0 < xf) = false := by simp; omega
              have HR := hide (show vx p g xi (yi + i) (zi + k) = rowV p g xi xf g.cell (yi + i) (zi + k) by unfold rowV; rw [hf, bl_zero])
              clear hf
              have HS2 := hide (HS.out.setR i (.int .i64 (vx p g xi (yi + i) (zi + k))))
              go_wp2_with fail
              go_roundw
              case rel => exact ⟨i + 1, by omega, by go_num, HI2, hide (by have := HS2.out; rw [two_set2 (fun j : Nat => rowV p g xi xf g.cell (yi + (j : Int)) (zi + k)) i hi1 HR.out] at this; exact this)⟩
              case measure => simp [intOf]; omega
            · have HX0 := hide hf
              have hfb : decide (0 < xf) = true := by have := SX.out.f0; simp; omega
              have HU := hide (vx_in p HO.out b1 b2 hy0 hy1 hz0 hz1)
              have HV2 := hide (vx_in p HO.out (show 0 ≤ xi + 1 by omega) (SX.out.s hf) hy0 hy1 hz0 hz1)
              have HR := hide (show vx p g xi (yi + i) (zi + k) + (vx p g (xi + 1) (yi + i) (zi + k) - vx p g xi (yi + i) (zi + k)) * xf / g.cell = rowV p g xi xf g.cell (yi + i) (zi + k) by unfold rowV; rw [bl_pos hf])
              clear hf
              have HS := hide (HS.out.setR i (.int .i64 (vx p g xi (yi + i) (zi + k))))
              go_wp2_with fail
              clear r1 f1 g0 g1 g2 g3 g4 g5 g6 g7 g8
              refine wp_region_tail (w0 := _) (V := [fun vv _ => vv = .int .i64 i, fun vv _ => vv = .int .i64 i, fun vv _ => vv = .pointer (some ⟨wo.heap.size, i, none⟩), fun vv _ => vv = .int .i64 (vx p g xi (yi + i) (zi + k)), fun vv _ => vv = .agg #[.int .i64 g.cx, .int .i64 g.cy, .int .i64 g.cell, .int .i64 g.nx, .int .i64 g.ny, .slice A1 g.alts.length c1, .slice A2 g.winds.length c2, .slice A3 g.devs.length c3, .int .i64 g.err], fun vv _ => vv = .int .i64 pt, fun vv _ => vv = .int .i64 xi, fun vv _ => vv = .int .i64 (xi + 1), fun vv _ => vv = .int .i64 yi, fun vv _ => vv = .int .i64 i, fun vv _ => vv = .int .i64 (yi + i), fun vv _ => vv = .int .i64 zi, fun vv _ => vv = .int .i64 k, fun vv _ => vv = .int .i64 (zi + k), fun vv _ => vv = .int .i64 (vx p g (xi + 1) (yi + i) (zi + k)), fun vv _ => vv = .int .i64 xf, fun vv _ => vv = .pointer (some ⟨w0.heap.size, 2, none⟩), fun vv _ => vv = .int .i64 g.cell, fun vv _ => vv = .int .i64 (rowV p g xi xf g.cell (yi + i) (zi + k)), fun vv _ => vv = .pointer (some ⟨wo.heap.size, i, none⟩)]) 20 [] (by kernel_rfl) (by exact rfl) (by exact rfl) (by kernel_rfl) (by kernel_rfl) (stable_nth ?_) ?_ ?_
              · exact ⟨Stable.eq _, Stable.eq _, Stable.eq _, Stable.eq _, Stable.eq _, Stable.eq _, Stable.eq _, Stable.eq _, Stable.eq _, Stable.eq _, Stable.eq _, Stable.eq _, Stable.eq _, Stable.eq _, Stable.eq _, Stable.eq _, Stable.eq _, Stable.eq _, Stable.eq _, Stable.eq _, trivial⟩
              · intro U A hA
                simp only [List.take_succ_cons, List.take_zero, putFrom, Act.put, List.setIfInBounds_toArray, List.set_cons_zero, List.set_cons_succ] at hA
                subst hA
                refine ⟨?_, ?_, ?_, ?_, ?_, ?_, ?_, ?_, ?_, ?_, ?_, ?_, ?_, ?_, ?_, ?_, ?_, ?_, ?_, ?_, trivial⟩
                all_goals
                  intro w hx hp
                  dsimp only [Preds, nth, pick] at hp
                  try simp only [hp]
                  have hs := HS.out.ext hx
                  have r1 := hs.r.at_ i _ (two_set_at _ i hi1 _)
                  have g0 := hs.g.at_ 0 _ rfl
                  have g1 := hs.g.at_ 1 _ rfl
                  have g2 := hs.g.at_ 2 _ rfl
                  have g3 := hs.g.at_ 3 _ rfl
                  have g4 := hs.g.at_ 4 _ rfl
                  have g5 := hs.g.at_ 5 _ rfl
                  have g6 := hs.g.at_ 6 _ rfl
                  have g7 := hs.g.at_ 7 _ rfl
                  have g8 := hs.g.at_ 8 _ rfl
                  clear hs
                case refine_15 =>
                  go_wp2_with fail
                  refine (HE.out _ _ _ _ (HG.out.ext (HS.out.ext hx).bel) (by omega) (SX.out.s HX0.out) hy0 hy1 hz0 hz1).mono ?_
                  rintro e w3 ⟨rfl, hx3⟩
                  go_wp2_with fail
                  exact ⟨_, rfl, rfl, hx3, fun h => absurd h (by decide)⟩
                case refine_19 =>
                  go_wp2_with fail
                  refine (between_any _ _ _ _ HU.out.1 HU.out.2 HV2.out.1 HV2.out.2 SX.out.f0 SX.out.f1 SX.out.c0 SX.out.c1 _).mono ?_
                  rintro e w3 ⟨rfl, rfl⟩
                  rw [HR.out]
                  go_wp2_with fail
                  exact ⟨_, rfl, rfl, Below.refl _ _, fun h => absurd h (by decide)⟩
                all_goals
                  go_wp2
                  exact ⟨_, rfl, rfl, Below.refl _ _, fun h => absurd h (by decide)⟩
              · intro U A w hA hx h hd
                simp only [List.take_succ_cons, List.take_zero, putFrom, Act.put, List.setIfInBounds_toArray, List.set_cons_zero, List.set_cons_succ] at hA
                subst hA
                simp only [List.drop_succ_cons, List.drop_zero]
                have h18 : U 18 = .int .i64 (rowV p g xi xf g.cell (yi + i) (zi + k)) := h 18 (by decide)
                have h19 : U 19 = .pointer (some ⟨wo.heap.size, i, none⟩) := h 19 (by decide)
                simp only [h18, h19]
                have hs := HS.out.ext hx
                have r1 := hs.r.at_ i _ (two_set_at _ i hi1 _)
                have f1 := hs.fr.2 i
                have HS2 := hide (hs.setR i (.int .i64 (rowV p g xi xf g.cell (yi + i) (zi + k))))
                clear hs hx h hd h18 h19
                go_wp2_with fail
                go_roundw
                case rel => exact ⟨i + 1, by omega, by go_num, HI2, hide (by have := HS2.out; rw [two_set (fun j : Nat => rowV p g xi xf g.cell (yi + (j : Int)) (zi + k)) i hi1 _ i rfl] at this; exact this)⟩
                case measure => simp [intOf]; omega
          · clear hyfb
            have hs := HS.out
            obtain ⟨vr, hvr⟩ := two_at (fun j : Nat => rowV p g xi xf g.cell (yi + (j : Int)) (zi + k)) i hi1
            have r1 := hs.r.at_ i _ hvr
            have f1 := hs.fr.2 i
            have g0 := hs.g.at_ 0 _ rfl
            have g1 := hs.g.at_ 1 _ rfl
            have g2 := hs.g.at_ 2 _ rfl
            have g3 := hs.g.at_ 3 _ rfl
            have g4 := hs.g.at_ 4 _ rfl
            have g5 := hs.g.at_ 5 _ rfl
            have g6 := hs.g.at_ 6 _ rfl
            have g7 := hs.g.at_ 7 _ rfl
            have g8 := hs.g.at_ 8 _ rfl
            clear hs
            go_wp2_with fail
            refine (HE.out _ _ _ _ (HG.out.ext HS.out.bel) b1 b2 hy0 hy1 hz0 hz1).mono ?_
            rintro e w1 ⟨rfl, hx⟩
            have HS := hide (HS.out.ext hx)
            clear hx r1 f1 g0 g1 g2 g3 g4 g5 g6 g7 g8
            have hs := HS.out
            have r1 := hs.r.at_ i _ hvr
            have f1 := hs.fr.2 i
            have g0 := hs.g.at_ 0 _ rfl
            have g1 := hs.g.at_ 1 _ rfl
            have g2 := hs.g.at_ 2 _ rfl
            have g3 := hs.g.at_ 3 _ rfl
            have g4 := hs.g.at_ 4 _ rfl
            have g5 := hs.g.at_ 5 _ rfl
            have g6 := hs.g.at_ 6 _ rfl
            have g7 := hs.g.at_ 7 _ rfl
            have g8 := hs.g.at_ 8 _ rfl
            clear hs
            by_cases hf : xf = 0
            · have hfb : decide (0 < xf) = false := by simp; omega
              have HR := hide (show vx p g xi (yi + i) (zi + k) = rowV p g xi xf g.cell (yi + i) (zi + k) by unfold rowV; rw [hf, bl_zero])
              clear hf
              have HS2 := hide (HS.out.setR i (.int .i64 (vx p g xi (yi + i) (zi + k))))
              go_wp2_with fail
              go_roundw
              case rel => exact ⟨i + 1, by omega, by go_num, HI2, hide (by have := HS2.out; rw [two_set2 (fun j : Nat => rowV p g xi xf g.cell (yi + (j : Int)) (zi + k)) i hi1 HR.out] at this; exact this)⟩
              case measure => simp [intOf]; omega
            · have HX0 := hide hf
              have hfb : decide (0 < xf) = true := by have := SX.out.f0; simp; omega
              have HU := hide (vx_in p HO.out b1 b2 hy0 hy1 hz0 hz1)
              have HV2 := hide (vx_in p HO.out (show 0 ≤ xi + 1 by omega) (SX.out.s hf) hy0 hy1 hz0 hz1)
              have HR := hide (show vx p g xi (yi + i) (zi + k) + (vx p g (xi + 1) (yi + i) (zi + k) - vx p g xi (yi + i) (zi + k)) * xf / g.cell = rowV p g xi xf g.cell (yi + i) (zi + k) by unfold rowV; rw [bl_pos hf])
              clear hf
              have HS := hide (HS.out.setR i (.int .i64 (vx p g xi (yi + i) (zi + k))))
              go_wp2_with fail
              clear r1 f1 g0 g1 g2 g3 g4 g5 g6 g7 g8
              refine wp_region_tail (w0 := _) (V := [fun vv _ => vv = .int .i64 i, fun vv _ => vv = .int .i64 i, fun vv _ => vv = .pointer (some ⟨wo.heap.size, i, none⟩), fun vv _ => vv = .int .i64 (vx p g xi (yi + i) (zi + k)), fun vv _ => vv = .agg #[.int .i64 g.cx, .int .i64 g.cy, .int .i64 g.cell, .int .i64 g.nx, .int .i64 g.ny, .slice A1 g.alts.length c1, .slice A2 g.winds.length c2, .slice A3 g.devs.length c3, .int .i64 g.err], fun vv _ => vv = .int .i64 pt, fun vv _ => vv = .int .i64 xi, fun vv _ => vv = .int .i64 (xi + 1), fun vv _ => vv = .int .i64 yi, fun vv _ => vv = .int .i64 i, fun vv _ => vv = .int .i64 (yi + i), fun vv _ => vv = .int .i64 zi, fun vv _ => vv = .int .i64 k, fun vv _ => vv = .int .i64 (zi + k), fun vv _ => vv = .int .i64 (vx p g (xi + 1) (yi + i) (zi + k)), fun vv _ => vv = .int .i64 xf, fun vv _ => vv = .pointer (some ⟨w0.heap.size, 2, none⟩), fun vv _ => vv = .int .i64 g.cell, fun vv _ => vv = .int .i64 (rowV p g xi xf g.cell (yi + i) (zi + k)), fun vv _ => vv = .pointer (some ⟨wo.heap.size, i, none⟩)]) 20 [] (by kernel_rfl) (by exact rfl) (by exact rfl) (by kernel_rfl) (by kernel_rfl) (stable_nth ?_) ?_ ?_
              · exact ⟨Stable.eq _, Stable.eq _, Stable.eq _, Stable.eq _, Stable.eq _, Stable.eq _, Stable.eq _, Stable.eq _, Stable.eq _, Stable.eq _, Stable.eq _, Stable.eq _, Stable.eq _, Stable.eq _, Stable.eq _, Stable.eq _, Stable.eq _, Stable.eq _, Stable.eq _, Stable.eq _, trivial⟩
              · intro U A hA
                simp only [List.take_succ_cons, List.take_zero, putFrom, Act.put, List.setIfInBounds_toArray, List.set_cons_zero, List.set_cons_succ] at hA
                subst hA
                refine ⟨?_, ?_, ?_, ?_, ?_, ?_, ?_, ?_, ?_, ?_, ?_, ?_, ?_, ?_, ?_, ?_, ?_, ?_, ?_, ?_, trivial⟩
                all_goals
                  intro w hx hp
                  dsimp only [Preds, nth, pick] at hp
                  try simp only [hp]
                  have hs := HS.out.ext hx
                  have r1 := hs.r.at_ i _ (two_set_at _ i hi1 _)
                  have g0 := hs.g.at_ 0 _ rfl
                  have g1 := hs.g.at_ 1 _ rfl
                  have g2 := hs.g.at_ 2 _ rfl
                  have g3 := hs.g.at_ 3 _ rfl
                  have g4 := hs.g.at_ 4 _ rfl
                  have g5 := hs.g.at_ 5 _ rfl
                  have g6 := hs.g.at_ 6 _ rfl
                  have g7 := hs.g.at_ 7 _ rfl
                  have g8 := hs.g.at_ 8 _ rfl
                  clear hs
                case refine_15 =>
                  go_wp2_with fail
                  refine (HE.out _ _ _ _ (HG.out.ext (HS.out.ext hx).bel) (by omega) (SX.out.s HX0.out) hy0 hy1 hz0 hz1).mono ?_
                  rintro e w3 ⟨rfl, hx3⟩
                  go_wp2_with fail
                  exact ⟨_, rfl, rfl, hx3, fun h => absurd h (by decide)⟩
                case refine_19 =>
                  go_wp2_with fail
                  refine (between_any _ _ _ _ HU.out.1 HU.out.2 HV2.out.1 HV2.out.2 SX.out.f0 SX.out.f1 SX.out.c0 SX.out.c1 _).mono ?_
                  rintro e w3 ⟨rfl, rfl⟩
                  rw [HR.out]
                  go_wp2_with fail
                  exact ⟨_, rfl, rfl, Below.refl _ _, fun h => absurd h (by decide)⟩
                all_goals
                  go_wp2
                  exact ⟨_, rfl, rfl, Below.refl _ _, fun h => absurd h (by decide)⟩
              · intro U A w hA hx h hd
                simp only [List.take_succ_cons, List.take_zero, putFrom, Act.put, List.setIfInBounds_toArray, List.set_cons_zero, List.set_cons_succ] at hA
                subst hA
                simp only [List.drop_succ_cons, List.drop_zero]
                have h18 : U 18 = .int .i64 (rowV p g xi xf g.cell (yi + i) (zi + k)) := h 18 (by decide)
                have h19 : U 19 = .pointer (some ⟨wo.heap.size, i, none⟩) := h 19 (by decide)
                simp only [h18, h19]
                have hs := HS.out.ext hx
                have r1 := hs.r.at_ i _ (two_set_at _ i hi1 _)
                have f1 := hs.fr.2 i
                have HS2 := hide (hs.setR i (.int .i64 (rowV p g xi xf g.cell (yi + i) (zi + k))))
                clear hs hx h hd h18 h19
                go_wp2_with fail
                go_roundw
                case rel => exact ⟨i + 1, by omega, by go_num, HI2, hide (by have := HS2.out; rw [two_set (fun j : Nat => rowV p g xi xf g.cell (yi + (j : Int)) (zi + k)) i hi1 _ i rfl] at this; exact this)⟩
                case measure => simp [intOf]; omega
        · have hi3 : i = 2 ∨ (i = 1 ∧ yf = 0) := by have := SY.out.f0; omega
          have h0i : 0 < i := by omega
          have hs := HS.out
          have r0 : wr.cell? ⟨wo.heap.size, 0, none⟩ = some (.int .i64 (rowV p g xi xf g.cell yi (zi + k))) := by
            have := hs.r.at_ 0 _ rfl
            rw [if_pos h0i] at this
            rw [this]; simp
          obtain ⟨va, hva⟩ := two_at (fun j : Nat => layV p g xi xf g.cell yi yf g.cell (zi + (j : Int))) k hk1
          have a1 := hs.a.at_ k _ hva
          have f1 := hs.fa.2 k
          have g2 := hs.g.at_ 2 _ rfl
          clear hs
          rcases hi3 with hi3 | ⟨hi3, hy0⟩
          · have hyf : yf ≠ 0 := HI.out hi3
            have r1 : wr.cell? ⟨wo.heap.size, 1, none⟩ = some (.int .i64 (rowV p g xi xf g.cell (yi + 1) (zi + k))) := by
              have := HS.out.r.at_ 1 _ rfl
              rw [if_pos (by omega)] at this
              rw [this]; simp
            have hyb : decide (0 < yf) = true := by have := SY.out.f0; simp; omega
            have hib : ¬ i < 2 := by omega
            have HU := hide (rowV_in p HO.out SX.out b3 b4 hz0 hz1)
            have HV := hide (rowV_in p HO.out SX.out (show 0 ≤ yi + 1 by omega) (SY.out.s hyf) hz0 hz1)
            have HR := hide (show rowV p g xi xf g.cell yi (zi + k) + (rowV p g xi xf g.cell (yi + 1) (zi + k) - rowV p g xi xf g.cell yi (zi + k)) * yf / g.cell = layV p g xi xf g.cell yi yf g.cell (zi + k) by unfold layV; rw [bl_pos hyf])
            have HS2 := hide ((HS.out.setA k (.int .i64 (rowV p g xi xf g.cell yi (zi + k)))).setA k (.int .i64 (layV p g xi xf g.cell yi yf g.cell (zi + k))))
            clear hyf hi3 h0i
            go_wp2_with fail
            refine (between_any _ _ _ _ HU.out.1 HU.out.2 HV.out.1 HV.out.2 SY.out.f0 SY.out.f1 SY.out.c0 SY.out.c1 _).mono ?_
            rintro e w3 ⟨rfl, rfl⟩
            rw [HR.out]
            go_wp2_with fail
            go_roundw
            case rel => exact ⟨k + 1, by omega, by go_num, HK2, hide (by have := HS2.out.out; rw [two_set (fun j : Nat => layV p g xi xf g.cell yi yf g.cell (zi + (j : Int))) k hk1 _ k rfl] at this; exact this)⟩
            case measure => simp [intOf]; omega
          · have hyb : decide (0 < yf) = false := by rw [hy0]; rfl
            have hib : ((i : Int) == 0) = false := by simp; omega
            have hi2 : i < 2 := by omega
            have HR := hide (show rowV p g xi xf g.cell yi (zi + k) = layV p g xi xf g.cell yi yf g.cell (zi + k) by unfold layV; rw [hy0, bl_zero])
            have HS2 := hide (HS.out.setA k (.int .i64 (rowV p g xi xf g.cell yi (zi + k))))
            clear hy0 hi3 h0i
            go_wp2_with fail
            go_roundw
            case rel => exact ⟨k + 1, by omega, by go_num, HK2, hide (by have := HS2.out.out; rw [two_set2 (fun j : Nat => layV p g xi xf g.cell yi yf g.cell (zi + (j : Int))) k hk1 HR.out] at this; exact this)⟩
            case measure => simp [intOf]; omega
    · have hk3 : k = 2 ∨ (k = 1 ∧ zf = 0) := by have := SZ.out.f0; omega
      have h0k : 0 < k := by omega
      have a0 : wo.cell? ⟨w0.heap.size + 1 + 1, 0, none⟩ = some (.int .i64 (layV p g xi xf g.cell yi yf g.cell zi)) := by
        have := HS.out.a.at_ 0 _ rfl
        rw [if_pos h0k] at this
        rw [this]; simp
      rcases hk3 with hk3 | ⟨hk3, hz0⟩
      · have hzf : zf ≠ 0 := HK.out hk3
        have a1 : wo.cell? ⟨w0.heap.size + 1 + 1, 1, none⟩ = some (.int .i64 (layV p g xi xf g.cell yi yf g.cell (zi + 1))) := by
          have := HS.out.a.at_ 1 _ rfl
          rw [if_pos (by omega)] at this
          rw [this]; simp
        have hzb : decide (0 < zf) = true := by have := SZ.out.f0; simp; omega
        have hkb : ¬ k < 2 := by omega
        have HU := hide (layV_in p HO.out SX.out SY.out b5 b6)
        have HV := hide (layV_in p HO.out SX.out SY.out (show 0 ≤ zi + 1 by omega) (SZ.out.s hzf))
        have HR := hide (show layV p g xi xf g.cell yi yf g.cell zi + (layV p g xi xf g.cell yi yf g.cell (zi + 1) - layV p g xi xf g.cell yi yf g.cell zi) * zf / zc = allV p g xi xf g.cell yi yf g.cell zi zf zc by unfold allV; rw [bl_pos hzf])
        clear hzf hk3 h0k hcont
        go_wp2_with fail
        refine (between_any _ _ _ _ HU.out.1 HU.out.2 HV.out.1 HV.out.2 SZ.out.f0 SZ.out.f1 SZ.out.c0 SZ.out.c1 _).mono ?_
        rintro e w3 ⟨rfl, rfl⟩
        rw [HR.out]
        go_wp2_with fail
        go_ret
        exact ⟨rfl, HS.out.bel⟩
      · have hzb : decide (0 < zf) = false := by rw [hz0]; rfl
        have hkb : ((k : Int) == 0) = false := by simp; omega
        have hk2 : k < 2 := by omega
        have HR := hide (show layV p g xi xf g.cell yi yf g.cell zi = allV p g xi xf g.cell yi yf g.cell zi zf zc by unfold allV; rw [hz0, bl_zero])
        clear hz0 hk3 h0k hcont
        go_wp2_with fail
        go_ret
        exact ⟨ret_int HR.out, HS.out.bel⟩
end Go.Proofs.Ytfgeoeipnidfhaa
