/- The closures of the program's forecast at a place. -/
import Derived.Test.YtfgeoeipnidfhaaVal
import Derived.Test.YtfgeoeipnidfhaaHeap
namespace Go.Proofs.Ytfgeoeipnidfhaa
open Go.RowKit Go.Base Wg

abbrev gcells (g : Grid) (A1 : Option Addr) (c1 : Nat) (A2 : Option Addr) (c2 : Nat) (A3 : Option Addr) (c3 : Nat) : List Value :=
  [.int .i64 g.cx, .int .i64 g.cy, .int .i64 g.cell, .int .i64 g.nx, .int .i64 g.ny, .slice A1 g.alts.length c1, .slice A2 g.winds.length c2, .slice A3 g.devs.length c3, .int .i64 g.err]
/-- A part of the forecast at a point of the grid: east, north, deviation. -/
def partV : Nat → Grid → Int → Int
  | 0, g, k => (g.winds.getD k.toNat (0, 0)).1
  | 1, g, k => (g.winds.getD k.toNat (0, 0)).2
  | _, g, k => g.devs.getD k.toNat 0
theorem part_in (p : Nat) {g : Grid} (h : Ok g) {k : Int} (_h0 : 0 ≤ k) (h1 : k < count g) : -4000 ≤ partV p g k ∧ partV p g k ≤ 4000 := by
  have e1 : k.toNat < g.winds.length := by have := h.wl; omega
  have e2 : k.toNat < g.devs.length := by have := h.dl; omega
  have hw := h.wind k.toNat e1
  have hd := h.dev k.toNat e2
  unfold partV
  split
  · simp only [List.getD, List.getElem?_eq_getElem e1, Option.getD_some]; omega
  · simp only [List.getD, List.getElem?_eq_getElem e1, Option.getD_some]; omega
  · simp only [List.getD, List.getElem?_eq_getElem e2, Option.getD_some]; omega
/-- The closure that picks a part. -/
def ofF : Nat → Nat
  | 0 => 33
  | 1 => 34
  | _ => 35

theorem of0_any (g : Grid) (A1 A2 A3 : Option Addr) (c1 c2 c3 gb : Nat) (k : Int) (w : World) (h : Ok g) (hg : GIn w g A1 c1 A2 c2 A3 c3) (hgb : Bx w gb (gcells g A1 c1 A2 c2 A3 c3)) (h0 : 0 ≤ k) (h1 : k < count g) :
    Calls Try.prog 33 #[.int .i64 k, .pointer (some ⟨gb, 0, none⟩)] w fun e w' => e = .returned (.int .i64 (partV 0 g k)) ∧ w = w' := by
  have e1 : k.toNat < g.winds.length := by have := h.wl; omega
  obtain ⟨b, o, rfl, hb, hcell⟩ := rd_pair hg.wd (by omega)
  have hck := (hcell k.toNat e1).1
  have hv : partV 0 g k = (g.winds[k.toNat]).1 := by simp [partV, List.getD, List.getElem?_eq_getElem e1]
  rw [hv]
  clear hv hcell
  have hs := hgb.at_ 6 _ rfl
  have e2 : k < (g.winds.length : Int) := by omega
  go_enter Try.func33, Try.ntmps33
  go_wp2_with fail
  go_ret
  exact ⟨rfl, rfl⟩
theorem of1_any (g : Grid) (A1 A2 A3 : Option Addr) (c1 c2 c3 gb : Nat) (k : Int) (w : World) (h : Ok g) (hg : GIn w g A1 c1 A2 c2 A3 c3) (hgb : Bx w gb (gcells g A1 c1 A2 c2 A3 c3)) (h0 : 0 ≤ k) (h1 : k < count g) :
    Calls Try.prog 34 #[.int .i64 k, .pointer (some ⟨gb, 0, none⟩)] w fun e w' => e = .returned (.int .i64 (partV 1 g k)) ∧ w = w' := by
  have e1 : k.toNat < g.winds.length := by have := h.wl; omega
  obtain ⟨b, o, rfl, hb, hcell⟩ := rd_pair hg.wd (by omega)
  have hck := (hcell k.toNat e1).2
  have hv : partV 1 g k = (g.winds[k.toNat]).2 := by simp [partV, List.getD, List.getElem?_eq_getElem e1]
  rw [hv]
  clear hv hcell
  have hs := hgb.at_ 6 _ rfl
  have e2 : k < (g.winds.length : Int) := by omega
  go_enter Try.func34, Try.ntmps34
  go_wp2_with fail
  go_ret
  exact ⟨rfl, rfl⟩
theorem of2_any (g : Grid) (A1 A2 A3 : Option Addr) (c1 c2 c3 gb : Nat) (k : Int) (w : World) (h : Ok g) (hg : GIn w g A1 c1 A2 c2 A3 c3) (hgb : Bx w gb (gcells g A1 c1 A2 c2 A3 c3)) (h0 : 0 ≤ k) (h1 : k < count g) :
    Calls Try.prog 35 #[.int .i64 k, .pointer (some ⟨gb, 0, none⟩)] w fun e w' => e = .returned (.int .i64 (partV 2 g k)) ∧ w = w' := by
  have e1 : k.toNat < g.devs.length := by have := h.dl; omega
  obtain ⟨b, o, rfl, hb, hcell⟩ := rd_cell hg.d (by omega)
  have hck := hcell k.toNat e1
  have hv : partV 2 g k = g.devs[k.toNat] := by simp [partV, List.getD, List.getElem?_eq_getElem e1]
  rw [hv]
  clear hv hcell
  have hs := hgb.at_ 7 _ rfl
  have e2 : k < (g.devs.length : Int) := by omega
  go_enter Try.func35, Try.ntmps35
  go_wp2_with fail
  go_ret
  exact ⟨rfl, rfl⟩
set_option maxHeartbeats 1000000 in
theorem at_x0 (g : Grid) (A1 A2 A3 : Option Addr) (c1 c2 c3 gb ob yb zb : Nat) (x y z : Int) (w : World) (h : Ok g) (hg : GIn w g A1 c1 A2 c2 A3 c3) (hgb : Bx w gb (gcells g A1 c1 A2 c2 A3 c3))
    (ho : Bx w ob [.func (.func 33) #[] #[.pointer (some ⟨gb, 0, none⟩)]]) (hy : Bx w yb [.int .i64 y]) (hz : Bx w zb [.int .i64 z])
    (x0 : 0 ≤ x) (x1 : x ≤ g.nx - 1) (y0 : 0 ≤ y) (y1 : y ≤ g.ny - 1) (z0 : 0 ≤ z) (z1 : z ≤ (g.alts.length : Int) - 1) :
    Calls Try.prog 31 #[.int .i64 x, .pointer (some ⟨ob, 0, none⟩), .pointer (some ⟨gb, 0, none⟩), .pointer (some ⟨yb, 0, none⟩), .pointer (some ⟨zb, 0, none⟩)] w fun e w' => e = .returned (.int .i64 (partV 0 g (idx g x y z))) ∧ Ext w w' := by
  obtain ⟨-, -, -, -, hi0, hi1⟩ := idx_in h x0 x1 y0 y1 z0 z1
  have HG := hide hg
  have HB := hide hgb
  have HO := hide ho
  have HY := hide hy
  have HZ := hide hz
  clear hg hgb ho hy hz
  go_enter Try.func31, Try.ntmps31
  go_wp2_with fail
  refine wp_region_inv (w0 := w) (V := [fun vv _ => vv = .func (.func 33) #[] #[.pointer (some ⟨gb, 0, none⟩)], fun vv _ => vv = .agg #[.int .i64 g.cx, .int .i64 g.cy, .int .i64 g.cell, .int .i64 g.nx, .int .i64 g.ny, .slice A1 g.alts.length c1, .slice A2 g.winds.length c2, .slice A3 g.devs.length c3, .int .i64 g.err], fun vv _ => vv = .int .i64 x, fun vv _ => vv = .int .i64 y, fun vv _ => vv = .int .i64 z, fun vv _ => vv = .int .i64 (idx g x y z), fun vv _ => vv = .int .i64 (partV 0 g (idx g x y z)), fun vv _ => vv = .int .i64 (partV 0 g (idx g x y z))]) (by kernel_rfl) (by kernel_rfl) (stable_nth ?_) ?_ ?_
  · exact ⟨Stable.eq _, Stable.eq _, Stable.eq _, Stable.eq _, Stable.eq _, Stable.eq _, Stable.eq _, Stable.eq _, trivial⟩
  · intro U A hA
    simp only [putFrom, Act.put, List.setIfInBounds_toArray, List.set_cons_zero, List.set_cons_succ] at hA
    subst hA
    refine ⟨?_, ?_, ?_, ?_, ?_, ?_, ?_, ?_, trivial⟩
    all_goals
      intro w hx hp
      dsimp only [Preds, nth, pick] at hp
      try simp only [hp]
      have k1 := (HO.out.ext hx).one
      have k2 := (HY.out.ext hx).one
      have k3 := (HZ.out.ext hx).one
      have g0 := (HB.out.ext hx).at_ 0 _ rfl
      have g1 := (HB.out.ext hx).at_ 1 _ rfl
      have g2 := (HB.out.ext hx).at_ 2 _ rfl
      have g3 := (HB.out.ext hx).at_ 3 _ rfl
      have g4 := (HB.out.ext hx).at_ 4 _ rfl
      have g5 := (HB.out.ext hx).at_ 5 _ rfl
      have g6 := (HB.out.ext hx).at_ 6 _ rfl
      have g7 := (HB.out.ext hx).at_ 7 _ rfl
      have g8 := (HB.out.ext hx).at_ 8 _ rfl
    case refine_6 =>
      go_wp2_with fail
      refine (index_any g A1 A2 A3 c1 c2 c3 x y z _ h x0 x1 y0 y1 z0 z1).mono ?_
      rintro e w3 ⟨rfl, hx3⟩
      go_wp2_with fail
      exact ⟨_, rfl, rfl, hx3⟩
    case refine_7 =>
      go_wp2_with fail
      refine (of0_any g A1 A2 A3 c1 c2 c3 gb _ _ h (HG.out.ext hx) (HB.out.ext hx) hi0 hi1).mono ?_
      rintro e w3 ⟨rfl, rfl⟩
      go_wp2_with fail
      exact ⟨_, rfl, rfl, Below.refl _ _⟩
    all_goals
      go_wp2
      exact ⟨_, rfl, rfl, Below.refl _ _⟩
  · intro U A w hA hx h
    simp only [putFrom, Act.put, List.setIfInBounds_toArray, List.set_cons_zero, List.set_cons_succ] at hA
    subst hA
    have h7 : U 7 = .int .i64 (partV 0 g (idx g x y z)) := h 7 (by decide)
    simp only [h7]
    go_wp2_with fail
    go_ret
    exact ⟨rfl, hx⟩
set_option maxHeartbeats 1000000 in
theorem at_x1 (g : Grid) (A1 A2 A3 : Option Addr) (c1 c2 c3 gb ob yb zb : Nat) (x y z : Int) (w : World) (h : Ok g) (hg : GIn w g A1 c1 A2 c2 A3 c3) (hgb : Bx w gb (gcells g A1 c1 A2 c2 A3 c3))
    (ho : Bx w ob [.func (.func 34) #[] #[.pointer (some ⟨gb, 0, none⟩)]]) (hy : Bx w yb [.int .i64 y]) (hz : Bx w zb [.int .i64 z])
    (x0 : 0 ≤ x) (x1 : x ≤ g.nx - 1) (y0 : 0 ≤ y) (y1 : y ≤ g.ny - 1) (z0 : 0 ≤ z) (z1 : z ≤ (g.alts.length : Int) - 1) :
    Calls Try.prog 31 #[.int .i64 x, .pointer (some ⟨ob, 0, none⟩), .pointer (some ⟨gb, 0, none⟩), .pointer (some ⟨yb, 0, none⟩), .pointer (some ⟨zb, 0, none⟩)] w fun e w' => e = .returned (.int .i64 (partV 1 g (idx g x y z))) ∧ Ext w w' := by
  obtain ⟨-, -, -, -, hi0, hi1⟩ := idx_in h x0 x1 y0 y1 z0 z1
  have HG := hide hg
  have HB := hide hgb
  have HO := hide ho
  have HY := hide hy
  have HZ := hide hz
  clear hg hgb ho hy hz
  go_enter Try.func31, Try.ntmps31
  go_wp2_with fail
  refine wp_region_inv (w0 := w) (V := [fun vv _ => vv = .func (.func 34) #[] #[.pointer (some ⟨gb, 0, none⟩)], fun vv _ => vv = .agg #[.int .i64 g.cx, .int .i64 g.cy, .int .i64 g.cell, .int .i64 g.nx, .int .i64 g.ny, .slice A1 g.alts.length c1, .slice A2 g.winds.length c2, .slice A3 g.devs.length c3, .int .i64 g.err], fun vv _ => vv = .int .i64 x, fun vv _ => vv = .int .i64 y, fun vv _ => vv = .int .i64 z, fun vv _ => vv = .int .i64 (idx g x y z), fun vv _ => vv = .int .i64 (partV 1 g (idx g x y z)), fun vv _ => vv = .int .i64 (partV 1 g (idx g x y z))]) (by kernel_rfl) (by kernel_rfl) (stable_nth ?_) ?_ ?_
  · exact ⟨Stable.eq _, Stable.eq _, Stable.eq _, Stable.eq _, Stable.eq _, Stable.eq _, Stable.eq _, Stable.eq _, trivial⟩
  · intro U A hA
    simp only [putFrom, Act.put, List.setIfInBounds_toArray, List.set_cons_zero, List.set_cons_succ] at hA
    subst hA
    refine ⟨?_, ?_, ?_, ?_, ?_, ?_, ?_, ?_, trivial⟩
    all_goals
      intro w hx hp
      dsimp only [Preds, nth, pick] at hp
      try simp only [hp]
      have k1 := (HO.out.ext hx).one
      have k2 := (HY.out.ext hx).one
      have k3 := (HZ.out.ext hx).one
      have g0 := (HB.out.ext hx).at_ 0 _ rfl
      have g1 := (HB.out.ext hx).at_ 1 _ rfl
      have g2 := (HB.out.ext hx).at_ 2 _ rfl
      have g3 := (HB.out.ext hx).at_ 3 _ rfl
      have g4 := (HB.out.ext hx).at_ 4 _ rfl
      have g5 := (HB.out.ext hx).at_ 5 _ rfl
      have g6 := (HB.out.ext hx).at_ 6 _ rfl
      have g7 := (HB.out.ext hx).at_ 7 _ rfl
      have g8 := (HB.out.ext hx).at_ 8 _ rfl
    case refine_6 =>
      go_wp2_with fail
      refine (index_any g A1 A2 A3 c1 c2 c3 x y z _ h x0 x1 y0 y1 z0 z1).mono ?_
      rintro e w3 ⟨rfl, hx3⟩
      go_wp2_with fail
      exact ⟨_, rfl, rfl, hx3⟩
    case refine_7 =>
      go_wp2_with fail
      refine (of1_any g A1 A2 A3 c1 c2 c3 gb _ _ h (HG.out.ext hx) (HB.out.ext hx) hi0 hi1).mono ?_
      rintro e w3 ⟨rfl, rfl⟩
      go_wp2_with fail
      exact ⟨_, rfl, rfl, Below.refl _ _⟩
    all_goals
      go_wp2
      exact ⟨_, rfl, rfl, Below.refl _ _⟩
  · intro U A w hA hx h
    simp only [putFrom, Act.put, List.setIfInBounds_toArray, List.set_cons_zero, List.set_cons_succ] at hA
    subst hA
    have h7 : U 7 = .int .i64 (partV 1 g (idx g x y z)) := h 7 (by decide)
    simp only [h7]
    go_wp2_with fail
    go_ret
    exact ⟨rfl, hx⟩
set_option maxHeartbeats 1000000 in
theorem at_x2 (g : Grid) (A1 A2 A3 : Option Addr) (c1 c2 c3 gb ob yb zb : Nat) (x y z : Int) (w : World) (h : Ok g) (hg : GIn w g A1 c1 A2 c2 A3 c3) (hgb : Bx w gb (gcells g A1 c1 A2 c2 A3 c3))
    (ho : Bx w ob [.func (.func 35) #[] #[.pointer (some ⟨gb, 0, none⟩)]]) (hy : Bx w yb [.int .i64 y]) (hz : Bx w zb [.int .i64 z])
    (x0 : 0 ≤ x) (x1 : x ≤ g.nx - 1) (y0 : 0 ≤ y) (y1 : y ≤ g.ny - 1) (z0 : 0 ≤ z) (z1 : z ≤ (g.alts.length : Int) - 1) :
    Calls Try.prog 31 #[.int .i64 x, .pointer (some ⟨ob, 0, none⟩), .pointer (some ⟨gb, 0, none⟩), .pointer (some ⟨yb, 0, none⟩), .pointer (some ⟨zb, 0, none⟩)] w fun e w' => e = .returned (.int .i64 (partV 2 g (idx g x y z))) ∧ Ext w w' := by
  obtain ⟨-, -, -, -, hi0, hi1⟩ := idx_in h x0 x1 y0 y1 z0 z1
  have HG := hide hg
  have HB := hide hgb
  have HO := hide ho
  have HY := hide hy
  have HZ := hide hz
  clear hg hgb ho hy hz
  go_enter Try.func31, Try.ntmps31
  go_wp2_with fail
  refine wp_region_inv (w0 := w) (V := [fun vv _ => vv = .func (.func 35) #[] #[.pointer (some ⟨gb, 0, none⟩)], fun vv _ => vv = .agg #[.int .i64 g.cx, .int .i64 g.cy, .int .i64 g.cell, .int .i64 g.nx, .int .i64 g.ny, .slice A1 g.alts.length c1, .slice A2 g.winds.length c2, .slice A3 g.devs.length c3, .int .i64 g.err], fun vv _ => vv = .int .i64 x, fun vv _ => vv = .int .i64 y, fun vv _ => vv = .int .i64 z, fun vv _ => vv = .int .i64 (idx g x y z), fun vv _ => vv = .int .i64 (partV 2 g (idx g x y z)), fun vv _ => vv = .int .i64 (partV 2 g (idx g x y z))]) (by kernel_rfl) (by kernel_rfl) (stable_nth ?_) ?_ ?_
  · exact ⟨Stable.eq _, Stable.eq _, Stable.eq _, Stable.eq _, Stable.eq _, Stable.eq _, Stable.eq _, Stable.eq _, trivial⟩
  · intro U A hA
    simp only [putFrom, Act.put, List.setIfInBounds_toArray, List.set_cons_zero, List.set_cons_succ] at hA
    subst hA
    refine ⟨?_, ?_, ?_, ?_, ?_, ?_, ?_, ?_, trivial⟩
    all_goals
      intro w hx hp
      dsimp only [Preds, nth, pick] at hp
      try simp only [hp]
      have k1 := (HO.out.ext hx).one
      have k2 := (HY.out.ext hx).one
      have k3 := (HZ.out.ext hx).one
      have g0 := (HB.out.ext hx).at_ 0 _ rfl
      have g1 := (HB.out.ext hx).at_ 1 _ rfl
      have g2 := (HB.out.ext hx).at_ 2 _ rfl
      have g3 := (HB.out.ext hx).at_ 3 _ rfl
      have g4 := (HB.out.ext hx).at_ 4 _ rfl
      have g5 := (HB.out.ext hx).at_ 5 _ rfl
      have g6 := (HB.out.ext hx).at_ 6 _ rfl
      have g7 := (HB.out.ext hx).at_ 7 _ rfl
      have g8 := (HB.out.ext hx).at_ 8 _ rfl
    case refine_6 =>
      go_wp2_with fail
      refine (index_any g A1 A2 A3 c1 c2 c3 x y z _ h x0 x1 y0 y1 z0 z1).mono ?_
      rintro e w3 ⟨rfl, hx3⟩
      go_wp2_with fail
      exact ⟨_, rfl, rfl, hx3⟩
    case refine_7 =>
      go_wp2_with fail
      refine (of2_any g A1 A2 A3 c1 c2 c3 gb _ _ h (HG.out.ext hx) (HB.out.ext hx) hi0 hi1).mono ?_
      rintro e w3 ⟨rfl, rfl⟩
      go_wp2_with fail
      exact ⟨_, rfl, rfl, Below.refl _ _⟩
    all_goals
      go_wp2
      exact ⟨_, rfl, rfl, Below.refl _ _⟩
  · intro U A w hA hx h
    simp only [putFrom, Act.put, List.setIfInBounds_toArray, List.set_cons_zero, List.set_cons_succ] at hA
    subst hA
    have h7 : U 7 = .int .i64 (partV 2 g (idx g x y z)) := h 7 (by decide)
    simp only [h7]
    go_wp2_with fail
    go_ret
    exact ⟨rfl, hx⟩
end Go.Proofs.Ytfgeoeipnidfhaa
