/- The statement on places outside the lattice. -/
import Derived.Test.YtfgeoeipnidfhaaLawAt
import Derived.Test.YtfgeoeipnidfhaaPlainO
namespace Go.Proofs.Ytfgeoeipnidfhaa
open Go.RowKit Go.Base Wg

theorem rd_keep {w w' : World} {c b o : Nat} {l : List Int} (h : Rd w 1 (some ⟨b, o, none⟩) l.length c (l.map iv)) (hx : Ext w w') (k : Nat) (hk : k < l.length) : w'.cell? ⟨b, o + k, none⟩ = some (.int .i64 l[k]) := by
  obtain ⟨b', o', e, _, hc⟩ := rd_cell (h.ext hx) (by omega)
  injection e with e
  injection e with e1 e2
  subst e1 e2
  exact hc k hk
set_option maxRecDepth 100000 in
set_option maxHeartbeats 2000000 in
theorem out_law (g : Grid) (A1 A2 A3 : Option Addr) (c1 c2 c3 : Nat) (x y alt : Int) (w : World) (h : GIn w g A1 c1 A2 c2 A3 c3) :
    Calls Try.prog 7 #[gv g A1 c1 A2 c2 A3 c3, .agg #[.int .i64 x, .int .i64 y], .int .i64 alt] w fun e w' => e = .returned (.bool true) ∧ Ext w w' := by
  have hew := eq_wind
  have HH := hide h
  clear h
  go_enter Try.func7, Try.ntmps7
  go_wp2_with fail
  have HM := hide (show MS w _ [(w.heap.size, gcells g A1 c1 A2 c2 A3 c3), (w.heap.size + 1, [.int .i64 x, .int .i64 y])] from ((MS.nil w).new #[.int .i64 g.cx, .int .i64 g.cy, .int .i64 g.cell, .int .i64 g.nx, .int .i64 g.ny, .slice A1 g.alts.length c1, .slice A2 g.winds.length c2, .slice A3 g.devs.length c3, .int .i64 g.err] 27 _ rfl).new #[.int .i64 x, .int .i64 y] 23 (w.heap.size + 1) (by simp))
  refine (awake_any _).mono ?_
  rintro e w1 ⟨rfl, hx⟩
  have HM := hide (HM.out.ext hx)
  clear hx
  have g0 := HM.out.cell 0 0 rfl rfl
  have g1 := HM.out.cell 0 1 rfl rfl
  have g2 := HM.out.cell 0 2 rfl rfl
  have g3 := HM.out.cell 0 3 rfl rfl
  have g4 := HM.out.cell 0 4 rfl rfl
  have g5 := HM.out.cell 0 5 rfl rfl
  have g6 := HM.out.cell 0 6 rfl rfl
  have g7 := HM.out.cell 0 7 rfl rfl
  have g8 := HM.out.cell 0 8 rfl rfl
  have p0 := HM.out.cell 1 0 rfl rfl
  have p1 := HM.out.cell 1 1 rfl rfl
  go_wp2_with fail
  refine (at_any g A1 A2 A3 c1 c2 c3 x y alt _ (HH.out.ext HM.out.bel)).mono ?_
  rintro e w2 ⟨rfl, hx⟩
  obtain ⟨u0, eu0⟩ : ∃ v, atP 0 g x y alt = v := ⟨_, rfl⟩
  obtain ⟨u1, eu1⟩ : ∃ v, atP 1 g x y alt = v := ⟨_, rfl⟩
  obtain ⟨u2, eu2⟩ : ∃ v, atP 2 g x y alt = v := ⟨_, rfl⟩
  obtain ⟨er, eer⟩ : ∃ v, atE g x y alt = v := ⟨_, rfl⟩
  rw [eu0, eu1, eu2, eer]
  have E0 := hide eu0
  have E1 := hide eu1
  have E2 := hide eu2
  have EE := hide eer
  clear eu0 eu1 eu2 eer
  have HM := hide ((HM.out.ext hx).new #[.int .i64 u0, .int .i64 u1] 30 _ rfl)
  clear hx
  clear g0 g1 g2 g3 g4 g5 g6 g7 g8 p0 p1
  have q0 := HM.out.cell 2 0 rfl rfl
  have q1 := HM.out.cell 2 1 rfl rfl
  have s2 := HM.out.lt 2 rfl
  cases te : (er != 0)
  rotate_left
  · have hne : er ≠ 0 := by simpa using te
    obtain rfl : u0 = 0 := by rw [← E0.out]; unfold atP; rw [if_neg (by rw [EE.out]; exact hne)]
    obtain rfl : u1 = 0 := by rw [← E1.out]; unfold atP; rw [if_neg (by rw [EE.out]; exact hne)]
    obtain rfl : u2 = 0 := by rw [← E2.out]; unfold atP; rw [if_neg (by rw [EE.out]; exact hne)]
    clear hne
    go_wp2_with fail
    go_ret
    exact ⟨rfl, HM.out.bel⟩
  have H0 := hide (show atE g x y alt = 0 by rw [EE.out]; simpa using te)
  have HK := hide (atE_ok H0.out)
  have HO := hide (ok_of HK.out.1)
  obtain ⟨ab, ao, rfl, hbw, _⟩ := rd_cell HH.out.a HO.out.al1
  have HB := hide hbw
  clear hbw
  have o1 := HO.out.nx1
  have o2 := HO.out.nx2
  have o3 := HO.out.ny1
  have o4 := HO.out.ny2
  have o5 := HO.out.cx1
  have o6 := HO.out.cx2
  have o7 := HO.out.cy1
  have o8 := HO.out.cy2
  have o9 := HO.out.cell1
  have oa := HO.out.cell2
  have hm1 : 0 ≤ (g.nx - 1) * g.cell := Int.mul_nonneg (by omega) (by omega)
  have hm2 : (g.nx - 1) * g.cell ≤ 15 * 2000000 := Int.mul_le_mul (by omega) oa (by omega) (by omega)
  have hm3 : 0 ≤ (g.ny - 1) * g.cell := Int.mul_nonneg (by omega) (by omega)
  have hm4 : (g.ny - 1) * g.cell ≤ 15 * 2000000 := Int.mul_le_mul (by omega) oa (by omega) (by omega)
  obtain ⟨a1, f1⟩ : ∃ v, (if x < g.cx then g.cx else x) = v := ⟨_, rfl⟩
  obtain ⟨b1, f2⟩ : ∃ v, (if g.cx + (g.nx - 1) * g.cell < a1 then g.cx + (g.nx - 1) * g.cell else a1) = v := ⟨_, rfl⟩
  obtain ⟨a2, f3⟩ : ∃ v, (if y < g.cy then g.cy else y) = v := ⟨_, rfl⟩
  obtain ⟨b2, f4⟩ : ∃ v, (if g.cy + (g.ny - 1) * g.cell < a2 then g.cy + (g.ny - 1) * g.cell else a2) = v := ⟨_, rfl⟩
  have X1 := hide (show clamp x g.cx (g.cx + (g.nx - 1) * g.cell) = b1 by unfold clamp; omega)
  have X2 := hide (show clamp y g.cy (g.cy + (g.ny - 1) * g.cell) = b2 by unfold clamp; omega)
  have g0 := HM.out.cell 0 0 rfl rfl
  have g1 := HM.out.cell 0 1 rfl rfl
  have g2 := HM.out.cell 0 2 rfl rfl
  have g3 := HM.out.cell 0 3 rfl rfl
  have g4 := HM.out.cell 0 4 rfl rfl
  have g5 := HM.out.cell 0 5 rfl rfl
  have g6 := HM.out.cell 0 6 rfl rfl
  have g7 := HM.out.cell 0 7 rfl rfl
  have g8 := HM.out.cell 0 8 rfl rfl
  have p0 := HM.out.cell 1 0 rfl rfl
  have p1 := HM.out.cell 1 1 rfl rfl
  go_wp2_with fail
  have HM := hide (HM.out.new #[.int .i64 b1, .int .i64 b2] 23 (w2.heap.size + 1) (by simp))
  clear f1 f2 f3 f4 hm1 hm2 hm3 hm4 o1 o2 o3 o4 o5 o6 o7 o8 o9 oa
  clear g0 g1 g2 g3 g4 g5 g6 g7 g8 p0 p1 q0 q1
  have al1 := HO.out.al1
  have al2 := HO.out.al2
  obtain ⟨lo, elo⟩ : ∃ v, g.alts[0] = v := ⟨_, rfl⟩
  obtain ⟨hi, ehi⟩ : ∃ v, g.alts[g.alts.length - 1] = v := ⟨_, rfl⟩
  have HLo := hide elo
  have HHi := hide ehi
  clear elo ehi
  obtain ⟨a3, f1⟩ : ∃ v, (if alt < lo then lo else alt) = v := ⟨_, rfl⟩
  obtain ⟨b3, f2⟩ : ∃ v, (if hi < a3 then hi else a3) = v := ⟨_, rfl⟩
  have X3 := hide (show levA g.alts alt = b3 by unfold levA clamp; rw [getD_lt (by omega), getD_lt (by omega), HLo.out, HHi.out]; omega)
  have i1 : IntKind.i64.wrap ((g.alts.length : Int) - 1) = (g.alts.length : Int) - 1 := IntWalk.i64_in _ (by omega)
  have i2 : 0 ≤ (g.alts.length : Int) - 1 := by omega
  have i3 : ((g.alts.length : Int) - 1).toNat = g.alts.length - 1 := by omega
  have i4 : 0 < g.alts.length := by omega
  have i5 : (g.alts.length : Int) - 1 < (g.alts.length : Int) := by omega
  refine wp_region_inv (w0 := _) (V := [fun vv _ => vv = .int .i64 alt, fun vv _ => vv = .pointer (some ⟨w.heap.size, 5, none⟩), fun vv _ => vv = .slice (some ⟨ab, ao, none⟩) g.alts.length c1, fun vv _ => vv = .pointer (some ⟨ab, ao, none⟩), fun vv _ => vv = .int .i64 lo, fun vv _ => vv = .int .i64 a3, fun vv _ => vv = .pointer (some ⟨w.heap.size, 5, none⟩), fun vv _ => vv = .slice (some ⟨ab, ao, none⟩) g.alts.length c1, fun vv _ => vv = .pointer (some ⟨w.heap.size, 5, none⟩), fun vv _ => vv = .slice (some ⟨ab, ao, none⟩) g.alts.length c1, fun vv _ => vv = .int .i64 (g.alts.length : Int), fun vv _ => vv = .int .i64 ((g.alts.length : Int) - 1), fun vv _ => vv = .pointer (some ⟨ab, ao + (g.alts.length - 1), none⟩), fun vv _ => vv = .int .i64 hi, fun vv _ => vv = .int .i64 b3, fun vv _ => vv = .int .i64 b3]) (by kernel_rfl) (by kernel_rfl) (stable_nth ?_) ?_ ?_
  · exact ⟨Stable.eq _, Stable.eq _, Stable.eq _, Stable.eq _, Stable.eq _, Stable.eq _, Stable.eq _, Stable.eq _, Stable.eq _, Stable.eq _, Stable.eq _, Stable.eq _, Stable.eq _, Stable.eq _, Stable.eq _, Stable.eq _, trivial⟩
  · intro U A hA
    simp only [putFrom, Act.put, List.setIfInBounds_toArray, List.set_cons_zero, List.set_cons_succ] at hA
    subst hA
    refine ⟨?_, ?_, ?_, ?_, ?_, ?_, ?_, ?_, ?_, ?_, ?_, ?_, ?_, ?_, ?_, ?_, trivial⟩
    all_goals
      intro w hx hp
      dsimp only [Preds, nth, pick] at hp
      try simp only [hp]
      have g5 := (HM.out.ext hx).cell 0 5 rfl rfl
      have k0 := rd_keep HH.out.a (Ext.trans HM.out.bel hx) 0 al1
      have k1 := rd_keep HH.out.a (Ext.trans HM.out.bel hx) (g.alts.length - 1) (by omega)
      rw [HLo.out, Nat.add_zero] at k0
      rw [HHi.out] at k1
    all_goals
      go_wp2
      exact ⟨_, rfl, rfl, Below.refl _ _⟩
  · intro U A w hA hx h
    simp only [putFrom, Act.put, List.setIfInBounds_toArray, List.set_cons_zero, List.set_cons_succ] at hA
    subst hA
    have h15 : U 15 = .int .i64 b3 := h 15 (by decide)
    simp only [h15]
    have HM := hide (HM.out.ext hx)
    clear hx h h15 i1 i2 i3 i4 i5 f1 f2
    have g0 := HM.out.cell 0 0 rfl rfl
    have g1 := HM.out.cell 0 1 rfl rfl
    have g2 := HM.out.cell 0 2 rfl rfl
    have g3 := HM.out.cell 0 3 rfl rfl
    have g4 := HM.out.cell 0 4 rfl rfl
    have g5 := HM.out.cell 0 5 rfl rfl
    have g6 := HM.out.cell 0 6 rfl rfl
    have g7 := HM.out.cell 0 7 rfl rfl
    have g8 := HM.out.cell 0 8 rfl rfl
    have p0 := HM.out.cell 3 0 rfl rfl
    have p1 := HM.out.cell 3 1 rfl rfl
    go_wp2_with fail
    refine (at_any g (some ⟨ab, ao, none⟩) A2 A3 c1 c2 c3 b1 b2 b3 _ (HH.out.ext HM.out.bel)).mono ?_
    rintro e w3 ⟨rfl, hx⟩
    have HP := hide (out_plain H0.out)
    rw [X1.out, X2.out, X3.out] at HP
    rw [HP.out.1, HP.out.2 0, HP.out.2 1, HP.out.2 2, E0.out, E1.out, E2.out]
    have HM := hide ((HM.out.ext hx).new #[.int .i64 u0, .int .i64 u1] 30 _ rfl)
    clear hx
    clear g0 g1 g2 g3 g4 g5 g6 g7 g8 p0 p1
    have q0 := HM.out.cell 2 0 rfl rfl
    have q1 := HM.out.cell 2 1 rfl rfl
    have s2 := HM.out.lt 2 rfl
    have s4 := HM.out.lt 4 rfl
    have r0 := HM.out.cell 4 0 rfl rfl
    have r1 := HM.out.cell 4 1 rfl rfl
    go_wp2_with fail
    go_ret
    exact ⟨rfl, HM.out.bel⟩
end Go.Proofs.Ytfgeoeipnidfhaa
