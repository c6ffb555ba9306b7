/- The parts of the reference's forecast: places, levels, the value between two, an element. -/
import Derived.Test.YtfgeoeipnidfhaaAt
namespace Go.Proofs.Ytfgeoeipnidfhaa
open Go.RowKit Go.Base Wg

theorem drew_drew (w : World) (a b : Nat) : Drew w ((w.drewN a).drewN b) := ⟨a + b, by simp [World.drewN, Nat.add_assoc]⟩
theorem ret_int3 {a b c a' b' c' : Int} (h1 : a = a') (h2 : b = b') (h3 : c = c') : Ending.returned (.tuple #[.int .i64 a, .int .i64 b, .int .i64 c]) = .returned (.tuple #[.int .i64 a', .int .i64 b', .int .i64 c']) := by rw [h1, h2, h3]
theorem ret_2 {a b a' b' : Int} (h1 : a = a') (h2 : b = b') : Ending.returned (.tuple #[.int .i64 a, .int .i64 b]) = .returned (.tuple #[.int .i64 a', .int .i64 b']) := by rw [h1, h2]

theorem between_any (u v f c : Int) (hu1 : -4000 ≤ u) (hu2 : u ≤ 4000) (hv1 : -4000 ≤ v) (hv2 : v ≤ 4000) (hf0 : 0 ≤ f) (hf1 : f ≤ c) (hc0 : 0 < c) (hc1 : c ≤ 10000000) (w : World) :
    Calls Try.prog 45 #[.int .i64 u, .int .i64 v, .int .i64 f, .int .i64 c] w fun e w' => e = .returned (.int .i64 (u + (v - u) * f / c)) ∧ w = w' := by
  obtain ⟨m1, m2, m3, m4⟩ := blend_range hf0 hf1 hc0 hc1 hu1 hu2 hv1 hv2
  go_enter Try.func45, Try.ntmps45
  go_wp2_with fail
  refine (rfloor_any _ _ (by unfold i64; omega) (by unfold i64; omega) hc0 (by omega) _).mono ?_
  rintro e w' ⟨rfl, rfl⟩
  go_wp2_with fail
  go_ret
  exact ⟨rfl, rfl⟩

/-- The reference's search for the place of a coordinate. -/
theorem place_step {X cell i : Int} (hc : 1 ≤ cell) (h : (i + 1) * cell ≤ X) : i + 1 ≤ X / cell := (Int.le_ediv_iff_mul_le (by omega)).2 h
theorem place_stop {X cell i : Int} (hc : 1 ≤ cell) (h : X < (i + 1) * cell) : X / cell < i + 1 := (Int.ediv_lt_iff_lt_mul (by omega)).2 h
set_option maxHeartbeats 400000 in
theorem rplace_any (c cell n x : Int) (h1 : -2000000 ≤ c) (h2 : c ≤ 2000000) (h3 : 1 ≤ cell) (h4 : cell ≤ 2000000) (h5 : 1 ≤ n) (h6 : n ≤ 16) (h7 : -2000000 ≤ x) (h8 : x ≤ 2000000) (w : World) :
    Calls Try.prog 39 #[.int .i64 c, .int .i64 cell, .int .i64 n, .int .i64 x] w fun e w' => e = .returned (.tuple #[.int .i64 (sideI c cell n x), .int .i64 (sideF c cell n x)]) ∧ w = w' := by
  have hm1 : 0 ≤ (n - 1) * cell := Int.mul_nonneg (by omega) (by omega)
  have hm2 : (n - 1) * cell ≤ 15 * 2000000 := Int.mul_le_mul (by omega) h4 (by omega) (by omega)
  obtain ⟨a, ea⟩ : ∃ a, (if x < c then c else x) = a := ⟨_, rfl⟩
  obtain ⟨b, eb⟩ : ∃ b, (if c + (n - 1) * cell < a then c + (n - 1) * cell else a) = b := ⟨_, rfl⟩
  have hX : sideX c cell n x = b - c := by unfold sideX clamp; omega
  have hI := sideX_in (c := c) (x := x) h5 h3
  rw [hX] at hI
  have hb1 := hI.1
  have hb2 := hI.2
  have hQ0 : 0 ≤ (b - c) / cell := Int.ediv_nonneg hI.1 (by omega)
  have ha1 : -2000000 ≤ a := by omega
  have ha2 : a ≤ 2000000 := by omega
  have HX := hide hX
  have HQ := hide hQ0
  clear hX hI hQ0 hm1
  go_enter Try.func39, Try.ntmps39
  go_wp2_with fail
  go_loop [10] (fun i => ∃ k : Nat, i = .int .i64 k ∧ k ≤ 16 ∧ Hid ((k : Int) ≤ (b - c) / cell ∧ (k = 0 ∨ (k : Int) ≤ n - 2))) (fun i => 17 - (intOf i).toNat)
  case atStart => exact ⟨0, rfl, by omega, hide ⟨HQ.out, .inl rfl⟩⟩
  case round =>
    obtain ⟨k, rfl, hk, HK⟩ := hrel
    have hj1 : 0 ≤ ((k : Int) + 1) * cell := Int.mul_nonneg (by omega) (by omega)
    have hj2 : ((k : Int) + 1) * cell ≤ 17 * 2000000 := Int.mul_le_mul (by omega) h4 (by omega) (by omega)
    have hkc : (k : Int) * cell = ((k : Int) + 1) * cell - cell := by rw [Int.add_mul, Int.one_mul]; omega
    have hkc2 : (k : Int) * cell ≤ b - c := by
      have h := (Int.le_ediv_iff_mul_le (show 0 < cell by omega)).1 HK.out.1
      exact h
    have hk0 : 0 ≤ (k : Int) * cell := Int.mul_nonneg (by omega) (by omega)
    have HC := hide hkc
    clear hkc
    by_cases hlt : (k : Int) < n - 2
    · cases hle : decide (c + ((k : Int) + 1) * cell ≤ b)
      · have hst := place_stop (i := k) h3 (show b - c < ((k : Int) + 1) * cell by have := of_decide_eq_false hle; omega)
        have HI := hide (show sideI c cell n x = k by unfold sideI; rw [HX.out]; have := HK.out.1; omega)
        clear hst
        go_wp2_with fail
        go_ret2
        exact ⟨ret_2 HI.out.symm (by unfold sideF; rw [HX.out, HI.out]), rfl⟩
      · have hst := hide (place_step (i := k) h3 (show ((k : Int) + 1) * cell ≤ b - c by have := of_decide_eq_true hle; omega))
        go_wp2_with fail
        go_round
        case rel => exact ⟨k + 1, by go_num, by omega, hide ⟨by have := hst.out; omega, .inr (by omega)⟩⟩
        case measure => simp [intOf]; omega
    · have HI := hide (show sideI c cell n x = k by unfold sideI; rw [HX.out]; have h1 := HK.out.1; have h2 := HK.out.2; omega)
      go_wp2_with fail
      go_ret2
      exact ⟨ret_2 HI.out.symm (by unfold sideF; rw [HX.out, HI.out]), rfl⟩
set_option maxHeartbeats 400000 in
theorem element_0 (g : Grid) (A1 A2 A3 : Option Addr) (c1 c2 c3 : Nat) (x y z : Int) (w : World) (h : Ok g) (hg : GIn w g A1 c1 A2 c2 A3 c3) (x0 : 0 ≤ x) (x1 : x ≤ g.nx - 1) (y0 : 0 ≤ y) (y1 : y ≤ g.ny - 1) (z0 : 0 ≤ z) (z1 : z ≤ (g.alts.length : Int) - 1) :
    Calls Try.prog 44 #[gv g A1 c1 A2 c2 A3 c3, .int .i64 1, .int .i64 x, .int .i64 y, .int .i64 z] w fun e w' => e = .returned (.int .i64 (vx 0 g x y z)) ∧ Ext w w' := by
  obtain ⟨q1, q2, q3, q4, q5, q6⟩ := idx_in h x0 x1 y0 y1 z0 z1
  have n1 := h.nx2
  have n2 := h.ny2
  obtain ⟨k, ek⟩ : ∃ k, idx g x y z = k := ⟨_, rfl⟩
  rw [ek] at q5 q6
  have e1 : k.toNat < g.winds.length := by have := h.wl; omega
  obtain ⟨b, o, rfl, hb, hcell⟩ := rd_pair hg.wd (by omega)
  have hck := (hcell k.toNat e1).1
  have HV := hide (show vx 0 g x y z = (g.winds[k.toNat]).1 by unfold vx; rw [ek]; simp [partV, List.getD, List.getElem?_eq_getElem e1])
  have e2 : k < (g.winds.length : Int) := by omega
  unfold idx at ek
  clear hcell
  go_enter Try.func44, Try.ntmps44
  go_wp2_with fail
  go_ret
  exact ⟨ret_int HV.out.symm, ext_new _ _⟩
set_option maxHeartbeats 400000 in
theorem element_1 (g : Grid) (A1 A2 A3 : Option Addr) (c1 c2 c3 : Nat) (x y z : Int) (w : World) (h : Ok g) (hg : GIn w g A1 c1 A2 c2 A3 c3) (x0 : 0 ≤ x) (x1 : x ≤ g.nx - 1) (y0 : 0 ≤ y) (y1 : y ≤ g.ny - 1) (z0 : 0 ≤ z) (z1 : z ≤ (g.alts.length : Int) - 1) :
    Calls Try.prog 44 #[gv g A1 c1 A2 c2 A3 c3, .int .i64 2, .int .i64 x, .int .i64 y, .int .i64 z] w fun e w' => e = .returned (.int .i64 (vx 1 g x y z)) ∧ Ext w w' := by
  obtain ⟨q1, q2, q3, q4, q5, q6⟩ := idx_in h x0 x1 y0 y1 z0 z1
  have n1 := h.nx2
  have n2 := h.ny2
  obtain ⟨k, ek⟩ : ∃ k, idx g x y z = k := ⟨_, rfl⟩
  rw [ek] at q5 q6
  have e1 : k.toNat < g.winds.length := by have := h.wl; omega
  obtain ⟨b, o, rfl, hb, hcell⟩ := rd_pair hg.wd (by omega)
  have hck := (hcell k.toNat e1).2
  have HV := hide (show vx 1 g x y z = (g.winds[k.toNat]).2 by unfold vx; rw [ek]; simp [partV, List.getD, List.getElem?_eq_getElem e1])
  have e2 : k < (g.winds.length : Int) := by omega
  unfold idx at ek
  clear hcell
  go_enter Try.func44, Try.ntmps44
  go_wp2_with fail
  go_ret
  exact ⟨ret_int HV.out.symm, ext_new _ _⟩
set_option maxHeartbeats 400000 in
theorem element_2 (g : Grid) (A1 A2 A3 : Option Addr) (c1 c2 c3 : Nat) (x y z : Int) (w : World) (h : Ok g) (hg : GIn w g A1 c1 A2 c2 A3 c3) (x0 : 0 ≤ x) (x1 : x ≤ g.nx - 1) (y0 : 0 ≤ y) (y1 : y ≤ g.ny - 1) (z0 : 0 ≤ z) (z1 : z ≤ (g.alts.length : Int) - 1) :
    Calls Try.prog 44 #[gv g A1 c1 A2 c2 A3 c3, .int .i64 3, .int .i64 x, .int .i64 y, .int .i64 z] w fun e w' => e = .returned (.int .i64 (vx 2 g x y z)) ∧ Ext w w' := by
  obtain ⟨q1, q2, q3, q4, q5, q6⟩ := idx_in h x0 x1 y0 y1 z0 z1
  have n1 := h.nx2
  have n2 := h.ny2
  obtain ⟨k, ek⟩ : ∃ k, idx g x y z = k := ⟨_, rfl⟩
  rw [ek] at q5 q6
  have e1 : k.toNat < g.devs.length := by have := h.dl; omega
  obtain ⟨b, o, rfl, hb, hcell⟩ := rd_cell hg.d (by omega)
  have hck := hcell k.toNat e1
  have HV := hide (show vx 2 g x y z = g.devs[k.toNat] by unfold vx; rw [ek]; simp [partV, List.getD, List.getElem?_eq_getElem e1])
  have e2 : k < (g.devs.length : Int) := by omega
  unfold idx at ek
  clear hcell
  go_enter Try.func44, Try.ntmps44
  go_wp2_with fail
  go_ret
  exact ⟨ret_int HV.out.symm, ext_new _ _⟩
set_option maxHeartbeats 400000 in
theorem rlevel_any (l : List Int) (A : Option Addr) (c : Nat) (alt : Int) (w : World) (hr : Rd w 1 A l.length c (l.map iv)) (hl1 : 1 ≤ l.length) (hl8 : l.length ≤ 8) (ho : ∀ i (h : i + 1 < l.length), l[i] < l[i + 1]) (hb : ∀ i (h : i < l.length), -200000 ≤ l[i] ∧ l[i] ≤ 6000000) (h7 : -200000 ≤ alt) (h8 : alt ≤ 6000000) :
    Calls Try.prog 40 #[.slice A l.length c, .int .i64 alt] w fun e w' => e = .returned (.tuple #[.int .i64 (levI l alt), .int .i64 (levF l alt), .int .i64 (levC l alt)]) ∧ Drew w w' := by
  obtain ⟨b, o, rfl, hbw, hcell⟩ := rd_cell hr (by omega)
  have hk0 := hcell 0 (by omega)
  have hk1 := hcell (l.length - 1) (by omega)
  have e1 : IntKind.i64.wrap ((l.length : Int) - 1) = (l.length : Int) - 1 := IntWalk.i64_in _ (by omega)
  have e2 : 0 ≤ (l.length : Int) - 1 := by omega
  have e3 : ((l.length : Int) - 1).toNat = l.length - 1 := by omega
  have e4 : 0 < l.length := by omega
  rw [Nat.add_zero] at hk0
  have e5 : (l.length : Int) - 1 < (l.length : Int) := by omega
  obtain ⟨lo, elo⟩ : ∃ x, l[0] = x := ⟨_, rfl⟩
  obtain ⟨hi, ehi⟩ : ∃ x, l[l.length - 1] = x := ⟨_, rfl⟩
  rw [elo] at hk0
  rw [ehi] at hk1
  obtain ⟨p, ep⟩ : ∃ p, (if alt < lo then lo else alt) = p := ⟨_, rfl⟩
  obtain ⟨q, eq⟩ : ∃ q, (if hi < p then hi else p) = q := ⟨_, rfl⟩
  have HQ := hide (show levA l alt = q by
    unfold levA clamp; rw [getD_lt (by omega), getD_lt (by omega), elo, ehi]; omega)
  have H1 := hide (hb 0 (by omega))
  have H2 := hide (hb (l.length - 1) (by omega))
  rw [elo] at H1
  rw [ehi] at H2
  clear elo ehi
  go_enter Try.func40, Try.ntmps40
  go_wp2_with fail
  go_quiet (fail)
  go_wp2_with fail
  go_loop [8] (fun i => ∃ k : Nat, i = .int .i64 k ∧ k ≤ 8 ∧ Hid (levW l q k = levW l q 0 ∧ (k = 0 ∨ k + 2 ≤ l.length))) (fun i => 9 - (intOf i).toNat)
  case atStart => exact ⟨0, rfl, by omega, hide ⟨rfl, .inl rfl⟩⟩
  case round =>
    obtain ⟨k, rfl, hk8, HK⟩ := hrel
    by_cases hlt : k + 2 < l.length
    · have hck := hcell (k + 1) (by omega)
      have hT := hide (getD_lt (show k + 1 < l.length by omega))
      have H4 := hide (hb (k + 1) (by omega))
      obtain ⟨x, hx⟩ : ∃ x, l[k + 1] = x := ⟨_, rfl⟩
      rw [hx] at hck hT H4
      clear hx
      cases hle : decide (x ≤ q)
      rotate_left
      · have h1 : (k : Int) < (l.length : Int) - 2 := by omega
        go_wp2_with fail
        go_round
        case rel => exact ⟨k + 1, by go_num, by omega, hide ⟨by rw [← HK.out.1, levW.eq_def l q k, dif_pos ⟨hlt, by rw [hT.out]; exact of_decide_eq_true hle⟩], .inr (by omega)⟩⟩
        case measure => simp [intOf]; omega
      · have HF := hide (show levI l alt = k by
          unfold levI; rw [HQ.out, ← HK.out.1, levW.eq_def l q k, dif_neg (fun h => by rw [hT.out] at h; exact of_decide_eq_false hle h.2)])
        have hl : ((l.length : Int) == 1) = false := by simp; omega
        have h1 : (k : Int) < (l.length : Int) - 2 := by omega
        have hck' := hcell k (by omega)
        have HT := hide (getD_lt (show k < l.length by omega))
        have H3 := hide (hb k (by omega))
        obtain ⟨y, hy⟩ : ∃ y, l[k] = y := ⟨_, rfl⟩
        rw [hy] at hck' HT H3
        have HL := hide (show l.length ≠ 1 by omega)
        clear hy hcell ho hb
        go_wp2_with fail
        have h2 : (k : Int) + 1 < (l.length : Int) := by omega
        have h3 : (k : Int) < (l.length : Int) := by omega
        have h4 : IntKind.i64.wrap ((k : Int) + 1) = (k : Int) + 1 := IntWalk.i64_in _ (by omega)
        have h5 : 0 ≤ (k : Int) + 1 := by omega
        have h6 : ((k : Int) + 1).toNat = k + 1 := by omega
        have h1' := H1.out
        have h2' := H2.out
        have h3' := H3.out
        have h4' := H4.out
        have h7 : IntKind.i64.wrap (q - y) = q - y := IntWalk.i64_in _ (by omega)
        have h8 : IntKind.i64.wrap (x - y) = x - y := IntWalk.i64_in _ (by omega)
        clear h1' h2' h3' h4' ep eq
        go_quiet (fail)
        go_wp2_with fail
        go_ret3
        refine ⟨ret_int3 (by rw [HF.out]) ?_ ?_, drew_drew _ _ _⟩
        · unfold levF; rw [if_neg HL.out, HF.out, HT.out, HQ.out]
        · unfold levC; rw [if_neg HL.out, HF.out, HT.out, hT.out]
    · have HF := hide (show levI l alt = k by
          unfold levI; rw [HQ.out, ← HK.out.1, levW.eq_def l q k, dif_neg (fun h => hlt h.1)])
      by_cases hl1' : l.length = 1
      · obtain rfl : k = 0 := by have := HK.out.2; omega
        have hl : ((l.length : Int) == 1) = true := by simp; omega
        go_wp2_with fail
        go_ret3
        refine ⟨ret_int3 (by rw [HF.out]; rfl) ?_ ?_, _, rfl⟩
        · unfold levF; rw [if_pos hl1']
        · unfold levC; rw [if_pos hl1']
      · have hk : k + 1 < l.length := by have := HK.out.2; omega
        have hck := hcell (k + 1) hk
        have hT := hide (getD_lt hk)
        have H4 := hide (hb (k + 1) hk)
        obtain ⟨x, hx⟩ : ∃ x, l[k + 1] = x := ⟨_, rfl⟩
        rw [hx] at hck hT H4
        clear hx
        have hl : ((l.length : Int) == 1) = false := by simp; omega
        have h1 : (l.length : Int) - 2 ≤ (k : Int) := by omega
        have hck' := hcell k (by omega)
        have HT := hide (getD_lt (show k < l.length by omega))
        have H3 := hide (hb k (by omega))
        obtain ⟨y, hy⟩ : ∃ y, l[k] = y := ⟨_, rfl⟩
        rw [hy] at hck' HT H3
        have HL := hide (show l.length ≠ 1 by omega)
        clear hy hcell ho hb
        go_wp2_with fail
        have h2 : (k : Int) + 1 < (l.length : Int) := by omega
        have h3 : (k : Int) < (l.length : Int) := by omega
        have h4 : IntKind.i64.wrap ((k : Int) + 1) = (k : Int) + 1 := IntWalk.i64_in _ (by omega)
        have h5 : 0 ≤ (k : Int) + 1 := by omega
        have h6 : ((k : Int) + 1).toNat = k + 1 := by omega
        have h1' := H1.out
        have h2' := H2.out
        have h3' := H3.out
        have h4' := H4.out
        have h7 : IntKind.i64.wrap (q - y) = q - y := IntWalk.i64_in _ (by omega)
        have h8 : IntKind.i64.wrap (x - y) = x - y := IntWalk.i64_in _ (by omega)
        clear h1' h2' h3' h4' ep eq
        go_quiet (fail)
        go_wp2_with fail
        go_ret3
        refine ⟨ret_int3 (by rw [HF.out]) ?_ ?_, drew_drew _ _ _⟩
        · unfold levF; rw [if_neg HL.out, HF.out, HT.out, HQ.out]
        · unfold levC; rw [if_neg HL.out, HF.out, HT.out, hT.out]
end Go.Proofs.Ytfgeoeipnidfhaa
