/- Places in a forecast: the program's side, level and index. -/
import Derived.Test.YtfgeoeipnidfhaaRchk
namespace Go.Proofs.Ytfgeoeipnidfhaa
open Go.RowKit Go.Base Wg

theorem ret_agg3 {a b c a' b' c' : Int} (h1 : a = a') (h2 : b = b') (h3 : c = c') : Ending.returned (.agg #[.int .i64 a, .int .i64 b, .int .i64 c]) = .returned (.agg #[.int .i64 a', .int .i64 b', .int .i64 c']) := by rw [h1, h2, h3]

set_option maxHeartbeats 400000 in
theorem side_any (c cell n x : Int) (h1 : -2000000 ≤ c) (h2 : c ≤ 2000000) (h3 : 1 ≤ cell) (h4 : cell ≤ 2000000) (h5 : 1 ≤ n) (h6 : n ≤ 16) (h7 : -2000000 ≤ x) (h8 : x ≤ 2000000) (w : World) :
    Calls Try.prog 25 #[.int .i64 c, .int .i64 cell, .int .i64 n, .int .i64 x] w fun e w' => e = .returned (.agg #[.int .i64 (sideI c cell n x), .int .i64 (sideF c cell n x), .int .i64 cell]) ∧ Ext w w' := by
  have hm1 : 0 ≤ (n - 1) * cell := Int.mul_nonneg (by omega) (by omega)
  have hm2 : (n - 1) * cell ≤ 15 * 2000000 := Int.mul_le_mul (by omega) h4 (by omega) (by omega)
  obtain ⟨a, ea⟩ : ∃ a, (if x < c then c else x) = a := ⟨_, rfl⟩
  obtain ⟨b, eb⟩ : ∃ b, (if c + (n - 1) * cell < a then c + (n - 1) * cell else a) = b := ⟨_, rfl⟩
  have hX : sideX c cell n x = b - c := by unfold sideX clamp; omega
  have hI := sideX_in (c := c) (x := x) h5 h3
  rw [hX] at hI
  have hQ0 : 0 ≤ (b - c) / cell := Int.ediv_nonneg hI.1 (by omega)
  have hQ1 : (b - c) / cell ≤ 30000000 := by
    have : (b - c) / cell * 1 ≤ (b - c) / cell * cell := Int.mul_le_mul_of_nonneg_left h3 hQ0
    have := Int.ediv_mul_le (b - c) (show cell ≠ 0 by omega)
    omega
  obtain ⟨d, ed⟩ : ∃ d, (if n - 2 < (b - c) / cell then n - 2 else (b - c) / cell) = d := ⟨_, rfl⟩
  obtain ⟨i, ei⟩ : ∃ i, (if d < 0 then 0 else d) = i := ⟨_, rfl⟩
  have hS : sideI c cell n x = i := by unfold sideI; rw [hX]; omega
  have hF : sideF c cell n x = b - c - i * cell := by unfold sideF; rw [hX, hS]
  have hi := sideI_in (c := c) (cell := cell) (x := x) h5
  have hf := side_f (c := c) (x := x) h5 h3
  rw [hS, hF]
  rw [hS] at hi
  rw [hF] at hf
  have hi1 := hi.1
  have hi2 := hi.2.1
  have hf1 := hf.1
  have hf2 := hf.2.1
  have hj1 : 0 ≤ i * cell := Int.mul_nonneg (by omega) (by omega)
  have hj2 : i * cell ≤ 15 * 2000000 := Int.mul_le_mul (by omega) h4 (by omega) (by omega)
  have hb1 := hI.1
  have hb2 := hI.2
  have ha1 : -2000000 ≤ a := by omega
  have ha2 : a ≤ 2000000 := by omega
  clear hi hf hX hI hS hF hm1
  go_enter Try.func25, Try.ntmps25
  go_wp2
  exact bodyPost_ret (v := .agg #[.int .i64 i, .int .i64 (b - c - i * cell), .int .i64 cell]) (by simp [results, Try.results25, go_sem]) rfl ⟨rfl, (Below.refl _ _).alloc (Nat.le_refl _) _⟩

set_option maxHeartbeats 400000 in
theorem level_any (l : List Int) (A : Option Addr) (c : Nat) (alt : Int) (w : World) (hr : Rd w 1 A l.length c (l.map iv)) (hl1 : 1 ≤ l.length) (hl8 : l.length ≤ 8) (ho : ∀ i (h : i + 1 < l.length), l[i] < l[i + 1]) (hb : ∀ i (h : i < l.length), -200000 ≤ l[i] ∧ l[i] ≤ 6000000) (h7 : -200000 ≤ alt) (h8 : alt ≤ 6000000) :
    Calls Try.prog 26 #[.slice A l.length c, .int .i64 alt] w fun e w' => e = .returned (.agg #[.int .i64 (levI l alt), .int .i64 (levF l alt), .int .i64 (levC l alt)]) ∧ Ext w w' := by
  obtain ⟨b, o, rfl, hbw, hcell⟩ := rd_cell hr (by omega)
  have hk0 := hcell 0 (by omega)
  have hk1 := hcell (l.length - 1) (by omega)
  have e1 : IntKind.i64.wrap ((l.length : Int) - 1) = (l.length : Int) - 1 := IntWalk.i64_in _ (by omega)
  have e2 : 0 ≤ (l.length : Int) - 1 := by omega
  have e3 : ((l.length : Int) - 1).toNat = l.length - 1 := by omega
  have e4 : 0 < l.length := by omega
  rw [Nat.add_zero] at hk0
  have e5 : (l.length : Int) - 1 < (l.length : Int) := by omega
  obtain ⟨lo, elo⟩ : ∃ x, l[0] = x := ⟨_, rfl⟩
  obtain ⟨hi, ehi⟩ : ∃ x, l[l.length - 1] = x := ⟨_, rfl⟩
  rw [elo] at hk0
  rw [ehi] at hk1
  obtain ⟨p, ep⟩ : ∃ p, (if alt < lo then lo else alt) = p := ⟨_, rfl⟩
  obtain ⟨q, eq⟩ : ∃ q, (if hi < p then hi else p) = q := ⟨_, rfl⟩
  have HQ := hide (show levA l alt = q by
    unfold levA clamp; rw [getD_lt (by omega), getD_lt (by omega), elo, ehi]; omega)
  have H1 := hide (hb 0 (by omega))
  have H2 := hide (hb (l.length - 1) (by omega))
  rw [elo] at H1
  rw [ehi] at H2
  clear elo ehi
  go_enter Try.func26, Try.ntmps26
  go_wp2_with fail
  go_quiet (fail)
  go_wp2_with fail
  go_loop [6] (fun i => ∃ k : Nat, i = .int .i64 k ∧ k ≤ 8 ∧ Hid (levW l q k = levW l q 0 ∧ (k = 0 ∨ k + 2 ≤ l.length))) (fun i => 9 - (intOf i).toNat)
  case atStart => exact ⟨0, rfl, by omega, hide ⟨rfl, .inl rfl⟩⟩
  case round =>
    obtain ⟨k, rfl, hk8, HK⟩ := hrel
    by_cases hlt : k + 2 < l.length
    · have hck := hcell (k + 1) (by omega)
      have hT := hide (getD_lt (show k + 1 < l.length by omega))
      have H4 := hide (hb (k + 1) (by omega))
      obtain ⟨x, hx⟩ : ∃ x, l[k + 1] = x := ⟨_, rfl⟩
      rw [hx] at hck hT H4
      clear hx
      cases hle : decide (x ≤ q)
      rotate_left
      · have h1 : (k : Int) < (l.length : Int) - 1 - 1 := by omega
        go_wp2_with fail
        go_round
        case rel => exact ⟨k + 1, by go_num, by omega, hide ⟨by rw [← HK.out.1, levW.eq_def l q k, dif_pos ⟨hlt, by rw [hT.out]; exact of_decide_eq_true hle⟩], .inr (by omega)⟩⟩
        case measure => simp [intOf]; omega
      · have HF := hide (show levI l alt = k by
          unfold levI; rw [HQ.out, ← HK.out.1, levW.eq_def l q k, dif_neg (fun h => by rw [hT.out] at h; exact of_decide_eq_false hle h.2)])
        have hl : ((l.length : Int) - 1 == 0) = false := by simp; omega
        have h1 : (k : Int) < (l.length : Int) - 1 - 1 := by omega
        have hck' := hcell k (by omega)
        have HT := hide (getD_lt (show k < l.length by omega))
        have H3 := hide (hb k (by omega))
        obtain ⟨y, hy⟩ : ∃ y, l[k] = y := ⟨_, rfl⟩
        rw [hy] at hck' HT H3
        have HL := hide (show l.length ≠ 1 by omega)
        clear hy hcell ho hb
        go_wp2_with fail
        have h2 : (k : Int) + 1 < (l.length : Int) := by omega
        have h3 : (k : Int) < (l.length : Int) := by omega
        have h4 : IntKind.i64.wrap ((k : Int) + 1) = (k : Int) + 1 := IntWalk.i64_in _ (by omega)
        have h5 : 0 ≤ (k : Int) + 1 := by omega
        have h6 : ((k : Int) + 1).toNat = k + 1 := by omega
        have h1' := H1.out
        have h2' := H2.out
        have h3' := H3.out
        have h4' := H4.out
        have h7 : IntKind.i64.wrap (q - y) = q - y := IntWalk.i64_in _ (by omega)
        have h8 : IntKind.i64.wrap (x - y) = x - y := IntWalk.i64_in _ (by omega)
        clear h1' h2' h3' h4' ep eq
        go_region
        go_wp2_with fail
        refine bodyPost_ret (v := .agg #[.int .i64 k, .int .i64 (q - y), .int .i64 (x - y)]) (by simp [results, Try.results26, go_sem]) rfl ⟨ret_agg3 (by rw [HF.out]) ?_ ?_, ?_⟩
        · unfold levF; rw [if_neg HL.out, HF.out, HT.out, HQ.out]
        · unfold levC; rw [if_neg HL.out, HF.out, HT.out, hT.out]
        · exact Below.setCell (Below.setCell (Below.setCell (below_drewN ((Below.refl _ _).alloc (Nat.le_refl _) _) _) (Nat.le_refl _) _) (Nat.le_refl _) _) (Nat.le_refl _) _
    · have HF := hide (show levI l alt = k by
          unfold levI; rw [HQ.out, ← HK.out.1, levW.eq_def l q k, dif_neg (fun h => hlt h.1)])
      by_cases hl1' : l.length = 1
      · obtain rfl : k = 0 := by have := HK.out.2; omega
        have hl : ((l.length : Int) - 1 == 0) = true := by simp; omega
        go_wp2_with fail
        refine bodyPost_ret (v := .agg #[.int .i64 0, .int .i64 0, .int .i64 1]) (by simp [results, Try.results26, go_sem]) rfl ⟨ret_agg3 (by rw [HF.out]; rfl) ?_ ?_, ?_⟩
        · unfold levF; rw [if_pos hl1']
        · unfold levC; rw [if_pos hl1']
        · exact Below.setCell (Below.setCell (Below.setCell (below_drewN ((Below.refl _ _).alloc (Nat.le_refl _) _) _) (Nat.le_refl _) _) (Nat.le_refl _) _) (Nat.le_refl _) _
      · have hk : k + 1 < l.length := by have := HK.out.2; omega
        have hck := hcell (k + 1) hk
        have hT := hide (getD_lt hk)
        have H4 := hide (hb (k + 1) hk)
        obtain ⟨x, hx⟩ : ∃ x, l[k + 1] = x := ⟨_, rfl⟩
        rw [hx] at hck hT H4
        clear hx
        have hl : ((l.length : Int) - 1 == 0) = false := by simp; omega
        have h1 : (l.length : Int) - 1 - 1 ≤ (k : Int) := by omega
        have hck' := hcell k (by omega)
        have HT := hide (getD_lt (show k < l.length by omega))
        have H3 := hide (hb k (by omega))
        obtain ⟨y, hy⟩ : ∃ y, l[k] = y := ⟨_, rfl⟩
        rw [hy] at hck' HT H3
        have HL := hide (show l.length ≠ 1 by omega)
        clear hy hcell ho hb
        go_wp2_with fail
        have h2 : (k : Int) + 1 < (l.length : Int) := by omega
        have h3 : (k : Int) < (l.length : Int) := by omega
        have h4 : IntKind.i64.wrap ((k : Int) + 1) = (k : Int) + 1 := IntWalk.i64_in _ (by omega)
        have h5 : 0 ≤ (k : Int) + 1 := by omega
        have h6 : ((k : Int) + 1).toNat = k + 1 := by omega
        have h1' := H1.out
        have h2' := H2.out
        have h3' := H3.out
        have h4' := H4.out
        have h7 : IntKind.i64.wrap (q - y) = q - y := IntWalk.i64_in _ (by omega)
        have h8 : IntKind.i64.wrap (x - y) = x - y := IntWalk.i64_in _ (by omega)
        clear h1' h2' h3' h4' ep eq
        go_region
        go_wp2_with fail
        refine bodyPost_ret (v := .agg #[.int .i64 k, .int .i64 (q - y), .int .i64 (x - y)]) (by simp [results, Try.results26, go_sem]) rfl ⟨ret_agg3 (by rw [HF.out]) ?_ ?_, ?_⟩
        · unfold levF; rw [if_neg HL.out, HF.out, HT.out, HQ.out]
        · unfold levC; rw [if_neg HL.out, HF.out, HT.out, hT.out]
        · exact Below.setCell (Below.setCell (Below.setCell (below_drewN ((Below.refl _ _).alloc (Nat.le_refl _) _) _) (Nat.le_refl _) _) (Nat.le_refl _) _) (Nat.le_refl _) _
end Go.Proofs.Ytfgeoeipnidfhaa
