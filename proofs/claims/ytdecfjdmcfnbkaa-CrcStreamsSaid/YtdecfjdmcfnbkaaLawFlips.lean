/- The walks of the statements on inverted bits. -/
import Derived.Test.YtdecfjdmcfnbkaaLawSeals
namespace Go.Proofs.Ytdecfjdmcfnbkaa
open Go.RowKit Go.Bv Go.Base

set_option maxHeartbeats 1000000 in
theorem flips_law (A : Option Addr) (n c : Nat) (l : List (BitVec 8)) (bit : Int) (p : BitVec 32) (w : World) (hr : RdB w A n c l) (hb0 : -9223372036854775808 ≤ bit) (hb1 : bit ≤ 9223372036854775807) :
    Calls Try.prog 8 #[.slice A n c, .int .i64 bit, .int .u32 (n32 p)] w fun e w' => e = .returned (.bool true) ∧ Ext w w' := by
  go_enter Try.func8, Try.ntmps8
  go_wp2_with fail
  refine (awake_any _).mono ?_
  rintro e w1 ⟨rfl, hx1⟩
  have hr0 := hr.ext hx1
  go_wp2_with fail
  refine (cut_bytes _ _ _ l 100 (by omega) _ hr0).mono ?_
  rintro e w' ⟨m, q, rfl, hmk, hmn, hq, hr1, rfl⟩
  clear hq hr0 hr
  have hs1 := run_str hr1
  have hql : q.length = m := RdB.length hr1
  go_wp2_with fail
  refine (flip_any _ _ _ _ bit p _ hr1 (by omega)).mono ?_
  rintro e w2 ⟨A2, c2, rfl, hr2, hx2⟩
  go_wp2_with fail
  refine (rflip_any _ _ _ _ bit p _ (hr1.ext hx2) (by omega) hb0 hb1).mono ?_
  rintro e w3 ⟨A3, c3, rfl, hr3, hx3⟩
  have t1 := run_str ((hr1.ext hx2).ext hx3)
  have t2 := run_str (hr2.ext hx3)
  have t3 := run_str hr3
  have hr2c := hr2.ext hx3
  clear hs1
  have hfl : (Crc.flipped q bit p).length ≤ 4294967296 := by
    by_cases hf : Crc.Fits bit p q.length 32
    · rw [(Crc.flipped_fits hf).1, Crc.length_flipTo]; omega
    · rw [(Crc.flipped_not hf).1]; simp
  by_cases hf : Crc.Fits bit p q.length 32
  · have e0 := (Crc.flipped_fits hf).2
    have HB := hide (Crc.flipped_back hf)
    clear hf
    go_wp2_with fail
    refine (flip_any _ _ _ _ bit p _ hr2c hfl).mono ?_
    rintro e w4 ⟨A4, c4, rfl, hr4, hx4⟩
    have e4 := HB.out.2
    have t4 := run_str hr4
    have e5 := HB.out.1
    rw [e5, hql] at t4
    rw [e4, e5, hql]
    clear e5 hr4
    go_wp2_with fail
    go_ret
    exact ⟨by simp, Ext.trans (Ext.trans hx1 (Ext.trans hx2 hx3)) hx4⟩
  · have e0 := (Crc.flipped_not hf).2
    clear hf
    go_wp2_with fail
    go_ret
    exact ⟨by simp, Ext.trans hx1 (Ext.trans hx2 hx3)⟩

theorem at_rem (x n : Int) (hn : 0 < n) : x % n = if x.tmod n < 0 then x.tmod n + n else x.tmod n := by
  have h1 := Int.emod_nonneg x (show n ≠ 0 by omega)
  have h2 := Int.emod_lt_of_pos x hn
  rcases Int.le_total 0 x with h | h
  · rw [Int.tmod_eq_emod_of_nonneg h, if_neg (by omega)]
  · have h3 : x.tmod n = x % n ∨ x.tmod n = x % n - n := by
      rw [Int.tmod_eq_emod]
      split
      · left; omega
      · right; rw [Int.natAbs_of_nonneg (by omega)]
    have h4 : x.tmod n ≤ 0 := by
      have := Int.tmod_nonneg n (a := -x) (by omega)
      rw [Int.neg_tmod] at this
      omega
    rcases h3 with h3 | h3
    · split <;> omega
    · rw [if_pos (by omega)]; omega
set_option maxHeartbeats 400000 in
theorem at_any (x n : Int) (w : World) (hn : 0 < n) (hm : n ≤ 1099511627776) :
    Calls Try.prog 25 #[.int .i64 x, .int .i64 n] w fun e w' => e = .returned (.int .i64 (x % n)) ∧ w = w' := by
  have hr := hide (at_rem x n hn)
  have h1 : x.tmod n < n := Int.tmod_lt_of_pos x hn
  have h2 : -n < x.tmod n := by
    have := Int.tmod_lt_of_pos (-x) hn
    rw [Int.neg_tmod] at this
    omega
  have h0 : ¬ n = 0 := by omega
  go_enter Try.func25, Try.ntmps25
  go_wp2
  · go_ret
    exact ⟨by rw [hr.out, if_pos ‹_›]; rfl, rfl⟩
  · go_ret
    exact ⟨by rw [hr.out, if_neg (by omega)]; rfl, rfl⟩

set_option maxHeartbeats 1000000 in
theorem bursts_law (A : Option Addr) (n c : Nat) (l : List (BitVec 8)) (bit : Int) (p : BitVec 32) (w : World) (hr : RdB w A n c l) :
    Calls Try.prog 9 #[.slice A n c, .int .i64 bit, .int .u32 (n32 p)] w fun e w' => e = .returned (.bool true) ∧ Ext w w' := by
  go_enter Try.func9, Try.ntmps9
  go_wp2_with fail
  refine (awake_any _).mono ?_
  rintro e w1 ⟨rfl, hx1⟩
  have hr0 := hr.ext hx1
  go_wp2_with fail
  refine (cut_bytes _ _ _ l 300 (by omega) _ hr0).mono ?_
  rintro e w' ⟨m, q, rfl, hmk, hmn, hq, hr1, rfl⟩
  have HQ := hide (RdB.length hr1)
  clear hq hr0 hr
  go_wp2_with fail
  refine (seal_any _ _ _ _ _ hr1 (by omega)).mono ?_
  rintro e w2 ⟨A2, c2, rfl, hown2, hx2⟩
  have hr2 : RdB w2 A2 (m + 4) c2 (Crc.seal_ q) := Rd.of_own hown2
  go_wp2_with fail
  refine (at_any _ _ _ (by omega) (by omega)).mono ?_
  rintro e w' ⟨rfl, rfl⟩
  have hb0 := Int.emod_nonneg bit (show (8 * (m : Int) + 32) ≠ 0 by omega)
  have hb1 := Int.emod_lt_of_pos bit (show 0 < (8 * (m : Int) + 32) by omega)
  generalize bit % (8 * (m : Int) + 32) = b at *
  obtain ⟨i, rfl⟩ := Int.eq_ofNat_of_zero_le hb0
  go_wp2_with fail
  refine (flip_any _ _ _ _ i p _ hr2 (by omega)).mono ?_
  rintro e w3 ⟨A3, c3, rfl, hr3, hx3⟩
  by_cases hf : Crc.Fits i p (Crc.seal_ q).length 32
  · have e0 := (Crc.flipped_fits hf).2
    have e1 := (Crc.flipped_fits hf).1
    by_cases hp : n32 p = 0
    · have hpz : (n32 p == 0) = true := beq_iff_eq.2 hp
      clear hf e1 hp
      go_wp2_with fail
      go_ret
      exact ⟨rfl, Ext.trans hx1 (Ext.trans hx2 hx3)⟩
    · have hpz : (n32 p == 0) = false := beq_eq_false_iff_ne.2 hp
      have HN := hide (Crc.opened_not (l := Crc.flipped (Crc.seal_ q) i p) (by rw [e1, Crc.length_flipTo, Crc.length_seal]; omega) (by rw [e1]; exact Crc.burst q i p (fun h => hp (by rw [h]; rfl)) hf))
      have hfl : (Crc.flipped (Crc.seal_ q) i p).length ≤ 4294967296 := by rw [e1, Crc.length_flipTo, Crc.length_seal]; have := HQ.out; omega
      clear hf e1
      go_wp2_with fail
      refine (open_any _ _ _ _ _ hr3 hfl).mono ?_
      rintro e w4 ⟨A4, c4, rfl, hown4, hx4⟩
      rw [HN.out.1, HN.out.2]
      go_wp2_with fail
      go_ret
      exact ⟨rfl, Ext.trans hx1 (Ext.trans (Ext.trans hx2 hx3) hx4)⟩
  · have e0 := (Crc.flipped_not hf).2
    have e1 := (Crc.flipped_not hf).1
    clear hf
    rw [e1]
    clear e1
    go_wp2_with fail
    go_ret
    exact ⟨rfl, Ext.trans hx1 (Ext.trans hx2 hx3)⟩

set_option maxHeartbeats 1000000 in
theorem pairs_law (A : Option Addr) (n c : Nat) (l : List (BitVec 8)) (x y : Int) (w : World) (hr : RdB w A n c l) :
    Calls Try.prog 10 #[.slice A n c, .int .i64 x, .int .i64 y] w fun e w' => e = .returned (.bool true) ∧ Ext w w' := by
  go_enter Try.func10, Try.ntmps10
  go_wp2_with fail
  refine (awake_any _).mono ?_
  rintro e w1 ⟨rfl, hx1⟩
  have hr0 := hr.ext hx1
  go_wp2_with fail
  refine (cut_bytes _ _ _ l 1020 (by omega) _ hr0).mono ?_
  rintro e w' ⟨m, q, rfl, hmk, hmn, hq, hr1, rfl⟩
  have HQ := hide (RdB.length hr1)
  clear hq hr0 hr
  go_wp2_with fail
  refine (seal_any _ _ _ _ _ hr1 (by omega)).mono ?_
  rintro e w2 ⟨A2, c2, rfl, hown2, hx2⟩
  have hr2 : RdB w2 A2 (m + 4) c2 (Crc.seal_ q) := Rd.of_own hown2
  have HL : Hid ((Crc.seal_ q).length = m + 4) := by
    have := HQ.out
    show (Crc.seal_ q).length = m + 4
    rw [Crc.length_seal]; omega
  clear hr1 hown2
  go_wp2_with fail
  refine (at_any _ _ _ (by omega) (by omega)).mono ?_
  rintro e w' ⟨rfl, rfl⟩
  go_wp2_with fail
  refine (at_any _ _ _ (by omega) (by omega)).mono ?_
  rintro e w' ⟨rfl, rfl⟩
  have hx0 := Int.emod_nonneg x (show (8 * ((m : Int) + 4)) ≠ 0 by omega)
  have hx1' := Int.emod_lt_of_pos x (show 0 < (8 * ((m : Int) + 4)) by omega)
  have hy0 := Int.emod_nonneg y (show (8 * ((m : Int) + 4)) ≠ 0 by omega)
  have hy1 := Int.emod_lt_of_pos y (show 0 < (8 * ((m : Int) + 4)) by omega)
  generalize x % (8 * ((m : Int) + 4)) = b at *
  generalize y % (8 * ((m : Int) + 4)) = d at *
  obtain ⟨i, rfl⟩ := Int.eq_ofNat_of_zero_le hx0
  obtain ⟨j, rfl⟩ := Int.eq_ofNat_of_zero_le hy0
  by_cases hij : i = j
  · subst hij
    go_wp2_with fail
    go_ret
    exact ⟨rfl, Ext.trans hx1 hx2⟩
  · have hne : ((i : Int) == (j : Int)) = false := beq_eq_false_iff_ne.2 (by omega)
    have F1 := hide (Crc.flipped_one (l := Crc.seal_ q) (i := i) (by rw [HL.out]; omega))
    have F2 := hide (Crc.flipped_one (l := Crc.xorBit (Crc.seal_ q) i) (i := j) (by rw [Crc.length_xorBit, HL.out]; omega))
    have F3 := hide (Crc.opened_not (l := Crc.xorBit (Crc.xorBit (Crc.seal_ q) i) j) (by rw [Crc.length_xorBit, Crc.length_xorBit, HL.out]; omega) (Crc.pairs q i j (by rw [HL.out]; omega) (by rw [HL.out]; omega) (by rw [HL.out]; omega) hij))
    clear hij
    go_wp2_with fail
    refine (flip_any _ _ _ _ i 1 _ hr2 (by omega)).mono ?_
    rintro e w3 ⟨A3, c3, rfl, hr3, hx3⟩
    rw [F1.out.1] at hr3
    rw [F1.out.1, F1.out.2]
    go_wp2_with fail
    refine (flip_any _ _ _ _ j 1 _ hr3 (by rw [Crc.length_xorBit, HL.out]; omega)).mono ?_
    rintro e w4 ⟨A4, c4, rfl, hr4, hx4⟩
    rw [F2.out.1] at hr4
    rw [F2.out.1, F2.out.2]
    go_wp2_with fail
    refine (open_any _ _ _ _ _ hr4 (by rw [Crc.length_xorBit, Crc.length_xorBit, HL.out]; omega)).mono ?_
    rintro e w5 ⟨A5, c5, rfl, hown5, hx5⟩
    rw [F3.out.1, F3.out.2]
    go_wp2_with fail
    go_ret
    exact ⟨rfl, Ext.trans hx1 (Ext.trans hx2 (Ext.trans hx3 (Ext.trans hx4 hx5)))⟩
end Go.Proofs.Ytdecfjdmcfnbkaa
