/- The walks of the statements about checksums. -/
import Derived.Test.YtdecfjdmcfnbkaaAwake
namespace Go.Proofs.Ytdecfjdmcfnbkaa
open Go.RowKit Go.Bv Go.Base

theorem RdB.cut_to {w : World} {A : Option Addr} {n c : Nat} {l : List (BitVec 8)} (h : RdB w A n c l) (m : Nat) : RdB w A (min n m) c (l.take m) := by
  have h1 := Rd.take h (hi := min n m) (Nat.min_le_left _ _)
  rw [Nat.mul_one, ← List.map_take] at h1
  have : l.take (min n m) = l.take m := by
    rw [← h.length]
    rcases Nat.le_total l.length m with h2 | h2
    · rw [Nat.min_eq_left h2, List.take_of_length_le (Nat.le_refl _), List.take_of_length_le h2]
    · rw [Nat.min_eq_right h2]
  rw [this] at h1
  exact h1

theorem cut_bytes (A : Option Addr) (n c : Nat) (l : List (BitVec 8)) (k : Nat) (hk : k ≤ 65536) (w : World) (hr : RdB w A n c l) :
    Calls Try.prog 14 #[.slice A n c, .int .i64 k] w fun e w' => ∃ m l', e = .returned (.slice A m c) ∧ m ≤ k ∧ m ≤ n ∧ l' = l.take k ∧ RdB w A m c l' ∧ w = w' := by
  have hc := hr.cap
  have hm := hr.cap_le
  refine (cut_any A n c k w hc hm (by omega) (by omega)).mono ?_
  rintro e w' ⟨rfl, rfl⟩
  exact ⟨min n k, _, rfl, Nat.min_le_right _ _, Nat.min_le_left _ _, rfl, RdB.cut_to hr k, rfl⟩

set_option maxHeartbeats 400000 in
theorem sums_law (A : Option Addr) (n c : Nat) (l : List (BitVec 8)) (w : World) (hr : RdB w A n c l) :
    Calls Try.prog 3 #[.slice A n c] w fun e w' => e = .returned (.bool true) ∧ Ext w w' := by
  have hm := hr.cap_le
  have hc := hr.cap
  go_enter Try.func3, Try.ntmps3
  go_wp2_with (first
    | (go_at_call 13; refine (awake_any _).mono ?_; rintro e w1 ⟨rfl, hx1⟩; have hr1 := RdB.cut_to (hr.ext hx1) 2000)
    | (go_at_call 14; refine (cut_any _ _ _ _ _ hc hm (by omega) (by omega)).mono ?_; rintro e w' ⟨rfl, rfl⟩)
    | (go_at_call 15; refine (sum_any _ _ _ _ _ hr1).mono ?_; rintro e w' ⟨rfl, rfl⟩)
    | (go_at_call 16; refine (rsum_any _ _ _ _ _ hr1).mono ?_; rintro e w' ⟨rfl, rfl⟩))
  go_ret
  exact ⟨by simp, hx1⟩

set_option maxHeartbeats 1000000 in
theorem opens_law (A : Option Addr) (n c : Nat) (l : List (BitVec 8)) (w : World) (hr : RdB w A n c l) :
    Calls Try.prog 7 #[.slice A n c] w fun e w' => e = .returned (.bool true) ∧ Ext w w' := by
  have hm := hr.cap_le
  have hc := hr.cap
  go_enter Try.func7, Try.ntmps7
  go_wp2_with (first
    | (go_at_call 13; refine (awake_any _).mono ?_; rintro e w1 ⟨rfl, hx1⟩; have hr1 := RdB.cut_to (hr.ext hx1) 1000)
    | (go_at_call 14; refine (cut_any _ _ _ _ _ hc hm (by omega) (by omega)).mono ?_; rintro e w' ⟨rfl, rfl⟩)
    | (go_at_call 21; refine (open_any _ _ _ _ _ hr1 (by omega)).mono ?_; rintro e w2 ⟨A2, c2, rfl, hown2, hx2⟩; have hr2 := Rd.of_own hown2; have hr1b := hr1.ext hx2)
    | (go_at_call 22; refine (ropen_any _ _ _ _ _ hr1b (by omega)).mono ?_; rintro e w3 ⟨A3, c3, rfl, hown3, hx3⟩; have hs2 := run_str (hr2.ext hx3); have hs3 := run_str (Rd.of_own hown3)))
  go_ret
  exact ⟨by simp, Ext.trans (Ext.trans hx1 hx2) hx3⟩

set_option maxHeartbeats 1000000 in
theorem updates_law (A B : Option Addr) (n c m d : Nat) (l k : List (BitVec 8)) (s : BitVec 32) (w : World) (hr : RdB w A n c l) (hq : RdB w B m d k) :
    Calls Try.prog 4 #[.slice A n c, .slice B m d, .int .u32 (n32 s)] w fun e w' => e = .returned (.bool true) ∧ Ext w w' := by
  obtain ⟨i0, hi0, hz0, hz1, hz2⟩ := info_parts byte_info
  have hm := hr.cap_le
  have hc := hr.cap
  have hm2 := hq.cap_le
  have hc2 := hq.cap
  go_enter Try.func4, Try.ntmps4
  go_wp2_with fail
  refine (awake_any _).mono ?_
  rintro e w1 ⟨rfl, hx1⟩
  have hr1 := RdB.cut_to (hr.ext hx1) 500
  have hq1 := RdB.cut_to (hq.ext hx1) 500
  go_wp2_with fail
  refine (cut_any _ _ _ _ _ hc hm (by omega) (by omega)).mono ?_
  rintro e w' ⟨rfl, rfl⟩
  go_wp2_with fail
  refine (cut_any _ _ _ _ _ hc2 hm2 (by omega) (by omega)).mono ?_
  rintro e w' ⟨rfl, rfl⟩
  go_wp2_with (first
    | (at_builtin; refine wpList_append_any _ rfl (.tmp 14) (.tmp 15) _ rfl w1.heap.size 5 i0 _ 1 1 Try.underlying22 hi0 hz0 hz1 hz2 rfl (by omega) (.slice (some ⟨w1.heap.size, 0, none⟩) 0 0) 0 [] rfl (World.ownsRow_lit w1 #[] 0 (Nat.le_refl _) (Nat.zero_le _) rfl) A (min n 500) c ((l.take 500).map b8) rfl (hr1.ext ((Below.refl _ _).alloc (Nat.le_refl _) _)) (b8_one _) (by unfold maxLen; omega) (by omega) (by simp) ?_; intro v2 w2 hown2 hgrow2 hblk2; simp only [Nat.zero_add, List.nil_append] at hown2; have hx2 : Ext w1 w2 := ((Below.refl _ _).alloc (Nat.le_refl _) _).grown hgrow2 (by simp) (by simp [Value.ownBlock]))
    | (at_builtin; refine wpList_append_any _ rfl (.tmp 16) (.tmp 17) _ rfl w1.heap.size 5 i0 _ 1 1 Try.underlying22 hi0 hz0 hz1 hz2 rfl (by omega) v2 (min n 500) ((l.take 500).map b8) rfl hown2 B (min m 500) d ((k.take 500).map b8) rfl (hq1.ext hx2) (b8_one _) (by unfold maxLen; omega) (by omega) hx2.size ?_; intro v3 w3 hown3 hgrow3 hblk3; have hx3 : Ext w1 w3 := hx2.grown hgrow3 hx2.size (own_block_le hown2)))
  rw [← List.map_append] at hown3
  obtain ⟨C, f, hv⟩ := own_form hown3
  rw [hv] at hown3
  rw [hv]
  have hr3 : RdB w3 C (min n 500 + min m 500) f (l.take 500 ++ k.take 500) := Rd.of_own hown3
  have hr1b := hr1.ext hx3
  have hq1b := hq1.ext hx3
  clear hown3 hv hown2 hblk2 hblk3
  have HU := hide (Crc.update_sum (l.take 500) (k.take 500))
  go_wp2_with fail
  refine (sum_any _ _ _ _ _ hr1b).mono ?_
  rintro e w' ⟨rfl, rfl⟩
  go_wp2_with fail
  refine (update_any _ _ _ _ _ _ hq1b).mono ?_
  rintro e w' ⟨rfl, rfl⟩
  rw [HU.out]
  go_wp2_with fail
  refine (sum_any _ _ _ _ _ hr3).mono ?_
  rintro e w' ⟨rfl, rfl⟩
  go_wp2_with fail
  refine (update_any _ _ _ _ _ _ hq1b).mono ?_
  rintro e w' ⟨rfl, rfl⟩
  go_wp2_with fail
  refine (rupdate_any _ _ _ _ _ _ hq1b).mono ?_
  rintro e w' ⟨rfl, rfl⟩
  go_wp2_with fail
  refine (update_any s none 0 0 [] _ (Rd.nil_ _ _ _ _ (Nat.zero_le _))).mono ?_
  rintro e w' ⟨rfl, rfl⟩
  rw [Crc.update_nil]
  go_wp2_with fail
  go_ret
  exact ⟨by simp, Ext.trans hx1 hx3⟩
end Go.Proofs.Ytdecfjdmcfnbkaa
