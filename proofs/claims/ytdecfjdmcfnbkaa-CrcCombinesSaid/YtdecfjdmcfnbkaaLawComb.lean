/- The walk of the statement on joined checksums. -/
import Derived.Test.YtdecfjdmcfnbkaaComb
namespace Go.Proofs.Ytdecfjdmcfnbkaa
open Go.RowKit Go.Bv Go.Base

theorem min2_run (P : Program) (ts : Array TypeId) (t : TypeId) (a b : Int) :
    ∃ z : Int, z ≤ a ∧ z ≤ b ∧ (z = a ∨ z = b) ∧ ∀ w, (Builtin.min_ ts t #[.int .i64 a, .int .i64 b]).run P w = .ok (.int .i64 z) w := by
  refine ⟨if b < a then b else a, ?_, ?_, ?_, fun w => run_min_int2 _ _ _ _ _ _ _⟩ <;> split <;> omega

set_option maxHeartbeats 1000000 in
theorem combines_law (A B : Option Addr) (n c m d : Nat) (l k : List (BitVec 8)) (x : Int) (w : World) (hr : RdB w A n c l) (hq : RdB w B m d k) (hb0 : -9223372036854775808 ≤ x) (hb1 : x ≤ 9223372036854775807) :
    Calls Try.prog 12 #[.slice A n c, .slice B m d, .int .i64 x] w fun e w' => e = .returned (.bool true) ∧ Ext w w' := by
  obtain ⟨i0, hi0, hz0, hz1, hz2⟩ := info_parts byte_info
  obtain ⟨z, z1, z2, z3, hmin⟩ := min2_run Try.prog #[3, 3] 3 x 3000
  have z4 : -9223372036854775808 ≤ z := by omega
  clear z3 z1
  go_enter Try.func12, Try.ntmps12
  go_wp2_with fail
  refine (awake_any _).mono ?_
  rintro e w1 ⟨rfl, hx1⟩
  have hr0 := hr.ext hx1
  have hq0 := hq.ext hx1
  go_wp2_with fail
  refine (cut_bytes _ _ _ l 500 (by omega) _ hr0).mono ?_
  rintro e w' ⟨n1, l1, rfl, hn1, hn1b, hl1, hr1, rfl⟩
  go_wp2_with fail
  refine (cut_bytes _ _ _ k 500 (by omega) _ hq0).mono ?_
  rintro e w' ⟨m1, k1, rfl, hm1, hm1b, hk1, hq1, rfl⟩
  clear hl1 hk1 hr0 hq0 hr hq
  go_wp2_with (first
    | (at_builtin; refine wpList_append_any _ rfl (.tmp 16) (.tmp 17) _ rfl w1.heap.size 5 i0 _ 1 1 Try.underlying22 hi0 hz0 hz1 hz2 rfl (by omega) (.slice (some ⟨w1.heap.size, 0, none⟩) 0 0) 0 [] rfl (World.ownsRow_lit w1 #[] 0 (Nat.le_refl _) (Nat.zero_le _) rfl) A n1 c (l1.map b8) rfl (hr1.ext ((Below.refl _ _).alloc (Nat.le_refl _) _)) (b8_one _) (by unfold maxLen; omega) (by omega) (by simp) ?_; intro v2 w2 hown2 hgrow2 hblk2; simp only [Nat.zero_add, List.nil_append] at hown2; have hx2 : Ext w1 w2 := ((Below.refl _ _).alloc (Nat.le_refl _) _).grown hgrow2 (by simp) (by simp [Value.ownBlock]))
    | (at_builtin; refine wpList_append_any _ rfl (.tmp 18) (.tmp 19) _ rfl w1.heap.size 5 i0 _ 1 1 Try.underlying22 hi0 hz0 hz1 hz2 rfl (by omega) v2 n1 (l1.map b8) rfl hown2 B m1 d (k1.map b8) rfl (hq1.ext hx2) (b8_one _) (by unfold maxLen; omega) (by omega) hx2.size ?_; intro v3 w3 hown3 hgrow3 hblk3; have hx3 : Ext w1 w3 := hx2.grown hgrow3 hx2.size (own_block_le hown2)))
  rw [← List.map_append] at hown3
  obtain ⟨C, f, hv⟩ := own_form hown3
  rw [hv] at hown3
  rw [hv]
  have hr3 : RdB w3 C (n1 + m1) f (l1 ++ k1) := Rd.of_own hown3
  have hr1b := hr1.ext hx3
  have hq1b := hq1.ext hx3
  have lk := RdB.length hq1
  clear hown3 hv hown2 hblk2 hblk3 hgrow2 hgrow3
  have HU := hide (show Crc.combine (Crc.sum l1) (Crc.sum k1) m1 = Crc.sum (l1 ++ k1) by rw [Crc.sum_append, Crc.combine, if_neg (by omega), Int.toNat_natCast, lk])
  clear lk
  go_wp2_with fail
  refine (sum_any _ _ _ _ _ hr1b).mono ?_
  rintro e w' ⟨rfl, rfl⟩
  go_wp2_with fail
  refine (sum_any _ _ _ _ _ hq1b).mono ?_
  rintro e w' ⟨rfl, rfl⟩
  go_wp2_with fail
  refine (combine_any _ _ m1 _ (by omega) (by omega)).mono ?_
  rintro e w4 ⟨rfl, hx4⟩
  rw [HU.out]
  have hr4 := hr3.ext hx4
  go_wp2_with fail
  refine (sum_any _ _ _ _ _ hr4).mono ?_
  rintro e w' ⟨rfl, rfl⟩
  go_wp2_with fail
  refine (combine_any _ _ z _ z4 (by omega)).mono ?_
  rintro e w5 ⟨rfl, hx5⟩
  go_wp2_with fail
  refine (rcombine_any _ _ z _ z4 (by omega)).mono ?_
  rintro e w' ⟨rfl, rfl⟩
  go_wp2_with fail
  go_ret
  exact ⟨by simp, Ext.trans hx1 (Ext.trans hx3 (Ext.trans hx4 hx5))⟩
end Go.Proofs.Ytdecfjdmcfnbkaa
