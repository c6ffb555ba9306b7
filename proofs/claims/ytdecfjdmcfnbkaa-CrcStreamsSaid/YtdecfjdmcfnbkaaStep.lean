/- One byte into the register: the program's and the reference's. -/
import Derived.Test.YtdecfjdmcfnbkaaRows
import Derived.Test.YtdecfjdmcfnbkaaBv
import Derived.WalkSpells
import Derived.WalkLawsBesides
namespace Go.Proofs.Ytdecfjdmcfnbkaa
open Go.RowKit Go.Bv

theorem it_yes {r : BitVec 32} {k : Nat} (h : low (Crc.iter Crc.bitStep k r) = true) : (Crc.iter Crc.bitStep k r) >>> 1 ^^^ Crc.poly = Crc.iter Crc.bitStep (k + 1) r := by
  rw [Crc.iter_succ, Crc.bitStep, if_pos (show (Crc.iter Crc.bitStep k r).getLsbD 0 = true from h)]
theorem it_no {r : BitVec 32} {k : Nat} (h : low (Crc.iter Crc.bitStep k r) = false) : (Crc.iter Crc.bitStep k r) >>> 1 = Crc.iter Crc.bitStep (k + 1) r := by
  rw [Crc.iter_succ, Crc.bitStep, if_neg (by unfold low at h; rw [h]; simp)]
theorem step_fin {k : Nat} (r : BitVec 32) (b : BitVec 8) (h1 : k ≤ 8) (h2 : 8 ≤ (k : Int)) : Crc.iter Crc.bitStep k (r ^^^ b.setWidth 32) = Crc.step r b := by
  obtain rfl : k = 8 := by omega
  rfl

set_option maxHeartbeats 400000 in
theorem step_any (r : BitVec 32) (b : BitVec 8) (w : World) :
    Calls Try.prog 33 #[.int .u32 (n32 r), .int .u8 (n8 b)] w fun e w' => e = .returned (.int .u32 (n32 (Crc.step r b))) ∧ w = w' := by
  go_enter Try.func33, Try.ntmps33
  go_wp2
  go_loop [0, 9] (fun x i => ∃ k : Nat, k ≤ 8 ∧ i = .int .i64 k ∧ x = .int .u32 (n32 (Crc.iter Crc.bitStep k (r ^^^ b.setWidth 32)))) (fun _ i => 8 - (intOf i).toNat)
  case atStart => exact ⟨0, by omega, rfl, rfl⟩
  case round =>
    obtain ⟨k, hk, rfl, rfl⟩ := hrel
    go_wp2
    · go_round
      case rel => exact ⟨k + 1, by omega, by go_num, by rw [it_yes ‹_›]⟩
      case measure => simp [intOf]; omega
    · go_round
      case rel => exact ⟨k + 1, by omega, by go_num, by rw [it_no ‹_›]⟩
      case measure => simp [intOf]; omega
    · go_ret
      exact ⟨by rw [← step_fin r b hk ‹_›]; rfl, rfl⟩
set_option maxHeartbeats 400000 in
theorem rstep_any (r : BitVec 32) (b : BitVec 8) (w : World) :
    Calls Try.prog 34 #[.int .u32 (n32 r), .int .u8 (n8 b)] w fun e w' => e = .returned (.int .u32 (n32 (Crc.step r b))) ∧ w = w' := by
  go_enter Try.func34, Try.ntmps34
  go_wp2
  go_loop [0, 5] (fun x i => ∃ k : Nat, k ≤ 8 ∧ i = .int .i64 k ∧ x = .int .u32 (n32 (Crc.iter Crc.bitStep k (r ^^^ b.setWidth 32)))) (fun _ i => 8 - (intOf i).toNat)
  case atStart => exact ⟨0, by omega, rfl, rfl⟩
  case round =>
    obtain ⟨k, hk, rfl, rfl⟩ := hrel
    go_wp2
    · go_round
      case rel => exact ⟨k + 1, by omega, by go_num, by rw [it_yes ‹_›]⟩
      case measure => simp [intOf]; omega
    · go_round
      case rel => exact ⟨k + 1, by omega, by go_num, by rw [it_no ‹_›]⟩
      case measure => simp [intOf]; omega
    · go_ret
      exact ⟨by rw [← step_fin r b hk ‹_›]; rfl, rfl⟩
end Go.Proofs.Ytdecfjdmcfnbkaa
