/- Joining two checksums: the program's, by squares of a matrix, and the reference's. -/
import Derived.Test.YtdecfjdmcfnbkaaLawFlips
import Derived.Test.YtdecfjdmcfnbkaaBlk
namespace Go.Proofs.Ytdecfjdmcfnbkaa
open Go.RowKit Go.Bv Go.Base

def v32 (x : BitVec 32) : Value := .int .u32 (n32 x)
/-- A matrix in a block. -/
def Mat (w : World) (g : Nat) (M : List (BitVec 32)) : Prop := M.length = 32 ∧ Blk w g 54 (M.map v32)

theorem lowX_yes {M : List (BitVec 32)} {r : BitVec 32} {k : Nat} (hk : k < M.length) (h : low (r >>> k) = true) : Crc.lowX M r k ^^^ M[k] = Crc.lowX M r (k + 1) := by
  rw [Crc.lowX, if_pos (by unfold low at h; simpa [BitVec.getLsbD_ushiftRight] using h)]
  simp [List.getD, hk]
theorem lowX_no {M : List (BitVec 32)} {r : BitVec 32} {k : Nat} (h : low (r >>> k) = false) : Crc.lowX M r k = Crc.lowX M r (k + 1) := by
  rw [Crc.lowX, if_neg (by unfold low at h; simp [BitVec.getLsbD_ushiftRight] at h; simp [h])]
  simp
theorem shr_ne {r : BitVec 32} {k : Nat} (h : n32 (r >>> k) ≠ 0) : k < 32 := by
  rcases Nat.lt_or_ge k 32 with hk | hk
  · exact hk
  · refine absurd ?_ h
    have : r >>> k = 0 := by
      apply BitVec.eq_of_getLsbD_eq
      intro i hi
      rw [BitVec.getLsbD_ushiftRight, BitVec.getLsbD_of_ge _ _ (by omega)]
      simp
    rw [this]; rfl
theorem shr_eq {r : BitVec 32} {k : Nat} (h : n32 (r >>> k) = 0) : ∀ j, k ≤ j → r.getLsbD j = false := by
  intro j hj
  have h0 : r >>> k = 0 := n32_inj h
  have : (r >>> k).getLsbD (j - k) = false := by rw [h0]; simp
  rw [BitVec.getLsbD_ushiftRight, show k + (j - k) = j by omega] at this
  exact this
theorem shr_next (r : BitVec 32) (k : Nat) : r >>> k >>> 1 = r >>> (k + 1) := by rw [BitVec.shiftRight_add]

set_option maxHeartbeats 400000 in
theorem apply_any (g : Nat) (M : List (BitVec 32)) (r : BitVec 32) (w : World) (hM : Mat w g M) :
    Calls Try.prog 37 #[.pointer (some ⟨g, 0, none⟩), .int .u32 (n32 r)] w fun e w' => e = .returned (.int .u32 (n32 (Crc.lowX M r 32))) ∧ w = w' := by
  obtain ⟨hl, hb⟩ := hM
  go_enter Try.func37, Try.ntmps37
  go_wp2
  go_loop [1, 5, 6] (fun x y i => ∃ k : Nat, k ≤ 32 ∧ i = .int .i64 k ∧ x = .int .u32 (n32 (r >>> k)) ∧ y = .int .u32 (n32 (Crc.lowX M r k))) (fun _ _ i => 32 - (intOf i).toNat)
  case atStart => exact ⟨0, by omega, rfl, by rw [BitVec.ushiftRight_zero], rfl⟩
  case round =>
    obtain ⟨k, hk, rfl, rfl, rfl⟩ := hrel
    by_cases hz : n32 (r >>> k) = 0
    · have hzb : (n32 (r >>> k) != 0) = false := by simp [hz]
      have HE := hide (Crc.lowX_rest M r k hk (shr_eq hz))
      clear hz
      go_wp2
      go_ret
      exact ⟨by rw [← HE.out]; rfl, rfl⟩
    · have hzb : (n32 (r >>> k) != 0) = true := by simp [hz]
      have hk32 := shr_ne hz
      have hc := hb.cell k
      rw [List.getElem?_map, List.getElem?_eq_getElem (by omega)] at hc
      simp only [v32, Option.map_some] at hc
      have HN := hide (shr_next r k)
      clear hz
      go_wp2
      · have h1 := lowX_yes (M := M) (r := r) (k := k) (by omega) ‹_›
        go_round
        case rel => exact ⟨k + 1, by omega, by go_num, by rw [HN.out], by rw [h1]⟩
        case measure => simp [intOf]; omega
      · have h1 := lowX_no (M := M) (r := r) (k := k) ‹_›
        go_round
        case rel => exact ⟨k + 1, by omega, by go_num, by rw [HN.out], by rw [h1]⟩
        case measure => simp [intOf]; omega
end Go.Proofs.Ytdecfjdmcfnbkaa
