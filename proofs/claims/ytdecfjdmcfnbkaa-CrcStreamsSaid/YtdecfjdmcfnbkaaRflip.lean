/- Inverting the bits of a pattern: the reference's. -/
import Derived.Test.YtdecfjdmcfnbkaaFlip
namespace Go.Proofs.Ytdecfjdmcfnbkaa
open Go.RowKit Go.Bv Go.Base

set_option maxHeartbeats 1000000 in
theorem rflip_any (A : Option Addr) (n c : Nat) (l : List (BitVec 8)) (bit : Int) (p : BitVec 32) (w : World) (hr : RdB w A n c l) (hn : n ≤ 4294967296) (hb0 : -9223372036854775808 ≤ bit) (hb1 : bit ≤ 9223372036854775807) :
    Calls Try.prog 24 #[.slice A n c, .int .i64 bit, .int .u32 (n32 p)] w (FlipPost l bit p w) := by
  obtain ⟨i0, hi0, hz0, hz1, hz2⟩ := info_parts byte_info
  have hs0 := hr.length
  go_enter Try.func24, Try.ntmps24
  go_wp2_with (first
    | (at_builtin; refine wpList_append_any _ rfl (.tmp 11) (.tmp 12) _ rfl w.heap.size 5 i0 _ 1 1 Try.underlying22 hi0 hz0 hz1 hz2 rfl (by omega) (.slice (some ⟨w.heap.size, 0, none⟩) 0 0) 0 [] rfl (World.ownsRow_lit w #[] 0 (Nat.le_refl _) (Nat.zero_le _) rfl) A n c (l.map b8) rfl (hr.ext ((Below.refl _ _).alloc (Nat.le_refl _) _)) (b8_one l) (by unfold maxLen; omega) (by omega) (by simp) ?_; intro v1 w1 hown1 hgrow1 hblk1; simp only [Nat.zero_add, List.nil_append] at hown1; have hb1 : Ext w w1 := ((Below.refl _ _).alloc (Nat.le_refl _) _).grown hgrow1 (by simp) (by simp [Value.ownBlock])))
  obtain ⟨A1, c1, hv1⟩ := own_form hown1
  rw [hv1] at hown1
  rw [hv1]
  clear hv1 hblk1
  go_loopw [9] (fun i wr => ∃ k : Nat, k ≤ 32 ∧ i = .int .i64 k ∧ Crc.Fits bit p n k ∧ wr.ownsRow w.heap.size 5 1 (.slice A1 n c1) n ((Crc.flipTo bit p l k).map b8) ∧ Ext w wr) (fun i _ => 32 - (intOf i).toNat)
  case atStart => exact ⟨0, by omega, rfl, fun j hj => absurd hj (by omega), hown1, hb1⟩
  case round =>
    obtain ⟨k, hk, rfl, hfit, hown, hext⟩ := hrel
    by_cases hlt : k < 32
    · go_wp2_with fail
      · have hb := bit_no ‹_›
        go_roundw
        case rel => exact ⟨k + 1, by omega, by go_num, Crc.fits_step hfit (fun h => by rw [hb] at h; cases h), by rw [Crc.flipTo_no hb]; exact hown, hext⟩
        case measure => simp [intOf]; omega
      · have hb := bit_yes ‹_›
        go_ret2
        exact flip_not hs0 (Crc.not_fits hlt hb (by omega)) hext
      · have hb := bit_yes ‹_›
        have g0 : 0 ≤ bit + k := by omega
        have g1 : bit + (k : Int) < 8 * n := by omega
        obtain ⟨i, hi⟩ := Int.eq_ofNat_of_zero_le g0
        obtain ⟨g, cap, hv, hge, hlt2⟩ := hown.form (by omega)
        injection hv with e1 _ e2
        subst e1 e2
        have hlen : (Crc.flipTo bit p l k).length = n := by rw [Crc.length_flipTo, hs0]
        have hcell := hown.cellAt (i / 8) (by omega)
        rw [List.getElem?_map, List.getElem?_eq_getElem (by omega)] at hcell
        have hfr := hown.frozenAt (i / 8)
        simp only [b8, Option.map_some] at hcell
        have HF := hide (Crc.fits_step hfit (fun _ => ⟨g0, g1⟩))
        have HY := hide (Crc.flipTo_yes (l := l) hb hi)
        clear hfit
        have b0 : i / 8 < n := by omega
        go_region
        go_wp2_with fail
        go_roundw
        case rel => exact ⟨k + 1, by omega, by go_num, HF.out, by rw [HY.out]; exact (own_set hlen hown b0).drew, (Below.setCell hext (p := ⟨g, i / 8, none⟩) hge _).drew⟩
        case measure => simp [intOf]; omega
      · have hb := bit_yes ‹_›
        go_ret2
        exact flip_not hs0 (Crc.not_fits hlt hb (by omega)) hext
    · obtain rfl : k = 32 := by omega
      go_wp2_with fail
      go_ret2
      exact flip_fits hs0 hfit (Rd.of_own hown) hext
end Go.Proofs.Ytdecfjdmcfnbkaa
