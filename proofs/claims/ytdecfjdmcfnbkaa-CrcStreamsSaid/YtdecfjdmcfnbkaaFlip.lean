/- Inverting the bits of a pattern: the program's. -/
import Derived.Test.YtdecfjdmcfnbkaaRopen
namespace Go.Proofs.Ytdecfjdmcfnbkaa
open Go.RowKit Go.Bv Go.Base

/-- What Flip answers: a row of its own. -/
def FlipPost (l : List (BitVec 8)) (bit : Int) (p : BitVec 32) (w : World) (e : Ending) (w' : World) : Prop :=
  ∃ A' c', e = .returned (.tuple #[.slice A' (Crc.flipped l bit p).length c', .int .i64 (Crc.flipCode l bit p)]) ∧ RdB w' A' (Crc.flipped l bit p).length c' (Crc.flipped l bit p) ∧ Ext w w'

theorem flip_fits {l : List (BitVec 8)} {bit : Int} {p : BitVec 32} {n : Nat} {w w' : World} {A' : Option Addr} {c' : Nat} (hn : l.length = n) (hf : Crc.Fits bit p n 32)
    (hr : RdB w' A' n c' (Crc.flipTo bit p l 32)) (hx : Ext w w') : FlipPost l bit p w (.returned (.tuple #[.slice A' n c', .int .i64 0])) w' := by
  subst hn
  have := Crc.flipped_fits hf
  unfold FlipPost
  rw [this.1, this.2, Crc.length_flipTo]
  exact ⟨_, _, rfl, hr, hx⟩
theorem flip_not {l : List (BitVec 8)} {bit : Int} {p : BitVec 32} {n : Nat} {w w' : World} (hn : l.length = n) (hf : ¬ Crc.Fits bit p n 32) (hx : Ext w w') :
    FlipPost l bit p w (.returned (.tuple #[.slice none 0 0, .int .i64 2])) w' := by
  subst hn
  have := Crc.flipped_not hf
  unfold FlipPost
  rw [this.1, this.2]
  exact ⟨none, 0, rfl, Rd.nil_ _ _ _ _ (Nat.zero_le _), hx⟩
theorem bit_no {p : BitVec 32} {k : Nat} (h : (bits .and .u32 (n32 p / 2 ^ k) 1 == 0) = true) : p.getLsbD k = false := by
  rw [bit_test] at h; simpa using h
theorem bit_yes {p : BitVec 32} {k : Nat} (h : (bits .and .u32 (n32 p / 2 ^ k) 1 == 0) = false) : p.getLsbD k = true := by
  rw [bit_test] at h; simpa using h
theorem own_set {w : World} {base g n cap i : Nat} {l : List (BitVec 8)} (hl : l.length = n) (h : w.ownsRow base 5 1 (.slice (some ⟨g, 0, none⟩) n cap) n (l.map b8)) (hi : i / 8 < n) :
    (w.setCell ⟨g, i / 8, none⟩ (.int .u8 (bits .xor .u8 (n8 (l[i / 8]'(by omega))) (2 ^ (i % 8) % 256)))).ownsRow base 5 1 (.slice (some ⟨g, 0, none⟩) n cap) n ((Crc.xorBit l i).map b8) := by
  rw [xor_pow _ _ (Nat.mod_lt _ (by omega)), Crc.xorBit_set l i (by omega), List.map_set]
  exact (h.stored (i / 8) _).1

set_option maxHeartbeats 1000000 in
theorem flip_main (A : Option Addr) (n c : Nat) (l : List (BitVec 8)) (bit : Int) (p : BitVec 32) (w : World) (hr : RdB w A n c l) (hn : n ≤ 4294967296) (hp : n32 p ≠ 0) (hb0 : -31 ≤ bit) (hb1 : bit < 8 * n) :
    Calls Try.prog 23 #[.slice A n c, .int .i64 bit, .int .u32 (n32 p)] w (FlipPost l bit p w) := by
  have hs0 := hr.length
  have hpz : (n32 p == 0) = false := beq_eq_false_iff_ne.2 hp
  go_enter Try.func23, Try.ntmps23
  go_wp2_with (first
    | (go_at_call 35; refine (clone_any _ _ _ l _ hr hn).mono ?_; rintro e w1 ⟨A1, c1, rfl, hown1, hb1⟩))
  go_loopw [25] (fun i wr => ∃ k : Nat, k ≤ 32 ∧ i = .int .i64 k ∧ Crc.Fits bit p n k ∧ wr.ownsRow w.heap.size 5 1 (.slice A1 n c1) n ((Crc.flipTo bit p l k).map b8) ∧ Ext w wr) (fun i _ => 32 - (intOf i).toNat)
  case atStart => exact ⟨0, by omega, rfl, fun j hj => absurd hj (by omega), hown1, hb1⟩
  case round =>
    obtain ⟨k, hk, rfl, hfit, hown, hext⟩ := hrel
    by_cases hlt : k < 32
    · go_wp2_with fail
      · have hb := bit_no ‹_›
        go_roundw
        case rel => exact ⟨k + 1, by omega, by go_num, Crc.fits_step hfit (fun h => by rw [hb] at h; cases h), by rw [Crc.flipTo_no hb]; exact hown, hext⟩
        case measure => simp [intOf]; omega
      · have hb := bit_yes ‹_›
        go_ret2
        exact flip_not hs0 (Crc.not_fits hlt hb (by omega)) hext
      · have hb := bit_yes ‹_›
        have g0 : 0 ≤ bit + k := by assumption
        have g1 : bit + (k : Int) < 8 * n := by omega
        obtain ⟨i, hi⟩ := Int.eq_ofNat_of_zero_le g0
        obtain ⟨g, cap, hv, hge, hlt2⟩ := hown.form (by omega)
        injection hv with e1 _ e2
        subst e1 e2
        have hlen : (Crc.flipTo bit p l k).length = n := by rw [Crc.length_flipTo, hs0]
        have hcell := hown.cellAt (i / 8) (by omega)
        rw [List.getElem?_map, List.getElem?_eq_getElem (by omega)] at hcell
        have hfr := hown.frozenAt (i / 8)
        simp only [b8, Option.map_some] at hcell
        have HF := hide (Crc.fits_step hfit (fun _ => ⟨g0, g1⟩))
        have HY := hide (Crc.flipTo_yes (l := l) hb hi)
        clear hfit
        have b0 : i / 8 < n := by omega
        go_region
        go_wp2_with fail
        go_roundw
        case rel => exact ⟨k + 1, by omega, by go_num, HF.out, by rw [HY.out]; exact (own_set hlen hown b0).drew, (Below.setCell hext (p := ⟨g, i / 8, none⟩) hge _).drew⟩
        case measure => simp [intOf]; omega
      · have hb := bit_yes ‹_›
        go_ret2
        exact flip_not hs0 (Crc.not_fits hlt hb (by omega)) hext
    · obtain rfl : k = 32 := by omega
      go_wp2_with fail
      go_ret2
      exact flip_fits hs0 hfit (Rd.of_own hown) hext
set_option maxHeartbeats 1000000 in
theorem flip_any (A : Option Addr) (n c : Nat) (l : List (BitVec 8)) (bit : Int) (p : BitVec 32) (w : World) (hr : RdB w A n c l) (hn : n ≤ 4294967296) :
    Calls Try.prog 23 #[.slice A n c, .int .i64 bit, .int .u32 (n32 p)] w (FlipPost l bit p w) := by
  have hs0 := hr.length
  by_cases hp : n32 p = 0
  · obtain rfl : p = 0 := n32_inj hp
    have hz : n32 0 = 0 := rfl
    go_enter Try.func23, Try.ntmps23
    go_wp2_with (first
      | (go_at_call 35; refine (clone_any _ _ _ l _ hr hn).mono ?_; rintro e w1 ⟨A1, c1, rfl, hown1, hb1⟩))
    go_ret2
    exact flip_fits hs0 (Crc.fits_zero _ _ _) (by rw [Crc.flipTo_zero]; exact Rd.of_own hown1) hb1
  · by_cases hb : -31 ≤ bit ∧ bit < 8 * n
    · exact flip_main A n c l bit p w hr hn hp hb.1 hb.2
    · have hpz : (n32 p == 0) = false := beq_eq_false_iff_ne.2 hp
      have HN := hide (Crc.not_fits_far (bit := bit) (n := n) (p := p) (fun h => hp (by rw [h]; rfl)) (by omega))
      have hor : bit < -31 ∨ 8 * (n : Int) ≤ bit := by omega
      clear hb
      rcases hor with h1 | h1
      · go_enter Try.func23, Try.ntmps23
        go_wp2_with (first
          | (go_at_call 35; refine (clone_any _ _ _ l _ hr hn).mono ?_; rintro e w1 ⟨A1, c1, rfl, hown1, hb1⟩))
        go_ret2
        exact flip_not hs0 HN.out hb1
      · go_enter Try.func23, Try.ntmps23
        go_wp2_with (first
          | (go_at_call 35; refine (clone_any _ _ _ l _ hr hn).mono ?_; rintro e w1 ⟨A1, c1, rfl, hown1, hb1⟩))
        go_ret2
        exact flip_not hs0 HN.out hb1
end Go.Proofs.Ytdecfjdmcfnbkaa
