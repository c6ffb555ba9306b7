/- Opening a sealed string: the reference's. -/
import Derived.Test.YtdecfjdmcfnbkaaOpen
namespace Go.Proofs.Ytdecfjdmcfnbkaa
open Go.RowKit Go.Bv Go.Base

/-- The first k of the last four bytes are those of the checksum. -/
def Same (l : List (BitVec 8)) (n k : Nat) : Prop := (l.drop (n - 4)).take k = (Crc.le4 (Crc.sum (l.take (n - 4)))).take k
theorem same_zero (l : List (BitVec 8)) (n : Nat) : Same l n 0 := rfl
theorem drop_at {l : List (BitVec 8)} {n k : Nat} (hn : l.length = n) (h4 : 4 ≤ n) (hk : k < 4) : (l.drop (n - 4))[k]? = some (l[n - 4 + k]'(by omega)) := by
  rw [List.getElem?_drop, List.getElem?_eq_getElem]
theorem le4_length (x : BitVec 32) : (Crc.le4 x).length = 4 := rfl
theorem same_step {l : List (BitVec 8)} {n k : Nat} (hn : l.length = n) (h4 : 4 ≤ n) (hk : k < 4) (h : Same l n k)
    (he : n8 (l[n - 4 + k]'(by omega)) = n8 ((Crc.le4 (Crc.sum (l.take (n - 4))))[k]'(by rw [le4_length]; exact hk))) : Same l n (k + 1) := by
  unfold Same at *
  rw [List.take_add_one, List.take_add_one, h, drop_at hn h4 hk, List.getElem?_eq_getElem (by rw [le4_length]; exact hk), n8_inj he]
theorem same_all {l : List (BitVec 8)} {n : Nat} (hn : l.length = n) (h4 : 4 ≤ n) (h : Same l n 4) : Crc.Good l := by
  subst hn
  unfold Same at h
  rw [List.take_of_length_le (by rw [List.length_drop]; omega), List.take_of_length_le (by rw [le4_length]; omega)] at h
  exact h
theorem same_bad {l : List (BitVec 8)} {n k : Nat} (hn : l.length = n) (h4 : 4 ≤ n) (hk : k < 4)
    (he : ¬ n8 (l[n - 4 + k]'(by omega)) = n8 ((Crc.le4 (Crc.sum (l.take (n - 4))))[k]'(by rw [le4_length]; exact hk))) : ¬ Crc.Good l := by
  intro hg
  refine he ?_
  subst hn
  unfold Crc.Good at hg
  have h1 := drop_at (l := l) (k := k) rfl h4 hk
  rw [hg, List.getElem?_eq_getElem (by rw [le4_length]; exact hk)] at h1
  injection h1 with h1
  rw [h1]

theorem ropen_none (A : Option Addr) (n c : Nat) (l : List (BitVec 8)) (w : World) (hr : RdB w A n c l) (h4 : n < 4) :
    Calls Try.prog 22 #[.slice A n c] w (OpenPost l w) := by
  have hs0 := hr.length
  go_enter Try.func22, Try.ntmps22
  go_wp2
  go_ret2
  exact open_short _ (by omega)
set_option maxHeartbeats 1000000 in
theorem ropen_some (A : Option Addr) (n c : Nat) (l : List (BitVec 8)) (w : World) (hr : RdB w A n c l) (hn : n ≤ 4294967296) (h4 : 4 ≤ n) :
    Calls Try.prog 22 #[.slice A n c] w (OpenPost l w) := by
  obtain ⟨i0, hi0, hz0, hz1, hz2⟩ := info_parts byte_info
  have hs0 := hr.length
  have ht := hr.take (hi := n - 4) (by omega)
  rw [Nat.mul_one, ← List.map_take] at ht
  obtain ⟨b, o, rfl, hb, hc⟩ := hr.at_ (by omega)
  have hcap := hr.cap
  have hmax := hr.cap_le
  go_enter Try.func22, Try.ntmps22
  go_wp2_with (first
    | (go_at_call 16; refine (rsum_any _ _ _ (l.take (n - 4)) _ ht).mono ?_; rintro e w' ⟨rfl, rfl⟩)
    | (go_at_call 36; refine (four_any _ _).mono ?_; rintro e w2 ⟨A2, c2, rfl, hr2, hb2⟩))
  obtain ⟨b2, o2, rfl, hlt2, hc2⟩ := hr2.at_ (by omega)
  go_loopw [6] (fun i wr => ∃ k m : Nat, k ≤ 4 ∧ i = .int .i64 k ∧ wr = w2.drewN m ∧ Same l n k) (fun i _ => 4 - (intOf i).toNat)
  case atStart => exact ⟨0, 0, by omega, rfl, rfl, same_zero _ _⟩
  case round =>
    obtain ⟨k, m, hk, rfl, rfl, hm⟩ := hrel
    by_cases hlt : k < 4
    · have ck := (hb2.cell (p := ⟨b, o + (n - 4 + k), none⟩) hb).trans (hc (n - 4 + k) (b8 (l[n - 4 + k]'(by omega))) (by simp [b8]; exact ⟨_, List.getElem?_eq_getElem _, rfl⟩))
      have dk := hc2 k (b8 ((Crc.le4 (Crc.sum (l.take (n - 4))))[k]'(by rw [le4_length]; exact hlt))) (by simp [b8]; exact ⟨_, List.getElem?_eq_getElem _, rfl⟩)
      unfold b8 at ck dk
      clear hc hc2
      have q1 : 0 ≤ (n : Int) - 4 + k := by omega
      have q2 : (n : Int) - 4 + k < n := by omega
      have q3 : ((n : Int) - 4 + k).toNat = n - 4 + k := by omega
      have q4 : IntKind.i64.wrap ((n : Int) - 4 + k) = (n : Int) - 4 + k := IntWalk.i64_in _ (by omega)
      go_wp2_with fail
      go_quiet (fail)
      clear q3 q4
      go_wp2
      · go_ret2
        refine open_bad _ _ (below_drewN (below_drewN hb2 _) _) (by omega) (same_bad hs0 h4 hlt ?_)
        have hne : (n8 l[n - 4 + k] != n8 (Crc.le4 (Crc.sum (l.take (n - 4))))[k]) = true := by assumption
        exact bne_iff_ne.1 hne
      · have heq : (n8 l[n - 4 + k] != n8 (Crc.le4 (Crc.sum (l.take (n - 4))))[k]) = false := by assumption
        go_roundw
        case rel => exact ⟨k + 1, _, by omega, by go_num, rfl, same_step hs0 h4 hlt hm (bne_eq_false_iff_eq.1 heq)⟩
        case measure => simp [intOf]; omega
    · obtain rfl : k = 4 := by omega
      have ht' := (ht.ext hb2).keep (below_drewN (Below.refl w2.heap.size w2) m) (Nat.le_refl _)
      go_wp2_with (first
        | (at_builtin; refine wpList_append_any _ rfl (.tmp 33) (.tmp 36) _ rfl w2.heap.size 5 i0 _ 1 1 Try.underlying22 hi0 hz0 hz1 hz2 rfl (by omega) (.slice (some ⟨w2.heap.size, 0, none⟩) 0 0) 0 [] rfl (World.ownsRow_lit (w2.drewN m) #[] 0 (Nat.le_refl _) (Nat.zero_le _) rfl) (some ⟨b, o, none⟩) (n - 4) c ((l.take (n - 4)).map b8) rfl (ht'.ext ((Below.refl _ _).alloc (Nat.le_refl _) _)) (b8_one _) (by unfold maxLen; omega) (by omega) (by simp) ?_; intro v1 w3 hown1 hgrow1 hblk1; simp only [Nat.zero_add, List.nil_append] at hown1))
      go_ret2
      obtain ⟨A', c', hv⟩ := own_form hown1
      subst hv
      exact open_good hs0 h4 (same_all hs0 h4 hm) (own_base hown1 hb2.size) (((below_drewN hb2 m).alloc hb2.size _).grown hgrow1 (by have := hb2.size; simp; omega) (fun q hq => by simp [Value.ownBlock] at hq; have := hb2.size; omega))
theorem ropen_any (A : Option Addr) (n c : Nat) (l : List (BitVec 8)) (w : World) (hr : RdB w A n c l) (hn : n ≤ 4294967296) :
    Calls Try.prog 22 #[.slice A n c] w (OpenPost l w) := by
  rcases Nat.lt_or_ge n 4 with h | h
  · exact ropen_none A n c l w hr h
  · exact ropen_some A n c l w hr hn h
end Go.Proofs.Ytdecfjdmcfnbkaa
