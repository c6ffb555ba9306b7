/- The checksum of a string of bytes: the program's and the reference's. -/
import Derived.Test.YtdecfjdmcfnbkaaStep
import Derived.Test.YtdecfjdmcfnbkaaBase
namespace Go.Proofs.Ytdecfjdmcfnbkaa
open Go.RowKit Go.Bv Go.Base

def b8 (b : BitVec 8) : Value := .int .u8 (n8 b)
/-- A slice of bytes. -/
abbrev RdB (w : World) (A : Option Addr) (n c : Nat) (l : List (BitVec 8)) : Prop := Rd w 1 A n c (l.map b8)
theorem RdB.length {w : World} {A : Option Addr} {n c : Nat} {l : List (BitVec 8)} (h : RdB w A n c l) : l.length = n := by have := h.len; simpa using this

theorem upd_take (r : BitVec 32) (l : List (BitVec 8)) (k : Nat) (h : k < l.length) : Crc.upd r (l.take (k + 1)) = Crc.step (Crc.upd r (l.take k)) l[k] := by
  rw [List.take_succ_eq_append_getElem h, Crc.upd_append]; rfl

set_option maxHeartbeats 400000 in
theorem update_any (s : BitVec 32) (A : Option Addr) (n c : Nat) (l : List (BitVec 8)) (w : World) (hr : RdB w A n c l) :
    Calls Try.prog 17 #[.int .u32 (n32 s), .slice A n c] w fun e w' => e = .returned (.int .u32 (n32 (Crc.update s l))) ∧ w = w' := by
  have hl := hr.length
  have hn := hr.size_le
  go_enter Try.func17, Try.ntmps17
  go_wp2
  go_loop [5, 12] (fun x i => ∃ k : Nat, k ≤ n ∧ i = .int .i64 k ∧ x = .int .u32 (n32 (Crc.upd (~~~ s) (l.take k)))) (fun _ i => n - (intOf i).toNat)
  case atStart => exact ⟨0, by omega, rfl, rfl⟩
  case round =>
    obtain ⟨k, hk, rfl, rfl⟩ := hrel
    by_cases hlt : k < n
    · obtain ⟨b, o, rfl, hb, hc⟩ := hr.at_ (by omega)
      have hck := hc k (b8 (l[k]'(by omega))) (by simp [b8]; exact ⟨_, List.getElem?_eq_getElem _, rfl⟩)
      have HU := hide (upd_take (~~~ s) l k (by omega))
      unfold b8 at hck
      clear hc
      go_wp2_with (go_at_call 33; refine (step_any _ _ _).mono ?_; rintro e w' ⟨rfl, rfl⟩)
      go_round
      case rel => exact ⟨k + 1, by omega, by go_num, by rw [HU.out]⟩
      case measure => simp [intOf]; omega
    · go_wp2
      go_ret
      exact ⟨by rw [List.take_of_length_le (by omega)]; rfl, rfl⟩
set_option maxHeartbeats 400000 in
theorem rupdate_any (s : BitVec 32) (A : Option Addr) (n c : Nat) (l : List (BitVec 8)) (w : World) (hr : RdB w A n c l) :
    Calls Try.prog 18 #[.int .u32 (n32 s), .slice A n c] w fun e w' => e = .returned (.int .u32 (n32 (Crc.update s l))) ∧ w = w' := by
  have hl := hr.length
  have hn := hr.size_le
  go_enter Try.func18, Try.ntmps18
  go_wp2
  go_loop [5, 12] (fun x i => ∃ k : Nat, k ≤ n ∧ i = .int .i64 k ∧ x = .int .u32 (n32 (Crc.upd (~~~ s) (l.take k)))) (fun _ i => n - (intOf i).toNat)
  case atStart => exact ⟨0, by omega, rfl, rfl⟩
  case round =>
    obtain ⟨k, hk, rfl, rfl⟩ := hrel
    by_cases hlt : k < n
    · obtain ⟨b, o, rfl, hb, hc⟩ := hr.at_ (by omega)
      have hck := hc k (b8 (l[k]'(by omega))) (by simp [b8]; exact ⟨_, List.getElem?_eq_getElem _, rfl⟩)
      have HU := hide (upd_take (~~~ s) l k (by omega))
      unfold b8 at hck
      clear hc
      go_wp2_with (go_at_call 34; refine (rstep_any _ _ _).mono ?_; rintro e w' ⟨rfl, rfl⟩)
      go_round
      case rel => exact ⟨k + 1, by omega, by go_num, by rw [HU.out]⟩
      case measure => simp [intOf]; omega
    · go_wp2
      go_ret
      exact ⟨by rw [List.take_of_length_le (by omega)]; rfl, rfl⟩

set_option maxHeartbeats 400000 in
theorem sum_any (A : Option Addr) (n c : Nat) (l : List (BitVec 8)) (w : World) (hr : RdB w A n c l) :
    Calls Try.prog 15 #[.slice A n c] w fun e w' => e = .returned (.int .u32 (n32 (Crc.sum l))) ∧ w = w' := by
  go_enter Try.func15, Try.ntmps15
  go_wp2_with (go_at_call 17; refine (update_any 0 _ _ _ l _ hr).mono ?_; rintro e w' ⟨rfl, rfl⟩)
  go_ret
  exact ⟨rfl, rfl⟩
set_option maxHeartbeats 400000 in
theorem rsum_any (A : Option Addr) (n c : Nat) (l : List (BitVec 8)) (w : World) (hr : RdB w A n c l) :
    Calls Try.prog 16 #[.slice A n c] w fun e w' => e = .returned (.int .u32 (n32 (Crc.sum l))) ∧ w = w' := by
  go_enter Try.func16, Try.ntmps16
  go_wp2_with (go_at_call 18; refine (rupdate_any 0 _ _ _ l _ hr).mono ?_; rintro e w' ⟨rfl, rfl⟩)
  go_ret
  exact ⟨rfl, rfl⟩
set_option maxHeartbeats 400000 in
theorem cut_any (A : Option Addr) (n c : Nat) (m : Int) (w : World) (hc : n ≤ c) (hm : c ≤ 9223372036854775807) (h0 : 0 ≤ m) (h1 : m ≤ 9223372036854775807) :
    Calls Try.prog 14 #[.slice A n c, .int .i64 m] w fun e w' => e = .returned (.slice A (min n m.toNat) c) ∧ w = w' := by
  go_enter Try.func14, Try.ntmps14
  go_wp2
  all_goals
    go_ret
    first
      | exact ⟨rfl, rfl⟩
      | exact ⟨by rw [Nat.min_eq_right (by omega)]; rfl, rfl⟩
end Go.Proofs.Ytdecfjdmcfnbkaa
