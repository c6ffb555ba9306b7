/- Copies, and the four bytes of a word. -/
import Derived.Test.YtdecfjdmcfnbkaaSums
namespace Go.Proofs.Ytdecfjdmcfnbkaa
open Go.RowKit Go.Bv Go.Base
theorem byte_info : (Try.prog.info? 5).map (fun i => (i.zero, i.size, i.bytes)) = some (some (.int .u8 0), 1, 1) := by kernel_rfl
theorem b8_one (l : List (BitVec 8)) : ∀ u ∈ l.map b8, u.oneCell' = true := by
  intro u hu
  obtain ⟨b, _, rfl⟩ := List.mem_map.1 hu
  rfl

set_option maxHeartbeats 400000 in
theorem clone_any (A : Option Addr) (n c : Nat) (l : List (BitVec 8)) (w : World) (hr : RdB w A n c l) (hn : n ≤ 4294967296) :
    Calls Try.prog 35 #[.slice A n c] w fun e w' => ∃ A' c', e = .returned (.slice A' n c') ∧ w'.ownsRow w.heap.size 5 1 (.slice A' n c') n (l.map b8) ∧ Ext w w' := by
  have hnil := fun w => Lib.run_eql_slice_nil (P := Try.prog) w 22 5 A n c 0 0 Try.underlying22
  obtain ⟨i0, hi0, hz0, hz1, hz2⟩ := info_parts byte_info
  go_enter Try.func35, Try.ntmps35
  go_wp2_with (first | (at_builtin; refine wpList_append_any _ rfl (.tmp 5) (.tmp 6) _ rfl w.heap.size 5 i0 _ 1 1 Try.underlying22 hi0 hz0 hz1 hz2 rfl (by omega) (.slice (some ⟨w.heap.size, 0, none⟩) 0 0) 0 [] rfl (World.ownsRow_lit w #[] 0 (Nat.le_refl _) (Nat.zero_le _) rfl) A n c (l.map b8) rfl (hr.ext ((Below.refl _ _).alloc (Nat.le_refl _) _)) (b8_one l) (by unfold maxLen; omega) (by omega) (by simp) ?_; intro v' w' hown hgrow hblk))
  · go_ret
    have h0 : n = 0 := by
      rcases Nat.eq_zero_or_pos n with h0 | h0
      · exact h0
      · obtain ⟨b, o, rfl, _⟩ := hr.at_ h0
        simp at *
    subst h0
    have hl0 : l = [] := List.eq_nil_of_length_eq_zero hr.length
    subst hl0
    exact ⟨none, 0, rfl, World.ownsRow_nil _ _ _ _, Below.refl _ _⟩
  · go_ret
    simp only [Nat.zero_add, List.nil_append] at hown
    obtain ⟨A', c', hv⟩ := own_form hown
    subst hv
    exact ⟨A', c', rfl, hown, ((Below.refl _ _).alloc (Nat.le_refl _) _).grown hgrow (by simp) (by simp [Value.ownBlock])⟩

/-- A slice of the call's own that reads as bytes, and may be appended to. -/
abbrev OwnB (w : World) (base : Nat) (v : Value) (l : List (BitVec 8)) : Prop := w.ownsRow base 5 1 v l.length (l.map b8)

set_option maxHeartbeats 400000 in
theorem four_any (x : BitVec 32) (w : World) :
    Calls Try.prog 36 #[.int .u32 (n32 x)] w fun e w' => ∃ A' c', e = .returned (.slice A' 4 c') ∧ RdB w' A' 4 c' (Crc.le4 x) ∧ Ext w w' := by
  go_enter Try.func36, Try.ntmps36
  go_wp2
  go_ret
  refine ⟨_, _, rfl, Rd.of_own (base := w.heap.size) (e := 5) ?_, (Below.refl _ _).alloc (Nat.le_refl _) _⟩
  exact World.ownsRow_lit w #[b8 (x.setWidth 8), b8 ((x >>> 8).setWidth 8), b8 ((x >>> 16).setWidth 8), b8 ((x >>> 24).setWidth 8)] 4 (Nat.le_refl _) (by unfold maxLen; omega) rfl
end Go.Proofs.Ytdecfjdmcfnbkaa
