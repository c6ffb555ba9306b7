/- Sealing: the program's and the reference's. -/
import Derived.Test.YtdecfjdmcfnbkaaClone
namespace Go.Proofs.Ytdecfjdmcfnbkaa
open Go.RowKit Go.Bv Go.Base

theorem own_base {w : World} {base b2 : Nat} {e : TypeId} {size n : Nat} {v : Value} {xs : List Value} (h : w.ownsRow base e size v n xs) (hb : b2 ≤ base) : w.ownsRow b2 e size v n xs := by
  refine ⟨h.1, ?_⟩
  rcases h.2 with h0 | ⟨g, cap, cur, h1, h2, h3⟩
  · exact .inl h0
  · exact .inr ⟨g, cap, cur, h1, Nat.le_trans hb h2, h3⟩
theorem own_block_le {w : World} {base : Nat} {e : TypeId} {size n : Nat} {v : Value} {xs : List Value} (h : w.ownsRow base e size v n xs) : ∀ k, v.ownBlock = some k → base ≤ k := fun k hk => (h.lt k hk).1

theorem own_ext {w w' : World} {base : Nat} {e : TypeId} {size n : Nat} {v : Value} {xs : List Value} (h : w.ownsRow base e size v n xs) (hb : Ext w w') : w'.ownsRow base e size v n xs := by
  refine ⟨h.1, ?_⟩
  rcases h.2 with h0 | ⟨g, cap, cur, h1, h2, h3, h4⟩
  · exact .inl h0
  · refine .inr ⟨g, cap, cur, h1, h2, ?_, h4⟩
    rw [hb.block g ?_, h3]
    rcases Nat.lt_or_ge g w.heap.size with hlt | hge
    · exact hlt
    · rw [Array.getElem?_eq_none hge] at h3; cases h3

set_option maxHeartbeats 400000 in
theorem seal_any (A : Option Addr) (n c : Nat) (l : List (BitVec 8)) (w : World) (hr : RdB w A n c l) (hn : n ≤ 4294967296) :
    Calls Try.prog 19 #[.slice A n c] w fun e w' => ∃ A' c', e = .returned (.slice A' (n + 4) c') ∧ w'.ownsRow w.heap.size 5 1 (.slice A' (n + 4) c') (n + 4) ((Crc.seal_ l).map b8) ∧ Ext w w' := by
  obtain ⟨i0, hi0, hz0, hz1, hz2⟩ := info_parts byte_info
  have hs0 := hr.length
  go_enter Try.func19, Try.ntmps19
  go_wp2_with (first
    | (go_at_call 15; refine (sum_any _ _ _ l _ hr).mono ?_; rintro e w' ⟨rfl, rfl⟩)
    | (go_at_call 35; refine (clone_any _ _ _ l _ hr hn).mono ?_; rintro e w1 ⟨A1, c1, rfl, hown1, hb1⟩)
    | (at_builtin; refine wpList_append_any _ rfl (.tmp 7) (.tmp 19) _ rfl w.heap.size 5 i0 _ 1 1 Try.underlying22 hi0 hz0 hz1 hz2 rfl (by omega) (.slice A1 n c1) n (l.map b8) rfl (hown1.alloc _) (some ⟨w1.heap.size, 0, none⟩) 4 4 ((Crc.le4 (Crc.sum l)).map b8) rfl (Rd.of_own (World.ownsRow_lit w1 (e := 5) (size := 1) #[_, _, _, _] 4 (Nat.le_refl _) (by unfold maxLen; omega) rfl)) (b8_one _) (by unfold maxLen; omega) (by omega) (by have := hb1.size; simp; omega) ?_; intro v2 w2 hown2 hgrow2 hblk2))
  go_ret
  rw [← List.map_append] at hown2
  obtain ⟨A', c', hv⟩ := own_form hown2
  subst hv
  exact ⟨A', c', rfl, hown2, (hb1.alloc hb1.size _).grown hgrow2 (by have := hb1.size; simp; omega) (own_block_le hown1)⟩
set_option maxHeartbeats 400000 in
theorem rseal_any (A : Option Addr) (n c : Nat) (l : List (BitVec 8)) (w : World) (hr : RdB w A n c l) (hn : n ≤ 4294967296) :
    Calls Try.prog 20 #[.slice A n c] w fun e w' => ∃ A' c', e = .returned (.slice A' (n + 4) c') ∧ RdB w' A' (n + 4) c' (Crc.seal_ l) ∧ Ext w w' := by
  obtain ⟨i0, hi0, hz0, hz1, hz2⟩ := info_parts byte_info
  go_enter Try.func20, Try.ntmps20
  go_wp2_with (first
    | (at_builtin; refine wpList_append_any _ rfl (.tmp 4) (.tmp 5) _ rfl w.heap.size 5 i0 _ 1 1 Try.underlying22 hi0 hz0 hz1 hz2 rfl (by omega) (.slice (some ⟨w.heap.size, 0, none⟩) 0 0) 0 [] rfl (World.ownsRow_lit w #[] 0 (Nat.le_refl _) (Nat.zero_le _) rfl) A n c (l.map b8) rfl (hr.ext ((Below.refl _ _).alloc (Nat.le_refl _) _)) (b8_one l) (by unfold maxLen; omega) (by omega) (by simp) ?_; intro v1 w1 hown1 hgrow1 hblk1; simp only [Nat.zero_add, List.nil_append] at hown1; have hb1 : Ext w w1 := ((Below.refl _ _).alloc (Nat.le_refl _) _).grown hgrow1 (by simp) (by simp [Value.ownBlock]))
    | (go_at_call 16; refine (rsum_any _ _ _ l _ (hr.ext hb1)).mono ?_; rintro e w' ⟨rfl, rfl⟩)
    | (go_at_call 36; refine (four_any _ _).mono ?_; rintro e w2 ⟨A2, c2, rfl, hr2, hb2⟩; have hown2 := own_ext hown1 hb2; have hb12 := hb1.trans hb2)
    | (at_builtin; refine wpList_append_any _ rfl (.tmp 7) (.tmp 10) _ rfl w.heap.size 5 i0 _ 1 1 Try.underlying22 hi0 hz0 hz1 hz2 rfl (by omega) v1 n (l.map b8) rfl hown2 A2 4 c2 ((Crc.le4 (Crc.sum l)).map b8) rfl hr2 (b8_one _) (by unfold maxLen; omega) (by omega) hb12.size ?_; intro v3 w3 hown3 hgrow3 hblk3))
  go_ret
  rw [← List.map_append] at hown3
  obtain ⟨A', c', hv⟩ := own_form hown3
  subst hv
  exact ⟨A', c', rfl, Rd.of_own hown3, hb12.grown hgrow3 hb12.size (own_block_le hown1)⟩
end Go.Proofs.Ytdecfjdmcfnbkaa
