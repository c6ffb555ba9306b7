/- Opening a sealed string: the program's and the reference's. -/
import Derived.Test.YtdecfjdmcfnbkaaSeal
import Derived.BigQuiet
import Derived.Deep.QuietTactic
namespace Go.Proofs.Ytdecfjdmcfnbkaa
open Go.RowKit Go.Bv Go.Base

/-- What Open answers. -/
def OpenPost (l : List (BitVec 8)) (w : World) (e : Ending) (w' : World) : Prop :=
  ∃ A' c', e = .returned (.tuple #[.slice A' (Crc.opened l).length c', .int .i64 (Crc.openCode l)]) ∧ w'.ownsRow w.heap.size 5 1 (.slice A' (Crc.opened l).length c') (Crc.opened l).length ((Crc.opened l).map b8) ∧ Ext w w'
theorem open_short {l : List (BitVec 8)} (w : World) (h : l.length < 4) : OpenPost l w (.returned (.tuple #[.slice none 0 0, .int .i64 4])) w := by
  have := Crc.opened_short h
  unfold OpenPost
  rw [this.1, this.2]
  exact ⟨none, 0, rfl, World.ownsRow_nil _ _ _ _, Below.refl _ _⟩
theorem open_bad {l : List (BitVec 8)} (w w' : World) (hx : Ext w w') (h : 4 ≤ l.length) (hg : ¬ Crc.Good l) : OpenPost l w (.returned (.tuple #[.slice none 0 0, .int .i64 12])) w' := by
  have := Crc.opened_bad h hg
  unfold OpenPost
  rw [this.1, this.2]
  exact ⟨none, 0, rfl, World.ownsRow_nil _ _ _ _, hx⟩
theorem open_good {l : List (BitVec 8)} {n : Nat} {w w' : World} {A' : Option Addr} {c' : Nat} (hn : l.length = n) (h : 4 ≤ n) (hg : Crc.Good l)
    (hr : w'.ownsRow w.heap.size 5 1 (.slice A' (n - 4) c') (n - 4) ((l.take (n - 4)).map b8)) (hx : Ext w w') : OpenPost l w (.returned (.tuple #[.slice A' (n - 4) c', .int .i64 0])) w' := by
  subst hn
  have := Crc.opened_good h hg
  unfold OpenPost
  rw [this.1, this.2]
  have hl : (l.take (l.length - 4)).length = l.length - 4 := by rw [List.length_take]; omega
  rw [hl]
  exact ⟨_, _, rfl, hr, hx⟩

theorem open_none (A : Option Addr) (n c : Nat) (l : List (BitVec 8)) (w : World) (hr : RdB w A n c l) (h4 : n < 4) :
    Calls Try.prog 21 #[.slice A n c] w (OpenPost l w) := by
  have hs0 := hr.length
  go_enter Try.func21, Try.ntmps21
  go_wp2
  go_ret2
  exact open_short _ (by omega)
set_option maxHeartbeats 1000000 in
theorem open_some (A : Option Addr) (n c : Nat) (l : List (BitVec 8)) (w : World) (hr : RdB w A n c l) (hn : n ≤ 4294967296) (h4 : 4 ≤ n) :
    Calls Try.prog 21 #[.slice A n c] w (OpenPost l w) := by
  have hs0 := hr.length
  have ht := hr.take (hi := n - 4) (by omega)
  rw [Nat.mul_one, ← List.map_take] at ht
  obtain ⟨b, o, rfl, hb, hc⟩ := hr.at_ (by omega)
  have hcap := hr.cap
  have hmax := hr.cap_le
  have c0 := hc (n - 4) (b8 (l[n - 4]'(by omega))) (by simp [b8]; exact ⟨_, List.getElem?_eq_getElem _, rfl⟩)
  have c1 := hc (n - 4 + 1) (b8 (l[n - 4 + 1]'(by omega))) (by simp [b8]; exact ⟨_, List.getElem?_eq_getElem _, rfl⟩)
  have c2 := hc (n - 4 + 2) (b8 (l[n - 4 + 2]'(by omega))) (by simp [b8]; exact ⟨_, List.getElem?_eq_getElem _, rfl⟩)
  have c3 := hc (n - 4 + 3) (b8 (l[n - 4 + 3]'(by omega))) (by simp [b8]; exact ⟨_, List.getElem?_eq_getElem _, rfl⟩)
  unfold b8 at c0 c1 c2 c3
  clear hc
  have HG := hide (Crc.good_iff l n hs0 h4)
  go_enter Try.func21, Try.ntmps21
  go_wp2_with (first
    | (go_at_call 15; refine (sum_any _ _ _ (l.take (n - 4)) _ ht).mono ?_; rintro e w' ⟨rfl, rfl⟩)
    | (go_at_call 35; refine (clone_any _ _ _ (l.take (n - 4)) _ ht (by omega)).mono ?_; rintro e w1 ⟨A1, c1, rfl, hown1, hb1⟩))
  · go_ret2
    exact open_bad _ _ (Below.refl _ _) (by omega) (fun h => by have := (HG.out.1 h).2.2.2; simp_all)
  · go_ret2
    refine open_good hs0 h4 (HG.out.2 ⟨n8_inj ‹_›, n8_inj ‹_›, n8_inj ‹_›, n8_inj ?_⟩) hown1 hb1
    simp_all
  · go_ret2
    exact open_bad _ _ (Below.refl _ _) (by omega) (fun h => by have := (HG.out.1 h).2.2.1; simp_all)
  · go_ret2
    exact open_bad _ _ (Below.refl _ _) (by omega) (fun h => by have := (HG.out.1 h).2.1; simp_all)
  · go_ret2
    exact open_bad _ _ (Below.refl _ _) (by omega) (fun h => by have := (HG.out.1 h).1; simp_all)
theorem open_any (A : Option Addr) (n c : Nat) (l : List (BitVec 8)) (w : World) (hr : RdB w A n c l) (hn : n ≤ 4294967296) :
    Calls Try.prog 21 #[.slice A n c] w (OpenPost l w) := by
  rcases Nat.lt_or_ge n 4 with h | h
  · exact open_none A n c l w hr h
  · exact open_some A n c l w hr hn h
end Go.Proofs.Ytdecfjdmcfnbkaa
