/- The examples that each statement asks first. -/
import Derived.Test.YtdecfjdmcfnbkaaStr
import Derived.Lib.SlBytesConst
namespace Go.Proofs.Ytdecfjdmcfnbkaa
open Go.RowKit Go.Bv Go.Base

/-- A slice that was just made of bytes written out. -/
theorem made_bytes (w : World) (l : List (BitVec 8)) (fr : Nat × Nat) (n : Nat) (hn : l.length = n) (hm : n ≤ 1000) (b : Nat) (hb : b = w.heap.size) : RdB (w.alloc (.cells (l.map b8).toArray 5 fr)) (some ⟨b, 0, none⟩) n n l := by
  subst hb
  refine ⟨by simp [hn], Nat.le_refl _, by unfold maxLen; omega, fun _ => ⟨w.heap.size, 0, rfl, by simp, fun j u hu => ?_⟩⟩
  rw [Nat.zero_add, World.cell?_alloc_mark]
  simpa using hu
theorem str_flip : (str Crc.exFlip).toList = [128, 1] := by rw [str_toList]; rfl
theorem str_seal : (str Crc.exSeal).toList = [0, 0, 0, 0] := by rw [str_toList]; rfl
theorem open_ex (A : Option Addr) (c : Nat) (w : World) (hr : RdB w A 4 c [0, 0, 0, 0]) :
    Calls Try.prog 21 #[.slice A 4 c] w fun e w' => ∃ A' c', e = .returned (.tuple #[.slice A' 0 c', .int .i64 0]) ∧ Ext w w' := by
  refine (open_any A 4 c _ w hr (by omega)).mono ?_
  rintro e w' ⟨A', c', rfl, _, hx⟩
  rw [Crc.ex_open.1, Crc.ex_open.2]
  exact ⟨_, _, rfl, hx⟩
theorem flip_ex (A : Option Addr) (c : Nat) (w : World) (hr : RdB w A 2 c [0, 0]) :
    Calls Try.prog 23 #[.slice A 2 c, .int .i64 7, .int .u32 3] w fun e w' => ∃ A' c', e = .returned (.tuple #[.slice A' 2 c', .int .i64 0]) ∧ RdB w' A' 2 c' Crc.exFlip ∧ Ext w w' := by
  refine (flip_any A 2 c _ 7 3 w hr (by omega)).mono ?_
  rintro e w' ⟨A', c', rfl, hr', hx⟩
  rw [Crc.ex_flip.1] at hr'
  rw [Crc.ex_flip.1, Crc.ex_flip.2]
  exact ⟨_, _, rfl, hr', hx⟩
theorem sum_ex1 (A : Option Addr) (c : Nat) (w : World) (hr : RdB w A 9 c [49, 50, 51, 52, 53, 54, 55, 56, 57]) :
    Calls Try.prog 15 #[.slice A 9 c] w fun e w' => e = .returned (.int .u32 3421780262) ∧ w = w' := by
  refine (sum_any A 9 c _ w hr).mono ?_
  rintro e w' ⟨rfl, rfl⟩
  rw [Crc.ex_sum1]
  exact ⟨rfl, rfl⟩
theorem sum_ex2 (A : Option Addr) (c : Nat) (w : World) (hr : RdB w A 1 c [0]) :
    Calls Try.prog 15 #[.slice A 1 c] w fun e w' => e = .returned (.int .u32 3523407757) ∧ w = w' := by
  refine (sum_any A 1 c _ w hr).mono ?_
  rintro e w' ⟨rfl, rfl⟩
  rw [Crc.ex_sum2]
  exact ⟨rfl, rfl⟩
theorem seal_ex (w : World) :
    Calls Try.prog 19 #[.slice none 0 0] w fun e w' => ∃ A' c', e = .returned (.slice A' 4 c') ∧ RdB w' A' 4 c' Crc.exSeal ∧ Ext w w' := by
  refine (seal_any none 0 0 [] w (Rd.nil_ _ _ _ _ (Nat.zero_le _)) (by omega)).mono ?_
  rintro e w' ⟨A', c', rfl, hr', hx⟩
  rw [Crc.ex_seal] at hr'
  exact ⟨_, _, rfl, Rd.of_own hr', hx⟩

set_option maxHeartbeats 1000000 in
theorem awake_any (w : World) :
    Calls Try.prog 13 #[] w fun e w' => e = .returned (.bool true) ∧ Ext w w' := by
  have kc := fun (w : World) (C : Array Value) (n c : Nat) => Lib.run_convert_bytes_const (P := Try.prog) w 22 5 C n c Try.underlying22 Try.underlying5
  go_enter Try.func13, Try.ntmps13
  go_wp2_with fail
  refine (open_ex _ _ _ (made_bytes w _ _ 4 rfl (by omega) _ (by simp))).mono ?_
  rintro e w1 ⟨A1, c1, rfl, hx1⟩
  have hx1' : Ext w w1 := Ext.trans ((Below.refl _ _).alloc (Nat.le_refl _) _) hx1
  clear hx1
  go_wp2_with fail
  refine (flip_ex _ _ _ (made_bytes w1 _ _ 2 rfl (by omega) _ (by simp))).mono ?_
  rintro e w2 ⟨A2, c2, rfl, hr2, hx2⟩
  have hx2' : Ext w w2 := Ext.trans (Ext.trans hx1' ((Below.refl _ _).alloc (Nat.le_refl _) _)) hx2
  clear hx1' hx2
  go_wp2_with fail
  refine (sum_ex1 _ _ _ (made_bytes w2 _ _ 9 rfl (by omega) _ (by simp))).mono ?_
  rintro e w' ⟨rfl, rfl⟩
  go_wp2_with fail
  refine (sum_ex2 _ _ _ (made_bytes _ _ _ 1 rfl (by omega) _ (by simp))).mono ?_
  rintro e w' ⟨rfl, rfl⟩
  have hconv := fun o1 o2 => run_str ((hr2.ext ((Below.refl _ _).alloc (Nat.le_refl _) o1)).ext ((Below.refl _ _).alloc (Nat.le_refl _) o2))
  have hs1 := str_flip
  have hs2 := str_seal
  go_wp2_with fail
  refine (seal_ex _).mono ?_
  rintro e w3 ⟨A3, c3, rfl, hr3, hx3⟩
  have hx3' : Ext w w3 := Ext.trans (Ext.trans (Ext.trans hx2' ((Below.refl _ _).alloc (Nat.le_refl _) _)) ((Below.refl _ _).alloc (Nat.le_refl _) _)) hx3
  clear hconv
  have hconv := run_str hr3
  go_wp2_with fail
  go_ret
  exact ⟨rfl, hx3'⟩
end Go.Proofs.Ytdecfjdmcfnbkaa
