/- A checksum piece by piece: the methods of a stream. -/
import Derived.Test.YtdecfjdmcfnbkaaComb
namespace Go.Proofs.Ytdecfjdmcfnbkaa
open Go.RowKit Go.Bv Go.Base

/-- A stream in a block. -/
abbrev Str (w : World) (g : Nat) (s : BitVec 32) (n : Int) : Prop := Blk w g 52 [v32 s, .int .i64 n]

theorem new_any (w : World) :
    Calls Try.prog 26 #[] w fun e w' => ∃ g, e = .returned (.pointer (some ⟨g, 0, none⟩)) ∧ w.heap.size ≤ g ∧ Str w' g 0 0 ∧ Ext w w' := by
  go_enter Try.func26, Try.ntmps26
  go_wp2
  go_ret
  exact ⟨w.heap.size, rfl, Nat.le_refl _, Blk.new w _ [v32 0, .int .i64 0], (Below.refl _ _).alloc (Nat.le_refl _) _⟩
theorem reset_any (g : Nat) (s : BitVec 32) (n : Int) (w : World) (hs : Str w g s n) :
    Calls Try.prog 27 #[.pointer (some ⟨g, 0, none⟩)] w fun e w' => e = .returned (.tuple #[]) ∧ w' = (w.setCell ⟨g, 0, none⟩ (v32 0)).setCell ⟨g, 1, none⟩ (.int .i64 0) := by
  have c0 := hs.cell 0
  have c1 := hs.cell 1
  have f0 := hs.frozen 0
  have f1 := hs.frozen 1
  simp only [v32, List.getElem?_cons_zero, List.getElem?_cons_succ] at c0 c1
  go_enter Try.func27, Try.ntmps27
  go_wp2
  go_end0
  exact ⟨rfl, rfl⟩
theorem write_any (g : Nat) (s : BitVec 32) (n : Int) (A : Option Addr) (m c : Nat) (l : List (BitVec 8)) (w : World) (hs : Str w g s n) (hr : RdB w A m c l) (hn0 : 0 ≤ n) (hn1 : n ≤ 1099511627776) (hm : m ≤ 4294967296) :
    Calls Try.prog 28 #[.pointer (some ⟨g, 0, none⟩), .slice A m c] w fun e w' => e = .returned (.tuple #[]) ∧
      w' = (w.setCell ⟨g, 0, none⟩ (v32 (Crc.update s l))).setCell ⟨g, 1, none⟩ (.int .i64 (n + m)) := by
  have c0 := hs.cell 0
  have c1 := hs.cell 1
  have f0 := hs.frozen 0
  have f1 := hs.frozen 1
  simp only [v32, List.getElem?_cons_zero, List.getElem?_cons_succ] at c0 c1
  go_enter Try.func28, Try.ntmps28
  go_wp2_with (go_at_call 17; refine (update_any _ _ _ _ l _ hr).mono ?_; rintro e w' ⟨rfl, rfl⟩)
  go_end0
  exact ⟨rfl, rfl⟩
theorem strSum_any (g : Nat) (s : BitVec 32) (n : Int) (w : World) (hs : Str w g s n) :
    Calls Try.prog 29 #[.pointer (some ⟨g, 0, none⟩)] w fun e w' => e = .returned (.int .u32 (n32 s)) ∧ w = w' := by
  have c0 := hs.cell 0
  simp only [v32, List.getElem?_cons_zero] at c0
  go_enter Try.func29, Try.ntmps29
  go_wp2
  go_ret
  exact ⟨rfl, rfl⟩
theorem strLen_any (g : Nat) (s : BitVec 32) (n : Int) (w : World) (hs : Str w g s n) :
    Calls Try.prog 30 #[.pointer (some ⟨g, 0, none⟩)] w fun e w' => e = .returned (.int .i64 n) ∧ w = w' := by
  have c1 := hs.cell 1
  simp only [List.getElem?_cons_zero, List.getElem?_cons_succ] at c1
  go_enter Try.func30, Try.ntmps30
  go_wp2
  go_ret
  exact ⟨rfl, rfl⟩
theorem write_nil (v : Value) (w : World) : Calls Try.prog 28 #[.pointer none, v] w fun e w' => e = .returned (.tuple #[]) ∧ w = w' := by
  go_enter Try.func28, Try.ntmps28
  go_wp2
  first
    | (refine bodyPost_ret (results_none rfl _ _ _) rfl ?_; exact ⟨rfl, rfl⟩)
    | (go_end0; exact ⟨rfl, rfl⟩)
theorem reset_nil (w : World) : Calls Try.prog 27 #[.pointer none] w fun e w' => e = .returned (.tuple #[]) ∧ w = w' := by
  go_enter Try.func27, Try.ntmps27
  go_wp2
  go_end0
  exact ⟨rfl, rfl⟩
theorem sum_nil (w : World) : Calls Try.prog 29 #[.pointer none] w fun e w' => e = .returned (.int .u32 0) ∧ w = w' := by
  go_enter Try.func29, Try.ntmps29
  go_wp2
  go_ret
  exact ⟨rfl, rfl⟩
theorem len_nil (w : World) : Calls Try.prog 30 #[.pointer none] w fun e w' => e = .returned (.int .i64 0) ∧ w = w' := by
  go_enter Try.func30, Try.ntmps30
  go_wp2
  go_ret
  exact ⟨rfl, rfl⟩
end Go.Proofs.Ytdecfjdmcfnbkaa
