/- slices.Backward's closure over ints: the index and the element, from the last one down. -/
import Derived.Test.YtlpdcjbkbcmahaaGreatDoorAvRf
import Derived.RangeFuncBox
import Derived.RangeFuncLeaves
import Derived.RangeFuncFrom
import Derived.Shelf.Abstract
import Derived.WalkKit
import Derived.OwnWalkIn
import Derived.TacticsInMore
import Derived.LoopNIn
import Derived.LoopIn
import Derived.Test.YtlpdcjbkbcmahaaGreatDoorProg
set_option linter.unusedVariables false
set_option linter.unusedSimpArgs false
namespace Go.Av
open Go.RowKit Go.Base Go.Proofs Go.Shelf

set_option maxRecDepth 100000 in
set_option maxHeartbeats 2000000 in
theorem back_in (n : Nat) (hn : 1 ≤ n) (l Bs b off len cap : Nat) (zs : List Int) (hlen : len < 4611686018427387904) (hb1 : len ≤ cap) (J : List Nat → World → Prop)
    (hJ : ∀ pre W, J pre W → W.cell? ⟨Bs, 0, none⟩ = some (.slice (some ⟨b, off, none⟩) len cap) ∧ ∀ j, j < len → W.cell? ⟨b, off + j, none⟩ = some (.int .i64 (zs.getD j 0)))
    (hY : ∀ pre x W, J pre W → pre.length < len → x = len - 1 - pre.length → YieldAt Fence.wide (n - 1) Tryz.prog l (backEnc zs x) W fun e W' => e = .returned (.bool true) ∧ J (pre ++ [x]) W')
    (W : World) (h0 : J [] W) :
    CallsIn Fence.wide n Tryz.prog 181 #[.func (.yield l) #[] #[], .pointer (some ⟨Bs, 0, none⟩)] W fun e W' => (∃ v, e = .returned v) ∧ J (dn len len) W' := by
  have hBs := (hJ [] W h0).1
  have hsem : ∀ (l : Nat) (ρ : Operand → Value) (o : Oper), (∀ c, o.op ≠ .defer c) → Oper.semAt (some l) ρ o = execOp ρ o := Oper.semAt_some
  have hw1 : IntKind.i64.wrap ((len : Int) - 1) = (len : Int) - 1 := w64 (by omega) (by omega)
  refine callsIn_of_wp Tryz.func181 rfl trivial ?_ rfl
  simp only [Tryz.ntmps181, List.size_toArray, List.length_cons, List.length_nil, Nat.reduceAdd, Nat.reduceSub, Array.replicate_succ, Array.replicate_zero, List.push_toArray, List.append_toArray, List.nil_append, List.cons_append]
  gi_wp2
  gi_loopw [3] (fun i wr => ∃ k : Nat, k ≤ len ∧ i = .int .i64 ((len : Int) - 1 - k) ∧ J (dn len k) wr)
    (fun i _ => (intOf i + 1).toNat)
  case atStart => exact ⟨0, Nat.zero_le _, by simp [hw1], h0⟩
  case round =>
    obtain ⟨k, hk, rfl, hJs⟩ := hrel
    obtain ⟨hBs', hcx⟩ := hJ _ _ hJs
    by_cases hlt : k < len
    · obtain ⟨fn, tmps, assign, body, hy, hR⟩ := hY _ (len - 1 - k) wr hJs (by rw [dn_length]; exact hlt) (by rw [dn_length])
      have hcx' := hcx (len - 1 - k) (by omega)
      obtain ⟨m, hm⟩ : ∃ m : Nat, m = len - 1 - k := ⟨_, rfl⟩
      have hmi : ((len : Int) - 1 - k) = (m : Int) := by omega
      rw [← hm] at hcx' hy hR
      rw [hmi]
      have hml : m < len := by omega
      simp only [backEnc, List.getD_eq_getElem?_getD] at hy hcx'
      replace hm := hide hm
      have hw2 : IntKind.i64.wrap ((m : Int) - 1) = (m : Int) - 1 := w64 (by omega) (by omega)
      gi_wp2
      refine hR.mono ?_
      rintro e W3 ⟨rfl, hJ3⟩
      gi_wp2
      go_roundw
      case rel => exact ⟨k + 1, by omega, by simp only [Value.int.injEq, true_and]; have : m = len - 1 - k := hm; omega, by rw [dn_succ]; have : m = len - 1 - k := hm; rw [← this]; exact hJ3⟩
      case measure => simp [intOf]
    · obtain rfl : k = len := by omega
      have he : ((k : Int) - 1 - k) = -1 := by omega
      rw [he]
      gi_wp2
      go_end0
      exact ⟨⟨_, rfl⟩, hJs⟩

set_option maxRecDepth 100000 in
set_option maxHeartbeats 1000000 in
theorem back_nil (n : Nat) (l Bs : Nat) (J : List Nat → World → Prop) (W : World) (A : Option Addr) (cap : Nat) (hBs : W.cell? ⟨Bs, 0, none⟩ = some (.slice A 0 cap)) (h0 : J [] W) :
    CallsIn Fence.wide n Tryz.prog 181 #[.func (.yield l) #[] #[], .pointer (some ⟨Bs, 0, none⟩)] W fun e W' => (∃ v, e = .returned v) ∧ J (dn 0 0) W' := by
  refine callsIn_of_wp Tryz.func181 rfl trivial ?_ rfl
  simp only [Tryz.ntmps181, List.size_toArray, List.length_cons, List.length_nil, Nat.reduceAdd, Nat.reduceSub, Array.replicate_succ, Array.replicate_zero, List.push_toArray, List.append_toArray, List.nil_append, List.cons_append]
  gi_wp2
  gi_loopw [3] (fun i wr => i = .int .i64 (-1) ∧ J [] wr) (fun _ _ => 0)
  case atStart => exact ⟨rfl, h0⟩
  case round =>
    obtain ⟨rfl, hJs⟩ := hrel
    gi_wp2
    go_end0
    exact ⟨⟨_, rfl⟩, hJs⟩
/-- What the closure of slices.Backward does with a loop's body: it runs it for the indices from the last one down. -/
theorem back_stops : BackOk Tryz.prog 181 := fun n hn A b Bs off len cap zs hlen hcap hA l J W hJ hY h0 => by
  rcases Nat.eq_zero_or_pos len with h | h
  · subst h; exact back_nil n l Bs J W A cap (hJ [] W h0).1 h0
  · rw [hA h] at hJ; exact back_in n hn l Bs b off len cap zs hlen hcap J hJ hY W h0
end Go.Av
