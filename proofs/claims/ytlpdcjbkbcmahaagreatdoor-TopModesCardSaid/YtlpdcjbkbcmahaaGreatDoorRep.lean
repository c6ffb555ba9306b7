/- slices.Repeat of one number. -/
import Derived.Test.YtlpdcjbkbcmahaaGreatDoorAvPlain
import Derived.Test.YtlpdcjbkbcmahaaGreatDoorAvObj
import Derived.Test.YtlpdcjbkbcmahaaGreatDoorProg
import Derived.WalkKit
import Derived.Lib.Walk
import Derived.Laws.CopyOwn
import Derived.Deep.RegionLaw
import Derived.Shelf.RegionOpenPlain
set_option linter.unusedVariables false
set_option linter.unusedSimpArgs false
namespace Go.Av
open Go.RowKit Go.Base Go.Proofs
set_option maxHeartbeats 2000000 in
set_option maxRecDepth 100000 in
theorem mul_one (c : Nat) (hc : c ≤ 64) (w : World) : Calls Tryz.prog 72 #[.int .u64 1, .int .u64 c] w fun e w' => e = .returned (.tuple #[.int .u64 0, .int .u64 c]) ∧ w' = w := by
  have k1 : bits BinOp.and IntKind.u64 1 4294967295 = 1 := by decide
  have k2 : bits BinOp.and IntKind.u64 (c : Int) 4294967295 = c := by
    have : ∀ c : Nat, c < 65 → bits BinOp.and IntKind.u64 (c : Int) 4294967295 = c := by decide
    exact this c (by omega)
  have k3 : (c : Int) / 4294967296 = 0 := by omega
  have k4 : IntKind.u64.wrap (c : Int) = c := by
    have : ∀ c : Nat, c < 65 → IntKind.u64.wrap (c : Int) = c := by decide
    exact this c (by omega)
  have k5 : IntKind.u64.wrap 0 = 0 := by decide
  have k6 : bits BinOp.and IntKind.u64 0 4294967295 = 0 := by decide
  go_enter Tryz.func72, Tryz.ntmps72
  go_wp2
  go_ret2
  refine ⟨?_, rfl⟩
  simp only [k1, k2, k3, k4, k5, k6, Int.one_mul, Int.mul_zero, Int.zero_add, Int.zero_ediv]
  rfl
def repRow (x : Int) (N k : Nat) : List Value := List.replicate k (.int .i64 x) ++ List.replicate (N - k) (.int .i64 0)
theorem repRow_splice (x : Int) (N k m : Nat) (h : k + m ≤ N) : splice (repRow x N k) k (List.replicate m (.int .i64 x)) = repRow x N (k + m) := by
  unfold splice repRow
  have e1 : (List.replicate k (Value.int .i64 x) ++ List.replicate (N - k) (Value.int .i64 0)).take k = List.replicate k (.int .i64 x) := by simp
  have e2 : (List.replicate k (Value.int .i64 x) ++ List.replicate (N - k) (Value.int .i64 0)).drop (k + (List.replicate m (Value.int .i64 x)).length) = List.replicate (N - (k + m)) (.int .i64 0) := by
    rw [List.length_replicate, List.drop_append]
    simp [List.drop_eq_nil_of_le]
    omega
  rw [e1, e2, ← List.append_assoc, List.replicate_append_replicate]
theorem int_size : (Tryz.prog.info? 3).map (·.size) = some 1 := by kernel_rfl
theorem copy_rep {x : Int} {N : Nat} (W : World) (g k m : Nat) (A : Option Addr) (sLen sCap dLen dCap : Nat) (hg : W.heap[g]? = some (.cells (repRow x N k).toArray 3 (0, 0))) (hm : m = min sLen dLen) (hkm : k + m ≤ N)
    (hsrc : 0 < m → ∃ ad, A = some ad ∧ ∀ j, j < m → W.cell? (ad.add j) = some (.int .i64 x)) :
    ∃ W', (Builtin.copy_ #[51, 51] 3 #[.slice (some ⟨g, k, none⟩) dLen dCap, .slice A sLen sCap]).run Tryz.prog W = .ok (.int .i64 m) W' ∧ W'.heap[g]? = some (.cells (repRow x N (k + m)).toArray 3 (0, 0)) ∧ W.grownBy W' (some g) := by
  rcases Nat.eq_zero_or_pos m with h0 | h0
  · subst h0
    exact ⟨W, run_copy_none W 51 51 3 3 _ _ dLen dCap sLen sCap Tryz.underlying51 int_size hm.symm, hg, World.grownBy.refl _ _⟩
  · obtain ⟨ad, rfl, hc⟩ := hsrc h0
    have hrun := run_copy_row (P := Tryz.prog) W 51 51 3 3 g k dLen dCap ad sLen sCap (repRow x N k).toArray 3 (List.replicate m (.int .i64 x)) Tryz.underlying51 int_size hg (by simpa using hm)
      (fun j v hj => by
        have hjm : j < m := by have := (List.getElem?_eq_some_iff.1 hj).1; simpa using this
        rw [List.getElem?_replicate, if_pos hjm] at hj
        injection hj with hj
        rw [← hj]; exact hc j hjm) (by simp [repRow]; omega) (by simp [Value.oneCell'])
    rw [List.length_replicate] at hrun
    refine ⟨_, hrun, ?_, ⟨rfl, rfl, rfl, by simp [World.setRow], fun j _ hj => setRow_other W g j _ (fun e => hj (by rw [e]))⟩⟩
    have hs := repRow_splice x N k m hkm
    unfold splice at hs
    rw [List.length_replicate, ← List.append_assoc] at hs
    have := setRow_heap W g (repRow x N k).toArray ((repRow x N k).toArray.toList.take k ++ List.replicate m (Value.int .i64 x) ++ (repRow x N k).toArray.toList.drop (k + m)).toArray 3 _ hg
    rw [this]
    simp only [hs]
theorem ext_grown {w w1 w2 : World} (h : Ext w w1) (hg : w1.grownBy w2 (some w.heap.size)) : Ext w w2 :=
  ⟨hg.os.trans h.os, hg.tape.trans h.tape, hg.output.trans h.output, Nat.le_trans h.size hg.size, fun k hk => (hg.block k (Nat.lt_of_lt_of_le hk h.size) (fun e => by injection e; omega)).trans (h.block k hk)⟩
set_option maxHeartbeats 2000000 in
set_option maxRecDepth 100000 in
theorem rep_walk (b0 o0 c0 : Nat) (x : Int) (N : Nat) (hN : N ≤ 64) (w : World) (hx : w.cell? ⟨b0, o0, none⟩ = some (.int .i64 x)) :
    Calls Tryz.prog 42 #[.slice (some ⟨b0, o0, none⟩) 1 c0, .int .i64 N] w fun e w' =>
      e = .returned (.slice (some ⟨w.heap.size, 0, none⟩) N N) ∧ Ext w w' ∧ w'.heap[w.heap.size]? = some (.cells (repRow x N N).toArray 3 (0, 0)) := by
  have m1 := mul_one N hN
  have k1 : IntKind.u64.wrap 1 = 1 := by decide
  have k2 : IntKind.u64.wrap (N : Int) = N := by
    have : ∀ c : Nat, c < 65 → IntKind.u64.wrap (c : Int) = c := by decide
    exact this N (by omega)
  have k3 : IntKind.i64.wrap (N : Int) = N := w64 (by omega) (by omega)
  have mixed : Tryz.prog.follows Departure.mixedOrders = true := by kernel_rfl
  obtain ⟨i0, hi0, hrest⟩ := Option.map_eq_some_iff.1 (show (Tryz.prog.info? 3).map (fun i => (i.zero, i.size, i.bytes)) = some (some (.int .i64 0), 1, 8) by kernel_rfl)
  obtain ⟨hz0, hrest⟩ := Prod.mk.inj hrest
  obtain ⟨hs0, hb0⟩ := Prod.mk.inj hrest
  have hsz : (Tryz.prog.info? 3).map (·.size) = some 1 := by rw [hi0]; simp [hs0]
  have hmk : ∀ w : World, (Instr.makeSlice 51 (.int .i64 N) (.int .i64 N)).run Tryz.prog w = .ok (.slice (some ⟨w.heap.size, 0, none⟩) N N) (w.alloc (.cells (repRow x N 0).toArray 3)) := fun w => by
    have := run_make (P := Tryz.prog) w 51 3 i0 (.int .i64 0) Tryz.underlying51 hi0 hz0 .i64 .i64 N N (by omega) (by omega) (by rw [hb0]; omega) (by omega)
    rw [this, hs0, Int.toNat_natCast, Nat.mul_one]
    congr 3
    apply Array.ext
    · simp [repRow, size_madeCells]
    · intro j h1 h2
      have : j < N := by simpa [size_madeCells] using h1
      have e := made_get (.int .i64 0) N j this
      have e1 : (madeCells (Value.int .i64 0).cells N)[j] = .int .i64 0 := by
        have e2 := Array.getElem?_eq_getElem h1
        exact Option.some.inj (e2.symm.trans e)
      rw [e1]
      simp [repRow]
  go_enter Tryz.func42, Tryz.ntmps42
  go_wp2_with (go_at_call 72; refine (m1 _).mono ?_; rintro e w1 ⟨rfl, rfl⟩)
  obtain ⟨m, hm⟩ : ∃ m, m = min 1 N := ⟨_, rfl⟩
  have hg0 : (w1.alloc (.cells (repRow x N 0).toArray 3)).heap[w1.heap.size]? = some (.cells (repRow x N 0).toArray 3 (0, 0)) := heap_alloc_new w1 _
  have hx1 : (w1.alloc (.cells (repRow x N 0).toArray 3)).cell? ⟨b0, o0, none⟩ = some (.int .i64 x) := by
    rw [World.cell?_of_block (w := w1) (heap_alloc_old w1 _ (World.block_lt_of_cell? _ _ hx))]; exact hx
  have hb1 : Ext w1 (w1.alloc (.cells (repRow x N 0).toArray 3)) := (Below.refl _ _).alloc (Nat.le_refl _) _
  obtain ⟨W2, hr2, hg2, hgr2⟩ := copy_rep (w1.alloc (.cells (repRow x N 0).toArray 3)) w1.heap.size 0 m (some ⟨b0, o0, none⟩) 1 c0 N N hg0 hm (by omega) (fun _ => ⟨_, rfl, fun j hj => by
    obtain rfl : j = 0 := by omega
    have : (⟨b0, o0, none⟩ : Addr).add 0 = ⟨b0, o0, none⟩ := by unfold Addr.add; split <;> simp_all
    rw [this]; exact hx1⟩)
  rw [hr2]
  simp only [Result.andThen]
  rw [Oper.upon_value]
  have hb2 := ext_grown hb1 hgr2
  clear hr2 hgr2 hb1 hx1 hg0
  rw [Nat.zero_add] at hg2
  have hm1 : 0 < N → 0 < m := fun h => by omega
  have hm2 : m ≤ N := by omega
  clear hm
  go_wp2
  go_loopw [8] (fun i wr => ∃ k : Nat, k ≤ N ∧ (0 < N → 0 < k) ∧ i = .int .i64 k ∧ wr.heap[w1.heap.size]? = some (.cells (repRow x N k).toArray 3 (0, 0)) ∧ Ext w1 wr) (fun i _ => N - (intOf i).toNat)
  case atStart => exact ⟨m, hm2, hm1, rfl, hg2, hb2⟩
  case round =>
    obtain ⟨k, hk, hk0, rfl, hgk, hbk⟩ := hrel
    by_cases hlt : k < N
    · obtain ⟨W3, hr3, hg3, hgr3⟩ := copy_rep wr.drew w1.heap.size k (min k (N - k)) (some ⟨w1.heap.size, 0, none⟩) k N (N - k) (N - k) hgk rfl (by omega) (fun _ => ⟨_, rfl, fun j hj => by
        have : (⟨w1.heap.size, 0, none⟩ : Addr).add j = ⟨w1.heap.size, j, none⟩ := by unfold Addr.add; split <;> simp_all
        rw [this]
        have hgk' : wr.drew.heap[w1.heap.size]? = some (.cells (repRow x N k).toArray 3 (0, 0)) := hgk
        have hjk : j < k := by omega
        simp [World.cell?, hgk', repRow, List.getElem?_append, hjk]⟩)
      have hw5 : IntKind.i64.wrap ((k : Int) + (min k (N - k) : Nat)) = ((k + min k (N - k) : Nat) : Int) := by rw [w64 (by omega) (by omega)]; omega
      have hb3 := ext_grown (hbk.drew) hgr3
      obtain ⟨m3, hm3⟩ : ∃ m3, m3 = min k (N - k) := ⟨_, rfl⟩
      rw [← hm3] at hr3 hg3 hw5
      have HM := hide hm3
      clear hm3
      go_wp2
      go_region_o
      all_goals (
        have hm3 := HM.out
        clear hr3
        go_wp2
        go_roundw
        case rel => exact ⟨k + m3, by omega, fun _ => by omega, by simp, hg3, hb3⟩
        case measure => simp [intOf]; omega)
    · obtain rfl : k = N := by omega
      go_wp2
      go_ret
      exact ⟨rfl, hbk, hgk⟩
noncomputable def m42 (a0 : List Int) (a1 : Int) : Option (List Int) := match a0 with
  | [x] => if 0 ≤ a1 ∧ a1 ≤ 64 then some (List.replicate a1.toNat x) else none
  | _ => none
theorem p42 {a0 : List Int} {a1 : Int} {r : List Int} (h : m42 a0 a1 = some r) : PureAt Tryz.prog 42 [(eSl 1 (D.int .i64) a0), (.int .i64 a1)] (eSl 1 (D.int .i64) r) := by
  refine ⟨⟨_, Tryz.func42, by kernel_rfl, by decide⟩, fun μ w vs hz hr => ?_⟩
  unfold m42 at h
  split at h
  · rename_i x
    split at h
    · rename_i hc
      obtain ⟨N, rfl⟩ := Int.eq_ofNat_of_zero_le hc.1
      have hN : N ≤ 64 := by omega
      simp only [Int.toNat_natCast, Option.some.injEq] at h
      subst h
      simp only [eSl, RepL, Rep] at hr
      obtain ⟨v, t, rfl, ⟨A, c, rfl, _, _, hA⟩, v2, t2, rfl, rfl, rfl⟩ := hr
      obtain ⟨b, o, rfl, hi⟩ := hA (by simp)
      obtain ⟨u, h1, h2, h3, h4⟩ := hi 0 (by simp)
      have hcf : cF (D.int .i64) [x] 0 = .int .i64 x := by simp [cF]
      rw [hcf] at h1
      simp only [Rep] at h1
      subst h1
      have h5 := h4 0 (by omega)
      simp only [Nat.zero_mul, Nat.add_zero] at h5
      have hx : w.cell? ⟨b, o, none⟩ = some (.int .i64 x) := hz _ _ _ (by rw [h5]; rfl)
      refine (rep_walk b o c x N hN w hx).mono ?_
      rintro e w' ⟨rfl, hext, hg⟩
      let ν : Nat → Nat → Option Value := fun b k => if b < w.heap.size then μ b k else w'.cell? ⟨b, k, none⟩
      refine ⟨_, ν, rfl, hext, fun b o hb => by simp only [ν, if_pos hb], fun b k v hv => ?_, ?_⟩
      · simp only [ν] at hv
        split at hv
        · rename_i hb
          rw [World.cell?_of_block (w := w) (hext.block b hb)]
          exact hz b k v hv
        · exact hv
      · simp only [eSl, Rep, List.length_replicate]
        refine ⟨_, N, rfl, Nat.le_refl _, by unfold maxLen; omega, fun _ => ⟨w.heap.size, 0, rfl, fun i hi => ⟨.int .i64 x, ?_, rfl, by simp [Value.cells, Value.oneCell'], fun j hj => ?_⟩⟩⟩
        · have : cF (D.int .i64) (List.replicate N x) i = .int .i64 x := by simp [cF, hi]
          rw [this]; simp only [Rep]
        · obtain rfl : j = 0 := by omega
          simp only [ν, if_neg (Nat.lt_irrefl _)]
          simp [World.cell?, hg, repRow, Value.cells, hi]
    · cases h
  · cases h
end Go.Av
