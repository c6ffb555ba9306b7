/- Builders of strings: the copy check, and the string that is built. -/
import Derived.Test.YtlpdcjbkbcmahaaGreatDoorAvPlain
import Derived.Test.YtlpdcjbkbcmahaaGreatDoorAvObj
import Derived.Test.YtlpdcjbkbcmahaaGreatDoorAvRf
import Derived.Test.YtlpdcjbkbcmahaaGreatDoorProg
import Derived.WalkKit
import Derived.Lib.Walk
import Derived.Lib.Builder
import Derived.Lib.UnsafeStr
import Derived.Shelf.RegionOpenPlain
set_option linter.unusedVariables false
set_option linter.unusedSimpArgs false
namespace Go.Av
open Go.RowKit Go.Base Go.Proofs

set_option maxHeartbeats 1000000 in
set_option maxRecDepth 100000 in
theorem check_fresh (b : Nat) (w : World) (h0 : w.cell? ⟨b, 0, none⟩ = some (.pointer none)) (hsh : w.shape? b = some (109, 2)) (hfz : w.frozen? ⟨b, 0, none⟩ = false) :
    Calls Tryz.prog 99 #[.pointer (some ⟨b, 0, none⟩)] w fun e w' => e = .returned (.tuple #[]) ∧ w' = w.setCell ⟨b, 0, none⟩ (.pointer (some ⟨b, 0, none⟩)) := by
  obtain ⟨j, hj, hjs⟩ := Option.map_eq_some_iff.1 (show (Tryz.prog.info? 109).map (·.size) = some 2 by kernel_rfl)
  have t1 := Tryz.underlying106
  have t2 := Tryz.underlying221
  have hlies : liesAt Tryz.prog Tryz.prog.depth 109 (2 / Tryz.prog.cellsOf 109) 0 109 1 = true := by kernel_rfl
  go_enter Tryz.func99, Tryz.ntmps99
  go_wp2
  rw [Lib.run_to_unsafe w ⟨b, 0, none⟩ t1 t2 hj (by rw [hjs]; decide) hsh (Nat.zero_lt_succ 1)]
  simp only [Result.andThen]
  rw [Oper.upon_value]
  go_wp2
  rw [run_callFunc_extern Tryz.func143 (by kernel_rfl) (by kernel_rfl) (by kernel_rfl) (e := Extern.AbiNoEscape.same) (by kernel_rfl)]
  rw [Lib.run_noEscape]
  simp only [Result.andThen]
  rw [Oper.upon_value]
  go_wp2
  rw [Lib.run_from_unsafe w ⟨b, 0, none⟩ t2 t1 hj hsh hlies]
  simp only [Result.andThen]
  rw [Oper.upon_value]
  go_wp2
  go_end0
  exact ⟨rfl, rfl⟩
set_option maxHeartbeats 1000000 in
set_option maxRecDepth 100000 in
theorem check_used (b : Nat) (w : World) (h0 : w.cell? ⟨b, 0, none⟩ = some (.pointer (some ⟨b, 0, none⟩))) :
    Calls Tryz.prog 99 #[.pointer (some ⟨b, 0, none⟩)] w fun e w' => e = .returned (.tuple #[]) ∧ w' = w := by
  obtain ⟨j, hj, _⟩ := Option.map_eq_some_iff.1 (show (Tryz.prog.info? 109).map (·.size) = some 2 by kernel_rfl)
  go_enter Tryz.func99, Tryz.ntmps99
  go_wp2
  rw [Lib.run_neq_ptr_same w _ Tryz.underlying106 hj]
  go_wp2
  go_end0
  exact ⟨rfl, rfl⟩

noncomputable def mcc0 : Option Unit := some ()
noncomputable def qcc0 (y : Unit) : OF := ⟨.tup [], [(0, .cells [.ptr 0 0, .ap 0 0 (fun _ => .bad) .nl])], []⟩
theorem pocc0 {r : Unit} (h : mcc0 = some r) : ObjF Tryz.prog 99 [.ptr 0 0] [(0, .bld0 109)] [] (qcc0 r) := by
  refine ⟨⟨_, Tryz.func99, by kernel_rfl, by decide⟩, fun own γ w vs H big F hr => ?_⟩
  obtain ⟨b, x, e1, e2, e3, e4, e5⟩ := H.blk (id := 0) (o := .bld0 109) rfl rfl
  simp only [RepO] at e3
  subst e3
  simp only [RepAL, RepA] at hr
  obtain ⟨v, t, rfl, ⟨b', hb', rfl⟩, rfl⟩ := hr
  rw [e1] at hb'
  injection hb' with hb'
  injection hb' with hb'
  subst hb'
  refine (check_fresh b w (by simp [World.cell?, e2]) (by simp [World.shape?, e2]) (by simp [World.frozen?, e2])).mono ?_
  rintro e w' ⟨rfl, rfl⟩
  have hx : (w.setCell ⟨b, 0, none⟩ (.pointer (some ⟨b, 0, none⟩))).heap[b]? = some (.cells #[.pointer (some ⟨b, 0, none⟩), .slice none 0 0] 109 (0, 0)) := by
    simp [World.setCell, Array.getElem?_modify, e2]
  have hg : w.grownBy (w.setCell ⟨b, 0, none⟩ (.pointer (some ⟨b, 0, none⟩))) (some b) :=
    ⟨rfl, rfl, rfl, by simp [World.setCell], fun k _ hk => Below.heap_setCell _ _ _ _ (fun e => hk (by simp [e]))⟩
  have S := stp_write H 16 (d := 0) (o := .bld0 109) (o' := .cells [.ptr 0 0, .ap 0 0 (fun _ => .bad) .nl]) rfl rfl e1 hg hx (by
    refine ⟨[.pointer (some ⟨b, 0, none⟩), .slice none 0 0], 109, rfl, ?_, by simp [Value.oneCell']⟩
    simp only [RepAL, RepA, RightOk, Rep]
    exact ⟨_, _, rfl, ⟨b, e1, rfl⟩, _, _, rfl, ⟨⟨none, 0, rfl, Nat.le_refl _, Nat.zero_le _, fun h => absurd h (by omega)⟩, rfl⟩, rfl⟩)
    (v := .any) (u := undef) (by simp only [RepA]) { upd := some (0, .cells [.ptr 0 0, .ap 0 0 (fun _ => .bad) .nl]) } rfl rfl rfl rfl
  refine ⟨_, γ, rfl, LeM.refl _, fun _ _ _ h => h, ?_, S.base, by simp only [qcc0, RepA, RepAL]; exact ⟨[], rfl, rfl⟩, fun _ _ _ _ => rfl⟩
  have e1 : lookO (qcc0 r).hp = effH 16 { upd := some (0, .cells [.ptr 0 0, .ap 0 0 (fun _ => .bad) .nl]) } (lookO [(0, .bld0 109)]) := by
    funext j
    simp only [qcc0, effH, lookO, addF]
    by_cases hj : j = 0
    · subst hj; rfl
    · rw [if_neg (Ne.symm hj), if_neg hj, if_neg (Ne.symm hj)]
  rw [e1]
  exact S.hp.lives fun t ht => by cases ht

def heldO (a0 : List Int) : List (Nat × Ob) := [(1, .vec 5 1 a0.length (cF (D.int .u8) a0)), (0, .cells [.ptr 0 0, .vec 1 1 a0.length])]
noncomputable def mcc1 (a0 : List Int) : Option Unit := some ()
noncomputable def qcc1 (a0 : List Int) (y : Unit) : OF := ⟨.tup [], [(1, .vec 5 1 a0.length (cF (D.int .u8) a0)), (0, .cells [.ptr 0 0, .vec 1 1 a0.length])], []⟩
theorem pocc1 {a0 : List Int} {r : Unit} (h : mcc1 a0 = some r) : ObjF Tryz.prog 99 [.ptr 0 0] [(1, .vec 5 1 a0.length (cF (D.int .u8) a0)), (0, .cells [.ptr 0 0, .vec 1 1 a0.length])] [] (qcc1 a0 r) := by
  refine ⟨⟨_, Tryz.func99, by kernel_rfl, by decide⟩, fun own γ w vs H big F hr => ?_⟩
  obtain ⟨b, x, e1, e2, e3, e4, e5⟩ := H.blk (id := 0) (o := .cells [.ptr 0 0, .vec 1 1 a0.length]) rfl rfl
  obtain ⟨us, te, rfl, hu, _⟩ := e3
  simp only [RepAL, RepA] at hr hu
  obtain ⟨v, t, rfl, ⟨b', hb', rfl⟩, rfl⟩ := hr
  obtain ⟨v1, t1, rfl, ⟨b2, hb2, rfl⟩, v2, t2, rfl, _, rfl⟩ := hu
  rw [e1] at hb' hb2
  injection hb' with hb'
  injection hb' with hb'
  subst hb'
  injection hb2 with hb2
  injection hb2 with hb2
  subst hb2
  refine (check_used b w (by simp [World.cell?, e2])).mono ?_
  rintro e w' ⟨rfl, rfl⟩
  exact ⟨_, γ, rfl, LeM.refl _, fun _ _ _ h => h, H, Base.refl _ _, by simp only [qcc1, RepA, RepAL]; exact ⟨[], rfl, rfl⟩, fun _ _ _ _ => rfl⟩

/-! ### The string -/
set_option maxHeartbeats 2000000 in
set_option maxRecDepth 100000 in
theorem string_row (b g cap : Nat) (p : Value) (cur : Array Value) (l : List UInt8) (T : TypeId) (w : World) (hbk : w.heap[b]? = some (.cells #[p, .slice (some ⟨g, 0, none⟩) l.length cap] T (0, 0))) (h0 : l ≠ [])
    (hg : w.heap[g]? = some (.cells cur 5 (0, 0))) (hcap : l.length ≤ cap) (hcm : cap ≤ maxLen) (hcs : cur.size = cap) (hcur : ∀ (j : Nat) (x : UInt8), l[j]? = some x → cur[j]? = some (.int .u8 x.toNat)) :
    Calls Tryz.prog 59 #[.pointer (some ⟨b, 0, none⟩)] w fun e w' => e = .returned (.string ⟨⟨l⟩⟩) ∧ w.grownBy w' (some g) := by
  have hl0 : l.length ≠ 0 := by simpa using h0
  have c1 : w.drew.cell? ⟨b, 1, none⟩ = some (.slice (some ⟨g, 0, none⟩) l.length cap) := by
    have : w.drew.heap[b]? = some (.cells #[p, .slice (some ⟨g, 0, none⟩) l.length cap] T (0, 0)) := hbk
    rw [Lib.cell_of_heap this]; rfl
  have hSD : (Builtin.unsafeSliceData_ #[107] 171 #[.slice (some ⟨g, 0, none⟩) l.length cap]).run Tryz.prog w.drew = .ok (.pointer (some ⟨g, 0, none⟩)) w.drew :=
    Lib.run_unsafeSliceData_row _ _ _ _ _ _ (by omega)
  have hUS : (Builtin.unsafeString_ #[171, 3] 9 #[.pointer (some ⟨g, 0, none⟩), .int .i64 l.length]).run Tryz.prog w.drew = .ok (.string ⟨l.toArray⟩) (w.drew.freeze ⟨g, 0, none⟩ l.length) := by
    refine Lib.run_unsafeString_row w.drew 171 3 9 5 Tryz.underlying171 (by kernel_rfl) g cur.size (by have hg' : w.drew.heap[g]? = some (.cells cur 5 (0, 0)) := hg; simp [World.shape?, hg']) l h0 (by omega) (by unfold maxLen at hcm; omega) ?_
    intro j x hx
    have hg' : w.drew.heap[g]? = some (.cells cur 5 (0, 0)) := hg
    have ha : (⟨g, 0, none⟩ : Addr).add j = ⟨g, j, none⟩ := by unfold Addr.add; split <;> simp_all
    rw [ha, Lib.cell_of_heap hg']
    exact hcur j x hx
  have mixed : Tryz.prog.follows Departure.mixedOrders = true := by kernel_rfl
  have hgr : w.grownBy (w.drew.freeze ⟨g, 0, none⟩ l.length) (some g) := by
    unfold World.freeze
    rw [if_neg hl0]
    exact ⟨rfl, rfl, rfl, by simp, fun k _ hk => by
      simp only [Array.getElem?_modify]
      rw [if_neg (fun e : g = k => hk (by rw [e]))]; rfl⟩
  go_enter Tryz.func59, Tryz.ntmps59
  go_wp2
  go_region_o
  all_goals (go_wp2; go_ret; exact ⟨rfl, hgr⟩)
noncomputable def mbs1 (a0 : List Int) : Option (List UInt8) := if a0 ≠ [] ∧ a0.all (fun x => decide (0 ≤ x ∧ x < 256)) = true then some (a0.map fun x => x.toNat.toUInt8) else none
noncomputable def qbs1 (a0 : List Int) (y : List UInt8) : OF := ⟨.d (.str y), [(1, .gone), (0, .cells [.ptr 0 0, .any])], []⟩
theorem pobs1 {a0 : List Int} {r : List UInt8} (h : mbs1 a0 = some r) : ObjF Tryz.prog 59 [.ptr 0 0] [(1, .vec 5 1 a0.length (cF (D.int .u8) a0)), (0, .cells [.ptr 0 0, .vec 1 1 a0.length])] [] (qbs1 a0 r) := by
  refine ⟨⟨_, Tryz.func59, by kernel_rfl, by decide⟩, fun own γ w vs H big F hr => ?_⟩
  unfold mbs1 at h
  split at h
  · rename_i hc
    obtain ⟨hne, hby⟩ := hc
    simp only [Option.some.injEq] at h
    obtain ⟨b, x, e1, e2, e3, e4, e5⟩ := H.blk (id := 0) (o := .cells [.ptr 0 0, .vec 1 1 a0.length]) rfl rfl
    obtain ⟨v0, xs, k1, _, ow, hE, kb⟩ := H.vec (id := 1) (e := 5) (sz := 1) (n := a0.length) (f := cF (D.int .u8) a0) rfl
    obtain ⟨us, te, rfl, hu, hone⟩ := e3
    simp only [RepAL, RepA] at hr hu
    obtain ⟨v, t, rfl, ⟨b', hb', rfl⟩, rfl⟩ := hr
    obtain ⟨v1, t1, rfl, ⟨b2, hb2, rfl⟩, v2, t2, rfl, ⟨e, A, c, hv, _⟩, rfl⟩ := hu
    rw [e1] at hb' hb2
    injection hb' with hb'
    injection hb' with hb'
    subst hb'
    injection hb2 with hb2
    injection hb2 with hb2
    subst hb2
    rw [k1] at hv
    injection hv with hv
    injection hv with hv _ _
    subst hv
    have hn0 : a0.length ≠ 0 := by simpa using hne
    obtain ⟨g, cap, cur, hvb, _, hg, h3, h4, h5, h6⟩ : ∃ g cap cur, v0 = .slice (some ⟨g, 0, none⟩) a0.length cap ∧ 0 ≤ g ∧ w.heap[g]? = some (.cells cur 5 (0, 0)) ∧ a0.length ≤ cap ∧ cap ≤ maxLen ∧ cur.size = cap * 1 ∧ cur.toList.take (a0.length * 1) = xs := by
      rcases ow.2 with ⟨_, h0⟩ | h0
      · exact absurd h0 hn0
      · exact h0
    have hrl : r.length = a0.length := by rw [← h]; simp
    have e2' := e2
    rw [hvb, ← hrl] at e2
    have hb0 := List.all_eq_true.1 hby
    refine (string_row b g cap _ cur r te w e2 (fun e => hn0 (by rw [← hrl, e]; rfl)) hg (by omega) h4 (by omega) (fun j x hx => ?_)).mono ?_
    · rw [← h, List.getElem?_map] at hx
      cases hj : a0[j]? with
      | none => rw [hj] at hx; cases hx
      | some y =>
        rw [hj] at hx
        simp only [Option.map_some, Option.some.injEq] at hx
        have hjl : j < a0.length := (List.getElem?_eq_some_iff.1 hj).1
        obtain ⟨u, q1, q2, _, q4⟩ := hE j hjl
        have hy := hb0 y (List.mem_of_getElem? hj)
        simp only [decide_eq_true_eq] at hy
        have hcf : cF (D.int .u8) a0 j = .int .u8 y := by simp [cF, hj]
        rw [hcf] at q1
        simp only [Rep] at q1
        subst q1
        have q5 := q4 0 (by omega)
        simp only [Nat.mul_one, Nat.add_zero] at q5
        rw [← h6, List.getElem?_take, if_pos (by omega)] at q5
        have : (x.toNat : Int) = y := by
          rw [← hx]
          have : y.toNat.toUInt8.toNat = y.toNat := by
            rw [Nat.toUInt8, UInt8.toNat_ofNat']; omega
          rw [this]; omega
        rw [this]
        simpa [Value.cells] using q5
    rintro e w' ⟨rfl, hgr⟩
    have hvo : v0.ownBlock = some g := by rw [hvb]; rfl
    have hbg : b ≠ g := by
      rcases H.inj 0 1 _ _ _ _ rfl rfl rfl rfl (by decide) e1 k1 with h' | h'
      · cases h'
      · intro e; exact h' (by show some b = v0.ownBlock; rw [hvo, e])
    have hbl : b < w.heap.size := (Array.getElem?_eq_some_iff.1 e2).1
    refine ⟨_, γ, rfl, LeM.refl _, fun _ _ _ h => h, ⟨fun c k y hy => ?_, fun id o ho hok => ?_, fun i j oi oj p q hi hj ho1 ho2 hne _ _ => ?_, fun t v e sz ht => (by cases ht), fun s t v u ht => (by cases ht)⟩, ⟨hgr.os, hgr.tape, hgr.output, hgr.size, fun k hk hn => hgr.block k hk (fun e => hn (by injection e with e; rw [e]; exact (kb g hvo).1))⟩, by simp only [qbs1, RepA, Rep], fun _ _ _ _ => rfl⟩
    · have hc : some c ≠ some g := fun e => by injection e with e; rw [e, (kb g hvo).2 k] at hy; cases hy
      rw [World.cell?_of_block (w := w) (hgr.block c (fz_lt H.fz hy) hc)]
      exact H.fz c k y hy
    · simp only [qbs1, lookO] at ho
      split at ho
      · injection ho with ho; subst ho; cases hok
      · split at ho
        · rename_i h0
          subst h0
          injection ho with ho
          subst ho
          refine ⟨.blk b, e1, ⟨_, by rw [hgr.block b hbl (fun e => hbg (by injection e))]; exact e2', [_, _], te, rfl, ?_, hone⟩, fun c hc => by injection hc with hc; subst hc; exact ⟨e4, e5⟩⟩
          simp only [RepAL, RepA]
          exact ⟨_, _, rfl, ⟨b, e1, rfl⟩, _, _, rfl, trivial, rfl⟩
        · cases ho
    · have only : ∀ i o, lookO (qbs1 a0 r).hp i = some o → o.ok = true → i = 0 := fun i o hi ho => by
        simp only [qbs1, lookO] at hi
        split at hi
        · injection hi with hi; subst hi; cases ho
        · split at hi
          · rename_i h0; exact h0.symm
          · cases hi
      exact absurd ((only i oi hi ho1).trans (only j oj hj ho2).symm) hne
  · cases h
end Go.Av
