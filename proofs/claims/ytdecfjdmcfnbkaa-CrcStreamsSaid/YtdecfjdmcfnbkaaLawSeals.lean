/- The walk of the statement on sealing. -/
import Derived.Test.YtdecfjdmcfnbkaaLaws
import Derived.Test.YtdecfjdmcfnbkaaInv
import Derived.Deep.RegionWith
import Derived.Deep.RegionHeld3
import Derived.Deep.DeepCutAuto
namespace Go.Proofs.Ytdecfjdmcfnbkaa
open Go.RowKit Go.Bv Go.Base

theorem seal_take {q : List (BitVec 8)} {m : Nat} (h : q.length = m) : (Crc.seal_ q).take m = q := by
  subst h
  rw [Crc.seal_, List.take_left]
theorem open_sealed (A : Option Addr) (n c : Nat) (l : List (BitVec 8)) (w : World) (hr : RdB w A (n + 4) c (Crc.seal_ l)) (hn : n + 4 ≤ 4294967296) :
    Calls Try.prog 21 #[.slice A (n + 4) c] w fun e w' => ∃ A' c', e = .returned (.tuple #[.slice A' n c', .int .i64 0]) ∧ w'.ownsRow w.heap.size 5 1 (.slice A' n c') n (l.map b8) ∧ Ext w w' := by
  have hl : l.length = n := by have := hr.length; simp [Crc.seal_, Crc.le4] at this; omega
  refine (open_any _ _ _ _ _ hr hn).mono ?_
  rintro e w' ⟨A', c', rfl, hown, hx⟩
  rw [(Crc.opened_seal l).1] at hown
  rw [(Crc.opened_seal l).1, (Crc.opened_seal l).2]
  subst hl
  exact ⟨A', c', rfl, hown, hx⟩

set_option maxHeartbeats 400000 in
theorem seals_law (A : Option Addr) (n c : Nat) (l : List (BitVec 8)) (w : World) (hr : RdB w A n c l) :
    Calls Try.prog 6 #[.slice A n c] w fun e w' => e = .returned (.bool true) ∧ Ext w w' := by
  have hm := hr.cap_le
  have hc := hr.cap
  go_enter Try.func6, Try.ntmps6
  go_wp2_with fail
  refine (awake_any _).mono ?_
  rintro e w1 ⟨rfl, hx1⟩
  have hr0 := hr.ext hx1
  go_wp2_with fail
  refine (cut_bytes _ _ _ l 1000 (by omega) _ hr0).mono ?_
  rintro e w' ⟨m, q, rfl, hmk, hmn, hq, hr1, rfl⟩
  clear hq hr0 hr hm hc
  have hs1 := run_str hr1
  go_wp2_with fail
  refine (seal_any _ _ _ _ _ hr1 (by omega)).mono ?_
  rintro e w2 ⟨A2, c2, rfl, hown2, hx2⟩
  have hr2 : RdB w2 A2 (m + 4) c2 (Crc.seal_ q) := Rd.of_own hown2
  have hr1b := hr1.ext hx2
  clear hs1
  go_upto_region 6 with fail
  go_cut [34] (fun s34 wx => s34 = .bool false ∧ Ext w2 wx)
  case first =>
    have g2 : (n32 (Crc.sum (Crc.seal_ q)) != 558161692) = false := by rw [Crc.sum_seal]; rfl
    refine wp_region_inv (w0 := w2) (V := [fun v _ => v = .slice A2 (m + 4) c2, fun v _ => v = .int .i64 ((m : Int) + 4), fun v _ => v = .slice A m c, fun v _ => v = .int .i64 m, fun v _ => v = .int .i64 ((m : Int) + 4),
      fun v _ => v = .bool false, fun v _ => v = .bool false, fun v _ => v = .slice A2 (m + 4) c2, fun v _ => v = .int .u32 558161692, fun v _ => v = .bool false, fun v _ => v = .bool false, fun v _ => v = .bool false,
      fun v _ => v = .slice A2 (m + 4) c2, fun v _ => v = .string (str (Crc.seal_ q)), fun v _ => v = .slice A m c, fun v w => ∃ A3 c3, v = .slice A3 (m + 4) c3 ∧ RdB w A3 (m + 4) c3 (Crc.seal_ q), fun v _ => v = .string (str (Crc.seal_ q)),
      fun v _ => v = .bool false, fun v _ => v = .bool false]) (by kernel_rfl) (by kernel_rfl) (stable_nth ?_) ?_ ?_
    · refine ⟨Stable.eq _, Stable.eq _, Stable.eq _, Stable.eq _, Stable.eq _, Stable.eq _, Stable.eq _, Stable.eq _, Stable.eq _, Stable.eq _, Stable.eq _, Stable.eq _, Stable.eq _, Stable.eq _, Stable.eq _, ?_, Stable.eq _, Stable.eq _, Stable.eq _, trivial⟩
      rintro v w w' ⟨A3, c3, rfl, h⟩ hx
      exact ⟨A3, c3, rfl, h.ext hx⟩
    · intro u A hA
      simp only [putFrom, Act.put, List.setIfInBounds_toArray, List.set_cons_zero, List.set_cons_succ] at hA
      subst hA
      refine ⟨?_, ?_, ?_, ?_, ?_, ?_, ?_, ?_, ?_, ?_, ?_, ?_, ?_, ?_, ?_, ?_, ?_, ?_, ?_, trivial⟩
      all_goals
        intro w hx hp
        dsimp only [Preds, nth] at hp
        try simp only [hp]
      case refine_16 =>
        go_wp2_with (go_at_call 20; refine (rseal_any _ _ _ _ _ (hr1b.ext hx) (by omega)).mono ?_; rintro e w3 ⟨A3, c3, rfl, hr3, hx3⟩)
        exact ⟨_, rfl, ⟨A3, c3, rfl, hr3⟩, hx3⟩
      case refine_9 =>
        go_wp2_with (go_at_call 15; refine (sum_any _ _ _ _ _ (hr2.ext hx)).mono ?_; rintro e w3 ⟨rfl, rfl⟩)
        exact ⟨_, rfl, by rw [Crc.sum_seal]; rfl, Below.refl _ _⟩
      case refine_14 =>
        have hs2 := run_str (hr2.ext hx)
        go_wp2
        exact ⟨_, rfl, rfl, Below.refl _ _⟩
      case refine_17 =>
        obtain ⟨⟨A3, c3, he, hr3⟩, -⟩ := hp
        have hs3 := run_str hr3
        simp only [he]
        go_wp2
        exact ⟨_, rfl, rfl, Below.refl _ _⟩
      all_goals
        go_wp2
        exact ⟨_, rfl, rfl, Below.refl _ _⟩
    · intro u A w hA hx h
      simp only [putFrom, Act.put, List.setIfInBounds_toArray, List.set_cons_zero, List.set_cons_succ] at hA
      subst hA
      have h18 : u 18 = .bool false := h 18 (by decide)
      simp only [h18]
      go_wp2_with fail
      go_meet
      exact ⟨rfl, hx⟩
  case rest =>
    obtain ⟨rfl, hx3⟩ := hcut
    have hr2c := hr2.ext hx3
    have hr1c := hr1b.ext hx3
    clear hr2 hr1b
    go_wp2_with fail
    refine (open_sealed _ _ _ _ _ hr2c (by omega)).mono ?_
    rintro e w4 ⟨A4, c4, rfl, hown4, hx4⟩
    have hr2d := hr2c.ext hx4
    have hr1d := hr1c.ext hx4
    have hs4 := run_str (Rd.of_own hown4)
    go_wp2_with fail
    go_loopw [50] (fun i wr => ∃ (k : Nat) (lk : List (BitVec 8)), k ≤ m ∧ i = .int .i64 k ∧ lk.length = m ∧ wr.ownsRow wc.heap.size 5 1 (.slice A4 m c4) m (lk.map b8) ∧ Below wc.heap.size wc wr) (fun i _ => m - (intOf i).toNat)
    case atStart => exact ⟨0, q, by omega, rfl, RdB.length hr1c, hown4, hx4⟩
    case round =>
      obtain ⟨k, lk, hk, rfl, hlk, hown, hbel⟩ := hrel
      by_cases hlt : k < m
      · obtain ⟨g, cap, hv, hge, hlt2⟩ := hown.form (by omega)
        injection hv with e1 _ e2
        subst e1 e2
        have hcell := hown.cellAt k (by omega)
        rw [List.getElem?_map, List.getElem?_eq_getElem (by omega)] at hcell
        have hfr := hown.frozenAt k
        simp only [b8, Option.map_some] at hcell
        have hst := hide (hown.stored k (b8 (BitVec.ofInt 8 (n8 (lk[k]'(by omega)) + 1))))
        clear hs4
        go_wp2_with fail
        go_roundw
        case rel =>
          refine ⟨k + 1, lk.set k (BitVec.ofInt 8 (n8 (lk[k]'(by omega)) + 1)), by omega, by go_num, by simp [hlk], ?_, Below.setCell hbel (p := ⟨g, k, none⟩) hge _⟩
          rw [List.map_set]
          have := hst.out.1
          have e : b8 (BitVec.ofInt 8 (n8 (lk[k]'(by omega)) + 1)) = .int .u8 ((n8 (lk[k]'(by omega)) + 1) % 256) := by unfold b8; rw [← mod_any8]
          rw [e] at this
          rw [e]
          exact this
        case measure => simp [intOf]; omega
      · have hs1 := run_str (hr1c.keep hbel (Nat.le_refl _))
        have ht := (hr2c.keep hbel (Nat.le_refl _)).take (hi := m) (by omega)
        rw [Nat.mul_one, ← List.map_take, seal_take (RdB.length hr1c)] at ht
        have hs2 := run_str ht
        have hcp := hr2c.cap
        clear hs4
        go_wp2_with fail
        go_ret
        exact ⟨by simp, Ext.trans (Ext.trans hx1 (Ext.trans hx2 hx3)) hbel⟩
end Go.Proofs.Ytdecfjdmcfnbkaa
