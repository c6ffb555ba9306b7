/- The walk of the statement on streams. -/
import Derived.Test.YtdecfjdmcfnbkaaStream
import Derived.Deep.DeepCutAuto
namespace Go.Proofs.Ytdecfjdmcfnbkaa
open Go.RowKit Go.Bv Go.Base

/-- A slice of slices of bytes. -/
def RdBB (w : World) (A : Option Addr) (n c : Nat) : Prop :=
  ∃ cs : List Value, Rd w 1 A n c cs ∧ ∀ v ∈ cs, ∃ (B : Option Addr) (m d : Nat) (l : List (BitVec 8)), v = .slice B m d ∧ RdB w B m d l
theorem RdBB.ext {w w' : World} {A : Option Addr} {n c : Nat} (h : RdBB w A n c) (hx : Ext w w') : RdBB w' A n c := by
  obtain ⟨cs, h1, h2⟩ := h
  exact ⟨cs, h1.ext hx, fun v hv => by obtain ⟨B, m, d, l, e, hr⟩ := h2 v hv; exact ⟨B, m, d, l, e, hr.ext hx⟩⟩
theorem RdBB.keep {w w' : World} {A : Option Addr} {n c : Nat} (h : RdBB w A n c) (hx : Below w.heap.size w w') : RdBB w' A n c := h.ext hx

theorem cut_bytes2 (A : Option Addr) (n c : Nat) (l : List (BitVec 8)) (k : Nat) (hk : k ≤ 65536) (w : World) (hr : RdB w A n c l) :
    Calls Try.prog 14 #[.slice A n c, .int .i64 k] w fun e w' => ∃ m l', e = .returned (.slice A m c) ∧ m ≤ k ∧ (∀ W, RdB W A n c l → RdB W A m c l') ∧ w = w' := by
  have hc := hr.cap
  have hm := hr.cap_le
  refine (cut_any A n c k w hc hm (by omega) (by omega)).mono ?_
  rintro e w' ⟨rfl, rfl⟩
  exact ⟨min n k, _, rfl, Nat.min_le_right _ _, fun W h => RdB.cut_to h k, rfl⟩
set_option maxHeartbeats 2000000 in
theorem streams_law (A : Option Addr) (n c : Nat) (reset : Int) (w : World) (hr : RdBB w A n c) :
    Calls Try.prog 11 #[.slice A n c, .int .i64 reset] w fun e w' => e = .returned (.bool true) ∧ Ext w w' := by
  obtain ⟨i0, hi0, hz0, hz1, hz2⟩ := info_parts byte_info
  have kc := fun (w : World) (C : Array Value) (n c : Nat) => Lib.run_convert_bytes_const (P := Try.prog) w 22 5 C n c Try.underlying22 Try.underlying5
  go_enter Try.func11, Try.ntmps11
  go_wp2_with fail
  refine (awake_any _).mono ?_
  rintro e w1 ⟨rfl, hx1⟩
  have hr1 := hr.ext hx1
  go_wp2_with fail
  refine (new_any _).mono ?_
  rintro e w2 ⟨g, rfl, hge, hst, hx2⟩
  have hr2 := hr1.ext hx2
  have hn := (hr.choose_spec.1).size_le
  go_wp2_with fail
  go_loopw [6, 7] (fun v6 i wr => ∃ (k : Nat) (A6 : Option Addr) (c6 : Nat) (al : List (BitVec 8)), k ≤ n ∧ k ≤ 12 ∧ i = .int .i64 k ∧ v6 = .slice A6 al.length c6 ∧ al.length ≤ 100 * k ∧ wr.ownsRow w1.heap.size 5 1 (.slice A6 al.length c6) al.length (al.map b8) ∧
      Str wr g (Crc.sum al) al.length ∧ Below w1.heap.size w1 wr) (fun _ i _ => 12 - (intOf i).toNat)
  case atStart => exact ⟨0, none, 0, [], by omega, by omega, rfl, rfl, by simp, World.ownsRow_nil _ _ _ _, hst, hx2⟩
  case round =>
    obtain ⟨k, A6, c6, al, hk, hk12, rfl, rfl, hal, hown, hs, hbel⟩ := hrel
    by_cases hlt : k < n ∧ k < 12
    · obtain ⟨hkn, hkl⟩ := hlt
      obtain ⟨cs, hcs, hin⟩ := hr1
      obtain ⟨b, o, rfl, hb, hc⟩ := hcs.at_ (by omega)
      have hlc : cs.length = n := by have := hcs.len; omega
      obtain ⟨B, m, d, l, hv, hl⟩ := hin (cs[k]'(by omega)) (List.getElem_mem _)
      have hw1k := hc k _ (by rw [List.getElem?_eq_getElem (by omega)])
      rw [hv] at hw1k
      clear hc hin hcs hlc hv
      go_upto_if 25 with fail
      go_cut [6] (fun v6 wx => ∃ (A6 : Option Addr) (c6 : Nat) (al : List (BitVec 8)), v6 = .slice A6 al.length c6 ∧ al.length ≤ 100 * k ∧ wx.ownsRow w1.heap.size 5 1 (.slice A6 al.length c6) al.length (al.map b8) ∧
        Str wx g (Crc.sum al) al.length ∧ Below w1.heap.size w1 wx)
      case first =>
        by_cases hreset : (k : Int) = reset
        · have hne : ((k : Int) == reset) = true := beq_iff_eq.2 hreset
          clear hreset
          go_wp2_with fail
          refine (reset_any _ _ _ _ hs).mono ?_
          rintro e wv ⟨rfl, hwv⟩
          have hsv : Str wv g (Crc.sum []) (([] : List (BitVec 8)).length : Nat) := by
            rw [hwv]
            exact (hs.set_ 0 (v32 0)).set_ 1 (.int .i64 0)
          have hbv : Below w1.heap.size w1 wv := by rw [hwv]; exact Below.setCell (p := ⟨g, 1, none⟩) (Below.setCell (p := ⟨g, 0, none⟩) hbel hge _) hge _
          clear hwv
          go_wp2_with fail
          go_meet
          exact ⟨none, 0, [], rfl, by simp, World.ownsRow_nil _ _ _ _, hsv, hbv⟩
        · have hne : ((k : Int) == reset) = false := beq_eq_false_iff_ne.2 hreset
          clear hreset
          go_wp2_with fail
          go_meet
          exact ⟨A6, c6, al, rfl, hal, hown, hs, hbel⟩
      case rest =>
        clear hown hs hbel hal
        obtain ⟨A6, c6, al, rfl, hal, hown, hs, hbel⟩ := hcut
        have hck := (hbel.cell (p := ⟨b, o + k, none⟩) hb).trans hw1k
        clear hw1k
        go_wp2_with fail
        refine (cut_bytes2 _ _ _ l 100 (by omega) _ (hl.keep hbel (Nat.le_refl _))).mono ?_
        rintro e w' ⟨m1, q, rfl, hm1, hcut, rfl⟩
        have hrq := hcut _ (hl.keep hbel (Nat.le_refl _))
        go_wp2_with fail
        refine (write_any _ _ _ _ _ _ q _ hs hrq (by omega) (by omega) (by omega)).mono ?_
        rintro e wv ⟨rfl, hwv⟩
        have hsv : Str wv g (Crc.sum (al ++ q)) ((al ++ q).length : Nat) := by
          have e1 := (hs.set_ 0 (v32 (Crc.update (Crc.sum al) q))).set_ 1 (.int .i64 ((al.length : Int) + m1))
          rw [← hwv, Crc.update_sum] at e1
          have e2 : ((al ++ q).length : Int) = (al.length : Int) + m1 := by rw [List.length_append, RdB.length hrq]; omega
          rw [e2]
          exact e1
        have hbv : Below w1.heap.size w1 wv := by rw [hwv]; exact Below.setCell (p := ⟨g, 1, none⟩) (Below.setCell (p := ⟨g, 0, none⟩) hbel hge _) hge _
        have hrv : RdB wv B m1 d q := hcut _ (hl.keep hbv (Nat.le_refl _))
        have hne1 : Value.ownBlock (.slice A6 al.length c6) ≠ some g := fun e => own_blk_ne hown hs (by decide) e.symm
        have hov : wv.ownsRow w1.heap.size 5 1 (.slice A6 al.length c6) al.length (al.map b8) := by rw [hwv]; exact own_set_far (own_set_far hown (p := ⟨g, 0, none⟩) hne1 _) (p := ⟨g, 1, none⟩) hne1 _
        have hlq : q.length = m1 := RdB.length hrq
        have hsz := hbv.size
        clear hwv hcut hrq hne1 hs hown hbel
        go_wp2_with (at_builtin; refine wpList_append_any _ rfl (.tmp 36) (.tmp 37) _ rfl w1.heap.size 5 i0 _ 1 1 Try.underlying22 hi0 hz0 hz1 hz2 rfl (by omega) (.slice A6 al.length c6) al.length (al.map b8) rfl hov B m1 d (q.map b8) rfl hrv (b8_one _) (by unfold maxLen; omega) (by omega) hsz ?_; intro v5 w5 hown5 hgrow5 hblk5)
        have hs5 := hsv.grown hgrow5 (own_blk_ne hov hsv (by decide))
        have hb5 := hbv.grown hgrow5 hsz (own_block_le hov)
        rw [← List.map_append, ← hlq, ← List.length_append] at hown5
        obtain ⟨A5, c5, hv5⟩ := own_form hown5
        rw [hv5] at hown5
        rw [hv5]
        have hr5 := Rd.of_own hown5
        have hlen5 : (al ++ q).length = al.length + q.length := List.length_append
        have hle5 : (al ++ q).length ≤ 100 * (k + 1) := by omega
        clear hv5 hblk5 hgrow5 hov hrv hbv hsv hlen5
        generalize al ++ q = al5 at *
        go_wp2_with fail
        refine (strSum_any _ _ _ _ hs5).mono ?_
        rintro e w' ⟨rfl, rfl⟩
        go_wp2_with fail
        refine (rsum_any _ _ _ _ _ hr5).mono ?_
        rintro e w' ⟨rfl, rfl⟩
        go_wp2_with fail
        refine (strLen_any _ _ _ _ hs5).mono ?_
        rintro e w' ⟨rfl, rfl⟩
        go_wp2_with fail
        refine (strSum_any _ _ _ _ hs5).mono ?_
        rintro e w' ⟨rfl, rfl⟩
        go_wp2_with fail
        refine (sum_any _ _ _ _ _ hr5).mono ?_
        rintro e w' ⟨rfl, rfl⟩
        go_wp2_with fail
        go_roundw
        case rel => exact ⟨k + 1, A5, c5, al5, by omega, by omega, by go_num, rfl, hle5, hown5, hs5, hb5⟩
        case measure => simp [intOf]; omega
    · have hnot : ¬ ((k : Int) < n ∧ (k : Int) < 12) := by omega
      go_wp2_with fail
      all_goals
        refine (write_nil _ _).mono ?_
        rintro e w' ⟨rfl, rfl⟩
        go_wp2_with fail
        refine (reset_nil _).mono ?_
        rintro e w' ⟨rfl, rfl⟩
        go_wp2_with fail
        refine (sum_nil _).mono ?_
        rintro e w' ⟨rfl, rfl⟩
        go_wp2_with fail
        refine (len_nil _).mono ?_
        rintro e w' ⟨rfl, rfl⟩
        go_wp2_with fail
        go_ret
        exact ⟨rfl, Below.alloc (Ext.trans hx1 hbel) (Nat.le_trans hx1.size hbel.size) _⟩
end Go.Proofs.Ytdecfjdmcfnbkaa
