/- The check of a forecast: the program's. -/
import Derived.Test.YtfgeoeipnidfhaaWin
namespace Go.Proofs.Ytfgeoeipnidfhaa
open Go.RowKit Go.Base Wg

/-- A forecast as an argument. -/
abbrev gv (g : Grid) (A1 : Option Addr) (c1 : Nat) (A2 : Option Addr) (c2 : Nat) (A3 : Option Addr) (c3 : Nat) : Value :=
  .agg #[.int .i64 g.cx, .int .i64 g.cy, .int .i64 g.cell, .int .i64 g.nx, .int .i64 g.ny, .slice A1 g.alts.length c1, .slice A2 g.winds.length c2, .slice A3 g.devs.length c3, .int .i64 g.err]
structure GIn (w : World) (g : Grid) (A1 : Option Addr) (c1 : Nat) (A2 : Option Addr) (c2 : Nat) (A3 : Option Addr) (c3 : Nat) : Prop where
  a : Rd w 1 A1 g.alts.length c1 (g.alts.map iv)
  wd : Rd w 2 A2 g.winds.length c2 (pv g.winds)
  d : Rd w 1 A3 g.devs.length c3 (g.devs.map iv)
theorem GIn.ext {w w' : World} {g : Grid} {A1 A2 A3 : Option Addr} {c1 c2 c3 : Nat} (h : GIn w g A1 c1 A2 c2 A3 c3) (hx : Ext w w') : GIn w' g A1 c1 A2 c2 A3 c3 := ⟨h.a.ext hx, h.wd.ext hx, h.d.ext hx⟩
theorem rd_cell {w : World} {A : Option Addr} {c : Nat} {l : List Int} (h : Rd w 1 A l.length c (l.map iv)) (hl : 0 < l.length) : ∃ b o, A = some ⟨b, o, none⟩ ∧ b < w.heap.size ∧ ∀ k (hk : k < l.length), w.cell? ⟨b, o + k, none⟩ = some (.int .i64 l[k]) := by
  obtain ⟨b, o, e, hb, hc⟩ := h.at_ hl
  exact ⟨b, o, e, hb, fun k hk => hc k _ (by simp [iv, List.getElem?_eq_getElem hk])⟩
theorem pv_at (l : List (Int × Int)) (k : Nat) (hk : k < l.length) : (pv l)[k * 2]? = some (iv (l[k]).1) ∧ (pv l)[k * 2 + 1]? = some (iv (l[k]).2) := by
  induction l generalizing k with
  | nil => simp at hk
  | cons a l ih =>
    have e : pv (a :: l) = iv a.1 :: iv a.2 :: pv l := by simp [pv]
    rw [e]
    cases k with
    | zero => exact ⟨rfl, rfl⟩
    | succ k =>
      rw [show (k + 1) * 2 = k * 2 + 1 + 1 by omega]
      have := ih k (by simpa using hk)
      simpa using this
theorem rd_pair {w : World} {A : Option Addr} {c : Nat} {l : List (Int × Int)} (h : Rd w 2 A l.length c (pv l)) (hl : 0 < l.length) : ∃ b o, A = some ⟨b, o, none⟩ ∧ b < w.heap.size ∧ ∀ k (hk : k < l.length), w.cell? ⟨b, o + k * 2, none⟩ = some (.int .i64 (l[k]).1) ∧ w.cell? ⟨b, o + k * 2 + 1, none⟩ = some (.int .i64 (l[k]).2) := by
  obtain ⟨b, o, e, hb, hc⟩ := h.at_ hl
  exact ⟨b, o, e, hb, fun k hk => ⟨hc _ _ (pv_at l k hk).1, by rw [Nat.add_assoc]; exact hc _ _ (pv_at l k hk).2⟩⟩

theorem ret_bool {a b : Bool} (h : a = b) : Ending.returned (.bool a) = .returned (.bool b) := by rw [h]
theorem all_take {α : Type} (p : α → Bool) (l : List α) (k : Nat) (h : k < l.length) : (l.take (k + 1)).all p = ((l.take k).all p && p l[k]) := by
  rw [List.take_succ_eq_append_getElem h, List.all_append]; simp
theorem all_false {α : Type} (p : α → Bool) (l : List α) (k : Nat) (h : k < l.length) (hp : p l[k] = false) : l.all p = false := by
  rw [List.all_eq_false]; exact ⟨_, List.getElem_mem h, by simp [hp]⟩

set_option maxRecDepth 100000 in
set_option maxHeartbeats 1000000 in
theorem checkValues_any (g : Grid) (A1 A2 A3 : Option Addr) (c1 c2 c3 : Nat) (w : World) (h : GIn w g A1 c1 A2 c2 A3 c3) (hlen : g.winds.length = g.devs.length) :
    Calls Try.prog 42 #[gv g A1 c1 A2 c2 A3 c3] w fun e w' => e = .returned (.bool (vals g)) ∧ Ext w w' := by
  have H1 := hide hlen
  clear hlen
  have n1 := h.a.size_le
  have n2 := h.wd.size_le
  have n3 := h.d.size_le
  cases h1 : inPlane g.cx g.cy <;> cases h2 : inR g.cell 1 2000000 <;> cases h3 : inR g.err 0 60
  all_goals
    go_enter Try.func42, Try.ntmps42
    go_wp2_with fail
    refine (inPlane_any _ _ _).mono ?_
    rintro e w1 ⟨rfl, hx⟩
    have HX := hide (Ext.trans ((Below.refl _ _).alloc (Nat.le_refl _) _) hx)
    obtain ⟨hc, -⟩ := bcell hx
    have hz := hx.size
    clear hx
    go_wp2_with (go_at_call 24; refine (within_any _ _ _ _).mono ?_; rintro e w' ⟨rfl, rfl⟩)
    try
      (go_ret
       exact ⟨by simp [vals, *], HX.out⟩)
  have HI := hide (h.ext HX.out)
  have hal := hide (show inPlane g.cx g.cy = true ∧ inR g.cell 1 2000000 = true ∧ inR g.err 0 60 = true from ⟨h1, h2, h3⟩)
  clear h h1 h2 h3
  go_loop [4, 26] (fun _ i => ∃ k : Nat, k ≤ g.alts.length ∧ i = .int .i64 k ∧ Hid ((g.alts.take k).all altOk = true)) (fun _ i => g.alts.length - (intOf i).toNat)
  case atStart => exact ⟨0, Nat.zero_le _, rfl, hide rfl⟩
  case round =>
    obtain ⟨k, hk, rfl, HK⟩ := hrel
    by_cases hlt : k < g.alts.length
    · obtain ⟨b, o, rfl, hb, hcell⟩ := rd_cell HI.out.a (by omega)
      have hck := hcell k hlt
      clear hcell
      have hT := hide (all_take altOk g.alts k hlt)
      have hF := hide (all_false altOk g.alts k hlt)
      unfold altOk at hT hF
      obtain ⟨x, hx⟩ : ∃ x, g.alts[k] = x := ⟨_, rfl⟩
      rw [hx] at hck hT hF
      cases hb : inR x (-200000) 6000000
      · go_wp2_with (go_at_call 24; refine (within_any _ _ _ _).mono ?_; rintro e w' ⟨rfl, rfl⟩)
        go_ret
        exact ⟨ret_bool (by unfold vals altOk; rw [hF.out hb]; simp), HX.out⟩
      · go_wp2_with (go_at_call 24; refine (within_any _ _ _ _).mono ?_; rintro e w' ⟨rfl, rfl⟩)
        go_round
        case rel => exact ⟨k + 1, by omega, by go_num, hide (by unfold altOk at *; rw [hT.out, hb, HK.out]; rfl)⟩
        case measure => simp [intOf]; omega
    · have HA := hide (show g.alts.all altOk = true by rw [← HK.out, List.take_of_length_le (by omega)])
      clear HK
      go_wp2_with fail
      have hsz : w.heap.size < w1.heap.size := by simp at hz; omega
      clear hz
      go_loopw [5, 6, 37] (fun _ _ i wr => ∃ j : Nat, j ≤ g.winds.length ∧ i = .int .i64 j ∧ Hid (((g.winds.zip g.devs).take j).all windOk = true) ∧ Ext w1 wr) (fun _ _ i _ => g.winds.length - (intOf i).toNat)
      case atStart => exact ⟨0, Nat.zero_le _, rfl, hide rfl, Below.refl _ _⟩
      case round =>
        obtain ⟨j, hj, rfl, HJ, hx⟩ := hrel
        by_cases hlt : j < g.winds.length
        · have hjd : j < g.devs.length := by have := H1.out; omega
          obtain ⟨b, o, rfl, hb, hcell⟩ := rd_pair (HI.out.ext hx).wd (by omega)
          obtain ⟨b', o', rfl, hb', hcell'⟩ := rd_cell (HI.out.ext hx).d (by omega)
          obtain ⟨hck, hck2⟩ := hcell j hlt
          have hdk := hcell' j hjd
          obtain ⟨hc2, -⟩ := bcell hx
          have hz := hx.size
          have hbw : w.heap.size < wr.heap.size := by omega
          clear hcell hcell'
          have HX2 := hide (Ext.trans HX.out hx)
          have HX3 := hide hx
          clear hx
          have hzl : j < (g.winds.zip g.devs).length := by simp; omega
          have hT := hide (all_take windOk (g.winds.zip g.devs) j hzl)
          have hF := hide (all_false windOk (g.winds.zip g.devs) j hzl)
          have hW := hide (show windOk (g.winds.zip g.devs)[j] = (inR (g.winds[j]).1 (-340) 340 && inR (g.winds[j]).2 (-340) 340 && inR (g.devs[j]) (-4000) 4000) by simp [windOk])
          obtain ⟨x, hx⟩ : ∃ x, (g.winds[j]).1 = x := ⟨_, rfl⟩
          obtain ⟨y, hy⟩ : ∃ y, (g.winds[j]).2 = y := ⟨_, rfl⟩
          obtain ⟨z, hz'⟩ : ∃ z, g.devs[j] = z := ⟨_, rfl⟩
          rw [hx, hy, hz'] at hW
          rw [hx] at hck
          rw [hy] at hck2
          rw [hz'] at hdk
          clear hx hy hz'
          cases g1 : inR x (-340) 340 <;> cases g2 : inR y (-340) 340 <;> cases g3 : inR z (-4000) 4000
          all_goals
            have HV := hide (show windOk (g.winds.zip g.devs)[j] = (inR x (-340) 340 && inR y (-340) 340 && inR z (-4000) 4000) from hW.out)
            rw [g1, g2, g3] at HV
            go_wp2_with (go_at_call 24; refine (within_any _ _ _ _).mono ?_; rintro e w' ⟨rfl, rfl⟩)
            first
              | (go_ret
                 exact ⟨ret_bool (by unfold vals; rw [hF.out HV.out]; simp), HX2.out.alloc (by have := HX2.out.size; omega) _⟩)
              | (go_roundw
                 case rel => exact ⟨j + 1, by omega, by go_num, hide (by rw [hT.out, HV.out, HJ.out]; rfl), Ext.trans HX3.out ((Below.refl _ _).alloc (Nat.le_refl _) _)⟩
                 case measure => simp [intOf]; omega)
        · have h1 := H1.out
          have HX2 := hide (Ext.trans HX.out hx)
          have HB := hide (show (g.winds.zip g.devs).all windOk = true by rw [← HJ.out, List.take_of_length_le (by simp; omega)])
          clear HJ h1
          go_wp2_with fail
          go_ret
          obtain ⟨a1, a2, a3⟩ := hal.out
          exact ⟨ret_bool (by unfold vals; rw [HB.out, HA.out, a1, a2, a3]; rfl), HX2.out⟩
end Go.Proofs.Ytfgeoeipnidfhaa
