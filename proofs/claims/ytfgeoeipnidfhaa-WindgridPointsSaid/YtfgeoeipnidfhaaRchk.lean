/- The check of a forecast: the reference's. -/
import Derived.Test.YtfgeoeipnidfhaaChk2
namespace Go.Proofs.Ytfgeoeipnidfhaa
open Go.RowKit Go.Base Wg

theorem inR_ways (n lo hi : Int) : (decide (n < lo) = true ∧ inR n lo hi = false) ∨ (decide (n < lo) = false ∧ decide (hi < n) = true ∧ inR n lo hi = false) ∨ (decide (n < lo) = false ∧ decide (hi < n) = false ∧ inR n lo hi = true) := by
  unfold inR
  simp only [decide_eq_true_eq, decide_eq_false_iff_not, Bool.and_eq_false_imp, Bool.and_eq_true]
  by_cases h1 : n < lo
  · exact .inl ⟨h1, by omega⟩
  by_cases h2 : hi < n
  · exact .inr (.inl ⟨h1, h2, by omega⟩)
  · exact .inr (.inr ⟨h1, h2, by omega⟩)
/-- The first test of the values: what comes ahead of the lists. -/
theorem vals_head {g : Grid} (h : (inPlane g.cx g.cy && inR g.cell 1 2000000 && inR g.err 0 60) = false) : vals g = false := by unfold vals; rw [h]; rfl
theorem vals_alts {g : Grid} (h : g.alts.all altOk = false) : vals g = false := by unfold vals; rw [h]; simp
theorem vals_winds {g : Grid} (h : (g.winds.zip g.devs).all windOk = false) : vals g = false := by unfold vals; rw [h]; simp
theorem vals_all {g : Grid} (h : (inPlane g.cx g.cy && inR g.cell 1 2000000 && inR g.err 0 60) = true) (h2 : g.alts.all altOk = true) (h3 : (g.winds.zip g.devs).all windOk = true) : vals g = true := by unfold vals; rw [h, h2, h3]; rfl

theorem head_ways (g : Grid) : (inPlane g.cx g.cy = false ∧ (inPlane g.cx g.cy && inR g.cell 1 2000000 && inR g.err 0 60) = false) ∨
    (inPlane g.cx g.cy = true ∧ decide (g.cell < 1) = true ∧ (inPlane g.cx g.cy && inR g.cell 1 2000000 && inR g.err 0 60) = false) ∨
    (inPlane g.cx g.cy = true ∧ decide (g.cell < 1) = false ∧ decide (2000000 < g.cell) = true ∧ (inPlane g.cx g.cy && inR g.cell 1 2000000 && inR g.err 0 60) = false) ∨
    (inPlane g.cx g.cy = true ∧ decide (g.cell < 1) = false ∧ decide (2000000 < g.cell) = false ∧ decide (g.err < 0) = true ∧ (inPlane g.cx g.cy && inR g.cell 1 2000000 && inR g.err 0 60) = false) ∨
    (inPlane g.cx g.cy = true ∧ decide (g.cell < 1) = false ∧ decide (2000000 < g.cell) = false ∧ decide (g.err < 0) = false ∧ decide (60 < g.err) = true ∧ (inPlane g.cx g.cy && inR g.cell 1 2000000 && inR g.err 0 60) = false) ∨
    (inPlane g.cx g.cy = true ∧ decide (g.cell < 1) = false ∧ decide (2000000 < g.cell) = false ∧ decide (g.err < 0) = false ∧ decide (60 < g.err) = false ∧ (inPlane g.cx g.cy && inR g.cell 1 2000000 && inR g.err 0 60) = true) := by
  cases h : inPlane g.cx g.cy
  · exact .inl ⟨rfl, rfl⟩
  rcases inR_ways g.cell 1 2000000 with ⟨a, b⟩ | ⟨a, a', b⟩ | ⟨a, a', b⟩ <;> rw [b, a]
  · exact .inr (.inl ⟨rfl, rfl, rfl⟩)
  · exact .inr (.inr (.inl ⟨rfl, rfl, a', rfl⟩))
  · rw [a']
    rcases inR_ways g.err 0 60 with ⟨c, d⟩ | ⟨c, c', d⟩ | ⟨c, c', d⟩ <;> rw [c, d]
    · exact .inr (.inr (.inr (.inl ⟨rfl, rfl, rfl, rfl, rfl⟩)))
    · exact .inr (.inr (.inr (.inr (.inl ⟨rfl, rfl, rfl, rfl, c', rfl⟩))))
    · exact .inr (.inr (.inr (.inr (.inr ⟨rfl, rfl, rfl, rfl, c', rfl⟩))))
theorem wind_ways (x y z : Int) : (decide (x < -340) = true ∧ (inR x (-340) 340 && inR y (-340) 340 && inR z (-4000) 4000) = false) ∨
    (decide (x < -340) = false ∧ decide (340 < x) = true ∧ (inR x (-340) 340 && inR y (-340) 340 && inR z (-4000) 4000) = false) ∨
    (decide (x < -340) = false ∧ decide (340 < x) = false ∧ decide (y < -340) = true ∧ (inR x (-340) 340 && inR y (-340) 340 && inR z (-4000) 4000) = false) ∨
    (decide (x < -340) = false ∧ decide (340 < x) = false ∧ decide (y < -340) = false ∧ decide (340 < y) = true ∧ (inR x (-340) 340 && inR y (-340) 340 && inR z (-4000) 4000) = false) ∨
    (decide (x < -340) = false ∧ decide (340 < x) = false ∧ decide (y < -340) = false ∧ decide (340 < y) = false ∧ decide (z < -4000) = true ∧ (inR x (-340) 340 && inR y (-340) 340 && inR z (-4000) 4000) = false) ∨
    (decide (x < -340) = false ∧ decide (340 < x) = false ∧ decide (y < -340) = false ∧ decide (340 < y) = false ∧ decide (z < -4000) = false ∧ decide (4000 < z) = true ∧ (inR x (-340) 340 && inR y (-340) 340 && inR z (-4000) 4000) = false) ∨
    (decide (x < -340) = false ∧ decide (340 < x) = false ∧ decide (y < -340) = false ∧ decide (340 < y) = false ∧ decide (z < -4000) = false ∧ decide (4000 < z) = false ∧ (inR x (-340) 340 && inR y (-340) 340 && inR z (-4000) 4000) = true) := by
  rcases inR_ways x (-340) 340 with ⟨a, b⟩ | ⟨a, a', b⟩ | ⟨a, a', b⟩ <;> rw [a, b]
  · exact .inl ⟨rfl, rfl⟩
  · exact .inr (.inl ⟨rfl, a', rfl⟩)
  rw [a']
  rcases inR_ways y (-340) 340 with ⟨c, d⟩ | ⟨c, c', d⟩ | ⟨c, c', d⟩ <;> rw [c, d]
  · exact .inr (.inr (.inl ⟨rfl, rfl, rfl, rfl⟩))
  · exact .inr (.inr (.inr (.inl ⟨rfl, rfl, rfl, c', rfl⟩)))
  rw [c']
  rcases inR_ways z (-4000) 4000 with ⟨e, f⟩ | ⟨e, e', f⟩ | ⟨e, e', f⟩ <;> rw [e, f]
  · exact .inr (.inr (.inr (.inr (.inl ⟨rfl, rfl, rfl, rfl, rfl, rfl⟩))))
  · exact .inr (.inr (.inr (.inr (.inr (.inl ⟨rfl, rfl, rfl, rfl, rfl, e', rfl⟩)))))
  · exact .inr (.inr (.inr (.inr (.inr (.inr ⟨rfl, rfl, rfl, rfl, rfl, e', rfl⟩)))))

set_option maxRecDepth 100000 in
set_option maxHeartbeats 1000000 in
theorem rcheck_any (g : Grid) (A1 A2 A3 : Option Addr) (c1 c2 c3 : Nat) (w : World) (h : GIn w g A1 c1 A2 c2 A3 c3) :
    Calls Try.prog 20 #[gv g A1 c1 A2 c2 A3 c3] w fun e w' => e = .returned (.int .i64 (chk g)) ∧ Ext w w' := by
  have n1 := h.a.size_le
  have n2 := h.wd.size_le
  have n3 := h.d.size_le
  rcases small_ways g with ⟨t1, hs⟩ | ⟨t1, t2, hs⟩ | ⟨t1, t2, t3, hs⟩ | ⟨t1, t2, t3, t4, hs⟩ | ⟨t1, t2, t3, t4, t5, hs⟩ | ⟨t1, t2, t3, t4, t5, t6, hs⟩ | ⟨t1, t2, t3, t4, t5, t6, hs⟩
  iterate 6
    · have HS := hide hs
      clear hs
      go_enter Try.func20, Try.ntmps20
      go_wp2
      go_ret
      exact ⟨ret_int (chk_small HS.out), (Below.refl _ _).alloc (Nat.le_refl _) _⟩
  have HS := hide hs
  clear hs
  have d1 : 1 ≤ g.nx := by simpa using t1
  have d2 : g.nx ≤ 16 := by simpa using t2
  have d3 : 1 ≤ g.ny := by simpa using t3
  have d4 : g.ny ≤ 16 := by simpa using t4
  have d5 : 1 ≤ (g.alts.length : Int) := by have := of_decide_eq_false t5; omega
  have d6 : (g.alts.length : Int) ≤ 8 := by have := of_decide_eq_false t6; omega
  have m1 := mul_range d1 d2 d3 d4
  have m2 := mul_range m1.1 m1.2 d5 d6
  have m1a := m1.1
  have m1b := m1.2
  have m2a := m2.1
  have m2b := m2.2
  clear m1 m2
  have HC := hide (counted_eq g)
  cases t7 : ((g.winds.length : Int) != g.nx * g.ny * (g.alts.length : Int)) <;> cases t8 : ((g.devs.length : Int) != g.nx * g.ny * (g.alts.length : Int))
  rotate_left
  iterate 3
    · have HD := hide (show counted g = false by rw [HC.out, t7, t8]; rfl)
      go_enter Try.func20, Try.ntmps20
      go_wp2_with fail
      go_ret
      exact ⟨ret_int (chk_count HS.out HD.out), (Below.refl _ _).alloc (Nat.le_refl _) _⟩
  have HD := hide (show counted g = true by rw [HC.out, t7, t8]; rfl)
  have HL := hide (show g.winds.length = g.devs.length by simp at t7 t8; omega)
  have HH := hide h
  clear h
  rcases head_ways g with ⟨p1, hb⟩ | ⟨p1, p2, hb⟩ | ⟨p1, p2, p3, hb⟩ | ⟨p1, p2, p3, p4, hb⟩ | ⟨p1, p2, p3, p4, p5, hb⟩ | ⟨p1, p2, p3, p4, p5, hb⟩
  all_goals
    have HB := hide hb
    clear hb
    go_enter Try.func20, Try.ntmps20
    go_wp2_with fail
    refine (point_any _ _ _).mono ?_
    rintro e w1 ⟨rfl, hx⟩
    have HX := hide (Ext.trans ((Below.refl _ _).alloc (Nat.le_refl _) _) hx)
    obtain ⟨hc, -⟩ := bcell hx
    have hz := hx.size
    clear hx
    go_wp2_with fail
    try
      (go_ret
       exact ⟨ret_int (chk_vals HS.out HD.out (vals_head HB.out)), HX.out⟩)
  clear t1 t2 t3 t4 t5 t6 t7 t8 d1 d2 d3 d4 m1a m1b m2a m2b p1 p2 p3 p4 p5
  have HI := hide (HH.out.ext HX.out)
  have hsz : w.heap.size < w1.heap.size := by simp at hz; omega
  clear hz
  go_loop [5, 87] (fun _ i => ∃ k : Nat, k ≤ g.alts.length ∧ i = .int .i64 k ∧ Hid ((g.alts.take k).all altOk = true)) (fun _ i => g.alts.length - (intOf i).toNat)
  case atStart => exact ⟨0, Nat.zero_le _, rfl, hide rfl⟩
  case round =>
    obtain ⟨k, hk, rfl, HK⟩ := hrel
    by_cases hlt : k < g.alts.length
    · obtain ⟨b, o, rfl, hb, hcell⟩ := rd_cell HI.out.a (by omega)
      have hck := hcell k hlt
      clear hcell
      have hT := hide (all_take altOk g.alts k hlt)
      have hF := hide (all_false altOk g.alts k hlt)
      have hW := hide (show altOk g.alts[k] = inR g.alts[k] (-200000) 6000000 from rfl)
      obtain ⟨x, hx⟩ : ∃ x, g.alts[k] = x := ⟨_, rfl⟩
      rw [hx] at hck hT hF hW
      clear hx
      rcases inR_ways x (-200000) 6000000 with ⟨q1, hb⟩ | ⟨q1, q2, hb⟩ | ⟨q1, q2, hb⟩
      all_goals
        have HB2 := hide hb
        clear hb
        go_wp2_with fail
      · go_ret
        exact ⟨ret_int (chk_vals HS.out HD.out (vals_alts (hF.out (by rw [hW.out]; exact HB2.out)))), HX.out⟩
      · go_ret
        exact ⟨ret_int (chk_vals HS.out HD.out (vals_alts (hF.out (by rw [hW.out]; exact HB2.out)))), HX.out⟩
      · go_round
        case rel => exact ⟨k + 1, by omega, by go_num, hide (by rw [hT.out, HK.out, hW.out, HB2.out]; rfl)⟩
        case measure => simp [intOf]; omega
    · have HA := hide (show g.alts.all altOk = true by rw [← HK.out, List.take_of_length_le (by omega)])
      clear HK
      go_wp2_with fail
      go_loopw [6, 7, 101] (fun _ _ i wr => ∃ j : Nat, j ≤ g.winds.length ∧ i = .int .i64 j ∧ Hid (((g.winds.zip g.devs).take j).all windOk = true) ∧ Ext w1 wr) (fun _ _ i _ => g.winds.length - (intOf i).toNat)
      case atStart => exact ⟨0, Nat.zero_le _, rfl, hide rfl, Below.refl _ _⟩
      case round =>
        obtain ⟨j, hj, rfl, HJ, hx⟩ := hrel
        by_cases hlt : j < g.winds.length
        · have hjd : j < g.devs.length := by have := HL.out; omega
          obtain ⟨b, o, rfl, hb, hcell⟩ := rd_pair (HI.out.ext hx).wd (by omega)
          obtain ⟨b', o', rfl, hb', hcell'⟩ := rd_cell (HI.out.ext hx).d (by omega)
          obtain ⟨hck, hck2⟩ := hcell j hlt
          have hdk := hcell' j hjd
          obtain ⟨hc2, -⟩ := bcell hx
          have hz := hx.size
          have hbw : w.heap.size < wr.heap.size := by omega
          clear hcell hcell'
          have HX2 := hide (Ext.trans HX.out hx)
          have HX3 := hide hx
          clear hx
          have hzl : j < (g.winds.zip g.devs).length := by simp; omega
          have hT := hide (all_take windOk (g.winds.zip g.devs) j hzl)
          have hF := hide (all_false windOk (g.winds.zip g.devs) j hzl)
          have hW := hide (show windOk (g.winds.zip g.devs)[j] = (inR (g.winds[j]).1 (-340) 340 && inR (g.winds[j]).2 (-340) 340 && inR (g.devs[j]) (-4000) 4000) by simp [windOk])
          obtain ⟨x, hx⟩ : ∃ x, (g.winds[j]).1 = x := ⟨_, rfl⟩
          obtain ⟨y, hy⟩ : ∃ y, (g.winds[j]).2 = y := ⟨_, rfl⟩
          obtain ⟨z, hz'⟩ : ∃ z, g.devs[j] = z := ⟨_, rfl⟩
          rw [hx, hy, hz'] at hW
          rw [hx] at hck
          rw [hy] at hck2
          rw [hz'] at hdk
          clear hx hy hz'
          rcases wind_ways x y z with ⟨q1, hv⟩ | ⟨q1, q2, hv⟩ | ⟨q1, q2, q3, hv⟩ | ⟨q1, q2, q3, q4, hv⟩ | ⟨q1, q2, q3, q4, q5, hv⟩ | ⟨q1, q2, q3, q4, q5, q6, hv⟩ | ⟨q1, q2, q3, q4, q5, q6, hv⟩
          all_goals
            rw [← hW.out] at hv
            have HV := hide hv
            clear hv
            go_wp2_with fail
          iterate 6
            · go_ret
              exact ⟨ret_int (chk_vals HS.out HD.out (vals_winds (hF.out HV.out))), HX2.out.alloc (by have := HX2.out.size; omega) _⟩
          · go_roundw
            case rel => exact ⟨j + 1, by omega, by go_num, hide (by rw [hT.out, HV.out, HJ.out]; rfl), Ext.trans HX3.out ((Below.refl _ _).alloc (Nat.le_refl _) _)⟩
            case measure => simp [intOf]; omega
        · have HB3 := hide (show (g.winds.zip g.devs).all windOk = true by rw [← HJ.out, List.take_of_length_le (by simp; have := HL.out; omega)])
          have HV' := hide (vals_all HB.out HA.out HB3.out)
          have HX2 := hide hx
          obtain ⟨hcw, -⟩ := bcell hx
          have hzw := hx.size
          clear hx HJ HB3 HA
          obtain ⟨w2, rfl⟩ : ∃ wo : World, wo = wr := ⟨_, rfl⟩
          have hbw2 : w.heap.size < w2.heap.size := by omega
          go_wp2_with fail
          go_loopw [8] (fun i wr => ∃ k : Nat, 1 ≤ k ∧ k ≤ g.alts.length ∧ i = .int .i64 k ∧ Hid (∀ j (h : j + 1 < g.alts.length), j + 1 < k → g.alts[j] < g.alts[j + 1]) ∧ Ext w2 wr) (fun i _ => g.alts.length - (intOf i).toNat)
          case atStart => exact ⟨1, Nat.le_refl _, by omega, rfl, hide (fun j _ h => by omega), Below.refl _ _⟩
          case round =>
            obtain ⟨k, hk1, hk2, rfl, HJ, hx⟩ := hrel
            by_cases hlt : k < g.alts.length
            · obtain ⟨b, o, rfl, hb, hcell⟩ := rd_cell ((HI.out.ext HX2.out).ext hx).a (by omega)
              have hck := hcell k hlt
              have hck2 := hcell (k - 1) (by omega)
              obtain ⟨hc2, -⟩ := bcell hx
              have hzz := hx.size
              have hbw : w.heap.size < wr.heap.size := by omega
              have HX3 := hide hx
              clear hx hcell
              have HN := hide (show ord g.alts = true → g.alts[k - 1] < g.alts[k] by
                intro h
                have := (ord_iff _).1 h (k - 1) (by omega)
                have e : k - 1 + 1 = k := by omega
                simp only [e] at this
                exact this)
              have HP := hide (show g.alts[k - 1] < g.alts[k] → ∀ j (h : j + 1 < g.alts.length), j + 1 < k + 1 → g.alts[j] < g.alts[j + 1] by
                intro h0 j h h2
                by_cases e : j + 1 < k
                · exact HJ.out j h e
                · obtain rfl : j = k - 1 := by omega
                  have e : k - 1 + 1 = k := by omega
                  simp only [e]
                  exact h0)
              obtain ⟨x, hx⟩ : ∃ x, g.alts[k] = x := ⟨_, rfl⟩
              obtain ⟨y, hy⟩ : ∃ y, g.alts[k - 1] = y := ⟨_, rfl⟩
              rw [hx] at hck HN HP
              rw [hy] at hck2 HN HP
              clear hx hy
              have e1 : IntKind.i64.wrap ((k : Int) - 1) = (k : Int) - 1 := IntWalk.i64_in _ (by omega)
              have e2 : 0 ≤ (k : Int) - 1 := by omega
              have e3 : ((k : Int) - 1).toNat = k - 1 := by omega
              have e4 : (k : Int) - 1 < (g.alts.length : Int) := by omega
              have e5 : (k : Int) < (g.alts.length : Int) := by omega
              go_wp2_with fail
              go_quiet (fail)
              go_wp2_with fail
              · go_ret
                have hxy : x ≤ y := by assumption
                exact ⟨ret_int (chk_ord HS.out HD.out HV'.out (by cases ho : ord g.alts; rfl; have := HN.out ho; omega)), below_drewN (Ext.trans (Ext.trans HX.out HX2.out) HX3.out) nq⟩
              · have hxy : y < x := by assumption
                go_roundw
                case rel => exact ⟨k + 1, by omega, by omega, by go_num, hide (HP.out hxy), below_drewN HX3.out nq⟩
                case measure => simp [intOf]; omega
            · have HX3 := hide hx
              have HO := hide (show ord g.alts = true from (ord_iff _).2 fun j h => HJ.out j h (by omega))
              obtain ⟨hc2, -⟩ := bcell hx
              have hzz := hx.size
              have hbw : w.heap.size < wr.heap.size := by omega
              clear hx
              go_wp2_with fail
              go_ret
              exact ⟨ret_int (chk_ok HS.out HD.out HV'.out HO.out), Ext.trans (Ext.trans HX.out HX2.out) HX3.out⟩
end Go.Proofs.Ytfgeoeipnidfhaa
