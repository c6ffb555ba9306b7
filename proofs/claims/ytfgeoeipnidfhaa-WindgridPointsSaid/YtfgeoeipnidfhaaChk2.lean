/- The check of a forecast: the program's, its first error. -/
import Derived.Test.YtfgeoeipnidfhaaChk
namespace Go.Proofs.Ytfgeoeipnidfhaa
open Go.RowKit Go.Base Wg

theorem small_ways (g : Grid) : (decide (g.nx < 1) = true ∧ small g = false) ∨ (decide (g.nx < 1) = false ∧ decide (16 < g.nx) = true ∧ small g = false) ∨
    (decide (g.nx < 1) = false ∧ decide (16 < g.nx) = false ∧ decide (g.ny < 1) = true ∧ small g = false) ∨
    (decide (g.nx < 1) = false ∧ decide (16 < g.nx) = false ∧ decide (g.ny < 1) = false ∧ decide (16 < g.ny) = true ∧ small g = false) ∨
    (decide (g.nx < 1) = false ∧ decide (16 < g.nx) = false ∧ decide (g.ny < 1) = false ∧ decide (16 < g.ny) = false ∧ decide ((g.alts.length : Int) < 1) = true ∧ small g = false) ∨
    (decide (g.nx < 1) = false ∧ decide (16 < g.nx) = false ∧ decide (g.ny < 1) = false ∧ decide (16 < g.ny) = false ∧ decide ((g.alts.length : Int) < 1) = false ∧ decide (8 < (g.alts.length : Int)) = true ∧ small g = false) ∨
    (decide (g.nx < 1) = false ∧ decide (16 < g.nx) = false ∧ decide (g.ny < 1) = false ∧ decide (16 < g.ny) = false ∧ decide ((g.alts.length : Int) < 1) = false ∧ decide (8 < (g.alts.length : Int)) = false ∧ small g = true) := by
  unfold small inR
  simp only [decide_eq_true_eq, decide_eq_false_iff_not, Bool.and_eq_false_imp, Bool.and_eq_true]
  generalize (g.alts.length : Int) = n
  by_cases h1 : g.nx < 1
  · exact .inl ⟨h1, by omega⟩
  by_cases h2 : 16 < g.nx
  · exact .inr (.inl ⟨h1, h2, by omega⟩)
  by_cases h3 : g.ny < 1
  · exact .inr (.inr (.inl ⟨h1, h2, h3, by omega⟩))
  by_cases h4 : 16 < g.ny
  · exact .inr (.inr (.inr (.inl ⟨h1, h2, h3, h4, by omega⟩)))
  by_cases h5 : n < 1
  · exact .inr (.inr (.inr (.inr (.inl ⟨h1, h2, h3, h4, h5, by omega⟩))))
  by_cases h6 : 8 < n
  · exact .inr (.inr (.inr (.inr (.inr (.inl ⟨h1, h2, h3, h4, h5, h6, by omega⟩)))))
  · exact .inr (.inr (.inr (.inr (.inr (.inr ⟨h1, h2, h3, h4, h5, h6, by omega⟩)))))
theorem mul_range {a b m n : Int} (h1 : 1 ≤ a) (h2 : a ≤ m) (h3 : 1 ≤ b) (h4 : b ≤ n) : 1 ≤ a * b ∧ a * b ≤ m * n := by
  constructor
  · have := Int.mul_le_mul h1 h3 (by omega) (by omega); simpa using this
  · exact Int.mul_le_mul h2 h4 (by omega) (by omega)
theorem counted_eq (g : Grid) : counted g = (!((g.winds.length : Int) != g.nx * g.ny * (g.alts.length : Int)) && !((g.devs.length : Int) != g.nx * g.ny * (g.alts.length : Int))) := by
  unfold counted count
  simp only [bne, Bool.not_not]
  rfl
theorem chk_small {g : Grid} (h : small g = false) : 3 = chk g := by unfold chk; rw [if_pos h]
theorem chk_count {g : Grid} (h : small g = true) (h2 : counted g = false) : 1 = chk g := by unfold chk; rw [if_neg (by simp [h]), if_pos h2]
theorem chk_vals {g : Grid} (h : small g = true) (h2 : counted g = true) (h3 : vals g = false) : 2 = chk g := by unfold chk; rw [if_neg (by simp [h]), if_neg (by simp [h2]), if_pos h3]
theorem chk_ord {g : Grid} (h : small g = true) (h2 : counted g = true) (h3 : vals g = true) (h4 : ord g.alts = false) : 9 = chk g := by
  unfold chk; rw [if_neg (by simp [h]), if_neg (by simp [h2]), if_neg (by simp [h3]), if_pos h4]
theorem chk_ok {g : Grid} (h : small g = true) (h2 : counted g = true) (h3 : vals g = true) (h4 : ord g.alts = true) : 0 = chk g := by
  unfold chk; rw [if_neg (by simp [h]), if_neg (by simp [h2]), if_neg (by simp [h3]), if_neg (by simp [h4])]

set_option maxRecDepth 100000 in
set_option maxHeartbeats 1000000 in
theorem check_any (g : Grid) (A1 A2 A3 : Option Addr) (c1 c2 c3 : Nat) (w : World) (h : GIn w g A1 c1 A2 c2 A3 c3) :
    Calls Try.prog 16 #[gv g A1 c1 A2 c2 A3 c3] w fun e w' => e = .returned (.int .i64 (chk g)) ∧ Ext w w' := by
  have n1 := h.a.size_le
  have n2 := h.wd.size_le
  have n3 := h.d.size_le
  rcases small_ways g with ⟨t1, hs⟩ | ⟨t1, t2, hs⟩ | ⟨t1, t2, t3, hs⟩ | ⟨t1, t2, t3, t4, hs⟩ | ⟨t1, t2, t3, t4, t5, hs⟩ | ⟨t1, t2, t3, t4, t5, t6, hs⟩ | ⟨t1, t2, t3, t4, t5, t6, hs⟩
  iterate 6
    · have HS := hide hs
      clear hs
      go_enter Try.func16, Try.ntmps16
      go_wp2
      go_ret
      exact ⟨ret_int (chk_small HS.out), (Below.refl _ _).alloc (Nat.le_refl _) _⟩
  have HS := hide hs
  clear hs
  have d1 : 1 ≤ g.nx := by simpa using t1
  have d2 : g.nx ≤ 16 := by simpa using t2
  have d3 : 1 ≤ g.ny := by simpa using t3
  have d4 : g.ny ≤ 16 := by simpa using t4
  have d5 : 1 ≤ (g.alts.length : Int) := by have := of_decide_eq_false t5; omega
  have d6 : (g.alts.length : Int) ≤ 8 := by have := of_decide_eq_false t6; omega
  have m1 := mul_range d1 d2 d3 d4
  have m2 := mul_range m1.1 m1.2 d5 d6
  have m1a := m1.1
  have m1b := m1.2
  have m2a := m2.1
  have m2b := m2.2
  clear m1 m2
  have HC := hide (counted_eq g)
  cases t7 : ((g.winds.length : Int) != g.nx * g.ny * (g.alts.length : Int)) <;> cases t8 : ((g.devs.length : Int) != g.nx * g.ny * (g.alts.length : Int))
  rotate_left
  iterate 3
    · have HD := hide (show counted g = false by rw [HC.out, t7, t8]; rfl)
      go_enter Try.func16, Try.ntmps16
      go_wp2_with fail
      go_ret
      exact ⟨ret_int (chk_count HS.out HD.out), (Below.refl _ _).alloc (Nat.le_refl _) _⟩
  have HD := hide (show counted g = true by rw [HC.out, t7, t8]; rfl)
  have HL := hide (show g.winds.length = g.devs.length by simp at t7 t8; omega)
  have HH := hide h
  clear h
  cases HV : vals g
  all_goals
    have HV' := hide HV
    clear HV
    go_enter Try.func16, Try.ntmps16
    go_wp2_with fail
    refine (checkValues_any g A1 A2 A3 c1 c2 c3 _ (HH.out.ext ((Below.refl _ _).alloc (Nat.le_refl _) _)) HL.out).mono ?_
    rintro e w1 ⟨rfl, hx⟩
    have HX := hide (Ext.trans ((Below.refl _ _).alloc (Nat.le_refl _) _) hx)
    obtain ⟨hc, -⟩ := bcell hx
    have hz := hx.size
    rw [HV'.out]
    clear hx
    go_wp2_with fail
  · go_ret
    exact ⟨ret_int (chk_vals HS.out HD.out HV'.out), HX.out⟩
  clear t1 t2 t3 t4 t5 t6 t7 t8 d1 d2 d3 d4 m1a m1b m2a m2b
  have HI := hide (HH.out.ext HX.out)
  have hsz : w.heap.size < w1.heap.size := by simp at hz; omega
  clear hz
  go_loopw [4] (fun i wr => ∃ k : Nat, 1 ≤ k ∧ k ≤ g.alts.length ∧ i = .int .i64 k ∧ Hid (∀ j (h : j + 1 < g.alts.length), j + 1 < k → g.alts[j] < g.alts[j + 1]) ∧ Ext w1 wr) (fun i _ => g.alts.length - (intOf i).toNat)
  case atStart => exact ⟨1, Nat.le_refl _, by omega, rfl, hide (fun j _ h => by omega), Below.refl _ _⟩
  case round =>
    obtain ⟨k, hk1, hk2, rfl, HJ, hx⟩ := hrel
    by_cases hlt : k < g.alts.length
    · obtain ⟨b, o, rfl, hb, hcell⟩ := rd_cell (HI.out.ext hx).a (by omega)
      have hck := hcell k hlt
      have hck2 := hcell (k - 1) (by omega)
      obtain ⟨hc2, -⟩ := bcell hx
      have hzz := hx.size
      have hbw : w.heap.size < wr.heap.size := by omega
      have HX3 := hide hx
      clear hx hcell
      have HN := hide (show ord g.alts = true → g.alts[k - 1] < g.alts[k] by
        intro h
        have := (ord_iff _).1 h (k - 1) (by omega)
        have e : k - 1 + 1 = k := by omega
        simp only [e] at this
        exact this)
      have HP := hide (show g.alts[k - 1] < g.alts[k] → ∀ j (h : j + 1 < g.alts.length), j + 1 < k + 1 → g.alts[j] < g.alts[j + 1] by
        intro h0 j h h2
        by_cases e : j + 1 < k
        · exact HJ.out j h e
        · obtain rfl : j = k - 1 := by omega
          have e : k - 1 + 1 = k := by omega
          simp only [e]
          exact h0)
      obtain ⟨x, hx⟩ : ∃ x, g.alts[k] = x := ⟨_, rfl⟩
      obtain ⟨y, hy⟩ : ∃ y, g.alts[k - 1] = y := ⟨_, rfl⟩
      rw [hx] at hck HN HP
      rw [hy] at hck2 HN HP
      clear hx hy
      have e1 : IntKind.i64.wrap ((k : Int) - 1) = (k : Int) - 1 := IntWalk.i64_in _ (by omega)
      have e2 : 0 ≤ (k : Int) - 1 := by omega
      have e3 : ((k : Int) - 1).toNat = k - 1 := by omega
      have e4 : (k : Int) - 1 < (g.alts.length : Int) := by omega
      have e5 : (k : Int) < (g.alts.length : Int) := by omega
      go_wp2_with fail
      go_quiet (fail)
      go_wp2_with fail
      · go_ret
        have hxy : x ≤ y := by assumption
        exact ⟨ret_int (chk_ord HS.out HD.out HV'.out (by cases ho : ord g.alts; rfl; have := HN.out ho; omega)), below_drewN (Ext.trans HX.out HX3.out) nq⟩
      · have hxy : y < x := by assumption
        go_roundw
        case rel => exact ⟨k + 1, by omega, by omega, by go_num, hide (HP.out hxy), below_drewN HX3.out nq⟩
        case measure => simp [intOf]; omega
    · have HX3 := hide hx
      have HO := hide (show ord g.alts = true from (ord_iff _).2 fun j h => HJ.out j h (by omega))
      obtain ⟨hc2, -⟩ := bcell hx
      have hzz := hx.size
      have hbw : w.heap.size < wr.heap.size := by omega
      clear hx
      go_wp2_with fail
      go_ret
      exact ⟨ret_int (chk_ok HS.out HD.out HV'.out HO.out), Ext.trans HX.out HX3.out⟩
end Go.Proofs.Ytfgeoeipnidfhaa
