/- Climbs, level flight, the examples. -/
import Derived.Test.YtjghflomfbehkaaPerfN
set_option linter.unusedSimpArgs false
namespace Go.Av
/-- One tick of a climb. -/
def gs (p : T25) (mass a : Int) : Int := if a < p.Ceiling then (if p.Ceiling < a + T p.Alts p.Masses p.Climb a mass then p.Ceiling else a + T p.Alts p.Masses p.Climb a mass) else a
def R (p : T25) (mass : Int) : Nat → Int → Int
  | 0, a => a
  | n + 1, a => R p mass n (gs p mass a)
theorem R_fix {p : T25} {mass a : Int} (h : gs p mass a = a) : ∀ n, R p mass n a = a
  | 0 => rfl
  | n + 1 => by show R p mass n (gs p mass a) = a; rw [h]; exact R_fix h n
theorem T_bound {A M : List Int} {t : List (List Int)} (h : TOk A M t) (alt mass : Int) : 0 ≤ T A M t alt mass ∧ T A M t alt mass ≤ 100000 :=
  V_bound h.om.asc (fun i hi => by unfold rowT; rw [gi_map _ hi]; exact col_bound h i alt) h.om.pos mass
theorem gs_cap {p : T25} {mass a : Int} (h : a < p.Ceiling) : gs p mass a = if p.Ceiling < a + T p.Alts p.Masses p.Climb a mass then p.Ceiling else a + T p.Alts p.Masses p.Climb a mass := if_pos h
theorem gs_top {p : T25} {mass a : Int} (h : ¬ a < p.Ceiling) : gs p mass a = a := if_neg h
theorem gs_in {p : T25} (F : GoodP p) {mass a : Int} (h : -200000 ≤ a ∧ a ≤ 6000000) : -200000 ≤ gs p mass a ∧ gs p mass a ≤ 6000000 := by
  have hc := F.ceil
  have hb := T_bound F.tC a mass
  unfold gs
  split
  · split <;> omega
  · exact h
theorem lp14 {p : T25} (F : GoodP p) (alt mass ticks : Int) (hm : 1 ≤ mass ∧ mass ≤ 3000000000) (n : Nat) (hn : n ≤ 50000) (a : Int) (ha : -200000 ≤ a ∧ a ≤ 6000000) :
    ∃ x : Int × Int, loopO (b14_8 p alt mass ticks) (a, (n : Int)) = some x ∧ x.1 = R p mass n a := by
  refine loop_inv (b := b14_8 p alt mass ticks) (fun m s => ∃ b, s = (b, (m : Int)) ∧ m ≤ 50000 ∧ (-200000 ≤ b ∧ b ≤ 6000000) ∧ R p mass m b = R p mass n a) (fun x => x.1 = R p mass n a) (fun m s hs => ?_) n _ ⟨a, rfl, hn, ha, rfl⟩
  obtain ⟨b, rfl, h1, h2, h3⟩ := hs
  have hc := F.ceil
  have hb := T_bound F.tC b mass
  have e := t50 F.tC (alt := b) (mass := mass) (by omega) (by omega)
  have w1 : IntKind.wrap .i64 (b + T p.Alts p.Masses p.Climb b mass) = b + T p.Alts p.Masses p.Climb b mass := w64 (by omega) (by omega)
  have w2 : IntKind.wrap .i64 ((m : Int) - 1) = (m : Int) - 1 := w64 (by omega) (by omega)
  cases m with
  | zero =>
    have z : ¬ ((0 : Int) < ((0 : Nat) : Int)) := by omega
    exact .inr ⟨(b, ((0 : Nat) : Int)), by simp only [b14_8, m14_1, m14_2, m14_3, m14_6, m14_8, m14_9, m14_11, m14_12, m14_13, m14_14, m14_15, m14, z, decide_true, decide_false, Bool.false_eq_true, if_true, if_false, Bool.not_true, Bool.not_false, Bool.or_true, Bool.or_false, Bool.true_or, Bool.false_or, Bool.and_true, Bool.and_false, Bool.true_and, Bool.false_and, Option.bind_some, true_implies, false_implies, implies_true]; rfl, h3⟩
  | succ m =>
    have z : ((0 : Int) < ((m + 1 : Nat) : Int)) := by omega
    by_cases c1 : b < p.Ceiling
    · by_cases c2 : T p.Alts p.Masses p.Climb b mass = 0
      · have hg : gs p mass b = b := by rw [gs_cap c1, c2, if_neg (by omega)]; omega
        rw [R_fix hg] at h3
        exact .inr ⟨(b, ((m + 1 : Nat) : Int)), by simp only [b14_8, m14_1, m14_2, m14_3, m14_6, m14_8, m14_9, m14_11, m14_12, m14_13, m14_14, m14_15, m14, z, c1, e, c2, beq_self_eq_true, decide_true, decide_false, Bool.false_eq_true, if_true, if_false, Bool.not_true, Bool.not_false, Bool.or_true, Bool.or_false, Bool.true_or, Bool.false_or, Bool.and_true, Bool.and_false, Bool.true_and, Bool.false_and, Option.bind_some, true_implies, false_implies, implies_true]; rfl, h3⟩
      · have c3 : (T p.Alts p.Masses p.Climb b mass == 0) = false := by simpa using c2
        refine .inl ⟨(gs p mass b, (m : Int)), ?_, m, Nat.lt_succ_self m, gs p mass b, rfl, by omega, gs_in F h2, h3⟩
        rw [gs_cap c1]
        have w3 : ((m + 1 : Nat) : Int) - 1 = (m : Int) := by omega
        have w4 : IntKind.wrap .i64 (m : Int) = (m : Int) := w64 (by omega) (by omega)
        simp only [b14_8, m14_1, m14_2, m14_3, m14_6, m14_8, m14_9, m14_11, m14_12, m14_13, m14_14, m14_15, m14, z, c1, e, c3, w1, w3, w4, decide_true, decide_false, Bool.false_eq_true, if_true, if_false, Bool.not_true, Bool.not_false, Bool.or_true, Bool.or_false, Bool.true_or, Bool.false_or, Bool.and_true, Bool.and_false, Bool.true_and, Bool.false_and, Option.bind_some, true_implies, false_implies, implies_true]
        rfl
    · rw [R_fix (gs_top c1)] at h3
      exact .inr ⟨(b, ((m + 1 : Nat) : Int)), by simp only [b14_8, m14_1, m14_2, m14_3, m14_6, m14_8, m14_9, m14_11, m14_12, m14_13, m14_14, m14_15, m14, z, c1, decide_true, decide_false, Bool.false_eq_true, if_true, if_false, Bool.not_true, Bool.not_false, Bool.or_true, Bool.or_false, Bool.true_or, Bool.false_or, Bool.and_true, Bool.and_false, Bool.true_and, Bool.false_and, Option.bind_some, true_implies, false_implies, implies_true]; rfl, h3⟩
theorem lp17 {p : T25} (F : GoodP p) (alt mass : Int) (hm : 1 ≤ mass ∧ mass ≤ 3000000000) (n : Nat) (hn : n ≤ 50000) (a : Int) (ha : -200000 ≤ a ∧ a ≤ 6000000) :
    ∃ x : Int × Int, loopO (b17_9 p alt mass (n : Int)) (a, 0) = some x ∧ x.1 = R p mass n a := by
  refine loop_inv (b := b17_9 p alt mass (n : Int)) (fun m s => ∃ b, s = (b, (n : Int) - (m : Int)) ∧ m ≤ n ∧ (-200000 ≤ b ∧ b ≤ 6000000) ∧ R p mass m b = R p mass n a) (fun x => x.1 = R p mass n a) (fun m s hs => ?_) n _ ⟨a, by rw [Int.sub_self], Nat.le_refl _, ha, rfl⟩
  obtain ⟨b, rfl, h1, h2, h3⟩ := hs
  have hc := F.ceil
  have hb := T_bound F.tC b mass
  have e := t52 F.tC (alt := b) (mass := mass) (by omega) (by omega)
  have w1 : IntKind.wrap .i64 (b + T p.Alts p.Masses p.Climb b mass) = b + T p.Alts p.Masses p.Climb b mass := w64 (by omega) (by omega)
  have w2 : IntKind.wrap .i64 ((n : Int) - (m : Int) + 1) = (n : Int) - (m : Int) + 1 := w64 (by omega) (by omega)
  cases m with
  | zero =>
    have z : ¬ ((n : Int) - ((0 : Nat) : Int) < (n : Int)) := by omega
    exact .inr ⟨(b, (n : Int) - ((0 : Nat) : Int)), by simp only [b17_9, m17_1, m17_2, m17_3, m17_4, m17_7, m17_9, m17_10, m17_11, m17_13, m17_14, m17_15, m17_16, m17_17, m17, z, decide_true, decide_false, Bool.false_eq_true, if_true, if_false, Bool.not_true, Bool.not_false, Bool.or_true, Bool.or_false, Bool.true_or, Bool.false_or, Bool.and_true, Bool.and_false, Bool.true_and, Bool.false_and, Option.bind_some, true_implies, false_implies, implies_true]; rfl, h3⟩
  | succ m =>
    have z : ((n : Int) - ((m + 1 : Nat) : Int) < (n : Int)) := by omega
    by_cases c1 : b < p.Ceiling
    · have c0 : ¬ p.Ceiling ≤ b := by omega
      by_cases c2 : T p.Alts p.Masses p.Climb b mass = 0
      · have hg : gs p mass b = b := by rw [gs_cap c1, c2, if_neg (by omega)]; omega
        rw [R_fix hg] at h3
        exact .inr ⟨(b, (n : Int) - ((m + 1 : Nat) : Int)), by simp only [b17_9, m17_1, m17_2, m17_3, m17_4, m17_7, m17_9, m17_10, m17_11, m17_13, m17_14, m17_15, m17_16, m17_17, m17, z, c0, e, c2, beq_self_eq_true, decide_true, decide_false, Bool.false_eq_true, if_true, if_false, Bool.not_true, Bool.not_false, Bool.or_true, Bool.or_false, Bool.true_or, Bool.false_or, Bool.and_true, Bool.and_false, Bool.true_and, Bool.false_and, Option.bind_some, true_implies, false_implies, implies_true]; rfl, h3⟩
      · have c3 : (T p.Alts p.Masses p.Climb b mass == 0) = false := by simpa using c2
        refine .inl ⟨(gs p mass b, (n : Int) - (m : Int)), ?_, m, Nat.lt_succ_self m, gs p mass b, rfl, by omega, gs_in F h2, h3⟩
        have hg : gs p mass b = if b + T p.Alts p.Masses p.Climb b mass < p.Ceiling then b + T p.Alts p.Masses p.Climb b mass else p.Ceiling := by rw [gs_cap c1]; split <;> split <;> omega
        rw [hg]
        have w3 : (n : Int) - ((m + 1 : Nat) : Int) + 1 = (n : Int) - (m : Int) := by omega
        have w4 : IntKind.wrap .i64 ((n : Int) - (m : Int)) = (n : Int) - (m : Int) := w64 (by omega) (by omega)
        simp only [b17_9, m17_1, m17_2, m17_3, m17_4, m17_7, m17_9, m17_10, m17_11, m17_13, m17_14, m17_15, m17_16, m17_17, m17, z, c0, e, c3, w1, w3, w4, decide_true, decide_false, Bool.false_eq_true, if_true, if_false, Bool.not_true, Bool.not_false, Bool.or_true, Bool.or_false, Bool.true_or, Bool.false_or, Bool.and_true, Bool.and_false, Bool.true_and, Bool.false_and, Option.bind_some, true_implies, false_implies, implies_true]
        rfl
    · have c0 : p.Ceiling ≤ b := by omega
      rw [R_fix (gs_top c1)] at h3
      exact .inr ⟨(b, (n : Int) - ((m + 1 : Nat) : Int)), by simp only [b17_9, m17_1, m17_2, m17_3, m17_4, m17_7, m17_9, m17_10, m17_11, m17_13, m17_14, m17_15, m17_16, m17_17, m17, z, c0, decide_true, decide_false, Bool.false_eq_true, if_true, if_false, Bool.not_true, Bool.not_false, Bool.or_true, Bool.or_false, Bool.true_or, Bool.false_or, Bool.and_true, Bool.and_false, Bool.true_and, Bool.false_and, Option.bind_some, true_implies, false_implies, implies_true]; rfl, h3⟩
theorem q14 {p : T25} (h : ok25 p) (alt mass ticks : Int) : ∃ r, m14 p alt mass ticks = some r ∧ m17 p alt mass ticks = some r ∧ (r.2 = 0 ↔ (good p = true ∧ rng alt mass = true ∧ inI 0 50000 ticks = true)) ∧ (r.2 = 0 → r.1 = R p mass ticks.toNat alt) ∧ (r.2 ≠ 0 → r.1 = 0) := by
  obtain ⟨c, h1, h2, h3⟩ := ready h alt mass
  by_cases hc : c = 0
  · obtain ⟨g, hr⟩ := h3.1 hc
    have F := facts g
    obtain ⟨r1, r2⟩ := rng_b hr
    subst hc
    have z : ((0 : Int) != 0) = false := rfl
    cases ht : inI 0 50000 ticks with
    | false =>
      have i1 : (decide (ticks < 0) || decide (50000 < ticks)) = true := by rw [inI1, ht]; rfl
      exact ⟨(0, 2), by simp only [m14_1, m14_2, m14_3, m14_6, m14_8, m14_9, m14_11, m14_12, m14_13, m14_14, m14_15, m14, h1, z, s32', ht, decide_true, decide_false, Bool.false_eq_true, if_true, if_false, Bool.not_true, Bool.not_false, Bool.or_true, Bool.or_false, Bool.true_or, Bool.false_or, Bool.and_true, Bool.and_false, Bool.true_and, Bool.false_and, Option.bind_some, true_implies, false_implies, implies_true], by simp only [m17_1, m17_2, m17_3, m17_4, m17_7, m17_9, m17_10, m17_11, m17_13, m17_14, m17_15, m17_16, m17_17, m17, h2, z, i1, decide_true, decide_false, Bool.false_eq_true, if_true, if_false, Bool.not_true, Bool.not_false, Bool.or_true, Bool.or_false, Bool.true_or, Bool.false_or, Bool.and_true, Bool.and_false, Bool.true_and, Bool.false_and, Option.bind_some, true_implies, false_implies, implies_true], ⟨fun e => (by cases e), fun e => (by cases e.2.2)⟩, fun e => (by cases e), fun _ => rfl⟩
    | true =>
      have i1 : (decide (ticks < 0) || decide (50000 < ticks)) = false := by rw [inI1, ht]; rfl
      have it := inI_iff ht
      have et : ((ticks.toNat : Nat) : Int) = ticks := by omega
      obtain ⟨x, x1, x2⟩ := lp14 F alt mass ticks r2 ticks.toNat (by omega) alt r1
      obtain ⟨y, y1, y2⟩ := lp17 F alt mass r2 ticks.toNat (by omega) alt r1
      rw [et] at x1 y1
      refine ⟨(R p mass ticks.toNat alt, 0), ?_, ?_, ⟨fun _ => ⟨g, hr, rfl⟩, fun _ => rfl⟩, fun _ => rfl, fun e => absurd rfl e⟩
      · simp only [m14_1, m14_2, m14_3, m14_6, m14_8, m14_9, m14_11, m14_12, m14_13, m14_14, m14_15, m14, h1, z, s32', ht, x1, x2, decide_true, decide_false, Bool.false_eq_true, if_true, if_false, Bool.not_true, Bool.not_false, Bool.or_true, Bool.or_false, Bool.true_or, Bool.false_or, Bool.and_true, Bool.and_false, Bool.true_and, Bool.false_and, Option.bind_some, true_implies, false_implies, implies_true]
      · simp only [m17_1, m17_2, m17_3, m17_4, m17_7, m17_9, m17_10, m17_11, m17_13, m17_14, m17_15, m17_16, m17_17, m17, h2, z, i1, y1, y2, decide_true, decide_false, Bool.false_eq_true, if_true, if_false, Bool.not_true, Bool.not_false, Bool.or_true, Bool.or_false, Bool.true_or, Bool.false_or, Bool.and_true, Bool.and_false, Bool.true_and, Bool.false_and, Option.bind_some, true_implies, false_implies, implies_true]
  · have z : (c != 0) = true := by simpa using hc
    exact ⟨(0, c), by simp only [m14_1, m14_2, m14_3, m14_6, m14_8, m14_9, m14_11, m14_12, m14_13, m14_14, m14_15, m14, h1, z, decide_true, decide_false, Bool.false_eq_true, if_true, if_false, Bool.not_true, Bool.not_false, Bool.or_true, Bool.or_false, Bool.true_or, Bool.false_or, Bool.and_true, Bool.and_false, Bool.true_and, Bool.false_and, Option.bind_some, true_implies, false_implies, implies_true], by simp only [m17_1, m17_2, m17_3, m17_4, m17_7, m17_9, m17_10, m17_11, m17_13, m17_14, m17_15, m17_16, m17_17, m17, h2, z, decide_true, decide_false, Bool.false_eq_true, if_true, if_false, Bool.not_true, Bool.not_false, Bool.or_true, Bool.or_false, Bool.true_or, Bool.false_or, Bool.and_true, Bool.and_false, Bool.true_and, Bool.false_and, Option.bind_some, true_implies, false_implies, implies_true], ⟨fun e => absurd e hc, fun e => absurd (h3.2 ⟨e.1, e.2.1⟩) hc⟩, fun e => absurd e hc, fun _ => rfl⟩
/-- The flow of level flight. -/
def mx (a : Int) : Int := if a < 0 then 0 else a
def cf (p : T25) (alt mass tas : Int) : Int := if 50000 < T p.Alts p.Masses p.Cruise alt mass * (1000 + p.Extra * mx (tas - p.Ref)) / 1000 then 50000 else T p.Alts p.Masses p.Cruise alt mass * (1000 + p.Extra * mx (tas - p.Ref)) / 1000
theorem q15 {p : T25} (h : ok25 p) (alt mass tas : Int) : ∃ r, m15 p alt mass tas = some r ∧ m16 p alt mass tas = some r ∧ (r.2 = 0 ↔ (good p = true ∧ rng alt mass = true ∧ inI 0 4000 tas = true)) ∧ (r.2 = 0 → r.1 = cf p alt mass tas) ∧ (r.2 ≠ 0 → r.1 = 0) := by
  obtain ⟨c, h1, h2, h3⟩ := ready h alt mass
  by_cases hc : c = 0
  · obtain ⟨g, hr⟩ := h3.1 hc
    have F := facts g
    obtain ⟨r1, r2⟩ := rng_b hr
    subst hc
    have z : ((0 : Int) != 0) = false := rfl
    cases ht : inI 0 4000 tas with
    | false =>
      have i1 : (decide (tas < 0) || decide (4000 < tas)) = true := by rw [inI1, ht]; rfl
      exact ⟨(0, 2), by simp only [m15_1, m15, h1, z, s32', ht, decide_true, decide_false, Bool.false_eq_true, if_true, if_false, Bool.not_true, Bool.not_false, Bool.or_true, Bool.or_false, Bool.true_or, Bool.false_or, Bool.and_true, Bool.and_false, Bool.true_and, Bool.false_and, Option.bind_some, true_implies, false_implies, implies_true], by simp only [m16_1, m16, h2, z, i1, decide_true, decide_false, Bool.false_eq_true, if_true, if_false, Bool.not_true, Bool.not_false, Bool.or_true, Bool.or_false, Bool.true_or, Bool.false_or, Bool.and_true, Bool.and_false, Bool.true_and, Bool.false_and, Option.bind_some, true_implies, false_implies, implies_true], ⟨fun e => (by cases e), fun e => (by cases e.2.2)⟩, fun e => (by cases e), fun _ => rfl⟩
    | true =>
      have i1 : (decide (tas < 0) || decide (4000 < tas)) = false := by rw [inI1, ht]; rfl
      have it := inI_iff ht
      have e1 := t50 F.tR (alt := alt) (mass := mass) (by omega) (by omega)
      have e2 := t52 F.tR (alt := alt) (mass := mass) (by omega) (by omega)
      have hb := T_bound F.tR alt mass
      have hx := F.ext
      have hf := F.ref
      have w1 : IntKind.wrap .i64 (tas - p.Ref) = tas - p.Ref := w64 (by omega) (by omega)
      have hm : 0 ≤ mx (tas - p.Ref) ∧ mx (tas - p.Ref) ≤ 4000 := by unfold mx; split <;> omega
      have hp : 0 ≤ p.Extra * mx (tas - p.Ref) ∧ p.Extra * mx (tas - p.Ref) ≤ 400000 := ⟨Int.mul_nonneg hx.1 hm.1, by have := Int.mul_le_mul hx.2 hm.2 hm.1 (by omega); omega⟩
      have hq : 0 ≤ T p.Alts p.Masses p.Cruise alt mass * (1000 + p.Extra * mx (tas - p.Ref)) ∧ T p.Alts p.Masses p.Cruise alt mass * (1000 + p.Extra * mx (tas - p.Ref)) ≤ 100000 * 401000 := ⟨Int.mul_nonneg hb.1 (by omega), Int.mul_le_mul hb.2 (by omega) (by omega) (by omega)⟩
      have w2 : IntKind.wrap .i64 (p.Extra * mx (tas - p.Ref)) = p.Extra * mx (tas - p.Ref) := w64 (by omega) (by omega)
      have w3 : IntKind.wrap .i64 (1000 + p.Extra * mx (tas - p.Ref)) = 1000 + p.Extra * mx (tas - p.Ref) := w64 (by omega) (by omega)
      have w4 : IntKind.wrap .i64 (T p.Alts p.Masses p.Cruise alt mass * (1000 + p.Extra * mx (tas - p.Ref))) = T p.Alts p.Masses p.Cruise alt mass * (1000 + p.Extra * mx (tas - p.Ref)) := w64 (by omega) (by omega)
      have w5 : Int.tdiv (T p.Alts p.Masses p.Cruise alt mass * (1000 + p.Extra * mx (tas - p.Ref))) 1000 = T p.Alts p.Masses p.Cruise alt mass * (1000 + p.Extra * mx (tas - p.Ref)) / 1000 := Int.tdiv_eq_ediv_of_nonneg hq.1
      have w6 : IntKind.wrap .i64 (T p.Alts p.Masses p.Cruise alt mass * (1000 + p.Extra * mx (tas - p.Ref)) / 1000) = T p.Alts p.Masses p.Cruise alt mass * (1000 + p.Extra * mx (tas - p.Ref)) / 1000 := w64 (by omega) (by omega)
      have hmx : (if tas - p.Ref < 0 then (0 : Int) else tas - p.Ref) = mx (tas - p.Ref) := rfl
      have th : ((1000 : Int) ≠ 0) = True := by simp
      refine ⟨(cf p alt mass tas, 0), ?_, ?_, ⟨fun _ => ⟨g, hr, rfl⟩, fun _ => rfl⟩, fun _ => rfl, fun e => absurd rfl e⟩
      · simp only [m15_1, m15, h1, z, s32', ht, e1, th, w1, decide_true, decide_false, Bool.false_eq_true, if_true, if_false, Bool.not_true, Bool.not_false, Bool.or_true, Bool.or_false, Bool.true_or, Bool.false_or, Bool.and_true, Bool.and_false, Bool.true_and, Bool.false_and, Option.bind_some, true_implies, false_implies, implies_true]
        simp only [hmx, w2, w3, w4, w5, w6, cf]
      · simp only [m16_1, m16, h2, z, i1, e2, th, w1, decide_true, decide_false, Bool.false_eq_true, if_true, if_false, Bool.not_true, Bool.not_false, Bool.or_true, Bool.or_false, Bool.true_or, Bool.false_or, Bool.and_true, Bool.and_false, Bool.true_and, Bool.false_and, Option.bind_some, true_implies, false_implies, implies_true]
        simp only [hmx, w2, w3, w4, w5, w6, cf]
  · have z : (c != 0) = true := by simpa using hc
    exact ⟨(0, c), by simp only [m15_1, m15, h1, z, decide_true, decide_false, Bool.false_eq_true, if_true, if_false, Bool.not_true, Bool.not_false, Bool.or_true, Bool.or_false, Bool.true_or, Bool.false_or, Bool.and_true, Bool.and_false, Bool.true_and, Bool.false_and, Option.bind_some, true_implies, false_implies, implies_true], by simp only [m16_1, m16, h2, z, decide_true, decide_false, Bool.false_eq_true, if_true, if_false, Bool.not_true, Bool.not_false, Bool.or_true, Bool.or_false, Bool.true_or, Bool.false_or, Bool.and_true, Bool.and_false, Bool.true_and, Bool.false_and, Option.bind_some, true_implies, false_implies, implies_true], ⟨fun e => absurd e hc, fun e => absurd (h3.2 ⟨e.1, e.2.1⟩) hc⟩, fun e => absurd e hc, fun _ => rfl⟩
/-- The chapter's example. -/
def exJ : T25 := ⟨[74, 69, 84], 1000, 1000, [0, 3000000], [1000, 2000], [[3000, 2000], [1000, 500]], [[2000, 3000], [1000, 2000]], [[2000, 3000], [1000, 2000]], [1500, 2000], [400, 300], [340, 300], [120, 140], 400, 5, 3000000⟩
theorem exJ_good : good exJ = true := by decide +kernel
theorem exJ_ok : ok25 exJ := by unfold ok25 maxLen; decide +kernel
theorem res_eq {r : Int × Int} {v : Int} (h : r.2 = 0) (k : r.2 = 0 → r.1 = v) {u : Int} (hv : v = u) : r = (u, 0) := by
  obtain ⟨a, b⟩ := r
  simp only at h k
  rw [h, k h, hv]
theorem awake : m9 = some true := by
  have e0 : m30 = some exJ := rfl
  obtain ⟨c, c1, _, c3⟩ := both exJ_ok
  obtain rfl : c = 0 := c3.2 exJ_good
  have key : ∀ a b : Int, ∀ v u, rng a b = true → T exJ.Alts exJ.Masses exJ.Climb a b = u → v = u → m18 exJ a b = some (v, 0) := fun a b v u hr hT hv => by
    obtain ⟨r, r1, _, r3, r4, _⟩ := q18 exJ_ok a b
    rw [r1, res_eq (r3.2 ⟨exJ_good, hr⟩) r4 (hT.trans hv.symm)]
  have key2 : ∀ a b n : Int, ∀ u, rng a b = true → inI 0 50000 n = true → R exJ b n.toNat a = u → m14 exJ a b n = some (u, 0) := fun a b n u hr hn hT => by
    obtain ⟨r, r1, _, r3, r4, _⟩ := q14 exJ_ok a b n
    rw [r1, res_eq (r3.2 ⟨exJ_good, hr, hn⟩) r4 hT]
  have f1 := key 1500000 1500 1625 1625 (by decide) (by decide +kernel) rfl
  have f2 := key (-100000) 500 3000 3000 (by decide) (by decide +kernel) rfl
  have f3 := key2 2999000 1000 50 3000000 (by decide) (by decide) (by decide +kernel)
  have f4 := key2 0 1000 1 3000 (by decide) (by decide) (by decide +kernel)
  simp only [m9_1, m9, e0, c1, f1, f2, f3, f4, Option.bind_some]
  rfl
theorem plain3 {p : T25} (h : ok25 p) : m3 p = some true := by
  obtain ⟨c, h1, h2, _⟩ := both h
  simp only [m3_1, m3, awake, h1, h2, if_true, Option.bind_some, beq_self_eq_true, Bool.and_true]
theorem plain8 {p : T25} {alt mass : Int} (h : ok25 p) (_ : (Lit.int .i64 alt).wf = true) (_ : (Lit.int .i64 mass).wf = true) : m8 p alt mass = some true := by
  obtain ⟨r1, a1, b1, _⟩ := q18 h alt mass
  obtain ⟨r2, a2, b2, _⟩ := q19 h alt mass
  obtain ⟨r3, a3, b3, _⟩ := q20 h alt
  obtain ⟨r4, a4, b4, _⟩ := q24 h alt
  obtain ⟨r5, a5, b5, _⟩ := q26 h alt
  obtain ⟨r6, a6, b6, _⟩ := q28 h mass
  simp only [m8_1, m8, awake, a1, a2, a3, a4, a5, a6, b1, b2, b3, b4, b5, b6, beq_self_eq_true, decide_true, decide_false, Bool.false_eq_true, if_true, if_false, Bool.not_true, Bool.not_false, Bool.or_true, Bool.or_false, Bool.true_or, Bool.false_or, Bool.and_true, Bool.and_false, Bool.true_and, Bool.false_and, Option.bind_some, true_implies, false_implies, implies_true]
theorem plain6 {p : T25} {x : T31} (h : ok25 p) (_ : ok31 x) : m6 p x = some true := by
  obtain ⟨r1, a1, b1, _⟩ := q15 h x.Alt x.Mass x.N
  obtain ⟨r2, a2, b2, _⟩ := q14 h x.Alt x.Mass x.N
  simp only [m6_1, m6, awake, a1, a2, b1, b2, bne_self_eq_false, beq_self_eq_true, decide_true, decide_false, Bool.false_eq_true, if_true, if_false, Bool.not_true, Bool.not_false, Bool.or_true, Bool.or_false, Bool.true_or, Bool.false_or, Bool.and_true, Bool.and_false, Bool.true_and, Bool.false_and, Option.bind_some, true_implies, false_implies, implies_true]
end Go.Av
