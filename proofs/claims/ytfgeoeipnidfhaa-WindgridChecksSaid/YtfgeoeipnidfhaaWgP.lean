/- The laws of forecasts: hulls, edges, checks. -/
import Derived.Test.YtfgeoeipnidfhaaFnZ
import Derived.Test.YtfgeoeipnidfhaaAvPlain
import Derived.Test.YtfgeoeipnidfhaaPlainO
set_option linter.unusedSimpArgs false
set_option linter.unusedVariables false
namespace Go.Av
open Go.RowKit Go.Base Go.Proofs Go.Proofs.Ytfgeoeipnidfhaa Wg
def toSp (s : T46) : Sp0 := ⟨s.P.X, s.P.Y, s.Alt, s.Miss.East, s.Miss.North⟩
theorem mn (a b : Int) : (if b < a then b else a) = min a b := by omega
theorem mx' (a b : Int) : (if a < b then b else a) = max a b := by omega
theorem in15 (x : T38) (s : T46) : ∃ b, m15 x s = some b ∧ (b = true ↔ inside (toAr x.A x.B x.Alts) (toSp s)) := by
  refine ⟨_, rfl, ?_⟩
  simp only [mn, mx', Bool.and_eq_true, decide_eq_true_eq, inside, toAr, toSp]
  exact ⟨fun ⟨⟨⟨⟨⟨h1, h2⟩, h3⟩, h4⟩, h5⟩, h6⟩ => ⟨⟨h1, h2⟩, ⟨h3, h4⟩, h5, h6⟩, fun ⟨⟨h1, h2⟩, ⟨h3, h4⟩, h5, h6⟩ => ⟨⟨⟨⟨⟨h1, h2⟩, h3⟩, h4⟩, h5⟩, h6⟩⟩
theorem hullT_err {g : Grid} {a : Ar} (h : hullE g a ≠ 0) : hullT g a = (⟨⟨0, 0⟩, ⟨0, 0⟩⟩, ⟨0, 0⟩, hullE g a) := if_neg h
theorem hullT_ok {g : Grid} {a : Ar} (h : hullE g a = 0) : hullT g a = (⟨⟨(hullR 0 g a).1 - g.err, (hullR 0 g a).2 + g.err⟩, ⟨(hullR 1 g a).1 - g.err, (hullR 1 g a).2 + g.err⟩⟩, ⟨(hullR 2 g a).1, (hullR 2 g a).2⟩, 0) := if_pos h
theorem nez {c : Int} (h : c ≠ 0) : (c != 0) = true := by simpa using h
theorem z0 : ((0 : Int) != 0) = false := rfl
theorem z1 : ((0 : Int) == 0) = true := rfl
theorem plain5 {g : T27} {x : T38} {s : T46} (h : ok27 g) (_ : ok38 x) (hs : ok46 s) : m5 g x s = some true := by
  have e10 : m10 = some true := rfl
  have e13 : m13 g x.A x.B x.Alts = some (hullT (toG g) (toAr x.A x.B x.Alts)) := rfl
  obtain ⟨b, b1, b2⟩ := in15 x s
  by_cases hh : hullE (toG g) (toAr x.A x.B x.Alts) = 0
  · simp only [m5_1, m5, e10, e13, hullT_ok hh, z0, b1, decide_true, decide_false, Bool.false_eq_true, if_true, if_false, Bool.not_true, Bool.not_false, Bool.or_true, Bool.or_false, Bool.true_or, Bool.false_or, Bool.and_true, Bool.and_false, Bool.true_and, Bool.false_and, Option.bind_some, true_implies, false_implies, implies_true]
    obtain ⟨ho, _, _, _, hlh, _⟩ := hullE_ok hh
    have herr : 0 ≤ g.Err ∧ g.Err ≤ 60 := ⟨ho.err1, ho.err2⟩
    have w1 : IntKind.wrap .i64 (0 - g.Err) = -g.Err := by rw [w64 (by omega) (by omega)]; omega
    cases hb : b with
    | false => simp only [decide_true, decide_false, Bool.false_eq_true, if_true, if_false, Bool.not_true, Bool.not_false, Bool.or_true, Bool.or_false, Bool.true_or, Bool.false_or, Bool.and_true, Bool.and_false, Bool.true_and, Bool.false_and, Option.bind_some, true_implies, false_implies, implies_true]
    | true =>
      have hi := b2.1 hb
      rw [w1]
      have ge : (toG g).err = g.Err := rfl
      by_cases c1 : s.Miss.East < -g.Err
      · simp only [c1, decide_true, decide_false, Bool.false_eq_true, if_true, if_false, Bool.not_true, Bool.not_false, Bool.or_true, Bool.or_false, Bool.true_or, Bool.false_or, Bool.and_true, Bool.and_false, Bool.true_and, Bool.false_and, Option.bind_some, true_implies, false_implies, implies_true]
      by_cases c2 : g.Err < s.Miss.East
      · simp only [c1, c2, decide_true, decide_false, Bool.false_eq_true, if_true, if_false, Bool.not_true, Bool.not_false, Bool.or_true, Bool.or_false, Bool.true_or, Bool.false_or, Bool.and_true, Bool.and_false, Bool.true_and, Bool.false_and, Option.bind_some, true_implies, false_implies, implies_true]
      by_cases c3 : s.Miss.North < -g.Err
      · simp only [c1, c2, c3, decide_true, decide_false, Bool.false_eq_true, if_true, if_false, Bool.not_true, Bool.not_false, Bool.or_true, Bool.or_false, Bool.true_or, Bool.false_or, Bool.and_true, Bool.and_false, Bool.true_and, Bool.false_and, Option.bind_some, true_implies, false_implies, implies_true]
      by_cases c4 : g.Err < s.Miss.North
      · simp only [c1, c2, c3, c4, decide_true, decide_false, Bool.false_eq_true, if_true, if_false, Bool.not_true, Bool.not_false, Bool.or_true, Bool.or_false, Bool.true_or, Bool.false_or, Bool.and_true, Bool.and_false, Bool.true_and, Bool.false_and, Option.bind_some, true_implies, false_implies, implies_true]
      have a0 := encloses 0 hh hi
      have a1 := encloses 1 hh hi
      have a2 := encloses 2 hh hi
      have q0 := hullR_in 0 ho _ hlh
      have q1 := hullR_in 1 ho _ hlh
      unfold inB at q0 q1
      have e11 : m11 g s.P s.Alt = some (⟨atP 0 (toG g) s.P.X s.P.Y s.Alt, atP 1 (toG g) s.P.X s.P.Y s.Alt⟩, atP 2 (toG g) s.P.X s.P.Y s.Alt, atE (toG g) s.P.X s.P.Y s.Alt) := rfl
      have he : atE (toG g) s.P.X s.P.Y s.Alt = 0 := a0.1
      have f0 := a0.2
      have f1 := a1.2
      have f2 := a2.2
      simp only [toSp, has] at f0 f1 f2
      have w2 : IntKind.wrap .i64 (atP 0 (toG g) s.P.X s.P.Y s.Alt + s.Miss.East) = atP 0 (toG g) s.P.X s.P.Y s.Alt + s.Miss.East := w64 (by omega) (by omega)
      have w3 : IntKind.wrap .i64 (atP 1 (toG g) s.P.X s.P.Y s.Alt + s.Miss.North) = atP 1 (toG g) s.P.X s.P.Y s.Alt + s.Miss.North := w64 (by omega) (by omega)
      have d1 : ¬ atP 2 (toG g) s.P.X s.P.Y s.Alt < (hullR 2 (toG g) (toAr x.A x.B x.Alts)).1 := by omega
      have d2 : ¬ (hullR 2 (toG g) (toAr x.A x.B x.Alts)).2 < atP 2 (toG g) s.P.X s.P.Y s.Alt := by omega
      have d3 : (hullR 0 (toG g) (toAr x.A x.B x.Alts)).1 - g.Err ≤ atP 0 (toG g) s.P.X s.P.Y s.Alt + s.Miss.East := by omega
      have d4 : atP 0 (toG g) s.P.X s.P.Y s.Alt + s.Miss.East ≤ (hullR 0 (toG g) (toAr x.A x.B x.Alts)).2 + g.Err := by omega
      have d5 : (hullR 1 (toG g) (toAr x.A x.B x.Alts)).1 - g.Err ≤ atP 1 (toG g) s.P.X s.P.Y s.Alt + s.Miss.North := by omega
      have d6 : atP 1 (toG g) s.P.X s.P.Y s.Alt + s.Miss.North ≤ (hullR 1 (toG g) (toAr x.A x.B x.Alts)).2 + g.Err := by omega
      simp only [c1, c2, c3, c4, e11, he, z0, ge, w2, w3, d1, d2, d3, d4, d5, d6, decide_true, decide_false, Bool.false_eq_true, if_true, if_false, Bool.not_true, Bool.not_false, Bool.or_true, Bool.or_false, Bool.true_or, Bool.false_or, Bool.and_true, Bool.and_false, Bool.true_and, Bool.false_and, Option.bind_some, true_implies, false_implies, implies_true]
  · simp only [m5_1, m5, e10, e13, hullT_err hh, nez hh, z1, decide_true, decide_false, Bool.false_eq_true, if_true, if_false, Bool.not_true, Bool.not_false, Bool.or_true, Bool.or_false, Bool.true_or, Bool.false_or, Bool.and_true, Bool.and_false, Bool.true_and, Bool.false_and, Option.bind_some, true_implies, false_implies, implies_true]
theorem plain8 {g : T27} {x : T38} {s : T51} (h : ok27 g) (_ : ok38 x) (_ : ok51 s) : m8 g x s = some true := by
  have e10 : m10 = some true := rfl
  have e13 : ∀ a b v, m13 g a b v = some (hullT (toG g) (toAr a b v)) := fun _ _ _ => rfl
  obtain ⟨b, b1, b2⟩ := in15 x s.e0
  obtain ⟨c, c1, c2⟩ := in15 x s.e1
  by_cases hh : hullE (toG g) (toAr x.A x.B x.Alts) = 0
  · cases hb : b with
    | false => simp only [m8_1, m8, e10, e13, hullT_ok hh, z0, z1, b1, hb, decide_true, decide_false, Bool.false_eq_true, if_true, if_false, Bool.not_true, Bool.not_false, Bool.or_true, Bool.or_false, Bool.true_or, Bool.false_or, Bool.and_true, Bool.and_false, Bool.true_and, Bool.false_and, Option.bind_some, true_implies, false_implies, implies_true]
    | true =>
      cases hc : c with
      | false => simp only [m8_1, m8, e10, e13, hullT_ok hh, z0, z1, b1, c1, hb, hc, decide_true, decide_false, Bool.false_eq_true, if_true, if_false, Bool.not_true, Bool.not_false, Bool.or_true, Bool.or_false, Bool.true_or, Bool.false_or, Bool.and_true, Bool.and_false, Bool.true_and, Bool.false_and, Option.bind_some, true_implies, false_implies, implies_true]
      | true =>
        have G := fun p => grows p hh (b2.1 hb) (c2.1 hc)
        have ea : toAr s.e0.P s.e1.P ⟨min s.e0.Alt s.e1.Alt, max s.e0.Alt s.e1.Alt⟩ = ⟨(toSp s.e0).x, (toSp s.e0).y, (toSp s.e1).x, (toSp s.e1).y, min (toSp s.e0).alt (toSp s.e1).alt, max (toSp s.e0).alt (toSp s.e1).alt⟩ := rfl
        have he := (G 0).1
        rw [← ea] at he
        have f0 := (G 0).2
        have f1 := (G 1).2
        have f2 := (G 2).2
        rw [← ea] at f0 f1 f2
        simp only [Go.Proofs.Ytfgeoeipnidfhaa.sub] at f0 f1 f2
        have e17 : ∀ a b : T39, m17 a b = some ((decide (b.Lo ≤ a.Lo)) && (decide (a.Hi ≤ b.Hi))) := fun _ _ => rfl
        simp only [m8_1, m8, e10, e13, mn, mx', hullT_ok hh, hullT_ok he, z0, z1, b1, c1, hb, hc, e17, decide_true, decide_false, Bool.false_eq_true, if_true, if_false, Bool.not_true, Bool.not_false, Bool.or_true, Bool.or_false, Bool.true_or, Bool.false_or, Bool.and_true, Bool.and_false, Bool.true_and, Bool.false_and, Option.bind_some, true_implies, false_implies, implies_true]
        generalize hullR 0 (toG g) (toAr s.e0.P s.e1.P ⟨min s.e0.Alt s.e1.Alt, max s.e0.Alt s.e1.Alt⟩) = u0 at f0 ⊢
        generalize hullR 1 (toG g) (toAr s.e0.P s.e1.P ⟨min s.e0.Alt s.e1.Alt, max s.e0.Alt s.e1.Alt⟩) = u1 at f1 ⊢
        generalize hullR 2 (toG g) (toAr s.e0.P s.e1.P ⟨min s.e0.Alt s.e1.Alt, max s.e0.Alt s.e1.Alt⟩) = u2 at f2 ⊢
        have d1 : (hullR 0 (toG g) (toAr x.A x.B x.Alts)).1 - (toG g).err ≤ u0.1 - (toG g).err := by omega
        have d2 : u0.2 + (toG g).err ≤ (hullR 0 (toG g) (toAr x.A x.B x.Alts)).2 + (toG g).err := by omega
        have d3 : (hullR 1 (toG g) (toAr x.A x.B x.Alts)).1 - (toG g).err ≤ u1.1 - (toG g).err := by omega
        have d4 : u1.2 + (toG g).err ≤ (hullR 1 (toG g) (toAr x.A x.B x.Alts)).2 + (toG g).err := by omega
        simp only [d1, d2, d3, d4, f2.1, f2.2, decide_true, decide_false, Bool.false_eq_true, if_true, if_false, Bool.not_true, Bool.not_false, Bool.or_true, Bool.or_false, Bool.true_or, Bool.false_or, Bool.and_true, Bool.and_false, Bool.true_and, Bool.false_and, Option.bind_some, true_implies, false_implies, implies_true]
  · have z3 : (hullE (toG g) (toAr x.A x.B x.Alts) == 0) = false := by simpa using hh
    simp only [m8_1, m8, e10, e13, hullT_err hh, nez hh, z1, z3, decide_true, decide_false, Bool.false_eq_true, if_true, if_false, Bool.not_true, Bool.not_false, Bool.or_true, Bool.or_false, Bool.true_or, Bool.false_or, Bool.and_true, Bool.and_false, Bool.true_and, Bool.false_and, Option.bind_some, true_implies, false_implies, implies_true]
def calmG (err : Int) : T27 := ⟨⟨0, 0⟩, 1, 1, 1, [0], [⟨0, 0⟩], [0], err⟩
def zeroG : T27 := ⟨⟨0, 0⟩, 0, 0, 0, [], [], [], 0⟩
theorem same_self {a : T27} (h1 : a.Alts.length ≤ 1000) (h2 : a.Winds.length ≤ 1000) (h3 : a.Devs.length ≤ 1000) : m21 a a = some true := by
  have one : ∀ (b : Int → Option (Int ⊕ (Unit ⊕ Bool))) (n : Nat), (∀ i : Nat, i < n → b i = some (.inl ((i : Int) + 1))) → (∀ i : Nat, n ≤ i → b i = some (.inr (.inl ()))) → loopO b 0 = some (.inl ()) := fun b n k1 k2 => by
    have := loop_all (b := b) (n := n) (fun _ => true) (.inr false) (.inl ()) (fun i hi => k2 i hi) n 0 (by omega) (fun i _ hi => by rw [if_pos rfl]; exact k1 i hi)
    simpa [allR] using this
  have l1 := one (b21_8 a a) a.Alts.length (fun i hi => by
    have d0 : (0 : Int) ≤ i := by omega
    have d1 : (i : Int) < a.Alts.length := by omega
    have w : IntKind.wrap .i64 ((i : Int) + 1) = (i : Int) + 1 := w64 (by omega) (by omega)
    simp only [b21_8, m21_1, m21_2, m21_3, m21_6, m21_8, m21_9, m21_10, m21_11, m21_14, m21_16, m21_17, m21_18, m21_19, m21_22, m21_24, m21_25, m21_26, m21_27, m21_28, m21_29, m21_30, m21_31, m21_32, m21, d0, d1, w, bne_self_eq_false, decide_true, decide_false, Bool.false_eq_true, if_true, if_false, Bool.not_true, Bool.not_false, Bool.or_true, Bool.or_false, Bool.true_or, Bool.false_or, Bool.and_true, Bool.and_false, Bool.true_and, Bool.false_and, Option.bind_some, true_implies, false_implies, implies_true]
    rfl) (fun i hi => by simp only [b21_8, m21_1, m21_2, m21_3, m21_6, m21_8, m21_9, m21_10, m21_11, m21_14, m21_16, m21_17, m21_18, m21_19, m21_22, m21_24, m21_25, m21_26, m21_27, m21_28, m21_29, m21_30, m21_31, m21_32, m21, not_lt_cast hi, decide_true, decide_false, Bool.false_eq_true, if_true, if_false, Bool.not_true, Bool.not_false, Bool.or_true, Bool.or_false, Bool.true_or, Bool.false_or, Bool.and_true, Bool.and_false, Bool.true_and, Bool.false_and, Option.bind_some, true_implies, false_implies, implies_true]; rfl)
  have l2 := one (b21_16 a a) a.Winds.length (fun i hi => by
    have d0 : (0 : Int) ≤ i := by omega
    have d1 : (i : Int) < a.Winds.length := by omega
    have w : IntKind.wrap .i64 ((i : Int) + 1) = (i : Int) + 1 := w64 (by omega) (by omega)
    simp only [b21_16, m21_1, m21_2, m21_3, m21_6, m21_8, m21_9, m21_10, m21_11, m21_14, m21_16, m21_17, m21_18, m21_19, m21_22, m21_24, m21_25, m21_26, m21_27, m21_28, m21_29, m21_30, m21_31, m21_32, m21, d0, d1, w, beq_self_eq_true, decide_true, decide_false, Bool.false_eq_true, if_true, if_false, Bool.not_true, Bool.not_false, Bool.or_true, Bool.or_false, Bool.true_or, Bool.false_or, Bool.and_true, Bool.and_false, Bool.true_and, Bool.false_and, Option.bind_some, true_implies, false_implies, implies_true]
    rfl) (fun i hi => by simp only [b21_16, m21_1, m21_2, m21_3, m21_6, m21_8, m21_9, m21_10, m21_11, m21_14, m21_16, m21_17, m21_18, m21_19, m21_22, m21_24, m21_25, m21_26, m21_27, m21_28, m21_29, m21_30, m21_31, m21_32, m21, not_lt_cast hi, decide_true, decide_false, Bool.false_eq_true, if_true, if_false, Bool.not_true, Bool.not_false, Bool.or_true, Bool.or_false, Bool.true_or, Bool.false_or, Bool.and_true, Bool.and_false, Bool.true_and, Bool.false_and, Option.bind_some, true_implies, false_implies, implies_true]; rfl)
  have l3 := one (b21_24 a a) a.Devs.length (fun i hi => by
    have d0 : (0 : Int) ≤ i := by omega
    have d1 : (i : Int) < a.Devs.length := by omega
    have w : IntKind.wrap .i64 ((i : Int) + 1) = (i : Int) + 1 := w64 (by omega) (by omega)
    simp only [b21_24, m21_1, m21_2, m21_3, m21_6, m21_8, m21_9, m21_10, m21_11, m21_14, m21_16, m21_17, m21_18, m21_19, m21_22, m21_24, m21_25, m21_26, m21_27, m21_28, m21_29, m21_30, m21_31, m21_32, m21, d0, d1, w, bne_self_eq_false, decide_true, decide_false, Bool.false_eq_true, if_true, if_false, Bool.not_true, Bool.not_false, Bool.or_true, Bool.or_false, Bool.true_or, Bool.false_or, Bool.and_true, Bool.and_false, Bool.true_and, Bool.false_and, Option.bind_some, true_implies, false_implies, implies_true]
    rfl) (fun i hi => by simp only [b21_24, m21_1, m21_2, m21_3, m21_6, m21_8, m21_9, m21_10, m21_11, m21_14, m21_16, m21_17, m21_18, m21_19, m21_22, m21_24, m21_25, m21_26, m21_27, m21_28, m21_29, m21_30, m21_31, m21_32, m21, not_lt_cast hi, decide_true, decide_false, Bool.false_eq_true, if_true, if_false, Bool.not_true, Bool.not_false, Bool.or_true, Bool.or_false, Bool.true_or, Bool.false_or, Bool.and_true, Bool.and_false, Bool.true_and, Bool.false_and, Option.bind_some, true_implies, false_implies, implies_true]; rfl)
  simp only [m21_1, m21_2, m21_3, m21_6, m21_8, m21_9, m21_10, m21_11, m21_14, m21_16, m21_17, m21_18, m21_19, m21_22, m21_24, m21_25, m21_26, m21_27, m21_28, m21_29, m21_30, m21_31, m21_32, m21, l1, l2, l3, beq_self_eq_true, bne_self_eq_false, decide_true, decide_false, Bool.false_eq_true, if_true, if_false, Bool.not_true, Bool.not_false, Bool.or_true, Bool.or_false, Bool.true_or, Bool.false_or, Bool.and_true, Bool.and_false, Bool.true_and, Bool.false_and, Option.bind_some, true_implies, false_implies, implies_true]
theorem plain9 {g : T27} {err : Int} (h : ok27 g) (_ : (Lit.int .i64 err).wf = true) : m9 g err = some true := by
  have e10 : m10 = some true := rfl
  have e16 : m16 g = some (chk (toG g)) := rfl
  have e20 : m20 g = some (chk (toG g)) := rfl
  have e24 : m24 err 0 60 = some (decide (0 ≤ err) && decide (err ≤ 60)) := rfl
  by_cases c1 : 0 ≤ err ∧ err ≤ 60
  · have n1 : ¬ err < 0 := by omega
    have n2 : ¬ 60 < err := by omega
    have e18 : m18 err = some (calmG err, 0) := by simp only [m18_1, m18, e24, c1.1, c1.2, decide_true, decide_false, Bool.false_eq_true, if_true, if_false, Bool.not_true, Bool.not_false, Bool.or_true, Bool.or_false, Bool.true_or, Bool.false_or, Bool.and_true, Bool.and_false, Bool.true_and, Bool.false_and, Option.bind_some, true_implies, false_implies, implies_true]; rfl
    have e19 : m19 err = some (calmG err, 0) := by simp only [m19_1, m19, n1, n2, decide_true, decide_false, Bool.false_eq_true, if_true, if_false, Bool.not_true, Bool.not_false, Bool.or_true, Bool.or_false, Bool.true_or, Bool.false_or, Bool.and_true, Bool.and_false, Bool.true_and, Bool.false_and, Option.bind_some, true_implies, false_implies, implies_true]; rfl
    simp only [m9_1, m9, e10, e16, e20, e18, e19, same_self (a := calmG err) (show 1 ≤ 1000 by decide) (show 1 ≤ 1000 by decide) (show 1 ≤ 1000 by decide), beq_self_eq_true, decide_true, decide_false, Bool.false_eq_true, if_true, if_false, Bool.not_true, Bool.not_false, Bool.or_true, Bool.or_false, Bool.true_or, Bool.false_or, Bool.and_true, Bool.and_false, Bool.true_and, Bool.false_and, Option.bind_some, true_implies, false_implies, implies_true]
  · have e18 : m18 err = some (zeroG, 2) := by
      by_cases c2 : 0 ≤ err
      · have c3 : ¬ err ≤ 60 := by omega
        simp only [m18_1, m18, e24, c2, c3, decide_true, decide_false, Bool.false_eq_true, if_true, if_false, Bool.not_true, Bool.not_false, Bool.or_true, Bool.or_false, Bool.true_or, Bool.false_or, Bool.and_true, Bool.and_false, Bool.true_and, Bool.false_and, Option.bind_some, true_implies, false_implies, implies_true]; rfl
      · simp only [m18_1, m18, e24, c2, decide_true, decide_false, Bool.false_eq_true, if_true, if_false, Bool.not_true, Bool.not_false, Bool.or_true, Bool.or_false, Bool.true_or, Bool.false_or, Bool.and_true, Bool.and_false, Bool.true_and, Bool.false_and, Option.bind_some, true_implies, false_implies, implies_true]; rfl
    have e19 : m19 err = some (zeroG, 2) := by
      by_cases c2 : err < 0
      · simp only [m19_1, m19, c2, decide_true, decide_false, Bool.false_eq_true, if_true, if_false, Bool.not_true, Bool.not_false, Bool.or_true, Bool.or_false, Bool.true_or, Bool.false_or, Bool.and_true, Bool.and_false, Bool.true_and, Bool.false_and, Option.bind_some, true_implies, false_implies, implies_true]; rfl
      · have c3 : 60 < err := by omega
        simp only [m19_1, m19, c2, c3, decide_true, decide_false, Bool.false_eq_true, if_true, if_false, Bool.not_true, Bool.not_false, Bool.or_true, Bool.or_false, Bool.true_or, Bool.false_or, Bool.and_true, Bool.and_false, Bool.true_and, Bool.false_and, Option.bind_some, true_implies, false_implies, implies_true]; rfl
    simp only [m9_1, m9, e10, e16, e20, e18, e19, same_self (a := zeroG) (by decide) (by decide) (by decide), beq_self_eq_true, decide_true, decide_false, Bool.false_eq_true, if_true, if_false, Bool.not_true, Bool.not_false, Bool.or_true, Bool.or_false, Bool.true_or, Bool.false_or, Bool.and_true, Bool.and_false, Bool.true_and, Bool.false_and, Option.bind_some, true_implies, false_implies, implies_true]
theorem count_b {g : Grid} (h : Ok g) : 1 ≤ count g ∧ count g ≤ 2048 := by
  have h1 := h.nx1
  have h2 := h.nx2
  have h3 := h.ny1
  have h4 := h.ny2
  have h5 := h.al1
  have h6 := h.al2
  unfold count
  have a1 : 1 * 1 ≤ g.nx * g.ny := Int.mul_le_mul h1 h3 (by omega) (by omega)
  have a2 : g.nx * g.ny ≤ 16 * 16 := Int.mul_le_mul h2 h4 (by omega) (by omega)
  have b1 : 1 * 1 ≤ g.nx * g.ny * (g.alts.length : Int) := Int.mul_le_mul a1 (by omega) (by omega) (by omega)
  have b2 : g.nx * g.ny * (g.alts.length : Int) ≤ 256 * 8 := Int.mul_le_mul a2 (by omega) (by omega) (by omega)
  omega
theorem winds_at {g : T27} {i : Nat} (h : i < g.Winds.length) : (toG g).winds.getD i (0, 0) = ((g.Winds.getD i default).East, (g.Winds.getD i default).North) := by
  simp only [toG, List.getD_eq_getElem?_getD, List.getElem?_map, List.getElem?_eq_getElem h, Option.map_some, Option.getD_some]
theorem plain6 {g : T27} {k : Int} (h : ok27 g) (_ : (Lit.int .i64 k).wf = true) : m6 g k = some true := by
  have e10 : m10 = some true := rfl
  have e16 : m16 g = some (chk (toG g)) := rfl
  have e11 : ∀ p a, m11 g p a = some (⟨atP 0 (toG g) p.X p.Y a, atP 1 (toG g) p.X p.Y a⟩, atP 2 (toG g) p.X p.Y a, atE (toG g) p.X p.Y a) := fun _ _ => rfl
  by_cases hc : chk (toG g) = 0
  · have ho := ok_of hc
    have hb := count_b ho
    have hwl : (g.Winds.length : Int) = count (toG g) := by have := ho.wl; simpa [toG] using this
    have hdl : (g.Devs.length : Int) = count (toG g) := ho.dl
    have n1 : 1 ≤ g.NX := ho.nx1
    have n2 : g.NX ≤ 16 := ho.nx2
    have n3 : 1 ≤ g.NY := ho.ny1
    have n4 : g.NY ≤ 16 := ho.ny2
    have hn : (g.Winds.length : Int) ≠ 0 := by omega
    have hx : g.NX ≠ 0 := by omega
    have hy : g.NY ≠ 0 := by omega
    have t1 := Int.lt_tmod_of_pos k (show 0 < (g.Winds.length : Int) by omega)
    have t2 := Int.tmod_lt_of_pos k (show 0 < (g.Winds.length : Int) by omega)
    have w1 : IntKind.wrap .i64 (Int.tmod k (g.Winds.length : Int) + (g.Winds.length : Int)) = Int.tmod k (g.Winds.length : Int) + (g.Winds.length : Int) := w64 (by omega) (by omega)
    have i1 := Int.tmod_lt_of_pos (Int.tmod k (g.Winds.length : Int) + (g.Winds.length : Int)) (show 0 < (g.Winds.length : Int) by omega)
    have i0 := Int.tmod_nonneg (g.Winds.length : Int) (show 0 ≤ Int.tmod k (g.Winds.length : Int) + (g.Winds.length : Int) by omega)
    simp only [m6_1, m6, e10, e16, hc, z0, hn, hx, hy, w1, ne_eq, not_false_eq_true, decide_true, decide_false, Bool.false_eq_true, if_true, if_false, Bool.not_true, Bool.not_false, Bool.or_true, Bool.or_false, Bool.true_or, Bool.false_or, Bool.and_true, Bool.and_false, Bool.true_and, Bool.false_and, Option.bind_some, true_implies, false_implies, implies_true]
    generalize Int.tmod (Int.tmod k (g.Winds.length : Int) + (g.Winds.length : Int)) (g.Winds.length : Int) = I at i0 i1 ⊢
    have i2 : I < count (toG g) := by omega
    obtain ⟨pj, pk, pz, _⟩ := pt_in ho i0 i2
    change (0 ≤ I % g.NX ∧ I % g.NX ≤ g.NX - 1) at pj
    change (0 ≤ I / g.NX % g.NY ∧ I / g.NX % g.NY ≤ g.NY - 1) at pk
    change (0 ≤ I / g.NX / g.NY ∧ I / g.NX / g.NY < (g.Alts.length : Int)) at pz
    have al : (g.Alts.length : Int) ≤ 8 := by have := ho.al2; simp only [toG] at this; omega
    have m1 : Int.tmod I g.NX = I % g.NX := Int.tmod_eq_emod_of_nonneg i0
    have q1 : Int.tdiv I g.NX = I / g.NX := Int.tdiv_eq_ediv_of_nonneg i0
    have q0 : 0 ≤ I / g.NX := Int.ediv_nonneg i0 (by omega)
    have q2 : I / g.NX ≤ I := Int.ediv_le_self _ i0
    have w2 : IntKind.wrap .i64 (I / g.NX) = I / g.NX := w64 (by omega) (by omega)
    have m2 : Int.tmod (I / g.NX) g.NY = I / g.NX % g.NY := Int.tmod_eq_emod_of_nonneg q0
    have q3 : Int.tdiv (I / g.NX) g.NY = I / g.NX / g.NY := Int.tdiv_eq_ediv_of_nonneg q0
    have w3 : IntKind.wrap .i64 (I / g.NX / g.NY) = I / g.NX / g.NY := w64 (by omega) (by omega)
    have c1 : 1 ≤ g.Cell := ho.cell1
    have c2 : g.Cell ≤ 2000000 := ho.cell2
    have x1 : -2000000 ≤ g.Corner.X ∧ g.Corner.X ≤ 2000000 := ⟨ho.cx1, ho.cx2⟩
    have y1 : -2000000 ≤ g.Corner.Y ∧ g.Corner.Y ≤ 2000000 := ⟨ho.cy1, ho.cy2⟩
    have b1 : 0 ≤ I % g.NX * g.Cell ∧ I % g.NX * g.Cell ≤ 16 * 2000000 := ⟨Int.mul_nonneg pj.1 (by omega), Int.mul_le_mul (by omega) c2 (by omega) (by omega)⟩
    have b2 : 0 ≤ I / g.NX % g.NY * g.Cell ∧ I / g.NX % g.NY * g.Cell ≤ 16 * 2000000 := ⟨Int.mul_nonneg pk.1 (by omega), Int.mul_le_mul (by omega) c2 (by omega) (by omega)⟩
    have w4 : IntKind.wrap .i64 (I % g.NX * g.Cell) = I % g.NX * g.Cell := w64 (by omega) (by omega)
    have w5 : IntKind.wrap .i64 (I / g.NX % g.NY * g.Cell) = I / g.NX % g.NY * g.Cell := w64 (by omega) (by omega)
    have w6 : IntKind.wrap .i64 (g.Corner.X + I % g.NX * g.Cell) = g.Corner.X + I % g.NX * g.Cell := w64 (by omega) (by omega)
    have w7 : IntKind.wrap .i64 (g.Corner.Y + I / g.NX % g.NY * g.Cell) = g.Corner.Y + I / g.NX % g.NY * g.Cell := w64 (by omega) (by omega)
    simp only [m1, q1, w2, m2, q3, w3, w4, w5, w6, w7, pz.1, pz.2, e11, hx, hy, ne_eq, not_false_eq_true, decide_true, decide_false, Bool.false_eq_true, if_true, if_false, Bool.not_true, Bool.not_false, Bool.or_true, Bool.or_false, Bool.true_or, Bool.false_or, Bool.and_true, Bool.and_false, Bool.true_and, Bool.false_and, Option.bind_some, true_implies, false_implies, implies_true]
    have hz : (((I / g.NX / g.NY).toNat : Nat) : Int) = I / g.NX / g.NY := by omega
    have hzl : (I / g.NX / g.NY).toNat < g.Alts.length := by omega
    have ea : g.Alts.getD (I / g.NX / g.NY).toNat default = (toG g).alts[(I / g.NX / g.NY).toNat]'hzl := by
      show g.Alts.getD _ default = g.Alts[(I / g.NX / g.NY).toNat]
      rw [List.getD_eq_getElem?_getD, List.getElem?_eq_getElem hzl, Option.getD_some]
    rw [ea]
    by_cases far : 2000000 < g.Corner.X + I % g.NX * g.Cell ∨ 2000000 < g.Corner.Y + I / g.NX % g.NY * g.Cell
    · have hf : (decide (2000000 < g.Corner.X + I % g.NX * g.Cell) || decide (2000000 < g.Corner.Y + I / g.NX % g.NY * g.Cell)) = true := by simpa using far
      have := pt_far hc (a := (toG g).alts[(I / g.NX / g.NY).toNat]'hzl) far
      simp only [hf, this, beq_self_eq_true, decide_true, decide_false, Bool.false_eq_true, if_true, if_false, Bool.not_true, Bool.not_false, Bool.or_true, Bool.or_false, Bool.true_or, Bool.false_or, Bool.and_true, Bool.and_false, Bool.true_and, Bool.false_and, Option.bind_some, true_implies, false_implies, implies_true]
    · have hf : (decide (2000000 < g.Corner.X + I % g.NX * g.Cell) || decide (2000000 < g.Corner.Y + I / g.NX % g.NY * g.Cell)) = false := by simpa using far
      obtain ⟨he, hp⟩ := pt_plain hc i0 i2 (z := (I / g.NX / g.NY).toNat) hz hzl (show g.Corner.X + I % g.NX * g.Cell ≤ 2000000 by omega) (show g.Corner.Y + I / g.NX % g.NY * g.Cell ≤ 2000000 by omega)
      have p0 := hp 0
      have p1 := hp 1
      have p2 := hp 2
      change atE (toG g) (g.Corner.X + I % g.NX * g.Cell) (g.Corner.Y + I / g.NX % g.NY * g.Cell) _ = 0 at he
      change atP 0 (toG g) (g.Corner.X + I % g.NX * g.Cell) (g.Corner.Y + I / g.NX % g.NY * g.Cell) _ = _ at p0
      change atP 1 (toG g) (g.Corner.X + I % g.NX * g.Cell) (g.Corner.Y + I / g.NX % g.NY * g.Cell) _ = _ at p1
      change atP 2 (toG g) (g.Corner.X + I % g.NX * g.Cell) (g.Corner.Y + I / g.NX % g.NY * g.Cell) _ = _ at p2
      have hi : I.toNat < g.Winds.length := by omega
      simp only [partV, winds_at hi] at p0 p1 p2
      have i3 : I < (g.Winds.length : Int) := by omega
      have i4 : I < (g.Devs.length : Int) := by omega
      have ed : (toG g).devs.getD I.toNat 0 = g.Devs.getD I.toNat default := rfl
      rw [ed] at p2
      simp only [hf, he, p0, p1, p2, i0, i3, i4, beq_self_eq_true, implies_true, decide_true, decide_false, Bool.false_eq_true, if_true, if_false, Bool.not_true, Bool.not_false, Bool.or_true, Bool.or_false, Bool.true_or, Bool.false_or, Bool.and_true, Bool.and_false, Bool.true_and, Bool.false_and, Option.bind_some, true_implies, false_implies, implies_true]
  · have he : atE (toG g) 0 0 0 ≠ 0 := by unfold atE; rw [if_neg hc]; exact hc
    simp only [m6_1, m6, e10, e16, nez hc, e11, nez he, decide_true, decide_false, Bool.false_eq_true, if_true, if_false, Bool.not_true, Bool.not_false, Bool.or_true, Bool.or_false, Bool.true_or, Bool.false_or, Bool.and_true, Bool.and_false, Bool.true_and, Bool.false_and, Option.bind_some, true_implies, false_implies, implies_true]
end Go.Av
