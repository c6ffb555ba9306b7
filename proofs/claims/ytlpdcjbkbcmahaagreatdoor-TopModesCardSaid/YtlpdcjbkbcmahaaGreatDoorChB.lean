/- Plain laws of chart: the first error of a chart. -/
import Derived.Test.YtlpdcjbkbcmahaaGreatDoorChA
set_option linter.unusedVariables false
set_option linter.unusedSimpArgs false
set_option maxRecDepth 100000
namespace Go.Av.Ch
/-- What a chart's lists may have at most. -/
structure Fit (c : T48) : Prop where
  conds : c.Conds.length ≤ 1000
  never : c.Never.length ≤ 1000
  lits : ∀ l ∈ c.Never, l.length ≤ 1000
  states : c.States.length ≤ 1000
  entry : ∀ s ∈ c.States, s.Entry.length ≤ 1000
  exit_ : ∀ s ∈ c.States, s.Exit.length ≤ 1000
  trans : c.Transitions.length ≤ 1000
  when_ : ∀ t ∈ c.Transitions, t.When.length ≤ 1000
  acts : ∀ t ∈ c.Transitions, t.Actions.length ≤ 1000
def namesS (c : T48) : List (List UInt8) := (List.range c.States.length).flatMap fun i => [(c.States.getD i default).Name]
theorem namesS_map (c : T48) : namesS c = (List.range c.States.length).map fun i => (c.States.getD i default).Name := (List.map_eq_flatMap ..).symm
theorem namesS_len (c : T48) : (namesS c).length = c.States.length := by rw [namesS_map]; simp
theorem namesS_getD (c : T48) {i : Nat} (h : i < c.States.length) : (namesS c).getD i default = (c.States.getD i default).Name := by
  rw [namesS_map, List.getD_eq_getElem?_getD, List.getElem?_map, List.getElem?_range h]; rfl
/-- What is wrong of a state, but for its name. -/
def stateT (c : T48) (i : Nat) : Int :=
  if (decide ((c.States.getD i default).Parent < (-1 : Int)) || decide ((i : Int) ≤ (c.States.getD i default).Parent)) = true then 9
  else if ((comp c i && !childS c (c.States.getD i default).Initial i) || (!comp c i && ((c.States.getD i default).Initial != (-1 : Int)))) = true then 2
  else if (!comp c i && (c.States.getD i default).History) = true then 17
  else if (actS (c.States.getD i default).Entry != 0) = true then actS (c.States.getD i default).Entry
  else actS (c.States.getD i default).Exit
def stateS (c : T48) (i : Nat) : Int := if (listedS (namesS c) i != 0) = true then listedS (namesS c) i else stateT c i
theorem state_eq (c : T48) (H : Fit c) (i : Nat) (hi : i < c.States.length) : m88 c (namesS c) i = some (stateS c i) := by
  have hs := H.states
  have he := H.entry _ (getD_mem hi)
  have hx := H.exit_ _ (getD_mem hi)
  have e1 := listed_eq (namesS c) i (by rw [namesS_len]; exact hi) (by rw [namesS_len]; omega)
  delta m88 d88
  simp only [↓JD.sg_m, ↓JD.sq_m, ↓JD.sc_m, ↓JD.bk_m, ↓JD.lp_m, ↓JD.cd_m, ↓JD.lu_m, ↓JD.ct_m, ↓JD.ce_m, ↓JL.r_m, ↓JL.z_m, ↓JD.se_m, onE_r, ↓Tr.run, ↓Tr.run_nd, ↓Tr.run_c3, ↓Tr.run_c2, ↓Tr.run_nx, ↓onS, bind_ite, Option.bind_some, Option.bind_none, obR, inL hi, e1, Int.toNat_natCast, if_true, composite_eq c _ (Nat.le_trans hs (by omega)), is_eq, actions_eq _ (Nat.le_trans he (by omega)), actions_eq _ (Nat.le_trans hx (by omega)), stateS, stateT, some_ite]
  refine ite_else (ite_else ?_)
  cases hc : comp c i with
  | false => simp only [Bool.false_and, Bool.not_false, Bool.true_and, Bool.false_or, Bool.false_eq_true, if_false, false_implies, if_true]
  | true =>
    have g1 := eq_true (show (!!isS c (c.States.getD i default).Initial) = true → (0 : Int) ≤ (c.States.getD i default).Initial from fun h => by simp only [Bool.not_not] at h; exact (isS_iff.1 h).1)
    have g2 := eq_true (show (!!isS c (c.States.getD i default).Initial) = true → (c.States.getD i default).Initial < (c.States.length : Int) from fun h => by simp only [Bool.not_not] at h; exact (isS_iff.1 h).2)
    simp only [if_true, Option.bind_some, g1, g2, childS, bne, Bool.not_and, Bool.true_and, Bool.not_true, Bool.false_and, Bool.or_false, Bool.false_eq_true, if_false]
def condF (c : T48) (i : Nat) : Option Int := if (listedS c.Conds i != 0) = true then some (listedS c.Conds i) else none
def nevF (c : T48) (i : Nat) : Option Int := if (((c.Never.getD i default).length : Int) == 0) = true then some 1 else if (litS c (c.Never.getD i default) != 0) = true then some (litS c (c.Never.getD i default)) else none
def stF (c : T48) (i : Nat) : Option Int := if (stateS c i != 0) = true then some (stateS c i) else none
def trF (c : T48) (i : Nat) : Option Int :=
  if ((!isS c (c.Transitions.getD i default).From) || (!isS c (c.Transitions.getD i default).To)) = true then some 2
  else if (litS c (c.Transitions.getD i default).When != 0) = true then some (litS c (c.Transitions.getD i default).When)
  else if (actS (c.Transitions.getD i default).Actions != 0) = true then some (actS (c.Transitions.getD i default).Actions) else none
/-- The first error of a chart. -/
def checkM (c : T48) : Option Int :=
  if (!nm c.Name) = true then some 5
  else if ((c.States.length : Int) == 0) = true then some 6
  else if ((((decide ((12 : Int) < (c.Conds.length : Int))) || (decide ((16 : Int) < (c.Never.length : Int)))) || (decide ((40 : Int) < (c.States.length : Int)))) || (decide ((120 : Int) < (c.Transitions.length : Int)))) = true then some 3
  else orK (firstR (condF c) c.Conds.length) (orK (firstR (nevF c) c.Never.length) (orK (firstR (stF c) c.States.length) (if (!isS c c.Start) = true then some 2 else orK (firstR (trF c) c.Transitions.length) (some 0))))
theorem checkM_some (c : T48) : ∃ e, checkM c = some e := ite_total (ite_total (ite_total (orK_total (orK_total (orK_total (ite_total (orK_total ⟨0, rfl⟩)))))))
theorem Check_eq (c : T48) (H : Fit c) : m52 c = checkM c := by
  have hcl := H.conds
  have hnl := H.never
  have hsl := H.states
  have htl := H.trans
  delta m52 d52
  simp only [↓JD.sg_m, ↓JD.sq_m, ↓JD.sc_m, ↓JD.bk_m, ↓JD.lp_m, ↓JD.cd_m, ↓JD.lu_m, ↓JD.ct_m, ↓JD.ce_m, ↓JL.r_m, ↓JL.z_m, ↓JD.se_m, onE_r, ↓Tr.run, ↓Tr.run_nd, ↓Tr.run_c3, ↓Tr.run_c2, ↓Tr.run_nx, ↓onS, bind_ite, Option.bind_some, Option.bind_none, obR, nm_name, is_eq, checkM]
  refine ite_else (ite_else (ite_else (loop_or _ (condF c) (fun i hi => ?_) (by (simp only [lt_irr, decide_false, Bool.false_eq_true, if_false]; try rfl)) (loop_or _ (nevF c) (fun i hi => ?_) (by (simp only [lt_irr, decide_false, Bool.false_eq_true, if_false]; try rfl)) (on_l (loop_coll c.States.length (fun i l => (l, (i : Int))) (fun i => [(c.States.getD i default).Name]) Sum.inl (fun i hi => ?_) (by (simp only [lt_irr, decide_false, Bool.false_eq_true, if_false]; try rfl))) (loop_or _ (stF c) (fun i hi => ?_) (by (simp only [lt_irr, decide_false, Bool.false_eq_true, if_false]; try rfl)) (ite_else (loop_or _ (trF c) (fun i hi => ?_) (by (simp only [lt_irr, decide_false, Bool.false_eq_true, if_false]; try rfl)) rfl))))))))
  · unfold condF
    (simp only [exB_ite, exB_some, exB_none]; simp only [listed_eq c.Conds i hi (by omega), Option.bind_some, inL hi, decide_true, Int.toNat_natCast, if_true, implies_true, wr1 hi (by omega)]; try rfl)
  · have hl := H.lits _ (getD_mem hi)
    unfold nevF
    (simp only [exB_ite, exB_some, exB_none]; simp only [literals_eq c _ (Nat.le_trans hl (by omega)), Option.bind_some, inL hi, decide_true, Int.toNat_natCast, if_true, implies_true, wr1 hi (by omega)]; try rfl)
  · have hl := flatMap_len (g := fun i => [(c.States.getD i default).Name]) (m := 1) (fun i => by simp) i
    have h3 : (((List.range i).flatMap fun i => [(c.States.getD i default).Name]).length + 1) * 16 ≤ 140737488355328 := by omega
    simp only [inL hi, h3, Int.toNat_natCast, if_true, wr1 hi (by omega)]; rfl
  · unfold stF
    have e := state_eq c H i hi
    unfold namesS at e
    (simp only [exB_ite, exB_some, exB_none]; simp only [e, Option.bind_some, inL hi, decide_true, Int.toNat_natCast, if_true, implies_true, wr1 hi (by omega)]; try rfl)
  · have hw := H.when_ _ (getD_mem hi)
    have ha := H.acts _ (getD_mem hi)
    unfold trF
    simp only [exB_ite, exB_some, exB_none]
    simp only [inL hi, is_eq, literals_eq c _ (Nat.le_trans hw (by omega)), actions_eq _ (Nat.le_trans ha (by omega)), Option.bind_some, decide_true, Int.toNat_natCast, if_true, wr1 hi (by omega)]
    cases isS c (c.Transitions.getD i default).From <;> simp only [Bool.not_true, Bool.not_false, Bool.false_eq_true, Bool.true_or, Bool.false_or, if_true, if_false, Option.bind_some]
end Go.Av.Ch
