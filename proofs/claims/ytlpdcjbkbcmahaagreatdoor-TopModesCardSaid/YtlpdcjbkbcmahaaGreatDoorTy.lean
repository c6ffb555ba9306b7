/- Printed by ext.py. -/
import Derived.Test.YtlpdcjbkbcmahaaGreatDoorAvOpen
import Derived.Test.YtlpdcjbkbcmahaaGreatDoorAvObj
import Derived.KernelRfl
import Derived.Test.YtlpdcjbkbcmahaaGreatDoorProg
set_option linter.unusedVariables false
set_option linter.unusedSimpArgs false
set_option maxRecDepth 100000
namespace Go.Av
open Go.RowKit Go.Base Go.Proofs Go.ChangeShapes Go.WideShapes
structure T23 where
  Lateral : Int
  Vertical : Int
  Phase : Int
instance : Inhabited T23 := ⟨⟨0, 0, 0⟩⟩
noncomputable def e23 (x : T23) : D := .agg [(.int .u8 x.Lateral), (.int .u8 x.Vertical), (.int .u8 x.Phase)]
structure T176 where
  Cond : Int
  Neg : Bool
instance : Inhabited T176 := ⟨⟨0, false⟩⟩
noncomputable def e176 (x : T176) : D := .agg [(dI x.Cond), (.bool x.Neg)]
structure T57 where
  Name : List UInt8
  Parent : Int
  Initial : Int
  History : Bool
  Entry : List (List UInt8)
  Exit : List (List UInt8)
instance : Inhabited T57 := ⟨⟨[], 0, 0, false, [], []⟩⟩
noncomputable def e57 (x : T57) : D := .agg [(.str x.Name), (dI x.Parent), (dI x.Initial), (.bool x.History), (eSl 1 D.str x.Entry), (eSl 1 D.str x.Exit)]
structure T119 where
  From : Int
  To : Int
  When : List T176
  Actions : List (List UInt8)
instance : Inhabited T119 := ⟨⟨0, 0, [], []⟩⟩
noncomputable def e119 (x : T119) : D := .agg [(dI x.From), (dI x.To), (eSl 2 e176 x.When), (eSl 1 D.str x.Actions)]
structure T48 where
  Name : List UInt8
  Conds : List (List UInt8)
  Never : List (List T176)
  States : List T57
  Start : Int
  Transitions : List T119
instance : Inhabited T48 := ⟨⟨[], [], [], [], 0, []⟩⟩
noncomputable def e48 (x : T48) : D := .agg [(.str x.Name), (eSl 1 D.str x.Conds), (eSl 1 (eSl 2 e176) x.Never), (eSl 6 e57 x.States), (dI x.Start), (eSl 4 e119 x.Transitions)]
structure T136 where
  Line : Int
  Column : Int
  Code : Int
instance : Inhabited T136 := ⟨⟨0, 0, 0⟩⟩
noncomputable def e136 (x : T136) : D := .agg [(dI x.Line), (dI x.Column), (dI x.Code)]
structure T141 where
  Text : List UInt8
  Column : Int
instance : Inhabited T141 := ⟨⟨[], 0⟩⟩
noncomputable def e141 (x : T141) : D := .agg [(.str x.Text), (dI x.Column)]
structure T139 where
  Number : Int
  Fields : List T141
instance : Inhabited T139 := ⟨⟨0, []⟩⟩
noncomputable def e139 (x : T139) : D := .agg [(dI x.Number), (eSl 2 e141 x.Fields)]
structure T71 where
  Leaf : Int
  Memory : List Int
instance : Inhabited T71 := ⟨⟨0, []⟩⟩
noncomputable def e71 (x : T71) : D := .agg [(dI x.Leaf), (eSl 1 dI x.Memory)]
noncomputable def g23 (x : T23) : List AV := [(.d (.int .u8 x.Lateral)), (.d (.int .u8 x.Vertical)), (.d (.int .u8 x.Phase))]
noncomputable def g176 (x : T176) : List AV := [(aI x.Cond), (aB x.Neg)]
noncomputable def g57 (x : T57) : List AV := [(aS x.Name), (aI x.Parent), (aI x.Initial), (aB x.History), (.d (eSl 1 D.str x.Entry)), (.d (eSl 1 D.str x.Exit))]
noncomputable def g119 (x : T119) : List AV := [(aI x.From), (aI x.To), (.d (eSl 2 e176 x.When)), (.d (eSl 1 D.str x.Actions))]
noncomputable def g48 (x : T48) : List AV := [(aS x.Name), (.d (eSl 1 D.str x.Conds)), (.d (eSl 1 (eSl 2 e176) x.Never)), (.d (eSl 6 e57 x.States)), (aI x.Start), (.d (eSl 4 e119 x.Transitions))]
noncomputable def g136 (x : T136) : List AV := [(aI x.Line), (aI x.Column), (aI x.Code)]
noncomputable def g141 (x : T141) : List AV := [(aS x.Text), (aI x.Column)]
noncomputable def g139 (x : T139) : List AV := [(aI x.Number), (.d (eSl 2 e141 x.Fields))]
noncomputable def g71 (x : T71) : List AV := [(aI x.Leaf), (.d (eSl 1 dI x.Memory))]
def ok23 (x : T23) : Prop := (Lit.int .u8 x.Lateral).wf = true ∧ (Lit.int .u8 x.Vertical).wf = true ∧ (Lit.int .u8 x.Phase).wf = true
theorem cells23 : Tryz.prog.cellsOf 23 = 3 := by kernel_rfl
set_option maxRecDepth 100000 in
theorem op23 {W : World} {spare : Nat → Bool} : Opens Tryz.prog W spare 23 (fun x => [(.int .u8 x.Lateral), (.int .u8 x.Vertical), (.int .u8 x.Phase)]) ok23 := fun H enc fuel cs x h => by
  obtain ⟨xs, n, _, _, hl, hx, hf⟩ := DataW.trod_struct Tryz.underlying23 h
  rw [cells23] at hl
  have hx : xs.length = 3 := hx
  match cs, hl with
  | [c0, c1, c2], _ =>
    have g0 := hf 0 _ rfl
    rw [List.getElem?_eq_getElem (by omega)] at g0
    obtain ⟨z0, g0⟩ : ∃ z, DataW.trod enc Tryz.prog W 0 spare true n 5 [c0] = some z := by
      have e : Tryz.prog.cellsOf 5 = 1 := by kernel_rfl
      exact ⟨_, by simpa [e] using g0⟩
    obtain ⟨a0, r0, k0⟩ := (opens_int Tryz.underlying5) H enc n _ _ g0
    have g1 := hf 1 _ rfl
    rw [List.getElem?_eq_getElem (by omega)] at g1
    obtain ⟨z1, g1⟩ : ∃ z, DataW.trod enc Tryz.prog W 0 spare true n 5 [c1] = some z := by
      have e : Tryz.prog.cellsOf 5 = 1 := by kernel_rfl
      exact ⟨_, by simpa [e] using g1⟩
    obtain ⟨a1, r1, k1⟩ := (opens_int Tryz.underlying5) H enc n _ _ g1
    have g2 := hf 2 _ rfl
    rw [List.getElem?_eq_getElem (by omega)] at g2
    obtain ⟨z2, g2⟩ : ∃ z, DataW.trod enc Tryz.prog W 0 spare true n 5 [c2] = some z := by
      have e : Tryz.prog.cellsOf 5 = 1 := by kernel_rfl
      exact ⟨_, by simpa [e] using g2⟩
    obtain ⟨a2, r2, k2⟩ := (opens_int Tryz.underlying5) H enc n _ _ g2
    exact ⟨⟨a0, a1, a2⟩, repL_app r0 (repL_app r1 (r2)), ⟨k0, k1, k2⟩⟩
def ok176 (x : T176) : Prop := (Lit.int .i64 x.Cond).wf = true ∧ True
theorem cells176 : Tryz.prog.cellsOf 176 = 2 := by kernel_rfl
set_option maxRecDepth 100000 in
theorem op176 {W : World} {spare : Nat → Bool} : Opens Tryz.prog W spare 176 (fun x => [(dI x.Cond), (.bool x.Neg)]) ok176 := fun H enc fuel cs x h => by
  obtain ⟨xs, n, _, _, hl, hx, hf⟩ := DataW.trod_struct Tryz.underlying176 h
  rw [cells176] at hl
  have hx : xs.length = 2 := hx
  match cs, hl with
  | [c0, c1], _ =>
    have g0 := hf 0 _ rfl
    rw [List.getElem?_eq_getElem (by omega)] at g0
    obtain ⟨z0, g0⟩ : ∃ z, DataW.trod enc Tryz.prog W 0 spare true n 3 [c0] = some z := by
      have e : Tryz.prog.cellsOf 3 = 1 := by kernel_rfl
      exact ⟨_, by simpa [e] using g0⟩
    obtain ⟨a0, r0, k0⟩ := (opens_int Tryz.underlying3) H enc n _ _ g0
    have g1 := hf 1 _ rfl
    rw [List.getElem?_eq_getElem (by omega)] at g1
    obtain ⟨z1, g1⟩ : ∃ z, DataW.trod enc Tryz.prog W 0 spare true n 4 [c1] = some z := by
      have e : Tryz.prog.cellsOf 4 = 1 := by kernel_rfl
      exact ⟨_, by simpa [e] using g1⟩
    obtain ⟨a1, r1, k1⟩ := (opens_bool Tryz.underlying4) H enc n _ _ g1
    exact ⟨⟨a0, a1⟩, repL_app r0 (r1), ⟨k0, k1⟩⟩
def ok57 (x : T57) : Prop := x.Name.length ≤ maxLen ∧ (Lit.int .i64 x.Parent).wf = true ∧ (Lit.int .i64 x.Initial).wf = true ∧ True ∧ (x.Entry.length ≤ maxLen ∧ ∀ b ∈ x.Entry, b.length ≤ maxLen) ∧ (x.Exit.length ≤ maxLen ∧ ∀ b ∈ x.Exit, b.length ≤ maxLen)
theorem cells57 : Tryz.prog.cellsOf 57 = 6 := by kernel_rfl
set_option maxRecDepth 100000 in
theorem op57 {W : World} {spare : Nat → Bool} : Opens Tryz.prog W spare 57 (fun x => [(.str x.Name), (dI x.Parent), (dI x.Initial), (.bool x.History), (eSl 1 D.str x.Entry), (eSl 1 D.str x.Exit)]) ok57 := fun H enc fuel cs x h => by
  obtain ⟨xs, n, _, _, hl, hx, hf⟩ := DataW.trod_struct Tryz.underlying57 h
  rw [cells57] at hl
  have hx : xs.length = 6 := hx
  match cs, hl with
  | [c0, c1, c2, c3, c4, c5], _ =>
    have g0 := hf 0 _ rfl
    rw [List.getElem?_eq_getElem (by omega)] at g0
    obtain ⟨z0, g0⟩ : ∃ z, DataW.trod enc Tryz.prog W 0 spare true n 9 [c0] = some z := by
      have e : Tryz.prog.cellsOf 9 = 1 := by kernel_rfl
      exact ⟨_, by simpa [e] using g0⟩
    obtain ⟨a0, r0, k0⟩ := (opens_string Tryz.underlying9) H enc n _ _ g0
    have g1 := hf 1 _ rfl
    rw [List.getElem?_eq_getElem (by omega)] at g1
    obtain ⟨z1, g1⟩ : ∃ z, DataW.trod enc Tryz.prog W 0 spare true n 3 [c1] = some z := by
      have e : Tryz.prog.cellsOf 3 = 1 := by kernel_rfl
      exact ⟨_, by simpa [e] using g1⟩
    obtain ⟨a1, r1, k1⟩ := (opens_int Tryz.underlying3) H enc n _ _ g1
    have g2 := hf 2 _ rfl
    rw [List.getElem?_eq_getElem (by omega)] at g2
    obtain ⟨z2, g2⟩ : ∃ z, DataW.trod enc Tryz.prog W 0 spare true n 3 [c2] = some z := by
      have e : Tryz.prog.cellsOf 3 = 1 := by kernel_rfl
      exact ⟨_, by simpa [e] using g2⟩
    obtain ⟨a2, r2, k2⟩ := (opens_int Tryz.underlying3) H enc n _ _ g2
    have g3 := hf 3 _ rfl
    rw [List.getElem?_eq_getElem (by omega)] at g3
    obtain ⟨z3, g3⟩ : ∃ z, DataW.trod enc Tryz.prog W 0 spare true n 4 [c3] = some z := by
      have e : Tryz.prog.cellsOf 4 = 1 := by kernel_rfl
      exact ⟨_, by simpa [e] using g3⟩
    obtain ⟨a3, r3, k3⟩ := (opens_bool Tryz.underlying4) H enc n _ _ g3
    have g4 := hf 4 _ rfl
    rw [List.getElem?_eq_getElem (by omega)] at g4
    obtain ⟨z4, g4⟩ : ∃ z, DataW.trod enc Tryz.prog W 0 spare true n 26 [c4] = some z := by
      have e : Tryz.prog.cellsOf 26 = 1 := by kernel_rfl
      exact ⟨_, by simpa [e] using g4⟩
    obtain ⟨a4, r4, k4⟩ := (opens_slice (sz := 1) (e := fun a => [(.str a)]) (en := D.str) (ok := fun a => a.length ≤ maxLen) Tryz.underlying26 (by kernel_rfl) (by decide) (opens_string Tryz.underlying9) (fun _ => rfl) (fun _ => rfl) (fun _ => .inr ⟨rfl, rfl⟩)) H enc n _ _ g4
    have g5 := hf 5 _ rfl
    rw [List.getElem?_eq_getElem (by omega)] at g5
    obtain ⟨z5, g5⟩ : ∃ z, DataW.trod enc Tryz.prog W 0 spare true n 26 [c5] = some z := by
      have e : Tryz.prog.cellsOf 26 = 1 := by kernel_rfl
      exact ⟨_, by simpa [e] using g5⟩
    obtain ⟨a5, r5, k5⟩ := (opens_slice (sz := 1) (e := fun a => [(.str a)]) (en := D.str) (ok := fun a => a.length ≤ maxLen) Tryz.underlying26 (by kernel_rfl) (by decide) (opens_string Tryz.underlying9) (fun _ => rfl) (fun _ => rfl) (fun _ => .inr ⟨rfl, rfl⟩)) H enc n _ _ g5
    exact ⟨⟨a0, a1, a2, a3, a4, a5⟩, repL_app r0 (repL_app r1 (repL_app r2 (repL_app r3 (repL_app r4 (r5))))), ⟨k0, k1, k2, k3, k4, k5⟩⟩
def ok119 (x : T119) : Prop := (Lit.int .i64 x.From).wf = true ∧ (Lit.int .i64 x.To).wf = true ∧ (x.When.length ≤ maxLen ∧ ∀ b ∈ x.When, ok176 b) ∧ (x.Actions.length ≤ maxLen ∧ ∀ b ∈ x.Actions, b.length ≤ maxLen)
theorem cells119 : Tryz.prog.cellsOf 119 = 4 := by kernel_rfl
set_option maxRecDepth 100000 in
theorem op119 {W : World} {spare : Nat → Bool} : Opens Tryz.prog W spare 119 (fun x => [(dI x.From), (dI x.To), (eSl 2 e176 x.When), (eSl 1 D.str x.Actions)]) ok119 := fun H enc fuel cs x h => by
  obtain ⟨xs, n, _, _, hl, hx, hf⟩ := DataW.trod_struct Tryz.underlying119 h
  rw [cells119] at hl
  have hx : xs.length = 4 := hx
  match cs, hl with
  | [c0, c1, c2, c3], _ =>
    have g0 := hf 0 _ rfl
    rw [List.getElem?_eq_getElem (by omega)] at g0
    obtain ⟨z0, g0⟩ : ∃ z, DataW.trod enc Tryz.prog W 0 spare true n 3 [c0] = some z := by
      have e : Tryz.prog.cellsOf 3 = 1 := by kernel_rfl
      exact ⟨_, by simpa [e] using g0⟩
    obtain ⟨a0, r0, k0⟩ := (opens_int Tryz.underlying3) H enc n _ _ g0
    have g1 := hf 1 _ rfl
    rw [List.getElem?_eq_getElem (by omega)] at g1
    obtain ⟨z1, g1⟩ : ∃ z, DataW.trod enc Tryz.prog W 0 spare true n 3 [c1] = some z := by
      have e : Tryz.prog.cellsOf 3 = 1 := by kernel_rfl
      exact ⟨_, by simpa [e] using g1⟩
    obtain ⟨a1, r1, k1⟩ := (opens_int Tryz.underlying3) H enc n _ _ g1
    have g2 := hf 2 _ rfl
    rw [List.getElem?_eq_getElem (by omega)] at g2
    obtain ⟨z2, g2⟩ : ∃ z, DataW.trod enc Tryz.prog W 0 spare true n 117 [c2] = some z := by
      have e : Tryz.prog.cellsOf 117 = 1 := by kernel_rfl
      exact ⟨_, by simpa [e] using g2⟩
    obtain ⟨a2, r2, k2⟩ := (opens_slice (sz := 2) (e := fun a => [(dI a.Cond), (.bool a.Neg)]) (en := e176) (ok := fun a => ok176 a) Tryz.underlying117 (by kernel_rfl) (by decide) op176 (fun _ => rfl) (fun _ => rfl) (fun _ => .inl rfl)) H enc n _ _ g2
    have g3 := hf 3 _ rfl
    rw [List.getElem?_eq_getElem (by omega)] at g3
    obtain ⟨z3, g3⟩ : ∃ z, DataW.trod enc Tryz.prog W 0 spare true n 26 [c3] = some z := by
      have e : Tryz.prog.cellsOf 26 = 1 := by kernel_rfl
      exact ⟨_, by simpa [e] using g3⟩
    obtain ⟨a3, r3, k3⟩ := (opens_slice (sz := 1) (e := fun a => [(.str a)]) (en := D.str) (ok := fun a => a.length ≤ maxLen) Tryz.underlying26 (by kernel_rfl) (by decide) (opens_string Tryz.underlying9) (fun _ => rfl) (fun _ => rfl) (fun _ => .inr ⟨rfl, rfl⟩)) H enc n _ _ g3
    exact ⟨⟨a0, a1, a2, a3⟩, repL_app r0 (repL_app r1 (repL_app r2 (r3))), ⟨k0, k1, k2, k3⟩⟩
def ok48 (x : T48) : Prop := x.Name.length ≤ maxLen ∧ (x.Conds.length ≤ maxLen ∧ ∀ b ∈ x.Conds, b.length ≤ maxLen) ∧ (x.Never.length ≤ maxLen ∧ ∀ b ∈ x.Never, (b.length ≤ maxLen ∧ ∀ c ∈ b, ok176 c)) ∧ (x.States.length ≤ maxLen ∧ ∀ b ∈ x.States, ok57 b) ∧ (Lit.int .i64 x.Start).wf = true ∧ (x.Transitions.length ≤ maxLen ∧ ∀ b ∈ x.Transitions, ok119 b)
theorem cells48 : Tryz.prog.cellsOf 48 = 6 := by kernel_rfl
set_option maxRecDepth 100000 in
theorem op48 {W : World} {spare : Nat → Bool} : Opens Tryz.prog W spare 48 (fun x => [(.str x.Name), (eSl 1 D.str x.Conds), (eSl 1 (eSl 2 e176) x.Never), (eSl 6 e57 x.States), (dI x.Start), (eSl 4 e119 x.Transitions)]) ok48 := fun H enc fuel cs x h => by
  obtain ⟨xs, n, _, _, hl, hx, hf⟩ := DataW.trod_struct Tryz.underlying48 h
  rw [cells48] at hl
  have hx : xs.length = 6 := hx
  match cs, hl with
  | [c0, c1, c2, c3, c4, c5], _ =>
    have g0 := hf 0 _ rfl
    rw [List.getElem?_eq_getElem (by omega)] at g0
    obtain ⟨z0, g0⟩ : ∃ z, DataW.trod enc Tryz.prog W 0 spare true n 9 [c0] = some z := by
      have e : Tryz.prog.cellsOf 9 = 1 := by kernel_rfl
      exact ⟨_, by simpa [e] using g0⟩
    obtain ⟨a0, r0, k0⟩ := (opens_string Tryz.underlying9) H enc n _ _ g0
    have g1 := hf 1 _ rfl
    rw [List.getElem?_eq_getElem (by omega)] at g1
    obtain ⟨z1, g1⟩ : ∃ z, DataW.trod enc Tryz.prog W 0 spare true n 26 [c1] = some z := by
      have e : Tryz.prog.cellsOf 26 = 1 := by kernel_rfl
      exact ⟨_, by simpa [e] using g1⟩
    obtain ⟨a1, r1, k1⟩ := (opens_slice (sz := 1) (e := fun a => [(.str a)]) (en := D.str) (ok := fun a => a.length ≤ maxLen) Tryz.underlying26 (by kernel_rfl) (by decide) (opens_string Tryz.underlying9) (fun _ => rfl) (fun _ => rfl) (fun _ => .inr ⟨rfl, rfl⟩)) H enc n _ _ g1
    have g2 := hf 2 _ rfl
    rw [List.getElem?_eq_getElem (by omega)] at g2
    obtain ⟨z2, g2⟩ : ∃ z, DataW.trod enc Tryz.prog W 0 spare true n 44 [c2] = some z := by
      have e : Tryz.prog.cellsOf 44 = 1 := by kernel_rfl
      exact ⟨_, by simpa [e] using g2⟩
    obtain ⟨a2, r2, k2⟩ := (opens_slice (sz := 1) (e := fun a => [(eSl 2 e176 a)]) (en := (eSl 2 e176)) (ok := fun a => (a.length ≤ maxLen ∧ ∀ b ∈ a, ok176 b)) Tryz.underlying44 (by kernel_rfl) (by decide) (opens_slice (sz := 2) (e := fun a => [(dI a.Cond), (.bool a.Neg)]) (en := e176) (ok := fun a => ok176 a) Tryz.underlying117 (by kernel_rfl) (by decide) op176 (fun _ => rfl) (fun _ => rfl) (fun _ => .inl rfl)) (fun _ => rfl) (fun _ => rfl) (fun _ => .inr ⟨rfl, rfl⟩)) H enc n _ _ g2
    have g3 := hf 3 _ rfl
    rw [List.getElem?_eq_getElem (by omega)] at g3
    obtain ⟨z3, g3⟩ : ∃ z, DataW.trod enc Tryz.prog W 0 spare true n 45 [c3] = some z := by
      have e : Tryz.prog.cellsOf 45 = 1 := by kernel_rfl
      exact ⟨_, by simpa [e] using g3⟩
    obtain ⟨a3, r3, k3⟩ := (opens_slice (sz := 6) (e := fun a => [(.str a.Name), (dI a.Parent), (dI a.Initial), (.bool a.History), (eSl 1 D.str a.Entry), (eSl 1 D.str a.Exit)]) (en := e57) (ok := fun a => ok57 a) Tryz.underlying45 (by kernel_rfl) (by decide) op57 (fun _ => rfl) (fun _ => rfl) (fun _ => .inl rfl)) H enc n _ _ g3
    have g4 := hf 4 _ rfl
    rw [List.getElem?_eq_getElem (by omega)] at g4
    obtain ⟨z4, g4⟩ : ∃ z, DataW.trod enc Tryz.prog W 0 spare true n 3 [c4] = some z := by
      have e : Tryz.prog.cellsOf 3 = 1 := by kernel_rfl
      exact ⟨_, by simpa [e] using g4⟩
    obtain ⟨a4, r4, k4⟩ := (opens_int Tryz.underlying3) H enc n _ _ g4
    have g5 := hf 5 _ rfl
    rw [List.getElem?_eq_getElem (by omega)] at g5
    obtain ⟨z5, g5⟩ : ∃ z, DataW.trod enc Tryz.prog W 0 spare true n 46 [c5] = some z := by
      have e : Tryz.prog.cellsOf 46 = 1 := by kernel_rfl
      exact ⟨_, by simpa [e] using g5⟩
    obtain ⟨a5, r5, k5⟩ := (opens_slice (sz := 4) (e := fun a => [(dI a.From), (dI a.To), (eSl 2 e176 a.When), (eSl 1 D.str a.Actions)]) (en := e119) (ok := fun a => ok119 a) Tryz.underlying46 (by kernel_rfl) (by decide) op119 (fun _ => rfl) (fun _ => rfl) (fun _ => .inl rfl)) H enc n _ _ g5
    exact ⟨⟨a0, a1, a2, a3, a4, a5⟩, repL_app r0 (repL_app r1 (repL_app r2 (repL_app r3 (repL_app r4 (r5))))), ⟨k0, k1, k2, k3, k4, k5⟩⟩
def ok136 (x : T136) : Prop := (Lit.int .i64 x.Line).wf = true ∧ (Lit.int .i64 x.Column).wf = true ∧ (Lit.int .i64 x.Code).wf = true
theorem cells136 : Tryz.prog.cellsOf 136 = 3 := by kernel_rfl
set_option maxRecDepth 100000 in
theorem op136 {W : World} {spare : Nat → Bool} : Opens Tryz.prog W spare 136 (fun x => [(dI x.Line), (dI x.Column), (dI x.Code)]) ok136 := fun H enc fuel cs x h => by
  obtain ⟨xs, n, _, _, hl, hx, hf⟩ := DataW.trod_struct Tryz.underlying136 h
  rw [cells136] at hl
  have hx : xs.length = 3 := hx
  match cs, hl with
  | [c0, c1, c2], _ =>
    have g0 := hf 0 _ rfl
    rw [List.getElem?_eq_getElem (by omega)] at g0
    obtain ⟨z0, g0⟩ : ∃ z, DataW.trod enc Tryz.prog W 0 spare true n 3 [c0] = some z := by
      have e : Tryz.prog.cellsOf 3 = 1 := by kernel_rfl
      exact ⟨_, by simpa [e] using g0⟩
    obtain ⟨a0, r0, k0⟩ := (opens_int Tryz.underlying3) H enc n _ _ g0
    have g1 := hf 1 _ rfl
    rw [List.getElem?_eq_getElem (by omega)] at g1
    obtain ⟨z1, g1⟩ : ∃ z, DataW.trod enc Tryz.prog W 0 spare true n 3 [c1] = some z := by
      have e : Tryz.prog.cellsOf 3 = 1 := by kernel_rfl
      exact ⟨_, by simpa [e] using g1⟩
    obtain ⟨a1, r1, k1⟩ := (opens_int Tryz.underlying3) H enc n _ _ g1
    have g2 := hf 2 _ rfl
    rw [List.getElem?_eq_getElem (by omega)] at g2
    obtain ⟨z2, g2⟩ : ∃ z, DataW.trod enc Tryz.prog W 0 spare true n 27 [c2] = some z := by
      have e : Tryz.prog.cellsOf 27 = 1 := by kernel_rfl
      exact ⟨_, by simpa [e] using g2⟩
    obtain ⟨a2, r2, k2⟩ := (opens_int Tryz.underlying27) H enc n _ _ g2
    exact ⟨⟨a0, a1, a2⟩, repL_app r0 (repL_app r1 (r2)), ⟨k0, k1, k2⟩⟩
def ok141 (x : T141) : Prop := x.Text.length ≤ maxLen ∧ (Lit.int .i64 x.Column).wf = true
theorem cells141 : Tryz.prog.cellsOf 141 = 2 := by kernel_rfl
set_option maxRecDepth 100000 in
theorem op141 {W : World} {spare : Nat → Bool} : Opens Tryz.prog W spare 141 (fun x => [(.str x.Text), (dI x.Column)]) ok141 := fun H enc fuel cs x h => by
  obtain ⟨xs, n, _, _, hl, hx, hf⟩ := DataW.trod_struct Tryz.underlying141 h
  rw [cells141] at hl
  have hx : xs.length = 2 := hx
  match cs, hl with
  | [c0, c1], _ =>
    have g0 := hf 0 _ rfl
    rw [List.getElem?_eq_getElem (by omega)] at g0
    obtain ⟨z0, g0⟩ : ∃ z, DataW.trod enc Tryz.prog W 0 spare true n 9 [c0] = some z := by
      have e : Tryz.prog.cellsOf 9 = 1 := by kernel_rfl
      exact ⟨_, by simpa [e] using g0⟩
    obtain ⟨a0, r0, k0⟩ := (opens_string Tryz.underlying9) H enc n _ _ g0
    have g1 := hf 1 _ rfl
    rw [List.getElem?_eq_getElem (by omega)] at g1
    obtain ⟨z1, g1⟩ : ∃ z, DataW.trod enc Tryz.prog W 0 spare true n 3 [c1] = some z := by
      have e : Tryz.prog.cellsOf 3 = 1 := by kernel_rfl
      exact ⟨_, by simpa [e] using g1⟩
    obtain ⟨a1, r1, k1⟩ := (opens_int Tryz.underlying3) H enc n _ _ g1
    exact ⟨⟨a0, a1⟩, repL_app r0 (r1), ⟨k0, k1⟩⟩
def ok139 (x : T139) : Prop := (Lit.int .i64 x.Number).wf = true ∧ (x.Fields.length ≤ maxLen ∧ ∀ b ∈ x.Fields, ok141 b)
theorem cells139 : Tryz.prog.cellsOf 139 = 2 := by kernel_rfl
set_option maxRecDepth 100000 in
theorem op139 {W : World} {spare : Nat → Bool} : Opens Tryz.prog W spare 139 (fun x => [(dI x.Number), (eSl 2 e141 x.Fields)]) ok139 := fun H enc fuel cs x h => by
  obtain ⟨xs, n, _, _, hl, hx, hf⟩ := DataW.trod_struct Tryz.underlying139 h
  rw [cells139] at hl
  have hx : xs.length = 2 := hx
  match cs, hl with
  | [c0, c1], _ =>
    have g0 := hf 0 _ rfl
    rw [List.getElem?_eq_getElem (by omega)] at g0
    obtain ⟨z0, g0⟩ : ∃ z, DataW.trod enc Tryz.prog W 0 spare true n 3 [c0] = some z := by
      have e : Tryz.prog.cellsOf 3 = 1 := by kernel_rfl
      exact ⟨_, by simpa [e] using g0⟩
    obtain ⟨a0, r0, k0⟩ := (opens_int Tryz.underlying3) H enc n _ _ g0
    have g1 := hf 1 _ rfl
    rw [List.getElem?_eq_getElem (by omega)] at g1
    obtain ⟨z1, g1⟩ : ∃ z, DataW.trod enc Tryz.prog W 0 spare true n 137 [c1] = some z := by
      have e : Tryz.prog.cellsOf 137 = 1 := by kernel_rfl
      exact ⟨_, by simpa [e] using g1⟩
    obtain ⟨a1, r1, k1⟩ := (opens_slice (sz := 2) (e := fun a => [(.str a.Text), (dI a.Column)]) (en := e141) (ok := fun a => ok141 a) Tryz.underlying137 (by kernel_rfl) (by decide) op141 (fun _ => rfl) (fun _ => rfl) (fun _ => .inl rfl)) H enc n _ _ g1
    exact ⟨⟨a0, a1⟩, repL_app r0 (r1), ⟨k0, k1⟩⟩
def ok71 (x : T71) : Prop := (Lit.int .i64 x.Leaf).wf = true ∧ (x.Memory.length ≤ maxLen ∧ ∀ b ∈ x.Memory, (Lit.int .i64 b).wf = true)
theorem cells71 : Tryz.prog.cellsOf 71 = 2 := by kernel_rfl
set_option maxRecDepth 100000 in
theorem op71 {W : World} {spare : Nat → Bool} : Opens Tryz.prog W spare 71 (fun x => [(dI x.Leaf), (eSl 1 dI x.Memory)]) ok71 := fun H enc fuel cs x h => by
  obtain ⟨xs, n, _, _, hl, hx, hf⟩ := DataW.trod_struct Tryz.underlying71 h
  rw [cells71] at hl
  have hx : xs.length = 2 := hx
  match cs, hl with
  | [c0, c1], _ =>
    have g0 := hf 0 _ rfl
    rw [List.getElem?_eq_getElem (by omega)] at g0
    obtain ⟨z0, g0⟩ : ∃ z, DataW.trod enc Tryz.prog W 0 spare true n 3 [c0] = some z := by
      have e : Tryz.prog.cellsOf 3 = 1 := by kernel_rfl
      exact ⟨_, by simpa [e] using g0⟩
    obtain ⟨a0, r0, k0⟩ := (opens_int Tryz.underlying3) H enc n _ _ g0
    have g1 := hf 1 _ rfl
    rw [List.getElem?_eq_getElem (by omega)] at g1
    obtain ⟨z1, g1⟩ : ∃ z, DataW.trod enc Tryz.prog W 0 spare true n 51 [c1] = some z := by
      have e : Tryz.prog.cellsOf 51 = 1 := by kernel_rfl
      exact ⟨_, by simpa [e] using g1⟩
    obtain ⟨a1, r1, k1⟩ := (opens_slice (sz := 1) (e := fun a => [(dI a)]) (en := dI) (ok := fun a => (Lit.int .i64 a).wf = true) Tryz.underlying51 (by kernel_rfl) (by decide) (opens_int Tryz.underlying3) (fun _ => rfl) (fun _ => rfl) (fun _ => .inr ⟨rfl, rfl⟩)) H enc n _ _ g1
    exact ⟨⟨a0, a1⟩, repL_app r0 (r1), ⟨k0, k1⟩⟩
end Go.Av
