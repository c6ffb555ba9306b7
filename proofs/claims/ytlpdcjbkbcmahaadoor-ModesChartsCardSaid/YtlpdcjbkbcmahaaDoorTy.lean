/- Printed by ext.py. -/
import Derived.Test.YtlpdcjbkbcmahaaDoorAvOpen
import Derived.Test.YtlpdcjbkbcmahaaDoorAvObj
import Derived.KernelRfl
import Derived.Test.YtlpdcjbkbcmahaaDoorProg
set_option linter.unusedVariables false
set_option linter.unusedSimpArgs false
set_option maxRecDepth 100000
namespace Go.Av
open Go.RowKit Go.Base Go.Proofs Go.ChangeShapes Go.WideShapes
structure T25 where
  Lateral : Int
  Vertical : Int
  Phase : Int
instance : Inhabited T25 := ⟨⟨0, 0, 0⟩⟩
noncomputable def e25 (x : T25) : D := .agg [(.int .u8 x.Lateral), (.int .u8 x.Vertical), (.int .u8 x.Phase)]
structure T111 where
  Cond : Int
  Neg : Bool
instance : Inhabited T111 := ⟨⟨0, false⟩⟩
noncomputable def e111 (x : T111) : D := .agg [(dI x.Cond), (.bool x.Neg)]
structure T107 where
  Name : List UInt8
  Parent : Int
  Initial : Int
  History : Bool
  Entry : List (List UInt8)
  Exit : List (List UInt8)
instance : Inhabited T107 := ⟨⟨[], 0, 0, false, [], []⟩⟩
noncomputable def e107 (x : T107) : D := .agg [(.str x.Name), (dI x.Parent), (dI x.Initial), (.bool x.History), (eSl 1 D.str x.Entry), (eSl 1 D.str x.Exit)]
structure T73 where
  From : Int
  To : Int
  When : List T111
  Actions : List (List UInt8)
instance : Inhabited T73 := ⟨⟨0, 0, [], []⟩⟩
noncomputable def e73 (x : T73) : D := .agg [(dI x.From), (dI x.To), (eSl 2 e111 x.When), (eSl 1 D.str x.Actions)]
structure T40 where
  Name : List UInt8
  Conds : List (List UInt8)
  Never : List (List T111)
  States : List T107
  Start : Int
  Transitions : List T73
instance : Inhabited T40 := ⟨⟨[], [], [], [], 0, []⟩⟩
noncomputable def e40 (x : T40) : D := .agg [(.str x.Name), (eSl 1 D.str x.Conds), (eSl 1 (eSl 2 e111) x.Never), (eSl 6 e107 x.States), (dI x.Start), (eSl 4 e73 x.Transitions)]
structure T87 where
  Line : Int
  Column : Int
  Code : Int
instance : Inhabited T87 := ⟨⟨0, 0, 0⟩⟩
noncomputable def e87 (x : T87) : D := .agg [(dI x.Line), (dI x.Column), (dI x.Code)]
structure T92 where
  Text : List UInt8
  Column : Int
instance : Inhabited T92 := ⟨⟨[], 0⟩⟩
noncomputable def e92 (x : T92) : D := .agg [(.str x.Text), (dI x.Column)]
structure T90 where
  Number : Int
  Fields : List T92
instance : Inhabited T90 := ⟨⟨0, []⟩⟩
noncomputable def e90 (x : T90) : D := .agg [(dI x.Number), (eSl 2 e92 x.Fields)]
structure T58 where
  Leaf : Int
  Memory : List Int
instance : Inhabited T58 := ⟨⟨0, []⟩⟩
noncomputable def e58 (x : T58) : D := .agg [(dI x.Leaf), (eSl 1 dI x.Memory)]
noncomputable def g25 (x : T25) : List AV := [(.d (.int .u8 x.Lateral)), (.d (.int .u8 x.Vertical)), (.d (.int .u8 x.Phase))]
noncomputable def g111 (x : T111) : List AV := [(aI x.Cond), (aB x.Neg)]
noncomputable def g107 (x : T107) : List AV := [(aS x.Name), (aI x.Parent), (aI x.Initial), (aB x.History), (.d (eSl 1 D.str x.Entry)), (.d (eSl 1 D.str x.Exit))]
noncomputable def g73 (x : T73) : List AV := [(aI x.From), (aI x.To), (.d (eSl 2 e111 x.When)), (.d (eSl 1 D.str x.Actions))]
noncomputable def g40 (x : T40) : List AV := [(aS x.Name), (.d (eSl 1 D.str x.Conds)), (.d (eSl 1 (eSl 2 e111) x.Never)), (.d (eSl 6 e107 x.States)), (aI x.Start), (.d (eSl 4 e73 x.Transitions))]
noncomputable def g87 (x : T87) : List AV := [(aI x.Line), (aI x.Column), (aI x.Code)]
noncomputable def g92 (x : T92) : List AV := [(aS x.Text), (aI x.Column)]
noncomputable def g90 (x : T90) : List AV := [(aI x.Number), (.d (eSl 2 e92 x.Fields))]
noncomputable def g58 (x : T58) : List AV := [(aI x.Leaf), (.d (eSl 1 dI x.Memory))]
def ok25 (x : T25) : Prop := (Lit.int .u8 x.Lateral).wf = true ∧ (Lit.int .u8 x.Vertical).wf = true ∧ (Lit.int .u8 x.Phase).wf = true
theorem cells25 : Tryd.prog.cellsOf 25 = 3 := by kernel_rfl
set_option maxRecDepth 100000 in
theorem op25 {W : World} {spare : Nat → Bool} : Opens Tryd.prog W spare 25 (fun x => [(.int .u8 x.Lateral), (.int .u8 x.Vertical), (.int .u8 x.Phase)]) ok25 := fun H enc fuel cs x h => by
  obtain ⟨xs, n, _, _, hl, hx, hf⟩ := DataW.trod_struct Tryd.underlying25 h
  rw [cells25] at hl
  have hx : xs.length = 3 := hx
  match cs, hl with
  | [c0, c1, c2], _ =>
    have g0 := hf 0 _ rfl
    rw [List.getElem?_eq_getElem (by omega)] at g0
    obtain ⟨z0, g0⟩ : ∃ z, DataW.trod enc Tryd.prog W 0 spare true n 5 [c0] = some z := by
      have e : Tryd.prog.cellsOf 5 = 1 := by kernel_rfl
      exact ⟨_, by simpa [e] using g0⟩
    obtain ⟨a0, r0, k0⟩ := (opens_int Tryd.underlying5) H enc n _ _ g0
    have g1 := hf 1 _ rfl
    rw [List.getElem?_eq_getElem (by omega)] at g1
    obtain ⟨z1, g1⟩ : ∃ z, DataW.trod enc Tryd.prog W 0 spare true n 5 [c1] = some z := by
      have e : Tryd.prog.cellsOf 5 = 1 := by kernel_rfl
      exact ⟨_, by simpa [e] using g1⟩
    obtain ⟨a1, r1, k1⟩ := (opens_int Tryd.underlying5) H enc n _ _ g1
    have g2 := hf 2 _ rfl
    rw [List.getElem?_eq_getElem (by omega)] at g2
    obtain ⟨z2, g2⟩ : ∃ z, DataW.trod enc Tryd.prog W 0 spare true n 5 [c2] = some z := by
      have e : Tryd.prog.cellsOf 5 = 1 := by kernel_rfl
      exact ⟨_, by simpa [e] using g2⟩
    obtain ⟨a2, r2, k2⟩ := (opens_int Tryd.underlying5) H enc n _ _ g2
    exact ⟨⟨a0, a1, a2⟩, repL_app r0 (repL_app r1 (r2)), ⟨k0, k1, k2⟩⟩
def ok111 (x : T111) : Prop := (Lit.int .i64 x.Cond).wf = true ∧ True
theorem cells111 : Tryd.prog.cellsOf 111 = 2 := by kernel_rfl
set_option maxRecDepth 100000 in
theorem op111 {W : World} {spare : Nat → Bool} : Opens Tryd.prog W spare 111 (fun x => [(dI x.Cond), (.bool x.Neg)]) ok111 := fun H enc fuel cs x h => by
  obtain ⟨xs, n, _, _, hl, hx, hf⟩ := DataW.trod_struct Tryd.underlying111 h
  rw [cells111] at hl
  have hx : xs.length = 2 := hx
  match cs, hl with
  | [c0, c1], _ =>
    have g0 := hf 0 _ rfl
    rw [List.getElem?_eq_getElem (by omega)] at g0
    obtain ⟨z0, g0⟩ : ∃ z, DataW.trod enc Tryd.prog W 0 spare true n 3 [c0] = some z := by
      have e : Tryd.prog.cellsOf 3 = 1 := by kernel_rfl
      exact ⟨_, by simpa [e] using g0⟩
    obtain ⟨a0, r0, k0⟩ := (opens_int Tryd.underlying3) H enc n _ _ g0
    have g1 := hf 1 _ rfl
    rw [List.getElem?_eq_getElem (by omega)] at g1
    obtain ⟨z1, g1⟩ : ∃ z, DataW.trod enc Tryd.prog W 0 spare true n 4 [c1] = some z := by
      have e : Tryd.prog.cellsOf 4 = 1 := by kernel_rfl
      exact ⟨_, by simpa [e] using g1⟩
    obtain ⟨a1, r1, k1⟩ := (opens_bool Tryd.underlying4) H enc n _ _ g1
    exact ⟨⟨a0, a1⟩, repL_app r0 (r1), ⟨k0, k1⟩⟩
def ok107 (x : T107) : Prop := x.Name.length ≤ maxLen ∧ (Lit.int .i64 x.Parent).wf = true ∧ (Lit.int .i64 x.Initial).wf = true ∧ True ∧ (x.Entry.length ≤ maxLen ∧ ∀ b ∈ x.Entry, b.length ≤ maxLen) ∧ (x.Exit.length ≤ maxLen ∧ ∀ b ∈ x.Exit, b.length ≤ maxLen)
theorem cells107 : Tryd.prog.cellsOf 107 = 6 := by kernel_rfl
set_option maxRecDepth 100000 in
theorem op107 {W : World} {spare : Nat → Bool} : Opens Tryd.prog W spare 107 (fun x => [(.str x.Name), (dI x.Parent), (dI x.Initial), (.bool x.History), (eSl 1 D.str x.Entry), (eSl 1 D.str x.Exit)]) ok107 := fun H enc fuel cs x h => by
  obtain ⟨xs, n, _, _, hl, hx, hf⟩ := DataW.trod_struct Tryd.underlying107 h
  rw [cells107] at hl
  have hx : xs.length = 6 := hx
  match cs, hl with
  | [c0, c1, c2, c3, c4, c5], _ =>
    have g0 := hf 0 _ rfl
    rw [List.getElem?_eq_getElem (by omega)] at g0
    obtain ⟨z0, g0⟩ : ∃ z, DataW.trod enc Tryd.prog W 0 spare true n 9 [c0] = some z := by
      have e : Tryd.prog.cellsOf 9 = 1 := by kernel_rfl
      exact ⟨_, by simpa [e] using g0⟩
    obtain ⟨a0, r0, k0⟩ := (opens_string Tryd.underlying9) H enc n _ _ g0
    have g1 := hf 1 _ rfl
    rw [List.getElem?_eq_getElem (by omega)] at g1
    obtain ⟨z1, g1⟩ : ∃ z, DataW.trod enc Tryd.prog W 0 spare true n 3 [c1] = some z := by
      have e : Tryd.prog.cellsOf 3 = 1 := by kernel_rfl
      exact ⟨_, by simpa [e] using g1⟩
    obtain ⟨a1, r1, k1⟩ := (opens_int Tryd.underlying3) H enc n _ _ g1
    have g2 := hf 2 _ rfl
    rw [List.getElem?_eq_getElem (by omega)] at g2
    obtain ⟨z2, g2⟩ : ∃ z, DataW.trod enc Tryd.prog W 0 spare true n 3 [c2] = some z := by
      have e : Tryd.prog.cellsOf 3 = 1 := by kernel_rfl
      exact ⟨_, by simpa [e] using g2⟩
    obtain ⟨a2, r2, k2⟩ := (opens_int Tryd.underlying3) H enc n _ _ g2
    have g3 := hf 3 _ rfl
    rw [List.getElem?_eq_getElem (by omega)] at g3
    obtain ⟨z3, g3⟩ : ∃ z, DataW.trod enc Tryd.prog W 0 spare true n 4 [c3] = some z := by
      have e : Tryd.prog.cellsOf 4 = 1 := by kernel_rfl
      exact ⟨_, by simpa [e] using g3⟩
    obtain ⟨a3, r3, k3⟩ := (opens_bool Tryd.underlying4) H enc n _ _ g3
    have g4 := hf 4 _ rfl
    rw [List.getElem?_eq_getElem (by omega)] at g4
    obtain ⟨z4, g4⟩ : ∃ z, DataW.trod enc Tryd.prog W 0 spare true n 27 [c4] = some z := by
      have e : Tryd.prog.cellsOf 27 = 1 := by kernel_rfl
      exact ⟨_, by simpa [e] using g4⟩
    obtain ⟨a4, r4, k4⟩ := (opens_slice (sz := 1) (e := fun a => [(.str a)]) (en := D.str) (ok := fun a => a.length ≤ maxLen) Tryd.underlying27 (by kernel_rfl) (by decide) (opens_string Tryd.underlying9) (fun _ => rfl) (fun _ => rfl) (fun _ => .inr ⟨rfl, rfl⟩)) H enc n _ _ g4
    have g5 := hf 5 _ rfl
    rw [List.getElem?_eq_getElem (by omega)] at g5
    obtain ⟨z5, g5⟩ : ∃ z, DataW.trod enc Tryd.prog W 0 spare true n 27 [c5] = some z := by
      have e : Tryd.prog.cellsOf 27 = 1 := by kernel_rfl
      exact ⟨_, by simpa [e] using g5⟩
    obtain ⟨a5, r5, k5⟩ := (opens_slice (sz := 1) (e := fun a => [(.str a)]) (en := D.str) (ok := fun a => a.length ≤ maxLen) Tryd.underlying27 (by kernel_rfl) (by decide) (opens_string Tryd.underlying9) (fun _ => rfl) (fun _ => rfl) (fun _ => .inr ⟨rfl, rfl⟩)) H enc n _ _ g5
    exact ⟨⟨a0, a1, a2, a3, a4, a5⟩, repL_app r0 (repL_app r1 (repL_app r2 (repL_app r3 (repL_app r4 (r5))))), ⟨k0, k1, k2, k3, k4, k5⟩⟩
def ok73 (x : T73) : Prop := (Lit.int .i64 x.From).wf = true ∧ (Lit.int .i64 x.To).wf = true ∧ (x.When.length ≤ maxLen ∧ ∀ b ∈ x.When, ok111 b) ∧ (x.Actions.length ≤ maxLen ∧ ∀ b ∈ x.Actions, b.length ≤ maxLen)
theorem cells73 : Tryd.prog.cellsOf 73 = 4 := by kernel_rfl
set_option maxRecDepth 100000 in
theorem op73 {W : World} {spare : Nat → Bool} : Opens Tryd.prog W spare 73 (fun x => [(dI x.From), (dI x.To), (eSl 2 e111 x.When), (eSl 1 D.str x.Actions)]) ok73 := fun H enc fuel cs x h => by
  obtain ⟨xs, n, _, _, hl, hx, hf⟩ := DataW.trod_struct Tryd.underlying73 h
  rw [cells73] at hl
  have hx : xs.length = 4 := hx
  match cs, hl with
  | [c0, c1, c2, c3], _ =>
    have g0 := hf 0 _ rfl
    rw [List.getElem?_eq_getElem (by omega)] at g0
    obtain ⟨z0, g0⟩ : ∃ z, DataW.trod enc Tryd.prog W 0 spare true n 3 [c0] = some z := by
      have e : Tryd.prog.cellsOf 3 = 1 := by kernel_rfl
      exact ⟨_, by simpa [e] using g0⟩
    obtain ⟨a0, r0, k0⟩ := (opens_int Tryd.underlying3) H enc n _ _ g0
    have g1 := hf 1 _ rfl
    rw [List.getElem?_eq_getElem (by omega)] at g1
    obtain ⟨z1, g1⟩ : ∃ z, DataW.trod enc Tryd.prog W 0 spare true n 3 [c1] = some z := by
      have e : Tryd.prog.cellsOf 3 = 1 := by kernel_rfl
      exact ⟨_, by simpa [e] using g1⟩
    obtain ⟨a1, r1, k1⟩ := (opens_int Tryd.underlying3) H enc n _ _ g1
    have g2 := hf 2 _ rfl
    rw [List.getElem?_eq_getElem (by omega)] at g2
    obtain ⟨z2, g2⟩ : ∃ z, DataW.trod enc Tryd.prog W 0 spare true n 68 [c2] = some z := by
      have e : Tryd.prog.cellsOf 68 = 1 := by kernel_rfl
      exact ⟨_, by simpa [e] using g2⟩
    obtain ⟨a2, r2, k2⟩ := (opens_slice (sz := 2) (e := fun a => [(dI a.Cond), (.bool a.Neg)]) (en := e111) (ok := fun a => ok111 a) Tryd.underlying68 (by kernel_rfl) (by decide) op111 (fun _ => rfl) (fun _ => rfl) (fun _ => .inl rfl)) H enc n _ _ g2
    have g3 := hf 3 _ rfl
    rw [List.getElem?_eq_getElem (by omega)] at g3
    obtain ⟨z3, g3⟩ : ∃ z, DataW.trod enc Tryd.prog W 0 spare true n 27 [c3] = some z := by
      have e : Tryd.prog.cellsOf 27 = 1 := by kernel_rfl
      exact ⟨_, by simpa [e] using g3⟩
    obtain ⟨a3, r3, k3⟩ := (opens_slice (sz := 1) (e := fun a => [(.str a)]) (en := D.str) (ok := fun a => a.length ≤ maxLen) Tryd.underlying27 (by kernel_rfl) (by decide) (opens_string Tryd.underlying9) (fun _ => rfl) (fun _ => rfl) (fun _ => .inr ⟨rfl, rfl⟩)) H enc n _ _ g3
    exact ⟨⟨a0, a1, a2, a3⟩, repL_app r0 (repL_app r1 (repL_app r2 (r3))), ⟨k0, k1, k2, k3⟩⟩
def ok40 (x : T40) : Prop := x.Name.length ≤ maxLen ∧ (x.Conds.length ≤ maxLen ∧ ∀ b ∈ x.Conds, b.length ≤ maxLen) ∧ (x.Never.length ≤ maxLen ∧ ∀ b ∈ x.Never, (b.length ≤ maxLen ∧ ∀ c ∈ b, ok111 c)) ∧ (x.States.length ≤ maxLen ∧ ∀ b ∈ x.States, ok107 b) ∧ (Lit.int .i64 x.Start).wf = true ∧ (x.Transitions.length ≤ maxLen ∧ ∀ b ∈ x.Transitions, ok73 b)
theorem cells40 : Tryd.prog.cellsOf 40 = 6 := by kernel_rfl
set_option maxRecDepth 100000 in
theorem op40 {W : World} {spare : Nat → Bool} : Opens Tryd.prog W spare 40 (fun x => [(.str x.Name), (eSl 1 D.str x.Conds), (eSl 1 (eSl 2 e111) x.Never), (eSl 6 e107 x.States), (dI x.Start), (eSl 4 e73 x.Transitions)]) ok40 := fun H enc fuel cs x h => by
  obtain ⟨xs, n, _, _, hl, hx, hf⟩ := DataW.trod_struct Tryd.underlying40 h
  rw [cells40] at hl
  have hx : xs.length = 6 := hx
  match cs, hl with
  | [c0, c1, c2, c3, c4, c5], _ =>
    have g0 := hf 0 _ rfl
    rw [List.getElem?_eq_getElem (by omega)] at g0
    obtain ⟨z0, g0⟩ : ∃ z, DataW.trod enc Tryd.prog W 0 spare true n 9 [c0] = some z := by
      have e : Tryd.prog.cellsOf 9 = 1 := by kernel_rfl
      exact ⟨_, by simpa [e] using g0⟩
    obtain ⟨a0, r0, k0⟩ := (opens_string Tryd.underlying9) H enc n _ _ g0
    have g1 := hf 1 _ rfl
    rw [List.getElem?_eq_getElem (by omega)] at g1
    obtain ⟨z1, g1⟩ : ∃ z, DataW.trod enc Tryd.prog W 0 spare true n 27 [c1] = some z := by
      have e : Tryd.prog.cellsOf 27 = 1 := by kernel_rfl
      exact ⟨_, by simpa [e] using g1⟩
    obtain ⟨a1, r1, k1⟩ := (opens_slice (sz := 1) (e := fun a => [(.str a)]) (en := D.str) (ok := fun a => a.length ≤ maxLen) Tryd.underlying27 (by kernel_rfl) (by decide) (opens_string Tryd.underlying9) (fun _ => rfl) (fun _ => rfl) (fun _ => .inr ⟨rfl, rfl⟩)) H enc n _ _ g1
    have g2 := hf 2 _ rfl
    rw [List.getElem?_eq_getElem (by omega)] at g2
    obtain ⟨z2, g2⟩ : ∃ z, DataW.trod enc Tryd.prog W 0 spare true n 36 [c2] = some z := by
      have e : Tryd.prog.cellsOf 36 = 1 := by kernel_rfl
      exact ⟨_, by simpa [e] using g2⟩
    obtain ⟨a2, r2, k2⟩ := (opens_slice (sz := 1) (e := fun a => [(eSl 2 e111 a)]) (en := (eSl 2 e111)) (ok := fun a => (a.length ≤ maxLen ∧ ∀ b ∈ a, ok111 b)) Tryd.underlying36 (by kernel_rfl) (by decide) (opens_slice (sz := 2) (e := fun a => [(dI a.Cond), (.bool a.Neg)]) (en := e111) (ok := fun a => ok111 a) Tryd.underlying68 (by kernel_rfl) (by decide) op111 (fun _ => rfl) (fun _ => rfl) (fun _ => .inl rfl)) (fun _ => rfl) (fun _ => rfl) (fun _ => .inr ⟨rfl, rfl⟩)) H enc n _ _ g2
    have g3 := hf 3 _ rfl
    rw [List.getElem?_eq_getElem (by omega)] at g3
    obtain ⟨z3, g3⟩ : ∃ z, DataW.trod enc Tryd.prog W 0 spare true n 37 [c3] = some z := by
      have e : Tryd.prog.cellsOf 37 = 1 := by kernel_rfl
      exact ⟨_, by simpa [e] using g3⟩
    obtain ⟨a3, r3, k3⟩ := (opens_slice (sz := 6) (e := fun a => [(.str a.Name), (dI a.Parent), (dI a.Initial), (.bool a.History), (eSl 1 D.str a.Entry), (eSl 1 D.str a.Exit)]) (en := e107) (ok := fun a => ok107 a) Tryd.underlying37 (by kernel_rfl) (by decide) op107 (fun _ => rfl) (fun _ => rfl) (fun _ => .inl rfl)) H enc n _ _ g3
    have g4 := hf 4 _ rfl
    rw [List.getElem?_eq_getElem (by omega)] at g4
    obtain ⟨z4, g4⟩ : ∃ z, DataW.trod enc Tryd.prog W 0 spare true n 3 [c4] = some z := by
      have e : Tryd.prog.cellsOf 3 = 1 := by kernel_rfl
      exact ⟨_, by simpa [e] using g4⟩
    obtain ⟨a4, r4, k4⟩ := (opens_int Tryd.underlying3) H enc n _ _ g4
    have g5 := hf 5 _ rfl
    rw [List.getElem?_eq_getElem (by omega)] at g5
    obtain ⟨z5, g5⟩ : ∃ z, DataW.trod enc Tryd.prog W 0 spare true n 38 [c5] = some z := by
      have e : Tryd.prog.cellsOf 38 = 1 := by kernel_rfl
      exact ⟨_, by simpa [e] using g5⟩
    obtain ⟨a5, r5, k5⟩ := (opens_slice (sz := 4) (e := fun a => [(dI a.From), (dI a.To), (eSl 2 e111 a.When), (eSl 1 D.str a.Actions)]) (en := e73) (ok := fun a => ok73 a) Tryd.underlying38 (by kernel_rfl) (by decide) op73 (fun _ => rfl) (fun _ => rfl) (fun _ => .inl rfl)) H enc n _ _ g5
    exact ⟨⟨a0, a1, a2, a3, a4, a5⟩, repL_app r0 (repL_app r1 (repL_app r2 (repL_app r3 (repL_app r4 (r5))))), ⟨k0, k1, k2, k3, k4, k5⟩⟩
def ok87 (x : T87) : Prop := (Lit.int .i64 x.Line).wf = true ∧ (Lit.int .i64 x.Column).wf = true ∧ (Lit.int .i64 x.Code).wf = true
theorem cells87 : Tryd.prog.cellsOf 87 = 3 := by kernel_rfl
set_option maxRecDepth 100000 in
theorem op87 {W : World} {spare : Nat → Bool} : Opens Tryd.prog W spare 87 (fun x => [(dI x.Line), (dI x.Column), (dI x.Code)]) ok87 := fun H enc fuel cs x h => by
  obtain ⟨xs, n, _, _, hl, hx, hf⟩ := DataW.trod_struct Tryd.underlying87 h
  rw [cells87] at hl
  have hx : xs.length = 3 := hx
  match cs, hl with
  | [c0, c1, c2], _ =>
    have g0 := hf 0 _ rfl
    rw [List.getElem?_eq_getElem (by omega)] at g0
    obtain ⟨z0, g0⟩ : ∃ z, DataW.trod enc Tryd.prog W 0 spare true n 3 [c0] = some z := by
      have e : Tryd.prog.cellsOf 3 = 1 := by kernel_rfl
      exact ⟨_, by simpa [e] using g0⟩
    obtain ⟨a0, r0, k0⟩ := (opens_int Tryd.underlying3) H enc n _ _ g0
    have g1 := hf 1 _ rfl
    rw [List.getElem?_eq_getElem (by omega)] at g1
    obtain ⟨z1, g1⟩ : ∃ z, DataW.trod enc Tryd.prog W 0 spare true n 3 [c1] = some z := by
      have e : Tryd.prog.cellsOf 3 = 1 := by kernel_rfl
      exact ⟨_, by simpa [e] using g1⟩
    obtain ⟨a1, r1, k1⟩ := (opens_int Tryd.underlying3) H enc n _ _ g1
    have g2 := hf 2 _ rfl
    rw [List.getElem?_eq_getElem (by omega)] at g2
    obtain ⟨z2, g2⟩ : ∃ z, DataW.trod enc Tryd.prog W 0 spare true n 28 [c2] = some z := by
      have e : Tryd.prog.cellsOf 28 = 1 := by kernel_rfl
      exact ⟨_, by simpa [e] using g2⟩
    obtain ⟨a2, r2, k2⟩ := (opens_int Tryd.underlying28) H enc n _ _ g2
    exact ⟨⟨a0, a1, a2⟩, repL_app r0 (repL_app r1 (r2)), ⟨k0, k1, k2⟩⟩
def ok92 (x : T92) : Prop := x.Text.length ≤ maxLen ∧ (Lit.int .i64 x.Column).wf = true
theorem cells92 : Tryd.prog.cellsOf 92 = 2 := by kernel_rfl
set_option maxRecDepth 100000 in
theorem op92 {W : World} {spare : Nat → Bool} : Opens Tryd.prog W spare 92 (fun x => [(.str x.Text), (dI x.Column)]) ok92 := fun H enc fuel cs x h => by
  obtain ⟨xs, n, _, _, hl, hx, hf⟩ := DataW.trod_struct Tryd.underlying92 h
  rw [cells92] at hl
  have hx : xs.length = 2 := hx
  match cs, hl with
  | [c0, c1], _ =>
    have g0 := hf 0 _ rfl
    rw [List.getElem?_eq_getElem (by omega)] at g0
    obtain ⟨z0, g0⟩ : ∃ z, DataW.trod enc Tryd.prog W 0 spare true n 9 [c0] = some z := by
      have e : Tryd.prog.cellsOf 9 = 1 := by kernel_rfl
      exact ⟨_, by simpa [e] using g0⟩
    obtain ⟨a0, r0, k0⟩ := (opens_string Tryd.underlying9) H enc n _ _ g0
    have g1 := hf 1 _ rfl
    rw [List.getElem?_eq_getElem (by omega)] at g1
    obtain ⟨z1, g1⟩ : ∃ z, DataW.trod enc Tryd.prog W 0 spare true n 3 [c1] = some z := by
      have e : Tryd.prog.cellsOf 3 = 1 := by kernel_rfl
      exact ⟨_, by simpa [e] using g1⟩
    obtain ⟨a1, r1, k1⟩ := (opens_int Tryd.underlying3) H enc n _ _ g1
    exact ⟨⟨a0, a1⟩, repL_app r0 (r1), ⟨k0, k1⟩⟩
def ok90 (x : T90) : Prop := (Lit.int .i64 x.Number).wf = true ∧ (x.Fields.length ≤ maxLen ∧ ∀ b ∈ x.Fields, ok92 b)
theorem cells90 : Tryd.prog.cellsOf 90 = 2 := by kernel_rfl
set_option maxRecDepth 100000 in
theorem op90 {W : World} {spare : Nat → Bool} : Opens Tryd.prog W spare 90 (fun x => [(dI x.Number), (eSl 2 e92 x.Fields)]) ok90 := fun H enc fuel cs x h => by
  obtain ⟨xs, n, _, _, hl, hx, hf⟩ := DataW.trod_struct Tryd.underlying90 h
  rw [cells90] at hl
  have hx : xs.length = 2 := hx
  match cs, hl with
  | [c0, c1], _ =>
    have g0 := hf 0 _ rfl
    rw [List.getElem?_eq_getElem (by omega)] at g0
    obtain ⟨z0, g0⟩ : ∃ z, DataW.trod enc Tryd.prog W 0 spare true n 3 [c0] = some z := by
      have e : Tryd.prog.cellsOf 3 = 1 := by kernel_rfl
      exact ⟨_, by simpa [e] using g0⟩
    obtain ⟨a0, r0, k0⟩ := (opens_int Tryd.underlying3) H enc n _ _ g0
    have g1 := hf 1 _ rfl
    rw [List.getElem?_eq_getElem (by omega)] at g1
    obtain ⟨z1, g1⟩ : ∃ z, DataW.trod enc Tryd.prog W 0 spare true n 88 [c1] = some z := by
      have e : Tryd.prog.cellsOf 88 = 1 := by kernel_rfl
      exact ⟨_, by simpa [e] using g1⟩
    obtain ⟨a1, r1, k1⟩ := (opens_slice (sz := 2) (e := fun a => [(.str a.Text), (dI a.Column)]) (en := e92) (ok := fun a => ok92 a) Tryd.underlying88 (by kernel_rfl) (by decide) op92 (fun _ => rfl) (fun _ => rfl) (fun _ => .inl rfl)) H enc n _ _ g1
    exact ⟨⟨a0, a1⟩, repL_app r0 (r1), ⟨k0, k1⟩⟩
def ok58 (x : T58) : Prop := (Lit.int .i64 x.Leaf).wf = true ∧ (x.Memory.length ≤ maxLen ∧ ∀ b ∈ x.Memory, (Lit.int .i64 b).wf = true)
theorem cells58 : Tryd.prog.cellsOf 58 = 2 := by kernel_rfl
set_option maxRecDepth 100000 in
theorem op58 {W : World} {spare : Nat → Bool} : Opens Tryd.prog W spare 58 (fun x => [(dI x.Leaf), (eSl 1 dI x.Memory)]) ok58 := fun H enc fuel cs x h => by
  obtain ⟨xs, n, _, _, hl, hx, hf⟩ := DataW.trod_struct Tryd.underlying58 h
  rw [cells58] at hl
  have hx : xs.length = 2 := hx
  match cs, hl with
  | [c0, c1], _ =>
    have g0 := hf 0 _ rfl
    rw [List.getElem?_eq_getElem (by omega)] at g0
    obtain ⟨z0, g0⟩ : ∃ z, DataW.trod enc Tryd.prog W 0 spare true n 3 [c0] = some z := by
      have e : Tryd.prog.cellsOf 3 = 1 := by kernel_rfl
      exact ⟨_, by simpa [e] using g0⟩
    obtain ⟨a0, r0, k0⟩ := (opens_int Tryd.underlying3) H enc n _ _ g0
    have g1 := hf 1 _ rfl
    rw [List.getElem?_eq_getElem (by omega)] at g1
    obtain ⟨z1, g1⟩ : ∃ z, DataW.trod enc Tryd.prog W 0 spare true n 43 [c1] = some z := by
      have e : Tryd.prog.cellsOf 43 = 1 := by kernel_rfl
      exact ⟨_, by simpa [e] using g1⟩
    obtain ⟨a1, r1, k1⟩ := (opens_slice (sz := 1) (e := fun a => [(dI a)]) (en := dI) (ok := fun a => (Lit.int .i64 a).wf = true) Tryd.underlying43 (by kernel_rfl) (by decide) (opens_int Tryd.underlying3) (fun _ => rfl) (fun _ => rfl) (fun _ => .inr ⟨rfl, rfl⟩)) H enc n _ _ g1
    exact ⟨⟨a0, a1⟩, repL_app r0 (r1), ⟨k0, k1⟩⟩
end Go.Av
