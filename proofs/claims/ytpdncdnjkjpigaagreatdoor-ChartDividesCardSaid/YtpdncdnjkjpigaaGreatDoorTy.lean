/- Printed by ext.py. -/
import Derived.Test.YtpdncdnjkjpigaaGreatDoorAvOpen
import Derived.Test.YtpdncdnjkjpigaaGreatDoorAvObj
import Derived.KernelRfl
import Derived.Test.YtpdncdnjkjpigaaGreatDoorProg
set_option linter.unusedVariables false
set_option linter.unusedSimpArgs false
set_option maxRecDepth 100000
namespace Go.Av
open Go.RowKit Go.Base Go.Proofs Go.ChangeShapes Go.WideShapes
structure T81 where
  Cond : Int
  Neg : Bool
instance : Inhabited T81 := ⟨⟨0, false⟩⟩
noncomputable def e81 (x : T81) : D := .agg [(dI x.Cond), (.bool x.Neg)]
structure T69 where
  Name : List UInt8
  Parent : Int
  Initial : Int
  History : Bool
  Entry : List (List UInt8)
  Exit : List (List UInt8)
instance : Inhabited T69 := ⟨⟨[], 0, 0, false, [], []⟩⟩
noncomputable def e69 (x : T69) : D := .agg [(.str x.Name), (dI x.Parent), (dI x.Initial), (.bool x.History), (eSl 1 D.str x.Entry), (eSl 1 D.str x.Exit)]
structure T40 where
  From : Int
  To : Int
  When : List T81
  Actions : List (List UInt8)
instance : Inhabited T40 := ⟨⟨0, 0, [], []⟩⟩
noncomputable def e40 (x : T40) : D := .agg [(dI x.From), (dI x.To), (eSl 2 e81 x.When), (eSl 1 D.str x.Actions)]
structure T27 where
  Name : List UInt8
  Conds : List (List UInt8)
  Never : List (List T81)
  States : List T69
  Start : Int
  Transitions : List T40
instance : Inhabited T27 := ⟨⟨[], [], [], [], 0, []⟩⟩
noncomputable def e27 (x : T27) : D := .agg [(.str x.Name), (eSl 1 D.str x.Conds), (eSl 1 (eSl 2 e81) x.Never), (eSl 6 e69 x.States), (dI x.Start), (eSl 4 e40 x.Transitions)]
structure T116 where
  Line : Int
  Column : Int
  Code : Int
instance : Inhabited T116 := ⟨⟨0, 0, 0⟩⟩
noncomputable def e116 (x : T116) : D := .agg [(dI x.Line), (dI x.Column), (dI x.Code)]
structure T121 where
  Text : List UInt8
  Column : Int
instance : Inhabited T121 := ⟨⟨[], 0⟩⟩
noncomputable def e121 (x : T121) : D := .agg [(.str x.Text), (dI x.Column)]
structure T119 where
  Number : Int
  Fields : List T121
instance : Inhabited T119 := ⟨⟨0, []⟩⟩
noncomputable def e119 (x : T119) : D := .agg [(dI x.Number), (eSl 2 e121 x.Fields)]
structure T44 where
  Leaf : Int
  Memory : List Int
instance : Inhabited T44 := ⟨⟨0, []⟩⟩
noncomputable def e44 (x : T44) : D := .agg [(dI x.Leaf), (eSl 1 dI x.Memory)]
noncomputable def g81 (x : T81) : List AV := [(aI x.Cond), (aB x.Neg)]
noncomputable def g69 (x : T69) : List AV := [(aS x.Name), (aI x.Parent), (aI x.Initial), (aB x.History), (.d (eSl 1 D.str x.Entry)), (.d (eSl 1 D.str x.Exit))]
noncomputable def g40 (x : T40) : List AV := [(aI x.From), (aI x.To), (.d (eSl 2 e81 x.When)), (.d (eSl 1 D.str x.Actions))]
noncomputable def g27 (x : T27) : List AV := [(aS x.Name), (.d (eSl 1 D.str x.Conds)), (.d (eSl 1 (eSl 2 e81) x.Never)), (.d (eSl 6 e69 x.States)), (aI x.Start), (.d (eSl 4 e40 x.Transitions))]
noncomputable def g116 (x : T116) : List AV := [(aI x.Line), (aI x.Column), (aI x.Code)]
noncomputable def g121 (x : T121) : List AV := [(aS x.Text), (aI x.Column)]
noncomputable def g119 (x : T119) : List AV := [(aI x.Number), (.d (eSl 2 e121 x.Fields))]
noncomputable def g44 (x : T44) : List AV := [(aI x.Leaf), (.d (eSl 1 dI x.Memory))]
def ok81 (x : T81) : Prop := (Lit.int .i64 x.Cond).wf = true ∧ True
theorem cells81 : Tryz.prog.cellsOf 81 = 2 := by kernel_rfl
set_option maxRecDepth 100000 in
theorem op81 {W : World} {spare : Nat → Bool} : Opens Tryz.prog W spare 81 (fun x => [(dI x.Cond), (.bool x.Neg)]) ok81 := fun H enc fuel cs x h => by
  obtain ⟨xs, n, _, _, hl, hx, hf⟩ := DataW.trod_struct Tryz.underlying81 h
  rw [cells81] at hl
  have hx : xs.length = 2 := hx
  match cs, hl with
  | [c0, c1], _ =>
    have g0 := hf 0 _ rfl
    rw [List.getElem?_eq_getElem (by omega)] at g0
    obtain ⟨z0, g0⟩ : ∃ z, DataW.trod enc Tryz.prog W 0 spare true n 3 [c0] = some z := by
      have e : Tryz.prog.cellsOf 3 = 1 := by kernel_rfl
      exact ⟨_, by simpa [e] using g0⟩
    obtain ⟨a0, r0, k0⟩ := (opens_int Tryz.underlying3) H enc n _ _ g0
    have g1 := hf 1 _ rfl
    rw [List.getElem?_eq_getElem (by omega)] at g1
    obtain ⟨z1, g1⟩ : ∃ z, DataW.trod enc Tryz.prog W 0 spare true n 4 [c1] = some z := by
      have e : Tryz.prog.cellsOf 4 = 1 := by kernel_rfl
      exact ⟨_, by simpa [e] using g1⟩
    obtain ⟨a1, r1, k1⟩ := (opens_bool Tryz.underlying4) H enc n _ _ g1
    exact ⟨⟨a0, a1⟩, repL_app r0 (r1), ⟨k0, k1⟩⟩
def ok69 (x : T69) : Prop := x.Name.length ≤ maxLen ∧ (Lit.int .i64 x.Parent).wf = true ∧ (Lit.int .i64 x.Initial).wf = true ∧ True ∧ (x.Entry.length ≤ maxLen ∧ ∀ b ∈ x.Entry, b.length ≤ maxLen) ∧ (x.Exit.length ≤ maxLen ∧ ∀ b ∈ x.Exit, b.length ≤ maxLen)
theorem cells69 : Tryz.prog.cellsOf 69 = 6 := by kernel_rfl
set_option maxRecDepth 100000 in
theorem op69 {W : World} {spare : Nat → Bool} : Opens Tryz.prog W spare 69 (fun x => [(.str x.Name), (dI x.Parent), (dI x.Initial), (.bool x.History), (eSl 1 D.str x.Entry), (eSl 1 D.str x.Exit)]) ok69 := fun H enc fuel cs x h => by
  obtain ⟨xs, n, _, _, hl, hx, hf⟩ := DataW.trod_struct Tryz.underlying69 h
  rw [cells69] at hl
  have hx : xs.length = 6 := hx
  match cs, hl with
  | [c0, c1, c2, c3, c4, c5], _ =>
    have g0 := hf 0 _ rfl
    rw [List.getElem?_eq_getElem (by omega)] at g0
    obtain ⟨z0, g0⟩ : ∃ z, DataW.trod enc Tryz.prog W 0 spare true n 9 [c0] = some z := by
      have e : Tryz.prog.cellsOf 9 = 1 := by kernel_rfl
      exact ⟨_, by simpa [e] using g0⟩
    obtain ⟨a0, r0, k0⟩ := (opens_string Tryz.underlying9) H enc n _ _ g0
    have g1 := hf 1 _ rfl
    rw [List.getElem?_eq_getElem (by omega)] at g1
    obtain ⟨z1, g1⟩ : ∃ z, DataW.trod enc Tryz.prog W 0 spare true n 3 [c1] = some z := by
      have e : Tryz.prog.cellsOf 3 = 1 := by kernel_rfl
      exact ⟨_, by simpa [e] using g1⟩
    obtain ⟨a1, r1, k1⟩ := (opens_int Tryz.underlying3) H enc n _ _ g1
    have g2 := hf 2 _ rfl
    rw [List.getElem?_eq_getElem (by omega)] at g2
    obtain ⟨z2, g2⟩ : ∃ z, DataW.trod enc Tryz.prog W 0 spare true n 3 [c2] = some z := by
      have e : Tryz.prog.cellsOf 3 = 1 := by kernel_rfl
      exact ⟨_, by simpa [e] using g2⟩
    obtain ⟨a2, r2, k2⟩ := (opens_int Tryz.underlying3) H enc n _ _ g2
    have g3 := hf 3 _ rfl
    rw [List.getElem?_eq_getElem (by omega)] at g3
    obtain ⟨z3, g3⟩ : ∃ z, DataW.trod enc Tryz.prog W 0 spare true n 4 [c3] = some z := by
      have e : Tryz.prog.cellsOf 4 = 1 := by kernel_rfl
      exact ⟨_, by simpa [e] using g3⟩
    obtain ⟨a3, r3, k3⟩ := (opens_bool Tryz.underlying4) H enc n _ _ g3
    have g4 := hf 4 _ rfl
    rw [List.getElem?_eq_getElem (by omega)] at g4
    obtain ⟨z4, g4⟩ : ∃ z, DataW.trod enc Tryz.prog W 0 spare true n 22 [c4] = some z := by
      have e : Tryz.prog.cellsOf 22 = 1 := by kernel_rfl
      exact ⟨_, by simpa [e] using g4⟩
    obtain ⟨a4, r4, k4⟩ := (opens_slice (sz := 1) (e := fun a => [(.str a)]) (en := D.str) (ok := fun a => a.length ≤ maxLen) Tryz.underlying22 (by kernel_rfl) (by decide) (opens_string Tryz.underlying9) (fun _ => rfl) (fun _ => rfl) (fun _ => .inr ⟨rfl, rfl⟩)) H enc n _ _ g4
    have g5 := hf 5 _ rfl
    rw [List.getElem?_eq_getElem (by omega)] at g5
    obtain ⟨z5, g5⟩ : ∃ z, DataW.trod enc Tryz.prog W 0 spare true n 22 [c5] = some z := by
      have e : Tryz.prog.cellsOf 22 = 1 := by kernel_rfl
      exact ⟨_, by simpa [e] using g5⟩
    obtain ⟨a5, r5, k5⟩ := (opens_slice (sz := 1) (e := fun a => [(.str a)]) (en := D.str) (ok := fun a => a.length ≤ maxLen) Tryz.underlying22 (by kernel_rfl) (by decide) (opens_string Tryz.underlying9) (fun _ => rfl) (fun _ => rfl) (fun _ => .inr ⟨rfl, rfl⟩)) H enc n _ _ g5
    exact ⟨⟨a0, a1, a2, a3, a4, a5⟩, repL_app r0 (repL_app r1 (repL_app r2 (repL_app r3 (repL_app r4 (r5))))), ⟨k0, k1, k2, k3, k4, k5⟩⟩
def ok40 (x : T40) : Prop := (Lit.int .i64 x.From).wf = true ∧ (Lit.int .i64 x.To).wf = true ∧ (x.When.length ≤ maxLen ∧ ∀ b ∈ x.When, ok81 b) ∧ (x.Actions.length ≤ maxLen ∧ ∀ b ∈ x.Actions, b.length ≤ maxLen)
theorem cells40 : Tryz.prog.cellsOf 40 = 4 := by kernel_rfl
set_option maxRecDepth 100000 in
theorem op40 {W : World} {spare : Nat → Bool} : Opens Tryz.prog W spare 40 (fun x => [(dI x.From), (dI x.To), (eSl 2 e81 x.When), (eSl 1 D.str x.Actions)]) ok40 := fun H enc fuel cs x h => by
  obtain ⟨xs, n, _, _, hl, hx, hf⟩ := DataW.trod_struct Tryz.underlying40 h
  rw [cells40] at hl
  have hx : xs.length = 4 := hx
  match cs, hl with
  | [c0, c1, c2, c3], _ =>
    have g0 := hf 0 _ rfl
    rw [List.getElem?_eq_getElem (by omega)] at g0
    obtain ⟨z0, g0⟩ : ∃ z, DataW.trod enc Tryz.prog W 0 spare true n 3 [c0] = some z := by
      have e : Tryz.prog.cellsOf 3 = 1 := by kernel_rfl
      exact ⟨_, by simpa [e] using g0⟩
    obtain ⟨a0, r0, k0⟩ := (opens_int Tryz.underlying3) H enc n _ _ g0
    have g1 := hf 1 _ rfl
    rw [List.getElem?_eq_getElem (by omega)] at g1
    obtain ⟨z1, g1⟩ : ∃ z, DataW.trod enc Tryz.prog W 0 spare true n 3 [c1] = some z := by
      have e : Tryz.prog.cellsOf 3 = 1 := by kernel_rfl
      exact ⟨_, by simpa [e] using g1⟩
    obtain ⟨a1, r1, k1⟩ := (opens_int Tryz.underlying3) H enc n _ _ g1
    have g2 := hf 2 _ rfl
    rw [List.getElem?_eq_getElem (by omega)] at g2
    obtain ⟨z2, g2⟩ : ∃ z, DataW.trod enc Tryz.prog W 0 spare true n 38 [c2] = some z := by
      have e : Tryz.prog.cellsOf 38 = 1 := by kernel_rfl
      exact ⟨_, by simpa [e] using g2⟩
    obtain ⟨a2, r2, k2⟩ := (opens_slice (sz := 2) (e := fun a => [(dI a.Cond), (.bool a.Neg)]) (en := e81) (ok := fun a => ok81 a) Tryz.underlying38 (by kernel_rfl) (by decide) op81 (fun _ => rfl) (fun _ => rfl) (fun _ => .inl rfl)) H enc n _ _ g2
    have g3 := hf 3 _ rfl
    rw [List.getElem?_eq_getElem (by omega)] at g3
    obtain ⟨z3, g3⟩ : ∃ z, DataW.trod enc Tryz.prog W 0 spare true n 22 [c3] = some z := by
      have e : Tryz.prog.cellsOf 22 = 1 := by kernel_rfl
      exact ⟨_, by simpa [e] using g3⟩
    obtain ⟨a3, r3, k3⟩ := (opens_slice (sz := 1) (e := fun a => [(.str a)]) (en := D.str) (ok := fun a => a.length ≤ maxLen) Tryz.underlying22 (by kernel_rfl) (by decide) (opens_string Tryz.underlying9) (fun _ => rfl) (fun _ => rfl) (fun _ => .inr ⟨rfl, rfl⟩)) H enc n _ _ g3
    exact ⟨⟨a0, a1, a2, a3⟩, repL_app r0 (repL_app r1 (repL_app r2 (r3))), ⟨k0, k1, k2, k3⟩⟩
def ok27 (x : T27) : Prop := x.Name.length ≤ maxLen ∧ (x.Conds.length ≤ maxLen ∧ ∀ b ∈ x.Conds, b.length ≤ maxLen) ∧ (x.Never.length ≤ maxLen ∧ ∀ b ∈ x.Never, (b.length ≤ maxLen ∧ ∀ c ∈ b, ok81 c)) ∧ (x.States.length ≤ maxLen ∧ ∀ b ∈ x.States, ok69 b) ∧ (Lit.int .i64 x.Start).wf = true ∧ (x.Transitions.length ≤ maxLen ∧ ∀ b ∈ x.Transitions, ok40 b)
theorem cells27 : Tryz.prog.cellsOf 27 = 6 := by kernel_rfl
set_option maxRecDepth 100000 in
theorem op27 {W : World} {spare : Nat → Bool} : Opens Tryz.prog W spare 27 (fun x => [(.str x.Name), (eSl 1 D.str x.Conds), (eSl 1 (eSl 2 e81) x.Never), (eSl 6 e69 x.States), (dI x.Start), (eSl 4 e40 x.Transitions)]) ok27 := fun H enc fuel cs x h => by
  obtain ⟨xs, n, _, _, hl, hx, hf⟩ := DataW.trod_struct Tryz.underlying27 h
  rw [cells27] at hl
  have hx : xs.length = 6 := hx
  match cs, hl with
  | [c0, c1, c2, c3, c4, c5], _ =>
    have g0 := hf 0 _ rfl
    rw [List.getElem?_eq_getElem (by omega)] at g0
    obtain ⟨z0, g0⟩ : ∃ z, DataW.trod enc Tryz.prog W 0 spare true n 9 [c0] = some z := by
      have e : Tryz.prog.cellsOf 9 = 1 := by kernel_rfl
      exact ⟨_, by simpa [e] using g0⟩
    obtain ⟨a0, r0, k0⟩ := (opens_string Tryz.underlying9) H enc n _ _ g0
    have g1 := hf 1 _ rfl
    rw [List.getElem?_eq_getElem (by omega)] at g1
    obtain ⟨z1, g1⟩ : ∃ z, DataW.trod enc Tryz.prog W 0 spare true n 22 [c1] = some z := by
      have e : Tryz.prog.cellsOf 22 = 1 := by kernel_rfl
      exact ⟨_, by simpa [e] using g1⟩
    obtain ⟨a1, r1, k1⟩ := (opens_slice (sz := 1) (e := fun a => [(.str a)]) (en := D.str) (ok := fun a => a.length ≤ maxLen) Tryz.underlying22 (by kernel_rfl) (by decide) (opens_string Tryz.underlying9) (fun _ => rfl) (fun _ => rfl) (fun _ => .inr ⟨rfl, rfl⟩)) H enc n _ _ g1
    have g2 := hf 2 _ rfl
    rw [List.getElem?_eq_getElem (by omega)] at g2
    obtain ⟨z2, g2⟩ : ∃ z, DataW.trod enc Tryz.prog W 0 spare true n 23 [c2] = some z := by
      have e : Tryz.prog.cellsOf 23 = 1 := by kernel_rfl
      exact ⟨_, by simpa [e] using g2⟩
    obtain ⟨a2, r2, k2⟩ := (opens_slice (sz := 1) (e := fun a => [(eSl 2 e81 a)]) (en := (eSl 2 e81)) (ok := fun a => (a.length ≤ maxLen ∧ ∀ b ∈ a, ok81 b)) Tryz.underlying23 (by kernel_rfl) (by decide) (opens_slice (sz := 2) (e := fun a => [(dI a.Cond), (.bool a.Neg)]) (en := e81) (ok := fun a => ok81 a) Tryz.underlying38 (by kernel_rfl) (by decide) op81 (fun _ => rfl) (fun _ => rfl) (fun _ => .inl rfl)) (fun _ => rfl) (fun _ => rfl) (fun _ => .inr ⟨rfl, rfl⟩)) H enc n _ _ g2
    have g3 := hf 3 _ rfl
    rw [List.getElem?_eq_getElem (by omega)] at g3
    obtain ⟨z3, g3⟩ : ∃ z, DataW.trod enc Tryz.prog W 0 spare true n 24 [c3] = some z := by
      have e : Tryz.prog.cellsOf 24 = 1 := by kernel_rfl
      exact ⟨_, by simpa [e] using g3⟩
    obtain ⟨a3, r3, k3⟩ := (opens_slice (sz := 6) (e := fun a => [(.str a.Name), (dI a.Parent), (dI a.Initial), (.bool a.History), (eSl 1 D.str a.Entry), (eSl 1 D.str a.Exit)]) (en := e69) (ok := fun a => ok69 a) Tryz.underlying24 (by kernel_rfl) (by decide) op69 (fun _ => rfl) (fun _ => rfl) (fun _ => .inl rfl)) H enc n _ _ g3
    have g4 := hf 4 _ rfl
    rw [List.getElem?_eq_getElem (by omega)] at g4
    obtain ⟨z4, g4⟩ : ∃ z, DataW.trod enc Tryz.prog W 0 spare true n 3 [c4] = some z := by
      have e : Tryz.prog.cellsOf 3 = 1 := by kernel_rfl
      exact ⟨_, by simpa [e] using g4⟩
    obtain ⟨a4, r4, k4⟩ := (opens_int Tryz.underlying3) H enc n _ _ g4
    have g5 := hf 5 _ rfl
    rw [List.getElem?_eq_getElem (by omega)] at g5
    obtain ⟨z5, g5⟩ : ∃ z, DataW.trod enc Tryz.prog W 0 spare true n 25 [c5] = some z := by
      have e : Tryz.prog.cellsOf 25 = 1 := by kernel_rfl
      exact ⟨_, by simpa [e] using g5⟩
    obtain ⟨a5, r5, k5⟩ := (opens_slice (sz := 4) (e := fun a => [(dI a.From), (dI a.To), (eSl 2 e81 a.When), (eSl 1 D.str a.Actions)]) (en := e40) (ok := fun a => ok40 a) Tryz.underlying25 (by kernel_rfl) (by decide) op40 (fun _ => rfl) (fun _ => rfl) (fun _ => .inl rfl)) H enc n _ _ g5
    exact ⟨⟨a0, a1, a2, a3, a4, a5⟩, repL_app r0 (repL_app r1 (repL_app r2 (repL_app r3 (repL_app r4 (r5))))), ⟨k0, k1, k2, k3, k4, k5⟩⟩
def ok116 (x : T116) : Prop := (Lit.int .i64 x.Line).wf = true ∧ (Lit.int .i64 x.Column).wf = true ∧ (Lit.int .i64 x.Code).wf = true
theorem cells116 : Tryz.prog.cellsOf 116 = 3 := by kernel_rfl
set_option maxRecDepth 100000 in
theorem op116 {W : World} {spare : Nat → Bool} : Opens Tryz.prog W spare 116 (fun x => [(dI x.Line), (dI x.Column), (dI x.Code)]) ok116 := fun H enc fuel cs x h => by
  obtain ⟨xs, n, _, _, hl, hx, hf⟩ := DataW.trod_struct Tryz.underlying116 h
  rw [cells116] at hl
  have hx : xs.length = 3 := hx
  match cs, hl with
  | [c0, c1, c2], _ =>
    have g0 := hf 0 _ rfl
    rw [List.getElem?_eq_getElem (by omega)] at g0
    obtain ⟨z0, g0⟩ : ∃ z, DataW.trod enc Tryz.prog W 0 spare true n 3 [c0] = some z := by
      have e : Tryz.prog.cellsOf 3 = 1 := by kernel_rfl
      exact ⟨_, by simpa [e] using g0⟩
    obtain ⟨a0, r0, k0⟩ := (opens_int Tryz.underlying3) H enc n _ _ g0
    have g1 := hf 1 _ rfl
    rw [List.getElem?_eq_getElem (by omega)] at g1
    obtain ⟨z1, g1⟩ : ∃ z, DataW.trod enc Tryz.prog W 0 spare true n 3 [c1] = some z := by
      have e : Tryz.prog.cellsOf 3 = 1 := by kernel_rfl
      exact ⟨_, by simpa [e] using g1⟩
    obtain ⟨a1, r1, k1⟩ := (opens_int Tryz.underlying3) H enc n _ _ g1
    have g2 := hf 2 _ rfl
    rw [List.getElem?_eq_getElem (by omega)] at g2
    obtain ⟨z2, g2⟩ : ∃ z, DataW.trod enc Tryz.prog W 0 spare true n 30 [c2] = some z := by
      have e : Tryz.prog.cellsOf 30 = 1 := by kernel_rfl
      exact ⟨_, by simpa [e] using g2⟩
    obtain ⟨a2, r2, k2⟩ := (opens_int Tryz.underlying30) H enc n _ _ g2
    exact ⟨⟨a0, a1, a2⟩, repL_app r0 (repL_app r1 (r2)), ⟨k0, k1, k2⟩⟩
def ok121 (x : T121) : Prop := x.Text.length ≤ maxLen ∧ (Lit.int .i64 x.Column).wf = true
theorem cells121 : Tryz.prog.cellsOf 121 = 2 := by kernel_rfl
set_option maxRecDepth 100000 in
theorem op121 {W : World} {spare : Nat → Bool} : Opens Tryz.prog W spare 121 (fun x => [(.str x.Text), (dI x.Column)]) ok121 := fun H enc fuel cs x h => by
  obtain ⟨xs, n, _, _, hl, hx, hf⟩ := DataW.trod_struct Tryz.underlying121 h
  rw [cells121] at hl
  have hx : xs.length = 2 := hx
  match cs, hl with
  | [c0, c1], _ =>
    have g0 := hf 0 _ rfl
    rw [List.getElem?_eq_getElem (by omega)] at g0
    obtain ⟨z0, g0⟩ : ∃ z, DataW.trod enc Tryz.prog W 0 spare true n 9 [c0] = some z := by
      have e : Tryz.prog.cellsOf 9 = 1 := by kernel_rfl
      exact ⟨_, by simpa [e] using g0⟩
    obtain ⟨a0, r0, k0⟩ := (opens_string Tryz.underlying9) H enc n _ _ g0
    have g1 := hf 1 _ rfl
    rw [List.getElem?_eq_getElem (by omega)] at g1
    obtain ⟨z1, g1⟩ : ∃ z, DataW.trod enc Tryz.prog W 0 spare true n 3 [c1] = some z := by
      have e : Tryz.prog.cellsOf 3 = 1 := by kernel_rfl
      exact ⟨_, by simpa [e] using g1⟩
    obtain ⟨a1, r1, k1⟩ := (opens_int Tryz.underlying3) H enc n _ _ g1
    exact ⟨⟨a0, a1⟩, repL_app r0 (r1), ⟨k0, k1⟩⟩
def ok119 (x : T119) : Prop := (Lit.int .i64 x.Number).wf = true ∧ (x.Fields.length ≤ maxLen ∧ ∀ b ∈ x.Fields, ok121 b)
theorem cells119 : Tryz.prog.cellsOf 119 = 2 := by kernel_rfl
set_option maxRecDepth 100000 in
theorem op119 {W : World} {spare : Nat → Bool} : Opens Tryz.prog W spare 119 (fun x => [(dI x.Number), (eSl 2 e121 x.Fields)]) ok119 := fun H enc fuel cs x h => by
  obtain ⟨xs, n, _, _, hl, hx, hf⟩ := DataW.trod_struct Tryz.underlying119 h
  rw [cells119] at hl
  have hx : xs.length = 2 := hx
  match cs, hl with
  | [c0, c1], _ =>
    have g0 := hf 0 _ rfl
    rw [List.getElem?_eq_getElem (by omega)] at g0
    obtain ⟨z0, g0⟩ : ∃ z, DataW.trod enc Tryz.prog W 0 spare true n 3 [c0] = some z := by
      have e : Tryz.prog.cellsOf 3 = 1 := by kernel_rfl
      exact ⟨_, by simpa [e] using g0⟩
    obtain ⟨a0, r0, k0⟩ := (opens_int Tryz.underlying3) H enc n _ _ g0
    have g1 := hf 1 _ rfl
    rw [List.getElem?_eq_getElem (by omega)] at g1
    obtain ⟨z1, g1⟩ : ∃ z, DataW.trod enc Tryz.prog W 0 spare true n 117 [c1] = some z := by
      have e : Tryz.prog.cellsOf 117 = 1 := by kernel_rfl
      exact ⟨_, by simpa [e] using g1⟩
    obtain ⟨a1, r1, k1⟩ := (opens_slice (sz := 2) (e := fun a => [(.str a.Text), (dI a.Column)]) (en := e121) (ok := fun a => ok121 a) Tryz.underlying117 (by kernel_rfl) (by decide) op121 (fun _ => rfl) (fun _ => rfl) (fun _ => .inl rfl)) H enc n _ _ g1
    exact ⟨⟨a0, a1⟩, repL_app r0 (r1), ⟨k0, k1⟩⟩
def ok44 (x : T44) : Prop := (Lit.int .i64 x.Leaf).wf = true ∧ (x.Memory.length ≤ maxLen ∧ ∀ b ∈ x.Memory, (Lit.int .i64 b).wf = true)
theorem cells44 : Tryz.prog.cellsOf 44 = 2 := by kernel_rfl
set_option maxRecDepth 100000 in
theorem op44 {W : World} {spare : Nat → Bool} : Opens Tryz.prog W spare 44 (fun x => [(dI x.Leaf), (eSl 1 dI x.Memory)]) ok44 := fun H enc fuel cs x h => by
  obtain ⟨xs, n, _, _, hl, hx, hf⟩ := DataW.trod_struct Tryz.underlying44 h
  rw [cells44] at hl
  have hx : xs.length = 2 := hx
  match cs, hl with
  | [c0, c1], _ =>
    have g0 := hf 0 _ rfl
    rw [List.getElem?_eq_getElem (by omega)] at g0
    obtain ⟨z0, g0⟩ : ∃ z, DataW.trod enc Tryz.prog W 0 spare true n 3 [c0] = some z := by
      have e : Tryz.prog.cellsOf 3 = 1 := by kernel_rfl
      exact ⟨_, by simpa [e] using g0⟩
    obtain ⟨a0, r0, k0⟩ := (opens_int Tryz.underlying3) H enc n _ _ g0
    have g1 := hf 1 _ rfl
    rw [List.getElem?_eq_getElem (by omega)] at g1
    obtain ⟨z1, g1⟩ : ∃ z, DataW.trod enc Tryz.prog W 0 spare true n 36 [c1] = some z := by
      have e : Tryz.prog.cellsOf 36 = 1 := by kernel_rfl
      exact ⟨_, by simpa [e] using g1⟩
    obtain ⟨a1, r1, k1⟩ := (opens_slice (sz := 1) (e := fun a => [(dI a)]) (en := dI) (ok := fun a => (Lit.int .i64 a).wf = true) Tryz.underlying36 (by kernel_rfl) (by decide) (opens_int Tryz.underlying3) (fun _ => rfl) (fun _ => rfl) (fun _ => .inr ⟨rfl, rfl⟩)) H enc n _ _ g1
    exact ⟨⟨a0, a1⟩, repL_app r0 (r1), ⟨k0, k1⟩⟩
end Go.Av
