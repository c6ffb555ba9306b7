/- Printed by ext.py. -/
import Derived.Test.YtfgeoeipnidfhaaAvOpen
import Derived.Test.YtfgeoeipnidfhaaAvObj
import Derived.KernelRfl
import Derived.Test.YtfgeoeipnidfhaaProg
set_option linter.unusedVariables false
namespace Go.Av
open Go.RowKit Go.Base Go.Proofs Go.ChangeShapes Go.WideShapes
structure T23 where
  X : Int
  Y : Int
instance : Inhabited T23 := ⟨⟨0, 0⟩⟩
noncomputable def e23 (x : T23) : D := .agg [(.int .i64 x.X), (.int .i64 x.Y)]
structure T30 where
  East : Int
  North : Int
instance : Inhabited T30 := ⟨⟨0, 0⟩⟩
noncomputable def e30 (x : T30) : D := .agg [(.int .i64 x.East), (.int .i64 x.North)]
structure T27 where
  Corner : T23
  Cell : Int
  NX : Int
  NY : Int
  Alts : List Int
  Winds : List T30
  Devs : List Int
  Err : Int
instance : Inhabited T27 := ⟨⟨default, 0, 0, 0, [], [], [], 0⟩⟩
noncomputable def e27 (x : T27) : D := .agg [(.int .i64 x.Corner.X), (.int .i64 x.Corner.Y), (.int .i64 x.Cell), (.int .i64 x.NX), (.int .i64 x.NY), (eSl 1 (D.int .i64) x.Alts), (eSl 2 e30 x.Winds), (eSl 1 (D.int .i64) x.Devs), (.int .i64 x.Err)]
structure T36 where
  Lo : Int
  Hi : Int
instance : Inhabited T36 := ⟨⟨0, 0⟩⟩
noncomputable def e36 (x : T36) : D := .agg [(.int .i64 x.Lo), (.int .i64 x.Hi)]
structure T38 where
  A : T23
  B : T23
  Alts : T36
instance : Inhabited T38 := ⟨⟨default, default, default⟩⟩
noncomputable def e38 (x : T38) : D := .agg [(.int .i64 x.A.X), (.int .i64 x.A.Y), (.int .i64 x.B.X), (.int .i64 x.B.Y), (.int .i64 x.Alts.Lo), (.int .i64 x.Alts.Hi)]
structure T46 where
  P : T23
  Alt : Int
  Miss : T30
instance : Inhabited T46 := ⟨⟨default, 0, default⟩⟩
noncomputable def e46 (x : T46) : D := .agg [(.int .i64 x.P.X), (.int .i64 x.P.Y), (.int .i64 x.Alt), (.int .i64 x.Miss.East), (.int .i64 x.Miss.North)]
structure T39 where
  Lo : Int
  Hi : Int
instance : Inhabited T39 := ⟨⟨0, 0⟩⟩
noncomputable def e39 (x : T39) : D := .agg [(.int .i64 x.Lo), (.int .i64 x.Hi)]
structure T41 where
  East : T39
  North : T39
instance : Inhabited T41 := ⟨⟨default, default⟩⟩
noncomputable def e41 (x : T41) : D := .agg [(.int .i64 x.East.Lo), (.int .i64 x.East.Hi), (.int .i64 x.North.Lo), (.int .i64 x.North.Hi)]
structure T51 where
  e0 : T46
  e1 : T46
instance : Inhabited T51 := ⟨⟨default, default⟩⟩
noncomputable def e51 (x : T51) : D := .agg [(.int .i64 x.e0.P.X), (.int .i64 x.e0.P.Y), (.int .i64 x.e0.Alt), (.int .i64 x.e0.Miss.East), (.int .i64 x.e0.Miss.North), (.int .i64 x.e1.P.X), (.int .i64 x.e1.P.Y), (.int .i64 x.e1.Alt), (.int .i64 x.e1.Miss.East), (.int .i64 x.e1.Miss.North)]
noncomputable def g23 (x : T23) : List AV := [(.d (.int .i64 x.X)), (.d (.int .i64 x.Y))]
noncomputable def g30 (x : T30) : List AV := [(.d (.int .i64 x.East)), (.d (.int .i64 x.North))]
noncomputable def g27 (x : T27) : List AV := [(.d (.int .i64 x.Corner.X)), (.d (.int .i64 x.Corner.Y)), (.d (.int .i64 x.Cell)), (.d (.int .i64 x.NX)), (.d (.int .i64 x.NY)), (.d (eSl 1 (D.int .i64) x.Alts)), (.d (eSl 2 e30 x.Winds)), (.d (eSl 1 (D.int .i64) x.Devs)), (.d (.int .i64 x.Err))]
noncomputable def g36 (x : T36) : List AV := [(.d (.int .i64 x.Lo)), (.d (.int .i64 x.Hi))]
noncomputable def g38 (x : T38) : List AV := [(.d (.int .i64 x.A.X)), (.d (.int .i64 x.A.Y)), (.d (.int .i64 x.B.X)), (.d (.int .i64 x.B.Y)), (.d (.int .i64 x.Alts.Lo)), (.d (.int .i64 x.Alts.Hi))]
noncomputable def g46 (x : T46) : List AV := [(.d (.int .i64 x.P.X)), (.d (.int .i64 x.P.Y)), (.d (.int .i64 x.Alt)), (.d (.int .i64 x.Miss.East)), (.d (.int .i64 x.Miss.North))]
noncomputable def g39 (x : T39) : List AV := [(.d (.int .i64 x.Lo)), (.d (.int .i64 x.Hi))]
noncomputable def g41 (x : T41) : List AV := [(.d (.int .i64 x.East.Lo)), (.d (.int .i64 x.East.Hi)), (.d (.int .i64 x.North.Lo)), (.d (.int .i64 x.North.Hi))]
noncomputable def g51 (x : T51) : List AV := [(.d (.int .i64 x.e0.P.X)), (.d (.int .i64 x.e0.P.Y)), (.d (.int .i64 x.e0.Alt)), (.d (.int .i64 x.e0.Miss.East)), (.d (.int .i64 x.e0.Miss.North)), (.d (.int .i64 x.e1.P.X)), (.d (.int .i64 x.e1.P.Y)), (.d (.int .i64 x.e1.Alt)), (.d (.int .i64 x.e1.Miss.East)), (.d (.int .i64 x.e1.Miss.North))]
def ok23 (x : T23) : Prop := (Lit.int .i64 x.X).wf = true ∧ (Lit.int .i64 x.Y).wf = true
theorem cells23 : Try.prog.cellsOf 23 = 2 := by kernel_rfl
set_option maxRecDepth 100000 in
theorem op23 {W : World} {spare : Nat → Bool} : Opens Try.prog W spare 23 (fun x => [(.int .i64 x.X), (.int .i64 x.Y)]) ok23 := fun H enc fuel cs x h => by
  obtain ⟨xs, n, _, _, hl, hx, hf⟩ := DataW.trod_struct Try.underlying23 h
  rw [cells23] at hl
  have hx : xs.length = 2 := hx
  match cs, hl with
  | [c0, c1], _ =>
    have g0 := hf 0 _ rfl
    rw [List.getElem?_eq_getElem (by omega)] at g0
    obtain ⟨z0, g0⟩ : ∃ z, DataW.trod enc Try.prog W 0 spare true n 2 [c0] = some z := by
      have e : Try.prog.cellsOf 2 = 1 := by kernel_rfl
      exact ⟨_, by simpa [e] using g0⟩
    obtain ⟨a0, r0, k0⟩ := (opens_int Try.underlying2) H enc n _ _ g0
    have g1 := hf 1 _ rfl
    rw [List.getElem?_eq_getElem (by omega)] at g1
    obtain ⟨z1, g1⟩ : ∃ z, DataW.trod enc Try.prog W 0 spare true n 2 [c1] = some z := by
      have e : Try.prog.cellsOf 2 = 1 := by kernel_rfl
      exact ⟨_, by simpa [e] using g1⟩
    obtain ⟨a1, r1, k1⟩ := (opens_int Try.underlying2) H enc n _ _ g1
    exact ⟨⟨a0, a1⟩, repL_app r0 (r1), ⟨k0, k1⟩⟩
def ok30 (x : T30) : Prop := (Lit.int .i64 x.East).wf = true ∧ (Lit.int .i64 x.North).wf = true
theorem cells30 : Try.prog.cellsOf 30 = 2 := by kernel_rfl
set_option maxRecDepth 100000 in
theorem op30 {W : World} {spare : Nat → Bool} : Opens Try.prog W spare 30 (fun x => [(.int .i64 x.East), (.int .i64 x.North)]) ok30 := fun H enc fuel cs x h => by
  obtain ⟨xs, n, _, _, hl, hx, hf⟩ := DataW.trod_struct Try.underlying30 h
  rw [cells30] at hl
  have hx : xs.length = 2 := hx
  match cs, hl with
  | [c0, c1], _ =>
    have g0 := hf 0 _ rfl
    rw [List.getElem?_eq_getElem (by omega)] at g0
    obtain ⟨z0, g0⟩ : ∃ z, DataW.trod enc Try.prog W 0 spare true n 2 [c0] = some z := by
      have e : Try.prog.cellsOf 2 = 1 := by kernel_rfl
      exact ⟨_, by simpa [e] using g0⟩
    obtain ⟨a0, r0, k0⟩ := (opens_int Try.underlying2) H enc n _ _ g0
    have g1 := hf 1 _ rfl
    rw [List.getElem?_eq_getElem (by omega)] at g1
    obtain ⟨z1, g1⟩ : ∃ z, DataW.trod enc Try.prog W 0 spare true n 2 [c1] = some z := by
      have e : Try.prog.cellsOf 2 = 1 := by kernel_rfl
      exact ⟨_, by simpa [e] using g1⟩
    obtain ⟨a1, r1, k1⟩ := (opens_int Try.underlying2) H enc n _ _ g1
    exact ⟨⟨a0, a1⟩, repL_app r0 (r1), ⟨k0, k1⟩⟩
def ok27 (x : T27) : Prop := ok23 x.Corner ∧ (Lit.int .i64 x.Cell).wf = true ∧ (Lit.int .i64 x.NX).wf = true ∧ (Lit.int .i64 x.NY).wf = true ∧ (x.Alts.length ≤ maxLen ∧ ∀ b ∈ x.Alts, (Lit.int .i64 b).wf = true) ∧ (x.Winds.length ≤ maxLen ∧ ∀ b ∈ x.Winds, ok30 b) ∧ (x.Devs.length ≤ maxLen ∧ ∀ b ∈ x.Devs, (Lit.int .i64 b).wf = true) ∧ (Lit.int .i64 x.Err).wf = true
theorem cells27 : Try.prog.cellsOf 27 = 9 := by kernel_rfl
set_option maxRecDepth 100000 in
theorem op27 {W : World} {spare : Nat → Bool} : Opens Try.prog W spare 27 (fun x => [(.int .i64 x.Corner.X), (.int .i64 x.Corner.Y), (.int .i64 x.Cell), (.int .i64 x.NX), (.int .i64 x.NY), (eSl 1 (D.int .i64) x.Alts), (eSl 2 e30 x.Winds), (eSl 1 (D.int .i64) x.Devs), (.int .i64 x.Err)]) ok27 := fun H enc fuel cs x h => by
  obtain ⟨xs, n, _, _, hl, hx, hf⟩ := DataW.trod_struct Try.underlying27 h
  rw [cells27] at hl
  have hx : xs.length = 8 := hx
  match cs, hl with
  | [c0, c1, c2, c3, c4, c5, c6, c7, c8], _ =>
    have g0 := hf 0 _ rfl
    rw [List.getElem?_eq_getElem (by omega)] at g0
    obtain ⟨z0, g0⟩ : ∃ z, DataW.trod enc Try.prog W 0 spare true n 23 [c0, c1] = some z := by
      have e : Try.prog.cellsOf 23 = 2 := by kernel_rfl
      exact ⟨_, by simpa [e] using g0⟩
    obtain ⟨a0, r0, k0⟩ := op23 H enc n _ _ g0
    have g1 := hf 1 _ rfl
    rw [List.getElem?_eq_getElem (by omega)] at g1
    obtain ⟨z1, g1⟩ : ∃ z, DataW.trod enc Try.prog W 0 spare true n 2 [c2] = some z := by
      have e : Try.prog.cellsOf 2 = 1 := by kernel_rfl
      exact ⟨_, by simpa [e] using g1⟩
    obtain ⟨a1, r1, k1⟩ := (opens_int Try.underlying2) H enc n _ _ g1
    have g2 := hf 2 _ rfl
    rw [List.getElem?_eq_getElem (by omega)] at g2
    obtain ⟨z2, g2⟩ : ∃ z, DataW.trod enc Try.prog W 0 spare true n 3 [c3] = some z := by
      have e : Try.prog.cellsOf 3 = 1 := by kernel_rfl
      exact ⟨_, by simpa [e] using g2⟩
    obtain ⟨a2, r2, k2⟩ := (opens_int Try.underlying3) H enc n _ _ g2
    have g3 := hf 3 _ rfl
    rw [List.getElem?_eq_getElem (by omega)] at g3
    obtain ⟨z3, g3⟩ : ∃ z, DataW.trod enc Try.prog W 0 spare true n 3 [c4] = some z := by
      have e : Try.prog.cellsOf 3 = 1 := by kernel_rfl
      exact ⟨_, by simpa [e] using g3⟩
    obtain ⟨a3, r3, k3⟩ := (opens_int Try.underlying3) H enc n _ _ g3
    have g4 := hf 4 _ rfl
    rw [List.getElem?_eq_getElem (by omega)] at g4
    obtain ⟨z4, g4⟩ : ∃ z, DataW.trod enc Try.prog W 0 spare true n 24 [c5] = some z := by
      have e : Try.prog.cellsOf 24 = 1 := by kernel_rfl
      exact ⟨_, by simpa [e] using g4⟩
    obtain ⟨a4, r4, k4⟩ := (opens_slice (sz := 1) (e := fun a => [(.int .i64 a)]) (en := (D.int .i64)) (ok := fun a => (Lit.int .i64 a).wf = true) Try.underlying24 (by kernel_rfl) (by decide) (opens_int Try.underlying2) (fun _ => rfl) (fun _ => rfl) (fun _ => .inr ⟨rfl, rfl⟩)) H enc n _ _ g4
    have g5 := hf 5 _ rfl
    rw [List.getElem?_eq_getElem (by omega)] at g5
    obtain ⟨z5, g5⟩ : ∃ z, DataW.trod enc Try.prog W 0 spare true n 25 [c6] = some z := by
      have e : Try.prog.cellsOf 25 = 1 := by kernel_rfl
      exact ⟨_, by simpa [e] using g5⟩
    obtain ⟨a5, r5, k5⟩ := (opens_slice (sz := 2) (e := fun a => [(.int .i64 a.East), (.int .i64 a.North)]) (en := e30) (ok := fun a => ok30 a) Try.underlying25 (by kernel_rfl) (by decide) op30 (fun _ => rfl) (fun _ => rfl) (fun _ => .inl rfl)) H enc n _ _ g5
    have g6 := hf 6 _ rfl
    rw [List.getElem?_eq_getElem (by omega)] at g6
    obtain ⟨z6, g6⟩ : ∃ z, DataW.trod enc Try.prog W 0 spare true n 24 [c7] = some z := by
      have e : Try.prog.cellsOf 24 = 1 := by kernel_rfl
      exact ⟨_, by simpa [e] using g6⟩
    obtain ⟨a6, r6, k6⟩ := (opens_slice (sz := 1) (e := fun a => [(.int .i64 a)]) (en := (D.int .i64)) (ok := fun a => (Lit.int .i64 a).wf = true) Try.underlying24 (by kernel_rfl) (by decide) (opens_int Try.underlying2) (fun _ => rfl) (fun _ => rfl) (fun _ => .inr ⟨rfl, rfl⟩)) H enc n _ _ g6
    have g7 := hf 7 _ rfl
    rw [List.getElem?_eq_getElem (by omega)] at g7
    obtain ⟨z7, g7⟩ : ∃ z, DataW.trod enc Try.prog W 0 spare true n 2 [c8] = some z := by
      have e : Try.prog.cellsOf 2 = 1 := by kernel_rfl
      exact ⟨_, by simpa [e] using g7⟩
    obtain ⟨a7, r7, k7⟩ := (opens_int Try.underlying2) H enc n _ _ g7
    exact ⟨⟨a0, a1, a2, a3, a4, a5, a6, a7⟩, repL_app r0 (repL_app r1 (repL_app r2 (repL_app r3 (repL_app r4 (repL_app r5 (repL_app r6 (r7))))))), ⟨k0, k1, k2, k3, k4, k5, k6, k7⟩⟩
def ok36 (x : T36) : Prop := (Lit.int .i64 x.Lo).wf = true ∧ (Lit.int .i64 x.Hi).wf = true
theorem cells36 : Try.prog.cellsOf 36 = 2 := by kernel_rfl
set_option maxRecDepth 100000 in
theorem op36 {W : World} {spare : Nat → Bool} : Opens Try.prog W spare 36 (fun x => [(.int .i64 x.Lo), (.int .i64 x.Hi)]) ok36 := fun H enc fuel cs x h => by
  obtain ⟨xs, n, _, _, hl, hx, hf⟩ := DataW.trod_struct Try.underlying36 h
  rw [cells36] at hl
  have hx : xs.length = 2 := hx
  match cs, hl with
  | [c0, c1], _ =>
    have g0 := hf 0 _ rfl
    rw [List.getElem?_eq_getElem (by omega)] at g0
    obtain ⟨z0, g0⟩ : ∃ z, DataW.trod enc Try.prog W 0 spare true n 2 [c0] = some z := by
      have e : Try.prog.cellsOf 2 = 1 := by kernel_rfl
      exact ⟨_, by simpa [e] using g0⟩
    obtain ⟨a0, r0, k0⟩ := (opens_int Try.underlying2) H enc n _ _ g0
    have g1 := hf 1 _ rfl
    rw [List.getElem?_eq_getElem (by omega)] at g1
    obtain ⟨z1, g1⟩ : ∃ z, DataW.trod enc Try.prog W 0 spare true n 2 [c1] = some z := by
      have e : Try.prog.cellsOf 2 = 1 := by kernel_rfl
      exact ⟨_, by simpa [e] using g1⟩
    obtain ⟨a1, r1, k1⟩ := (opens_int Try.underlying2) H enc n _ _ g1
    exact ⟨⟨a0, a1⟩, repL_app r0 (r1), ⟨k0, k1⟩⟩
def ok38 (x : T38) : Prop := ok23 x.A ∧ ok23 x.B ∧ ok36 x.Alts
theorem cells38 : Try.prog.cellsOf 38 = 6 := by kernel_rfl
set_option maxRecDepth 100000 in
theorem op38 {W : World} {spare : Nat → Bool} : Opens Try.prog W spare 38 (fun x => [(.int .i64 x.A.X), (.int .i64 x.A.Y), (.int .i64 x.B.X), (.int .i64 x.B.Y), (.int .i64 x.Alts.Lo), (.int .i64 x.Alts.Hi)]) ok38 := fun H enc fuel cs x h => by
  obtain ⟨xs, n, _, _, hl, hx, hf⟩ := DataW.trod_struct Try.underlying38 h
  rw [cells38] at hl
  have hx : xs.length = 3 := hx
  match cs, hl with
  | [c0, c1, c2, c3, c4, c5], _ =>
    have g0 := hf 0 _ rfl
    rw [List.getElem?_eq_getElem (by omega)] at g0
    obtain ⟨z0, g0⟩ : ∃ z, DataW.trod enc Try.prog W 0 spare true n 23 [c0, c1] = some z := by
      have e : Try.prog.cellsOf 23 = 2 := by kernel_rfl
      exact ⟨_, by simpa [e] using g0⟩
    obtain ⟨a0, r0, k0⟩ := op23 H enc n _ _ g0
    have g1 := hf 1 _ rfl
    rw [List.getElem?_eq_getElem (by omega)] at g1
    obtain ⟨z1, g1⟩ : ∃ z, DataW.trod enc Try.prog W 0 spare true n 23 [c2, c3] = some z := by
      have e : Try.prog.cellsOf 23 = 2 := by kernel_rfl
      exact ⟨_, by simpa [e] using g1⟩
    obtain ⟨a1, r1, k1⟩ := op23 H enc n _ _ g1
    have g2 := hf 2 _ rfl
    rw [List.getElem?_eq_getElem (by omega)] at g2
    obtain ⟨z2, g2⟩ : ∃ z, DataW.trod enc Try.prog W 0 spare true n 36 [c4, c5] = some z := by
      have e : Try.prog.cellsOf 36 = 2 := by kernel_rfl
      exact ⟨_, by simpa [e] using g2⟩
    obtain ⟨a2, r2, k2⟩ := op36 H enc n _ _ g2
    exact ⟨⟨a0, a1, a2⟩, repL_app r0 (repL_app r1 (r2)), ⟨k0, k1, k2⟩⟩
def ok46 (x : T46) : Prop := ok23 x.P ∧ (Lit.int .i64 x.Alt).wf = true ∧ ok30 x.Miss
theorem cells46 : Try.prog.cellsOf 46 = 5 := by kernel_rfl
set_option maxRecDepth 100000 in
theorem op46 {W : World} {spare : Nat → Bool} : Opens Try.prog W spare 46 (fun x => [(.int .i64 x.P.X), (.int .i64 x.P.Y), (.int .i64 x.Alt), (.int .i64 x.Miss.East), (.int .i64 x.Miss.North)]) ok46 := fun H enc fuel cs x h => by
  obtain ⟨xs, n, _, _, hl, hx, hf⟩ := DataW.trod_struct Try.underlying46 h
  rw [cells46] at hl
  have hx : xs.length = 3 := hx
  match cs, hl with
  | [c0, c1, c2, c3, c4], _ =>
    have g0 := hf 0 _ rfl
    rw [List.getElem?_eq_getElem (by omega)] at g0
    obtain ⟨z0, g0⟩ : ∃ z, DataW.trod enc Try.prog W 0 spare true n 23 [c0, c1] = some z := by
      have e : Try.prog.cellsOf 23 = 2 := by kernel_rfl
      exact ⟨_, by simpa [e] using g0⟩
    obtain ⟨a0, r0, k0⟩ := op23 H enc n _ _ g0
    have g1 := hf 1 _ rfl
    rw [List.getElem?_eq_getElem (by omega)] at g1
    obtain ⟨z1, g1⟩ : ∃ z, DataW.trod enc Try.prog W 0 spare true n 2 [c2] = some z := by
      have e : Try.prog.cellsOf 2 = 1 := by kernel_rfl
      exact ⟨_, by simpa [e] using g1⟩
    obtain ⟨a1, r1, k1⟩ := (opens_int Try.underlying2) H enc n _ _ g1
    have g2 := hf 2 _ rfl
    rw [List.getElem?_eq_getElem (by omega)] at g2
    obtain ⟨z2, g2⟩ : ∃ z, DataW.trod enc Try.prog W 0 spare true n 30 [c3, c4] = some z := by
      have e : Try.prog.cellsOf 30 = 2 := by kernel_rfl
      exact ⟨_, by simpa [e] using g2⟩
    obtain ⟨a2, r2, k2⟩ := op30 H enc n _ _ g2
    exact ⟨⟨a0, a1, a2⟩, repL_app r0 (repL_app r1 (r2)), ⟨k0, k1, k2⟩⟩
def ok39 (x : T39) : Prop := (Lit.int .i64 x.Lo).wf = true ∧ (Lit.int .i64 x.Hi).wf = true
theorem cells39 : Try.prog.cellsOf 39 = 2 := by kernel_rfl
set_option maxRecDepth 100000 in
theorem op39 {W : World} {spare : Nat → Bool} : Opens Try.prog W spare 39 (fun x => [(.int .i64 x.Lo), (.int .i64 x.Hi)]) ok39 := fun H enc fuel cs x h => by
  obtain ⟨xs, n, _, _, hl, hx, hf⟩ := DataW.trod_struct Try.underlying39 h
  rw [cells39] at hl
  have hx : xs.length = 2 := hx
  match cs, hl with
  | [c0, c1], _ =>
    have g0 := hf 0 _ rfl
    rw [List.getElem?_eq_getElem (by omega)] at g0
    obtain ⟨z0, g0⟩ : ∃ z, DataW.trod enc Try.prog W 0 spare true n 2 [c0] = some z := by
      have e : Try.prog.cellsOf 2 = 1 := by kernel_rfl
      exact ⟨_, by simpa [e] using g0⟩
    obtain ⟨a0, r0, k0⟩ := (opens_int Try.underlying2) H enc n _ _ g0
    have g1 := hf 1 _ rfl
    rw [List.getElem?_eq_getElem (by omega)] at g1
    obtain ⟨z1, g1⟩ : ∃ z, DataW.trod enc Try.prog W 0 spare true n 2 [c1] = some z := by
      have e : Try.prog.cellsOf 2 = 1 := by kernel_rfl
      exact ⟨_, by simpa [e] using g1⟩
    obtain ⟨a1, r1, k1⟩ := (opens_int Try.underlying2) H enc n _ _ g1
    exact ⟨⟨a0, a1⟩, repL_app r0 (r1), ⟨k0, k1⟩⟩
def ok41 (x : T41) : Prop := ok39 x.East ∧ ok39 x.North
theorem cells41 : Try.prog.cellsOf 41 = 4 := by kernel_rfl
set_option maxRecDepth 100000 in
theorem op41 {W : World} {spare : Nat → Bool} : Opens Try.prog W spare 41 (fun x => [(.int .i64 x.East.Lo), (.int .i64 x.East.Hi), (.int .i64 x.North.Lo), (.int .i64 x.North.Hi)]) ok41 := fun H enc fuel cs x h => by
  obtain ⟨xs, n, _, _, hl, hx, hf⟩ := DataW.trod_struct Try.underlying41 h
  rw [cells41] at hl
  have hx : xs.length = 2 := hx
  match cs, hl with
  | [c0, c1, c2, c3], _ =>
    have g0 := hf 0 _ rfl
    rw [List.getElem?_eq_getElem (by omega)] at g0
    obtain ⟨z0, g0⟩ : ∃ z, DataW.trod enc Try.prog W 0 spare true n 39 [c0, c1] = some z := by
      have e : Try.prog.cellsOf 39 = 2 := by kernel_rfl
      exact ⟨_, by simpa [e] using g0⟩
    obtain ⟨a0, r0, k0⟩ := op39 H enc n _ _ g0
    have g1 := hf 1 _ rfl
    rw [List.getElem?_eq_getElem (by omega)] at g1
    obtain ⟨z1, g1⟩ : ∃ z, DataW.trod enc Try.prog W 0 spare true n 39 [c2, c3] = some z := by
      have e : Try.prog.cellsOf 39 = 2 := by kernel_rfl
      exact ⟨_, by simpa [e] using g1⟩
    obtain ⟨a1, r1, k1⟩ := op39 H enc n _ _ g1
    exact ⟨⟨a0, a1⟩, repL_app r0 (r1), ⟨k0, k1⟩⟩
def ok51 (x : T51) : Prop := ok46 x.e0 ∧ ok46 x.e1
theorem cells51 : Try.prog.cellsOf 51 = 10 := by kernel_rfl
set_option maxRecDepth 100000 in
theorem op51 {W : World} {spare : Nat → Bool} : Opens Try.prog W spare 51 (fun x => [(.int .i64 x.e0.P.X), (.int .i64 x.e0.P.Y), (.int .i64 x.e0.Alt), (.int .i64 x.e0.Miss.East), (.int .i64 x.e0.Miss.North), (.int .i64 x.e1.P.X), (.int .i64 x.e1.P.Y), (.int .i64 x.e1.Alt), (.int .i64 x.e1.Miss.East), (.int .i64 x.e1.Miss.North)]) ok51 := fun H enc fuel cs x h => by
  obtain ⟨xs, n, _, _, hl, hx, hf⟩ := DataW.trod_array Try.underlying51 h
  rw [cells51] at hl
  match cs, hl with
  | [c0, c1, c2, c3, c4, c5, c6, c7, c8, c9], _ =>
    have g0 := hf 0 (by decide)
    rw [List.getElem?_eq_getElem (by omega)] at g0
    obtain ⟨z0, g0⟩ : ∃ z, DataW.trod enc Try.prog W 0 spare true n 46 [c0, c1, c2, c3, c4] = some z := by
      have e : Try.prog.cellsOf 46 = 5 := by kernel_rfl
      exact ⟨_, by simpa [e] using g0⟩
    obtain ⟨a0, r0, k0⟩ := op46 H enc n _ _ g0
    have g1 := hf 1 (by decide)
    rw [List.getElem?_eq_getElem (by omega)] at g1
    obtain ⟨z1, g1⟩ : ∃ z, DataW.trod enc Try.prog W 0 spare true n 46 [c5, c6, c7, c8, c9] = some z := by
      have e : Try.prog.cellsOf 46 = 5 := by kernel_rfl
      exact ⟨_, by simpa [e] using g1⟩
    obtain ⟨a1, r1, k1⟩ := op46 H enc n _ _ g1
    exact ⟨⟨a0, a1⟩, repL_app r0 (r1), ⟨k0, k1⟩⟩
end Go.Av
