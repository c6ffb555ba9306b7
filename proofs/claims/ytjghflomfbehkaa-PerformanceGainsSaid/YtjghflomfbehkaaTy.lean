/- Printed by ext.py. -/
import Derived.Test.YtjghflomfbehkaaAvOpen
import Derived.KernelRfl
import Derived.Test.YtjghflomfbehkaaProg
set_option linter.unusedVariables false
namespace Go.Av
open Go.RowKit Go.Base Go.Proofs Go.ChangeShapes Go.WideShapes
structure T25 where
  Name : List UInt8
  Empty : Int
  MaxFuel : Int
  Alts : List Int
  Masses : List Int
  Climb : List (List Int)
  ClimbFlow : List (List Int)
  Cruise : List (List Int)
  Descent : List Int
  Idle : List Int
  MaxSpeed : List Int
  MinSpeed : List Int
  Ref : Int
  Extra : Int
  Ceiling : Int
instance : Inhabited T25 := ⟨⟨[], 0, 0, [], [], [], [], [], [], [], [], [], 0, 0, 0⟩⟩
noncomputable def e25 (x : T25) : D := .agg [(.str x.Name), (.int .i64 x.Empty), (.int .i64 x.MaxFuel), (eSl 1 (D.int .i64) x.Alts), (eSl 1 (D.int .i64) x.Masses), (eSl 1 (eSl 1 (D.int .i64)) x.Climb), (eSl 1 (eSl 1 (D.int .i64)) x.ClimbFlow), (eSl 1 (eSl 1 (D.int .i64)) x.Cruise), (eSl 1 (D.int .i64) x.Descent), (eSl 1 (D.int .i64) x.Idle), (eSl 1 (D.int .i64) x.MaxSpeed), (eSl 1 (D.int .i64) x.MinSpeed), (.int .i64 x.Ref), (.int .i64 x.Extra), (.int .i64 x.Ceiling)]
structure T31 where
  Alt : Int
  Mass : Int
  N : Int
instance : Inhabited T31 := ⟨⟨0, 0, 0⟩⟩
noncomputable def e31 (x : T31) : D := .agg [(.int .i64 x.Alt), (.int .i64 x.Mass), (.int .i64 x.N)]
structure T32 where
  e0 : T31
  e1 : T31
instance : Inhabited T32 := ⟨⟨default, default⟩⟩
noncomputable def e32 (x : T32) : D := .agg [(.int .i64 x.e0.Alt), (.int .i64 x.e0.Mass), (.int .i64 x.e0.N), (.int .i64 x.e1.Alt), (.int .i64 x.e1.Mass), (.int .i64 x.e1.N)]
noncomputable def g25 (x : T25) : List AV := [(.d (.str x.Name)), (.d (.int .i64 x.Empty)), (.d (.int .i64 x.MaxFuel)), (.d (eSl 1 (D.int .i64) x.Alts)), (.d (eSl 1 (D.int .i64) x.Masses)), (.d (eSl 1 (eSl 1 (D.int .i64)) x.Climb)), (.d (eSl 1 (eSl 1 (D.int .i64)) x.ClimbFlow)), (.d (eSl 1 (eSl 1 (D.int .i64)) x.Cruise)), (.d (eSl 1 (D.int .i64) x.Descent)), (.d (eSl 1 (D.int .i64) x.Idle)), (.d (eSl 1 (D.int .i64) x.MaxSpeed)), (.d (eSl 1 (D.int .i64) x.MinSpeed)), (.d (.int .i64 x.Ref)), (.d (.int .i64 x.Extra)), (.d (.int .i64 x.Ceiling))]
noncomputable def g31 (x : T31) : List AV := [(.d (.int .i64 x.Alt)), (.d (.int .i64 x.Mass)), (.d (.int .i64 x.N))]
noncomputable def g32 (x : T32) : List AV := [(.d (.int .i64 x.e0.Alt)), (.d (.int .i64 x.e0.Mass)), (.d (.int .i64 x.e0.N)), (.d (.int .i64 x.e1.Alt)), (.d (.int .i64 x.e1.Mass)), (.d (.int .i64 x.e1.N))]
def ok25 (x : T25) : Prop := x.Name.length ≤ maxLen ∧ (Lit.int .i64 x.Empty).wf = true ∧ (Lit.int .i64 x.MaxFuel).wf = true ∧ (x.Alts.length ≤ maxLen ∧ ∀ b ∈ x.Alts, (Lit.int .i64 b).wf = true) ∧ (x.Masses.length ≤ maxLen ∧ ∀ b ∈ x.Masses, (Lit.int .i64 b).wf = true) ∧ (x.Climb.length ≤ maxLen ∧ ∀ b ∈ x.Climb, (b.length ≤ maxLen ∧ ∀ c ∈ b, (Lit.int .i64 c).wf = true)) ∧ (x.ClimbFlow.length ≤ maxLen ∧ ∀ b ∈ x.ClimbFlow, (b.length ≤ maxLen ∧ ∀ c ∈ b, (Lit.int .i64 c).wf = true)) ∧ (x.Cruise.length ≤ maxLen ∧ ∀ b ∈ x.Cruise, (b.length ≤ maxLen ∧ ∀ c ∈ b, (Lit.int .i64 c).wf = true)) ∧ (x.Descent.length ≤ maxLen ∧ ∀ b ∈ x.Descent, (Lit.int .i64 b).wf = true) ∧ (x.Idle.length ≤ maxLen ∧ ∀ b ∈ x.Idle, (Lit.int .i64 b).wf = true) ∧ (x.MaxSpeed.length ≤ maxLen ∧ ∀ b ∈ x.MaxSpeed, (Lit.int .i64 b).wf = true) ∧ (x.MinSpeed.length ≤ maxLen ∧ ∀ b ∈ x.MinSpeed, (Lit.int .i64 b).wf = true) ∧ (Lit.int .i64 x.Ref).wf = true ∧ (Lit.int .i64 x.Extra).wf = true ∧ (Lit.int .i64 x.Ceiling).wf = true
theorem cells25 : Try.prog.cellsOf 25 = 15 := by kernel_rfl
theorem op25 {W : World} {spare : Nat → Bool} : Opens Try.prog W spare 25 (fun x => [(.str x.Name), (.int .i64 x.Empty), (.int .i64 x.MaxFuel), (eSl 1 (D.int .i64) x.Alts), (eSl 1 (D.int .i64) x.Masses), (eSl 1 (eSl 1 (D.int .i64)) x.Climb), (eSl 1 (eSl 1 (D.int .i64)) x.ClimbFlow), (eSl 1 (eSl 1 (D.int .i64)) x.Cruise), (eSl 1 (D.int .i64) x.Descent), (eSl 1 (D.int .i64) x.Idle), (eSl 1 (D.int .i64) x.MaxSpeed), (eSl 1 (D.int .i64) x.MinSpeed), (.int .i64 x.Ref), (.int .i64 x.Extra), (.int .i64 x.Ceiling)]) ok25 := fun H enc fuel cs x h => by
  obtain ⟨xs, n, _, _, hl, hx, hf⟩ := DataW.trod_struct Try.underlying25 h
  rw [cells25] at hl
  have hx : xs.length = 15 := hx
  match cs, hl with
  | [c0, c1, c2, c3, c4, c5, c6, c7, c8, c9, c10, c11, c12, c13, c14], _ =>
    have g0 := hf 0 _ rfl
    rw [List.getElem?_eq_getElem (by omega)] at g0
    obtain ⟨z0, g0⟩ : ∃ z, DataW.trod enc Try.prog W 0 spare true n 9 [c0] = some z := by
      have e : Try.prog.cellsOf 9 = 1 := by kernel_rfl
      exact ⟨_, by simpa [e] using g0⟩
    obtain ⟨a0, r0, k0⟩ := (opens_string Try.underlying9) H enc n _ _ g0
    have g1 := hf 1 _ rfl
    rw [List.getElem?_eq_getElem (by omega)] at g1
    obtain ⟨z1, g1⟩ : ∃ z, DataW.trod enc Try.prog W 0 spare true n 2 [c1] = some z := by
      have e : Try.prog.cellsOf 2 = 1 := by kernel_rfl
      exact ⟨_, by simpa [e] using g1⟩
    obtain ⟨a1, r1, k1⟩ := (opens_int Try.underlying2) H enc n _ _ g1
    have g2 := hf 2 _ rfl
    rw [List.getElem?_eq_getElem (by omega)] at g2
    obtain ⟨z2, g2⟩ : ∃ z, DataW.trod enc Try.prog W 0 spare true n 2 [c2] = some z := by
      have e : Try.prog.cellsOf 2 = 1 := by kernel_rfl
      exact ⟨_, by simpa [e] using g2⟩
    obtain ⟨a2, r2, k2⟩ := (opens_int Try.underlying2) H enc n _ _ g2
    have g3 := hf 3 _ rfl
    rw [List.getElem?_eq_getElem (by omega)] at g3
    obtain ⟨z3, g3⟩ : ∃ z, DataW.trod enc Try.prog W 0 spare true n 22 [c3] = some z := by
      have e : Try.prog.cellsOf 22 = 1 := by kernel_rfl
      exact ⟨_, by simpa [e] using g3⟩
    obtain ⟨a3, r3, k3⟩ := (opens_slice (e := fun a => [(.int .i64 a)]) (en := (D.int .i64)) (ok := fun a => (Lit.int .i64 a).wf = true) Try.underlying22 (by kernel_rfl) (by decide) (opens_int Try.underlying2) (fun _ => rfl) (fun _ => rfl) (fun _ => .inr ⟨rfl, rfl⟩)) H enc n _ _ g3
    have g4 := hf 4 _ rfl
    rw [List.getElem?_eq_getElem (by omega)] at g4
    obtain ⟨z4, g4⟩ : ∃ z, DataW.trod enc Try.prog W 0 spare true n 22 [c4] = some z := by
      have e : Try.prog.cellsOf 22 = 1 := by kernel_rfl
      exact ⟨_, by simpa [e] using g4⟩
    obtain ⟨a4, r4, k4⟩ := (opens_slice (e := fun a => [(.int .i64 a)]) (en := (D.int .i64)) (ok := fun a => (Lit.int .i64 a).wf = true) Try.underlying22 (by kernel_rfl) (by decide) (opens_int Try.underlying2) (fun _ => rfl) (fun _ => rfl) (fun _ => .inr ⟨rfl, rfl⟩)) H enc n _ _ g4
    have g5 := hf 5 _ rfl
    rw [List.getElem?_eq_getElem (by omega)] at g5
    obtain ⟨z5, g5⟩ : ∃ z, DataW.trod enc Try.prog W 0 spare true n 23 [c5] = some z := by
      have e : Try.prog.cellsOf 23 = 1 := by kernel_rfl
      exact ⟨_, by simpa [e] using g5⟩
    obtain ⟨a5, r5, k5⟩ := (opens_slice (e := fun a => [(eSl 1 (D.int .i64) a)]) (en := (eSl 1 (D.int .i64))) (ok := fun a => (a.length ≤ maxLen ∧ ∀ b ∈ a, (Lit.int .i64 b).wf = true)) Try.underlying23 (by kernel_rfl) (by decide) (opens_slice (e := fun a => [(.int .i64 a)]) (en := (D.int .i64)) (ok := fun a => (Lit.int .i64 a).wf = true) Try.underlying22 (by kernel_rfl) (by decide) (opens_int Try.underlying2) (fun _ => rfl) (fun _ => rfl) (fun _ => .inr ⟨rfl, rfl⟩)) (fun _ => rfl) (fun _ => rfl) (fun _ => .inr ⟨rfl, rfl⟩)) H enc n _ _ g5
    have g6 := hf 6 _ rfl
    rw [List.getElem?_eq_getElem (by omega)] at g6
    obtain ⟨z6, g6⟩ : ∃ z, DataW.trod enc Try.prog W 0 spare true n 23 [c6] = some z := by
      have e : Try.prog.cellsOf 23 = 1 := by kernel_rfl
      exact ⟨_, by simpa [e] using g6⟩
    obtain ⟨a6, r6, k6⟩ := (opens_slice (e := fun a => [(eSl 1 (D.int .i64) a)]) (en := (eSl 1 (D.int .i64))) (ok := fun a => (a.length ≤ maxLen ∧ ∀ b ∈ a, (Lit.int .i64 b).wf = true)) Try.underlying23 (by kernel_rfl) (by decide) (opens_slice (e := fun a => [(.int .i64 a)]) (en := (D.int .i64)) (ok := fun a => (Lit.int .i64 a).wf = true) Try.underlying22 (by kernel_rfl) (by decide) (opens_int Try.underlying2) (fun _ => rfl) (fun _ => rfl) (fun _ => .inr ⟨rfl, rfl⟩)) (fun _ => rfl) (fun _ => rfl) (fun _ => .inr ⟨rfl, rfl⟩)) H enc n _ _ g6
    have g7 := hf 7 _ rfl
    rw [List.getElem?_eq_getElem (by omega)] at g7
    obtain ⟨z7, g7⟩ : ∃ z, DataW.trod enc Try.prog W 0 spare true n 23 [c7] = some z := by
      have e : Try.prog.cellsOf 23 = 1 := by kernel_rfl
      exact ⟨_, by simpa [e] using g7⟩
    obtain ⟨a7, r7, k7⟩ := (opens_slice (e := fun a => [(eSl 1 (D.int .i64) a)]) (en := (eSl 1 (D.int .i64))) (ok := fun a => (a.length ≤ maxLen ∧ ∀ b ∈ a, (Lit.int .i64 b).wf = true)) Try.underlying23 (by kernel_rfl) (by decide) (opens_slice (e := fun a => [(.int .i64 a)]) (en := (D.int .i64)) (ok := fun a => (Lit.int .i64 a).wf = true) Try.underlying22 (by kernel_rfl) (by decide) (opens_int Try.underlying2) (fun _ => rfl) (fun _ => rfl) (fun _ => .inr ⟨rfl, rfl⟩)) (fun _ => rfl) (fun _ => rfl) (fun _ => .inr ⟨rfl, rfl⟩)) H enc n _ _ g7
    have g8 := hf 8 _ rfl
    rw [List.getElem?_eq_getElem (by omega)] at g8
    obtain ⟨z8, g8⟩ : ∃ z, DataW.trod enc Try.prog W 0 spare true n 22 [c8] = some z := by
      have e : Try.prog.cellsOf 22 = 1 := by kernel_rfl
      exact ⟨_, by simpa [e] using g8⟩
    obtain ⟨a8, r8, k8⟩ := (opens_slice (e := fun a => [(.int .i64 a)]) (en := (D.int .i64)) (ok := fun a => (Lit.int .i64 a).wf = true) Try.underlying22 (by kernel_rfl) (by decide) (opens_int Try.underlying2) (fun _ => rfl) (fun _ => rfl) (fun _ => .inr ⟨rfl, rfl⟩)) H enc n _ _ g8
    have g9 := hf 9 _ rfl
    rw [List.getElem?_eq_getElem (by omega)] at g9
    obtain ⟨z9, g9⟩ : ∃ z, DataW.trod enc Try.prog W 0 spare true n 22 [c9] = some z := by
      have e : Try.prog.cellsOf 22 = 1 := by kernel_rfl
      exact ⟨_, by simpa [e] using g9⟩
    obtain ⟨a9, r9, k9⟩ := (opens_slice (e := fun a => [(.int .i64 a)]) (en := (D.int .i64)) (ok := fun a => (Lit.int .i64 a).wf = true) Try.underlying22 (by kernel_rfl) (by decide) (opens_int Try.underlying2) (fun _ => rfl) (fun _ => rfl) (fun _ => .inr ⟨rfl, rfl⟩)) H enc n _ _ g9
    have g10 := hf 10 _ rfl
    rw [List.getElem?_eq_getElem (by omega)] at g10
    obtain ⟨z10, g10⟩ : ∃ z, DataW.trod enc Try.prog W 0 spare true n 22 [c10] = some z := by
      have e : Try.prog.cellsOf 22 = 1 := by kernel_rfl
      exact ⟨_, by simpa [e] using g10⟩
    obtain ⟨a10, r10, k10⟩ := (opens_slice (e := fun a => [(.int .i64 a)]) (en := (D.int .i64)) (ok := fun a => (Lit.int .i64 a).wf = true) Try.underlying22 (by kernel_rfl) (by decide) (opens_int Try.underlying2) (fun _ => rfl) (fun _ => rfl) (fun _ => .inr ⟨rfl, rfl⟩)) H enc n _ _ g10
    have g11 := hf 11 _ rfl
    rw [List.getElem?_eq_getElem (by omega)] at g11
    obtain ⟨z11, g11⟩ : ∃ z, DataW.trod enc Try.prog W 0 spare true n 22 [c11] = some z := by
      have e : Try.prog.cellsOf 22 = 1 := by kernel_rfl
      exact ⟨_, by simpa [e] using g11⟩
    obtain ⟨a11, r11, k11⟩ := (opens_slice (e := fun a => [(.int .i64 a)]) (en := (D.int .i64)) (ok := fun a => (Lit.int .i64 a).wf = true) Try.underlying22 (by kernel_rfl) (by decide) (opens_int Try.underlying2) (fun _ => rfl) (fun _ => rfl) (fun _ => .inr ⟨rfl, rfl⟩)) H enc n _ _ g11
    have g12 := hf 12 _ rfl
    rw [List.getElem?_eq_getElem (by omega)] at g12
    obtain ⟨z12, g12⟩ : ∃ z, DataW.trod enc Try.prog W 0 spare true n 2 [c12] = some z := by
      have e : Try.prog.cellsOf 2 = 1 := by kernel_rfl
      exact ⟨_, by simpa [e] using g12⟩
    obtain ⟨a12, r12, k12⟩ := (opens_int Try.underlying2) H enc n _ _ g12
    have g13 := hf 13 _ rfl
    rw [List.getElem?_eq_getElem (by omega)] at g13
    obtain ⟨z13, g13⟩ : ∃ z, DataW.trod enc Try.prog W 0 spare true n 2 [c13] = some z := by
      have e : Try.prog.cellsOf 2 = 1 := by kernel_rfl
      exact ⟨_, by simpa [e] using g13⟩
    obtain ⟨a13, r13, k13⟩ := (opens_int Try.underlying2) H enc n _ _ g13
    have g14 := hf 14 _ rfl
    rw [List.getElem?_eq_getElem (by omega)] at g14
    obtain ⟨z14, g14⟩ : ∃ z, DataW.trod enc Try.prog W 0 spare true n 2 [c14] = some z := by
      have e : Try.prog.cellsOf 2 = 1 := by kernel_rfl
      exact ⟨_, by simpa [e] using g14⟩
    obtain ⟨a14, r14, k14⟩ := (opens_int Try.underlying2) H enc n _ _ g14
    exact ⟨⟨a0, a1, a2, a3, a4, a5, a6, a7, a8, a9, a10, a11, a12, a13, a14⟩, repL_app r0 (repL_app r1 (repL_app r2 (repL_app r3 (repL_app r4 (repL_app r5 (repL_app r6 (repL_app r7 (repL_app r8 (repL_app r9 (repL_app r10 (repL_app r11 (repL_app r12 (repL_app r13 (r14)))))))))))))), ⟨k0, k1, k2, k3, k4, k5, k6, k7, k8, k9, k10, k11, k12, k13, k14⟩⟩
def ok31 (x : T31) : Prop := (Lit.int .i64 x.Alt).wf = true ∧ (Lit.int .i64 x.Mass).wf = true ∧ (Lit.int .i64 x.N).wf = true
theorem cells31 : Try.prog.cellsOf 31 = 3 := by kernel_rfl
theorem op31 {W : World} {spare : Nat → Bool} : Opens Try.prog W spare 31 (fun x => [(.int .i64 x.Alt), (.int .i64 x.Mass), (.int .i64 x.N)]) ok31 := fun H enc fuel cs x h => by
  obtain ⟨xs, n, _, _, hl, hx, hf⟩ := DataW.trod_struct Try.underlying31 h
  rw [cells31] at hl
  have hx : xs.length = 3 := hx
  match cs, hl with
  | [c0, c1, c2], _ =>
    have g0 := hf 0 _ rfl
    rw [List.getElem?_eq_getElem (by omega)] at g0
    obtain ⟨z0, g0⟩ : ∃ z, DataW.trod enc Try.prog W 0 spare true n 2 [c0] = some z := by
      have e : Try.prog.cellsOf 2 = 1 := by kernel_rfl
      exact ⟨_, by simpa [e] using g0⟩
    obtain ⟨a0, r0, k0⟩ := (opens_int Try.underlying2) H enc n _ _ g0
    have g1 := hf 1 _ rfl
    rw [List.getElem?_eq_getElem (by omega)] at g1
    obtain ⟨z1, g1⟩ : ∃ z, DataW.trod enc Try.prog W 0 spare true n 2 [c1] = some z := by
      have e : Try.prog.cellsOf 2 = 1 := by kernel_rfl
      exact ⟨_, by simpa [e] using g1⟩
    obtain ⟨a1, r1, k1⟩ := (opens_int Try.underlying2) H enc n _ _ g1
    have g2 := hf 2 _ rfl
    rw [List.getElem?_eq_getElem (by omega)] at g2
    obtain ⟨z2, g2⟩ : ∃ z, DataW.trod enc Try.prog W 0 spare true n 2 [c2] = some z := by
      have e : Try.prog.cellsOf 2 = 1 := by kernel_rfl
      exact ⟨_, by simpa [e] using g2⟩
    obtain ⟨a2, r2, k2⟩ := (opens_int Try.underlying2) H enc n _ _ g2
    exact ⟨⟨a0, a1, a2⟩, repL_app r0 (repL_app r1 (r2)), ⟨k0, k1, k2⟩⟩
def ok32 (x : T32) : Prop := ok31 x.e0 ∧ ok31 x.e1
theorem cells32 : Try.prog.cellsOf 32 = 6 := by kernel_rfl
theorem op32 {W : World} {spare : Nat → Bool} : Opens Try.prog W spare 32 (fun x => [(.int .i64 x.e0.Alt), (.int .i64 x.e0.Mass), (.int .i64 x.e0.N), (.int .i64 x.e1.Alt), (.int .i64 x.e1.Mass), (.int .i64 x.e1.N)]) ok32 := fun H enc fuel cs x h => by
  obtain ⟨xs, n, _, _, hl, hx, hf⟩ := DataW.trod_array Try.underlying32 h
  rw [cells32] at hl
  match cs, hl with
  | [c0, c1, c2, c3, c4, c5], _ =>
    have g0 := hf 0 (by decide)
    rw [List.getElem?_eq_getElem (by omega)] at g0
    obtain ⟨z0, g0⟩ : ∃ z, DataW.trod enc Try.prog W 0 spare true n 31 [c0, c1, c2] = some z := by
      have e : Try.prog.cellsOf 31 = 3 := by kernel_rfl
      exact ⟨_, by simpa [e] using g0⟩
    obtain ⟨a0, r0, k0⟩ := op31 H enc n _ _ g0
    have g1 := hf 1 (by decide)
    rw [List.getElem?_eq_getElem (by omega)] at g1
    obtain ⟨z1, g1⟩ : ∃ z, DataW.trod enc Try.prog W 0 spare true n 31 [c3, c4, c5] = some z := by
      have e : Try.prog.cellsOf 31 = 3 := by kernel_rfl
      exact ⟨_, by simpa [e] using g1⟩
    obtain ⟨a1, r1, k1⟩ := op31 H enc n _ _ g1
    exact ⟨⟨a0, a1⟩, repL_app r0 (r1), ⟨k0, k1⟩⟩
end Go.Av
