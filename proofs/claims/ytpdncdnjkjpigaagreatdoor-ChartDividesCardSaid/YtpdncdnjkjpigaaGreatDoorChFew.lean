/- Plain laws of chart: a copy of a chart within limits. -/
import Derived.Test.YtpdncdnjkjpigaaGreatDoorChB
set_option linter.unusedVariables false
set_option linter.unusedSimpArgs false
set_option maxRecDepth 100000
namespace Go.Av.Ch
theorem minQ0 (k : Int) (hk : 0 ≤ k) (L : Nat) : (0 : Int) ≤ (if k < (L : Int) then k else (L : Int)) := by split <;> omega
theorem minQ1 (k : Int) (L : Nat) : (if k < (L : Int) then k else (L : Int)) ≤ (L : Int) := by split <;> omega
theorem minQ2 (k : Int) (hk : k ≤ 1000) (L : Nat) : (0 + (if k < (L : Int) then k else (L : Int)).toNat) * 16 ≤ 140737488355328 := by split <;> omega
/-- At most the first k of a list. -/
def cutL {A : Type} [Inhabited A] (k : Int) (l : List A) : List A := [] ++ subL l 0 (if k < (l.length : Int) then k else (l.length : Int)).toNat
theorem cutL_len {A : Type} [Inhabited A] (k : Nat) (l : List A) : (cutL (k : Int) l).length = min k l.length := by
  rw [cutL, List.nil_append, subL_len]; split <;> omega
theorem cutL_mem {A : Type} [Inhabited A] (k : Nat) (l : List A) : ∀ x ∈ cutL (k : Int) l, x ∈ l := fun x hx => by
  rw [cutL, List.nil_append, subL_eq (by split <;> omega)] at hx
  exact List.mem_of_mem_drop (List.mem_of_mem_take hx)
theorem coll_map {A : Type} {h : Nat → A} {n : Nat} : ((List.range n).flatMap fun i => [h i]) = (List.range n).map h := (List.map_eq_flatMap ..).symm
theorem mem_coll {A : Type} {h : Nat → A} {n : Nat} {P : A → Prop} (hp : ∀ i, i < n → P (h i)) : ∀ x ∈ (List.range n).flatMap fun i => [h i], P x := fun x hx => by
  obtain ⟨i, h1, hi⟩ := List.mem_flatMap.1 hx
  simp only [List.mem_singleton] at hi
  rw [hi]; exact hp i (List.mem_range.1 h1)
theorem few_end {n k : Nat} {K : Int} (hK : K = (k : Int)) : ((decide (((min n k : Nat) : Int) < (n : Int))) && (decide (((min n k : Nat) : Int) < K))) = false := by
  rw [Bool.eq_false_iff]; simp only [ne_eq, Bool.and_eq_true, decide_eq_true_eq]; omega
theorem few_on {i n k : Nat} {K : Int} (hK : K = (k : Int)) (h : i < min n k) : ((decide ((i : Int) < (n : Int))) && (decide ((i : Int) < K))) = true := by
  simp only [Bool.and_eq_true, decide_eq_true_eq]; omega
def fewN (c : T27) (i : Nat) : List T81 := cutL 6 (c.Never.getD i default)
def fewT (c : T27) (i : Nat) : T69 := ⟨(c.States.getD i default).Name, (c.States.getD i default).Parent, (c.States.getD i default).Initial, (c.States.getD i default).History, cutL 9 (c.States.getD i default).Entry, cutL 9 (c.States.getD i default).Exit⟩
def fewR (c : T27) (i : Nat) : T40 := ⟨(c.Transitions.getD i default).From, (c.Transitions.getD i default).To, cutL 6 (c.Transitions.getD i default).When, cutL 9 (c.Transitions.getD i default).Actions⟩
def fewS (c : T27) : T27 := ⟨c.Name, cutL 6 c.Conds, (List.range (min c.Never.length 4)).flatMap (fun i => [fewN c i]), (List.range (min c.States.length 12)).flatMap (fun i => [fewT c i]), c.Start, (List.range (min c.Transitions.length 24)).flatMap (fun i => [fewR c i])⟩
theorem round_few {A : Type} {g : Nat → A} {i : Nat} {n k z : Nat} (hz : z ≤ 1000) (hk : k ≤ 1000) (h : i < min n k) : (((List.range i).flatMap fun i => [g i]).length + 1) * z ≤ 140737488355328 := by
  have hl := flatMap_len (g := fun i => [g i]) (m := 1) (fun i => by simp) i
  have : (((List.range i).flatMap fun i => [g i]).length + 1) * z ≤ 1001 * 1000 := Nat.mul_le_mul (by omega) hz
  omega
theorem Few_eq (c : T27) : m14 c = some (fewS c) := by
  delta m14 d14
  simp only [↓JD.sg_m, ↓JD.sq_m, ↓JD.sc_m, ↓JD.bk_m, ↓JD.lp_m, ↓JD.cd_m, ↓Tr.run, ↓Tr.run_nd, ↓Tr.run_c3, ↓Tr.run_c2, ↓Tr.run_nx, ↓onS, bind_ite, Option.bind_some, Option.bind_none, obR, minQ0 6 (by omega), minQ1, minQ2 6 (by omega), if_true]
  refine on_l (loop_coll (min c.Never.length 4) (fun i l => ((i : Int), l)) (fun i => [fewN c i]) Sum.inl (fun i hi => ?_) ?_) (on_l (loop_coll (min c.States.length 12) (fun i l => ((i : Int), l)) (fun i => [fewT c i]) Sum.inl (fun i hi => ?_) ?_) (on_l (loop_coll (min c.Transitions.length 24) (fun i l => ((i : Int), l)) (fun i => [fewR c i]) Sum.inl (fun i hi => ?_) ?_) rfl))
  · rw [if_pos (few_on (K := 4) rfl hi)]; simp only [round_few (show 24 ≤ 1000 by omega) (by omega) hi, minQ0 6 (by omega), minQ1, minQ2 6 (by omega), Int.toNat_natCast, inL (show i < c.Never.length by omega), if_true, wr1 hi (by omega)]; rfl
  · simp only [few_end (n := c.Never.length) (k := 4) (K := 4) rfl, Bool.false_eq_true, if_false]
  · rw [if_pos (few_on (K := 12) rfl hi)]; simp only [round_few (show 88 ≤ 1000 by omega) (by omega) hi, minQ0 9 (by omega), minQ1, minQ2 9 (by omega), Int.toNat_natCast, inL (show i < c.States.length by omega), if_true, wr1 hi (by omega)]; rfl
  · simp only [few_end (n := c.States.length) (k := 12) (K := 12) rfl, Bool.false_eq_true, if_false]
  · rw [if_pos (few_on (K := 24) rfl hi)]; simp only [round_few (show 64 ≤ 1000 by omega) (by omega) hi, minQ0 6 (by omega), minQ0 9 (by omega), minQ1, minQ2 6 (by omega), minQ2 9 (by omega), Int.toNat_natCast, inL (show i < c.Transitions.length by omega), if_true, wr1 hi (by omega)]; rfl
  · simp only [few_end (n := c.Transitions.length) (k := 24) (K := 24) rfl, Bool.false_eq_true, if_false]
/-- A chart within small limits. -/
structure Small (c : T27) : Prop where
  conds : c.Conds.length ≤ 6
  never : c.Never.length ≤ 4
  lits : ∀ l ∈ c.Never, l.length ≤ 6
  states : c.States.length ≤ 12
  entry : ∀ s ∈ c.States, s.Entry.length ≤ 9
  exit_ : ∀ s ∈ c.States, s.Exit.length ≤ 9
  trans : c.Transitions.length ≤ 24
  when_ : ∀ t ∈ c.Transitions, t.When.length ≤ 6
  acts : ∀ t ∈ c.Transitions, t.Actions.length ≤ 9
theorem Small.fit {c : T27} (h : Small c) : Fit c :=
  ⟨Nat.le_trans h.conds (by omega), Nat.le_trans h.never (by omega), fun l hl => Nat.le_trans (h.lits l hl) (by omega), Nat.le_trans h.states (by omega), fun s hs => Nat.le_trans (h.entry s hs) (by omega), fun s hs => Nat.le_trans (h.exit_ s hs) (by omega), Nat.le_trans h.trans (by omega), fun t ht => Nat.le_trans (h.when_ t ht) (by omega), fun t ht => Nat.le_trans (h.acts t ht) (by omega)⟩
theorem cutL6 {A : Type} [Inhabited A] (l : List A) : (cutL 6 l).length ≤ 6 := by have := cutL_len 6 l; simp only [Int.cast_ofNat_Int] at this; omega
theorem cutL9 {A : Type} [Inhabited A] (l : List A) : (cutL 9 l).length ≤ 9 := by have := cutL_len 9 l; simp only [Int.cast_ofNat_Int] at this; omega
theorem few_small (c : T27) : Small (fewS c) :=
  ⟨cutL6 _, Nat.le_trans (flatMap_len (m := 1) (fun i => by simp) _) (by omega), mem_coll fun i _ => cutL6 _, Nat.le_trans (flatMap_len (m := 1) (fun i => by simp) _) (by omega), mem_coll fun i _ => cutL9 _, mem_coll fun i _ => cutL9 _,
   Nat.le_trans (flatMap_len (m := 1) (fun i => by simp) _) (by omega), mem_coll fun i _ => cutL6 _, mem_coll fun i _ => cutL9 _⟩
end Go.Av.Ch
