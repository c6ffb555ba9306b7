/- Plain laws: loops of models. -/
import Derived.Test.YtlpdcjbkbcmahaaGreatDoorAvPlain
set_option linter.unusedVariables false
set_option linter.unusedSimpArgs false
namespace Go.Av
/-- What f answers first, below n. -/
def firstR {Y : Type} (f : Nat → Option Y) (n : Nat) : Option Y := (List.range n).findSome? f
theorem firstR_succ {Y : Type} {f : Nat → Option Y} {n : Nat} : firstR f (n + 1) = match firstR f n with | some y => some y | none => f n := by
  unfold firstR
  rw [List.range_succ, List.findSome?_append]
  cases (List.range n).findSome? f with
  | some y => rfl
  | none => simp
theorem firstR_none {Y : Type} {f : Nat → Option Y} {n : Nat} : firstR f n = none ↔ ∀ i, i < n → f i = none := by
  unfold firstR
  rw [List.findSome?_eq_none_iff]
  exact ⟨fun h i hi => h i (List.mem_range.2 hi), fun h i hi => h i (List.mem_range.1 hi)⟩
theorem firstR_some {Y : Type} {f : Nat → Option Y} {n : Nat} {y : Y} (h : firstR f n = some y) : ∃ i, i < n ∧ f i = some y := by
  unfold firstR at h
  obtain ⟨i, hi, h⟩ := List.exists_of_findSome?_eq_some h
  exact ⟨i, List.mem_range.1 hi, h⟩
theorem firstR_congr {Y : Type} {f g : Nat → Option Y} {n : Nat} (h : ∀ i, i < n → f i = g i) : firstR f n = firstR g n := by
  induction n with
  | zero => rfl
  | succ n ih => rw [firstR_succ, firstR_succ, ih fun i hi => h i (by omega), h n (by omega)]
theorem firstR_at {Y : Type} {f : Nat → Option Y} {n i : Nat} {y : Y} (hi : i < n) (h0 : ∀ j, j < i → f j = none) (h : f i = some y) : firstR f n = some y := by
  induction n with
  | zero => omega
  | succ n ih =>
    rw [firstR_succ]
    by_cases hn : i < n
    · rw [ih hn]
    · obtain rfl : i = n := by omega
      rw [firstR_none.2 h0, h]
/-- Some i below n meets F. -/
def anyR (F : Nat → Bool) (n : Nat) : Bool := (List.range n).any F
theorem anyR_iff {F : Nat → Bool} {n : Nat} : anyR F n = true ↔ ∃ i, i < n ∧ F i = true := by
  simp only [anyR, List.any_eq_true, List.mem_range]
theorem anyR_false {F : Nat → Bool} {n : Nat} : anyR F n = false ↔ ∀ i, i < n → F i = false := by
  rw [← Bool.not_eq_true, anyR_iff]
  exact ⟨fun h i hi => by cases hf : F i with | false => rfl | true => exact absurd ⟨i, hi, hf⟩ h, fun h ⟨i, hi, hf⟩ => by rw [h i hi] at hf; cases hf⟩
theorem anyR_congr {F G : Nat → Bool} {n : Nat} (h : ∀ i, i < n → F i = G i) : anyR F n = anyR G n := by
  rw [Bool.eq_iff_iff, anyR_iff, anyR_iff]
  exact ⟨fun ⟨i, hi, hf⟩ => ⟨i, hi, by rw [← h i hi]; exact hf⟩, fun ⟨i, hi, hf⟩ => ⟨i, hi, by rw [h i hi]; exact hf⟩⟩
theorem firstR_any {Y : Type} {F : Nat → Bool} {g : Nat → Y} {n : Nat} : (firstR (fun i => if F i = true then some (g i) else none) n).isSome = anyR F n := by
  rw [Bool.eq_iff_iff, anyR_iff, Option.isSome_iff_ne_none, ne_eq, firstR_none]
  constructor
  · intro h
    apply Classical.byContradiction
    intro hn
    exact h fun i hi => by
      rw [if_neg]
      exact fun hf => hn ⟨i, hi, hf⟩
  · rintro ⟨i, hi, hf⟩ h
    have := h i hi
    rw [if_pos hf] at this; cases this
theorem firstR_const {Y : Type} {F : Nat → Bool} {y : Y} {n : Nat} : firstR (fun i => if F i = true then some y else none) n = if anyR F n = true then some y else none := by
  rw [← firstR_any (g := fun _ => y)]
  cases h : firstR (fun i => if F i = true then some y else none) n with
  | none => rfl
  | some z =>
    obtain ⟨i, _, h⟩ := firstR_some h
    split at h
    · injection h with h; subst h; rfl
    · cases h
/-- The first i below n that meets F, or -1. -/
def findR (F : Nat → Bool) (n : Nat) : Int := (firstR (fun i => if F i = true then some (i : Int) else none) n).getD (-1)
theorem findR_any {F : Nat → Bool} {n : Nat} : decide (0 ≤ findR F n) = anyR F n := by
  rw [← firstR_any (g := fun i => (i : Int))]
  unfold findR
  cases h : firstR (fun i => if F i = true then some (i : Int) else none) n with
  | none => rfl
  | some y =>
    obtain ⟨i, _, h⟩ := firstR_some h
    split at h
    · injection h with h; subst h; simp
    · cases h
/-- The first of two answers. -/
def orK {R : Type} (o k : Option R) : Option R := match o with
  | some y => some y
  | none => k
theorem orK_some {R : Type} {y : R} {k : Option R} : orK (some y) k = some y := rfl
theorem orK_none {R : Type} {k : Option R} : orK none k = k := rfl
theorem orK_ite {R : Type} {p : Prop} [Decidable p] {a b k : Option R} : orK (if p then a else b) k = if p then orK a k else orK b k := by split <;> rfl
theorem orK_assoc {R : Type} {a b c : Option R} : orK (orK a b) c = orK a (orK b c) := by cases a <;> rfl
theorem orK_bind {R S : Type} {a b : Option R} {f : R → Option S} : (orK a b).bind f = match a with | some y => f y | none => b.bind f := by cases a <;> rfl
theorem orK_getD {R : Type} {a : Option R} {d : R} : orK a (some d) = some (a.getD d) := by cases a <;> rfl
theorem orK_total {R : Type} {o k : Option R} (h : ∃ y, k = some y) : ∃ y, orK o k = some y := by
  cases o with
  | some y => exact ⟨y, rfl⟩
  | none => exact h
theorem ite_total {R : Type} {p : Prop} [Decidable p] {y : R} {k : Option R} (h : ∃ y, k = some y) : ∃ z, (if p then some y else k) = some z := by
  split
  · exact ⟨y, rfl⟩
  · exact h
/-- One round of a loop that leaves with an answer. -/
def exB {S R : Type} (o : Option R) (s : S) : Option (S ⊕ (Unit ⊕ R)) := match o with
  | some y => some (.inr (.inr y))
  | none => some (.inl s)
theorem exB_some {S R : Type} {y : R} {s : S} : exB (some y) s = some (.inr (.inr y)) := rfl
theorem exB_none {S R : Type} {s : S} : exB (none : Option R) s = some (.inl s) := rfl
theorem exB_ite {S R : Type} {p : Prop} [Decidable p] {a b : Option R} {s : S} : exB (if p then a else b) s = if p then exB a s else exB b s := by split <;> rfl
theorem some_ite {α : Type} {p : Prop} [Decidable p] {a b : α} : some (if p then a else b) = if p then some a else some b := by split <;> rfl
theorem loop_ex_from {R : Type} {b : Int → Option (Int ⊕ (Unit ⊕ R))} (n : Nat) (f : Nat → Option R) (hb : ∀ i : Nat, i < n → b i = exB (f i) ((i : Int) + 1)) (hd : b n = some (.inr (.inl ()))) :
    ∀ (k i0 : Nat), i0 + k = n → (∀ i, i < i0 → f i = none) → loopO b i0 = match firstR f n with | some y => some (.inr y) | none => some (.inl ())
  | 0, i0, hk, h0 => by
    obtain rfl : i0 = n := by omega
    rw [loopO_eq, hd, firstR_none.2 h0]; rfl
  | k + 1, i0, hk, h0 => by
    rw [loopO_eq, hb i0 (by omega)]
    cases hf : f i0 with
    | some y => rw [firstR_at (by omega) h0 hf]; rfl
    | none =>
      have := loop_ex_from n f hb hd k (i0 + 1) (by omega) (fun i hi => by
        by_cases h : i < i0
        · exact h0 i h
        · obtain rfl : i = i0 := by omega
          exact hf)
      rw [exB_none]
      simpa using this
/-- A loop over numbers that may leave with an answer. -/
theorem loop_ex {R : Type} {b : Int → Option (Int ⊕ (Unit ⊕ R))} {k : Unit → Option R} (n : Nat) (f : Nat → Option R) (hb : ∀ i : Nat, i < n → b i = exB (f i) ((i : Int) + 1)) (hd : b n = some (.inr (.inl ()))) :
    (loopO b 0).bind (onS k) = orK (firstR f n) (k ()) := by
  have := loop_ex_from n f hb hd n 0 (by omega) (fun i hi => by omega)
  rw [show ((0 : Nat) : Int) = 0 from rfl] at this
  rw [this]
  cases firstR f n <;> rfl
/-- The same, not followed by anything. -/
theorem loop_ex0 {R : Type} {b : Int → Option (Int ⊕ (Unit ⊕ R))} (n : Nat) (f : Nat → Option R) (hb : ∀ i : Nat, i < n → b i = exB (f i) ((i : Int) + 1)) (hd : b n = some (.inr (.inl ()))) :
    loopO b 0 = match firstR f n with | some y => some (.inr y) | none => some (.inl ()) := loop_ex_from n f hb hd n 0 (by omega) (fun i hi => by omega)
theorem loop_or {R : Type} {b : Int → Option (Int ⊕ (Unit ⊕ R))} {k : Unit → Option R} (n : Nat) (f : Nat → Option R) (hb : ∀ i : Nat, i < n → b i = exB (f i) ((i : Int) + 1)) (hd : b n = some (.inr (.inl ()))) {z : Option R} (hk : k () = z) :
    (loopO b 0).bind (onS k) = orK (firstR f n) z := by rw [loop_ex n f hb hd, hk]
theorem loop_pass {R : Type} {b : Int → Option (Int ⊕ (Unit ⊕ R))} {k : Unit → Option R} (n : Nat) (hb : ∀ i : Nat, i < n → b i = some (.inl ((i : Int) + 1))) (hd : b n = some (.inr (.inl ()))) {z : Option R} (hk : k () = z) :
    (loopO b 0).bind (onS k) = z := by
  rw [loop_or n (fun _ => none) hb hd hk, firstR_none.2 fun _ _ => rfl]; rfl
theorem ite_else {α : Type} {p : Prop} [Decidable p] {a b b' : α} (h : b = b') : (if p then a else b) = if p then a else b' := by rw [h]
theorem bind_to {α β : Type} {m : Option α} {x : α} {f : α → Option β} {z : Option β} (h : m = some x) (hf : f x = z) : m.bind f = z := by rw [h]; exact hf
theorem bind_eq {α β : Type} {m m' : Option α} {f : α → Option β} {z : Option β} (h : m = m') (h2 : m'.bind f = z) : m.bind f = z := by rw [h]; exact h2
theorem on_l {Y R : Type} {m : Option (Y ⊕ R)} {y : Y} {f : Y → Option R} {z : Option R} (h : m = some (.inl y)) (hf : f y = z) : m.bind (onS f) = z := by rw [h]; exact hf
/-- A loop that steps a state. -/
theorem loop_fold {S St X : Type} {b : St → Option (St ⊕ X)} (n : Nat) (mk : Nat → S → St) (g : Nat → S → S) (P : Nat → S → Prop) (out : S → X) (s0 : S) (h0 : P 0 s0)
    (hs : ∀ i s, i < n → P i s → b (mk i s) = some (.inl (mk (i + 1) (g i s))) ∧ P (i + 1) (g i s)) (he : ∀ s, P n s → b (mk n s) = some (.inr (out s))) :
    loopO b (mk 0 s0) = some (out ((List.range n).foldl (fun s i => g i s) s0)) ∧ P n ((List.range n).foldl (fun s i => g i s) s0) := by
  have key : ∀ k i s, i + k = n → P i s → loopO b (mk i s) = some (out ((List.range' i k).foldl (fun s i => g i s) s)) ∧ P n ((List.range' i k).foldl (fun s i => g i s) s) := by
    intro k
    induction k with
    | zero =>
      intro i s hk hp
      obtain rfl : i = n := by omega
      refine ⟨?_, hp⟩
      rw [loopO_eq, he s hp]; rfl
    | succ k ih =>
      intro i s hk hp
      obtain ⟨h1, h2⟩ := hs i s (by omega) hp
      rw [loopO_eq, h1, List.range'_succ]
      exact ih (i + 1) (g i s) (by omega) h2
  rw [List.range_eq_range']
  exact key n 0 s0 (by omega) h0
theorem flatMap_app {A : Type} (g : Nat → List A) (n : Nat) : (List.range (n + 1)).flatMap g = (List.range n).flatMap g ++ g n := by rw [List.range_succ, List.flatMap_append]; simp
/-- A loop that collects. -/
theorem loop_coll {A St X : Type} {b : St → Option (St ⊕ X)} (n : Nat) (mk : Nat → List A → St) (g : Nat → List A) (out : List A → X)
    (hs : ∀ i, i < n → b (mk i ((List.range i).flatMap g)) = some (.inl (mk (i + 1) ((List.range i).flatMap g ++ g i)))) (he : b (mk n ((List.range n).flatMap g)) = some (.inr (out ((List.range n).flatMap g)))) :
    loopO b (mk 0 []) = some (out ((List.range n).flatMap g)) := by
  have key : ∀ k i, i + k = n → loopO b (mk i ((List.range i).flatMap g)) = some (out ((List.range n).flatMap g)) := by
    intro k
    induction k with
    | zero =>
      intro i hk
      obtain rfl : i = n := by omega
      rw [loopO_eq, he]; rfl
    | succ k ih =>
      intro i hk
      rw [loopO_eq, hs i (by omega), ← flatMap_app]
      exact ih (i + 1) (by omega)
  exact key n 0 (by omega)
theorem flatMap_len {A : Type} {g : Nat → List A} {m : Nat} (h : ∀ i, (g i).length ≤ m) : ∀ n, ((List.range n).flatMap g).length ≤ n * m
  | 0 => by simp
  | n + 1 => by
    have := flatMap_len h n
    have := h n
    rw [flatMap_app, List.length_append, Nat.succ_mul]; omega
theorem wr1 {i n : Nat} (h : i < n) (hn : n ≤ 4611686018427387904) : IntKind.wrap .i64 ((i : Int) + 1) = (i : Int) + 1 := w64 (by omega) (by omega)
theorem u16_bounds {v : Int} (h : (Lit.int .u16 v).wf = true) : 0 ≤ v ∧ v < 65536 := by
  simp only [Lit.wf, Bool.and_eq_true, decide_eq_true_eq] at h
  have h1 : IntKind.u16.min = 0 := by decide
  have h2 : IntKind.u16.max = 65535 := by decide
  omega
theorem i64_bounds {v : Int} (h : (Lit.int .i64 v).wf = true) : -9223372036854775808 ≤ v ∧ v ≤ 9223372036854775807 := by
  simp only [Lit.wf, Bool.and_eq_true, decide_eq_true_eq] at h
  have h1 : IntKind.i64.min = -9223372036854775808 := by decide
  have h2 : IntKind.i64.max = 9223372036854775807 := by decide
  omega
theorem lt_irr {n : Nat} : ¬ ((n : Int) < (n : Int)) := Int.lt_irrefl _
theorem subL_getD {α : Type} [Inhabited α] {l : List α} {k j : Nat} (h : j < k) : (subL l 0 k).getD j default = l.getD j default := by
  simp [subL, List.getD_eq_getElem?_getD, List.getElem?_range h]
/-- What the walk of a loop over the elements of a list knows. -/
theorem inL {i : Nat} {n : Nat} (h : i < n) : ((0 : Int) ≤ (i : Int)) = True ∧ ((i : Int) < (n : Int)) = True ∧ (decide ((i : Int) < (n : Int)) = true) = True := by
  refine ⟨eq_true (by omega), eq_true (by omega), eq_true (by simpa using h)⟩
end Go.Av
