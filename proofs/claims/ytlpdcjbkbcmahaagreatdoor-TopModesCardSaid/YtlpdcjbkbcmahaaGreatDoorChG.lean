/- Plain laws of chart: entering and leaving states, in plain terms. -/
import Derived.Test.YtlpdcjbkbcmahaaGreatDoorChE
set_option linter.unusedSimpArgs false
set_option linter.unusedVariables false
set_option maxRecDepth 100000
namespace Go.Av.Ch
theorem isS_lt {c : T48} {x : Int} (h : isS c x = true) : ((0 : Int) ≤ x) = True ∧ (x < (c.States.length : Int)) = True ∧ x.toNat < c.States.length := by
  have := isS_iff.1 h
  exact ⟨eq_true this.1, eq_true this.2, by omega⟩
theorem child_is {c : T48} (G : Good c) {x y : Int} (h : childS c y x = true) : isS c y = true ∧ x < y := by
  unfold childS at h
  simp only [Bool.and_eq_true, beq_iff_eq] at h
  have := (G.parent y h.1).2
  exact ⟨h.1, by unfold stA at this; omega⟩
def nextS (c : T48) (m : List Int) (x : Int) : Int := if ((stA c x).History && (m.getD x.toNat default != (-1 : Int))) = true then m.getD x.toNat default else (stA c x).Initial
theorem nextS_child {c : T48} (G : Good c) {m : List Int} (M : MemOk c m) {x : Int} (hx : isS c x = true) (hc : comp c x = true) : childS c (nextS c m x) x = true := by
  unfold nextS
  split
  · rename_i h
    simp only [Bool.and_eq_true, bne_iff_ne, ne_eq] at h
    exact M.child hx h.2
  · exact G.init x hx hc
/-- Enters a state and the states in it. -/
def enterF (c : T48) : Nat → Int → List Int → List (List UInt8) → Int × List Int × List (List UInt8)
  | 0, x, m, a => (x, m, a)
  | n + 1, x, m, a => if comp c x = true then enterF c n (nextS c m x) (m.set x.toNat (-1)) (a ++ (stA c x).Entry) else (x, m, a ++ (stA c x).Entry)
theorem enterF_ok {c : T48} (G : Good c) : ∀ (n : Nat) (x : Int) (m : List Int) (a : List (List UInt8)), isS c x = true → MemOk c m → c.States.length ≤ n + x.toNat →
    isS c (enterF c n x m a).1 = true ∧ comp c (enterF c n x m a).1 = false ∧ MemOk c (enterF c n x m a).2.1 ∧ (enterF c n x m a).2.2.length ≤ a.length + 8 * n
  | 0, x, m, a, hx, M, hn => by have := (isS_lt hx).2.2; omega
  | n + 1, x, m, a, hx, M, hn => by
    have he := G.entry x hx
    unfold enterF
    cases hc : comp c x with
    | false => simp only [Bool.false_eq_true, if_false, List.length_append]; exact ⟨hx, hc, M, by omega⟩
    | true =>
      simp only [if_true]
      obtain ⟨h1, h2⟩ := child_is G (nextS_child G M hx hc)
      have h3 := isS_iff.1 hx
      obtain ⟨k1, k2, k3, k4⟩ := enterF_ok G n _ _ (a ++ (stA c x).Entry) h1 (M.set (.inl rfl) hx) (by omega)
      exact ⟨k1, k2, k3, by rw [List.length_append] at k4; omega⟩
theorem enter_loop {c : T48} (G : Good c) {b : Int × List Int × List (List UInt8) → Option ((Int × List Int × List (List UInt8)) ⊕ (Int × List Int × List (List UInt8)))}
    (hb : ∀ (x : Int) (m : List Int) (a : List (List UInt8)), isS c x = true → MemOk c m → a.length ≤ 100000 → b (x, m, a) = if comp c x = true then some (.inl (nextS c m x, m.set x.toNat (-1), a ++ (stA c x).Entry)) else some (.inr (x, m, a ++ (stA c x).Entry))) :
    ∀ (n : Nat) (x : Int) (m : List Int) (a : List (List UInt8)), isS c x = true → MemOk c m → c.States.length ≤ n + x.toNat → a.length + 8 * n ≤ 100000 → loopO b (x, m, a) = some (enterF c n x m a)
  | 0, x, m, a, hx, M, hn, hl => by have := (isS_lt hx).2.2; omega
  | n + 1, x, m, a, hx, M, hn, hl => by
    have he := G.entry x hx
    rw [loopO_eq, hb x m a hx M (by omega)]
    unfold enterF
    cases hc : comp c x with
    | false => rfl
    | true =>
      simp only [if_true, Option.bind_some]
      obtain ⟨h1, h2⟩ := child_is G (nextS_child G M hx hc)
      have h3 := isS_iff.1 hx
      exact enter_loop G hb n _ _ _ h1 (M.set (.inl rfl) hx) (by omega) (by rw [List.length_append]; omega)
theorem renter_loop {c : T48} (G : Good c) {b : List Int × Int × List (List UInt8) → Option ((List Int × Int × List (List UInt8)) ⊕ ((List Int × Int × List (List UInt8)) ⊕ (List (List UInt8) × Int × List Int × List (List UInt8))))}
    (hb : ∀ (x : Int) (m : List Int) (a : List (List UInt8)), isS c x = true → MemOk c m → a.length ≤ 100000 → b (m, x, a) = if comp c x = true then some (.inl (m.set x.toNat (-1), nextS c m x, a ++ (stA c (nextS c m x)).Entry)) else some (.inr (.inl (m, x, a)))) :
    ∀ (n : Nat) (x : Int) (m : List Int) (a : List (List UInt8)), isS c x = true → MemOk c m → c.States.length ≤ n + x.toNat → a.length + 8 * n ≤ 100000 → loopO b (m, x, a ++ (stA c x).Entry) = some (.inl ((enterF c n x m a).2.1, (enterF c n x m a).1, (enterF c n x m a).2.2))
  | 0, x, m, a, hx, M, hn, hl => by have := (isS_lt hx).2.2; omega
  | n + 1, x, m, a, hx, M, hn, hl => by
    have he := G.entry x hx
    rw [loopO_eq, hb x m _ hx M (by rw [List.length_append]; omega)]
    unfold enterF
    cases hc : comp c x with
    | false => rfl
    | true =>
      simp only [if_true, Option.bind_some]
      obtain ⟨h1, h2⟩ := child_is G (nextS_child G M hx hc)
      have h3 := isS_iff.1 hx
      exact renter_loop G hb n _ _ _ h1 (M.set (.inl rfl) hx) (by omega) (by rw [List.length_append]; omega)
def enterS (c : T48) (x : Int) (m : List Int) (a : List (List UInt8)) : Int × List Int × List (List UInt8) := enterF c c.States.length x m a
/-- Enters the states of a list, the last one first, without what is in them. -/
def aroundS (c : T48) (l : List Int) (m : List Int) (a : List (List UInt8)) : List Int × List (List UInt8) := l.foldr (fun x s => (s.1.set x.toNat (-1), s.2 ++ (stA c x).Entry)) (m, a)
theorem aroundS_ok {c : T48} (G : Good c) {m : List Int} {a : List (List UInt8)} (M : MemOk c m) : ∀ (l : List Int), (∀ x ∈ l, isS c x = true) → MemOk c (aroundS c l m a).1 ∧ (aroundS c l m a).2.length ≤ a.length + 8 * l.length
  | [], _ => ⟨M, Nat.le_refl _⟩
  | x :: l, h => by
    obtain ⟨h1, h2⟩ := aroundS_ok G (a := a) M l fun y hy => h y (List.mem_cons_of_mem _ hy)
    have hx := h x (by simp)
    have he := G.entry x hx
    refine ⟨h1.set (.inl rfl) hx, ?_⟩
    show ((aroundS c l m a).2 ++ (stA c x).Entry).length ≤ _
    rw [List.length_append, List.length_cons]; omega
/-- Leaves the states of a path up to s. -/
def leaveS (c : T48) (s : Int) : List Int → Int → List Int → List (List UInt8) → List Int × List (List UInt8)
  | [], _, m, a => (m, a)
  | x :: l, last, m, a => if (x == s) = true then (m, a) else leaveS c s l x (if ((stA c x).History && (last != (-1 : Int))) = true then m.set x.toNat last else m) (a ++ (stA c x).Exit)
theorem mem_leave {c : T48} {m : List Int} (M : MemOk c m) {x last : Int} (hx : isS c x = true) (hl : last = -1 ∨ childS c last x = true) : MemOk c (if ((stA c x).History && (last != (-1 : Int))) = true then m.set x.toNat last else m) := by
  split
  · rename_i h
    simp only [Bool.and_eq_true, bne_iff_ne, ne_eq] at h
    exact M.set (hl.imp (fun e => absurd e h.2) fun e => ⟨h.1, e⟩) hx
  · exact M
theorem parent_is {c : T48} (G : Good c) {x : Int} (hx : isS c x = true) (ht : topB c x = false) : isS c (stA c x).Parent = true ∧ (stA c x).Parent.toNat < x.toNat ∧ childS c x (stA c x).Parent = true := by
  have h1 := topB_false ht
  have h2 := isS_iff.1 hx
  refine ⟨isS_iff.2 ⟨h1.1, by show (c.States.getD x.toNat default).Parent < _; omega⟩, by show (c.States.getD x.toNat default).Parent.toNat < _; omega, ?_⟩
  unfold childS; rw [hx]; simp [stA]
theorem leaveS_ok {c : T48} (G : Good c) {s : Int} : ∀ (n : Nat) (x last : Int) (m : List Int) (a : List (List UInt8)), x.toNat ≤ n → isS c x = true → MemOk c m → (last = -1 ∨ childS c last x = true) →
    MemOk c (leaveS c s (pathS c x) last m a).1 ∧ (leaveS c s (pathS c x) last m a).2.length ≤ a.length + 8 * (n + 1) := by
  intro n
  induction n with
  | zero =>
    intro x last m a hn hx M hl
    have he := G.exit_ x hx
    rw [pathS_step hx]
    unfold leaveS
    split
    · exact ⟨M, by show a.length ≤ _; omega⟩
    · cases ht : topB c x with
      | false => have := (parent_is G hx ht).2.1; omega
      | true => exact ⟨mem_leave M hx hl, by simp only [if_true, leaveS, List.length_append]; omega⟩
  | succ n ih =>
    intro x last m a hn hx M hl
    have he := G.exit_ x hx
    rw [pathS_step hx]
    unfold leaveS
    split
    · exact ⟨M, by show a.length ≤ _; omega⟩
    · cases ht : topB c x with
      | true => exact ⟨mem_leave M hx hl, by simp only [if_true, leaveS, List.length_append]; omega⟩
      | false =>
        obtain ⟨p1, p2, p3⟩ := parent_is G hx ht
        simp only [Bool.false_eq_true, if_false]
        obtain ⟨k1, k2⟩ := ih (stA c x).Parent x _ (a ++ (stA c x).Exit) (by omega) p1 (mem_leave M hx hl) (.inr p3)
        exact ⟨k1, Nat.le_trans k2 (by rw [List.length_append]; omega)⟩
/-- The innermost state around both. -/
def scopeS (c : T48) (a b : Int) : Int := ((pathS c a).tail.find? fun x => hasK (pathS c b).tail (pathS c b).tail.length x).getD (-1)
def untilS (s : Int) (l : List Int) : List Int := l.takeWhile fun x => !(s == x)
/-- The configuration in which a chart begins, and the actions. -/
def startS (c : T48) : Int × List Int × List (List UInt8) := enterS c c.Start (aroundS c (pathS c c.Start).tail (List.replicate c.States.length (-1)) []).1 (aroundS c (pathS c c.Start).tail (List.replicate c.States.length (-1)) []).2
def fireS (c : T48) (g : T71) (t : T119) : Int × List Int × List (List UInt8) :=
  let s := scopeS c t.From t.To
  let l := leaveS c s (pathS c g.Leaf) (-1) g.Memory []
  let r := aroundS c (untilS s (pathS c t.To).tail) l.1 (l.2 ++ t.Actions)
  enterS c t.To r.1 r.2
theorem tail_is {c : T48} {x : Int} : ∀ y ∈ (pathS c x).tail, isS c y = true := fun y hy => (pathS_is x.toNat x (Nat.le_refl _) y (List.mem_of_mem_tail hy)).1
theorem mem_begin {c : T48} : MemOk c (List.replicate c.States.length (-1)) := ⟨by simp, fun i hi => by
  have : (List.replicate c.States.length (-1 : Int)).getD i default = -1 := by simp at hi; simp [List.getD_eq_getElem?_getD, List.getElem?_replicate, hi]
  unfold memBad; rw [this]; rfl⟩
theorem startS_ok {c : T48} (G : Good c) (H : Fit c) : validS c ⟨(startS c).1, (startS c).2.1⟩ = true ∧ (startS c).2.2.length ≤ 16000 := by
  have hs := H.states
  have hp := pathS_len c c.Start
  obtain ⟨h1, h2⟩ := aroundS_ok G (a := []) mem_begin (pathS c c.Start).tail tail_is
  obtain ⟨k1, k2, k3, k4⟩ := enterF_ok G c.States.length c.Start _ (aroundS c (pathS c c.Start).tail (List.replicate c.States.length (-1)) []).2 G.start h1 (by omega)
  refine ⟨validS_iff.2 ⟨k1, k2, k3⟩, ?_⟩
  have : (startS c).2.2.length ≤ _ := k4
  simp only [List.length_nil, List.length_tail] at h2
  omega
theorem untilS_sub {s : Int} {l : List Int} : ∀ x ∈ untilS s l, x ∈ l := fun x hx => (List.takeWhile_prefix _).sublist.mem hx
theorem untilS_len {s : Int} {l : List Int} : (untilS s l).length ≤ l.length := (List.takeWhile_prefix _).length_le
theorem fireS_ok {c : T48} (G : Good c) (H : Fit c) {g : T71} (hg : validS c g = true) {i : Nat} (hi : i < c.Transitions.length) : validS c ⟨(fireS c g (c.Transitions.getD i default)).1, (fireS c g (c.Transitions.getD i default)).2.1⟩ = true ∧ (fireS c g (c.Transitions.getD i default)).2.2.length ≤ 32000 := by
  have hs := H.states
  obtain ⟨v1, v2, v3⟩ := validS_iff.1 hg
  have ha := G.acts i hi
  have ht := (G.tr i hi).2
  generalize c.Transitions.getD i default = t at *
  have hp := pathS_len c t.To
  have hl := (isS_lt v1).2.2
  obtain ⟨a1, a2⟩ := leaveS_ok G (s := scopeS c t.From t.To) g.Leaf.toNat g.Leaf (-1) g.Memory [] (Nat.le_refl _) v1 v3 (.inl rfl)
  obtain ⟨h1, h2⟩ := aroundS_ok G (a := (leaveS c (scopeS c t.From t.To) (pathS c g.Leaf) (-1) g.Memory []).2 ++ t.Actions) a1 (untilS (scopeS c t.From t.To) (pathS c t.To).tail) fun x hx => tail_is x (untilS_sub x hx)
  have hu := untilS_len (s := scopeS c t.From t.To) (l := (pathS c t.To).tail)
  obtain ⟨k1, k2, k3, k4⟩ := enterF_ok G c.States.length t.To _ (aroundS c (untilS (scopeS c t.From t.To) (pathS c t.To).tail) (leaveS c (scopeS c t.From t.To) (pathS c g.Leaf) (-1) g.Memory []).1 ((leaveS c (scopeS c t.From t.To) (pathS c g.Leaf) (-1) g.Memory []).2 ++ t.Actions)).2 ht h1 (by omega)
  refine ⟨validS_iff.2 ⟨k1, k2, k3⟩, ?_⟩
  have : (fireS c g t).2.2.length ≤ _ := k4
  simp only [List.length_nil, List.length_tail, List.length_append] at h2 hu a2
  omega
/-! ### Lists -/
theorem firstR_cons {Y : Type} {f : Nat → Option Y} {n : Nat} : firstR f (n + 1) = orK (f 0) (firstR (fun i => f (i + 1)) n) := by
  unfold firstR
  rw [List.range_succ_eq_map, List.findSome?_cons, List.findSome?_map]
  cases f 0 <;> rfl
theorem firstR_find {F : Int → Bool} : ∀ {l : List Int}, firstR (fun i => if F (l.getD i default) = true then some (l.getD i default) else none) l.length = l.find? F
  | [] => rfl
  | x :: l => by
    rw [List.length_cons, firstR_cons]
    simp only [List.getD_cons_zero, List.getD_cons_succ]
    rw [firstR_find, List.find?_cons]
    by_cases hf : F x = true
    · simp only [hf, if_true, orK_some]
    · have hf := Bool.eq_false_iff.2 hf
      simp only [hf, Bool.false_eq_true, if_false, orK_none]
theorem until_eq {s : Int} : ∀ (l : List Int), (if decide (0 ≤ findR (fun i => s == l.getD i default) l.length) = true then subL l 0 (findR (fun i => s == l.getD i default) l.length).toNat else l) = untilS s l ∧ findR (fun i => s == l.getD i default) l.length ≤ l.length
  | [] => by simp [untilS, findR, firstR]
  | x :: l => by
    obtain ⟨h1, h2⟩ := until_eq l (s := s)
    have e : findR (fun i => s == (x :: l).getD i default) (x :: l).length = if (s == x) = true then 0 else if decide (0 ≤ findR (fun i => s == l.getD i default) l.length) = true then findR (fun i => s == l.getD i default) l.length + 1 else -1 := by
      unfold findR
      rw [List.length_cons, firstR_cons]
      simp only [List.getD_cons_zero, List.getD_cons_succ]
      by_cases hx : (s == x) = true
      · simp only [hx, if_true, orK_some]; rfl
      · simp only [hx, if_false, Bool.false_eq_true, orK_none]
        have key : firstR (fun i => if (s == l.getD i default) = true then some (((i + 1 : Nat) : Int)) else none) l.length = (firstR (fun i => if (s == l.getD i default) = true then some (i : Int) else none) l.length).map (· + 1) := by
          unfold firstR
          induction List.range l.length with
          | nil => rfl
          | cons i r ih =>
            simp only [List.findSome?_cons]
            by_cases hf : (s == l.getD i default) = true
            · simp only [hf, if_true]; simp
            · simp only [hf, if_false, Bool.false_eq_true]; exact ih
        rw [key]
        cases hf : firstR (fun i => if (s == l.getD i default) = true then some (i : Int) else none) l.length with
        | none => rfl
        | some y =>
          obtain ⟨i, _, h⟩ := firstR_some hf
          split at h
          · injection h with h; subst h; simp
          · cases h
    rw [e]
    by_cases hx : (s == x) = true
    · simp only [hx, if_true]
      exact ⟨by simp [untilS, hx, subL], by rw [List.length_cons]; omega⟩
    · have hx' := Bool.eq_false_iff.2 hx
      simp only [hx', if_false, Bool.false_eq_true]
      unfold untilS at h1 ⊢
      rw [List.takeWhile_cons, hx']
      simp only [Bool.not_false, if_true]
      rw [← h1]
      by_cases hf : decide (0 ≤ findR (fun i => s == l.getD i default) l.length) = true
      · have h0 : 0 ≤ findR (fun i => s == l.getD i default) l.length := by simpa using hf
        simp only [hf, if_true]
        have h3 : decide (0 ≤ findR (fun i => s == l.getD i default) l.length + 1) = true := by rw [decide_eq_true_eq]; omega
        refine ⟨?_, by rw [List.length_cons]; omega⟩
        rw [if_pos h3, subL_eq (by rw [List.length_cons]; omega), subL_eq (by omega)]
        rw [show (findR (fun i => s == l.getD i default) l.length + 1).toNat = (findR (fun i => s == l.getD i default) l.length).toNat + 1 by omega]
        simp
      · simp only [hf, if_false, Bool.false_eq_true]
        exact ⟨by simp, by rw [List.length_cons]; omega⟩
theorem tail_sub (l : List Int) : subL l 1 (l.length - 1) = l.tail := by
  cases l with
  | nil => rfl
  | cons x l => rw [subL_eq (by rw [List.length_cons]; omega)]; simp
theorem pathS_pos {c : T48} {x : Int} (hx : isS c x = true) : (1 : Int) ≤ ((pathS c x).length : Int) := by rw [pathS_step hx, List.length_cons]; omega
end Go.Av.Ch
