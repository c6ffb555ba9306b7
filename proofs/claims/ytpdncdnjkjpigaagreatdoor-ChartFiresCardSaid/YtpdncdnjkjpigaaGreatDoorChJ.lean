/- Plain laws of chart: the specification's functions that change a configuration compute the same. -/
import Derived.Test.YtpdncdnjkjpigaaGreatDoorChI
set_option linter.unusedSimpArgs false
set_option linter.unusedVariables false
set_option maxRecDepth 100000
namespace Go.Av.Ch
/-- The loop that enters the states of a list, the last one first. -/
theorem down_loop {c : T27} (G : Good c) {l : List Int} (hl : ∀ x ∈ l, isS c x = true) (h1 : l.length ≤ 2000) {m : List Int} (M : MemOk c m) {a : List (List UInt8)} (ha : a.length ≤ 60000) {R : Type} {b : List Int × List (List UInt8) × Int → Option ((List Int × List (List UInt8) × Int) ⊕ ((List Int × List (List UInt8)) ⊕ R))}
    (hb : ∀ (j : Nat) (m : List Int) (a : List (List UInt8)) (x : Int), j < l.length → l.getD j default = x → isS c x = true → MemOk c m → a.length ≤ 100000 → b (m, a, (j : Int)) = some (.inl (m.set x.toNat (-1), a ++ (stA c x).Entry, (j : Int) - 1)))
    (he : ∀ m a, b (m, a, -1) = some (.inr (.inl (m, a)))) : loopO b (m, a, (l.length : Int) - 1) = some (.inl (aroundS c l m a)) := by
  have key : ∀ j, j ≤ l.length → loopO b ((aroundS c (l.drop j) m a).1, (aroundS c (l.drop j) m a).2, (j : Int) - 1) = some (.inl (aroundS c l m a)) := by
    intro j
    induction j with
    | zero => intro _; rw [show ((0 : Nat) : Int) - 1 = -1 from rfl, loopO_eq, he]; rfl
    | succ j ih =>
      intro hj
      have hi : j < l.length := by omega
      have hx : isS c (l.getD j default) = true := hl _ (getD_mem hi)
      obtain ⟨k1, k2⟩ := aroundS_ok G (a := a) M (l.drop (j + 1)) fun x hx => hl x (List.mem_of_mem_drop hx)
      rw [show ((j + 1 : Nat) : Int) - 1 = (j : Int) by omega, loopO_eq, hb j _ _ _ hi rfl hx k1 (by rw [List.length_drop] at k2; omega)]
      have hd : l.drop j = l.getD j default :: l.drop (j + 1) := by
        rw [List.drop_eq_getElem_cons hi]; simp [List.getD_eq_getElem?_getD, List.getElem?_eq_getElem hi]
      have := ih (by omega)
      rw [hd] at this
      exact this
  have := key l.length (Nat.le_refl _)
  rwa [List.drop_length] at this
theorem around0_eq {c : T27} (G : Good c) (H : Fit c) {l : List Int} (hl : ∀ x ∈ l, isS c x = true) (h1 : l.length ≤ 2000) {m : List Int} (M : MemOk c m) {a : List (List UInt8)} (ha : a.length ≤ 60000) :
    m64o0 c m l a = some ((aroundS c l m a).2, (aroundS c l m a).1, (aroundS c l m a).2) := by
  have hs := H.states
  have hm := M.len
  have w : IntKind.wrap .i64 ((l.length : Int) - 1) = (l.length : Int) - 1 := w64 (by omega) (by omega)
  delta m64o0 d64o0
  simp only [↓JD.sg_m, ↓JD.sq_m, ↓JD.sc_m, ↓JD.bk_m, ↓JD.lp_m, ↓JD.cd_m, ↓Tr.run, ↓Tr.run_nd, ↓Tr.run_c3, ↓Tr.run_c2, ↓Tr.run_nx, ↓onS, bind_ite, Option.bind_some, Option.bind_none, obR, w]
  refine on_l (down_loop G hl h1 M ha (fun j m' a' x hj hg hx M' ha' => ?_) fun m' a' => rfl) rfl
  have he := G.entry x hx
  have k1 : (0 + a'.length + (c.States.getD x.toNat default).Entry.length) * 16 ≤ 140737488355328 := by unfold stA at he; omega
  have k0 : (0 + a'.length) * 16 ≤ 140737488355328 := by omega
  have k2 : x < (m.length : Int) := by have := isS_iff.1 hx; omega
  have k3 : x.toNat < m.length := by have := (isS_lt hx).2.2; omega
  have k4 : subL m' 0 m.length = m' := subL_all (by rw [M'.len, hm])
  have k5 : (decide ((0 : Int) ≤ (j : Int)) = true) = True := eq_true (by simp)
  have k6 : IntKind.wrap .i64 ((j : Int) - 1) = (j : Int) - 1 := w64 (by omega) (by omega)
  simp only [inL hj, k5, decide_true, Int.toNat_natCast, if_true, hg, isS_lt hx, k0, k1, k2, k3, k4, k6, List.nil_append]
theorem renter_eq {c : T27} (G : Good c) (H : Fit c) {x : Int} (hx : isS c x = true) {m : List Int} (M : MemOk c m) {a : List (List UInt8)} (ha : a.length ≤ 80000) : m65o0 c m x a = some ((enterS c x m a).2.2, (enterS c x m a).1, (enterS c x m a).2.1, (enterS c x m a).2.2) := by
  have hs := H.states
  have hm := M.len
  have he := G.entry x hx
  have k0 : (0 + a.length) * 16 ≤ 140737488355328 := by omega
  have k1 : (0 + a.length + (c.States.getD x.toNat default).Entry.length) * 16 ≤ 140737488355328 := by unfold stA at he; omega
  delta m65o0 d65o0
  simp only [↓JD.sg_m, ↓JD.sq_m, ↓JD.sc_m, ↓JD.bk_m, ↓JD.lp_m, ↓JD.cd_m, ↓Tr.run, ↓Tr.run_nd, ↓Tr.run_c3, ↓Tr.run_c2, ↓Tr.run_nx, ↓onS, bind_ite, Option.bind_some, Option.bind_none, obR, k0, k1, isS_lt hx, if_true, List.nil_append, rcomposite_eq c _ (Nat.le_trans hs (by omega))]
  refine on_l (renter_loop G (fun x m' a hx M' ha => ?_) c.States.length x m a hx M (by omega) (by omega)) rfl
  have hl := (isS_lt hx).2.2
  have h2 : x < (m.length : Int) := by have := isS_iff.1 hx; omega
  have h3 : x.toNat < m.length := by omega
  have h4 : subL m' 0 m.length = m' := subL_all (by rw [M'.len, hm])
  cases hc : comp c x with
  | false => simp only [Bool.false_eq_true, if_false]
  | true =>
    obtain ⟨q1, q2⟩ := child_is G (nextS_child G M' hx hc)
    have q4 := G.entry _ q1
    have q5 : (a.length + (stA c (nextS c m' x)).Entry.length) * 16 ≤ 140737488355328 := by omega
    have q6 := isS_lt q1
    unfold nextS stA at *
    simp only [isS_lt hx, h2, h3, h4, implies_true, if_true]
    by_cases hh : ((c.States.getD x.toNat default).History && (m'.getD x.toNat default != (-1 : Int))) = true
    · simp only [hh, if_true] at q5 q6 ⊢
      simp only [q5, q6, if_true]
    · have hh := Bool.eq_false_iff.2 hh
      simp only [hh, Bool.false_eq_true, if_false] at q5 q6 ⊢
      simp only [q5, q6, if_true]
theorem rscope_eq {c : T27} (H : Fit c) {a b : Int} (ha : isS c a = true) (hb : isS c b = true) : m99 c a b = some (scopeS c a b) := by
  have hs := H.states
  have hla := pathS_len c a
  have hlb := pathS_len c b
  have hl : (pathS c b).tail.length ≤ 100000 := by rw [List.length_tail]; omega
  delta m99 d99
  simp only [↓JD.sg_m, ↓JD.sq_m, ↓JD.sc_m, ↓JD.bk_m, ↓JD.lp_m, ↓JD.cd_m, ↓Tr.run, ↓Tr.run_nd, ↓Tr.run_c3, ↓Tr.run_c2, ↓Tr.run_nx, ↓onS, bind_ite, Option.bind_some, Option.bind_none, obR, rPath_eq c H, Option.bind_some, Int.reduceLE, pathS_pos ha, pathS_pos hb, if_true, onS_l, Int.toNat_one, tail_sub, on_eq _ _ hl]
  rw [show ((pathS c a).length - 1) = (pathS c a).tail.length by rw [List.length_tail]]
  rw [loop_ex (pathS c a).tail.length (fun i => if hasK (pathS c b).tail (pathS c b).tail.length ((pathS c a).tail.getD i default) = true then some ((pathS c a).tail.getD i default) else none) ?_ ?_, firstR_find, orK_getD]; rfl
  · intro i hi
    have hta : (pathS c a).tail.length ≤ 1000 := by rw [List.length_tail]; omega
    simp only [exB_ite, exB_some, exB_none]
    simp only [inL hi, decide_true, Int.toNat_natCast, if_true, wr1 hi (by omega)]
  · (simp only [lt_irr, decide_false, Bool.false_eq_true, if_false]; try rfl)
/-- The loop that collects states up to s. -/
theorem until_loop {s : Int} {l : List Int} {R : Type} {b : List Int × Int → Option ((List Int × Int) ⊕ (List Int ⊕ R))}
    (hb : ∀ (j : Nat) (o : List Int) (x : Int), j < l.length → o.length ≤ j → l.getD j default = x → b (o, (j : Int)) = if (x == s) = true then some (.inr (.inl o)) else some (.inl (o ++ [x], ((j + 1 : Nat) : Int))))
    (he : ∀ o, b (o, (l.length : Int)) = some (.inr (.inl o))) : loopO b ([], 0) = some (.inl (untilS s l)) := by
  have key : ∀ k j (o : List Int), j + k = l.length → o.length ≤ j → loopO b (o, (j : Int)) = some (.inl (o ++ untilS s (l.drop j))) := by
    intro k
    induction k with
    | zero =>
      intro j o hk ho
      obtain rfl : j = l.length := by omega
      rw [loopO_eq, he, List.drop_length]; simp [untilS]
    | succ k ih =>
      intro j o hk ho
      have hj : j < l.length := by omega
      have hd : l.drop j = l.getD j default :: l.drop (j + 1) := by
        rw [List.drop_eq_getElem_cons hj]; simp [List.getD_eq_getElem?_getD, List.getElem?_eq_getElem hj]
      rw [loopO_eq, hb j o _ hj ho rfl, hd]
      by_cases hx : (l.getD j default == s) = true
      · have hx' : (s == l.getD j default) = true := by rw [eq_of_beq hx]; simp
        simp only [hx, if_true, Option.bind_some]
        unfold untilS; rw [List.takeWhile_cons, hx']; simp
      · have hx' : (s == l.getD j default) = false := by simp only [beq_eq_false_iff_ne, ne_eq]; intro e; rw [e] at hx; simp at hx
        simp only [hx, if_false, Bool.false_eq_true, Option.bind_some]
        rw [ih (j + 1) _ (by omega) (by rw [List.length_append]; simp; omega)]
        unfold untilS; rw [List.takeWhile_cons, hx']; simp
  exact key l.length 0 [] (by omega) (Nat.le_refl _)
theorem rfire_eq {c : T27} (G : Good c) (H : Fit c) {g : T44} (hg : validS c g = true) {i : Nat} (hi : i < c.Transitions.length) :
    m68 c g (c.Transitions.getD i default) = some (⟨(fireS c g (c.Transitions.getD i default)).1, (fireS c g (c.Transitions.getD i default)).2.1⟩, (fireS c g (c.Transitions.getD i default)).2.2) := by
  have hs := H.states
  obtain ⟨v1, v2, v3⟩ := validS_iff.1 hg
  have hml := v3.len
  have hne := G.ne
  have hp := pathS_len c g.Leaf
  have hlf := (isS_lt v1).2.2
  have ha := G.acts i hi
  obtain ⟨hf, ht⟩ := G.tr i hi
  have hpt := pathS_len c (c.Transitions.getD i default).To
  have hh := (G.leafI g.Leaf v1 v2).2
  obtain ⟨a1, a2⟩ := leaveS_ok G (s := scopeS c (c.Transitions.getD i default).From (c.Transitions.getD i default).To) g.Leaf.toNat g.Leaf (-1) g.Memory [] (Nat.le_refl _) v1 v3 (.inl rfl)
  simp only [List.length_nil] at a2
  have h16 : ((leaveS c (scopeS c (c.Transitions.getD i default).From (c.Transitions.getD i default).To) (pathS c g.Leaf) (-1) g.Memory []).2.length + (c.Transitions.getD i default).Actions.length) * 16 ≤ 140737488355328 := by omega
  have hsub : ∀ m : List Int, m.length = c.States.length → subL m 0 g.Memory.length = m := fun m h => subL_all (by rw [h, hml])
  have hend := (fireS_ok G H hg hi).1
  have hmend := (validS_iff.1 hend).2.2.len
  have hu := untilS_len (s := scopeS c (c.Transitions.getD i default).From (c.Transitions.getD i default).To) (l := (pathS c (c.Transitions.getD i default).To).tail)
  obtain ⟨r1, r2⟩ := aroundS_ok G (a := (leaveS c (scopeS c (c.Transitions.getD i default).From (c.Transitions.getD i default).To) (pathS c g.Leaf) (-1) g.Memory []).2 ++ (c.Transitions.getD i default).Actions) a1 (untilS (scopeS c (c.Transitions.getD i default).From (c.Transitions.getD i default).To) (pathS c (c.Transitions.getD i default).To).tail) fun x hx => tail_is x (untilS_sub x hx)
  have k0 : 0 < g.Memory.length := by omega
  have k1 : g.Memory.length * 8 ≤ 140737488355328 := by omega
  delta m68 d68
  simp only [↓JD.sg_m, ↓JD.sq_m, ↓JD.sc_m, ↓JD.bk_m, ↓JD.lp_m, ↓JD.cd_m, ↓Tr.run, ↓Tr.run_nd, ↓Tr.run_c3, ↓Tr.run_c2, ↓Tr.run_nx, ↓onS, bind_ite, Option.bind_some, Option.bind_none, obR, k0, k1, if_true, rscope_eq H hf ht, onS_l, rPath_eq c H]
  refine on_l (y := leaveS c (scopeS c (c.Transitions.getD i default).From (c.Transitions.getD i default).To) (pathS c g.Leaf) (-1) g.Memory []) ?_ ?_
  · generalize hP : pathS c g.Leaf = p at *
    rw [show leaveS c (scopeS c (c.Transitions.getD i default).From (c.Transitions.getD i default).To) p (-1) g.Memory [] = leaveS c (scopeS c (c.Transitions.getD i default).From (c.Transitions.getD i default).To) (pathS c g.Leaf) (-1) g.Memory [] by rw [hP]]
    refine leave_key G _ (p := p) (fun last i m a => (m, a, last, i)) Sum.inl (fun pre l x last m' a hpre hx M' hl ha => ?_) (fun last m' a => ?_) g.Leaf.toNat [] g.Leaf (-1) g.Memory [] (by rw [hP]; rfl) (Nat.le_refl _) v1 v3 (.inl ⟨rfl, hh⟩) (by simp; omega)
    · have hi : pre.length < p.length := by rw [hpre]; simp
      have hg : p.getD pre.length default = x := by rw [hpre]; simp [List.getD_eq_getElem?_getD]
      have he8 := G.exit_ x hx
      have h1 : (a.length + (c.States.getD x.toNat default).Exit.length) * 16 ≤ 140737488355328 := by unfold stA at he8; omega
      have h2 : x < (g.Memory.length : Int) := by have := isS_iff.1 hx; omega
      have h3 : x.toNat < g.Memory.length := by have := (isS_lt hx).2.2; omega
      have h4 : subL m' 0 g.Memory.length = m' := hsub _ M'.len
      simp only [inL hi, decide_true, Int.toNat_natCast, if_true, hg, isS_lt hx, h1, h2, h3, h4, wr1 hi (by omega)]
      refine ite_else ?_
      rcases hl with ⟨e1, e2⟩ | e1
      · unfold stA at e2 ⊢
        simp only [e1, e2, Bool.false_and, Bool.false_eq_true, if_false]; rfl
      · have e2 := isS_iff.1 (child_is G e1).1
        have e3 : (last != (-1 : Int)) = true := by simp only [bne_iff_ne, ne_eq]; omega
        unfold stA
        simp only [e3, Bool.and_true]
        by_cases hh : (c.States.getD x.toNat default).History = true
        · simp only [hh, if_true]; rfl
        · have hh := Bool.eq_false_iff.2 hh
          simp only [hh, if_false, Bool.false_eq_true]; rfl
    · (simp only [lt_irr, decide_false, Bool.false_eq_true, if_false]; try rfl)
  · rw [if_pos h16]
    simp only [Option.bind_some, Int.reduceLE, pathS_pos ht, if_true, onS_l, Int.toNat_one, tail_sub]
    have htl : (pathS c (c.Transitions.getD i default).To).tail.length ≤ 1000 := by rw [List.length_tail]; omega
    have htl2 := @List.length_tail Int (pathS c (c.Transitions.getD i default).To)
    refine on_l (until_loop (s := scopeS c (c.Transitions.getD i default).From (c.Transitions.getD i default).To) (l := (pathS c (c.Transitions.getD i default).To).tail) (fun j o x hj ho hg => ?_) (fun o => by simp only [htl2, lt_irr, decide_false, Bool.false_eq_true, if_false])) ?_
    · have k8 : (o.length + 1) * 8 ≤ 140737488355328 := by omega
      have k9 : ((j : Int) < (((pathS c (c.Transitions.getD i default).To).length - 1 : Nat) : Int)) = True := eq_true (by omega)
      simp only [k9, inL hj, decide_true, Int.toNat_natCast, if_true, hg, k8, wr1 hj (by omega)]; rfl
    · have hz := hsub _ hmend
      unfold fireS at hz
      simp only [hsub _ a1.len,  around0_eq G H (fun x hx => tail_is x (untilS_sub x hx)) (show (untilS (scopeS c (c.Transitions.getD i default).From (c.Transitions.getD i default).To) (pathS c (c.Transitions.getD i default).To).tail).length ≤ 2000 by omega) a1 (a := (leaveS c (scopeS c (c.Transitions.getD i default).From (c.Transitions.getD i default).To) (pathS c g.Leaf) (-1) g.Memory []).2 ++ (c.Transitions.getD i default).Actions) (by rw [List.length_append]; omega), Option.bind_some, hsub _ r1.len]
      rw [renter_eq G H ht r1 (by rw [List.length_append] at r2; omega)]
      simp only [Option.bind_some, hz]
      rfl
theorem rFire_eq {c : T27} (H : Fit c) {g : T44} {t : Int} : m32 c g t = (checkM c).bind fun e => if (e != 0) = true then some (⟨0, []⟩, [], e) else if (!validS c g) = true then some (⟨0, []⟩, [], 8) else if (decide (t < 0) || decide ((c.Transitions.length : Int) ≤ t)) = true then some (⟨0, []⟩, [], 2) else
    if (!hasK (pathS c g.Leaf) (pathS c g.Leaf).length (c.Transitions.getD t.toNat default).From) = true then some (⟨0, []⟩, [], 9) else some (⟨(fireS c g (c.Transitions.getD t.toNat default)).1, (fireS c g (c.Transitions.getD t.toNat default)).2.1⟩, (fireS c g (c.Transitions.getD t.toNat default)).2.2, 0) := by
  have hs := H.states
  have hp := pathS_len c g.Leaf
  obtain ⟨e, he⟩ := checkM_some c
  rw [he, Option.bind_some]
  delta m32 d32
  simp only [↓JD.sg_m, ↓JD.sq_m, ↓JD.sc_m, ↓JD.bk_m, ↓JD.lp_m, ↓JD.cd_m, ↓Tr.run, ↓Tr.run_nd, ↓Tr.run_c3, ↓Tr.run_c2, ↓Tr.run_nx, ↓onS, bind_ite, Option.bind_some, Option.bind_none, obR, rCheck_eq c H, he]
  by_cases h0 : (e != 0) = true
  · simp only [h0, if_true]
  have h0' : e = 0 := by simpa using h0
  subst h0'
  simp only [h0, if_false, Bool.false_eq_true, rValid_eq c H, Option.bind_some]
  cases hv : validS c g with
  | false => rfl
  | true =>
    simp only [Bool.not_true, Bool.false_eq_true, if_false]
    by_cases hr : (decide (t < 0) || decide ((c.Transitions.length : Int) ≤ t)) = true
    · simp only [hr, if_true]
    · have hr' := Bool.eq_false_iff.2 hr
      simp only [Bool.or_eq_false_iff, decide_eq_false_iff_not] at hr'
      obtain ⟨i, rfl⟩ := Int.eq_ofNat_of_zero_le (show 0 ≤ t by omega)
      have hi : i < c.Transitions.length := by omega
      simp only [hr, if_false, Bool.false_eq_true, inL hi, Int.toNat_natCast, if_true, rPath_eq c H, on_eq _ _ (show (pathS c g.Leaf).length ≤ 100000 by omega), Option.bind_some, rfire_eq (good_of he) H hv hi]
end Go.Av.Ch
