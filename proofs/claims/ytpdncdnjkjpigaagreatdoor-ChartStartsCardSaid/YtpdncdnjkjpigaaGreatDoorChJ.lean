/- Plain laws of chart: the specification's functions that change a configuration compute the same. -/
import Derived.Test.YtpdncdnjkjpigaaGreatDoorChI
set_option linter.unusedSimpArgs false
set_option linter.unusedVariables false
set_option maxRecDepth 100000
namespace Go.Av.Ch
/-- The loop that enters the states of a list, the last one first. -/
theorem down_loop {c : T27} (G : Good c) {l : List Int} (hl : ∀ x ∈ l, isS c x = true) (h1 : l.length ≤ 2000) {m : List Int} (M : MemOk c m) {a : List (List UInt8)} (ha : a.length ≤ 60000) {R : Type} {b : List Int × List (List UInt8) × Int → Option ((List Int × List (List UInt8) × Int) ⊕ ((List Int × List (List UInt8)) ⊕ R))}
    (hb : ∀ (j : Nat) (m : List Int) (a : List (List UInt8)) (x : Int), j < l.length → l.getD j default = x → isS c x = true → MemOk c m → a.length ≤ 100000 → b (m, a, (j : Int)) = some (.inl (m.set x.toNat (-1), a ++ (stA c x).Entry, (j : Int) - 1)))
    (he : ∀ m a, b (m, a, -1) = some (.inr (.inl (m, a)))) : loopO b (m, a, (l.length : Int) - 1) = some (.inl (aroundS c l m a)) := by
  have key : ∀ j, j ≤ l.length → loopO b ((aroundS c (l.drop j) m a).1, (aroundS c (l.drop j) m a).2, (j : Int) - 1) = some (.inl (aroundS c l m a)) := by
    intro j
    induction j with
    | zero => intro _; rw [show ((0 : Nat) : Int) - 1 = -1 from rfl, loopO_eq, he]; rfl
    | succ j ih =>
      intro hj
      have hi : j < l.length := by omega
      have hx : isS c (l.getD j default) = true := hl _ (getD_mem hi)
      obtain ⟨k1, k2⟩ := aroundS_ok G (a := a) M (l.drop (j + 1)) fun x hx => hl x (List.mem_of_mem_drop hx)
      rw [show ((j + 1 : Nat) : Int) - 1 = (j : Int) by omega, loopO_eq, hb j _ _ _ hi rfl hx k1 (by rw [List.length_drop] at k2; omega)]
      have hd : l.drop j = l.getD j default :: l.drop (j + 1) := by
        rw [List.drop_eq_getElem_cons hi]; simp [List.getD_eq_getElem?_getD, List.getElem?_eq_getElem hi]
      have := ih (by omega)
      rw [hd] at this
      exact this
  have := key l.length (Nat.le_refl _)
  rwa [List.drop_length] at this
theorem around0_eq {c : T27} (G : Good c) (H : Fit c) {l : List Int} (hl : ∀ x ∈ l, isS c x = true) (h1 : l.length ≤ 2000) {m : List Int} (M : MemOk c m) {a : List (List UInt8)} (ha : a.length ≤ 60000) :
    m64o0 c m l a = some ((aroundS c l m a).2, (aroundS c l m a).1, (aroundS c l m a).2) := by
  have hs := H.states
  have hm := M.len
  have w : IntKind.wrap .i64 ((l.length : Int) - 1) = (l.length : Int) - 1 := w64 (by omega) (by omega)
  delta m64o0 d64o0
  simp only [↓JD.sg_m, ↓JD.sq_m, ↓JD.sc_m, ↓JD.bk_m, ↓JD.lp_m, ↓JD.cd_m, ↓Tr.run, ↓Tr.run_nd, ↓Tr.run_c3, ↓Tr.run_c2, ↓Tr.run_nx, ↓onS, bind_ite, Option.bind_some, Option.bind_none, obR, w]
  refine on_l (down_loop G hl h1 M ha (fun j m' a' x hj hg hx M' ha' => ?_) fun m' a' => rfl) rfl
  have he := G.entry x hx
  have k1 : (0 + a'.length + (c.States.getD x.toNat default).Entry.length) * 16 ≤ 140737488355328 := by unfold stA at he; omega
  have k0 : (0 + a'.length) * 16 ≤ 140737488355328 := by omega
  have k2 : x < (m.length : Int) := by have := isS_iff.1 hx; omega
  have k3 : x.toNat < m.length := by have := (isS_lt hx).2.2; omega
  have k4 : subL m' 0 m.length = m' := subL_all (by rw [M'.len, hm])
  have k5 : (decide ((0 : Int) ≤ (j : Int)) = true) = True := eq_true (by simp)
  have k6 : IntKind.wrap .i64 ((j : Int) - 1) = (j : Int) - 1 := w64 (by omega) (by omega)
  simp only [inL hj, k5, decide_true, Int.toNat_natCast, if_true, hg, isS_lt hx, k0, k1, k2, k3, k4, k6, List.nil_append]
theorem renter_eq {c : T27} (G : Good c) (H : Fit c) {x : Int} (hx : isS c x = true) {m : List Int} (M : MemOk c m) {a : List (List UInt8)} (ha : a.length ≤ 80000) : m65o0 c m x a = some ((enterS c x m a).2.2, (enterS c x m a).1, (enterS c x m a).2.1, (enterS c x m a).2.2) := by
  have hs := H.states
  have hm := M.len
  have he := G.entry x hx
  have k0 : (0 + a.length) * 16 ≤ 140737488355328 := by omega
  have k1 : (0 + a.length + (c.States.getD x.toNat default).Entry.length) * 16 ≤ 140737488355328 := by unfold stA at he; omega
  delta m65o0 d65o0
  simp only [↓JD.sg_m, ↓JD.sq_m, ↓JD.sc_m, ↓JD.bk_m, ↓JD.lp_m, ↓JD.cd_m, ↓Tr.run, ↓Tr.run_nd, ↓Tr.run_c3, ↓Tr.run_c2, ↓Tr.run_nx, ↓onS, bind_ite, Option.bind_some, Option.bind_none, obR, k0, k1, isS_lt hx, if_true, List.nil_append, rcomposite_eq c _ (Nat.le_trans hs (by omega))]
  refine on_l (renter_loop G (fun x m' a hx M' ha => ?_) c.States.length x m a hx M (by omega) (by omega)) rfl
  have hl := (isS_lt hx).2.2
  have h2 : x < (m.length : Int) := by have := isS_iff.1 hx; omega
  have h3 : x.toNat < m.length := by omega
  have h4 : subL m' 0 m.length = m' := subL_all (by rw [M'.len, hm])
  cases hc : comp c x with
  | false => simp only [Bool.false_eq_true, if_false]
  | true =>
    obtain ⟨q1, q2⟩ := child_is G (nextS_child G M' hx hc)
    have q4 := G.entry _ q1
    have q5 : (a.length + (stA c (nextS c m' x)).Entry.length) * 16 ≤ 140737488355328 := by omega
    have q6 := isS_lt q1
    unfold nextS stA at *
    simp only [isS_lt hx, h2, h3, h4, implies_true, if_true]
    by_cases hh : ((c.States.getD x.toNat default).History && (m'.getD x.toNat default != (-1 : Int))) = true
    · simp only [hh, if_true] at q5 q6 ⊢
      simp only [q5, q6, if_true]
    · have hh := Bool.eq_false_iff.2 hh
      simp only [hh, Bool.false_eq_true, if_false] at q5 q6 ⊢
      simp only [q5, q6, if_true]
/-- The loop that collects states up to s. -/
theorem until_loop {s : Int} {l : List Int} {R : Type} {b : List Int × Int → Option ((List Int × Int) ⊕ (List Int ⊕ R))}
    (hb : ∀ (j : Nat) (o : List Int) (x : Int), j < l.length → o.length ≤ j → l.getD j default = x → b (o, (j : Int)) = if (x == s) = true then some (.inr (.inl o)) else some (.inl (o ++ [x], ((j + 1 : Nat) : Int))))
    (he : ∀ o, b (o, (l.length : Int)) = some (.inr (.inl o))) : loopO b ([], 0) = some (.inl (untilS s l)) := by
  have key : ∀ k j (o : List Int), j + k = l.length → o.length ≤ j → loopO b (o, (j : Int)) = some (.inl (o ++ untilS s (l.drop j))) := by
    intro k
    induction k with
    | zero =>
      intro j o hk ho
      obtain rfl : j = l.length := by omega
      rw [loopO_eq, he, List.drop_length]; simp [untilS]
    | succ k ih =>
      intro j o hk ho
      have hj : j < l.length := by omega
      have hd : l.drop j = l.getD j default :: l.drop (j + 1) := by
        rw [List.drop_eq_getElem_cons hj]; simp [List.getD_eq_getElem?_getD, List.getElem?_eq_getElem hj]
      rw [loopO_eq, hb j o _ hj ho rfl, hd]
      by_cases hx : (l.getD j default == s) = true
      · have hx' : (s == l.getD j default) = true := by rw [eq_of_beq hx]; simp
        simp only [hx, if_true, Option.bind_some]
        unfold untilS; rw [List.takeWhile_cons, hx']; simp
      · have hx' : (s == l.getD j default) = false := by simp only [beq_eq_false_iff_ne, ne_eq]; intro e; rw [e] at hx; simp at hx
        simp only [hx, if_false, Bool.false_eq_true, Option.bind_some]
        rw [ih (j + 1) _ (by omega) (by rw [List.length_append]; simp; omega)]
        unfold untilS; rw [List.takeWhile_cons, hx']; simp
  exact key l.length 0 [] (by omega) (Nat.le_refl _)
theorem rStart_eq (c : T27) (H : Fit c) : m28o0 c = startM c := by
  obtain ⟨e, he⟩ := checkM_some c
  have hs := H.states
  unfold startM
  rw [he, Option.bind_some]
  delta m28o0 d28o0
  by_cases h0 : (e != 0) = true
  · simp only [↓JD.sg_m, ↓JD.sq_m, ↓JD.sc_m, ↓JD.bk_m, ↓JD.lp_m, ↓JD.cd_m, ↓Tr.run, ↓Tr.run_nd, ↓Tr.run_c3, ↓Tr.run_c2, ↓Tr.run_nx, ↓onS, bind_ite, Option.bind_some, Option.bind_none, obR, rCheck_eq c H, he, h0, if_true]
  · have h0' : e = 0 := by simpa using h0
    subst h0'
    have G := good_of he
    have hp := pathS_len c c.Start
    have k1 : (0 : Int) ≤ (c.States.length : Int) := by omega
    have k2 : (c.States.length : Int) * 8 ≤ 140737488355328 := by omega
    have k3 : (c.States.length : Int) ≤ 9223372036854775807 := by omega
    simp only [↓JD.sg_m, ↓JD.sq_m, ↓JD.sc_m, ↓JD.bk_m, ↓JD.lp_m, ↓JD.cd_m, ↓Tr.run, ↓Tr.run_nd, ↓Tr.run_c3, ↓Tr.run_c2, ↓Tr.run_nx, ↓onS, bind_ite, Option.bind_some, Option.bind_none, obR, rCheck_eq c H, he, h0, if_false, Bool.false_eq_true, k1, k2, k3, if_true, Int.toNat_natCast]
    have hfill : ∀ {R : Type} {b : List Int × Int → Option ((List Int × Int) ⊕ (List Int ⊕ R))}, (∀ (j : Nat) (m : List Int), j < c.States.length → m.length = c.States.length → b (m, (j : Int)) = some (.inl (m.set j (-1), ((j + 1 : Nat) : Int)))) → (∀ m, b (m, (c.States.length : Int)) = some (.inr (.inl m))) →
        loopO b (List.replicate c.States.length 0, 0) = some (.inl (List.replicate c.States.length (-1))) := by
      intro R b hb hd
      have key : ∀ k j, j + k = c.States.length → loopO b (List.replicate j (-1) ++ List.replicate k 0, (j : Int)) = some (.inl (List.replicate c.States.length (-1))) := by
        intro k
        induction k with
        | zero =>
          intro j hk
          obtain rfl : j = c.States.length := by omega
          rw [loopO_eq, hd]; simp
        | succ k ih =>
          intro j hk
          rw [loopO_eq, hb j _ (by omega) (by simp; omega)]
          have e1 : (List.replicate j (-1 : Int) ++ List.replicate (k + 1) 0).set j (-1) = List.replicate (j + 1) (-1) ++ List.replicate k 0 := by
            rw [List.set_append_right _ _ (by simp), List.length_replicate, Nat.sub_self, List.replicate_succ, List.set_cons_zero, List.replicate_succ']; simp
          rw [e1]
          exact ih (j + 1) (by omega)
      simpa using key c.States.length 0 (by omega)
    refine on_l (hfill (fun j m hj hm => ?_) (fun m => by (simp only [lt_irr, decide_false, Bool.false_eq_true, if_false]; try rfl))) ?_
    · have h4 : subL m 0 c.States.length = m := subL_all hm
      simp only [inL hj, hj, decide_true, Int.toNat_natCast, if_true, h4, wr1 hj (by omega)]; rfl
    · have hb := mem_begin (c := c)
      have h4 : subL (List.replicate c.States.length (-1 : Int)) 0 c.States.length = List.replicate c.States.length (-1) := subL_all (by simp)
      obtain ⟨r1, r2⟩ := aroundS_ok G (a := []) hb (pathS c c.Start).tail tail_is
      have hend := (startS_ok G H).1
      have hmend := (validS_iff.1 hend).2.2.len
      have h5 : subL (aroundS c (pathS c c.Start).tail (List.replicate c.States.length (-1)) []).1 0 c.States.length = (aroundS c (pathS c c.Start).tail (List.replicate c.States.length (-1)) []).1 := subL_all r1.len
      have h6 : subL (startS c).2.1 0 c.States.length = (startS c).2.1 := subL_all hmend
      have h7 : (pathS c c.Start).tail.length ≤ 2000 := by rw [List.length_tail]; omega
      simp only [rPath_eq c H, Option.bind_some, Int.reduceLE, pathS_pos G.start, if_true, Int.toNat_one, tail_sub, h4, around0_eq G H tail_is h7 hb (a := []) (by simp), h5]
      rw [renter_eq G H G.start r1 (by simp at r2; omega)]
      simp only [Option.bind_some]
      show some (_, _, _, subL (startS c).2.1 0 c.States.length) = _
      rw [h6]; rfl
end Go.Av.Ch
