/- Plain laws of chart: what the package's functions that change a configuration compute. -/
import Derived.Test.YtlpdcjbkbcmahaaGreatDoorChG
set_option linter.unusedSimpArgs false
set_option linter.unusedVariables false
set_option maxRecDepth 100000
namespace Go.Av.Ch
theorem pass_eq {c : T48} (G : Good c) {x : Int} (hx : isS c x = true) {m : List Int} (M : MemOk c m) (leaf : Int) {a : List (List UInt8)} (ha : a.length ≤ 100000) : m132o0 x c leaf m a = some (m.set x.toNat (-1)) := by
  have he := G.entry x hx
  have hl := (isS_lt hx).2.2
  have h1 : (a.length + (c.States.getD x.toNat default).Entry.length) * 16 ≤ 140737488355328 := by unfold stA at he; omega
  have h2 : x < (m.length : Int) := by have := M.len; have := isS_iff.1 hx; omega
  have h3 : x.toNat < m.length := by have := M.len; omega
  delta m132o0 d132o0
  simp only [↓JD.sg_m, ↓JD.sq_m, ↓JD.sc_m, ↓JD.bk_m, ↓JD.lp_m, ↓JD.cd_m, ↓JD.lu_m, ↓JD.ct_m, ↓JD.ce_m, ↓JL.r_m, ↓JL.z_m, ↓JD.se_m, onE_r, ↓Tr.run, ↓Tr.run_nd, ↓Tr.run_c3, ↓Tr.run_c2, ↓Tr.run_nx, ↓onS, bind_ite, Option.bind_some, Option.bind_none, obR, isS_lt hx, h1, h2, h3, if_true]
  by_cases hh : (c.States.getD x.toNat default).History = true
  · simp only [hh, if_true]
  · have hh := Bool.eq_false_iff.2 hh
    simp only [hh, Bool.false_eq_true, if_false]
    rw [set_same h3 (M.none hx hh)]
theorem enter_eq {c : T48} (G : Good c) (H : Fit c) {x : Int} (hx : isS c x = true) {m : List Int} (M : MemOk c m) (leaf : Int) {a : List (List UInt8)} (ha : a.length ≤ 80000) : m133o0 x c leaf m a = some (enterS c x m a) := by
  have hs := H.states
  have hm := M.len
  delta m133o0 d133o0
  simp only [↓JD.sg_m, ↓JD.sq_m, ↓JD.sc_m, ↓JD.bk_m, ↓JD.lp_m, ↓JD.cd_m, ↓JD.lu_m, ↓JD.ct_m, ↓JD.ce_m, ↓JL.r_m, ↓JL.z_m, ↓JD.se_m, onE_r, ↓Tr.run, ↓Tr.run_nd, ↓Tr.run_c3, ↓Tr.run_c2, ↓Tr.run_nx, ↓onS, bind_ite, Option.bind_some, Option.bind_none, obR]
  refine enter_loop G (fun x m' a hx M' ha => ?_) _ _ _ _ hx M (by omega) (by omega)
  have hl := (isS_lt hx).2.2
  have h2 : x < (m.length : Int) := by have := isS_iff.1 hx; omega
  have h3 : x.toNat < m.length := by omega
  have h4 : subL m' 0 m.length = m' := subL_all (by rw [M'.len, hm])
  simp only [isS_lt hx, h2, h3, h4, implies_true, if_true, pass_eq G hx M' leaf ha, Option.bind_some]
  cases hc : comp c x with
  | true =>
    obtain ⟨q1, q2⟩ := child_is G (nextS_child G M' hx hc)
    have q3 := isS_iff.1 q1
    unfold nextS stA at *
    simp only [if_true]
    by_cases hh : ((c.States.getD x.toNat default).History && (m'.getD x.toNat default != (-1 : Int))) = true
    · rw [if_pos hh] at q3
      have : (m'.getD x.toNat default == (-1 : Int)) = false := by simp only [beq_eq_false_iff_ne, ne_eq]; omega
      simp only [hh, this, if_true, Bool.false_eq_true, if_false]
    · rw [if_neg hh] at q3
      have hh := Bool.eq_false_iff.2 hh
      have : ((c.States.getD x.toNat default).Initial == (-1 : Int)) = false := by simp only [beq_eq_false_iff_ne, ne_eq]; omega
      simp only [hh, this, if_true, Bool.false_eq_true, if_false]
  | false =>
    obtain ⟨q1, q2⟩ := G.leafI x hx hc
    unfold stA at *
    simp only [q1, q2, Bool.false_and, Bool.false_eq_true, if_false, beq_self_eq_true, if_true]
    rw [set_same (by rw [M'.len]; omega) (M'.none hx q2)]
theorem scope_eq {c : T48} (H : Fit c) {a b : Int} (ha : isS c a = true) (hb : isS c b = true) : m97 c a b = some (scopeS c a b) := by
  have hs := H.states
  have hla := pathS_len c a
  have hlb := pathS_len c b
  have hl : (pathS c b).tail.length ≤ 100000 := by rw [List.length_tail]; omega
  delta m97 d97
  simp only [↓JD.sg_m, ↓JD.sq_m, ↓JD.sc_m, ↓JD.bk_m, ↓JD.lp_m, ↓JD.cd_m, ↓JD.lu_m, ↓JD.ct_m, ↓JD.ce_m, ↓JL.r_m, ↓JL.z_m, ↓JD.se_m, onE_r, ↓Tr.run, ↓Tr.run_nd, ↓Tr.run_c3, ↓Tr.run_c2, ↓Tr.run_nx, ↓onS, bind_ite, Option.bind_some, Option.bind_none, obR, Path_eq c H, Option.bind_some, Int.reduceLE, pathS_pos ha, pathS_pos hb, if_true, onS_l, Int.toNat_one, tail_sub, containsI_eq _ _ hl]
  rw [show ((pathS c a).length - 1) = (pathS c a).tail.length by rw [List.length_tail]]
  rw [loop_ex (pathS c a).tail.length (fun i => if hasK (pathS c b).tail (pathS c b).tail.length ((pathS c a).tail.getD i default) = true then some ((pathS c a).tail.getD i default) else none) ?_ ?_, firstR_find, orK_getD]; rfl
  · intro i hi
    rw [List.length_tail] at hi
    have hi' : i < (pathS c a).tail.length := by rw [List.length_tail]; exact hi
    have hta : (pathS c a).tail.length ≤ 1000 := by rw [List.length_tail]; omega
    simp only [exB_ite, exB_some, exB_none]
    simp only [inL hi', decide_true, Int.toNat_natCast, if_true, wr1 hi' (by omega)]
  · (simp only [lt_irr, decide_false, Bool.false_eq_true, if_false]; try rfl)
/-- The loop that leaves states, in both packages. -/
theorem leave_key {c : T48} (G : Good c) (s : Int) {p : List Int} {S X : Type} {b : S → Option (S ⊕ X)} (mk : Int → Int → List Int → List (List UInt8) → S) (out : List Int × List (List UInt8) → X)
    (hb : ∀ (pre l : List Int) (x last : Int) (m : List Int) (a : List (List UInt8)), p = pre ++ x :: l → isS c x = true → MemOk c m → ((last = -1 ∧ (stA c x).History = false) ∨ childS c last x = true) → a.length ≤ 90000 →
      b (mk last (pre.length : Int) m a) = if (x == s) = true then some (.inr (out (m, a))) else some (.inl (mk x ((pre.length + 1 : Nat) : Int) (if ((stA c x).History && (last != (-1 : Int))) = true then m.set x.toNat last else m) (a ++ (stA c x).Exit))))
    (he : ∀ last m a, b (mk last (p.length : Int) m a) = some (.inr (out (m, a)))) :
    ∀ (n : Nat) (pre : List Int) (x last : Int) (m : List Int) (a : List (List UInt8)), p = pre ++ pathS c x → x.toNat ≤ n → isS c x = true → MemOk c m → ((last = -1 ∧ (stA c x).History = false) ∨ childS c last x = true) → a.length + 8 * (n + 1) ≤ 90000 →
      loopO b (mk last (pre.length : Int) m a) = some (out (leaveS c s (pathS c x) last m a)) := by
  intro n
  induction n with
  | zero =>
    intro pre x last m' a hpre hn hx M' hl ha
    have he8 := G.exit_ x hx
    rw [pathS_step hx] at hpre ⊢
    rw [loopO_eq, hb pre _ x last m' a hpre hx M' hl (by omega)]
    unfold leaveS
    by_cases hxs : (x == s) = true
    · simp only [hxs, if_true, Option.bind_some]
    · simp only [hxs, if_false, Bool.false_eq_true, Option.bind_some]
      cases ht : topB c x with
      | false => have := (parent_is G hx ht).2.1; omega
      | true =>
        rw [ht] at hpre
        simp only [if_true] at hpre ⊢
        rw [loopO_eq, show pre.length + 1 = p.length by rw [hpre]; simp, he]; rfl
  | succ n ih =>
    intro pre x last m' a hpre hn hx M' hl ha
    have he8 := G.exit_ x hx
    rw [pathS_step hx] at hpre ⊢
    rw [loopO_eq, hb pre _ x last m' a hpre hx M' hl (by omega)]
    unfold leaveS
    by_cases hxs : (x == s) = true
    · simp only [hxs, if_true, Option.bind_some]
    · simp only [hxs, if_false, Bool.false_eq_true, Option.bind_some]
      cases ht : topB c x with
      | true =>
        rw [ht] at hpre
        simp only [if_true] at hpre ⊢
        rw [loopO_eq, show pre.length + 1 = p.length by rw [hpre]; simp, he]; rfl
      | false =>
        obtain ⟨p1, p2, p3⟩ := parent_is G hx ht
        rw [ht] at hpre
        simp only [Bool.false_eq_true, if_false] at hpre ⊢
        have := ih (pre ++ [x]) (stA c x).Parent x _ (a ++ (stA c x).Exit) (by rw [hpre]; simp [stA]) (by omega) p1 (mem_leave M' hx (hl.imp (·.1) id)) (.inr p3) (by rw [List.length_append]; omega)
        rw [List.length_append] at this
        exact this
theorem leave_eq {c : T48} (G : Good c) (H : Fit c) (s : Int) {leaf : Int} (hx : isS c leaf = true) (hc : comp c leaf = false) {m : List Int} (M : MemOk c m) : m98o0 s c leaf m [] = some (leaveS c s (pathS c leaf) (-1) m []) := by
  have hs := H.states
  have hm := M.len
  have hp := pathS_len c leaf
  have hlf := (isS_lt hx).2.2
  have hh := (G.leafI leaf hx hc).2
  delta m98o0 d98o0
  simp only [↓JD.sg_m, ↓JD.sq_m, ↓JD.sc_m, ↓JD.bk_m, ↓JD.lp_m, ↓JD.cd_m, ↓JD.lu_m, ↓JD.ct_m, ↓JD.ce_m, ↓JL.r_m, ↓JL.z_m, ↓JD.se_m, onE_r, ↓Tr.run, ↓Tr.run_nd, ↓Tr.run_c3, ↓Tr.run_c2, ↓Tr.run_nx, ↓onS, bind_ite, Option.bind_some, Option.bind_none, obR, Path_eq c H, onS_l]
  generalize hP : pathS c leaf = p at *
  rw [show leaveS c s p (-1) m [] = leaveS c s (pathS c leaf) (-1) m [] by rw [hP]]
  refine leave_key G s (p := p) (fun last i m a => (last, i, m, a)) id (fun pre l x last m' a hpre hx M' hl ha => ?_) (fun last m' a => ?_) leaf.toNat [] leaf (-1) m [] (by rw [hP]; rfl) (Nat.le_refl _) hx M (.inl ⟨rfl, hh⟩) (by simp; omega)
  · have hi : pre.length < p.length := by rw [hpre]; simp
    have hg : p.getD pre.length default = x := by rw [hpre]; simp [List.getD_eq_getElem?_getD]
    have he8 := G.exit_ x hx
    have h1 : (a.length + (c.States.getD x.toNat default).Exit.length) * 16 ≤ 140737488355328 := by unfold stA at he8; omega
    have h2 : x < (m.length : Int) := by have := isS_iff.1 hx; omega
    have h3 : x.toNat < m.length := by have := (isS_lt hx).2.2; omega
    have h4 : subL m' 0 m.length = m' := subL_all (by rw [M'.len, hm])
    simp only [inL hi, decide_true, Int.toNat_natCast, if_true, hg, isS_lt hx, h1, h2, h3, h4, wr1 hi (by omega)]
    refine ite_else ?_
    unfold stA
    by_cases hh : ((c.States.getD x.toNat default).History && (last != (-1 : Int))) = true
    · simp only [hh, if_true]; rfl
    · simp only [hh, if_false, Bool.false_eq_true]; rfl
  · simp only [lt_irr, decide_false, Bool.false_eq_true, if_false]; rfl
theorem around_fold {c : T48} (G : Good c) {l : List Int} (hl : ∀ x ∈ l, isS c x = true) (h1 : l.length ≤ 2000) {m : List Int} (M : MemOk c m) {a : List (List UInt8)} (ha : a.length ≤ 60000) {f : List Int × List (List UInt8) → Nat → Option (List Int × List (List UInt8))}
    (hf : ∀ (x : Int) (i : Nat) (m' : List Int) (a' : List (List UInt8)), i < l.length → l.getD i 0 = x → isS c x = true → MemOk c m' → a'.length ≤ 100000 → f (m', a') i = some (m'.set x.toNat (-1), a' ++ (stA c x).Entry)) :
    (dn l.length l.length).foldlM f (m, a) = some (aroundS c l m a) := by
  have key : ∀ k, k ≤ l.length → (dn l.length k).foldlM f (m, a) = some (aroundS c (l.drop (l.length - k)) m a) := by
    intro k
    induction k with
    | zero => intro _; simp [dn, aroundS]
    | succ k ih =>
      intro hk
      have e : dn l.length (k + 1) = dn l.length k ++ [l.length - 1 - k] := by unfold dn; rw [List.range_succ, List.map_append]; rfl
      have hi : l.length - 1 - k < l.length := by omega
      have hd : l.drop (l.length - (k + 1)) = l.getD (l.length - 1 - k) 0 :: l.drop (l.length - k) := by
        rw [show l.length - (k + 1) = l.length - 1 - k by omega, List.drop_eq_getElem_cons hi, show l.length - 1 - k + 1 = l.length - k by omega]
        simp [List.getD_eq_getElem?_getD, List.getElem?_eq_getElem hi]
      have hx : isS c (l.getD (l.length - 1 - k) 0) = true := hl _ (by rw [List.getD_eq_getElem?_getD, List.getElem?_eq_getElem hi]; exact List.getElem_mem hi)
      obtain ⟨k1, k2⟩ := aroundS_ok G (a := a) M (l.drop (l.length - k)) fun x hx => hl x (List.mem_of_mem_drop hx)
      rw [e, List.foldlM_append, ih (by omega), hd]
      show (f _ _).bind _ = _
      rw [hf _ _ _ _ hi rfl hx k1 (by rw [List.length_drop] at k2; omega)]
      rfl
  have := key l.length (Nat.le_refl _)
  rwa [Nat.sub_self, List.drop_zero] at this
theorem into_eq {c : T48} (G : Good c) (H : Fit c) {to : Int} (ht : isS c to = true) (s : Int) (leaf : Int) {m : List Int} (M : MemOk c m) {a : List (List UInt8)} (ha : a.length ≤ 60000) :
    m81o0 to s c leaf m a = some (enterS c to (aroundS c (untilS s (pathS c to).tail) m a).1 (aroundS c (untilS s (pathS c to).tail) m a).2) := by
  have hs := H.states
  have hm := M.len
  have hp := pathS_len c to
  have hl : (pathS c to).tail.length ≤ 100000 := by rw [List.length_tail]; omega
  obtain ⟨u1, u2⟩ := until_eq (s := s) (pathS c to).tail
  have hu := untilS_len (s := s) (l := (pathS c to).tail)
  have e1 : (d81o0_1 to s c leaf m a).m = some (pathS c to).tail := by
    delta d81o0_1
    simp only [↓JD.sg_m, ↓JD.sq_m, ↓JD.sc_m, ↓JD.bk_m, ↓JD.lp_m, ↓JD.cd_m, ↓JD.lu_m, ↓JD.ct_m, ↓JD.ce_m, ↓JL.r_m, ↓JL.z_m, ↓JD.se_m, onE_r, ↓Tr.run, ↓Tr.run_nd, ↓Tr.run_c3, ↓Tr.run_c2, ↓Tr.run_nx, ↓onS, bind_ite, Option.bind_some, Option.bind_none, obR, Path_eq c H, Option.bind_some, Int.reduceLE, pathS_pos ht, if_true, Int.toNat_one, tail_sub]
  have e2 : (d81o0_2 to s c leaf m a (pathS c to).tail).m = some (untilS s (pathS c to).tail) := by
    delta d81o0_2
    simp only [↓JD.sg_m, ↓JD.sq_m, ↓JD.sc_m, ↓JD.bk_m, ↓JD.lp_m, ↓JD.cd_m, ↓JD.lu_m, ↓JD.ct_m, ↓JD.ce_m, ↓JL.r_m, ↓JL.z_m, ↓JD.se_m, onE_r, ↓Tr.run, ↓Tr.run_nd, ↓Tr.run_c3, ↓Tr.run_c2, ↓Tr.run_nx, ↓onS, bind_ite, Option.bind_some, Option.bind_none, obR, indexI_eq _ _ hl]
    rw [← u1]
    by_cases h0 : decide (0 ≤ findR (fun i => s == (pathS c to).tail.getD i default) (pathS c to).tail.length) = true
    · have h1 : 0 ≤ findR (fun i => s == (pathS c to).tail.getD i default) (pathS c to).tail.length := by simpa using h0
      simp only [h1, u2, decide_true, if_true]
    · simp only [h0, if_false, Bool.false_eq_true]
  have e3 : (d81o0_3 to s c leaf m a (pathS c to).tail (untilS s (pathS c to).tail)).m = some () := by
    delta d81o0_3
    simp only [↓JD.sg_m, ↓JD.sq_m, ↓JD.sc_m, ↓JD.bk_m, ↓JD.lp_m, ↓JD.cd_m, ↓JD.lu_m, ↓JD.ct_m, ↓JD.ce_m, ↓JL.r_m, ↓JL.z_m, ↓JD.se_m, onE_r, ↓Tr.run, ↓Tr.run_nd, ↓Tr.run_c3, ↓Tr.run_c2, ↓Tr.run_nx, ↓onS, bind_ite, Option.bind_some, Option.bind_none, obR, m131o0, d131o0]
  obtain ⟨r1, r2⟩ := aroundS_ok G (a := a) M (untilS s (pathS c to).tail) fun x hx => tail_is x (untilS_sub x hx)
  rw [List.length_tail] at hu
  delta m81o0
  rw [show (d81o0_0 to s c leaf m a).m = some () from rfl, Option.bind_some, e1, Option.bind_some, e2, Option.bind_some, e3, Option.bind_some, if_pos (by omega)]
  rw [around_fold G (fun x hx => tail_is x (untilS_sub x hx)) (by omega) M ha ?_, Option.bind_some]
  · delta d81o0_p
    have h4 : subL (aroundS c (untilS s (pathS c to).tail) m a).1 0 m.length = (aroundS c (untilS s (pathS c to).tail) m a).1 := subL_all (by rw [r1.len, hm])
    simp only [↓JD.sg_m, ↓JD.sq_m, ↓JD.sc_m, ↓JD.bk_m, ↓JD.lp_m, ↓JD.cd_m, ↓JD.lu_m, ↓JD.ct_m, ↓JD.ce_m, ↓JL.r_m, ↓JL.z_m, ↓JD.se_m, onE_r, ↓Tr.run, ↓Tr.run_nd, ↓Tr.run_c3, ↓Tr.run_c2, ↓Tr.run_nx, ↓onS, bind_ite, Option.bind_some, Option.bind_none, obR, h4, enter_eq G H ht r1 leaf (a := (aroundS c (untilS s (pathS c to).tail) m a).2) (by omega)]
  · intro x i m' a' hi hg hx M' ha'
    have h4 : subL m' 0 m.length = m' := subL_all (by rw [M'.len, hm])
    delta mr81o0
    simp only [hg, h4, pass_eq G hx M' leaf ha', Option.map_some]
theorem begun_eq {c : T48} (H : Fit c) {g : T71} (hl : g.Memory.length = c.States.length) : m80o0 c g = some () := by
  have hs := H.states
  have h1 : ((0 : Int) ≤ (g.Memory.length : Int)) := by omega
  have h2 : (g.Memory.length : Int) * 8 ≤ 140737488355328 := by omega
  have h3 : (g.Memory.length : Int) ≤ 9223372036854775807 := by omega
  delta m80o0 d80o0
  simp only [↓JD.sg_m, ↓JD.sq_m, ↓JD.sc_m, ↓JD.bk_m, ↓JD.lp_m, ↓JD.cd_m, ↓JD.lu_m, ↓JD.ct_m, ↓JD.ce_m, ↓JL.r_m, ↓JL.z_m, ↓JD.se_m, onE_r, ↓Tr.run, ↓Tr.run_nd, ↓Tr.run_c3, ↓Tr.run_c2, ↓Tr.run_nx, ↓onS, bind_ite, Option.bind_some, Option.bind_none, obR, h1, h2, h3, if_true]
theorem copyL_full {l : List Int} {n : Nat} (h : l.length = n) : copyL (List.replicate n (0 : Int)) l = l := by
  subst h
  rw [copyL, List.length_replicate, List.take_length, List.drop_eq_nil_of_le (by simp), List.append_nil]
/-- What chart.Fire gives of a valid chart and configuration. -/
theorem fire_of {c : T48} (G : Good c) (H : Fit c) {g : T71} (hg : validS c g = true) {i : Nat} (hi : i < c.Transitions.length) (he : checkM c = some 0) (hon : hasK (pathS c g.Leaf) (pathS c g.Leaf).length (c.Transitions.getD i default).From = true) :
    m56 c g i = some (⟨(fireS c g (c.Transitions.getD i default)).1, (fireS c g (c.Transitions.getD i default)).2.1⟩, (fireS c g (c.Transitions.getD i default)).2.2, 0) := by
  have hs := H.states
  obtain ⟨v1, v2, v3⟩ := validS_iff.1 hg
  have hml := v3.len
  have hp := pathS_len c g.Leaf
  have hlf := (isS_lt v1).2.2
  have ha := G.acts i hi
  obtain ⟨hf, ht⟩ := G.tr i hi
  obtain ⟨a1, a2⟩ := leaveS_ok G (s := scopeS c (c.Transitions.getD i default).From (c.Transitions.getD i default).To) g.Leaf.toNat g.Leaf (-1) g.Memory [] (Nat.le_refl _) v1 v3 (.inl rfl)
  simp only [List.length_nil] at a2
  have h16 : ((leaveS c (scopeS c (c.Transitions.getD i default).From (c.Transitions.getD i default).To) (pathS c g.Leaf) (-1) g.Memory []).2.length + (c.Transitions.getD i default).Actions.length) * 16 ≤ 140737488355328 := by omega
  have hsub : ∀ m : List Int, m.length = c.States.length → subL m 0 g.Memory.length = m := fun m h => subL_all (by rw [h, hml])
  have hrange : (decide ((i : Int) < 0) || decide ((c.Transitions.length : Int) ≤ (i : Int))) = false := by simp; omega
  have hend := (fireS_ok G H hg hi).1
  have hmend := (validS_iff.1 hend).2.2.len
  delta m56 d56
  simp only [↓JD.sg_m, ↓JD.sq_m, ↓JD.sc_m, ↓JD.bk_m, ↓JD.lp_m, ↓JD.cd_m, ↓JD.lu_m, ↓JD.ct_m, ↓JD.ce_m, ↓JL.r_m, ↓JL.z_m, ↓JD.se_m, onE_r, ↓Tr.run, ↓Tr.run_nd, ↓Tr.run_c3, ↓Tr.run_c2, ↓Tr.run_nx, ↓onS, bind_ite, Option.bind_some, Option.bind_none, obR, Check_eq c H, he, Valid_eq c H, hg, Path_eq c H, inL hi, Int.toNat_natCast, if_true, Option.bind_some, containsI_eq _ _ (show (pathS c g.Leaf).length ≤ 100000 by omega), hon, hrange, begun_eq H hml, scope_eq H hf ht, copyL_full (rfl : g.Memory.length = _), leave_eq G H _ v1 v2 v3, h16,
    hsub _ a1.len, bne_self_eq_false, Bool.not_true, Bool.false_eq_true, if_false]
  rw [into_eq G H ht _ _ a1 (by rw [List.length_append]; omega)]
  simp only [Option.bind_some]
  have := hsub _ hmend
  unfold fireS at this
  rw [this]
  rfl
/-- A transition of a valid configuration that is not at hand. -/
theorem fire_err {c : T48} (H : Fit c) {g : T71} {t : Int} : m56 c g t = (checkM c).bind fun e => if (e != 0) = true then some (⟨0, []⟩, [], e) else if (!validS c g) = true then some (⟨0, []⟩, [], 8) else if (decide (t < 0) || decide ((c.Transitions.length : Int) ≤ t)) = true then some (⟨0, []⟩, [], 2) else
    if (!hasK (pathS c g.Leaf) (pathS c g.Leaf).length (c.Transitions.getD t.toNat default).From) = true then some (⟨0, []⟩, [], 9) else some (⟨(fireS c g (c.Transitions.getD t.toNat default)).1, (fireS c g (c.Transitions.getD t.toNat default)).2.1⟩, (fireS c g (c.Transitions.getD t.toNat default)).2.2, 0) := by
  have hs := H.states
  have hp := pathS_len c g.Leaf
  obtain ⟨e, he⟩ := checkM_some c
  rw [he, Option.bind_some]
  by_cases h0 : (e != 0) = true
  · delta m56 d56
    simp only [↓JD.sg_m, ↓JD.sq_m, ↓JD.sc_m, ↓JD.bk_m, ↓JD.lp_m, ↓JD.cd_m, ↓JD.lu_m, ↓JD.ct_m, ↓JD.ce_m, ↓JL.r_m, ↓JL.z_m, ↓JD.se_m, onE_r, ↓Tr.run, ↓Tr.run_nd, ↓Tr.run_c3, ↓Tr.run_c2, ↓Tr.run_nx, ↓onS, bind_ite, Option.bind_some, Option.bind_none, obR, Check_eq c H, he, Option.bind_some, h0, if_true]
  have h0' : e = 0 := by simpa using h0
  subst h0'
  simp only [h0, if_false, Bool.false_eq_true]
  cases hv : validS c g with
  | false =>
    delta m56 d56
    simp only [↓JD.sg_m, ↓JD.sq_m, ↓JD.sc_m, ↓JD.bk_m, ↓JD.lp_m, ↓JD.cd_m, ↓JD.lu_m, ↓JD.ct_m, ↓JD.ce_m, ↓JL.r_m, ↓JL.z_m, ↓JD.se_m, onE_r, ↓Tr.run, ↓Tr.run_nd, ↓Tr.run_c3, ↓Tr.run_c2, ↓Tr.run_nx, ↓onS, bind_ite, Option.bind_some, Option.bind_none, obR, Check_eq c H, he, Option.bind_some, h0, if_false, Bool.false_eq_true, Valid_eq c H, hv, Bool.not_false, if_true]
  | true =>
    by_cases hr : (decide (t < 0) || decide ((c.Transitions.length : Int) ≤ t)) = true
    · delta m56 d56
      simp only [↓JD.sg_m, ↓JD.sq_m, ↓JD.sc_m, ↓JD.bk_m, ↓JD.lp_m, ↓JD.cd_m, ↓JD.lu_m, ↓JD.ct_m, ↓JD.ce_m, ↓JL.r_m, ↓JL.z_m, ↓JD.se_m, onE_r, ↓Tr.run, ↓Tr.run_nd, ↓Tr.run_c3, ↓Tr.run_c2, ↓Tr.run_nx, ↓onS, bind_ite, Option.bind_some, Option.bind_none, obR, Check_eq c H, he, Option.bind_some, h0, if_false, Bool.false_eq_true, Valid_eq c H, hv, Bool.not_true, hr, if_true]
    · have hr' := Bool.eq_false_iff.2 hr
      simp only [Bool.or_eq_false_iff, decide_eq_false_iff_not] at hr'
      obtain ⟨i, rfl⟩ := Int.eq_ofNat_of_zero_le (show 0 ≤ t by omega)
      have hi : i < c.Transitions.length := by omega
      cases hon : hasK (pathS c g.Leaf) (pathS c g.Leaf).length (c.Transitions.getD i default).From with
      | true => rw [fire_of (good_of he) H hv hi he hon]; simp only [hr, Int.toNat_natCast, hon, Bool.not_true, Bool.false_eq_true, if_false]
      | false =>
        delta m56 d56
        simp only [↓JD.sg_m, ↓JD.sq_m, ↓JD.sc_m, ↓JD.bk_m, ↓JD.lp_m, ↓JD.cd_m, ↓JD.lu_m, ↓JD.ct_m, ↓JD.ce_m, ↓JL.r_m, ↓JL.z_m, ↓JD.se_m, onE_r, ↓Tr.run, ↓Tr.run_nd, ↓Tr.run_c3, ↓Tr.run_c2, ↓Tr.run_nx, ↓onS, bind_ite, Option.bind_some, Option.bind_none, obR, Check_eq c H, he, Option.bind_some, h0, if_false, Bool.false_eq_true, Valid_eq c H, hv, Bool.not_true, hr, if_true, inL hi, Int.toNat_natCast, Path_eq c H, containsI_eq _ _ (show (pathS c g.Leaf).length ≤ 100000 by omega), hon, Bool.not_false]
end Go.Av.Ch
