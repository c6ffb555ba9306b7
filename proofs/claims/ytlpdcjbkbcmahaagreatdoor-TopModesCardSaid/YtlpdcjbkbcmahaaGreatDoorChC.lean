/- Plain laws of chart: paths, leaves, valuations, transitions, configurations. -/
import Derived.Test.YtlpdcjbkbcmahaaGreatDoorChB
set_option linter.unusedSimpArgs false
set_option linter.unusedVariables false
set_option maxRecDepth 100000
namespace Go.Av.Ch
/-! ### Paths -/
def topB (c : T48) (s : Int) : Bool := decide ((c.States.getD s.toNat default).Parent < 0) || decide (s ≤ (c.States.getD s.toNat default).Parent)
/-- The states around a state. -/
def pathT (c : T48) : Nat → Int → List Int
  | 0, _ => []
  | n + 1, s => if topB c s = true then [] else (c.States.getD s.toNat default).Parent :: pathT c n (c.States.getD s.toNat default).Parent
def pathS (c : T48) (s : Int) : List Int := if isS c s = true then s :: pathT c s.toNat s else []
theorem pathT_len (c : T48) : ∀ n s, (pathT c n s).length ≤ n
  | 0, _ => by simp [pathT]
  | n + 1, s => by
    unfold pathT
    split
    · simp
    · have := pathT_len c n (c.States.getD s.toNat default).Parent
      simp only [List.length_cons]; omega
theorem pathS_len (c : T48) (s : Int) : (pathS c s).length ≤ c.States.length := by
  unfold pathS
  split
  · rename_i h
    have := isS_iff.1 h
    have := pathT_len c s.toNat s
    simp only [List.length_cons]; omega
  · simp
theorem topB_false {c : T48} {s : Int} (h : topB c s = false) : 0 ≤ (c.States.getD s.toNat default).Parent ∧ (c.States.getD s.toNat default).Parent < s := by
  simp only [topB, Bool.or_eq_false_iff, decide_eq_false_iff_not] at h; omega
theorem pathT_fuel (c : T48) : ∀ n m s, 0 ≤ s → s.toNat ≤ n → s.toNat ≤ m → pathT c n s = pathT c m s := by
  intro n
  induction n with
  | zero =>
    intro m s h0 hn hm
    cases m with
    | zero => rfl
    | succ m =>
      unfold pathT
      cases ht : topB c s with
      | true => simp
      | false => have := topB_false ht; omega
  | succ n ih =>
    intro m s h0 hn hm
    cases ht : topB c s with
    | true =>
      cases m with
      | zero => unfold pathT; simp [ht]
      | succ m => unfold pathT; simp [ht]
    | false =>
      have := topB_false ht
      cases m with
      | zero => omega
      | succ m =>
        unfold pathT
        simp only [ht, Bool.false_eq_true, if_false]
        rw [ih m _ this.1 (by omega) (by omega)]
theorem pathS_step {c : T48} {s : Int} (h : isS c s = true) : pathS c s = s :: if topB c s = true then [] else pathS c (c.States.getD s.toNat default).Parent := by
  have hs := isS_iff.1 h
  unfold pathS
  rw [if_pos h, pathT_fuel c s.toNat (s.toNat + 1) s hs.1 (Nat.le_refl _) (by omega)]
  congr 1
  show (if topB c s = true then [] else (c.States.getD s.toNat default).Parent :: pathT c s.toNat (c.States.getD s.toNat default).Parent) = _
  cases ht : topB c s with
  | true => rfl
  | false =>
    have hp := topB_false ht
    simp only [Bool.false_eq_true, if_false]
    rw [if_pos (isS_iff.2 ⟨hp.1, by omega⟩), pathT_fuel c s.toNat (c.States.getD s.toNat default).Parent.toNat _ hp.1 (by omega) (Nat.le_refl _)]
theorem pathS_is {c : T48} : ∀ (n : Nat) (s : Int), s.toNat ≤ n → ∀ x ∈ pathS c s, isS c x = true ∧ x ≤ s := by
  intro n
  induction n with
  | zero =>
    intro s hn x hx
    cases h : isS c s with
    | false => unfold pathS at hx; rw [if_neg (by rw [h]; decide)] at hx; cases hx
    | true =>
      have hs := isS_iff.1 h
      rw [pathS_step h] at hx
      cases ht : topB c s with
      | true => rw [ht] at hx; simp at hx; subst hx; exact ⟨h, Int.le_refl _⟩
      | false => have := topB_false ht; omega
  | succ n ih =>
    intro s hn x hx
    cases h : isS c s with
    | false => unfold pathS at hx; rw [if_neg (by rw [h]; decide)] at hx; cases hx
    | true =>
      rw [pathS_step h] at hx
      rcases List.mem_cons.1 hx with rfl | hx
      · exact ⟨h, Int.le_refl _⟩
      · cases ht : topB c s with
        | true => rw [ht] at hx; simp at hx
        | false =>
          have := topB_false ht
          rw [ht] at hx
          have := ih _ (by omega) x hx
          exact ⟨this.1, by omega⟩
theorem path_loop {c : T48} {b : Int × List Int → Option ((Int × List Int) ⊕ List Int)}
    (hb : ∀ (s : Int) (acc : List Int), 0 ≤ s → s < c.States.length → b (s, acc) = if topB c s = true then some (.inr acc) else if (acc.length + 1) * 8 ≤ 140737488355328 then some (.inl ((c.States.getD s.toNat default).Parent, acc ++ [(c.States.getD s.toNat default).Parent])) else none) :
    ∀ (n : Nat) (s : Int) (acc : List Int), 0 ≤ s → s < c.States.length → s.toNat ≤ n → acc.length + n ≤ 100000 → loopO b (s, acc) = some (acc ++ pathT c n s) := by
  intro n
  induction n with
  | zero =>
    intro s acc h0 h1 hn hl
    rw [loopO_eq, hb s acc h0 h1]
    cases ht : topB c s with
    | true => simp [pathT]
    | false => have := topB_false ht; omega
  | succ n ih =>
    intro s acc h0 h1 hn hl
    rw [loopO_eq, hb s acc h0 h1]
    unfold pathT
    cases ht : topB c s with
    | true => simp
    | false =>
      have hp := topB_false ht
      have h8 : (acc.length + 1) * 8 ≤ 140737488355328 := by omega
      simp only [Bool.false_eq_true, if_false, if_pos h8, Option.bind_some]
      rw [ih _ _ hp.1 (by omega) (by omega) (by simp only [List.length_append, List.length_cons, List.length_nil]; omega)]
      simp
theorem Path_eq (c : T48) (H : Fit c) (s : Int) : m95 c s = some (pathS c s) := by
  have hs := H.states
  delta m95 d95
  simp only [↓JD.sg_m, ↓JD.sq_m, ↓JD.sc_m, ↓JD.bk_m, ↓JD.lp_m, ↓JD.cd_m, ↓JD.lu_m, ↓JD.ct_m, ↓JD.ce_m, ↓JL.r_m, ↓JL.z_m, ↓JD.se_m, onE_r, ↓Tr.run, ↓Tr.run_nd, ↓Tr.run_c3, ↓Tr.run_c2, ↓Tr.run_nx, ↓onS, bind_ite, Option.bind_some, Option.bind_none, obR, is_eq]
  unfold pathS
  cases h : isS c s with
  | false => rfl
  | true =>
    have hi := isS_iff.1 h
    simp only [Bool.not_true, Bool.false_eq_true, if_false, if_true]
    rw [path_loop (c := c) (fun s acc h0 h1 => ?_) s.toNat s [s] hi.1 hi.2 (Nat.le_refl _) (by simp; omega)]
    · simp
    · simp only [h0, h1, if_true]; rfl
/-! ### Leaves -/
def leafG (c : T48) (i : Nat) : List Int := if comp c i = true then [] else [(i : Int)]
def leavesS (c : T48) : List Int := (List.range c.States.length).flatMap (leafG c)
theorem leafG_len (c : T48) (i : Nat) : (leafG c i).length ≤ 1 := by unfold leafG; split <;> simp
theorem leavesS_iff {c : T48} {x : Int} : x ∈ leavesS c ↔ isS c x = true ∧ comp c x = false := by
  unfold leavesS leafG
  rw [List.mem_flatMap, isS_iff]
  constructor
  · rintro ⟨i, hi, hx⟩
    rw [List.mem_range] at hi
    split at hx
    · cases hx
    · rename_i h; simp only [List.mem_singleton] at hx; subst hx; exact ⟨by omega, by simpa using h⟩
  · rintro ⟨h1, h2⟩
    refine ⟨x.toNat, List.mem_range.2 (by omega), ?_⟩
    rw [Int.toNat_of_nonneg h1.1, if_neg (by rw [h2]; decide)]; simp
/-! ### Valuations -/
def bitV (v : Int) (k : Nat) : Bool := IntKind.u16.wrap ((BitVec.ofInt IntKind.u16.bits (v.fdiv (2 ^ min k IntKind.u16.bits)) &&& BitVec.ofInt IntKind.u16.bits 1).toNat : Int) == 1
theorem bitV_eq {v : Int} {k : Nat} (h0 : 0 ≤ v) (hk : k ≤ 16) : bitV v k = v.toNat.testBit k := by
  obtain ⟨n, rfl⟩ := Int.eq_ofNat_of_zero_le h0
  unfold bitV
  have e1 : min k IntKind.u16.bits = k := by show min k 16 = k; omega
  have e2 : (n : Int).fdiv (2 ^ k) = ((n / 2 ^ k : Nat) : Int) := by
    rw [Int.fdiv_eq_ediv_of_nonneg _ (Int.le_of_lt (Int.pow_pos (by omega)))]
    push_cast
    rfl
  rw [e1, e2]
  have e3 : (BitVec.ofInt IntKind.u16.bits ((n / 2 ^ k : Nat) : Int) &&& BitVec.ofInt IntKind.u16.bits 1).toNat = n / 2 ^ k % 2 := by
    show (BitVec.ofInt 16 ((n / 2 ^ k : Nat) : Int) &&& 1#16).toNat = _
    rw [BitVec.ofInt_natCast, BitVec.toNat_and, BitVec.toNat_ofNat]
    show n / 2 ^ k % 65536 &&& 1 = _
    rw [Nat.and_one_is_mod]
    omega
  rw [e3]
  have e4 : IntKind.u16.wrap ((n / 2 ^ k % 2 : Nat) : Int) = ((n / 2 ^ k % 2 : Nat) : Int) := by
    have : n / 2 ^ k % 2 < 2 := Nat.mod_lt _ (by omega)
    generalize n / 2 ^ k % 2 = m at *
    match m, this with
    | 0, _ => rfl
    | 1, _ => rfl
  rw [e4, Int.toNat_natCast, Nat.testBit_eq_decide_div_mod_eq, Bool.eq_iff_iff, beq_iff_eq, decide_eq_true_eq]
  omega
/-- A literal does not hold. -/
def litN (v : Int) (x : T176) : Bool := decide (x.Cond < 0) || decide (15 < x.Cond) || bitV v x.Cond.toNat == x.Neg
def holdsS (l : List T176) (v : Int) : Bool := !anyR (fun i => litN v (l.getD i default)) l.length
theorem holds_loop {l : List T176} {v : Int} (hl : l.length ≤ 100000) {b : Int → Option (Int ⊕ (Unit ⊕ Bool))} (hb : ∀ i : Nat, i < l.length → b i = exB (if litN v (l.getD i default) = true then some false else none) ((i : Int) + 1)) (hd : b l.length = some (.inr (.inl ()))) :
    (loopO b 0).bind (onS fun _ => some true) = some (holdsS l v) := by
  rw [loop_ex l.length _ hb hd, firstR_const, holdsS]
  cases anyR (fun i => litN v (l.getD i default)) l.length <;> rfl
theorem Holds_eq (l : List T176) (v : Int) (hl : l.length ≤ 100000) : m94 l v = some (holdsS l v) := by
  delta m94 d94
  simp only [↓JD.sg_m, ↓JD.sq_m, ↓JD.sc_m, ↓JD.bk_m, ↓JD.lp_m, ↓JD.cd_m, ↓JD.lu_m, ↓JD.ct_m, ↓JD.ce_m, ↓JL.r_m, ↓JL.z_m, ↓JD.se_m, onE_r, ↓Tr.run, ↓Tr.run_nd, ↓Tr.run_c3, ↓Tr.run_c2, ↓Tr.run_nx, ↓onS, bind_ite, Option.bind_some, Option.bind_none, obR]
  refine holds_loop hl (fun i hi => ?_) (by (simp only [lt_irr, decide_false, Bool.false_eq_true, if_false]; try rfl))
  have h1 := eq_true (show (!(decide ((l.getD i default).Cond < 0) || decide (15 < (l.getD i default).Cond))) = true → 0 ≤ (l.getD i default).Cond from fun h => by simp only [Bool.not_eq_true', Bool.or_eq_false_iff, decide_eq_false_iff_not] at h; omega)
  (simp only [exB_ite, exB_some, exB_none]; simp only [h1, inL hi, decide_true, Int.toNat_natCast, if_true, implies_true, wr1 hi (by omega)]; try rfl)
def wideB (c : T48) (v : Int) : Bool := decide ((c.Conds.length : Int) < 16) && (v.fdiv (2 ^ min (c.Conds.length : Int).toNat IntKind.u16.bits) != 0)
def allowedS (c : T48) (v : Int) : Bool := !wideB c v && !anyR (fun i => holdsS (c.Never.getD i default) v) c.Never.length
theorem Allowed_eq (c : T48) (H : Fit c) (v : Int) : m54 c v = some (allowedS c v) := by
  have hn := H.never
  have e : m142o0 c.Never v = some (findR (fun i => holdsS (c.Never.getD i default) v) c.Never.length) := by
    delta m142o0 d142o0
    simp only [↓JD.sg_m, ↓JD.sq_m, ↓JD.sc_m, ↓JD.bk_m, ↓JD.lp_m, ↓JD.cd_m, ↓JD.lu_m, ↓JD.ct_m, ↓JD.ce_m, ↓JL.r_m, ↓JL.z_m, ↓JD.se_m, onE_r, ↓Tr.run, ↓Tr.run_nd, ↓Tr.run_c3, ↓Tr.run_c2, ↓Tr.run_nx, ↓onS, bind_ite, Option.bind_some, Option.bind_none, obR, m93o0, d93o0]
    refine idx_loop (fun i hi => ?_) (by (simp only [lt_irr, decide_false, Bool.false_eq_true, if_false]; try rfl))
    have hl := H.lits _ (getD_mem hi)
    (simp only [exB_ite, exB_some, exB_none]; simp only [Holds_eq _ _ (Nat.le_trans hl (by omega)), Option.bind_some, inL hi, decide_true, Int.toNat_natCast, if_true, implies_true, wr1 hi (by omega)]; try rfl)
  have h1 := eq_true (show decide ((c.Conds.length : Int) < 16) = true → (0 : Int) ≤ (c.Conds.length : Int) from fun _ => by omega)
  delta m54 d54
  simp only [↓JD.sg_m, ↓JD.sq_m, ↓JD.sc_m, ↓JD.bk_m, ↓JD.lp_m, ↓JD.cd_m, ↓JD.lu_m, ↓JD.ct_m, ↓JD.ce_m, ↓JL.r_m, ↓JL.z_m, ↓JD.se_m, onE_r, ↓Tr.run, ↓Tr.run_nd, ↓Tr.run_c3, ↓Tr.run_c2, ↓Tr.run_nx, ↓onS, bind_ite, Option.bind_some, Option.bind_none, obR, m92o0, d92o0, e, findR_any, h1, if_true]
  unfold allowedS
  cases hw : wideB c v with
  | true => unfold wideB at hw; simp only [hw, if_true]; rfl
  | false => unfold wideB at hw; simp only [hw, if_false, Bool.false_eq_true]; rfl
theorem wide_any {c : T48} {v : Int} (h0 : 0 ≤ v) (h1 : v < 65536) : anyR (fun i => decide ((c.Conds.length : Int) ≤ (i : Int)) && bitV v i) 16 = wideB c v := by
  obtain ⟨n, rfl⟩ := Int.eq_ofNat_of_zero_le h0
  generalize hk : c.Conds.length = k
  unfold wideB
  rw [Bool.eq_iff_iff, anyR_iff, hk, Int.toNat_natCast]
  have e2 : k < 16 → (n : Int).fdiv (2 ^ min k IntKind.u16.bits) = ((n / 2 ^ k : Nat) : Int) := fun hk16 => by
    have e1 : min k IntKind.u16.bits = k := by show min k 16 = k; omega
    rw [e1, Int.fdiv_eq_ediv_of_nonneg _ (Int.le_of_lt (Int.pow_pos (by omega)))]
    push_cast
    rfl
  constructor
  · rintro ⟨i, hi, h⟩
    simp only [Bool.and_eq_true, decide_eq_true_eq] at h
    obtain ⟨h2, h3⟩ := h
    rw [bitV_eq h0 (by omega), Int.toNat_natCast] at h3
    have hk16 : k < 16 := by omega
    simp only [Bool.and_eq_true, decide_eq_true_eq, bne_iff_ne, ne_eq]
    refine ⟨by omega, ?_⟩
    rw [e2 hk16]
    intro hz
    have hz : n / 2 ^ k = 0 := by omega
    have hlt : n < 2 ^ k := by
      rcases Nat.div_eq_zero_iff.1 hz with h | h
      · have := Nat.two_pow_pos k; omega
      · exact h
    have := Nat.testBit_lt_two_pow (Nat.lt_of_lt_of_le hlt (Nat.pow_le_pow_right (by omega) (show k ≤ i by omega)))
    rw [this] at h3; cases h3
  · intro h
    simp only [Bool.and_eq_true, decide_eq_true_eq, bne_iff_ne, ne_eq] at h
    obtain ⟨h2, h3⟩ := h
    have hk16 : k < 16 := by omega
    rw [e2 hk16] at h3
    have h3 : n / 2 ^ k ≠ 0 := by omega
    apply Classical.byContradiction
    intro hno
    apply h3
    apply Nat.eq_of_testBit_eq
    intro j
    rw [Nat.testBit_div_two_pow, Nat.zero_testBit]
    rcases Nat.lt_or_ge (j + k) 16 with hj | hj
    · cases hb : n.testBit (j + k) with
      | false => rfl
      | true =>
        exfalso
        refine hno ⟨j + k, hj, ?_⟩
        simp only [Bool.and_eq_true, decide_eq_true_eq]
        exact ⟨by omega, by rw [bitV_eq h0 (by omega), Int.toNat_natCast]; exact hb⟩
    · exact Nat.testBit_lt_two_pow (Nat.lt_of_lt_of_le (show n < 2 ^ 16 by omega) (Nat.pow_le_pow_right (by omega) hj))
/-! ### Transitions -/
def enabG (c : T48) (p : List Int) (v : Int) (i : Nat) : List Int := if (hasK p p.length (c.Transitions.getD i default).From && holdsS (c.Transitions.getD i default).When v) = true then [(i : Int)] else []
def enabledS (c : T48) (leaf v : Int) : List Int := (List.range c.Transitions.length).flatMap (enabG c (pathS c leaf) v)
theorem enabG_len (c : T48) (p : List Int) (v : Int) (i : Nat) : (enabG c p v i).length ≤ 1 := by unfold enabG; split <;> simp
theorem enabledS_len (c : T48) (leaf v : Int) : (enabledS c leaf v).length ≤ c.Transitions.length := by
  have := flatMap_len (enabG_len c (pathS c leaf) v) c.Transitions.length; unfold enabledS; omega
theorem Enabled_eq (c : T48) (H : Fit c) (leaf v : Int) : m55 c leaf v = some (enabledS c leaf v) := by
  have hs := H.states
  have ht := H.trans
  have hp := pathS_len c leaf
  delta m55 d55
  simp only [↓JD.sg_m, ↓JD.sq_m, ↓JD.sc_m, ↓JD.bk_m, ↓JD.lp_m, ↓JD.cd_m, ↓JD.lu_m, ↓JD.ct_m, ↓JD.ce_m, ↓JL.r_m, ↓JL.z_m, ↓JD.se_m, onE_r, ↓Tr.run, ↓Tr.run_nd, ↓Tr.run_c3, ↓Tr.run_c2, ↓Tr.run_nx, ↓onS, bind_ite, Option.bind_some, Option.bind_none, obR, Path_eq c H, onS_l]
  refine on_l (loop_coll c.Transitions.length (fun i l => (l, (i : Int))) (enabG c (pathS c leaf) v) Sum.inl (fun i hi => ?_) (by (simp only [lt_irr, decide_false, Bool.false_eq_true, if_false]; try rfl))) rfl
  have hl := flatMap_len (enabG_len c (pathS c leaf) v) i
  have h3 : (((List.range i).flatMap (enabG c (pathS c leaf) v)).length + 1) * 8 ≤ 140737488355328 := by omega
  have hw := H.when_ _ (getD_mem hi)
  simp only [inL hi, decide_true, h3, Int.toNat_natCast, if_true, wr1 hi (by omega), containsI_eq _ _ (show (pathS c leaf).length ≤ 100000 by omega), Holds_eq _ _ (Nat.le_trans hw (by omega)), Option.bind_some, enabG]
  cases hasK (pathS c leaf) (pathS c leaf).length (c.Transitions.getD i default).From with
  | false => simp
  | true => cases holdsS (c.Transitions.getD i default).When v <;> simp
end Go.Av.Ch
