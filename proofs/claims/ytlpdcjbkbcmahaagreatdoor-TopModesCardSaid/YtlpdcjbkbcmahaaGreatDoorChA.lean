/- Plain laws of chart: names, lists, states. -/
import Derived.Test.YtlpdcjbkbcmahaaGreatDoorFnZ
import Derived.Test.YtlpdcjbkbcmahaaGreatDoorPl
set_option linter.unusedVariables false
set_option linter.unusedSimpArgs false
set_option maxRecDepth 100000
namespace Go.Av.Ch
/-- A byte that stands in no name. -/
def odd1 (c : Int) : Bool := (decide (c < 65) || decide (90 < c)) && (decide (c < 48) || decide (57 < c))
def nm0 (s : List UInt8) : Bool := decide (s.length = 0) || decide (8 < s.length) || decide (byteAt s 0 < 65) || decide (90 < byteAt s 0)
def nm (s : List UInt8) : Bool := !nm0 s && !anyR (fun i => odd1 (byteAt s i)) s.length
theorem nm_len {s : List UInt8} (h : nm s = true) : 0 < s.length ∧ s.length ≤ 8 := by
  simp only [nm, nm0, Bool.and_eq_true, Bool.not_eq_true', Bool.or_eq_false_iff, decide_eq_false_iff_not] at h
  omega
/-- The loop of both packages over the bytes of a name. -/
theorem nm_loop {s : List UInt8} (hl : s.length ≤ 8) {b : Int → Option (Int ⊕ (Unit ⊕ Bool))} (hb : ∀ i : Nat, i < s.length → b i = exB (if odd1 (byteAt s i) = true then some false else none) ((i : Int) + 1)) (hd : b s.length = some (.inr (.inl ()))) :
    (loopO b 0).bind (onS fun _ => some true) = some (!anyR (fun i => odd1 (byteAt s i)) s.length) := by
  rw [loop_ex s.length _ hb hd, firstR_const]
  cases anyR (fun i => odd1 (byteAt s i)) s.length <;> rfl
theorem nm_rname (s : List UInt8) : m137 s 8 = some (nm s) := by
  have e0 : (((s.length : Int) == (0 : Int)) || (decide ((8 : Int) < (s.length : Int)))) = (decide (s.length = 0) || decide (8 < s.length)) := by
    rw [Bool.eq_iff_iff]; simp only [Bool.or_eq_true, decide_eq_true_eq, beq_iff_eq]; omega
  delta m137 d137
  simp only [↓JD.sg_m, ↓JD.sq_m, ↓JD.sc_m, ↓JD.bk_m, ↓JD.lp_m, ↓JD.cd_m, ↓JD.lu_m, ↓JD.ct_m, ↓JD.ce_m, ↓JL.r_m, ↓JL.z_m, ↓JD.se_m, onE_r, ↓Tr.run, ↓Tr.run_nd, ↓Tr.run_c3, ↓Tr.run_c2, ↓Tr.run_nx, ↓onS, bind_ite, Option.bind_some, Option.bind_none, obR, e0, Int.toNat_zero, Int.le_refl, implies_true, if_true]
  cases h1 : (decide (s.length = 0) || decide (8 < s.length)) with
  | true => simp only [Bool.true_or, Bool.not_true, Bool.false_eq_true, false_implies, if_true, nm, nm0, h1, Bool.false_and]
  | false =>
    have hl : s.length ≤ 8 ∧ 0 < s.length := by simp only [Bool.or_eq_false_iff, decide_eq_false_iff_not] at h1; omega
    have z2 : (0 : Int) < s.length := by omega
    simp only [Bool.false_or, z2, implies_true, if_true, nm, nm0, h1]
    cases h2 : (decide (byteAt s 0 < 65) || decide (90 < byteAt s 0)) with
    | true => rfl
    | false =>
      simp only [Bool.false_eq_true, if_false, Bool.not_false, Bool.true_and]
      refine nm_loop hl.1 (fun i hi => ?_) ?_
      · (simp only [exB_ite, exB_some, exB_none]; simp only [inL hi, decide_true, Int.toNat_natCast, if_true, implies_true, wr1 hi (by omega)]; try rfl)
      · (simp only [lt_irr, decide_false, Bool.false_eq_true, if_false]; try rfl)
theorem nm_name (s : List UInt8) : m85 s = some (nm s) := by
  delta m85 d85
  simp only [↓JD.sg_m, ↓JD.sq_m, ↓JD.sc_m, ↓JD.bk_m, ↓JD.lp_m, ↓JD.cd_m, ↓JD.lu_m, ↓JD.ct_m, ↓JD.ce_m, ↓JL.r_m, ↓JL.z_m, ↓JD.se_m, onE_r, ↓Tr.run, ↓Tr.run_nd, ↓Tr.run_c3, ↓Tr.run_c2, ↓Tr.run_nx, ↓onS, bind_ite, Option.bind_some, Option.bind_none, obR, nm_rname]
/-- x stands among the first k of l. -/
def hasK {α : Type} [BEq α] [Inhabited α] (l : List α) (k : Nat) (x : α) : Bool := anyR (fun i => x == l.getD i default) k
theorem hasK_sub {α : Type} [BEq α] [Inhabited α] {l : List α} {k : Nat} {x : α} : hasK (subL l 0 k) k x = hasK l k x := anyR_congr fun i hi => by rw [subL_getD hi]
theorem hasK_iff {α : Type} [BEq α] [LawfulBEq α] [Inhabited α] {l : List α} {x : α} : hasK l l.length x = true ↔ x ∈ l := by
  unfold hasK
  rw [anyR_iff]
  constructor
  · rintro ⟨i, hi, h⟩
    rw [eq_of_beq h]; exact getD_mem hi
  · intro h
    obtain ⟨i, hi, h⟩ := List.getElem_of_mem h
    exact ⟨i, hi, by simp [List.getD_eq_getElem?_getD, List.getElem?_eq_getElem hi, h]⟩
/-- A loop that looks for the first index. -/
theorem idx_loop {n : Nat} {F : Nat → Bool} {b : Int → Option (Int ⊕ (Unit ⊕ Int))} (hb : ∀ i : Nat, i < n → b i = exB (if F i = true then some (i : Int) else none) ((i : Int) + 1)) (hd : b n = some (.inr (.inl ()))) :
    (loopO b 0).bind (onS fun _ => some (-1)) = some (findR F n) := by
  rw [loop_ex n _ hb hd, orK_getD]; rfl
theorem containsS_eq (l : List (List UInt8)) (x : List UInt8) (hl : l.length ≤ 100000) : m118 l x = some (hasK l l.length x) := by
  have e : m50 l x = some (findR (fun i => x == l.getD i default) l.length) := by
    delta m50 d50
    simp only [↓JD.sg_m, ↓JD.sq_m, ↓JD.sc_m, ↓JD.bk_m, ↓JD.lp_m, ↓JD.cd_m, ↓JD.lu_m, ↓JD.ct_m, ↓JD.ce_m, ↓JL.r_m, ↓JL.z_m, ↓JD.se_m, onE_r, ↓Tr.run, ↓Tr.run_nd, ↓Tr.run_c3, ↓Tr.run_c2, ↓Tr.run_nx, ↓onS, bind_ite, Option.bind_some, Option.bind_none, obR]
    refine idx_loop (fun i hi => ?_) ?_
    · (simp only [exB_ite, exB_some, exB_none]; simp only [inL hi, decide_true, Int.toNat_natCast, if_true, implies_true, wr1 hi (by omega)]; try rfl)
    · (simp only [lt_irr, decide_false, Bool.false_eq_true, if_false]; try rfl)
  delta m118 d118
  simp only [↓JD.sg_m, ↓JD.sq_m, ↓JD.sc_m, ↓JD.bk_m, ↓JD.lp_m, ↓JD.cd_m, ↓JD.lu_m, ↓JD.ct_m, ↓JD.ce_m, ↓JL.r_m, ↓JL.z_m, ↓JD.se_m, onE_r, ↓Tr.run, ↓Tr.run_nd, ↓Tr.run_c3, ↓Tr.run_c2, ↓Tr.run_nx, ↓onS, bind_ite, Option.bind_some, Option.bind_none, obR, e, findR_any, hasK]
theorem indexI_eq (l : List Int) (x : Int) (hl : l.length ≤ 100000) : m130 l x = some (findR (fun i => x == l.getD i default) l.length) := by
  delta m130 d130
  simp only [↓JD.sg_m, ↓JD.sq_m, ↓JD.sc_m, ↓JD.bk_m, ↓JD.lp_m, ↓JD.cd_m, ↓JD.lu_m, ↓JD.ct_m, ↓JD.ce_m, ↓JL.r_m, ↓JL.z_m, ↓JD.se_m, onE_r, ↓Tr.run, ↓Tr.run_nd, ↓Tr.run_c3, ↓Tr.run_c2, ↓Tr.run_nx, ↓onS, bind_ite, Option.bind_some, Option.bind_none, obR]
  refine idx_loop (fun i hi => ?_) ?_
  · (simp only [exB_ite, exB_some, exB_none]; simp only [inL hi, decide_true, Int.toNat_natCast, if_true, implies_true, wr1 hi (by omega)]; try rfl)
  · (simp only [lt_irr, decide_false, Bool.false_eq_true, if_false]; try rfl)
theorem containsI_eq (l : List Int) (x : Int) (hl : l.length ≤ 100000) : m96 l x = some (hasK l l.length x) := by
  delta m96 d96
  simp only [↓JD.sg_m, ↓JD.sq_m, ↓JD.sc_m, ↓JD.bk_m, ↓JD.lp_m, ↓JD.cd_m, ↓JD.lu_m, ↓JD.ct_m, ↓JD.ce_m, ↓JL.r_m, ↓JL.z_m, ↓JD.se_m, onE_r, ↓Tr.run, ↓Tr.run_nd, ↓Tr.run_c3, ↓Tr.run_c2, ↓Tr.run_nx, ↓onS, bind_ite, Option.bind_some, Option.bind_none, obR, indexI_eq l x hl, findR_any, hasK]
/-- The first error of a name that must differ from those ahead of it. -/
def listedS (l : List (List UInt8)) (i : Nat) : Int := if (!nm (l.getD i default)) = true then 5 else if hasK l i (l.getD i default) = true then 7 else 0
theorem listed_eq (l : List (List UInt8)) (i : Nat) (hi : i < l.length) (hl : l.length ≤ 100000) : m86 l i = some (listedS l i) := by
  have e := containsS_eq (subL l 0 i) (l.getD i default) (by rw [subL_len]; omega)
  rw [subL_len, hasK_sub] at e
  delta m86 d86
  simp only [↓JD.sg_m, ↓JD.sq_m, ↓JD.sc_m, ↓JD.bk_m, ↓JD.lp_m, ↓JD.cd_m, ↓JD.lu_m, ↓JD.ct_m, ↓JD.ce_m, ↓JL.r_m, ↓JL.z_m, ↓JD.se_m, onE_r, ↓Tr.run, ↓Tr.run_nd, ↓Tr.run_c3, ↓Tr.run_c2, ↓Tr.run_nx, ↓onS, bind_ite, Option.bind_some, Option.bind_none, obR, inL hi, Int.toNat_natCast, if_true, nm_name, e, listedS, some_ite, show (i : Int) ≤ l.length by omega]
def litF (c : T48) (l : List T176) (i : Nat) : Option Int :=
  if (decide ((l.getD i default).Cond < 0) || decide ((c.Conds.length : Int) ≤ (l.getD i default).Cond)) = true then some 2
  else if (decide ((0 : Int) < (i : Int)) && decide ((l.getD i default).Cond ≤ (l.getD ((i : Int) - 1).toNat default).Cond)) = true then some 9 else none
def litS (c : T48) (l : List T176) : Int := (firstR (litF c l) l.length).getD 0
theorem literals_eq (c : T48) (l : List T176) (hl : l.length ≤ 100000) : m87 c l = some (litS c l) := by
  delta m87 d87
  simp only [↓JD.sg_m, ↓JD.sq_m, ↓JD.sc_m, ↓JD.bk_m, ↓JD.lp_m, ↓JD.cd_m, ↓JD.lu_m, ↓JD.ct_m, ↓JD.ce_m, ↓JL.r_m, ↓JL.z_m, ↓JD.se_m, onE_r, ↓Tr.run, ↓Tr.run_nd, ↓Tr.run_c3, ↓Tr.run_c2, ↓Tr.run_nx, ↓onS, bind_ite, Option.bind_some, Option.bind_none, obR]
  rw [loop_ex l.length (litF c l) ?_ ?_, orK_getD]; rfl
  · intro i hi
    have w1 : IntKind.wrap .i64 ((i : Int) - 1) = (i : Int) - 1 := w64 (by omega) (by omega)
    have h3 := eq_true (show decide ((0 : Int) < i) = true → (0 : Int) ≤ (i : Int) - 1 from fun h => by simp only [decide_eq_true_eq] at h; omega)
    have h4 := eq_true (show decide ((0 : Int) < i) = true → (i : Int) - 1 < l.length from fun h => by omega)
    unfold litF
    (simp only [exB_ite, exB_some, exB_none]; simp only [w1, h3, h4, inL hi, decide_true, Int.toNat_natCast, if_true, implies_true, wr1 hi (by omega)]; try rfl)
  · (simp only [lt_irr, decide_false, Bool.false_eq_true, if_false]; try rfl)
def actS (l : List (List UInt8)) : Int := if decide ((8 : Int) < (l.length : Int)) = true then 3 else if anyR (fun i => !nm (l.getD i default)) l.length = true then 5 else 0
theorem actS_len {l : List (List UInt8)} (h : actS l = 0) : l.length ≤ 8 := by
  unfold actS at h
  split at h
  · cases h
  · rename_i h1; simp only [decide_eq_true_eq] at h1; omega
theorem actions_eq (l : List (List UInt8)) (hl : l.length ≤ 100000) : m90 l = some (actS l) := by
  have e : m186o0 l = some (findR (fun i => !nm (l.getD i default)) l.length) := by
    delta m186o0 d186o0
    simp only [↓JD.sg_m, ↓JD.sq_m, ↓JD.sc_m, ↓JD.bk_m, ↓JD.lp_m, ↓JD.cd_m, ↓JD.lu_m, ↓JD.ct_m, ↓JD.ce_m, ↓JL.r_m, ↓JL.z_m, ↓JD.se_m, onE_r, ↓Tr.run, ↓Tr.run_nd, ↓Tr.run_c3, ↓Tr.run_c2, ↓Tr.run_nx, ↓onS, bind_ite, Option.bind_some, Option.bind_none, obR, m139o0, d139o0, nm_name]
    refine idx_loop (fun i hi => ?_) ?_
    · (simp only [exB_ite, exB_some, exB_none]; simp only [inL hi, decide_true, Int.toNat_natCast, if_true, implies_true, wr1 hi (by omega)]; try rfl)
    · (simp only [lt_irr, decide_false, Bool.false_eq_true, if_false]; try rfl)
  delta m90 d90
  simp only [↓JD.sg_m, ↓JD.sq_m, ↓JD.sc_m, ↓JD.bk_m, ↓JD.lp_m, ↓JD.cd_m, ↓JD.lu_m, ↓JD.ct_m, ↓JD.ce_m, ↓JL.r_m, ↓JL.z_m, ↓JD.se_m, onE_r, ↓Tr.run, ↓Tr.run_nd, ↓Tr.run_c3, ↓Tr.run_c2, ↓Tr.run_nx, ↓onS, bind_ite, Option.bind_some, Option.bind_none, obR, m138o0, d138o0, e, findR_any, actS, some_ite]
/-- A state has a child. -/
def comp (c : T48) (x : Int) : Bool := anyR (fun i => (c.States.getD i default).Parent == x) c.States.length
theorem composite_eq (c : T48) (x : Int) (hl : c.States.length ≤ 100000) : m91 c x = some (comp c x) := by
  have e : m187o0 c.States x = some (findR (fun i => (c.States.getD i default).Parent == x) c.States.length) := by
    delta m187o0 d187o0
    simp only [↓JD.sg_m, ↓JD.sq_m, ↓JD.sc_m, ↓JD.bk_m, ↓JD.lp_m, ↓JD.cd_m, ↓JD.lu_m, ↓JD.ct_m, ↓JD.ce_m, ↓JL.r_m, ↓JL.z_m, ↓JD.se_m, onE_r, ↓Tr.run, ↓Tr.run_nd, ↓Tr.run_c3, ↓Tr.run_c2, ↓Tr.run_nx, ↓onS, bind_ite, Option.bind_some, Option.bind_none, obR, m141o0, d141o0]
    refine idx_loop (fun i hi => ?_) ?_
    · (simp only [exB_ite, exB_some, exB_none]; simp only [inL hi, decide_true, Int.toNat_natCast, if_true, implies_true, wr1 hi (by omega)]; try rfl)
    · (simp only [lt_irr, decide_false, Bool.false_eq_true, if_false]; try rfl)
  delta m91 d91
  simp only [↓JD.sg_m, ↓JD.sq_m, ↓JD.sc_m, ↓JD.bk_m, ↓JD.lp_m, ↓JD.cd_m, ↓JD.lu_m, ↓JD.ct_m, ↓JD.ce_m, ↓JL.r_m, ↓JL.z_m, ↓JD.se_m, onE_r, ↓Tr.run, ↓Tr.run_nd, ↓Tr.run_c3, ↓Tr.run_c2, ↓Tr.run_nx, ↓onS, bind_ite, Option.bind_some, Option.bind_none, obR, m140o0, d140o0, e, findR_any, comp]
/-- A number of a state. -/
def isS (c : T48) (x : Int) : Bool := decide ((0 : Int) ≤ x) && decide (x < (c.States.length : Int))
theorem is_eq (c : T48) (x : Int) : m89 c x = some (isS c x) := rfl
theorem isS_iff {c : T48} {x : Int} : isS c x = true ↔ 0 ≤ x ∧ x < c.States.length := by simp [isS]
def childS (c : T48) (x y : Int) : Bool := isS c x && ((c.States.getD x.toNat default).Parent == y)
end Go.Av.Ch
