/- A part of the proof. -/
import Derived.Test.YtppfnndafbhegaaGreatDoorPart5
set_option linter.unusedVariables false
set_option linter.unusedSimpArgs false
set_option maxRecDepth 100000
namespace Go.Av
open Ch Go.Proofs
instance : Decidable (Tryz.prog = Tryz.prog) := .isTrue rfl
theorem list_eq_iff {α : Type} [Inhabited α] {a b : List α} (h : a.length = b.length) : a = b ↔ ∀ i, i < a.length → a.getD i default = b.getD i default := by
 constructor
 ·intro e i _; rw [e]
 ·intro k
  apply List.ext_getElem h
  intro i h1 h2
  have := k i h1
  simpa [List.getD_eq_getElem?_getD, List.getElem?_eq_getElem h1, List.getElem?_eq_getElem h2] using this
theorem firstR_ne {α : Type} [BEq α] [LawfulBEq α] [Inhabited α] {a b : List α} (h : a.length = b.length) : (firstR (fun i => if (a.getD i default != b.getD i default) = true then some false else none) a.length).getD true = (a == b) := by
 rw [firstR_const]
 by_cases e : a = b
 ·have : anyR (fun i => a.getD i default != b.getD i default) a.length = false := by
   rw [anyR_false]; intro i _; rw [e]; simp
  rw [this, e]; simp
 ·have : anyR (fun i => a.getD i default != b.getD i default) a.length = true := by
   rw [anyR_iff]
   apply Classical.byContradiction
   intro hn
   apply e
   rw [list_eq_iff h]
   intro i hi
   apply Classical.byContradiction
   intro hne
   exact hn ⟨i, hi, by simpa using hne⟩
  rw [this, if_pos rfl]
  simp [e]
theorem len_ne {α : Type} [BEq α] [LawfulBEq α] {a b : List α} (h : ((a.length : Int) != (b.length : Int)) = true) : (a == b) = false := by
 rw [beq_eq_false_iff_ne]
 rintro rfl
 simp at h
theorem len_eq {α : Type} {a b : List α} (h : ((a.length : Int) != (b.length : Int)) = false) : a.length = b.length := by
 simp at h; omega
theorem eqInts_eq (a b : List Int) (ha : a.length ≤ 1000000) : m121 a b = some (a == b) := by
 delta m121 d121
 simp only [↓JD.sg_m, ↓JD.sq_m, ↓JD.sc_m, ↓JD.bk_m, ↓JD.lp_m, ↓JD.cd_m, ↓JD.lu_m, ↓JD.ct_m, ↓JD.ce_m, ↓JL.r_m, ↓JL.z_m, ↓JD.se_m, onE_r, ↓Tr.run, ↓Tr.run_nd, ↓Tr.run_c3, ↓Tr.run_c2, ↓Tr.run_nx, ↓onS, bind_ite, Option.bind_some, Option.bind_none, obR]
 by_cases h : ((a.length : Int) != (b.length : Int)) = true
 ·simp only [h, if_true, onS_r, len_ne h]
 ·have h := Bool.eq_false_iff.2 h
  have hl := len_eq h
  simp only [h, Bool.false_eq_true, if_false, onS_l]
  rw [loop_ex a.length (fun i => if (a.getD i default != b.getD i default) = true then some false else none) ?_ ?_, orK_getD, firstR_ne hl]
  ·intro i hi
   have hi2 : i < b.length := by omega
   simp only [exB_ite, exB_some, exB_none, inL hi, inL hi2, decide_true, Int.toNat_natCast, if_true, wr1 hi (by omega)]
  ·(simp only [lt_irr, decide_false, Bool.false_eq_true, if_false]; try rfl)
theorem SameInts_eq (a b : List Int) (ha : a.length ≤ 1000000) : m46 a b = some (a == b) := by
 delta m46 d46
 simp only [↓JD.sg_m, ↓JD.sq_m, ↓JD.sc_m, ↓JD.bk_m, ↓JD.lp_m, ↓JD.cd_m, ↓JD.lu_m, ↓JD.ct_m, ↓JD.ce_m, ↓JL.r_m, ↓JL.z_m, ↓JD.se_m, onE_r, ↓Tr.run, ↓Tr.run_nd, ↓Tr.run_c3, ↓Tr.run_c2, ↓Tr.run_nx, ↓onS, bind_ite, Option.bind_some, Option.bind_none, obR]
 by_cases h : ((a.length : Int) != (b.length : Int)) = true
 ·simp only [h, if_true, onS_r, len_ne h]
 ·have h := Bool.eq_false_iff.2 h
  have hl := len_eq h
  simp only [h, Bool.false_eq_true, if_false, onS_l]
  rw [loop_ex a.length (fun i => if (a.getD i default != b.getD i default) = true then some false else none) ?_ ?_, orK_getD, firstR_ne hl]
  ·intro i hi
   have hi2 : i < b.length := by omega
   simp only [exB_ite, exB_some, exB_none, inL hi, inL hi2, decide_true, Int.toNat_natCast, if_true, wr1 hi (by omega)]
  ·(simp only [lt_irr, decide_false, Bool.false_eq_true, if_false]; try rfl)
def eqC (a b : T37) : Bool := a.Leaf == b.Leaf && a.Memory == b.Memory
theorem eqC_iff {a b : T37} : eqC a b = true ↔ a = b := by
 obtain ⟨x, y⟩ := a
 obtain ⟨z, w⟩ := b
 simp only [eqC, Bool.and_eq_true, beq_iff_eq]
 constructor
 ·rintro ⟨rfl, rfl⟩; rfl
 ·intro h; injection h with h1 h2; exact ⟨h1, h2⟩
theorem eqC_refl (a : T37) : eqC a a = true := eqC_iff.2 rfl
theorem same_eq (a b : T37) (ha : a.Memory.length ≤ 1000000) : m73 a b = some (eqC a b) := by
 delta m73 d73
 simp only [↓JD.sg_m, ↓JD.sq_m, ↓JD.sc_m, ↓JD.bk_m, ↓JD.lp_m, ↓JD.cd_m, ↓JD.lu_m, ↓JD.ct_m, ↓JD.ce_m, ↓JL.r_m, ↓JL.z_m, ↓JD.se_m, onE_r, ↓Tr.run, ↓Tr.run_nd, ↓Tr.run_c3, ↓Tr.run_c2, ↓Tr.run_nx, ↓onS, bind_ite, Option.bind_some, Option.bind_none, obR, eqInts_eq _ _ ha, eqC]
 cases (a.Leaf == b.Leaf) <;> rfl
theorem SameConfig_eq (a b : T37) (ha : a.Memory.length ≤ 1000000) : m17 a b = some (eqC a b) := by
 delta m17 d17
 simp only [↓JD.sg_m, ↓JD.sq_m, ↓JD.sc_m, ↓JD.bk_m, ↓JD.lp_m, ↓JD.cd_m, ↓JD.lu_m, ↓JD.ct_m, ↓JD.ce_m, ↓JL.r_m, ↓JL.z_m, ↓JD.se_m, onE_r, ↓Tr.run, ↓Tr.run_nd, ↓Tr.run_c3, ↓Tr.run_c2, ↓Tr.run_nx, ↓onS, bind_ite, Option.bind_some, Option.bind_none, obR, SameInts_eq _ _ ha, eqC]
 cases (a.Leaf == b.Leaf) <;> rfl
def Short (l : List T37) : Prop := ∀ g ∈ l, g.Memory.length ≤ 1000000
theorem Short.at {l : List T37} (h : Short l) {i : Nat} (hi : i < l.length) : (l.getD i default).Memory.length ≤ 1000000 := h _ (getD_mem hi)
def findC (l : List T37) (g : T37) : Int := findR (fun i => eqC (l.getD i default) g) l.length
theorem find_eq (l : List T37) (g : T37) (hs : Short l) (hl : l.length ≤ 1000000) : m80 l g = some (findC l g) := by
 have e1 : m54o0 l g = some (findC l g) := by
  have e2 : ∀ x : T37, x.Memory.length ≤ 1000000 → m128o0 x g = some (eqC x g) := fun x hx => by
   delta m128o0 d128o0
   simp only [↓JD.sg_m, ↓JD.sq_m, ↓JD.sc_m, ↓JD.bk_m, ↓JD.lp_m, ↓JD.cd_m, ↓JD.lu_m, ↓JD.ct_m, ↓JD.ce_m, ↓JL.r_m, ↓JL.z_m, ↓JD.se_m, onE_r, ↓Tr.run, ↓Tr.run_nd, ↓Tr.run_c3, ↓Tr.run_c2, ↓Tr.run_nx, ↓onS, bind_ite, Option.bind_some, Option.bind_none, obR, same_eq x g hx]
  delta m54o0 d54o0
  simp only [↓JD.sg_m, ↓JD.sq_m, ↓JD.sc_m, ↓JD.bk_m, ↓JD.lp_m, ↓JD.cd_m, ↓JD.lu_m, ↓JD.ct_m, ↓JD.ce_m, ↓JL.r_m, ↓JL.z_m, ↓JD.se_m, onE_r, ↓Tr.run, ↓Tr.run_nd, ↓Tr.run_c3, ↓Tr.run_c2, ↓Tr.run_nx, ↓onS, bind_ite, Option.bind_some, Option.bind_none, obR]
  refine idx_loop (fun i hi => ?_) ?_
  ·simp only [exB_ite, exB_some, exB_none, inL hi, decide_true, Int.toNat_natCast, if_true, wr1 hi (by omega), e2 _ (hs.at hi), Option.bind_some]
  ·(simp only [lt_irr, decide_false, Bool.false_eq_true, if_false]; try rfl)
 delta m80 d80
 simp only [↓JD.sg_m, ↓JD.sq_m, ↓JD.sc_m, ↓JD.bk_m, ↓JD.lp_m, ↓JD.cd_m, ↓JD.lu_m, ↓JD.ct_m, ↓JD.ce_m, ↓JL.r_m, ↓JL.z_m, ↓JD.se_m, onE_r, ↓Tr.run, ↓Tr.run_nd, ↓Tr.run_c3, ↓Tr.run_c2, ↓Tr.run_nx, ↓onS, bind_ite, Option.bind_some, Option.bind_none, obR, e1]
theorem findC_any {l : List T37} {g : T37} : decide (0 ≤ findC l g) = l.any (fun x => eqC x g) := by
 unfold findC
 rw [findR_any, Bool.eq_iff_iff, anyR_iff, List.any_eq_true]
 constructor
 ·rintro ⟨i, hi, h⟩; exact ⟨_, getD_mem hi, h⟩
 ·rintro ⟨x, hx, h⟩
  obtain ⟨i, hi, rfl⟩ := List.getElem_of_mem hx
  exact ⟨i, hi, by simpa [List.getD_eq_getElem?_getD, List.getElem?_eq_getElem hi] using h⟩
def hasC (l : List T37) (g : T37) : Bool := l.any fun x => eqC x g
theorem hasC_iff {l : List T37} {g : T37} : hasC l g = true ↔ g ∈ l := by
 unfold hasC
 rw [List.any_eq_true]
 constructor
 ·rintro ⟨x, hx, h⟩; rw [← eqC_iff.1 h]; exact hx
 ·intro h; exact ⟨g, h, eqC_refl g⟩
theorem find_in {l : List T37} {g : T37} : decide (0 ≤ findC l g) = hasC l g := findC_any
def numV (c : T27) : Nat := 2 ^ c.Conds.length
theorem numV_pos (c : T27) : 0 < numV c := Nat.two_pow_pos _
theorem numV_le {c : T27} (h : c.Conds.length ≤ 12) : numV c ≤ 4096 := Nat.pow_le_pow_right (by omega) h
theorem shl64 {n : Nat} (h : n ≤ 12) : IntKind.wrap .i64 ((1 : Int) * 2 ^ (min ((n : Nat) : Int).toNat (IntKind.bits .i64))) = ((2 ^ n : Nat) : Int) := by
 have e1 : min ((n : Nat) : Int).toNat (IntKind.bits .i64) = n := by
  show min ((n : Nat) : Int).toNat 64 = n
  omega
 rw [e1, Int.one_mul]
 have h2 : 2 ^ n ≤ 4096 := Nat.pow_le_pow_right (by omega) h
 have e2 : ((2 : Int) ^ n) = ((2 ^ n : Nat) : Int) := by push_cast; rfl
 rw [e2]
 generalize 2 ^ n = m at h2 ⊢
 exact w64 (by omega) (by omega)
def alG (c : T27) (v : Nat) : List Int := if allowedS c (v : Int) = true then [(v : Int)] else []
theorem alG_len (c : T27) (v : Nat) : (alG c v).length ≤ 1 := by unfold alG; split <;> simp
def valsA (c : T27) : List Int := (List.range (numV c)).flatMap (alG c)
theorem valsA_len {c : T27} : (valsA c).length ≤ numV c := by
 have := flatMap_len (alG_len c) (numV c)
 unfold valsA; omega
theorem valsA_mem {c : T27} {v : Int} : v ∈ valsA c ↔ ∃ n : Nat, n < numV c ∧ v = n ∧ allowedS c v = true := by
 unfold valsA
 rw [List.mem_flatMap]
 constructor
 ·rintro ⟨n, h1, h2⟩
  unfold alG at h2
  split at h2
  ·rename_i h
   simp only [List.mem_singleton] at h2
   subst h2
   exact ⟨n, List.mem_range.1 h1, rfl, h⟩
  ·cases h2
 ·rintro ⟨n, h1, rfl, h2⟩
  exact ⟨n, List.mem_range.2 h1, by unfold alG; rw [if_pos h2]; simp⟩
theorem allowedL_eq {c : T27} (H : Fit c) (h : c.Conds.length ≤ 12) : m99 c = some (valsA c) := by
 have h2 := numV_le h
 delta m99 d99
 simp only [↓JD.sg_m, ↓JD.sq_m, ↓JD.sc_m, ↓JD.bk_m, ↓JD.lp_m, ↓JD.cd_m, ↓JD.lu_m, ↓JD.ct_m, ↓JD.ce_m, ↓JL.r_m, ↓JL.z_m, ↓JD.se_m, onE_r, ↓Tr.run, ↓Tr.run_nd, ↓Tr.run_c3, ↓Tr.run_c2, ↓Tr.run_nx, ↓onS, bind_ite, Option.bind_some, Option.bind_none, obR, shl64 h, show (0 : Int) ≤ (c.Conds.length : Int) from by omega, if_true]
 rw [show ((2 ^ c.Conds.length : Nat) : Int) = (numV c : Int) from rfl]
 refine on_l (loop_coll (numV c) (fun i l => (l, (i : Int))) (alG c) Sum.inl (fun i hi => ?_) (by (simp only [lt_irr, decide_false, Bool.false_eq_true, if_false]; try rfl))) rfl
 have hl := flatMap_len (alG_len c) i
 have h3 : (((List.range i).flatMap (alG c)).length + 1) * 2 ≤ 140737488355328 := by omega
 have h4 : IntKind.wrap .u16 (i : Int) = (i : Int) := n16 (by omega)
 simp only [inL hi, decide_true, h3, h4, if_true, wr1 hi (by omega), Allowed_eq _ H, Option.bind_some, alG]
 cases allowedS c (i : Int) <;> simp
end Go.Av
set_option maxRecDepth 100000
namespace Go.Av
open Ch Go.Proofs
def stepO (c : T27) (g : T37) (v : Int) : Option T37 := (stepM c g v).bind fun r => if (r.2.2 == 0) = true then some r.1 else none
abbrev SS := List T37 × List Int × List Int
def addS (i : Nat) (v : Int) (h : T37) (s : SS) : Option SS := if hasC s.1 h = true then some s else if s.1.length = 400 then none else some (s.1 ++ [h], s.2.1 ++ [(i : Int)], s.2.2 ++ [v])
def visit (c : T27) (i : Nat) (s : SS) (v : Int) : Option SS := match stepO c (s.1.getD i default) v with
 | none => some s
 | some h => addS i v h s
def rnd (c : T27) (i : Nat) : List Int → SS → Option SS
 | [], s => some s
 | v :: l, s => (visit c i s v).bind (rnd c i l)
def allV (c : T27) : List Int := (List.range (numV c)).map fun v : Nat => (v : Int)
def srch (c : T27) : Nat → Nat → SS → Option SS
 | 0, _, _ => none
 | n + 1, i, s => if i < s.1.length then (rnd c i (allV c) s).bind (srch c n (i + 1)) else some s
def begS (g : T37) : SS := ([g], [-1], [0])
structure Inv (c : T27) (s : SS) : Prop where
 le : s.1.length ≤ 400
 l1 : s.2.1.length = s.1.length
 l2 : s.2.2.length = s.1.length
 pos : 0 < s.1.length
 ok : ∀ g ∈ s.1, validS c g = true
theorem valid_short {c : T27} (H : Fit c) {g : T37} (h : validS c g = true) : g.Memory.length ≤ 1000000 := by
 have h1 := (validS_iff.1 h).2.2.len
 have h2 := H.states
 omega
theorem Inv.short {c : T27} (H : Fit c) {s : SS} (h : Inv c s) : Short s.1 := fun g hg => valid_short H (h.ok g hg)
theorem stepO_ok {c : T27} (H : Fit c) {g h : T37} {v : Int} (hs : stepO c g v = some h) : checkM c = some 0 ∧ validS c g = true ∧ validS c h = true := by
 unfold stepO at hs
 rw [Option.bind_eq_some_iff] at hs
 obtain ⟨r, h1, h2⟩ := hs
 split at h2
 ·rename_i h3
  injection h2 with h2
  subst h2
  exact (stepM_ok H h1).2 (by simpa using h3)
 ·cases h2
theorem addS_inv {c : T27} {i : Nat} {v : Int} {h : T37} {s s' : SS} (I : Inv c s) (hv : validS c h = true) (hs : addS i v h s = some s') : Inv c s' ∧ s.1.length ≤ s'.1.length := by
 unfold addS at hs
 split at hs
 ·injection hs with hs; subst hs; exact ⟨I, Nat.le_refl _⟩
 ·split at hs
  ·cases hs
  ·rename_i h400
   injection hs with hs
   subst hs
   have := I.le
   refine ⟨⟨?_, ?_, ?_, ?_, ?_⟩, ?_⟩
   ·simp only [List.length_append, List.length_cons, List.length_nil]; omega
   ·simp only [List.length_append, List.length_cons, List.length_nil, I.l1]
   ·simp only [List.length_append, List.length_cons, List.length_nil, I.l2]
   ·simp
   ·intro g hg
    rcases List.mem_append.1 hg with h1 | h1
    ·exact I.ok g h1
    ·simp only [List.mem_singleton] at h1; subst h1; exact hv
   ·simp
theorem visit_inv {c : T27} (H : Fit c) {i : Nat} {v : Int} {s s' : SS} (I : Inv c s) (hs : visit c i s v = some s') : Inv c s' ∧ s.1.length ≤ s'.1.length := by
 unfold visit at hs
 split at hs
 ·injection hs with hs; subst hs; exact ⟨I, Nat.le_refl _⟩
 ·rename_i h he
  exact addS_inv I (stepO_ok H he).2.2 hs
theorem rnd_inv {c : T27} (H : Fit c) {i : Nat} : ∀ {l : List Int} {s s' : SS}, Inv c s → rnd c i l s = some s' → Inv c s' ∧ s.1.length ≤ s'.1.length
 | [], s, s', I, hs => by
  injection hs with hs; subst hs; exact ⟨I, Nat.le_refl _⟩
 | v :: l, s, s', I, hs => by
  unfold rnd at hs
  rw [Option.bind_eq_some_iff] at hs
  obtain ⟨t, h1, h2⟩ := hs
  obtain ⟨I1, k1⟩ := visit_inv H I h1
  obtain ⟨I2, k2⟩ := rnd_inv H I1 h2
  exact ⟨I2, by omega⟩
theorem rnd_filter {c : T27} {i : Nat} (p : Int → Bool) : ∀ {l : List Int} {s : SS}, (∀ v ∈ l, p v = false → ∀ s, visit c i s v = some s) → rnd c i (l.flatMap fun v => if p v = true then [v] else []) s = rnd c i l s
 | [], s, h => rfl
 | v :: l, s, h => by
  simp only [List.flatMap_cons]
  have ih : ∀ s, rnd c i (l.flatMap fun v => if p v = true then [v] else []) s = rnd c i l s := fun s => rnd_filter p (fun w hw => h w (by simp [hw]))
  cases hp : p v with
  | true =>
   simp only [if_true, List.cons_append, List.nil_append, rnd]
   congr 1; funext t; exact ih t
  | false =>
   simp only [Bool.false_eq_true, if_false, List.nil_append, rnd, h v (by simp) hp, Option.bind_some]
   exact ih s
theorem stepO_not {c : T27} {g : T37} {v : Int} (h : allowedS c v = false) : stepO c g v = none := by
 unfold stepO stepM
 cases hc : checkM c with
 | none => rfl
 | some e =>
  simp only [Option.bind_some, h, Bool.not_false, if_true]
  split
  ·rename_i h0
   simp only [Option.bind_some]
   have : (e == 0) = false := by simpa using h0
   simp only [this, Bool.false_eq_true, if_false]
  ·split <;> rfl
theorem rnd_vals {c : T27} {i : Nat} {s : SS} : rnd c i (valsA c) s = rnd c i (allV c) s := by
 have e : valsA c = (allV c).flatMap fun v => if allowedS c v = true then [v] else [] := by
  unfold valsA allV
  rw [List.flatMap_map]
  rfl
 rw [e]
 exact rnd_filter (allowedS c) fun v _ h s => by unfold visit; rw [stepO_not h]
end Go.Av
set_option maxRecDepth 100000
namespace Go.Av
open Ch Go.Proofs
def upS {X : Type} {S : Type} (mk : SS → S) (bad : Option X) : Option SS → Option (S ⊕ X)
 | some s => some (.inl (mk s))
 | none => bad.map .inr
def endS {X : Type} (out : SS → X) (bad : Option X) : Option SS → Option X
 | some s => some (out s)
 | none => bad
theorem getD_app {α : Type} [Inhabited α] {l k : List α} {i : Nat} (h : i < l.length) : (l ++ k).getD i default = l.getD i default := by
 simp only [List.getD_eq_getElem?_getD, List.getElem?_append_left h]
theorem visit_get {c : T27} {i : Nat} {s s' : SS} {v : Int} (hs : visit c i s v = some s') : ∃ k, s'.1 = s.1 ++ k := by
 unfold visit at hs
 split at hs
 ·injection hs with hs; subst hs; exact ⟨[], by simp⟩
 ·unfold addS at hs
  split at hs
  ·injection hs with hs; subst hs; exact ⟨[], by simp⟩
  ·split at hs
   ·cases hs
   ·injection hs with hs; subst hs; exact ⟨_, rfl⟩
theorem done_loop {c : T27} (H : Fit c) {i : Nat} {X : Type} {b : (Int × List T37 × List Int × List Int × Nat × (List UInt8 → Option Int)) → Option ((Int × List T37 × List Int × List Int × Nat × (List UInt8 → Option Int)) ⊕ X)} (out : SS → X) (bad : Option X) (w : List Int)
  (P : SS → (List UInt8 → Option Int) → Prop)
  (hb : ∀ (k : Nat) (s : SS) (n : Nat) (f : List UInt8 → Option Int), k < w.length → Inv c s → i < s.1.length → n ≤ k → P s f → ∃ n' f', n' ≤ k + 1 ∧ (∀ s', visit c i s (w.getD k default) = some s' → P s' f') ∧
   b ((k : Int), s.1, s.2.1, s.2.2, n, f) = upS (fun s' => (((k + 1 : Nat) : Int), s'.1, s'.2.1, s'.2.2, n', f')) bad (visit c i s (w.getD k default)))
  (he : ∀ (s : SS) n f, Inv c s → b ((w.length : Int), s.1, s.2.1, s.2.2, n, f) = some (.inr (out s)))
  {s : SS} (I : Inv c s) (hi : i < s.1.length) (f0 : List UInt8 → Option Int) (hP : P s f0) : loopO b (0, s.1, s.2.1, s.2.2, 0, f0) = (endS out bad (rnd c i w s)) := by
 have key : ∀ (m k : Nat) (s : SS) (n : Nat) (f : List UInt8 → Option Int), k + m = w.length → Inv c s → i < s.1.length → n ≤ k → P s f → loopO b ((k : Int), s.1, s.2.1, s.2.2, n, f) = (endS out bad (rnd c i (w.drop k) s)) := by
  intro m
  induction m with
  | zero =>
   intro k s n f hk I hi hn hp
   obtain rfl : k = w.length := by omega
   rw [loopO_eq, he s n f I, List.drop_length]
   rfl
  | succ m ih =>
   intro k s n f hk I hi hn hp
   have hkl : k < w.length := by omega
   obtain ⟨n', f', h1, h2, h3⟩ := hb k s n f hkl I hi hn hp
   have hd : w.drop k = w.getD k default :: w.drop (k + 1) := by
    rw [List.drop_eq_getElem_cons hkl]; simp [List.getD_eq_getElem?_getD, List.getElem?_eq_getElem hkl]
   rw [loopO_eq, h3, hd, rnd]
   cases hv : visit c i s (w.getD k default) with
   | none => cases bad <;> rfl
   | some s' =>
    obtain ⟨I', h'⟩ := visit_inv H I hv
    simp only [upS, Option.bind_some]
    exact ih (k + 1) s' n' f' (by omega) I' (by omega) h1 (h2 s' hv)
 have := key w.length 0 s 0 f0 (by omega) I hi (by omega) hP
 rw [List.drop_zero] at this
 exact this
theorem srch_loop {c : T27} (H : Fit c) {S X : Type} {b : S → Option (S ⊕ X)} (mk : Nat → SS → S) (out : SS → X) (bad : Option X)
  (hb : ∀ (i : Nat) (s : SS), Inv c s → i < s.1.length → b (mk i s) = upS (mk (i + 1)) bad (rnd c i (allV c) s))
  (he : ∀ (s : SS), Inv c s → b (mk s.1.length s) = some (.inr (out s))) :
  ∀ (n i : Nat) (s : SS), Inv c s → i ≤ s.1.length → n + i = 402 → loopO b (mk i s) = (endS out bad (srch c n i s)) := by
 intro n
 induction n with
 | zero => intro i s I hi hn; have := I.le; omega
 | succ n ih =>
  intro i s I hi hn
  unfold srch
  by_cases h : i < s.1.length
  ·rw [if_pos h, loopO_eq, hb i s I h]
   cases hr : rnd c i (allV c) s with
   | none => cases bad <;> rfl
   | some s' =>
    obtain ⟨I', h'⟩ := rnd_inv H I hr
    simp only [upS, Option.bind_some]
    exact ih (i + 1) s' I' (by omega) (by omega)
  ·obtain rfl : i = s.1.length := by omega
   rw [if_neg h, loopO_eq, he s I]
   rfl
def searchS (c : T27) : Option SS := srch c 402 0 (begS ⟨(startS c).1, (startS c).2.1⟩)
theorem beg_inv {c : T27} (H : Fit c) (hc : checkM c = some 0) : Inv c (begS ⟨(startS c).1, (startS c).2.1⟩) := by
 refine ⟨by simp [begS], by simp [begS], by simp [begS], by simp [begS], fun g hg => ?_⟩
 simp only [begS, List.mem_singleton] at hg
 subst hg
 exact (startS_ok (good_of hc) H).1
theorem stepO_of {c : T27} {g : T37} {v : Int} {r : T37 × List (List UInt8) × Int} (h : stepM c g v = some r) : stepO c g v = if (r.2.2 == 0) = true then some r.1 else none := by
 unfold stepO; rw [h, Option.bind_some]
theorem M44o1 (a0 : T27) : m44o1 a0 = ((Option.bind (Option.bind (Option.bind (m28o0 a0) fun r => some r) fun x1 => (if (x1.1 != 0) = true then (some (.inr (x1.1))) else (Option.bind (Option.bind (m99 a0) fun r => some r) fun x4 => (some (.inl (([(⟨x1.2.2.1, x1.2.2.2⟩ : T37)] : List T37), x4)))))) (onS fun (y1 : (List T37) × (List Int)) => (Option.bind (Option.bind (some (.inl ())) (onS fun (_ : Unit) => (loopO (fun (s2 : Int × (List T37) × (List Int) × (List Int)) => ((Option.bind (if (decide (s2.1 < (s2.2.1.length : Int))) = true then (some (.inl ())) else (some (.inr (.inr (.inl (s2.2.1, s2.2.2.1, s2.2.2.2)))))) (onS fun (_ : Unit) => (Option.bind (Option.bind (some (.inl ())) (onS fun (_ : Unit) => (loopO (fun (s3 : Int × (List T37) × (List Int) × (List Int) × Nat × (List UInt8 → Option Int)) => ((if (decide (s3.1 < (y1.2.length : Int))) = true then (if (0 ≤ s3.1) then (if (s3.1 < (y1.2.length : Int)) then (Option.bind ((if 0 ≤ s2.1 then (if s2.1 < (s3.2.1.length : Int) then ((m19 a0 (s3.2.1.getD s2.1.toNat default).Leaf (y1.2.getD s3.1.toNat default)).bind fun r12_0 => some r12_0) else none) else none)) fun (x12 : ((List Int))) => (if (!((x12.length : Int) != (1 : Int))) = true → ((0 : Int) ≤ (0 : Int)) then (if (!((x12.length : Int) != (1 : Int))) = true → (0 < (x12.length : Int)) then (if (!((x12.length : Int) != (1 : Int))) = true → (Tryz.prog = Tryz.prog) then (if (!((x12.length : Int) != (1 : Int))) = true → ((Lit.int .i64 (x12.getD (0 : Int).toNat default)).wf = true) then (if (((x12.length : Int) != (1 : Int)) || ((s3.2.2.2.2.2 (encK (x12.getD (0 : Int).toNat default))).getD 0 != 0)) = true then (some (.inl ((IntKind.wrap .i64 (s3.1 + 1)), s3.2.1, s3.2.2.1, s3.2.2.2.1, s3.2.2.2.2.1, s3.2.2.2.2.2))) else (if ((0 : Int) ≤ (0 : Int)) then (if (0 < (x12.length : Int)) then (if ((Lit.int .i64 (x12.getD (0 : Int).toNat default)).wf = true) then (if (s3.2.2.2.2.1 < maxLen) then (Option.bind ((if 0 ≤ s2.1 then (if s2.1 < (s3.2.1.length : Int) then (if (0 : Int) ≤ (0 : Int) then (if 0 < (x12.length : Int) then ((m67 a0 (s3.2.1.getD s2.1.toNat default) (x12.getD (0 : Int).toNat default)).bind fun r15_0 => some r15_0) else none) else none) else none) else none)) fun (x15 : ((T37 × (List (List UInt8)) × Int))) => (Option.bind (((if (!(x15.2.2 != 0)) = true then m80 s3.2.1 x15.1 else some default).bind fun r16_0 => some r16_0)) fun (x16 : (Int)) => (if ((x15.2.2 != 0) || (decide (0 ≤ x16))) = true then (some (.inl ((IntKind.wrap .i64 (s3.1 + 1)), s3.2.1, s3.2.2.1, s3.2.2.2.1, (s3.2.2.2.2.1 + 1), (fun q => if q = (encK (x12.getD (0 : Int).toNat default)) then some (if true = true then (1 : Int) else 0) else s3.2.2.2.2.2 q)))) else (if ((s3.2.1.length : Int) == (400 : Int)) = true then (some (.inr (.inr (.inr (.inr ((3 : Int))))))) else (if ((s3.2.1.length + 1) * 32 ≤ 140737488355328) then (if ((s3.2.2.1.length + 1) * 8 ≤ 140737488355328) then (if ((s3.2.2.2.1.length + 1) * 2 ≤ 140737488355328) then (some (.inl ((IntKind.wrap .i64 (s3.1 + 1)), (s3.2.1 ++ ([x15.1] : List T37)), (s3.2.2.1 ++ ([s2.1] : List Int)), (s3.2.2.2.1 ++ ([(y1.2.getD s3.1.toNat default)] : List Int)), (s3.2.2.2.2.1 + 1), (fun q => if q = (encK (x12.getD (0 : Int).toNat default)) then some (if true = true then (1 : Int) else 0) else s3.2.2.2.2.2 q)))) else none) else none) else none))))) else none) else none) else none) else none)) else none) else none) else none) else none)) else none) else none) else (some (.inr (.inl (s3.2.1, s3.2.2.1, s3.2.2.2.1))))) : Option ((Int × (List T37) × (List Int) × (List Int) × Nat × (List UInt8 → Option Int)) ⊕ (((List T37) × (List Int) × (List Int)) ⊕ ((Int × (List T37) × (List Int) × (List Int)) ⊕ (((List T37) × (List Int) × (List Int)) ⊕ (Int))))))) ((0 : Int), s2.2.1, s2.2.2.1, s2.2.2.2, 0, (fun _ => none))))) (onS fun (y4 : (List T37) × (List Int) × (List Int)) => (some (.inl ((IntKind.wrap .i64 (s2.1 + 1)), y4.1, y4.2.1, y4.2.2))))))) : Option ((Int × (List T37) × (List Int) × (List Int)) ⊕ (((List T37) × (List Int) × (List Int)) ⊕ (Int))))) ((0 : Int), y1.1, ([(-1 : Int)] : List Int), ([(0 : Int)] : List Int))))) (onS fun (y5 : (List T37) × (List Int) × (List Int)) => none)))) : Option (Int)) := by kernel_rfl
theorem M44o2 (a0 : T27) : m44o2 a0 = ((Option.bind (Option.bind (Option.bind (m28o0 a0) fun r => some r) fun x1 => (if (x1.1 != 0) = true then none else (Option.bind (Option.bind (m99 a0) fun r => some r) fun x4 => (some (.inl (([(⟨x1.2.2.1, x1.2.2.2⟩ : T37)] : List T37), x4)))))) (onS fun (y1 : (List T37) × (List Int)) => (Option.bind (Option.bind (some (.inl ())) (onS fun (_ : Unit) => (loopO (fun (s2 : Int × (List T37) × (List Int) × (List Int)) => ((Option.bind (if (decide (s2.1 < (s2.2.1.length : Int))) = true then (some (.inl ())) else (some (.inr (.inr (.inl (s2.2.1, s2.2.2.1, s2.2.2.2)))))) (onS fun (_ : Unit) => (Option.bind (Option.bind (some (.inl ())) (onS fun (_ : Unit) => (loopO (fun (s3 : Int × (List T37) × (List Int) × (List Int) × Nat × (List UInt8 → Option Int)) => ((if (decide (s3.1 < (y1.2.length : Int))) = true then (if (0 ≤ s3.1) then (if (s3.1 < (y1.2.length : Int)) then (Option.bind ((if 0 ≤ s2.1 then (if s2.1 < (s3.2.1.length : Int) then ((m19 a0 (s3.2.1.getD s2.1.toNat default).Leaf (y1.2.getD s3.1.toNat default)).bind fun r12_0 => some r12_0) else none) else none)) fun (x12 : ((List Int))) => (if (!((x12.length : Int) != (1 : Int))) = true → ((0 : Int) ≤ (0 : Int)) then (if (!((x12.length : Int) != (1 : Int))) = true → (0 < (x12.length : Int)) then (if (!((x12.length : Int) != (1 : Int))) = true → (Tryz.prog = Tryz.prog) then (if (!((x12.length : Int) != (1 : Int))) = true → ((Lit.int .i64 (x12.getD (0 : Int).toNat default)).wf = true) then (if (((x12.length : Int) != (1 : Int)) || ((s3.2.2.2.2.2 (encK (x12.getD (0 : Int).toNat default))).getD 0 != 0)) = true then (some (.inl ((IntKind.wrap .i64 (s3.1 + 1)), s3.2.1, s3.2.2.1, s3.2.2.2.1, s3.2.2.2.2.1, s3.2.2.2.2.2))) else (if ((0 : Int) ≤ (0 : Int)) then (if (0 < (x12.length : Int)) then (if ((Lit.int .i64 (x12.getD (0 : Int).toNat default)).wf = true) then (if (s3.2.2.2.2.1 < maxLen) then (Option.bind ((if 0 ≤ s2.1 then (if s2.1 < (s3.2.1.length : Int) then (if (0 : Int) ≤ (0 : Int) then (if 0 < (x12.length : Int) then ((m67 a0 (s3.2.1.getD s2.1.toNat default) (x12.getD (0 : Int).toNat default)).bind fun r15_0 => some r15_0) else none) else none) else none) else none)) fun (x15 : ((T37 × (List (List UInt8)) × Int))) => (Option.bind (((if (!(x15.2.2 != 0)) = true then m80 s3.2.1 x15.1 else some default).bind fun r16_0 => some r16_0)) fun (x16 : (Int)) => (if ((x15.2.2 != 0) || (decide (0 ≤ x16))) = true then (some (.inl ((IntKind.wrap .i64 (s3.1 + 1)), s3.2.1, s3.2.2.1, s3.2.2.2.1, (s3.2.2.2.2.1 + 1), (fun q => if q = (encK (x12.getD (0 : Int).toNat default)) then some (if true = true then (1 : Int) else 0) else s3.2.2.2.2.2 q)))) else (if ((s3.2.1.length : Int) == (400 : Int)) = true then none else (if ((s3.2.1.length + 1) * 32 ≤ 140737488355328) then (if ((s3.2.2.1.length + 1) * 8 ≤ 140737488355328) then (if ((s3.2.2.2.1.length + 1) * 2 ≤ 140737488355328) then (some (.inl ((IntKind.wrap .i64 (s3.1 + 1)), (s3.2.1 ++ ([x15.1] : List T37)), (s3.2.2.1 ++ ([s2.1] : List Int)), (s3.2.2.2.1 ++ ([(y1.2.getD s3.1.toNat default)] : List Int)), (s3.2.2.2.2.1 + 1), (fun q => if q = (encK (x12.getD (0 : Int).toNat default)) then some (if true = true then (1 : Int) else 0) else s3.2.2.2.2.2 q)))) else none) else none) else none))))) else none) else none) else none) else none)) else none) else none) else none) else none)) else none) else none) else (some (.inr (.inl (s3.2.1, s3.2.2.1, s3.2.2.2.1))))) : Option ((Int × (List T37) × (List Int) × (List Int) × Nat × (List UInt8 → Option Int)) ⊕ (((List T37) × (List Int) × (List Int)) ⊕ ((Int × (List T37) × (List Int) × (List Int)) ⊕ (((List T37) × (List Int) × (List Int)) ⊕ ((List T37) × (List Int) × (List Int) × (List Int)))))))) ((0 : Int), s2.2.1, s2.2.2.1, s2.2.2.2, 0, (fun _ => none))))) (onS fun (y4 : (List T37) × (List Int) × (List Int)) => (some (.inl ((IntKind.wrap .i64 (s2.1 + 1)), y4.1, y4.2.1, y4.2.2))))))) : Option ((Int × (List T37) × (List Int) × (List Int)) ⊕ (((List T37) × (List Int) × (List Int)) ⊕ ((List T37) × (List Int) × (List Int) × (List Int)))))) ((0 : Int), y1.1, ([(-1 : Int)] : List Int), ([(0 : Int)] : List Int))))) (onS fun (y5 : (List T37) × (List Int) × (List Int)) => (some (y5.1, y5.2.1, y5.2.2, y1.2)))))) : Option ((List T37) × (List Int) × (List Int) × (List Int))) := by kernel_rfl
theorem enab_one {c : T27} (hc : checkM c = some 0) {g : T37} (hg : validS c g = true) {v : Int} (ha : allowedS c v = true) : stepO c g v = if ((((enabledS c g.Leaf v).length : Int)) == 1) = true then some (fireR c g ((enabledS c g.Leaf v).getD 0 default)).1 else none := by
 unfold stepO stepM
 simp only [hc, Option.bind_some, bne_self, hg, ha, Bool.not_true, Bool.false_eq_true, if_false]
 by_cases h1 : (((enabledS c g.Leaf v).length : Int) == 1) = true
 ·have h0 : (((enabledS c g.Leaf v).length : Int) == 0) = false := by
   have : ((enabledS c g.Leaf v).length : Int) = 1 := by simpa using h1
   rw [this]; rfl
  simp only [h0, h1, Bool.false_eq_true, if_false, if_true, Option.bind_some]; rfl
 ·have h1' := Bool.eq_false_iff.2 h1
  simp only [h1', Bool.false_eq_true, if_false]
  by_cases h0 : (((enabledS c g.Leaf v).length : Int) == 0) = true
  ·simp only [h0, if_true, Option.bind_some]; rfl
  ·have h0' := Bool.eq_false_iff.2 h0
   simp only [h0', Bool.false_eq_true, if_false, Option.bind_some]; rfl
def DoneP (c : T27) (g : T37) (s : SS) (f : List UInt8 → Option Int) : Prop := ∀ t : Int, ((f (encK t)).getD 0 != 0) = true → hasC s.1 (fireR c g t).1 = true
theorem fire_at {c : T27} (H : Fit c) (hc : checkM c = some 0) {g : T37} (hg : validS c g = true) {v : Int} (h1 : (((enabledS c g.Leaf v).length : Int) == 1) = true) : m67 c g ((enabledS c g.Leaf v).getD 0 default) = some (fireR c g ((enabledS c g.Leaf v).getD 0 default)) := by
 have hl : 0 < (enabledS c g.Leaf v).length := by
  have : ((enabledS c g.Leaf v).length : Int) = 1 := by simpa using h1
  omega
 obtain ⟨i, hi, hx, hon⟩ := enabled_at hl
 rw [fire_err H, hx]
 have hn : (decide ((i : Int) < 0) || decide ((c.Transitions.length : Int) ≤ (i : Int))) = false := by
  simp only [Bool.or_eq_false_iff, decide_eq_false_iff_not]; omega
 simp only [hc, Option.bind_some, bne_self, hg, hn, Int.toNat_natCast, hon, Bool.not_true, Bool.false_eq_true, if_false]
 rfl
end Go.Av
set_option maxRecDepth 100000
namespace Go.Av
open Ch Go.Proofs
theorem hasC_app {l k : List T37} {g : T37} (h : hasC l g = true) : hasC (l ++ k) g = true := by
 rw [hasC_iff] at h ⊢
 exact List.mem_append_left _ h
theorem DoneP.same {c : T27} {g : T37} {s : SS} {f : List UInt8 → Option Int} (h : DoneP c g s f) {t : Int} (ht : hasC s.1 (fireR c g t).1 = true) : DoneP c g s (fun q => if q = encK t then some (if true = true then (1 : Int) else 0) else f q) := fun u hu => by
 by_cases e : u = t
 ·rw [e]; exact ht
 ·have : encK u ≠ encK t := fun k => e (encK_inj k)
  simp only [this, if_false] at hu
  exact h u hu
theorem DoneP.more {c : T27} {g : T37} {s : SS} {f : List UInt8 → Option Int} (h : DoneP c g s f) {t : Int} {fr bv : List Int} : DoneP c g (s.1 ++ [(fireR c g t).1], fr, bv) (fun q => if q = encK t then some (if true = true then (1 : Int) else 0) else f q) := fun u hu => by
 by_cases e : u = t
 ·rw [e]; rw [hasC_iff]; simp
 ·have : encK u ≠ encK t := fun k => e (encK_inj k)
  simp only [this, if_false] at hu
  exact hasC_app (h u hu)
theorem wf_small {i : Nat} (h : i < 1000000) : (Lit.int .i64 (i : Int)).wf = true := by
 simp [Lit.wf, IntKind.min, IntKind.max, IntKind.signed, IntKind.bits]; omega
theorem srchE_eq {c : T27} (H : Fit c) (hn : c.Conds.length ≤ 12) : m44o1 c = (checkM c).bind fun e => if (e != 0) = true then some e else match searchS c with | some s => none | none => some 3 := by
  obtain ⟨e, he⟩ := checkM_some c
  have h1 := numV_pos c
  have h2 := numV_le hn
  have hv2 := valsA_len (c := c)
  have q1 := Start_eq c H
  have q2 := allowedL_eq H hn
  have q3 : ∀ (leaf v : Int), m19 c leaf v = some (enabledS c leaf v) := Enabled_eq c H
  have q4 : ∀ (l : List T37) (g : T37), Short l → l.length ≤ 1000000 → m80 l g = some (findC l g) := find_eq
  have q5 : checkM c = some 0 → ∀ (g : T37) (v : Int), validS c g = true → (((enabledS c g.Leaf v).length : Int) == 1) = true → m67 c g ((enabledS c g.Leaf v).getD 0 default) = some (fireR c g ((enabledS c g.Leaf v).getD 0 default)) := fun hc g v hg h => fire_at H hc hg h
  simp only [M44o1, bind_id, q1, q2]
  generalize m19 = F1 at q3 ⊢
  generalize m80 = F2 at q4 ⊢
  generalize m67 = F3 at q5 ⊢
  unfold startM
  by_cases h0 : (e != 0) = true
  · simp only [he, bs, h0, if_true, or_, bn]
  · have h0 := Bool.eq_false_iff.2 h0
    have e0 : e = 0 := by simpa using h0
    subst e0
    simp only [he, bs, h0, Bool.false_eq_true, if_false, ol, bne_self]
    have q5 := q5 he
    have I0 := beg_inv H he
    refine bind_eq (srch_loop H (fun i s => ((i : Int), s.1, s.2.1, s.2.2)) (fun s => .inl (s.1, s.2.1, s.2.2)) (some (.inr (3 : Int))) (fun i s I hi => ?_) (fun s I => ?_) 402 0 _ I0 (by omega) (by omega)) ?_
    · have hi' : (i : Int) < (s.1.length : Int) := by omega
      simp only [hi', decide_true, if_true, bs, ol]
      have hg : validS c (s.1.getD i default) = true := I.ok _ (getD_mem hi)
      refine bind_eq (done_loop H (i := i) (fun s => .inl (s.1, s.2.1, s.2.2)) (some (.inr (.inr (.inr (3 : Int))))) (valsA c) (fun t f => t.1.getD i default = s.1.getD i default ∧ DoneP c (s.1.getD i default) t f) (fun k s' n f hk I' hi'' hn' hP => ?_) (fun s n f I => ?_) I hi (fun _ => none) ⟨rfl, fun t ht => by simp at ht⟩) ?_
      · generalize s.1.getD i default = g at hg hP
        obtain ⟨hP1, hP2⟩ := hP
        obtain ⟨vn, hvn, hve, hall⟩ := valsA_mem.1 (getD_mem hk)
        obtain ⟨v, hvd⟩ : ∃ v, v = (valsA c).getD k default := ⟨_, rfl⟩
        rw [← hvd] at hve hall ⊢
        have b1 := I'.le
        have b2 := I'.l1
        have b3 := I'.l2
        have hb1 := enab_one he hg hall
        have w2 : IntKind.wrap .i64 ((k : Int) + 1) = ((k + 1 : Nat) : Int) := by rw [w64 (by omega) (by omega)]; omega
        have c1 : ((s'.1.length + 1) * 32 ≤ 140737488355328) = True := eq_true (by omega)
        have c2 : ((s'.2.1.length + 1) * 8 ≤ 140737488355328) = True := eq_true (by omega)
        have c3 : ((s'.2.2.length + 1) * 2 ≤ 140737488355328) = True := eq_true (by omega)
        have c4 : (n < maxLen) = True := eq_true (by unfold maxLen; omega)
        have c5 : ((0 : Int) ≤ (0 : Int)) = True := eq_true (by omega)
        unfold visit
        rw [hP1, hb1]
        simp only [inL hk, inL hi'', decide_true, if_true, Int.toNat_natCast, hP1, q3, bs, w2, c5, ← hvd]
        by_cases hl : (((enabledS c g.Leaf v).length : Int) == 1) = true
        · have hl2 : (((enabledS c g.Leaf v).length : Int) != 1) = false := by simpa using hl
          have hl3 : (0 < ((enabledS c g.Leaf v).length : Int)) = True := eq_true (by have : ((enabledS c g.Leaf v).length : Int) = 1 := by simpa using hl
                                                                                      omega)
          have hf := q5 g v hg hl
          obtain ⟨t, ht⟩ : ∃ t, t = (enabledS c g.Leaf v).getD 0 default := ⟨_, rfl⟩
          obtain ⟨ti, hti, htx, _⟩ := enabled_at (c := c) (leaf := g.Leaf) (v := v) (by have : ((enabledS c g.Leaf v).length : Int) = 1 := by simpa using hl
                                                                                        omega)
          have htr := H.trans
          rw [← ht] at htx hf
          have hwf : ((Lit.int .i64 t).wf = true) = True := eq_true (by rw [htx]; exact wf_small (by omega))
          simp only [hl, hl2, hl3, hwf, c4, c5, if_true, Bool.not_false, true_implies, Bool.false_or, Int.toNat_zero, ← ht, hf, bs]
          by_cases hd : ((f (encK t)).getD 0 != 0) = true
          · have hh := hP2 t hd
            refine ⟨n, f, by omega, fun s'' hs'' => ?_, ?_⟩
            · unfold addS at hs''
              rw [if_pos hh] at hs''
              injection hs'' with hs''
              subst hs''
              exact ⟨hP1, hP2⟩
            · unfold addS
              rw [if_pos hh]
              simp only [hd, if_true]; rfl
          · have hd := Bool.eq_false_iff.2 hd
            have e1 : ((fireR c g t).2.2 != 0) = false := rfl
            have hfd := q4 s'.1 (fireR c g t).1 (I'.short H) (by omega)
            refine ⟨n + 1, fun q => if q = encK t then some (if true = true then (1 : Int) else 0) else f q, by omega, fun s'' hs'' => ?_, ?_⟩
            · unfold addS at hs''
              split at hs''
              · rename_i hh
                injection hs'' with hs''
                subst hs''
                exact ⟨hP1, hP2.same hh⟩
              · split at hs''
                · cases hs''
                · injection hs'' with hs''
                  subst hs''
                  exact ⟨by rw [getD_app hi'']; exact hP1, hP2.more⟩
            · simp only [hd, e1, hfd, bs, Bool.false_eq_true, if_false, Bool.not_false, if_true, Bool.false_or, find_in]
              unfold addS
              cases hh : hasC s'.1 (fireR c g t).1 with
              | true => simp only [if_true]; rfl
              | false =>
                simp only [Bool.false_eq_true, if_false]
                by_cases h4 : s'.1.length = 400
                · have d2 : ((s'.1.length : Int) == (400 : Int)) = true := by simp; omega
                  simp only [d2, h4, if_true]; rfl
                · have d2 : ((s'.1.length : Int) == (400 : Int)) = false := by simp; omega
                  simp only [d2, h4, c1, c2, c3, Bool.false_eq_true, if_false, if_true]; rfl
        · have hl2 : (((enabledS c g.Leaf v).length : Int) != 1) = true := by simpa using hl
          have hl := Bool.eq_false_iff.2 hl
          refine ⟨n, f, by omega, fun s'' hs'' => ?_, ?_⟩
          · simp only [hl, Bool.false_eq_true, if_false] at hs''
            injection hs'' with hs''
            subst hs''
            exact ⟨hP1, hP2⟩
          · simp only [hl, hl2, Bool.not_true, Bool.false_eq_true, false_implies, if_true, if_false, Bool.true_or]; rfl
      · simp only [lt_irr, decide_false, Bool.false_eq_true, if_false]
      · rw [rnd_vals]
        cases hr : rnd c i (allV c) s with
        | none => rfl
        | some s' =>
          have w2 : IntKind.wrap .i64 ((i : Int) + 1) = ((i + 1 : Nat) : Int) := by
            have := I.le
            rw [w64 (by omega) (by omega)]; omega
          simp only [endS, bs, ol, w2]; rfl
    · simp only [lt_irr, decide_false, Bool.false_eq_true, if_false, bs, or_]
    · unfold searchS
      cases srch c 402 0 (begS ⟨(startS c).1, (startS c).2.1⟩) with
      | some s => rfl
      | none => rfl
theorem srchR_eq {c : T27} (H : Fit c) (hn : c.Conds.length ≤ 12) : m44o2 c = (checkM c).bind fun e => if (e != 0) = true then none else match searchS c with | some s => some (s.1, s.2.1, s.2.2, valsA c) | none => none := by
  obtain ⟨e, he⟩ := checkM_some c
  have h1 := numV_pos c
  have h2 := numV_le hn
  have hv2 := valsA_len (c := c)
  have q1 := Start_eq c H
  have q2 := allowedL_eq H hn
  have q3 : ∀ (leaf v : Int), m19 c leaf v = some (enabledS c leaf v) := Enabled_eq c H
  have q4 : ∀ (l : List T37) (g : T37), Short l → l.length ≤ 1000000 → m80 l g = some (findC l g) := find_eq
  have q5 : checkM c = some 0 → ∀ (g : T37) (v : Int), validS c g = true → (((enabledS c g.Leaf v).length : Int) == 1) = true → m67 c g ((enabledS c g.Leaf v).getD 0 default) = some (fireR c g ((enabledS c g.Leaf v).getD 0 default)) := fun hc g v hg h => fire_at H hc hg h
  simp only [M44o2, bind_id, q1, q2]
  generalize m19 = F1 at q3 ⊢
  generalize m80 = F2 at q4 ⊢
  generalize m67 = F3 at q5 ⊢
  unfold startM
  by_cases h0 : (e != 0) = true
  · simp only [he, bs, h0, if_true, or_, bn]
  · have h0 := Bool.eq_false_iff.2 h0
    have e0 : e = 0 := by simpa using h0
    subst e0
    simp only [he, bs, h0, Bool.false_eq_true, if_false, ol, bne_self]
    have q5 := q5 he
    have I0 := beg_inv H he
    refine bind_eq (srch_loop H (fun i s => ((i : Int), s.1, s.2.1, s.2.2)) (fun s => .inl (s.1, s.2.1, s.2.2)) none (fun i s I hi => ?_) (fun s I => ?_) 402 0 _ I0 (by omega) (by omega)) ?_
    · have hi' : (i : Int) < (s.1.length : Int) := by omega
      simp only [hi', decide_true, if_true, bs, ol]
      have hg : validS c (s.1.getD i default) = true := I.ok _ (getD_mem hi)
      refine bind_eq (done_loop H (i := i) (fun s => .inl (s.1, s.2.1, s.2.2)) none (valsA c) (fun t f => t.1.getD i default = s.1.getD i default ∧ DoneP c (s.1.getD i default) t f) (fun k s' n f hk I' hi'' hn' hP => ?_) (fun s n f I => ?_) I hi (fun _ => none) ⟨rfl, fun t ht => by simp at ht⟩) ?_
      · generalize s.1.getD i default = g at hg hP
        obtain ⟨hP1, hP2⟩ := hP
        obtain ⟨vn, hvn, hve, hall⟩ := valsA_mem.1 (getD_mem hk)
        obtain ⟨v, hvd⟩ : ∃ v, v = (valsA c).getD k default := ⟨_, rfl⟩
        rw [← hvd] at hve hall ⊢
        have b1 := I'.le
        have b2 := I'.l1
        have b3 := I'.l2
        have hb1 := enab_one he hg hall
        have w2 : IntKind.wrap .i64 ((k : Int) + 1) = ((k + 1 : Nat) : Int) := by rw [w64 (by omega) (by omega)]; omega
        have c1 : ((s'.1.length + 1) * 32 ≤ 140737488355328) = True := eq_true (by omega)
        have c2 : ((s'.2.1.length + 1) * 8 ≤ 140737488355328) = True := eq_true (by omega)
        have c3 : ((s'.2.2.length + 1) * 2 ≤ 140737488355328) = True := eq_true (by omega)
        have c4 : (n < maxLen) = True := eq_true (by unfold maxLen; omega)
        have c5 : ((0 : Int) ≤ (0 : Int)) = True := eq_true (by omega)
        unfold visit
        rw [hP1, hb1]
        simp only [inL hk, inL hi'', decide_true, if_true, Int.toNat_natCast, hP1, q3, bs, w2, c5, ← hvd]
        by_cases hl : (((enabledS c g.Leaf v).length : Int) == 1) = true
        · have hl2 : (((enabledS c g.Leaf v).length : Int) != 1) = false := by simpa using hl
          have hl3 : (0 < ((enabledS c g.Leaf v).length : Int)) = True := eq_true (by have : ((enabledS c g.Leaf v).length : Int) = 1 := by simpa using hl
                                                                                      omega)
          have hf := q5 g v hg hl
          obtain ⟨t, ht⟩ : ∃ t, t = (enabledS c g.Leaf v).getD 0 default := ⟨_, rfl⟩
          obtain ⟨ti, hti, htx, _⟩ := enabled_at (c := c) (leaf := g.Leaf) (v := v) (by have : ((enabledS c g.Leaf v).length : Int) = 1 := by simpa using hl
                                                                                        omega)
          have htr := H.trans
          rw [← ht] at htx hf
          have hwf : ((Lit.int .i64 t).wf = true) = True := eq_true (by rw [htx]; exact wf_small (by omega))
          simp only [hl, hl2, hl3, hwf, c4, c5, if_true, Bool.not_false, true_implies, Bool.false_or, Int.toNat_zero, ← ht, hf, bs]
          by_cases hd : ((f (encK t)).getD 0 != 0) = true
          · have hh := hP2 t hd
            refine ⟨n, f, by omega, fun s'' hs'' => ?_, ?_⟩
            · unfold addS at hs''
              rw [if_pos hh] at hs''
              injection hs'' with hs''
              subst hs''
              exact ⟨hP1, hP2⟩
            · unfold addS
              rw [if_pos hh]
              simp only [hd, if_true]; rfl
          · have hd := Bool.eq_false_iff.2 hd
            have e1 : ((fireR c g t).2.2 != 0) = false := rfl
            have hfd := q4 s'.1 (fireR c g t).1 (I'.short H) (by omega)
            refine ⟨n + 1, fun q => if q = encK t then some (if true = true then (1 : Int) else 0) else f q, by omega, fun s'' hs'' => ?_, ?_⟩
            · unfold addS at hs''
              split at hs''
              · rename_i hh
                injection hs'' with hs''
                subst hs''
                exact ⟨hP1, hP2.same hh⟩
              · split at hs''
                · cases hs''
                · injection hs'' with hs''
                  subst hs''
                  exact ⟨by rw [getD_app hi'']; exact hP1, hP2.more⟩
            · simp only [hd, e1, hfd, bs, Bool.false_eq_true, if_false, Bool.not_false, if_true, Bool.false_or, find_in]
              unfold addS
              cases hh : hasC s'.1 (fireR c g t).1 with
              | true => simp only [if_true]; rfl
              | false =>
                simp only [Bool.false_eq_true, if_false]
                by_cases h4 : s'.1.length = 400
                · have d2 : ((s'.1.length : Int) == (400 : Int)) = true := by simp; omega
                  simp only [d2, h4, if_true]; rfl
                · have d2 : ((s'.1.length : Int) == (400 : Int)) = false := by simp; omega
                  simp only [d2, h4, c1, c2, c3, Bool.false_eq_true, if_false, if_true]; rfl
        · have hl2 : (((enabledS c g.Leaf v).length : Int) != 1) = true := by simpa using hl
          have hl := Bool.eq_false_iff.2 hl
          refine ⟨n, f, by omega, fun s'' hs'' => ?_, ?_⟩
          · simp only [hl, Bool.false_eq_true, if_false] at hs''
            injection hs'' with hs''
            subst hs''
            exact ⟨hP1, hP2⟩
          · simp only [hl, hl2, Bool.not_true, Bool.false_eq_true, false_implies, if_true, if_false, Bool.true_or]; rfl
      · simp only [lt_irr, decide_false, Bool.false_eq_true, if_false]
      · rw [rnd_vals]
        cases hr : rnd c i (allV c) s with
        | none => rfl
        | some s' =>
          have w2 : IntKind.wrap .i64 ((i : Int) + 1) = ((i + 1 : Nat) : Int) := by
            have := I.le
            rw [w64 (by omega) (by omega)]; omega
          simp only [endS, bs, ol, w2]; rfl
    · simp only [lt_irr, decide_false, Bool.false_eq_true, if_false, bs, or_]
    · unfold searchS
      cases srch c 402 0 (begS ⟨(startS c).1, (startS c).2.1⟩) with
      | some s => rfl
      | none => rfl
end Go.Av
set_option maxRecDepth 100000
namespace Go.Av
open Ch Go.Proofs
def cutN {A : Type} [Inhabited A] (k : Int) (l : List A) : List A := subL l 0 (if k < (l.length : Int) then k else (l.length : Int)).toNat
theorem cutN_len {A : Type} [Inhabited A] {k : Nat} {l : List A} : (cutN (k : Int) l).length ≤ k := by
 unfold cutN; rw [subL_len]; split <;> omega
theorem cutN_mem {A : Type} [Inhabited A] {k : Int} (hk : 0 ≤ k) {l : List A} : ∀ x ∈ cutN k l, x ∈ l := fun x hx => by
 unfold cutN at hx
 rw [subL_eq (by split <;> omega)] at hx
 exact List.mem_of_mem_drop (List.mem_of_mem_take hx)
def few8 (c : T27) : T27 := ⟨(fewS c).Name, cutN 3 (fewS c).Conds, (fewS c).Never, cutN 7 (fewS c).States, (fewS c).Start, cutN 14 (fewS c).Transitions⟩
structure Tiny (c : T27) : Prop where
 fit : Fit c
 conds : c.Conds.length ≤ 3
 states : c.States.length ≤ 7
 trans : c.Transitions.length ≤ 14
theorem few8_tiny (c : T27) : Tiny (few8 c) := by
 have S := few_small c
 have l1 : (few8 c).Conds.length ≤ 3 := cutN_len (k := 3)
 have l2 : (few8 c).States.length ≤ 7 := cutN_len (k := 7)
 have l3 : (few8 c).Transitions.length ≤ 14 := cutN_len (k := 14)
 exact ⟨⟨by omega, Nat.le_trans S.never (by omega), fun l hl => Nat.le_trans (S.lits l hl) (by omega), by omega, fun s hs => Nat.le_trans (S.entry s (cutN_mem (by omega) s hs)) (by omega), fun s hs => Nat.le_trans (S.exit_ s (cutN_mem (by omega) s hs)) (by omega), by omega,
  fun t ht => Nat.le_trans (S.when_ t (cutN_mem (by omega) t ht)) (by omega), fun t ht => Nat.le_trans (S.acts t (cutN_mem (by omega) t ht)) (by omega)⟩, l1, l2, l3⟩
theorem M14 (a0 : T27) : m14 a0 = ((Option.bind (Option.bind (m43 a0) fun r => some r) fun x1 => (if (0 ≤ (if 7 < (x1.States.length : Int) then (7 : Int) else (x1.States.length : Int))) then (if ((if 7 < (x1.States.length : Int) then (7 : Int) else (x1.States.length : Int)) ≤ (x1.States.length : Int)) then (if (0 ≤ (if 3 < (x1.Conds.length : Int) then (3 : Int) else (x1.Conds.length : Int))) then (if ((if 3 < (x1.Conds.length : Int) then (3 : Int) else (x1.Conds.length : Int)) ≤ (x1.Conds.length : Int)) then (if (0 ≤ (if 14 < (x1.Transitions.length : Int) then (14 : Int) else (x1.Transitions.length : Int))) then (if ((if 14 < (x1.Transitions.length : Int) then (14 : Int) else (x1.Transitions.length : Int)) ≤ (x1.Transitions.length : Int)) then (some (⟨x1.Name, (subL x1.Conds 0 (if 3 < (x1.Conds.length : Int) then (3 : Int) else (x1.Conds.length : Int)).toNat), x1.Never, (subL x1.States 0 (if 7 < (x1.States.length : Int) then (7 : Int) else (x1.States.length : Int)).toNat), x1.Start, (subL x1.Transitions 0 (if 14 < (x1.Transitions.length : Int) then (14 : Int) else (x1.Transitions.length : Int)).toNat)⟩ : T27)) else none) else none) else none) else none) else none) else none)) : Option (T27)) := by kernel_rfl
theorem few_eq8 (c : T27) : m14 c = some (few8 c) := by
 have h := Few_eq c
 simp only [M14, bind_id, h, bs, minQ0 7 (by omega), minQ0 3 (by omega), minQ0 14 (by omega), minQ1, if_true]
 rfl
def reachM (c : T27) : Option (List T37 × Int) := (checkM c).bind fun e => if (e != 0) = true then some ([], e) else match searchS c with | some s => some (s.1, 0) | none => some ([], 3)
theorem M15 (a0 : T27) : m15 a0 = ((orJ (Option.bind (Option.bind (m44o1 a0) fun r => some r) fun x1 => (if (x1 != 0) = true then (some ([], x1)) else none)) (Option.bind (Option.bind (m44o2 a0) fun r => some r) fun x1 => (if ((0 : Int) != (0 : Int)) = true then (some ([], (0 : Int))) else (some (x1.1, (0 : Int)))))) : Option ((List T37) × Int)) := by kernel_rfl
theorem Reachable_eq {c : T27} (H : Fit c) (hn : c.Conds.length ≤ 12) : m15 c = reachM c := by
 obtain ⟨e, he⟩ := checkM_some c
 have q1 := srchE_eq H hn
 have q2 := srchR_eq H hn
 unfold reachM
 simp only [M15, bind_id, q1, q2, he, bs]
 by_cases h0 : (e != 0) = true
 ·simp only [h0, bs, if_true]; rfl
 ·have h0 := Bool.eq_false_iff.2 h0
  simp only [h0, Bool.false_eq_true, if_false]
  cases searchS c with
  | none => rfl
  | some s => rfl
theorem srch_inv {c : T27} (H : Fit c) : ∀ {n i : Nat} {s s' : SS}, Inv c s → srch c n i s = some s' → Inv c s'
 | 0, _, _, _, _, h => by cases h
 | n + 1, i, s, s', I, h => by
  unfold srch at h
  split at h
  ·rw [Option.bind_eq_some_iff] at h
   obtain ⟨t, h1, h2⟩ := h
   exact srch_inv H (rnd_inv H I h1).1 h2
  ·injection h with h; subst h; exact I
theorem searchS_inv {c : T27} (H : Fit c) (hc : checkM c = some 0) {s : SS} (h : searchS c = some s) : Inv c s := srch_inv H (beg_inv H hc) h
end Go.Av
set_option maxRecDepth 100000
namespace Go.Av
open Ch Go.Proofs
theorem any_loop {X : Type} {b : (Bool × Int) → Option ((Bool × Int) ⊕ (Bool ⊕ X))} {k : Bool → Option X} (n : Nat) (p : Nat → Bool) {z : Option X} (hb : ∀ (f : Bool) (i : Nat), i < n → b (f, (i : Int)) = some (.inl ((f || p i), ((i + 1 : Nat) : Int)))) (he : ∀ f, b (f, (n : Int)) = some (.inr (.inl f))) (hz : k (anyR p n) = z) :
  (loopO b (false, 0)).bind (onS k) = z := by
 have key : ∀ m i f, i + m = n → loopO b (f, (i : Int)) = some (.inl (f || (List.range' i m).any p)) := by
  intro m
  induction m with
  | zero =>
   intro i f h
   obtain rfl : i = n := by omega
   rw [loopO_eq, he]; simp
  | succ m ih =>
   intro i f h
   rw [loopO_eq, hb f i (by omega)]
   simp only [Option.bind_some]
   rw [ih (i + 1) _ (by omega), List.range'_succ, List.any_cons, Bool.or_assoc]
 have := key n 0 false (by omega)
 rw [← List.range_eq_range', Bool.false_or] at this
 refine bind_to this ?_
 exact hz
theorem getD_end {α : Type} [Inhabited α] {l : List α} {x : α} {n : Nat} (h : n = l.length) : (l ++ [x]).getD n default = x := by
 subst h; simp [List.getD_eq_getElem?_getD]
structure Wy (c : T27) (g0 : T37) (s : SS) : Prop where
 i0 : s.1.getD 0 default = g0
 f0 : s.2.1.getD 0 default = -1
 w : ∀ k, 0 < k → k < s.1.length → ∃ j v : Nat, j < k ∧ s.2.1.getD k default = (j : Int) ∧ v < numV c ∧ s.2.2.getD k default = (v : Int) ∧ stepO c (s.1.getD j default) (v : Int) = some (s.1.getD k default)
 nd : s.1.Nodup
theorem beg_wy (c : T27) (g : T37) : Wy c g (begS g) := ⟨rfl, rfl, fun k h1 h2 => by simp only [begS, List.length_cons, List.length_nil] at h2; omega, by simp [begS]⟩
theorem visit_wy {c : T27} {g0 : T37} {i v : Nat} {s s' : SS} (I : Inv c s) (W : Wy c g0 s) (hi : i < s.1.length) (hv : v < numV c) (hs : visit c i s (v : Int) = some s') : Wy c g0 s' := by
 unfold visit at hs
 split at hs
 ·injection hs with hs; subst hs; exact W
 ·rename_i h he
  unfold addS at hs
  split at hs
  ·injection hs with hs; subst hs; exact W
  ·rename_i hh
   split at hs
   ·cases hs
   ·injection hs with hs
    subst hs
    have l1 := I.l1
    have l2 := I.l2
    have pos := I.pos
    refine ⟨?_, ?_, fun k h1 h2 => ?_, ?_⟩
    ·show (s.1 ++ [h]).getD 0 default = g0
     rw [getD_app pos]; exact W.i0
    ·show (s.2.1 ++ [(i : Int)]).getD 0 default = -1
     rw [getD_app (by omega)]; exact W.f0
    ·simp only [List.length_append, List.length_cons, List.length_nil] at h2
     show ∃ j v' : Nat, j < k ∧ (s.2.1 ++ [(i : Int)]).getD k default = (j : Int) ∧ v' < numV c ∧ (s.2.2 ++ [(v : Int)]).getD k default = (v' : Int) ∧ stepO c ((s.1 ++ [h]).getD j default) (v' : Int) = some ((s.1 ++ [h]).getD k default)
     by_cases hk : k < s.1.length
     ·obtain ⟨j, v', q1, q2, q3, q4, q5⟩ := W.w k h1 hk
      refine ⟨j, v', q1, ?_, q3, ?_, ?_⟩
      ·rw [getD_app (by omega)]; exact q2
      ·rw [getD_app (by omega)]; exact q4
      ·rw [getD_app (by omega), getD_app hk]; exact q5
     ·obtain rfl : k = s.1.length := by omega
      refine ⟨i, v, hi, ?_, hv, ?_, ?_⟩
      ·rw [getD_end l1.symm]
      ·rw [getD_end l2.symm]
      ·rw [getD_app hi, getD_end rfl]; exact he
    ·show (s.1 ++ [h]).Nodup
     rw [List.nodup_append]
     refine ⟨W.nd, by simp, fun a ha b hb => ?_⟩
     simp only [List.mem_singleton] at hb
     subst hb
     rintro rfl
     exact hh (hasC_iff.2 ha)
theorem rnd_wy {c : T27} (H : Fit c) {g0 : T37} {i : Nat} : ∀ {l : List Int} {s s' : SS}, (∀ v ∈ l, ∃ n : Nat, v = n ∧ n < numV c) → Inv c s → Wy c g0 s → i < s.1.length → rnd c i l s = some s' → Wy c g0 s'
 | [], s, s', _, _, W, _, hs => by injection hs with hs; subst hs; exact W
 | v :: l, s, s', hl, I, W, hi, hs => by
  unfold rnd at hs
  rw [Option.bind_eq_some_iff] at hs
  obtain ⟨t, h1, h2⟩ := hs
  obtain ⟨n, rfl, hn⟩ := hl v (by simp)
  obtain ⟨I1, k1⟩ := visit_inv H I h1
  exact rnd_wy H (fun w hw => hl w (by simp [hw])) I1 (visit_wy I W hi hn h1) (by omega) h2
theorem allV_mem {c : T27} {v : Int} : v ∈ allV c ↔ ∃ n : Nat, v = n ∧ n < numV c := by
 unfold allV
 rw [List.mem_map]
 constructor
 ·rintro ⟨n, h, rfl⟩; exact ⟨n, rfl, List.mem_range.1 h⟩
 ·rintro ⟨n, rfl, h⟩; exact ⟨n, List.mem_range.2 h, rfl⟩
theorem srch_wy {c : T27} (H : Fit c) {g0 : T37} : ∀ {n i : Nat} {s s' : SS}, Inv c s → Wy c g0 s → srch c n i s = some s' → Wy c g0 s'
 | 0, _, _, _, _, _, h => by cases h
 | n + 1, i, s, s', I, W, h => by
  unfold srch at h
  split at h
  ·rename_i hi
   rw [Option.bind_eq_some_iff] at h
   obtain ⟨t, h1, h2⟩ := h
   exact srch_wy H (rnd_inv H I h1).1 (rnd_wy H (fun v hv => allV_mem.1 hv) I W hi h1) h2
  ·injection h with h; subst h; exact W
def begG (c : T27) : T37 := ⟨(startS c).1, (startS c).2.1⟩
theorem searchS_wy {c : T27} (H : Fit c) (hc : checkM c = some 0) {s : SS} (h : searchS c = some s) : Wy c (begG c) s := srch_wy H (beg_inv H hc) (beg_wy c (begG c)) h
theorem visit_mem {c : T27} {i : Nat} {s s' : SS} {v : Int} (hs : visit c i s v = some s') {h : T37} (he : stepO c (s.1.getD i default) v = some h) : h ∈ s'.1 := by
 unfold visit at hs
 rw [he] at hs
 simp only at hs
 unfold addS at hs
 split at hs
 ·rename_i hh; injection hs with hs; subst hs; exact hasC_iff.1 hh
 ·split at hs
  ·cases hs
  ·injection hs with hs; subst hs; simp
theorem rnd_get {c : T27} {i : Nat} : ∀ {l : List Int} {s s' : SS}, rnd c i l s = some s' → ∃ k, s'.1 = s.1 ++ k
 | [], s, s', hs => by injection hs with hs; subst hs; exact ⟨[], by simp⟩
 | v :: l, s, s', hs => by
  unfold rnd at hs
  rw [Option.bind_eq_some_iff] at hs
  obtain ⟨t, h1, h2⟩ := hs
  obtain ⟨k1, e1⟩ := visit_get h1
  obtain ⟨k2, e2⟩ := rnd_get h2
  exact ⟨k1 ++ k2, by rw [e2, e1, List.append_assoc]⟩
theorem rnd_mem {c : T27} {i : Nat} : ∀ {l : List Int} {s s' : SS}, i < s.1.length → rnd c i l s = some s' → ∀ v ∈ l, ∀ h, stepO c (s.1.getD i default) v = some h → h ∈ s'.1
 | [], s, s', _, _, v, hv, _, _ => by cases hv
 | v :: l, s, s', hi, hs, w, hw, h, he => by
  unfold rnd at hs
  rw [Option.bind_eq_some_iff] at hs
  obtain ⟨t, h1, h2⟩ := hs
  obtain ⟨k1, e1⟩ := visit_get h1
  have e3 : t.1.getD i default = s.1.getD i default := by rw [e1, getD_app hi]
  rcases List.mem_cons.1 hw with rfl | hw
  ·obtain ⟨k2, e2⟩ := rnd_get h2
   rw [e2]; exact List.mem_append_left _ (visit_mem h1 he)
  ·exact rnd_mem (by rw [e1]; simp; omega) h2 w hw h (by rw [e3]; exact he)
def Cl (c : T27) (s : SS) (i : Nat) : Prop := ∀ j, j < i → ∀ v : Nat, v < numV c → ∀ h, stepO c (s.1.getD j default) (v : Int) = some h → h ∈ s.1
theorem srch_cl {c : T27} : ∀ {n i : Nat} {s s' : SS}, i ≤ s.1.length → Cl c s i → srch c n i s = some s' → Cl c s' s'.1.length
 | 0, _, _, _, _, _, h => by cases h
 | n + 1, i, s, s', hi, C, h => by
  unfold srch at h
  split at h
  ·rename_i hlt
   rw [Option.bind_eq_some_iff] at h
   obtain ⟨t, h1, h2⟩ := h
   obtain ⟨k, e⟩ := rnd_get h1
   refine srch_cl (by rw [e]; simp; omega) (fun j hj v hv x hx => ?_) h2
   by_cases hji : j = i
   ·subst hji
    rw [e, getD_app hlt] at hx
    exact rnd_mem hlt h1 v (allV_mem.2 ⟨v, rfl, hv⟩) x hx
   ·rw [e, getD_app (by omega)] at hx
    rw [e]; exact List.mem_append_left _ (C j (by omega) v hv x hx)
  ·injection h with h
   subst h
   obtain rfl : i = s.1.length := by omega
   exact C
theorem searchS_cl {c : T27} {s : SS} (h : searchS c = some s) : Cl c s s.1.length := srch_cl (by simp) (fun j hj => by omega) h
theorem reach_step {c : T27} {s : SS} (h : searchS c = some s) {g x : T37} (hg : g ∈ s.1) {v : Nat} (hv : v < numV c) (he : stepO c g (v : Int) = some x) : x ∈ s.1 := by
 obtain ⟨j, hj, rfl⟩ := List.getElem_of_mem hg
 exact searchS_cl h j hj v hv x (by simpa [List.getD_eq_getElem?_getD, List.getElem?_eq_getElem hj] using he)
theorem stepO_small {c : T27} (hn : c.Conds.length ≤ 12) {g x : T37} {v : Int} (h0 : 0 ≤ v) (h1 : v < 65536) (he : stepO c g v = some x) : ∃ n : Nat, v = n ∧ n < numV c := by
 cases ha : allowedS c v with
 | false => rw [stepO_not ha] at he; cases he
 | true =>
  refine ⟨v.toNat, by omega, ?_⟩
  unfold allowedS at ha
  simp only [Bool.and_eq_true, Bool.not_eq_true'] at ha
  have hw := ha.1
  unfold wideB at hw
  have d : decide ((c.Conds.length : Int) < 16) = true := by simp; omega
  rw [d, Bool.true_and] at hw
  have e1 : min ((c.Conds.length : Int)).toNat IntKind.u16.bits = c.Conds.length := by
   show min ((c.Conds.length : Int)).toNat 16 = _
   omega
  rw [e1] at hw
  have h2 : v.fdiv (2 ^ c.Conds.length) = 0 := by simpa using hw
  rw [Int.fdiv_eq_ediv_of_nonneg _ (Int.le_of_lt (Int.pow_pos (by omega)))] at h2
  have h3 : v < 2 ^ c.Conds.length := by
   apply Classical.byContradiction
   intro hn'
   have hp : (0 : Int) < 2 ^ c.Conds.length := Int.pow_pos (by omega)
   have h4 : 1 ≤ v / 2 ^ c.Conds.length := by
    rw [Int.le_ediv_iff_mul_le hp]; omega
   omega
  unfold numV
  have h5 : ((2 ^ c.Conds.length : Nat) : Int) = 2 ^ c.Conds.length := by push_cast; rfl
  omega
end Go.Av
set_option maxRecDepth 1000000
namespace Go.Av
open Ch Go.Proofs
theorem Cc.awake_true : m13 = some true := by kernel_rfl
theorem i64_any {v : Int} (h : (Lit.int .u16 v).wf = true) : 0 ≤ Int.tmod v 8 ∧ Int.tmod v 8 < 65536 := by
 have := u16_bounds h
 rw [Int.tmod_eq_emod_of_nonneg this.1]
 omega
theorem M6 (a0 : T27) (a1 : Int) : m6 a0 a1 = ((Option.bind (Option.bind (Option.bind (m13) fun r => some r) fun x1 => (if (!x1) = true then (some (.inr (false))) else (Option.bind (Option.bind (m14 a0) fun r => some r) fun x3 => (Option.bind (Option.bind (m15 x3) fun r => some r) fun x4 => (Option.bind (Option.bind (m28o0 x3) fun r => some r) fun x5 => (if ((x4.2 != 0) || (x5.1 != 0)) = true then (some (.inr (((x4.2 != 0) && ((x4.1.length : Int) == (0 : Int)))))) else (Option.bind ((if (!((x4.1.length : Int) == (0 : Int))) = true → (0 : Int) ≤ (0 : Int) then (if (!((x4.1.length : Int) == (0 : Int))) = true → 0 < (x4.1.length : Int) then ((if (!((x4.1.length : Int) == (0 : Int))) = true then m17 (x4.1.getD (0 : Int).toNat default) (⟨x5.2.2.1, x5.2.2.2⟩ : T37) else some default).bind fun r8_0 => some r8_0) else none) else none)) fun (x8 : (Bool)) => (if (((x4.1.length : Int) == (0 : Int)) || (!x8)) = true then (some (.inr (false))) else (some (.inl (x4.1, x3.Name, x3.Conds, x3.Never, x3.States, x3.Start, x3.Transitions))))))))))) (onS fun (y1 : (List T37) × (List UInt8) × (List (List UInt8)) × (List (List T116)) × (List T119) × Int × (List T85)) => (Option.bind (Option.bind (some (.inl ())) (onS fun (_ : Unit) => (loopO (fun (s2 : Int) => ((Option.bind (if (decide (s2 < (y1.1.length : Int))) = true then (some (.inl ())) else (some (.inr (.inr (.inl ()))))) (onS fun (_ : Unit) => (Option.bind (Option.bind (if (0 ≤ s2) then (if (s2 < (y1.1.length : Int)) then (Option.bind ((if (8 : Int) ≠ 0 then ((m29 (⟨y1.2.1, y1.2.2.1, y1.2.2.2.1, y1.2.2.2.2.1, y1.2.2.2.2.2.1, y1.2.2.2.2.2.2⟩ : T27) (y1.1.getD s2.toNat default) (Int.tmod a1 (8 : Int))).bind fun r13_0 => some r13_0) else none)) fun (x13 : ((T37 × (List (List UInt8)) × Int))) => (if (x13.2.2 != 0) = true then (some (.inr (.inl ()))) else (some (.inl (x13.1.Leaf, x13.1.Memory))))) else none) else none) (onS fun (y3 : Int × (List Int)) => (Option.bind (Option.bind (some (.inl ())) (onS fun (_ : Unit) => (loopO (fun (s4 : Bool × Int) => ((if (decide (s4.2 < (y1.1.length : Int))) = true then (if (0 ≤ s4.2) then (if (s4.2 < (y1.1.length : Int)) then (Option.bind (((if (!s4.1) = true then m17 (⟨y3.1, y3.2⟩ : T37) (y1.1.getD s4.2.toNat default) else some default).bind fun r19_0 => some r19_0)) fun (x19 : (Bool)) => (some (.inl ((s4.1 || x19), (IntKind.wrap .i64 (s4.2 + 1)))))) else none) else none) else (some (.inr (.inl s4.1)))) : Option ((Bool × Int) ⊕ ((Bool) ⊕ ((Unit) ⊕ ((Int) ⊕ ((Unit) ⊕ (Bool)))))))) (false, (0 : Int))))) (onS fun (y5 : Bool) => (if (!y5) = true then (some (.inr (.inr (.inr (false))))) else (some (.inl ()))))))) (onS fun (_ : Unit) => (some (.inl (IntKind.wrap .i64 (s2 + 1)))))))) : Option ((Int) ⊕ ((Unit) ⊕ (Bool))))) (0 : Int)))) (onS fun (_ : Unit) => (some true))))) : Option (Bool)) := by kernel_rfl
theorem plain6 {c : T27} {v : Int} (_ : ok27 c) (hv : (Lit.int .u16 v).wf = true) : m6 c v = some true := by
 have T := few8_tiny c
 have H := T.fit
 have hn : (few8 c).Conds.length ≤ 12 := by have := T.conds; omega
 obtain ⟨w0, w1⟩ := i64_any hv
 have q0 := Cc.awake_true
 have q1 := few_eq8 c
 have q2 := Reachable_eq H hn
 have q3 := Start_eq (few8 c) H
 have q4 : ∀ a b : T37, a.Memory.length ≤ 1000000 → m17 a b = some (eqC a b) := SameConfig_eq
 have q5 : ∀ (g : T37) (v : Int), m29 (few8 c) g v = stepM (few8 c) g v := Step_eq (few8 c) H
 simp only [M6, bind_id, q0, q1, q2, q3, bs, Bool.not_true, Bool.false_eq_true, if_false]
 generalize m17 = F at q4 ⊢
 have q5' : ∀ (g : T37) (v : Int), m29 ⟨(few8 c).Name, (few8 c).Conds, (few8 c).Never, (few8 c).States, (few8 c).Start, (few8 c).Transitions⟩ g v = stepM (few8 c) g v := q5
 generalize m29 = F2 at q5' ⊢
 unfold reachM startM
 obtain ⟨e, he⟩ := checkM_some (few8 c)
 by_cases h0 : (e != 0) = true
 ·simp only [he, bs, h0, if_true, Bool.true_or, or_, List.length_nil, Bool.true_and]; rfl
 ·have h0 := Bool.eq_false_iff.2 h0
  have e0 : e = 0 := by simpa using h0
  subst e0
  simp only [he, bs, h0, Bool.false_eq_true, if_false]
  cases hs : searchS (few8 c) with
  | none => rfl
  | some s =>
   have I := searchS_inv H he hs
   have W := searchS_wy H he hs
   have I1 := I.le
   have I2 := I.pos
   have S := I.short H
   have z1 : ((s.1.length : Int) == (0 : Int)) = false := by rw [beq_eq_false_iff_ne]; omega
   have z2 : (0 < (s.1.length : Int)) = True := eq_true (by omega)
   have z3 : ((0 : Int) ≤ (0 : Int)) = True := eq_true (by omega)
   have z4 := q4 (s.1.getD 0 default) ⟨(startS (few8 c)).1, (startS (few8 c)).2.1⟩ (S.at I2)
   have z5 : eqC (s.1.getD 0 default) ⟨(startS (few8 c)).1, (startS (few8 c)).2.1⟩ = true := eqC_iff.2 W.i0
   rw [z5] at z4
   simp only [bne_self, Bool.false_or, Bool.false_eq_true, if_false, z1, z2, z3, z4, Bool.not_false, Bool.not_true, true_implies, if_true, Int.toNat_zero, bs, ol]
   refine loop_pass s.1.length (fun i hi => ?_) (by simp only [lt_irr, decide_false, Bool.false_eq_true, if_false, bs, or_]) rfl
   obtain ⟨r, hr⟩ := stepM_some (few8 c) (s.1.getD i default) (Int.tmod v 8)
   simp only [inL hi, decide_true, Int.toNat_natCast, if_true, q5', hr, bs, ol, show ((8 : Int) ≠ 0) = True from eq_true (by decide), wr1 hi (by omega)]
   by_cases h2 : (r.2.2 != 0) = true
   ·simp only [h2, if_true, or_]; rfl
   ·have h2 := Bool.eq_false_iff.2 h2
    have h3 : (r.2.2 == 0) = true := by simpa using h2
    have h4 := stepO_of hr
    rw [h3, if_pos rfl] at h4
    obtain ⟨n, hn1, hn2⟩ := stepO_small hn w0 w1 h4
    rw [hn1] at h4
    have h5 := reach_step hs (getD_mem hi) hn2 h4
    have h6 : r.1.Memory.length ≤ 1000000 := S _ h5
    simp only [h2, Bool.false_eq_true, if_false, ol]
    refine bind_eq (any_loop s.1.length (fun j => eqC r.1 (s.1.getD j default)) (fun f j hj => ?_) (fun f => ?_) ?_ (z := some (.inl ()))) ?_
    ·have w2 : IntKind.wrap .i64 ((j : Int) + 1) = ((j + 1 : Nat) : Int) := by rw [w64 (by omega) (by omega)]; omega
     simp only [inL hj, decide_true, Int.toNat_natCast, if_true, q4 r.1 _ h6, w2, show (⟨r.1.Leaf, r.1.Memory⟩ : T37) = r.1 from rfl]
     cases f <;> simp only [Bool.not_true, Bool.not_false, Bool.false_eq_true, if_true, if_false, bs, Bool.true_or, Bool.false_or]
    ·simp only [lt_irr, decide_false, Bool.false_eq_true, if_false]
    ·have : anyR (fun j => eqC r.1 (s.1.getD j default)) s.1.length = true := by
      rw [anyR_iff]
      obtain ⟨j, hj, e⟩ := List.getElem_of_mem h5
      exact ⟨j, hj, eqC_iff.2 (by simp [List.getD_eq_getElem?_getD, List.getElem?_eq_getElem hj, e])⟩
     simp only [this, Bool.not_true, Bool.false_eq_true, if_false]
    ·rfl
end Go.Av
