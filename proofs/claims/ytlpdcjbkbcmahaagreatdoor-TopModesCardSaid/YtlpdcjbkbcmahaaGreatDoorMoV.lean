/- The valuations of the charts' conditions. -/
import Derived.Test.YtlpdcjbkbcmahaaGreatDoorMoF
import Derived.Test.YtlpdcjbkbcmahaaGreatDoorBits
set_option linter.unusedVariables false
set_option linter.unusedSimpArgs false
set_option maxRecDepth 1000000
namespace Go.Av.Mo
open Go.Av.Ch
def namesL : List (List UInt8) := [[71, 82, 79, 85, 78, 68], [72, 69, 65, 68, 73, 78, 71], [78, 65, 86], [82, 69, 65, 68, 89], [90, 79, 78, 69], [70, 73, 78, 65, 76], [71, 79], [72, 79, 76, 68], [83, 80, 69, 69, 68], [67, 72, 65, 78, 71, 69], [65, 66, 79, 86, 69], [84, 65, 75, 69], [78, 69, 65, 82], [65, 84], [84, 72, 82, 85, 83, 84], [65, 67, 67, 69, 76], [76, 69, 86, 69, 76], [68, 79, 87, 78], [83, 84, 79, 80, 80, 69, 68]]
theorem Names_eq : m33 = some namesL := by kernel_rfl
theorem indexS_eq (l : List (List UInt8)) (x : List UInt8) (hl : l.length ≤ 100000) : m50 l x = some (findR (fun i => x == l.getD i default) l.length) := by
  delta m50 d50
  simp only [↓JD.sg_m, ↓JD.sq_m, ↓JD.sc_m, ↓JD.bk_m, ↓JD.lp_m, ↓JD.cd_m, ↓JD.lu_m, ↓JD.ct_m, ↓JD.ce_m, ↓JL.r_m, ↓JL.z_m, ↓JD.se_m, onE_r, ↓Tr.run, ↓Tr.run_nd, ↓Tr.run_c3, ↓Tr.run_c2, ↓Tr.run_nx, ↓onS, bind_ite, Option.bind_some, Option.bind_none, obR]
  refine idx_loop (fun i hi => ?_) ?_
  · (simp only [exB_ite, exB_some, exB_none]; simp only [inL hi, decide_true, Int.toNat_natCast, if_true, implies_true, wr1 hi (by omega)]; try rfl)
  · (simp only [lt_irr, decide_false, Bool.false_eq_true, if_false]; try rfl)
/-- The place of a chart's condition among the names. -/
def posS (c : T48) (i : Nat) : Int := findR (fun j => c.Conds.getD i default == namesL.getD j default) 19
def posOk (c : T48) : Bool := (List.range c.Conds.length).all fun i => decide (0 ≤ posS c i) && decide (posS c i < 19)
def valS (c : T48) (b : Nat) : Nat := valF (fun i => (posS c i).toNat) b c.Conds.length
theorem pos1 : posOk C1 = true := by kernel_rfl
theorem pos2 : posOk C2 = true := by kernel_rfl
theorem pos3 : posOk C3 = true := by kernel_rfl
theorem pos_of {c : T48} (h : posOk c = true) {i : Nat} (hi : i < c.Conds.length) : 0 ≤ posS c i ∧ posS c i < 19 := by
  simp only [posOk, List.all_eq_true] at h
  simpa using h i (List.mem_range.2 hi)
theorem valS_lt {c : T48} {b : Nat} : valS c b < 2 ^ c.Conds.length := valF_lt _ _ _
theorem valS_lt16 {c : T48} (hc : c.Conds.length ≤ 16) {b : Nat} : valS c b < 65536 := Nat.lt_of_lt_of_le valS_lt (show 2 ^ c.Conds.length ≤ 2 ^ 16 from Nat.pow_le_pow_right (by omega) hc)
/-- A bit of a valuation. -/
theorem bit_valS {c : T48} (hc : c.Conds.length ≤ 16) {b j : Nat} (hj : j < c.Conds.length) : bitV (valS c b : Int) j = b.testBit (posS c j).toNat := by
  rw [bitV_eq (by omega) (by omega), Int.toNat_natCast, valS, valF_bit]
  simp [hj]
theorem valuation_eq {c : T48} (H : Fit c) (hp : posOk c = true) (hc : c.Conds.length ≤ 16) {b : Nat} (hb : b < 4294967296) : m41 c (b : Int) = some ((valS c b : Int), allowedS c (valS c b)) := by
  delta m41 d41
  simp only [↓JD.sg_m, ↓JD.sq_m, ↓JD.sc_m, ↓JD.bk_m, ↓JD.lp_m, ↓JD.cd_m, ↓JD.lu_m, ↓JD.ct_m, ↓JD.ce_m, ↓JL.r_m, ↓JL.z_m, ↓JD.se_m, onE_r, ↓Tr.run, ↓Tr.run_nd, ↓Tr.run_c3, ↓Tr.run_c2, ↓Tr.run_nx, ↓onS, bind_ite, Option.bind_some, Option.bind_none, obR, Names_eq]
  refine on_l (loop_st c.Conds.length (fun i => (((valF (fun i => (posS c i).toNat) b i : Nat) : Int), (i : Int))) (Sum.inl (valS c b : Int)) (fun i hi => ?_) (by (simp only [lt_irr, decide_false, Bool.false_eq_true, if_false]; try rfl))) ?_
  · obtain ⟨p0, p1⟩ := pos_of hp hi
    have hl : valF (fun i => (posS c i).toNat) b i < 65536 := Nat.lt_of_lt_of_le (valF_lt _ _ _) (show 2 ^ i ≤ 2 ^ 16 from Nat.pow_le_pow_right (by omega) (by omega))
    have h2 : 2 ^ i < 65536 := Nat.pow_lt_pow_right (a := 2) (m := i) (n := 16) (by omega) (by omega)
    have e := indexS_eq namesL (c.Conds.getD i default) (by decide)
    rw [show namesL.length = 19 from rfl] at e
    have hbit := bitW_eq hb (k := (posS c i).toNat) (by omega)
    unfold bitW at hbit
    simp only [inL hi, decide_true, Int.toNat_natCast, if_true, e, Option.bind_some, show findR (fun j => c.Conds.getD i default == namesL.getD j default) 19 = posS c i from rfl, p0, hbit, shl16 (show i < 16 by omega), or16 hl h2, wr1 hi (by omega), valF]
    split <;> rfl
  · simp only [Allowed_eq c H, Option.bind_some]
end Go.Av.Mo
