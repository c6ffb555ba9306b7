/- Valuations of any axis, in both packages. -/
import Derived.Test.YtlpdcjbkbcmahaaGreatDoorMoUa
import Derived.Test.YtlpdcjbkbcmahaaGreatDoorMoQ1
import Derived.Test.YtlpdcjbkbcmahaaGreatDoorMoQ2
import Derived.Test.YtlpdcjbkbcmahaaGreatDoorMoQ3
set_option linter.unusedVariables false
set_option linter.unusedSimpArgs false
set_option maxRecDepth 1000000
namespace Go.Av.Mo
open Go.Av.Ch
theorem rNames_eq : m34 = some namesL := by kernel_rfl
/-! ### The specification -/
def uniq (c : T48) : Bool := (List.range c.Conds.length).all fun i => (List.range 19).all fun j => (namesL.getD j default == c.Conds.getD i default) == decide ((j : Int) = posS c i)
theorem uniq1 : uniq C1 = true := by kernel_rfl
theorem uniq2 : uniq C2 = true := by kernel_rfl
theorem uniq3 : uniq C3 = true := by kernel_rfl
theorem uniq_of {c : T48} (h : uniq c = true) {i j : Nat} (hi : i < c.Conds.length) (hj : j < 19) : (namesL.getD j default == c.Conds.getD i default) = decide ((j : Int) = posS c i) := by
  simp only [uniq, List.all_eq_true] at h
  exact eq_of_beq (h i (List.mem_range.2 hi) j (List.mem_range.2 hj))
/-- The bit that has been added when the first names have been looked at. -/
def addB (c : T48) (b i v j : Nat) : Nat := if (decide ((posS c i).toNat < j) && b.testBit (posS c i).toNat) = true then v ||| 2 ^ i else v
theorem etaC (x : T48) : (⟨x.Name, x.Conds, x.Never, x.States, x.Start, x.Transitions⟩ : T48) = x := Eq.mpr rfl rfl
theorem M23 (a0 a1 : Int) : m23 a0 a1 = ((((Option.bind (Option.bind (m37 a0) fun r => some r) fun x1 => (if ((x1.2 != (0 : Int)) || (decide ((524288 : Int) ≤ a1))) = true then (some (.inr (((0 : Int), (1 : Int)))) : Option (((List UInt8) × (List (List UInt8)) × (List (List T176)) × (List T57) × Int × (List T119)) ⊕ (Int × Int))) else (some (.inl (x1.1.Name, x1.1.Conds, x1.1.Never, x1.1.States, x1.1.Start, x1.1.Transitions)) : Option (((List UInt8) × (List (List UInt8)) × (List (List T176)) × (List T57) × Int × (List T119)) ⊕ (Int × Int))))) : Option (((List UInt8) × (List (List UInt8)) × (List (List T176)) × (List T57) × Int × (List T119)) ⊕ (Int × Int))).bind (onS fun (y1 : (List UInt8) × (List (List UInt8)) × (List (List T176)) × (List T57) × Int × (List T119)) => (((((some (.inl ()) : Option ((Unit) ⊕ ((Int) ⊕ (Int × Int)))) : Option ((Unit) ⊕ ((Int) ⊕ (Int × Int)))).bind (onS fun (_ : Unit) => (loopO (fun (s2 : Int × Int) => ((((if (decide (s2.2 < (y1.2.1.length : Int))) = true then (some (.inl ()) : Option ((Unit) ⊕ ((Int × Int) ⊕ ((Int) ⊕ (Int × Int))))) else (some (.inr (.inr (.inl s2.1))) : Option ((Unit) ⊕ ((Int × Int) ⊕ ((Int) ⊕ (Int × Int)))))) : Option ((Unit) ⊕ ((Int × Int) ⊕ ((Int) ⊕ (Int × Int))))).bind (onS fun (_ : Unit) => (((((if ((0 : Int) ≤ s2.2) then (if (s2.2 < (y1.2.1.length : Int)) then (Option.bind (Option.bind (m34) fun r => some r) fun x8 => (some (.inl (x8, (x8.length : Int))) : Option (((List (List UInt8)) × Int) ⊕ ((Int) ⊕ ((Int × Int) ⊕ ((Int) ⊕ (Int × Int))))))) else none) else none) : Option (((List (List UInt8)) × Int) ⊕ ((Int) ⊕ ((Int × Int) ⊕ ((Int) ⊕ (Int × Int)))))).bind (onS fun (y3 : (List (List UInt8)) × Int) => (loopO (fun (s4 : Int × Int) => ((if (decide (s4.2 < y3.2)) = true then (if ((0 : Int) ≤ s4.2) then (if (s4.2 < (y3.1.length : Int)) then (if ((y3.1.getD s4.2.toNat default) == (y1.2.1.getD s2.2.toNat default)) = true → ((0 : Int) ≤ s4.2) then (if (((y3.1.getD s4.2.toNat default) == (y1.2.1.getD s2.2.toNat default)) && ((IntKind.wrap .u32 ((((BitVec.ofInt (IntKind.bits .u32) (Int.fdiv a1 (2 ^ (min s4.2.toNat (IntKind.bits .u32))))) &&& (BitVec.ofInt (IntKind.bits .u32) (1 : Int))).toNat : Int))) == (1 : Int))) = true then (if ((0 : Int) ≤ s2.2) then (some (.inl ((IntKind.wrap .u16 ((((BitVec.ofInt (IntKind.bits .u16) s4.1) ||| (BitVec.ofInt (IntKind.bits .u16) (IntKind.wrap .u16 ((1 : Int) * 2 ^ (min s2.2.toNat (IntKind.bits .u16)))))).toNat : Int))), (IntKind.wrap .i64 (s4.2 + (1 : Int))))) : Option ((Int × Int) ⊕ ((Int) ⊕ ((Int × Int) ⊕ ((Int) ⊕ (Int × Int)))))) else none) else (some (.inl (s4.1, (IntKind.wrap .i64 (s4.2 + (1 : Int))))) : Option ((Int × Int) ⊕ ((Int) ⊕ ((Int × Int) ⊕ ((Int) ⊕ (Int × Int))))))) else none) else none) else none) else (some (.inr (.inl s4.1)) : Option ((Int × Int) ⊕ ((Int) ⊕ ((Int × Int) ⊕ ((Int) ⊕ (Int × Int))))))) : Option ((Int × Int) ⊕ ((Int) ⊕ ((Int × Int) ⊕ ((Int) ⊕ (Int × Int))))))) (s2.1, (0 : Int))))) : Option ((Int) ⊕ ((Int × Int) ⊕ ((Int) ⊕ (Int × Int))))).bind (onS fun (y5 : Int) => (some (.inl (y5, (IntKind.wrap .i64 (s2.2 + (1 : Int))))) : Option ((Int × Int) ⊕ ((Int) ⊕ (Int × Int)))))))) : Option ((Int × Int) ⊕ ((Int) ⊕ (Int × Int))))) ((0 : Int), (0 : Int))))) : Option ((Int) ⊕ (Int × Int))).bind (onS fun (y6 : Int) => (Option.bind (Option.bind (m47 (⟨y1.1, y1.2.1, y1.2.2.1, y1.2.2.2.1, y1.2.2.2.2.1, y1.2.2.2.2.2⟩ : T48) y6) fun r => some r) fun x15 => (if (!x15) = true then (some ((0 : Int), (11 : Int)) : Option (Int × Int)) else (some (y6, (0 : Int)) : Option (Int × Int)))))))) : Option (Int × Int)) := by kernel_rfl
theorem rValuation_of {a : Int} {c : T48} {b : Nat} (hr : m37 a = some (c, 0)) (H : Fit c) (hp : posOk c = true) (hu : uniq c = true) (hc : c.Conds.length ≤ 15) (hb : b < 4294967296) : m23 a (b : Int) = some (valR c b) := by
  have en := rNames_eq
  have hlen : namesL.length = 19 := rfl
  have hal := rAllowed_eq c H (valS c b) (by omega) (by have := valS_lt16 (c := c) (b := b) (by omega); omega)
  unfold valR
  simp only [M23, bind_id]
  by_cases h19 : 524288 ≤ b
  · have d : decide ((524288 : Int) ≤ (b : Int)) = true := by simp; omega
    simp only [hr, bs, d, Bool.or_true, if_true, or_, h19]
  · have d : decide ((524288 : Int) ≤ (b : Int)) = false := by simp; omega
    simp only [hr, bs, d, bne_self_eq_false, Bool.or_false, Bool.false_eq_true, if_false, ol, h19]
    refine on_l (loop_st c.Conds.length (fun i => (((valF (fun i => (posS c i).toNat) b i : Nat) : Int), (i : Int))) (Sum.inl (valS c b : Int)) (fun i hi => ?_) (by (simp only [lt_irr, decide_false, Bool.false_eq_true, if_false]; try rfl))) ?_
    · obtain ⟨p0, p1⟩ := pos_of hp hi
      generalize hvv : valF (fun i => (posS c i).toNat) b i = vv
      have hl : vv < 65536 := by
        rw [← hvv]
        exact Nat.lt_of_lt_of_le (valF_lt _ _ _) (show 2 ^ i ≤ 2 ^ 16 from Nat.pow_le_pow_right (by omega) (by omega))
      have h2 : 2 ^ i < 65536 := Nat.pow_lt_pow_right (a := 2) (m := i) (n := 16) (by omega) (by omega)
      have hfin : addB c b i vv 19 = valF (fun i => (posS c i).toNat) b (i + 1) := by
        unfold addB
        rw [decide_eq_true (by omega), Bool.true_and]
        show _ = if b.testBit (posS c i).toNat = true then valF (fun i => (posS c i).toNat) b i ||| 2 ^ i else valF (fun i => (posS c i).toNat) b i
        rw [hvv]
      simp only [inL hi, decide_true, if_true, bs, ol, en, hlen]
      refine on_l (y := ((addB c b i vv 19 : Nat) : Int)) (loop_st 19 (fun j => (((addB c b i vv j : Nat) : Int), (j : Int))) (Sum.inl ((addB c b i vv 19 : Nat) : Int)) (fun j hj => ?_) (by (simp only [lt_irr, decide_false, Bool.false_eq_true, if_false]; try rfl))) ?_
      · have hj19 : j < namesL.length := by rw [hlen]; exact hj
        have hu' := uniq_of hu hi hj
        have ha : addB c b i vv j < 65536 := by
          unfold addB
          split
          · exact Nat.or_lt_two_pow (n := 16) hl h2
          · exact hl
        have hbit := bitW_eq hb (k := j) (by omega)
        unfold bitW at hbit
        have cj : decide ((j : Int) < ((19 : Nat) : Int)) = true := by simp; omega
        have cj2 : (j : Int) < ((19 : Nat) : Int) := by omega
        have cj0 : (0 : Int) ≤ (j : Int) := by omega
        have ci0 : (0 : Int) ≤ (i : Int) := by omega
        have wj : IntKind.wrap .i64 ((j : Int) + 1) = ((j + 1 : Nat) : Int) := w64 (by omega) (by omega)
        simp only [cj, cj2, cj0, ci0, if_true, Int.toNat_natCast, hu', hbit, implies_true, shl16 (show i < 16 by omega), or16 ha h2, wj]
        by_cases e : (j : Int) = posS c i
        · have ej : (posS c i).toNat = j := by omega
          have e1 : addB c b i vv j = vv := by unfold addB; rw [ej, decide_eq_false (by omega)]; rfl
          cases hbj : b.testBit j with
          | false =>
            have e2 : addB c b i vv (j + 1) = vv := by unfold addB; rw [ej, hbj, Bool.and_false]; rfl
            rw [e1, e2, decide_eq_true e]; rfl
          | true =>
            have e2 : addB c b i vv (j + 1) = vv ||| 2 ^ i := by unfold addB; rw [ej, hbj, decide_eq_true (by omega)]; rfl
            rw [e1, e2, decide_eq_true e]; rfl
        · have e2 : addB c b i vv (j + 1) = addB c b i vv j := by
            unfold addB
            have : decide ((posS c i).toNat < j + 1) = decide ((posS c i).toNat < j) := by rw [decide_eq_decide]; omega
            rw [this]
          rw [e2, decide_eq_false e]; rfl
      · rw [hfin, wr1 hi (by omega)]; rfl
    · simp only [etaC, hal, bs]
      cases allowedS c (valS c b) <;> rfl
theorem rValuation_out {a b : Int} (h : outB a = true) : m23 a b = some (0, 1) := by
  have hr := rChart_out h
  simp only [M23, bind_id, hr, bs, show ((1 : Int) != 0) = true from rfl, Bool.true_or, if_true, or_]
theorem Valuation_all (a : Int) {b : Nat} (hb : b < 4294967296) : ∃ r, m18 a (b : Int) = some r ∧ m23 a (b : Int) = some r := by
  rcases axis_cases a with h | rfl | rfl | rfl
  · exact ⟨_, Valuation_out h, rValuation_out h⟩
  · exact ⟨_, Valuation_of read1 (valuation_eq fit1 pos1 (by decide) hb) hb, rValuation_of rread1 fit1 pos1 uniq1 (by decide) hb⟩
  · exact ⟨_, Valuation_of read2 (valuation_eq fit2 pos2 (by decide) hb) hb, rValuation_of rread2 fit2 pos2 uniq2 (by decide) hb⟩
  · exact ⟨_, Valuation_of read3 (valuation_eq fit3 pos3 (by decide) hb) hb, rValuation_of rread3 fit3 pos3 uniq3 (by decide) hb⟩
end Go.Av.Mo
