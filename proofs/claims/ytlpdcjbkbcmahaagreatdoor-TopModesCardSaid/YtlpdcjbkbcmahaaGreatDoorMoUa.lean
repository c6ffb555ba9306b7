/- Valuations of any axis. -/
import Derived.Test.YtlpdcjbkbcmahaaGreatDoorMoV
import Derived.Test.YtlpdcjbkbcmahaaGreatDoorMoO
import Derived.Test.YtlpdcjbkbcmahaaGreatDoorMoR1
import Derived.Test.YtlpdcjbkbcmahaaGreatDoorMoR2
import Derived.Test.YtlpdcjbkbcmahaaGreatDoorMoR3
set_option linter.unusedVariables false
set_option linter.unusedSimpArgs false
set_option maxRecDepth 1000000
namespace Go.Av.Mo
open Go.Av.Ch
theorem shr19 {b : Nat} (hb : b < 4294967296) : (Int.fdiv (b : Int) (2 ^ (min (namesL.length : Int).toNat (IntKind.bits .u32))) != (0 : Int)) = decide (524288 ≤ b) := by
  rw [show (namesL.length : Int).toNat = 19 from rfl, show IntKind.bits .u32 = 32 from rfl, fdiv_pow (by omega), Bool.eq_iff_iff, decide_eq_true_eq, bne_iff_ne, ne_eq]
  omega
/-- The valuation of an axis, or the error. -/
def valR (c : T48) (b : Nat) : Int × Int := if 524288 ≤ b then (0, 1) else if (!allowedS c (valS c b)) = true then (0, 11) else ((valS c b : Int), 0)
theorem M18 (a0 a1 : Int) : m18 a0 a1 = ((Option.bind (Option.bind (m19 a0) fun r => some r) fun x1 => (Option.bind (((if (!(x1.2 != (0 : Int))) = true then m33  else some default).bind fun r2_0 => (if (!(x1.2 != (0 : Int))) = true → (0 : Int) ≤ (r2_0.length : Int) then some r2_0 else none))) fun (x2 : ((List (List UInt8)))) => (if ((x1.2 != (0 : Int)) || ((Int.fdiv a1 (2 ^ (min (x2.length : Int).toNat (IntKind.bits .u32)))) != (0 : Int))) = true then (some ((0 : Int), (1 : Int)) : Option (Int × Int)) else (Option.bind (Option.bind (m41 x1.1 a1) fun r => some r) fun x4 => (if (!x4.2) = true then (some ((0 : Int), (11 : Int)) : Option (Int × Int)) else (some (x4.1, (0 : Int)) : Option (Int × Int))))))) : Option (Int × Int)) := by kernel_rfl
theorem Valuation_of {a : Int} {c : T48} {b : Nat} (hr : m19 a = some (c, 0)) (hv : m41 c (b : Int) = some ((valS c b : Int), allowedS c (valS c b))) (hb : b < 4294967296) : m18 a (b : Int) = some (valR c b) := by
  have en := Names_eq
  have hs := shr19 hb
  have hn0 : (0 : Int) ≤ (namesL.length : Int) := by decide
  unfold valR
  simp only [M18, bind_id]
  generalize m19 = F at hr ⊢
  generalize m41 = G at hv ⊢
  generalize m33 = M at en ⊢
  generalize namesL = nl at *
  generalize allowedS c (valS c b) = al at hv ⊢
  generalize ((valS c b : Nat) : Int) = v at hv ⊢
  by_cases h19 : 524288 ≤ b
  · simp only [hr, bs, bne_self_eq_false, Bool.not_false, if_true, en, hn0, hs, h19, decide_true, Bool.or_true, implies_true]
  · simp only [hr, bs, bne_self_eq_false, Bool.not_false, if_true, en, hn0, hs, h19, decide_false, Bool.or_false, implies_true, Bool.false_eq_true, if_false, hv]
    cases al <;> rfl
theorem Valuation_out {a b : Int} (h : outB a = true) : m18 a b = some (0, 1) := by
  have hr := mChart_out h
  simp only [M18, bind_id, hr, bs, show ((1 : Int) != 0) = true from rfl, Bool.not_true, Bool.false_eq_true, if_false, false_implies, if_true, Bool.true_or]
end Go.Av.Mo
