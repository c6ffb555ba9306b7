/- modes.Step in plain terms. -/
import Derived.Test.YtlpdcjbkbcmahaaGreatDoorMoV
import Derived.Test.YtlpdcjbkbcmahaaGreatDoorMoA
import Derived.Test.YtlpdcjbkbcmahaaGreatDoorMoR1
import Derived.Test.YtlpdcjbkbcmahaaGreatDoorMoR2
import Derived.Test.YtlpdcjbkbcmahaaGreatDoorMoR3
set_option linter.unusedVariables false
set_option linter.unusedSimpArgs false
set_option maxRecDepth 1000000
namespace Go.Av.Mo
open Go.Av.Ch
theorem M11 (a0 : T23) (a1 : Int) : m11 a0 a1 = ((((Option.bind (Option.bind (m22 a0) fun r => some r) fun x1 => (if (!x1) = true then (some (.inr (((⟨(0 : Int), (0 : Int), (0 : Int)⟩ : T23), [], (8 : Int)))) : Option ((Unit) ⊕ (T23 × (List (List UInt8)) × Int))) else (Option.bind (((m33 ).bind fun r3_0 => (if (0 : Int) ≤ (r3_0.length : Int) then some r3_0 else none))) fun (x3 : ((List (List UInt8)))) => (if ((Int.fdiv a1 (2 ^ (min (x3.length : Int).toNat (IntKind.bits .u32)))) != (0 : Int)) = true then (some (.inr (((⟨(0 : Int), (0 : Int), (0 : Int)⟩ : T23), [], (1 : Int)))) : Option ((Unit) ⊕ (T23 × (List (List UInt8)) × Int))) else (some (.inl ()) : Option ((Unit) ⊕ (T23 × (List (List UInt8)) × Int))))))) : Option ((Unit) ⊕ (T23 × (List (List UInt8)) × Int))).bind (onS fun (_ : Unit) => (((((some (.inl ()) : Option ((Unit) ⊕ ((T48 × T48 × T48 × Int × Int × Int) ⊕ (T23 × (List (List UInt8)) × Int)))) : Option ((Unit) ⊕ ((T48 × T48 × T48 × Int × Int × Int) ⊕ (T23 × (List (List UInt8)) × Int)))).bind (onS fun (_ : Unit) => (((((some (.inl ()) : Option ((Unit) ⊕ ((T48 × Int) ⊕ ((T48 × T48 × T48 × Int × Int × Int) ⊕ (T23 × (List (List UInt8)) × Int))))) : Option ((Unit) ⊕ ((T48 × Int) ⊕ ((T48 × T48 × T48 × Int × Int × Int) ⊕ (T23 × (List (List UInt8)) × Int))))).bind (onS fun (_ : Unit) => (((some (.inl ()) : Option ((Unit) ⊕ ((T48 × Int) ⊕ ((T48 × T48 × T48 × Int × Int × Int) ⊕ (T23 × (List (List UInt8)) × Int))))) : Option ((Unit) ⊕ ((T48 × Int) ⊕ ((T48 × T48 × T48 × Int × Int × Int) ⊕ (T23 × (List (List UInt8)) × Int))))).bind (onS fun (_ : Unit) => (((((Option.bind (Option.bind (m19 (1 : Int)) fun r => some r) fun x11 => (Option.bind (Option.bind (m41 x11.1 a1) fun r => some r) fun x12 => (some (.inl (x12.1, x12.2, x11.1)) : Option ((Int × Bool × T48) ⊕ ((T48 × Int) ⊕ ((T48 × Int) ⊕ ((T48 × T48 × T48 × Int × Int × Int) ⊕ (T23 × (List (List UInt8)) × Int)))))))) : Option ((Int × Bool × T48) ⊕ ((T48 × Int) ⊕ ((T48 × Int) ⊕ ((T48 × T48 × T48 × Int × Int × Int) ⊕ (T23 × (List (List UInt8)) × Int)))))).bind (onS fun (y1 : Int × Bool × T48) => (((((some (.inl ()) : Option ((Unit) ⊕ ((Unit) ⊕ ((T48 × Int) ⊕ ((T48 × Int) ⊕ ((T48 × T48 × T48 × Int × Int × Int) ⊕ (T23 × (List (List UInt8)) × Int))))))) : Option ((Unit) ⊕ ((Unit) ⊕ ((T48 × Int) ⊕ ((T48 × Int) ⊕ ((T48 × T48 × T48 × Int × Int × Int) ⊕ (T23 × (List (List UInt8)) × Int))))))).bind (onS fun (_ : Unit) => (if (!y1.2.1) = true then (some (.inr (.inr (.inr (.inr (((⟨(0 : Int), (0 : Int), (0 : Int)⟩ : T23), [], (11 : Int))))))) : Option ((Unit) ⊕ ((T48 × Int) ⊕ ((T48 × Int) ⊕ ((T48 × T48 × T48 × Int × Int × Int) ⊕ (T23 × (List (List UInt8)) × Int)))))) else (some (.inl ()) : Option ((Unit) ⊕ ((T48 × Int) ⊕ ((T48 × Int) ⊕ ((T48 × T48 × T48 × Int × Int × Int) ⊕ (T23 × (List (List UInt8)) × Int))))))))) : Option ((Unit) ⊕ ((T48 × Int) ⊕ ((T48 × Int) ⊕ ((T48 × T48 × T48 × Int × Int × Int) ⊕ (T23 × (List (List UInt8)) × Int)))))).bind (onS fun (_ : Unit) => (some (.inl (y1.2.2, y1.1)) : Option ((T48 × Int) ⊕ ((T48 × Int) ⊕ ((T48 × T48 × T48 × Int × Int × Int) ⊕ (T23 × (List (List UInt8)) × Int))))))))) : Option ((T48 × Int) ⊕ ((T48 × Int) ⊕ ((T48 × T48 × T48 × Int × Int × Int) ⊕ (T23 × (List (List UInt8)) × Int))))).bind (onS fun (y2 : T48 × Int) => (some (.inl (y2.1, y2.2)) : Option ((T48 × Int) ⊕ ((T48 × T48 × T48 × Int × Int × Int) ⊕ (T23 × (List (List UInt8)) × Int)))))))))) : Option ((T48 × Int) ⊕ ((T48 × T48 × T48 × Int × Int × Int) ⊕ (T23 × (List (List UInt8)) × Int)))).bind (onS fun (y3 : T48 × Int) => (((((some (.inl ()) : Option ((Unit) ⊕ ((T48 × Int) ⊕ ((T48 × T48 × T48 × Int × Int × Int) ⊕ (T23 × (List (List UInt8)) × Int))))) : Option ((Unit) ⊕ ((T48 × Int) ⊕ ((T48 × T48 × T48 × Int × Int × Int) ⊕ (T23 × (List (List UInt8)) × Int))))).bind (onS fun (_ : Unit) => (((some (.inl ()) : Option ((Unit) ⊕ ((T48 × Int) ⊕ ((T48 × T48 × T48 × Int × Int × Int) ⊕ (T23 × (List (List UInt8)) × Int))))) : Option ((Unit) ⊕ ((T48 × Int) ⊕ ((T48 × T48 × T48 × Int × Int × Int) ⊕ (T23 × (List (List UInt8)) × Int))))).bind (onS fun (_ : Unit) => (((((Option.bind (Option.bind (m19 (2 : Int)) fun r => some r) fun x11 => (Option.bind (Option.bind (m41 x11.1 a1) fun r => some r) fun x12 => (some (.inl (x12.1, x12.2, x11.1)) : Option ((Int × Bool × T48) ⊕ ((T48 × Int) ⊕ ((T48 × Int) ⊕ ((T48 × T48 × T48 × Int × Int × Int) ⊕ (T23 × (List (List UInt8)) × Int)))))))) : Option ((Int × Bool × T48) ⊕ ((T48 × Int) ⊕ ((T48 × Int) ⊕ ((T48 × T48 × T48 × Int × Int × Int) ⊕ (T23 × (List (List UInt8)) × Int)))))).bind (onS fun (y4 : Int × Bool × T48) => (((((some (.inl ()) : Option ((Unit) ⊕ ((Unit) ⊕ ((T48 × Int) ⊕ ((T48 × Int) ⊕ ((T48 × T48 × T48 × Int × Int × Int) ⊕ (T23 × (List (List UInt8)) × Int))))))) : Option ((Unit) ⊕ ((Unit) ⊕ ((T48 × Int) ⊕ ((T48 × Int) ⊕ ((T48 × T48 × T48 × Int × Int × Int) ⊕ (T23 × (List (List UInt8)) × Int))))))).bind (onS fun (_ : Unit) => (if (!y4.2.1) = true then (some (.inr (.inr (.inr (.inr (((⟨(0 : Int), (0 : Int), (0 : Int)⟩ : T23), [], (11 : Int))))))) : Option ((Unit) ⊕ ((T48 × Int) ⊕ ((T48 × Int) ⊕ ((T48 × T48 × T48 × Int × Int × Int) ⊕ (T23 × (List (List UInt8)) × Int)))))) else (some (.inl ()) : Option ((Unit) ⊕ ((T48 × Int) ⊕ ((T48 × Int) ⊕ ((T48 × T48 × T48 × Int × Int × Int) ⊕ (T23 × (List (List UInt8)) × Int))))))))) : Option ((Unit) ⊕ ((T48 × Int) ⊕ ((T48 × Int) ⊕ ((T48 × T48 × T48 × Int × Int × Int) ⊕ (T23 × (List (List UInt8)) × Int)))))).bind (onS fun (_ : Unit) => (some (.inl (y4.2.2, y4.1)) : Option ((T48 × Int) ⊕ ((T48 × Int) ⊕ ((T48 × T48 × T48 × Int × Int × Int) ⊕ (T23 × (List (List UInt8)) × Int))))))))) : Option ((T48 × Int) ⊕ ((T48 × Int) ⊕ ((T48 × T48 × T48 × Int × Int × Int) ⊕ (T23 × (List (List UInt8)) × Int))))).bind (onS fun (y5 : T48 × Int) => (some (.inl (y5.1, y5.2)) : Option ((T48 × Int) ⊕ ((T48 × T48 × T48 × Int × Int × Int) ⊕ (T23 × (List (List UInt8)) × Int)))))))))) : Option ((T48 × Int) ⊕ ((T48 × T48 × T48 × Int × Int × Int) ⊕ (T23 × (List (List UInt8)) × Int)))).bind (onS fun (y6 : T48 × Int) => (((((some (.inl ()) : Option ((Unit) ⊕ ((T48 × Int) ⊕ ((T48 × T48 × T48 × Int × Int × Int) ⊕ (T23 × (List (List UInt8)) × Int))))) : Option ((Unit) ⊕ ((T48 × Int) ⊕ ((T48 × T48 × T48 × Int × Int × Int) ⊕ (T23 × (List (List UInt8)) × Int))))).bind (onS fun (_ : Unit) => (((some (.inl ()) : Option ((Unit) ⊕ ((T48 × Int) ⊕ ((T48 × T48 × T48 × Int × Int × Int) ⊕ (T23 × (List (List UInt8)) × Int))))) : Option ((Unit) ⊕ ((T48 × Int) ⊕ ((T48 × T48 × T48 × Int × Int × Int) ⊕ (T23 × (List (List UInt8)) × Int))))).bind (onS fun (_ : Unit) => (((((Option.bind (Option.bind (m19 (3 : Int)) fun r => some r) fun x11 => (Option.bind (Option.bind (m41 x11.1 a1) fun r => some r) fun x12 => (some (.inl (x12.1, x12.2, x11.1)) : Option ((Int × Bool × T48) ⊕ ((T48 × Int) ⊕ ((T48 × Int) ⊕ ((T48 × T48 × T48 × Int × Int × Int) ⊕ (T23 × (List (List UInt8)) × Int)))))))) : Option ((Int × Bool × T48) ⊕ ((T48 × Int) ⊕ ((T48 × Int) ⊕ ((T48 × T48 × T48 × Int × Int × Int) ⊕ (T23 × (List (List UInt8)) × Int)))))).bind (onS fun (y7 : Int × Bool × T48) => (((((some (.inl ()) : Option ((Unit) ⊕ ((Unit) ⊕ ((T48 × Int) ⊕ ((T48 × Int) ⊕ ((T48 × T48 × T48 × Int × Int × Int) ⊕ (T23 × (List (List UInt8)) × Int))))))) : Option ((Unit) ⊕ ((Unit) ⊕ ((T48 × Int) ⊕ ((T48 × Int) ⊕ ((T48 × T48 × T48 × Int × Int × Int) ⊕ (T23 × (List (List UInt8)) × Int))))))).bind (onS fun (_ : Unit) => (if (!y7.2.1) = true then (some (.inr (.inr (.inr (.inr (((⟨(0 : Int), (0 : Int), (0 : Int)⟩ : T23), [], (11 : Int))))))) : Option ((Unit) ⊕ ((T48 × Int) ⊕ ((T48 × Int) ⊕ ((T48 × T48 × T48 × Int × Int × Int) ⊕ (T23 × (List (List UInt8)) × Int)))))) else (some (.inl ()) : Option ((Unit) ⊕ ((T48 × Int) ⊕ ((T48 × Int) ⊕ ((T48 × T48 × T48 × Int × Int × Int) ⊕ (T23 × (List (List UInt8)) × Int))))))))) : Option ((Unit) ⊕ ((T48 × Int) ⊕ ((T48 × Int) ⊕ ((T48 × T48 × T48 × Int × Int × Int) ⊕ (T23 × (List (List UInt8)) × Int)))))).bind (onS fun (_ : Unit) => (some (.inl (y7.2.2, y7.1)) : Option ((T48 × Int) ⊕ ((T48 × Int) ⊕ ((T48 × T48 × T48 × Int × Int × Int) ⊕ (T23 × (List (List UInt8)) × Int))))))))) : Option ((T48 × Int) ⊕ ((T48 × Int) ⊕ ((T48 × T48 × T48 × Int × Int × Int) ⊕ (T23 × (List (List UInt8)) × Int))))).bind (onS fun (y8 : T48 × Int) => (some (.inl (y8.1, y8.2)) : Option ((T48 × Int) ⊕ ((T48 × T48 × T48 × Int × Int × Int) ⊕ (T23 × (List (List UInt8)) × Int)))))))))) : Option ((T48 × Int) ⊕ ((T48 × T48 × T48 × Int × Int × Int) ⊕ (T23 × (List (List UInt8)) × Int)))).bind (onS fun (y9 : T48 × Int) => (((((some (.inl ()) : Option ((Unit) ⊕ (Empty ⊕ ((T48 × T48 × T48 × Int × Int × Int) ⊕ (T23 × (List (List UInt8)) × Int))))) : Option ((Unit) ⊕ (Empty ⊕ ((T48 × T48 × T48 × Int × Int × Int) ⊕ (T23 × (List (List UInt8)) × Int))))).bind (onS fun (_ : Unit) => (((some (.inr (.inr (.inl (y3.1, y6.1, y9.1, y3.2, y6.2, y9.2)))) : Option (Empty ⊕ (Empty ⊕ ((T48 × T48 × T48 × Int × Int × Int) ⊕ (T23 × (List (List UInt8)) × Int))))) : Option (Empty ⊕ (Empty ⊕ ((T48 × T48 × T48 × Int × Int × Int) ⊕ (T23 × (List (List UInt8)) × Int))))).bind onE))) : Option (Empty ⊕ ((T48 × T48 × T48 × Int × Int × Int) ⊕ (T23 × (List (List UInt8)) × Int)))).bind onE))))))))) : Option ((T48 × T48 × T48 × Int × Int × Int) ⊕ (T23 × (List (List UInt8)) × Int))).bind (onS fun (y10 : T48 × T48 × T48 × Int × Int × Int) => (((some (.inl ()) : Option ((Unit) ⊕ (T23 × (List (List UInt8)) × Int))) : Option ((Unit) ⊕ (T23 × (List (List UInt8)) × Int))).bind (onS fun (_ : Unit) => (((((some (.inl ()) : Option ((Unit) ⊕ (((List (List UInt8)) × Int × Int × Int) ⊕ (T23 × (List (List UInt8)) × Int)))) : Option ((Unit) ⊕ (((List (List UInt8)) × Int × Int × Int) ⊕ (T23 × (List (List UInt8)) × Int)))).bind (onS fun (_ : Unit) => (((((some (.inl ()) : Option ((Unit) ⊕ (((List (List UInt8)) × Int) ⊕ (((List (List UInt8)) × Int × Int × Int) ⊕ (T23 × (List (List UInt8)) × Int))))) : Option ((Unit) ⊕ (((List (List UInt8)) × Int) ⊕ (((List (List UInt8)) × Int × Int × Int) ⊕ (T23 × (List (List UInt8)) × Int))))).bind (onS fun (_ : Unit) => (((some (.inl ()) : Option ((Unit) ⊕ (((List (List UInt8)) × Int) ⊕ (((List (List UInt8)) × Int × Int × Int) ⊕ (T23 × (List (List UInt8)) × Int))))) : Option ((Unit) ⊕ (((List (List UInt8)) × Int) ⊕ (((List (List UInt8)) × Int × Int × Int) ⊕ (T23 × (List (List UInt8)) × Int))))).bind (onS fun (_ : Unit) => (((((Option.bind (Option.bind (m42 ([(-1 : Int)] : List Int) (y10.1.States.length : Int)) fun r => some r) fun x22 => (Option.bind (Option.bind (m31 y10.1 (⟨(IntKind.wrap .i64 (a0.Lateral)), x22⟩ : T71) y10.2.2.2.1) fun r => some r) fun x23 => (some (.inl (x23.2.1, x23.2.2, x23.1)) : Option (((List (List UInt8)) × Int × T71) ⊕ (((List (List UInt8)) × Int) ⊕ (((List (List UInt8)) × Int) ⊕ (((List (List UInt8)) × Int × Int × Int) ⊕ (T23 × (List (List UInt8)) × Int)))))))) : Option (((List (List UInt8)) × Int × T71) ⊕ (((List (List UInt8)) × Int) ⊕ (((List (List UInt8)) × Int) ⊕ (((List (List UInt8)) × Int × Int × Int) ⊕ (T23 × (List (List UInt8)) × Int)))))).bind (onS fun (y11 : (List (List UInt8)) × Int × T71) => (((((some (.inl ()) : Option ((Unit) ⊕ ((Unit) ⊕ (((List (List UInt8)) × Int) ⊕ (((List (List UInt8)) × Int) ⊕ (((List (List UInt8)) × Int × Int × Int) ⊕ (T23 × (List (List UInt8)) × Int))))))) : Option ((Unit) ⊕ ((Unit) ⊕ (((List (List UInt8)) × Int) ⊕ (((List (List UInt8)) × Int) ⊕ (((List (List UInt8)) × Int × Int × Int) ⊕ (T23 × (List (List UInt8)) × Int))))))).bind (onS fun (_ : Unit) => (if (y11.2.1 != (0 : Int)) = true then (some (.inr (.inr (.inr (.inr (((⟨(0 : Int), (0 : Int), (0 : Int)⟩ : T23), [], y11.2.1)))))) : Option ((Unit) ⊕ (((List (List UInt8)) × Int) ⊕ (((List (List UInt8)) × Int) ⊕ (((List (List UInt8)) × Int × Int × Int) ⊕ (T23 × (List (List UInt8)) × Int)))))) else (some (.inl ()) : Option ((Unit) ⊕ (((List (List UInt8)) × Int) ⊕ (((List (List UInt8)) × Int) ⊕ (((List (List UInt8)) × Int × Int × Int) ⊕ (T23 × (List (List UInt8)) × Int))))))))) : Option ((Unit) ⊕ (((List (List UInt8)) × Int) ⊕ (((List (List UInt8)) × Int) ⊕ (((List (List UInt8)) × Int × Int × Int) ⊕ (T23 × (List (List UInt8)) × Int)))))).bind (onS fun (_ : Unit) => (if (y11.1.length * 16 ≤ 140737488355328) then (some (.inl (y11.1, (IntKind.wrap .u8 (y11.2.2.Leaf)))) : Option (((List (List UInt8)) × Int) ⊕ (((List (List UInt8)) × Int) ⊕ (((List (List UInt8)) × Int × Int × Int) ⊕ (T23 × (List (List UInt8)) × Int))))) else none))))) : Option (((List (List UInt8)) × Int) ⊕ (((List (List UInt8)) × Int) ⊕ (((List (List UInt8)) × Int × Int × Int) ⊕ (T23 × (List (List UInt8)) × Int))))).bind (onS fun (y12 : (List (List UInt8)) × Int) => (some (.inl (y12.1, y12.2)) : Option (((List (List UInt8)) × Int) ⊕ (((List (List UInt8)) × Int × Int × Int) ⊕ (T23 × (List (List UInt8)) × Int)))))))))) : Option (((List (List UInt8)) × Int) ⊕ (((List (List UInt8)) × Int × Int × Int) ⊕ (T23 × (List (List UInt8)) × Int)))).bind (onS fun (y13 : (List (List UInt8)) × Int) => (((((some (.inl ()) : Option ((Unit) ⊕ (((List (List UInt8)) × Int) ⊕ (((List (List UInt8)) × Int × Int × Int) ⊕ (T23 × (List (List UInt8)) × Int))))) : Option ((Unit) ⊕ (((List (List UInt8)) × Int) ⊕ (((List (List UInt8)) × Int × Int × Int) ⊕ (T23 × (List (List UInt8)) × Int))))).bind (onS fun (_ : Unit) => (((some (.inl ()) : Option ((Unit) ⊕ (((List (List UInt8)) × Int) ⊕ (((List (List UInt8)) × Int × Int × Int) ⊕ (T23 × (List (List UInt8)) × Int))))) : Option ((Unit) ⊕ (((List (List UInt8)) × Int) ⊕ (((List (List UInt8)) × Int × Int × Int) ⊕ (T23 × (List (List UInt8)) × Int))))).bind (onS fun (_ : Unit) => (((((Option.bind (Option.bind (m42 ([(-1 : Int)] : List Int) (y10.2.1.States.length : Int)) fun r => some r) fun x22 => (Option.bind (Option.bind (m31 y10.2.1 (⟨(IntKind.wrap .i64 (a0.Vertical)), x22⟩ : T71) y10.2.2.2.2.1) fun r => some r) fun x23 => (some (.inl (x23.2.1, x23.2.2, x23.1)) : Option (((List (List UInt8)) × Int × T71) ⊕ (((List (List UInt8)) × Int) ⊕ (((List (List UInt8)) × Int) ⊕ (((List (List UInt8)) × Int × Int × Int) ⊕ (T23 × (List (List UInt8)) × Int)))))))) : Option (((List (List UInt8)) × Int × T71) ⊕ (((List (List UInt8)) × Int) ⊕ (((List (List UInt8)) × Int) ⊕ (((List (List UInt8)) × Int × Int × Int) ⊕ (T23 × (List (List UInt8)) × Int)))))).bind (onS fun (y14 : (List (List UInt8)) × Int × T71) => (((((some (.inl ()) : Option ((Unit) ⊕ ((Unit) ⊕ (((List (List UInt8)) × Int) ⊕ (((List (List UInt8)) × Int) ⊕ (((List (List UInt8)) × Int × Int × Int) ⊕ (T23 × (List (List UInt8)) × Int))))))) : Option ((Unit) ⊕ ((Unit) ⊕ (((List (List UInt8)) × Int) ⊕ (((List (List UInt8)) × Int) ⊕ (((List (List UInt8)) × Int × Int × Int) ⊕ (T23 × (List (List UInt8)) × Int))))))).bind (onS fun (_ : Unit) => (if (y14.2.1 != (0 : Int)) = true then (some (.inr (.inr (.inr (.inr (((⟨(0 : Int), (0 : Int), (0 : Int)⟩ : T23), [], y14.2.1)))))) : Option ((Unit) ⊕ (((List (List UInt8)) × Int) ⊕ (((List (List UInt8)) × Int) ⊕ (((List (List UInt8)) × Int × Int × Int) ⊕ (T23 × (List (List UInt8)) × Int)))))) else (some (.inl ()) : Option ((Unit) ⊕ (((List (List UInt8)) × Int) ⊕ (((List (List UInt8)) × Int) ⊕ (((List (List UInt8)) × Int × Int × Int) ⊕ (T23 × (List (List UInt8)) × Int))))))))) : Option ((Unit) ⊕ (((List (List UInt8)) × Int) ⊕ (((List (List UInt8)) × Int) ⊕ (((List (List UInt8)) × Int × Int × Int) ⊕ (T23 × (List (List UInt8)) × Int)))))).bind (onS fun (_ : Unit) => (if ((y13.1.length + y14.1.length) * 16 ≤ 140737488355328) then (some (.inl ((y13.1 ++ y14.1), (IntKind.wrap .u8 (y14.2.2.Leaf)))) : Option (((List (List UInt8)) × Int) ⊕ (((List (List UInt8)) × Int) ⊕ (((List (List UInt8)) × Int × Int × Int) ⊕ (T23 × (List (List UInt8)) × Int))))) else none))))) : Option (((List (List UInt8)) × Int) ⊕ (((List (List UInt8)) × Int) ⊕ (((List (List UInt8)) × Int × Int × Int) ⊕ (T23 × (List (List UInt8)) × Int))))).bind (onS fun (y15 : (List (List UInt8)) × Int) => (some (.inl (y15.1, y15.2)) : Option (((List (List UInt8)) × Int) ⊕ (((List (List UInt8)) × Int × Int × Int) ⊕ (T23 × (List (List UInt8)) × Int)))))))))) : Option (((List (List UInt8)) × Int) ⊕ (((List (List UInt8)) × Int × Int × Int) ⊕ (T23 × (List (List UInt8)) × Int)))).bind (onS fun (y16 : (List (List UInt8)) × Int) => (((((some (.inl ()) : Option ((Unit) ⊕ (((List (List UInt8)) × Int) ⊕ (((List (List UInt8)) × Int × Int × Int) ⊕ (T23 × (List (List UInt8)) × Int))))) : Option ((Unit) ⊕ (((List (List UInt8)) × Int) ⊕ (((List (List UInt8)) × Int × Int × Int) ⊕ (T23 × (List (List UInt8)) × Int))))).bind (onS fun (_ : Unit) => (((some (.inl ()) : Option ((Unit) ⊕ (((List (List UInt8)) × Int) ⊕ (((List (List UInt8)) × Int × Int × Int) ⊕ (T23 × (List (List UInt8)) × Int))))) : Option ((Unit) ⊕ (((List (List UInt8)) × Int) ⊕ (((List (List UInt8)) × Int × Int × Int) ⊕ (T23 × (List (List UInt8)) × Int))))).bind (onS fun (_ : Unit) => (((((Option.bind (Option.bind (m42 ([(-1 : Int)] : List Int) (y10.2.2.1.States.length : Int)) fun r => some r) fun x22 => (Option.bind (Option.bind (m31 y10.2.2.1 (⟨(IntKind.wrap .i64 (a0.Phase)), x22⟩ : T71) y10.2.2.2.2.2) fun r => some r) fun x23 => (some (.inl (x23.2.1, x23.2.2, x23.1)) : Option (((List (List UInt8)) × Int × T71) ⊕ (((List (List UInt8)) × Int) ⊕ (((List (List UInt8)) × Int) ⊕ (((List (List UInt8)) × Int × Int × Int) ⊕ (T23 × (List (List UInt8)) × Int)))))))) : Option (((List (List UInt8)) × Int × T71) ⊕ (((List (List UInt8)) × Int) ⊕ (((List (List UInt8)) × Int) ⊕ (((List (List UInt8)) × Int × Int × Int) ⊕ (T23 × (List (List UInt8)) × Int)))))).bind (onS fun (y17 : (List (List UInt8)) × Int × T71) => (((((some (.inl ()) : Option ((Unit) ⊕ ((Unit) ⊕ (((List (List UInt8)) × Int) ⊕ (((List (List UInt8)) × Int) ⊕ (((List (List UInt8)) × Int × Int × Int) ⊕ (T23 × (List (List UInt8)) × Int))))))) : Option ((Unit) ⊕ ((Unit) ⊕ (((List (List UInt8)) × Int) ⊕ (((List (List UInt8)) × Int) ⊕ (((List (List UInt8)) × Int × Int × Int) ⊕ (T23 × (List (List UInt8)) × Int))))))).bind (onS fun (_ : Unit) => (if (y17.2.1 != (0 : Int)) = true then (some (.inr (.inr (.inr (.inr (((⟨(0 : Int), (0 : Int), (0 : Int)⟩ : T23), [], y17.2.1)))))) : Option ((Unit) ⊕ (((List (List UInt8)) × Int) ⊕ (((List (List UInt8)) × Int) ⊕ (((List (List UInt8)) × Int × Int × Int) ⊕ (T23 × (List (List UInt8)) × Int)))))) else (some (.inl ()) : Option ((Unit) ⊕ (((List (List UInt8)) × Int) ⊕ (((List (List UInt8)) × Int) ⊕ (((List (List UInt8)) × Int × Int × Int) ⊕ (T23 × (List (List UInt8)) × Int))))))))) : Option ((Unit) ⊕ (((List (List UInt8)) × Int) ⊕ (((List (List UInt8)) × Int) ⊕ (((List (List UInt8)) × Int × Int × Int) ⊕ (T23 × (List (List UInt8)) × Int)))))).bind (onS fun (_ : Unit) => (if ((y16.1.length + y17.1.length) * 16 ≤ 140737488355328) then (some (.inl ((y16.1 ++ y17.1), (IntKind.wrap .u8 (y17.2.2.Leaf)))) : Option (((List (List UInt8)) × Int) ⊕ (((List (List UInt8)) × Int) ⊕ (((List (List UInt8)) × Int × Int × Int) ⊕ (T23 × (List (List UInt8)) × Int))))) else none))))) : Option (((List (List UInt8)) × Int) ⊕ (((List (List UInt8)) × Int) ⊕ (((List (List UInt8)) × Int × Int × Int) ⊕ (T23 × (List (List UInt8)) × Int))))).bind (onS fun (y18 : (List (List UInt8)) × Int) => (some (.inl (y18.1, y18.2)) : Option (((List (List UInt8)) × Int) ⊕ (((List (List UInt8)) × Int × Int × Int) ⊕ (T23 × (List (List UInt8)) × Int)))))))))) : Option (((List (List UInt8)) × Int) ⊕ (((List (List UInt8)) × Int × Int × Int) ⊕ (T23 × (List (List UInt8)) × Int)))).bind (onS fun (y19 : (List (List UInt8)) × Int) => (((((some (.inl ()) : Option ((Unit) ⊕ (Empty ⊕ (((List (List UInt8)) × Int × Int × Int) ⊕ (T23 × (List (List UInt8)) × Int))))) : Option ((Unit) ⊕ (Empty ⊕ (((List (List UInt8)) × Int × Int × Int) ⊕ (T23 × (List (List UInt8)) × Int))))).bind (onS fun (_ : Unit) => (((some (.inr (.inr (.inl (y19.1, y13.2, y16.2, y19.2)))) : Option (Empty ⊕ (Empty ⊕ (((List (List UInt8)) × Int × Int × Int) ⊕ (T23 × (List (List UInt8)) × Int))))) : Option (Empty ⊕ (Empty ⊕ (((List (List UInt8)) × Int × Int × Int) ⊕ (T23 × (List (List UInt8)) × Int))))).bind onE))) : Option (Empty ⊕ (((List (List UInt8)) × Int × Int × Int) ⊕ (T23 × (List (List UInt8)) × Int)))).bind onE))))))))) : Option (((List (List UInt8)) × Int × Int × Int) ⊕ (T23 × (List (List UInt8)) × Int))).bind (onS fun (y20 : (List (List UInt8)) × Int × Int × Int) => (some ((⟨y20.2.1, y20.2.2.1, y20.2.2.2⟩ : T23), y20.1, (0 : Int)) : Option (T23 × (List (List UInt8)) × Int)))))))))) : Option (T23 × (List (List UInt8)) × Int)) := by kernel_rfl
theorem M22 (a0 : T23) : m22 a0 = ((Option.bind (((m21 (1 : Int) a0.Lateral).bind fun r1_0 => ((if (r1_0 != ([] : List UInt8)) = true then m21 (2 : Int) a0.Vertical else some default).bind fun r1_1 => ((if ((r1_0 != ([] : List UInt8)) && (r1_1 != ([] : List UInt8))) = true then m21 (3 : Int) a0.Phase else some default).bind fun r1_2 => some (r1_0, r1_1, r1_2))))) fun (x1 : ((List UInt8) × (List UInt8) × (List UInt8))) => (some (((x1.1 != ([] : List UInt8)) && (x1.2.1 != ([] : List UInt8))) && (x1.2.2 != ([] : List UInt8))) : Option (Bool))) : Option (Bool)) := by kernel_rfl
theorem M21 (a0 a1 : Int) : m21 a0 a1 = ((Option.bind (Option.bind (m46 a0) fun r => some r) fun x1 => (if (decide ((x1.length : Int) ≤ (IntKind.wrap .i64 (a1)))) = true then (some ([] : List UInt8) : Option ((List UInt8))) else (if ((0 : Int) ≤ a1) then (if (a1 < (x1.length : Int)) then (some (x1.getD a1.toNat default) : Option ((List UInt8))) else none) else none))) : Option ((List UInt8))) := by kernel_rfl
def nam1 : List (List UInt8) := [[], [82, 79, 76, 76], [72, 69, 65, 68, 73, 78, 71], [65, 82, 77, 69, 68], [78, 65, 86], [65, 80, 80, 82, 79, 65, 67, 72], [71, 79, 65, 82, 79, 85, 78, 68]]
theorem modes1 : m46 1 = some nam1 := by kernel_rfl
theorem nall1 : (List.range 256).all (fun n => (nam1.getD n [] != []) == (decide (1 ≤ n) && decide (n ≤ 6))) = true := by kernel_rfl
theorem nam1_ne {n : Nat} (h : n < 256) : (nam1.getD n [] != ([] : List UInt8)) = (decide (1 ≤ n) && decide (n ≤ 6)) := by
  have := nall1
  simp only [List.all_eq_true] at this
  exact eq_of_beq (this n (List.mem_range.2 h))
theorem mName1 {n : Nat} (h : n < 256) : m21 1 (n : Int) = some (nam1.getD n []) := by
  have hl : nam1.length = 7 := by decide
  rw [M21, bind_id, modes1, Option.bind_some, w64 (by omega) (by omega), hl]
  by_cases h1 : ((7 : Nat) : Int) ≤ (n : Int)
  · rw [if_pos (by simpa using h1), List.getD_eq_getElem?_getD, List.getElem?_eq_none (by omega)]; rfl
  · rw [if_neg (by simpa using h1), if_pos (by omega), if_pos (by omega), Int.toNat_natCast]; rfl
def nam2 : List (List UInt8) := [[], [72, 79, 76, 68], [67, 76, 73, 77, 66], [68, 69, 83, 67, 69, 78, 68], [83, 80, 69, 69, 68], [67, 65, 80, 84, 85, 82, 69], [80, 65, 84, 72], [71, 76, 73, 68, 69], [71, 79, 65, 82, 79, 85, 78, 68]]
theorem modes2 : m46 2 = some nam2 := by kernel_rfl
theorem nall2 : (List.range 256).all (fun n => (nam2.getD n [] != []) == (decide (1 ≤ n) && decide (n ≤ 8))) = true := by kernel_rfl
theorem nam2_ne {n : Nat} (h : n < 256) : (nam2.getD n [] != ([] : List UInt8)) = (decide (1 ≤ n) && decide (n ≤ 8)) := by
  have := nall2
  simp only [List.all_eq_true] at this
  exact eq_of_beq (this n (List.mem_range.2 h))
theorem mName2 {n : Nat} (h : n < 256) : m21 2 (n : Int) = some (nam2.getD n []) := by
  have hl : nam2.length = 9 := by decide
  rw [M21, bind_id, modes2, Option.bind_some, w64 (by omega) (by omega), hl]
  by_cases h1 : ((9 : Nat) : Int) ≤ (n : Int)
  · rw [if_pos (by simpa using h1), List.getD_eq_getElem?_getD, List.getElem?_eq_none (by omega)]; rfl
  · rw [if_neg (by simpa using h1), if_pos (by omega), if_pos (by omega), Int.toNat_natCast]; rfl
def nam3 : List (List UInt8) := [[], [80, 82, 69, 70, 76, 84], [84, 65, 75, 69, 79, 70, 70], [67, 76, 73, 77, 66], [67, 82, 85, 73, 83, 69], [68, 69, 83, 67, 69, 78, 84], [65, 80, 80, 82, 79, 65, 67, 72], [71, 79, 65, 82, 79, 85, 78, 68], [76, 65, 78, 68, 69, 68]]
theorem modes3 : m46 3 = some nam3 := by kernel_rfl
theorem nall3 : (List.range 256).all (fun n => (nam3.getD n [] != []) == (decide (1 ≤ n) && decide (n ≤ 8))) = true := by kernel_rfl
theorem nam3_ne {n : Nat} (h : n < 256) : (nam3.getD n [] != ([] : List UInt8)) = (decide (1 ≤ n) && decide (n ≤ 8)) := by
  have := nall3
  simp only [List.all_eq_true] at this
  exact eq_of_beq (this n (List.mem_range.2 h))
theorem mName3 {n : Nat} (h : n < 256) : m21 3 (n : Int) = some (nam3.getD n []) := by
  have hl : nam3.length = 9 := by decide
  rw [M21, bind_id, modes3, Option.bind_some, w64 (by omega) (by omega), hl]
  by_cases h1 : ((9 : Nat) : Int) ≤ (n : Int)
  · rw [if_pos (by simpa using h1), List.getD_eq_getElem?_getD, List.getElem?_eq_none (by omega)]; rfl
  · rw [if_neg (by simpa using h1), if_pos (by omega), if_pos (by omega), Int.toNat_natCast]; rfl
/-- All three modes exist. -/
def validN (l v p : Nat) : Bool := (decide (1 ≤ l) && decide (l ≤ 6)) && (decide (1 ≤ v) && decide (v ≤ 8)) && (decide (1 ≤ p) && decide (p ≤ 8))
theorem Valid_eq {l v p : Nat} (hl : l < 256) (hv : v < 256) (hp : p < 256) : m22 ⟨(l : Int), (v : Int), (p : Int)⟩ = some (validN l v p) := by
  unfold validN
  rw [M22, ← nam1_ne hl, ← nam2_ne hv, ← nam3_ne hp]
  have hd : ((default : List UInt8) != ([] : List UInt8)) = false := rfl
  cases h1 : (nam1.getD l [] != ([] : List UInt8)) with
  | false => simp only [mName1 hl, Option.bind_some, h1, hd, Bool.false_eq_true, if_false, Bool.false_and]
  | true =>
    cases h2 : (nam2.getD v [] != ([] : List UInt8)) with
    | false => simp only [mName1 hl, mName2 hv, Option.bind_some, h1, h2, hd, Bool.false_eq_true, if_false, if_true, Bool.false_and, Bool.and_false]
    | true => simp only [mName1 hl, mName2 hv, mName3 hp, Option.bind_some, h1, h2, if_true, Bool.and_true, Bool.true_and]
/-! ### The step of one axis -/
/-- The step of a chart whose transitions are as they should be. -/
def goS (c : T48) (leaf : Int) (v : Nat) : T71 × List (List UInt8) × Int := fireR c ⟨leaf, rep c⟩ ((enabledS c leaf (v : Int)).getD 0 default)
theorem go_err {c : T48} {leaf : Int} {v : Nat} : (goS c leaf v).2.2 = 0 := rfl
theorem leaf_valid {c : T48} {leaf : Int} (h : leaf ∈ leavesS c) : validS c ⟨leaf, rep c⟩ = true := by
  obtain ⟨h1, h2⟩ := leavesS_iff.1 h
  exact validS_iff.2 ⟨h1, h2, mem_begin⟩
theorem go_of {c : T48} (hc : checkM c = some 0) {leaf : Int} (hl : leaf ∈ leavesS c) {v : Nat} (ha : allowedS c (v : Int) = true) (h1 : (enabledS c leaf (v : Int)).length = 1) : stepM c ⟨leaf, rep c⟩ (v : Int) = some (goS c leaf v) := by
  unfold stepM
  rw [hc, Option.bind_some, leaf_valid hl, ha]
  simp only [h1]
  rfl
theorem go_leaf {c : T48} (H : Fit c) {leaf : Int} {v : Int} {r : T71 × List (List UInt8) × Int} (h : stepM c ⟨leaf, rep c⟩ v = some r) (h0 : r.2.2 = 0) : r.1.Leaf ∈ leavesS c ∧ r.2.1.length ≤ 32000 := by
  obtain ⟨h1, h2⟩ := stepM_ok H h
  obtain ⟨g1, g2, _⟩ := validS_iff.1 (h2 h0).2.2
  exact ⟨leavesS_iff.2 ⟨g1, g2⟩, h1⟩
def al1 (b : Nat) : Bool := allowedS C1 (valS C1 b)
def al2 (b : Nat) : Bool := allowedS C2 (valS C2 b)
def al3 (b : Nat) : Bool := allowedS C3 (valS C3 b)
theorem mem1 {l : Nat} (h1 : 1 ≤ l) (h2 : l ≤ 6) : (l : Int) ∈ leavesS C1 := by
  rw [lea1]
  have : l = 1 ∨ l = 2 ∨ l = 3 ∨ l = 4 ∨ l = 5 ∨ l = 6 := by omega
  rcases this with rfl | rfl | rfl | rfl | rfl | rfl <;> simp
theorem leaf1 {x : Int} (h : x ∈ leavesS C1) : 1 ≤ x ∧ x ≤ 6 := by
  rw [lea1] at h
  simp only [List.mem_cons, List.not_mem_nil, or_false] at h
  omega
theorem val1 {b : Nat} (hb : b < 4294967296) : m41 C1 (b : Int) = some ((valS C1 b : Int), al1 b) := valuation_eq fit1 pos1 (by decide) hb
theorem go1 {l : Nat} (h1 : 1 ≤ l) (h2 : l ≤ 6) {b : Nat} (ha : al1 b = true) : stepM C1 ⟨(l : Int), rep C1⟩ ((valS C1 b : Nat) : Int) = some (goS C1 l (valS C1 b)) :=
  go_of chk1 (mem1 h1 h2) ha (one1 (valS_lt (c := C1)) (mem1 h1 h2) ha)
theorem cstep1 {l : Nat} (h1 : 1 ≤ l) (h2 : l ≤ 6) {b : Nat} (ha : al1 b = true) : m31 C1 ⟨(l : Int), rep C1⟩ ((valS C1 b : Nat) : Int) = some (goS C1 l (valS C1 b)) := by rw [Step_eq C1 fit1]; exact go1 h1 h2 ha
theorem rep1 : m42 ([-1] : List Int) (C1.States.length : Int) = some (rep C1) := by kernel_rfl
theorem gol1 {l : Nat} (h1 : 1 ≤ l) (h2 : l ≤ 6) {b : Nat} (ha : al1 b = true) : (1 ≤ (goS C1 l (valS C1 b)).1.Leaf ∧ (goS C1 l (valS C1 b)).1.Leaf ≤ 6) ∧ (goS C1 l (valS C1 b)).2.1.length ≤ 32000 := by
  obtain ⟨g1, g2⟩ := go_leaf fit1 (go1 h1 h2 ha) rfl
  exact ⟨leaf1 g1, g2⟩
theorem mem2 {l : Nat} (h1 : 1 ≤ l) (h2 : l ≤ 8) : (l : Int) ∈ leavesS C2 := by
  rw [lea2]
  have : l = 1 ∨ l = 2 ∨ l = 3 ∨ l = 4 ∨ l = 5 ∨ l = 6 ∨ l = 7 ∨ l = 8 := by omega
  rcases this with rfl | rfl | rfl | rfl | rfl | rfl | rfl | rfl <;> simp
theorem leaf2 {x : Int} (h : x ∈ leavesS C2) : 1 ≤ x ∧ x ≤ 8 := by
  rw [lea2] at h
  simp only [List.mem_cons, List.not_mem_nil, or_false] at h
  omega
theorem val2 {b : Nat} (hb : b < 4294967296) : m41 C2 (b : Int) = some ((valS C2 b : Int), al2 b) := valuation_eq fit2 pos2 (by decide) hb
theorem go2 {l : Nat} (h1 : 1 ≤ l) (h2 : l ≤ 8) {b : Nat} (ha : al2 b = true) : stepM C2 ⟨(l : Int), rep C2⟩ ((valS C2 b : Nat) : Int) = some (goS C2 l (valS C2 b)) :=
  go_of chk2 (mem2 h1 h2) ha (one2 (valS_lt (c := C2)) (mem2 h1 h2) ha)
theorem cstep2 {l : Nat} (h1 : 1 ≤ l) (h2 : l ≤ 8) {b : Nat} (ha : al2 b = true) : m31 C2 ⟨(l : Int), rep C2⟩ ((valS C2 b : Nat) : Int) = some (goS C2 l (valS C2 b)) := by rw [Step_eq C2 fit2]; exact go2 h1 h2 ha
theorem rep2 : m42 ([-1] : List Int) (C2.States.length : Int) = some (rep C2) := by kernel_rfl
theorem gol2 {l : Nat} (h1 : 1 ≤ l) (h2 : l ≤ 8) {b : Nat} (ha : al2 b = true) : (1 ≤ (goS C2 l (valS C2 b)).1.Leaf ∧ (goS C2 l (valS C2 b)).1.Leaf ≤ 8) ∧ (goS C2 l (valS C2 b)).2.1.length ≤ 32000 := by
  obtain ⟨g1, g2⟩ := go_leaf fit2 (go2 h1 h2 ha) rfl
  exact ⟨leaf2 g1, g2⟩
theorem mem3 {l : Nat} (h1 : 1 ≤ l) (h2 : l ≤ 8) : (l : Int) ∈ leavesS C3 := by
  rw [lea3]
  have : l = 1 ∨ l = 2 ∨ l = 3 ∨ l = 4 ∨ l = 5 ∨ l = 6 ∨ l = 7 ∨ l = 8 := by omega
  rcases this with rfl | rfl | rfl | rfl | rfl | rfl | rfl | rfl <;> simp
theorem leaf3 {x : Int} (h : x ∈ leavesS C3) : 1 ≤ x ∧ x ≤ 8 := by
  rw [lea3] at h
  simp only [List.mem_cons, List.not_mem_nil, or_false] at h
  omega
theorem val3 {b : Nat} (hb : b < 4294967296) : m41 C3 (b : Int) = some ((valS C3 b : Int), al3 b) := valuation_eq fit3 pos3 (by decide) hb
theorem go3 {l : Nat} (h1 : 1 ≤ l) (h2 : l ≤ 8) {b : Nat} (ha : al3 b = true) : stepM C3 ⟨(l : Int), rep C3⟩ ((valS C3 b : Nat) : Int) = some (goS C3 l (valS C3 b)) :=
  go_of chk3 (mem3 h1 h2) ha (one3 (valS_lt (c := C3)) (mem3 h1 h2) ha)
theorem cstep3 {l : Nat} (h1 : 1 ≤ l) (h2 : l ≤ 8) {b : Nat} (ha : al3 b = true) : m31 C3 ⟨(l : Int), rep C3⟩ ((valS C3 b : Nat) : Int) = some (goS C3 l (valS C3 b)) := by rw [Step_eq C3 fit3]; exact go3 h1 h2 ha
theorem rep3 : m42 ([-1] : List Int) (C3.States.length : Int) = some (rep C3) := by kernel_rfl
theorem gol3 {l : Nat} (h1 : 1 ≤ l) (h2 : l ≤ 8) {b : Nat} (ha : al3 b = true) : (1 ≤ (goS C3 l (valS C3 b)).1.Leaf ∧ (goS C3 l (valS C3 b)).1.Leaf ≤ 8) ∧ (goS C3 l (valS C3 b)).2.1.length ≤ 32000 := by
  obtain ⟨g1, g2⟩ := go_leaf fit3 (go3 h1 h2 ha) rfl
  exact ⟨leaf3 g1, g2⟩
/-- The state after a cycle, and the events; or the error. -/
def stepP (l v p b : Nat) : T23 × List (List UInt8) × Int :=
  if (!validN l v p) = true then (⟨0, 0, 0⟩, [], 8)
  else if 524288 ≤ b then (⟨0, 0, 0⟩, [], 1)
  else if (!(al1 b && al2 b && al3 b)) = true then (⟨0, 0, 0⟩, [], 11)
  else (⟨(goS C1 l (valS C1 b)).1.Leaf, (goS C2 v (valS C2 b)).1.Leaf, (goS C3 p (valS C3 b)).1.Leaf⟩, (goS C1 l (valS C1 b)).2.1 ++ (goS C2 v (valS C2 b)).2.1 ++ (goS C3 p (valS C3 b)).2.1, 0)
theorem shr19s {b : Nat} (hb : b < 4294967296) : (Int.fdiv (b : Int) (2 ^ (min (namesL.length : Int).toNat (IntKind.bits .u32))) != (0 : Int)) = decide (524288 ≤ b) := by
  rw [show (namesL.length : Int).toNat = 19 from rfl, show IntKind.bits .u32 = 32 from rfl, fdiv_pow (by omega), Bool.eq_iff_iff, decide_eq_true_eq, bne_iff_ne, ne_eq]
  omega
theorem Step_eqM {l v p b : Nat} (hl : l < 256) (hv : v < 256) (hp : p < 256) (hb : b < 4294967296) : m11 ⟨(l : Int), (v : Int), (p : Int)⟩ (b : Int) = some (stepP l v p b) := by
  have hn0 : (0 : Int) ≤ (namesL.length : Int) := by decide
  have e0 := Valid_eq hl hv hp
  have en := Names_eq
  have h19' := shr19s hb
  have r1 := read1
  have r2 := read2
  have r3 := read3
  have w1 := val1 hb
  have w2 := val2 hb
  have w3 := val3 hb
  have p1 := rep1
  have p2 := rep2
  have p3 := rep3
  have z1 : IntKind.wrap .i64 (l : Int) = (l : Int) := w64 (by omega) (by omega)
  have z2 : IntKind.wrap .i64 (v : Int) = (v : Int) := w64 (by omega) (by omega)
  have z3 : IntKind.wrap .i64 (p : Int) = (p : Int) := w64 (by omega) (by omega)
  have good : validN l v p = true → al1 b = true → al2 b = true → al3 b = true →
      (m31 C1 ⟨(l : Int), rep C1⟩ ((valS C1 b : Nat) : Int) = some (goS C1 l (valS C1 b)) ∧ m31 C2 ⟨(v : Int), rep C2⟩ ((valS C2 b : Nat) : Int) = some (goS C2 v (valS C2 b)) ∧ m31 C3 ⟨(p : Int), rep C3⟩ ((valS C3 b : Nat) : Int) = some (goS C3 p (valS C3 b))) ∧
      ((goS C1 l (valS C1 b)).2.2 = 0 ∧ (goS C2 v (valS C2 b)).2.2 = 0 ∧ (goS C3 p (valS C3 b)).2.2 = 0) ∧
      ((goS C1 l (valS C1 b)).2.1.length * 16 ≤ 140737488355328 ∧ ((goS C1 l (valS C1 b)).2.1.length + (goS C2 v (valS C2 b)).2.1.length) * 16 ≤ 140737488355328 ∧ (((goS C1 l (valS C1 b)).2.1 ++ (goS C2 v (valS C2 b)).2.1).length + (goS C3 p (valS C3 b)).2.1.length) * 16 ≤ 140737488355328) ∧
      (IntKind.wrap .u8 (goS C1 l (valS C1 b)).1.Leaf = (goS C1 l (valS C1 b)).1.Leaf ∧ IntKind.wrap .u8 (goS C2 v (valS C2 b)).1.Leaf = (goS C2 v (valS C2 b)).1.Leaf ∧ IntKind.wrap .u8 (goS C3 p (valS C3 b)).1.Leaf = (goS C3 p (valS C3 b)).1.Leaf) := by
    intro hval a1 a2 a3
    simp only [validN, Bool.and_eq_true, decide_eq_true_eq] at hval
    obtain ⟨⟨⟨l1, l2⟩, v1, v2⟩, p1, p2⟩ := hval
    obtain ⟨⟨c1, c2⟩, c3⟩ := gol1 l1 l2 a1
    obtain ⟨⟨d1, d2⟩, d3⟩ := gol2 v1 v2 a2
    obtain ⟨⟨e1, e2⟩, e3⟩ := gol3 p1 p2 a3
    exact ⟨⟨cstep1 l1 l2 a1, cstep2 v1 v2 a2, cstep3 p1 p2 a3⟩, ⟨rfl, rfl, rfl⟩, ⟨by omega, by omega, by rw [List.length_append]; omega⟩, IntWalk.u8_in _ (by omega), IntWalk.u8_in _ (by omega), IntWalk.u8_in _ (by omega)⟩
  unfold stepP
  simp only [M11, bind_id]
  generalize goS C1 l (valS C1 b) = g1 at good ⊢
  generalize goS C2 v (valS C2 b) = g2 at good ⊢
  generalize goS C3 p (valS C3 b) = g3 at good ⊢
  generalize ((valS C1 b : Nat) : Int) = y1 at good w1
  generalize ((valS C2 b : Nat) : Int) = y2 at good w2
  generalize ((valS C3 b : Nat) : Int) = y3 at good w3
  generalize rep C1 = q1 at good p1
  generalize rep C2 = q2 at good p2
  generalize rep C3 = q3 at good p3
  generalize C1 = c1 at good r1 w1 p1
  generalize C2 = c2 at good r2 w2 p2
  generalize C3 = c3 at good r3 w3 p3
  generalize al1 b = b1 at good w1 ⊢
  generalize al2 b = b2 at good w2 ⊢
  generalize al3 b = b3 at good w3 ⊢
  generalize validN l v p = bv at good e0 ⊢
  generalize namesL = nl at hn0 en h19'
  generalize m19 = F at r1 r2 r3 ⊢
  generalize m41 = G at w1 w2 w3 ⊢
  generalize m31 = S at good ⊢
  generalize m42 = Q at p1 p2 p3 ⊢
  generalize m22 = V at e0 ⊢
  generalize m33 = M at en ⊢
  cases bv with
  | false => simp only [e0, bs, or_, Bool.not_false, if_true]
  | true =>
    by_cases h19 : 524288 ≤ b
    · simp only [e0, en, hn0, h19', h19, decide_true, bs, or_, Bool.not_true, Bool.false_eq_true, if_false, if_true]
    · cases b1 with
      | false => simp only [e0, en, hn0, h19', h19, decide_false, r1, w1, bs, ol, or_, oe, Bool.not_true, Bool.not_false, Bool.false_and, Bool.false_eq_true, if_false, if_true]
      | true =>
        cases b2 with
        | false => simp only [e0, en, hn0, h19', h19, decide_false, r1, w1, r2, w2, bs, ol, or_, oe, Bool.not_true, Bool.not_false, Bool.true_and, Bool.false_and, Bool.false_eq_true, if_false, if_true]
        | true =>
          cases b3 with
          | false => simp only [e0, en, hn0, h19', h19, decide_false, r1, w1, r2, w2, r3, w3, bs, ol, or_, oe, Bool.not_true, Bool.not_false, Bool.true_and, Bool.false_and, Bool.false_eq_true, if_false, if_true]
          | true =>
            obtain ⟨⟨s1, s2, s3⟩, ⟨o1, o2, o3⟩, ⟨f1, f2, f3⟩, k1, k2, k3⟩ := good rfl rfl rfl rfl
            simp only [e0, en, hn0, h19', h19, decide_false, r1, w1, r2, w2, r3, w3, p1, p2, p3, z1, z2, z3, s1, s2, s3, o1, o2, o3, f1, f2, f3, k1, k2, k3,
              bs, ol, or_, oe, bne_self_eq_false, Bool.not_true, Bool.not_false, Bool.true_and, Bool.false_and, Bool.false_eq_true, if_false, if_true]
end Go.Av.Mo
