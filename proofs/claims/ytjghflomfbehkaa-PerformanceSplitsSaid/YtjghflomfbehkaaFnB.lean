/- Printed by ext.py. -/
import Derived.Test.YtjghflomfbehkaaFnA
set_option linter.unusedVariables false
namespace Go.Av
open Go.RowKit Go.Base Go.Proofs Go.ChangeShapes Go.WideShapes
noncomputable def m61_33 (a0 a1 a2 y6 y22 y32 : Int) : Option ((Int × Int)) :=
  if (0 : Int) ≤ y6 then
    some ((IntKind.wrap .u64 ((IntKind.wrap .u64 (y22 * (4294967296 : Int))) + y32)), (Int.fdiv (IntKind.wrap .u64 ((IntKind.wrap .u64 ((IntKind.wrap .u64 ((IntKind.wrap .u64 ((IntKind.wrap .u64 ((IntKind.wrap .u64 ((IntKind.wrap .u64 ((((BitVec.ofInt (IntKind.bits .u64) (IntKind.wrap .u64 (a0 * 2 ^ (min y6.toNat (IntKind.bits .u64))))) ||| (BitVec.ofInt (IntKind.bits .u64) (Int.fdiv a1 (2 ^ (min (IntKind.wrap .u64 ((64 : Int) - y6)).toNat (IntKind.bits .u64)))))).toNat : Int))) * (4294967296 : Int))) + (Int.fdiv (IntKind.wrap .u64 (a1 * 2 ^ (min y6.toNat (IntKind.bits .u64)))) (2 ^ (min (32 : Int).toNat (IntKind.bits .u64)))))) - (IntKind.wrap .u64 (y22 * (IntKind.wrap .u64 (a2 * 2 ^ (min y6.toNat (IntKind.bits .u64)))))))) * (4294967296 : Int))) + (IntKind.wrap .u64 ((((BitVec.ofInt (IntKind.bits .u64) (IntKind.wrap .u64 (a1 * 2 ^ (min y6.toNat (IntKind.bits .u64))))) &&& (BitVec.ofInt (IntKind.bits .u64) (4294967295 : Int))).toNat : Int))))) - (IntKind.wrap .u64 (y32 * (IntKind.wrap .u64 (a2 * 2 ^ (min y6.toNat (IntKind.bits .u64)))))))) (2 ^ (min y6.toNat (IntKind.bits .u64)))))
  else none
noncomputable def W61_33 (a0 a1 a2 y6 y22 y32 : Int) : ((Int × Int)) → Way := fun y => fin Try.prog Try.f61 (.tup [(.int .u64 y.1), (.int .u64 y.2)])
noncomputable def t61_33 (a0 a1 a2 y6 y22 y32 : Int) : Tr (W61_33 a0 a1 a2 y6 y22 y32) := (.need ((0 : Int) ≤ y6) inferInstance (.ret .ret ⟨[(6, (.d (.int .u64 (IntKind.wrap .u64 ((IntKind.wrap .u64 (y22 * (4294967296 : Int))) + y32))))), (7, (.d (.int .u64 (Int.fdiv (IntKind.wrap .u64 ((IntKind.wrap .u64 ((IntKind.wrap .u64 ((IntKind.wrap .u64 ((IntKind.wrap .u64 ((IntKind.wrap .u64 ((IntKind.wrap .u64 ((((BitVec.ofInt (IntKind.bits .u64) (IntKind.wrap .u64 (a0 * 2 ^ (min y6.toNat (IntKind.bits .u64))))) ||| (BitVec.ofInt (IntKind.bits .u64) (Int.fdiv a1 (2 ^ (min (IntKind.wrap .u64 ((64 : Int) - y6)).toNat (IntKind.bits .u64)))))).toNat : Int))) * (4294967296 : Int))) + (Int.fdiv (IntKind.wrap .u64 (a1 * 2 ^ (min y6.toNat (IntKind.bits .u64)))) (2 ^ (min (32 : Int).toNat (IntKind.bits .u64)))))) - (IntKind.wrap .u64 (y22 * (IntKind.wrap .u64 (a2 * 2 ^ (min y6.toNat (IntKind.bits .u64)))))))) * (4294967296 : Int))) + (IntKind.wrap .u64 ((((BitVec.ofInt (IntKind.bits .u64) (IntKind.wrap .u64 (a1 * 2 ^ (min y6.toNat (IntKind.bits .u64))))) &&& (BitVec.ofInt (IntKind.bits .u64) (4294967295 : Int))).toNat : Int))))) - (IntKind.wrap .u64 (y32 * (IntKind.wrap .u64 (a2 * 2 ^ (min y6.toNat (IntKind.bits .u64)))))))) (2 ^ (min y6.toNat (IntKind.bits .u64)))))))], [], [], 2736⟩ ((IntKind.wrap .u64 ((IntKind.wrap .u64 (y22 * (4294967296 : Int))) + y32)), (Int.fdiv (IntKind.wrap .u64 ((IntKind.wrap .u64 ((IntKind.wrap .u64 ((IntKind.wrap .u64 ((IntKind.wrap .u64 ((IntKind.wrap .u64 ((IntKind.wrap .u64 ((((BitVec.ofInt (IntKind.bits .u64) (IntKind.wrap .u64 (a0 * 2 ^ (min y6.toNat (IntKind.bits .u64))))) ||| (BitVec.ofInt (IntKind.bits .u64) (Int.fdiv a1 (2 ^ (min (IntKind.wrap .u64 ((64 : Int) - y6)).toNat (IntKind.bits .u64)))))).toNat : Int))) * (4294967296 : Int))) + (Int.fdiv (IntKind.wrap .u64 (a1 * 2 ^ (min y6.toNat (IntKind.bits .u64)))) (2 ^ (min (32 : Int).toNat (IntKind.bits .u64)))))) - (IntKind.wrap .u64 (y22 * (IntKind.wrap .u64 (a2 * 2 ^ (min y6.toNat (IntKind.bits .u64)))))))) * (4294967296 : Int))) + (IntKind.wrap .u64 ((((BitVec.ofInt (IntKind.bits .u64) (IntKind.wrap .u64 (a1 * 2 ^ (min y6.toNat (IntKind.bits .u64))))) &&& (BitVec.ofInt (IntKind.bits .u64) (4294967295 : Int))).toNat : Int))))) - (IntKind.wrap .u64 (y32 * (IntKind.wrap .u64 (a2 * 2 ^ (min y6.toNat (IntKind.bits .u64)))))))) (2 ^ (min y6.toNat (IntKind.bits .u64))))) ⟨rfl, ⟨dr, dr, trivial⟩⟩))
theorem j61_33 (V : Env) (a0 a1 a2 y6 y22 y32 : Int) : Judge Try.prog V 135 (sub (body Try.f61) [1, 1, 1, 1, 1, 1, 1, 1, 1, 1, 1, 1, 1, 1, 1, 1, 1, 1, 1]) (s61_29 a0 a1 a2 y6 y22 y32) (m61_33 a0 a1 a2 y6 y22 y32) (W61_33 a0 a1 a2 y6 y22 y32) :=
  Judge.seg (tms := []) rfl [6, 7] [] (t := t61_33 a0 a1 a2 y6 y22 y32) (by kernel_rfl) (fun K => by kernel_rfl)
noncomputable def m61_34 (a0 a1 a2 y6 y22 : Int) : Option ((Int × Int)) := (m61_31 a0 a1 a2 y6 y22).bind (fun yy => match yy with | y32 => m61_33 a0 a1 a2 y6 y22 y32 : (Int) → Option ((Int × Int)))
noncomputable def W61_34 (a0 a1 a2 y6 y22 : Int) : ((Int × Int)) → Way := fun y => fin Try.prog Try.f61 (.tup [(.int .u64 y.1), (.int .u64 y.2)])
theorem j61_34 (V : Env) (a0 a1 a2 y6 y22 : Int) : Judge Try.prog V 135 (sub (body Try.f61) [1, 1, 1, 1, 1, 1, 1, 1, 1, 1, 1, 1, 1, 1, 1, 1, 1, 1]) (s61_25_0 a0 a1 a2 y6 y22 ()) (m61_34 a0 a1 a2 y6 y22) (W61_34 a0 a1 a2 y6 y22) := 
  Judge.seqX (a := (sub (body Try.f61) [1, 1, 1, 1, 1, 1, 1, 1, 1, 1, 1, 1, 1, 1, 1, 1, 1, 1, 0])) (b := (sub (body Try.f61) [1, 1, 1, 1, 1, 1, 1, 1, 1, 1, 1, 1, 1, 1, 1, 1, 1, 1, 1])) (m2 := (fun yy => match yy with | y32 => m61_33 a0 a1 a2 y6 y22 y32 : (Int) → Option ((Int × Int)))) (by kernel_rfl) rfl (j61_31 V a0 a1 a2 y6 y22) (fun yy => match yy with | y32 => .inl ⟨rfl, _, fun _ h => h, j61_33 V a0 a1 a2 y6 y22 y32⟩)
noncomputable def m61_35 (a0 a1 a2 y6 y22 : Int) : Option ((Int × Int)) := (m61_25 a0 a1 a2 y6 y22).bind (fun yy => match yy with | _ => m61_34 a0 a1 a2 y6 y22  : (Unit) → Option ((Int × Int)))
noncomputable def W61_35 (a0 a1 a2 y6 y22 : Int) : ((Int × Int)) → Way := fun y => fin Try.prog Try.f61 (.tup [(.int .u64 y.1), (.int .u64 y.2)])
theorem j61_35 (V : Env) (a0 a1 a2 y6 y22 : Int) : Judge Try.prog V 135 (sub (body Try.f61) [1, 1, 1, 1, 1, 1, 1, 1, 1, 1, 1, 1, 1, 1, 1, 1, 1]) (s61_24_0 a0 a1 a2 y6 y22 ()) (m61_35 a0 a1 a2 y6 y22) (W61_35 a0 a1 a2 y6 y22) := 
  Judge.seqX (a := (sub (body Try.f61) [1, 1, 1, 1, 1, 1, 1, 1, 1, 1, 1, 1, 1, 1, 1, 1, 1, 0])) (b := (sub (body Try.f61) [1, 1, 1, 1, 1, 1, 1, 1, 1, 1, 1, 1, 1, 1, 1, 1, 1, 1])) (m2 := (fun yy => match yy with | _ => m61_34 a0 a1 a2 y6 y22  : (Unit) → Option ((Int × Int)))) (by kernel_rfl) rfl (j61_25 V a0 a1 a2 y6 y22) (fun yy => match yy with | _ => .inl ⟨rfl, _, fun _ h => h, j61_34 V a0 a1 a2 y6 y22 ⟩)
noncomputable def m61_36 (a0 a1 a2 y6 y22 : Int) : Option ((Int × Int)) := (m61_24 a0 a1 a2 y6 y22).bind (fun yy => match yy with | _ => m61_35 a0 a1 a2 y6 y22  : (Unit) → Option ((Int × Int)))
noncomputable def W61_36 (a0 a1 a2 y6 y22 : Int) : ((Int × Int)) → Way := fun y => fin Try.prog Try.f61 (.tup [(.int .u64 y.1), (.int .u64 y.2)])
theorem j61_36 (V : Env) (a0 a1 a2 y6 y22 : Int) : Judge Try.prog V 135 (sub (body Try.f61) [1, 1, 1, 1, 1, 1, 1, 1, 1, 1, 1, 1, 1, 1, 1, 1]) (s61_23_0 a0 a1 a2 y6 y22 ()) (m61_36 a0 a1 a2 y6 y22) (W61_36 a0 a1 a2 y6 y22) := 
  Judge.seqX (a := (sub (body Try.f61) [1, 1, 1, 1, 1, 1, 1, 1, 1, 1, 1, 1, 1, 1, 1, 1, 0])) (b := (sub (body Try.f61) [1, 1, 1, 1, 1, 1, 1, 1, 1, 1, 1, 1, 1, 1, 1, 1, 1])) (m2 := (fun yy => match yy with | _ => m61_35 a0 a1 a2 y6 y22  : (Unit) → Option ((Int × Int)))) (by kernel_rfl) rfl (j61_24 V a0 a1 a2 y6 y22) (fun yy => match yy with | _ => .inl ⟨rfl, _, fun _ h => h, j61_35 V a0 a1 a2 y6 y22 ⟩)
noncomputable def m61_37 (a0 a1 a2 y6 y22 : Int) : Option ((Int × Int)) := (m61_23 a0 a1 a2 y6 y22).bind (fun yy => match yy with | _ => m61_36 a0 a1 a2 y6 y22  : (Unit) → Option ((Int × Int)))
noncomputable def W61_37 (a0 a1 a2 y6 y22 : Int) : ((Int × Int)) → Way := fun y => fin Try.prog Try.f61 (.tup [(.int .u64 y.1), (.int .u64 y.2)])
theorem j61_37 (V : Env) (a0 a1 a2 y6 y22 : Int) : Judge Try.prog V 135 (sub (body Try.f61) [1, 1, 1, 1, 1, 1, 1, 1, 1, 1, 1, 1, 1, 1, 1]) (s61_19 a0 a1 a2 y6 y22) (m61_37 a0 a1 a2 y6 y22) (W61_37 a0 a1 a2 y6 y22) := 
  Judge.seqX (a := (sub (body Try.f61) [1, 1, 1, 1, 1, 1, 1, 1, 1, 1, 1, 1, 1, 1, 1, 0])) (b := (sub (body Try.f61) [1, 1, 1, 1, 1, 1, 1, 1, 1, 1, 1, 1, 1, 1, 1, 1])) (m2 := (fun yy => match yy with | _ => m61_36 a0 a1 a2 y6 y22  : (Unit) → Option ((Int × Int)))) (by kernel_rfl) rfl (j61_23 V a0 a1 a2 y6 y22) (fun yy => match yy with | _ => .inl ⟨rfl, _, fun _ h => h, j61_36 V a0 a1 a2 y6 y22 ⟩)
noncomputable def m61_38 (a0 a1 a2 y6 : Int) : Option ((Int × Int)) := (m61_21 a0 a1 a2 y6).bind (fun yy => match yy with | y22 => m61_37 a0 a1 a2 y6 y22 : (Int) → Option ((Int × Int)))
noncomputable def W61_38 (a0 a1 a2 y6 : Int) : ((Int × Int)) → Way := fun y => fin Try.prog Try.f61 (.tup [(.int .u64 y.1), (.int .u64 y.2)])
theorem j61_38 (V : Env) (a0 a1 a2 y6 : Int) : Judge Try.prog V 135 (sub (body Try.f61) [1, 1, 1, 1, 1, 1, 1, 1, 1, 1, 1, 1, 1, 1]) (s61_15_0 a0 a1 a2 y6 ()) (m61_38 a0 a1 a2 y6) (W61_38 a0 a1 a2 y6) := 
  Judge.seqX (a := (sub (body Try.f61) [1, 1, 1, 1, 1, 1, 1, 1, 1, 1, 1, 1, 1, 1, 0])) (b := (sub (body Try.f61) [1, 1, 1, 1, 1, 1, 1, 1, 1, 1, 1, 1, 1, 1, 1])) (m2 := (fun yy => match yy with | y22 => m61_37 a0 a1 a2 y6 y22 : (Int) → Option ((Int × Int)))) (by kernel_rfl) rfl (j61_21 V a0 a1 a2 y6) (fun yy => match yy with | y22 => .inl ⟨rfl, _, fun _ h => h, j61_37 V a0 a1 a2 y6 y22⟩)
noncomputable def m61_39 (a0 a1 a2 y6 : Int) : Option ((Int × Int)) := (m61_15 a0 a1 a2 y6).bind (fun yy => match yy with | _ => m61_38 a0 a1 a2 y6  : (Unit) → Option ((Int × Int)))
noncomputable def W61_39 (a0 a1 a2 y6 : Int) : ((Int × Int)) → Way := fun y => fin Try.prog Try.f61 (.tup [(.int .u64 y.1), (.int .u64 y.2)])
theorem j61_39 (V : Env) (a0 a1 a2 y6 : Int) : Judge Try.prog V 135 (sub (body Try.f61) [1, 1, 1, 1, 1, 1, 1, 1, 1, 1, 1, 1, 1]) (s61_14_0 a0 a1 a2 y6 ()) (m61_39 a0 a1 a2 y6) (W61_39 a0 a1 a2 y6) := 
  Judge.seqX (a := (sub (body Try.f61) [1, 1, 1, 1, 1, 1, 1, 1, 1, 1, 1, 1, 1, 0])) (b := (sub (body Try.f61) [1, 1, 1, 1, 1, 1, 1, 1, 1, 1, 1, 1, 1, 1])) (m2 := (fun yy => match yy with | _ => m61_38 a0 a1 a2 y6  : (Unit) → Option ((Int × Int)))) (by kernel_rfl) rfl (j61_15 V a0 a1 a2 y6) (fun yy => match yy with | _ => .inl ⟨rfl, _, fun _ h => h, j61_38 V a0 a1 a2 y6 ⟩)
noncomputable def m61_40 (a0 a1 a2 y6 : Int) : Option ((Int × Int)) := (m61_14 a0 a1 a2 y6).bind (fun yy => match yy with | _ => m61_39 a0 a1 a2 y6  : (Unit) → Option ((Int × Int)))
noncomputable def W61_40 (a0 a1 a2 y6 : Int) : ((Int × Int)) → Way := fun y => fin Try.prog Try.f61 (.tup [(.int .u64 y.1), (.int .u64 y.2)])
theorem j61_40 (V : Env) (a0 a1 a2 y6 : Int) : Judge Try.prog V 135 (sub (body Try.f61) [1, 1, 1, 1, 1, 1, 1, 1, 1, 1, 1, 1]) (s61_13_0 a0 a1 a2 y6 ()) (m61_40 a0 a1 a2 y6) (W61_40 a0 a1 a2 y6) := 
  Judge.seqX (a := (sub (body Try.f61) [1, 1, 1, 1, 1, 1, 1, 1, 1, 1, 1, 1, 0])) (b := (sub (body Try.f61) [1, 1, 1, 1, 1, 1, 1, 1, 1, 1, 1, 1, 1])) (m2 := (fun yy => match yy with | _ => m61_39 a0 a1 a2 y6  : (Unit) → Option ((Int × Int)))) (by kernel_rfl) rfl (j61_14 V a0 a1 a2 y6) (fun yy => match yy with | _ => .inl ⟨rfl, _, fun _ h => h, j61_39 V a0 a1 a2 y6 ⟩)
noncomputable def m61_41 (a0 a1 a2 y6 : Int) : Option ((Int × Int)) := (m61_13 a0 a1 a2 y6).bind (fun yy => match yy with | _ => m61_40 a0 a1 a2 y6  : (Unit) → Option ((Int × Int)))
noncomputable def W61_41 (a0 a1 a2 y6 : Int) : ((Int × Int)) → Way := fun y => fin Try.prog Try.f61 (.tup [(.int .u64 y.1), (.int .u64 y.2)])
theorem j61_41 (V : Env) (a0 a1 a2 y6 : Int) : Judge Try.prog V 135 (sub (body Try.f61) [1, 1, 1, 1, 1, 1, 1, 1, 1, 1, 1]) (s61_12_0 a0 a1 a2 y6 ()) (m61_41 a0 a1 a2 y6) (W61_41 a0 a1 a2 y6) := 
  Judge.seqX (a := (sub (body Try.f61) [1, 1, 1, 1, 1, 1, 1, 1, 1, 1, 1, 0])) (b := (sub (body Try.f61) [1, 1, 1, 1, 1, 1, 1, 1, 1, 1, 1, 1])) (m2 := (fun yy => match yy with | _ => m61_40 a0 a1 a2 y6  : (Unit) → Option ((Int × Int)))) (by kernel_rfl) rfl (j61_13 V a0 a1 a2 y6) (fun yy => match yy with | _ => .inl ⟨rfl, _, fun _ h => h, j61_40 V a0 a1 a2 y6 ⟩)
noncomputable def m61_42 (a0 a1 a2 y6 : Int) : Option ((Int × Int)) := (m61_12 a0 a1 a2 y6).bind (fun yy => match yy with | _ => m61_41 a0 a1 a2 y6  : (Unit) → Option ((Int × Int)))
noncomputable def W61_42 (a0 a1 a2 y6 : Int) : ((Int × Int)) → Way := fun y => fin Try.prog Try.f61 (.tup [(.int .u64 y.1), (.int .u64 y.2)])
theorem j61_42 (V : Env) (a0 a1 a2 y6 : Int) : Judge Try.prog V 135 (sub (body Try.f61) [1, 1, 1, 1, 1, 1, 1, 1, 1, 1]) (s61_11_0 a0 a1 a2 y6 ()) (m61_42 a0 a1 a2 y6) (W61_42 a0 a1 a2 y6) := 
  Judge.seqX (a := (sub (body Try.f61) [1, 1, 1, 1, 1, 1, 1, 1, 1, 1, 0])) (b := (sub (body Try.f61) [1, 1, 1, 1, 1, 1, 1, 1, 1, 1, 1])) (m2 := (fun yy => match yy with | _ => m61_41 a0 a1 a2 y6  : (Unit) → Option ((Int × Int)))) (by kernel_rfl) rfl (j61_12 V a0 a1 a2 y6) (fun yy => match yy with | _ => .inl ⟨rfl, _, fun _ h => h, j61_41 V a0 a1 a2 y6 ⟩)
noncomputable def m61_43 (a0 a1 a2 y6 : Int) : Option ((Int × Int)) := (m61_11 a0 a1 a2 y6).bind (fun yy => match yy with | _ => m61_42 a0 a1 a2 y6  : (Unit) → Option ((Int × Int)))
noncomputable def W61_43 (a0 a1 a2 y6 : Int) : ((Int × Int)) → Way := fun y => fin Try.prog Try.f61 (.tup [(.int .u64 y.1), (.int .u64 y.2)])
theorem j61_43 (V : Env) (a0 a1 a2 y6 : Int) : Judge Try.prog V 135 (sub (body Try.f61) [1, 1, 1, 1, 1, 1, 1, 1, 1]) (s61_10_0 a0 a1 a2 y6 ()) (m61_43 a0 a1 a2 y6) (W61_43 a0 a1 a2 y6) := 
  Judge.seqX (a := (sub (body Try.f61) [1, 1, 1, 1, 1, 1, 1, 1, 1, 0])) (b := (sub (body Try.f61) [1, 1, 1, 1, 1, 1, 1, 1, 1, 1])) (m2 := (fun yy => match yy with | _ => m61_42 a0 a1 a2 y6  : (Unit) → Option ((Int × Int)))) (by kernel_rfl) rfl (j61_11 V a0 a1 a2 y6) (fun yy => match yy with | _ => .inl ⟨rfl, _, fun _ h => h, j61_42 V a0 a1 a2 y6 ⟩)
noncomputable def m61_44 (a0 a1 a2 y6 : Int) : Option ((Int × Int)) := (m61_10 a0 a1 a2 y6).bind (fun yy => match yy with | _ => m61_43 a0 a1 a2 y6  : (Unit) → Option ((Int × Int)))
noncomputable def W61_44 (a0 a1 a2 y6 : Int) : ((Int × Int)) → Way := fun y => fin Try.prog Try.f61 (.tup [(.int .u64 y.1), (.int .u64 y.2)])
theorem j61_44 (V : Env) (a0 a1 a2 y6 : Int) : Judge Try.prog V 135 (sub (body Try.f61) [1, 1, 1, 1, 1, 1, 1, 1]) (s61_9_0 a0 a1 a2 y6 ()) (m61_44 a0 a1 a2 y6) (W61_44 a0 a1 a2 y6) := 
  Judge.seqX (a := (sub (body Try.f61) [1, 1, 1, 1, 1, 1, 1, 1, 0])) (b := (sub (body Try.f61) [1, 1, 1, 1, 1, 1, 1, 1, 1])) (m2 := (fun yy => match yy with | _ => m61_43 a0 a1 a2 y6  : (Unit) → Option ((Int × Int)))) (by kernel_rfl) rfl (j61_10 V a0 a1 a2 y6) (fun yy => match yy with | _ => .inl ⟨rfl, _, fun _ h => h, j61_43 V a0 a1 a2 y6 ⟩)
noncomputable def m61_45 (a0 a1 a2 y6 : Int) : Option ((Int × Int)) := (m61_9 a0 a1 a2 y6).bind (fun yy => match yy with | _ => m61_44 a0 a1 a2 y6  : (Unit) → Option ((Int × Int)))
noncomputable def W61_45 (a0 a1 a2 y6 : Int) : ((Int × Int)) → Way := fun y => fin Try.prog Try.f61 (.tup [(.int .u64 y.1), (.int .u64 y.2)])
theorem j61_45 (V : Env) (a0 a1 a2 y6 : Int) : Judge Try.prog V 135 (sub (body Try.f61) [1, 1, 1, 1, 1, 1, 1]) (s61_8_0 a0 a1 a2 y6 ()) (m61_45 a0 a1 a2 y6) (W61_45 a0 a1 a2 y6) := 
  Judge.seqX (a := (sub (body Try.f61) [1, 1, 1, 1, 1, 1, 1, 0])) (b := (sub (body Try.f61) [1, 1, 1, 1, 1, 1, 1, 1])) (m2 := (fun yy => match yy with | _ => m61_44 a0 a1 a2 y6  : (Unit) → Option ((Int × Int)))) (by kernel_rfl) rfl (j61_9 V a0 a1 a2 y6) (fun yy => match yy with | _ => .inl ⟨rfl, _, fun _ h => h, j61_44 V a0 a1 a2 y6 ⟩)
noncomputable def m61_46 (a0 a1 a2 y6 : Int) : Option ((Int × Int)) := (m61_8 a0 a1 a2 y6).bind (fun yy => match yy with | _ => m61_45 a0 a1 a2 y6  : (Unit) → Option ((Int × Int)))
noncomputable def W61_46 (a0 a1 a2 y6 : Int) : ((Int × Int)) → Way := fun y => fin Try.prog Try.f61 (.tup [(.int .u64 y.1), (.int .u64 y.2)])
theorem j61_46 (V : Env) (a0 a1 a2 y6 : Int) : Judge Try.prog V 135 (sub (body Try.f61) [1, 1, 1, 1, 1, 1]) (s61_7_0 a0 a1 a2 y6 ()) (m61_46 a0 a1 a2 y6) (W61_46 a0 a1 a2 y6) := 
  Judge.seqX (a := (sub (body Try.f61) [1, 1, 1, 1, 1, 1, 0])) (b := (sub (body Try.f61) [1, 1, 1, 1, 1, 1, 1])) (m2 := (fun yy => match yy with | _ => m61_45 a0 a1 a2 y6  : (Unit) → Option ((Int × Int)))) (by kernel_rfl) rfl (j61_8 V a0 a1 a2 y6) (fun yy => match yy with | _ => .inl ⟨rfl, _, fun _ h => h, j61_45 V a0 a1 a2 y6 ⟩)
noncomputable def m61_47 (a0 a1 a2 y6 : Int) : Option ((Int × Int)) := (m61_7 a0 a1 a2 y6).bind (fun yy => match yy with | _ => m61_46 a0 a1 a2 y6  : (Unit) → Option ((Int × Int)))
noncomputable def W61_47 (a0 a1 a2 y6 : Int) : ((Int × Int)) → Way := fun y => fin Try.prog Try.f61 (.tup [(.int .u64 y.1), (.int .u64 y.2)])
theorem j61_47 (V : Env) (a0 a1 a2 y6 : Int) : Judge Try.prog V 135 (sub (body Try.f61) [1, 1, 1, 1, 1]) (s61_5_0 a0 a1 a2 y6) (m61_47 a0 a1 a2 y6) (W61_47 a0 a1 a2 y6) := 
  Judge.seqX (a := (sub (body Try.f61) [1, 1, 1, 1, 1, 0])) (b := (sub (body Try.f61) [1, 1, 1, 1, 1, 1])) (m2 := (fun yy => match yy with | _ => m61_46 a0 a1 a2 y6  : (Unit) → Option ((Int × Int)))) (by kernel_rfl) rfl (j61_7 V a0 a1 a2 y6) (fun yy => match yy with | _ => .inl ⟨rfl, _, fun _ h => h, j61_46 V a0 a1 a2 y6 ⟩)
noncomputable def m61_48 (a0 a1 a2 : Int) : Option ((Int × Int)) := (m61_5 a0 a1 a2).bind (fun yy => match yy with | y6 => m61_47 a0 a1 a2 y6 : (Int) → Option ((Int × Int)))
noncomputable def W61_48 (a0 a1 a2 : Int) : ((Int × Int)) → Way := fun y => fin Try.prog Try.f61 (.tup [(.int .u64 y.1), (.int .u64 y.2)])
theorem j61_48 (V : Env) (a0 a1 a2 : Int) : Judge Try.prog V 135 (sub (body Try.f61) [1, 1, 1, 1]) (s61_4_0 a0 a1 a2 ()) (m61_48 a0 a1 a2) (W61_48 a0 a1 a2) := 
  Judge.seqX (a := (sub (body Try.f61) [1, 1, 1, 1, 0])) (b := (sub (body Try.f61) [1, 1, 1, 1, 1])) (m2 := (fun yy => match yy with | y6 => m61_47 a0 a1 a2 y6 : (Int) → Option ((Int × Int)))) (by kernel_rfl) rfl (j61_5 V a0 a1 a2) (fun yy => match yy with | y6 => .inl ⟨rfl, _, fun _ h => h, j61_47 V a0 a1 a2 y6⟩)
noncomputable def m61_49 (a0 a1 a2 : Int) : Option ((Int × Int)) := (m61_4 a0 a1 a2).bind (fun yy => match yy with | .inl _ => m61_48 a0 a1 a2  | .inr z => some z : (Unit) ⊕ (Int × Int) → Option ((Int × Int)))
noncomputable def W61_49 (a0 a1 a2 : Int) : ((Int × Int)) → Way := fun y => fin Try.prog Try.f61 (.tup [(.int .u64 y.1), (.int .u64 y.2)])
theorem j61_49 (V : Env) (a0 a1 a2 : Int) : Judge Try.prog V 135 (sub (body Try.f61) [1, 1, 1]) (s61_3_0 a0 a1 a2 ()) (m61_49 a0 a1 a2) (W61_49 a0 a1 a2) := 
  Judge.seqX (a := (sub (body Try.f61) [1, 1, 1, 0])) (b := (sub (body Try.f61) [1, 1, 1, 1])) (m2 := (fun yy => match yy with | .inl _ => m61_48 a0 a1 a2  | .inr z => some z : (Unit) ⊕ (Int × Int) → Option ((Int × Int)))) (by kernel_rfl) rfl (j61_4 V a0 a1 a2) (fun yy => match yy with | .inl _ => .inl ⟨rfl, _, fun _ h => h, j61_48 V a0 a1 a2 ⟩ | .inr z => .inr ⟨(by intro h; cases h), z, rfl, rfl, fun _ h => h⟩)
noncomputable def m61_50 (a0 a1 a2 : Int) : Option ((Int × Int)) := (m61_3 a0 a1 a2).bind (fun yy => match yy with | _ => m61_49 a0 a1 a2  : (Unit) → Option ((Int × Int)))
noncomputable def W61_50 (a0 a1 a2 : Int) : ((Int × Int)) → Way := fun y => fin Try.prog Try.f61 (.tup [(.int .u64 y.1), (.int .u64 y.2)])
theorem j61_50 (V : Env) (a0 a1 a2 : Int) : Judge Try.prog V 135 (sub (body Try.f61) [1, 1]) (s61_2_0 a0 a1 a2 ()) (m61_50 a0 a1 a2) (W61_50 a0 a1 a2) := 
  Judge.seqX (a := (sub (body Try.f61) [1, 1, 0])) (b := (sub (body Try.f61) [1, 1, 1])) (m2 := (fun yy => match yy with | _ => m61_49 a0 a1 a2  : (Unit) → Option ((Int × Int)))) (by kernel_rfl) rfl (j61_3 V a0 a1 a2) (fun yy => match yy with | _ => .inl ⟨rfl, _, fun _ h => h, j61_49 V a0 a1 a2 ⟩)
noncomputable def m61_51 (a0 a1 a2 : Int) : Option ((Int × Int)) := (m61_2 a0 a1 a2).bind (fun yy => match yy with | _ => m61_50 a0 a1 a2  : (Unit) → Option ((Int × Int)))
noncomputable def W61_51 (a0 a1 a2 : Int) : ((Int × Int)) → Way := fun y => fin Try.prog Try.f61 (.tup [(.int .u64 y.1), (.int .u64 y.2)])
theorem j61_51 (V : Env) (a0 a1 a2 : Int) : Judge Try.prog V 135 (sub (body Try.f61) [1]) (s61_1_0 a0 a1 a2 ()) (m61_51 a0 a1 a2) (W61_51 a0 a1 a2) := 
  Judge.seqX (a := (sub (body Try.f61) [1, 0])) (b := (sub (body Try.f61) [1, 1])) (m2 := (fun yy => match yy with | _ => m61_50 a0 a1 a2  : (Unit) → Option ((Int × Int)))) (by kernel_rfl) rfl (j61_2 V a0 a1 a2) (fun yy => match yy with | _ => .inl ⟨rfl, _, fun _ h => h, j61_50 V a0 a1 a2 ⟩)
noncomputable def m61_52 (a0 a1 a2 : Int) : Option ((Int × Int)) := (m61_1 a0 a1 a2).bind (fun yy => match yy with | _ => m61_51 a0 a1 a2  : (Unit) → Option ((Int × Int)))
noncomputable def W61_52 (a0 a1 a2 : Int) : ((Int × Int)) → Way := fun y => fin Try.prog Try.f61 (.tup [(.int .u64 y.1), (.int .u64 y.2)])
theorem j61_52 (V : Env) (a0 a1 a2 : Int) : Judge Try.prog V 135 (sub (body Try.f61) []) ⟨argFr 0 [(.int .u64 a0), (.int .u64 a1), (.int .u64 a2)], [], [], 0⟩ (m61_52 a0 a1 a2) (W61_52 a0 a1 a2) := 
  Judge.seqX (a := (sub (body Try.f61) [0])) (b := (sub (body Try.f61) [1])) (m2 := (fun yy => match yy with | _ => m61_51 a0 a1 a2  : (Unit) → Option ((Int × Int)))) (by kernel_rfl) rfl (j61_1 V a0 a1 a2) (fun yy => match yy with | _ => .inl ⟨rfl, _, fun _ h => h, j61_51 V a0 a1 a2 ⟩)
noncomputable def m61 (a0 a1 a2 : Int) : Option (Int × Int) := m61_52 a0 a1 a2
theorem p61 {a0 : Int} {a1 : Int} {a2 : Int} {r : Int × Int} (h : m61 a0 a1 a2 = some r) : PureAt Try.prog 61 [(.int .u64 a0), (.int .u64 a1), (.int .u64 a2)] (.tup [(.int .u64 r.1), (.int .u64 r.2)]) :=
  pure_judge (R := Int × Int) (en := fun (r : Int × Int) => (.tup [(.int .u64 r.1), (.int .u64 r.2)])) (c := (sub (body Try.f61) [])) (ds := [(.int .u64 a0), (.int .u64 a1), (.int .u64 a2)]) (m := m61_52 a0 a1 a2) Try.func61 (by kernel_rfl) (by decide) (Nat.le_of_ble_eq_true rfl) (fun V => j61_52 V a0 a1 a2) h
/- flightdeck/fixed.signed -/
noncomputable def m62_1 (a0 : Int) (a1 : Bool) : Option ((Int × Int)) :=
  if (a1 && (decide (a0 ≤ (9223372036854775808 : Int)))) = true then
    some ((IntKind.wrap .i64 ((IntKind.wrap .u64 (0 - a0)))), (0 : Int))
  else
    if ((!a1) && (decide (a0 < (9223372036854775808 : Int)))) = true then
      some ((IntKind.wrap .i64 (a0)), (0 : Int))
    else
      some ((0 : Int), (2 : Int))
noncomputable def W62_1 (a0 : Int) (a1 : Bool) : ((Int × Int)) → Way := fun y => fin Try.prog Try.f62 (.tup [(.int .i64 y.1), (.int .i64 y.2)])
noncomputable def t62_1 (a0 : Int) (a1 : Bool) : Tr (W62_1 a0 a1) := (.ite (a1 && (decide (a0 ≤ (9223372036854775808 : Int)))) (.ret .ret ⟨[(4, (.d (.int .i64 (IntKind.wrap .i64 ((IntKind.wrap .u64 (0 - a0))))))), (5, (.d (.int .i64 (0 : Int))))], [], [], 208⟩ ((IntKind.wrap .i64 ((IntKind.wrap .u64 (0 - a0)))), (0 : Int)) ⟨rfl, ⟨dr, dr, trivial⟩⟩) (.ite ((!a1) && (decide (a0 < (9223372036854775808 : Int)))) (.ret .ret ⟨[(4, (.d (.int .i64 (IntKind.wrap .i64 (a0))))), (5, (.d (.int .i64 (0 : Int))))], [], [], 304⟩ ((IntKind.wrap .i64 (a0)), (0 : Int)) ⟨rfl, ⟨dr, dr, trivial⟩⟩) (.ret .ret ⟨[(4, (.d (.int .i64 (0 : Int)))), (5, (.d (.int .i64 (2 : Int))))], [], [], 272⟩ ((0 : Int), (2 : Int)) ⟨rfl, ⟨dr, dr, trivial⟩⟩)))
theorem j62_1 (V : Env) (a0 : Int) (a1 : Bool) : Judge Try.prog V 24 (sub (body Try.f62) []) ⟨argFr 0 [(.int .u64 a0), (.bool a1)], [], [], 0⟩ (m62_1 a0 a1) (W62_1 a0 a1) :=
  Judge.seg (tms := []) rfl [4, 5] [] (t := t62_1 a0 a1) (by kernel_rfl) (fun K => by kernel_rfl)
noncomputable def m62 (a0 : Int) (a1 : Bool) : Option (Int × Int) := m62_1 a0 a1
theorem p62 {a0 : Int} {a1 : Bool} {r : Int × Int} (h : m62 a0 a1 = some r) : PureAt Try.prog 62 [(.int .u64 a0), (.bool a1)] (.tup [(.int .i64 r.1), (.int .i64 r.2)]) :=
  pure_judge (R := Int × Int) (en := fun (r : Int × Int) => (.tup [(.int .i64 r.1), (.int .i64 r.2)])) (c := (sub (body Try.f62) [])) (ds := [(.int .u64 a0), (.bool a1)]) (m := m62_1 a0 a1) Try.func62 (by kernel_rfl) (by decide) (Nat.le_of_ble_eq_true rfl) (fun V => j62_1 V a0 a1) h
/- flightdeck/fixed.scale -/
noncomputable def m57_1 (a0 a1 a2 a3 : Int) : Option ((Int × Int)) :=
  if (a2 == (0 : Int)) = true then
    some ((0 : Int), (1 : Int))
  else
    ((m59 a2).bind fun r4_0 => some r4_0).bind fun x4 =>
      ((m59 a0).bind fun r5_0 => ((m59 a1).bind fun r5_1 => ((m60 r5_0 r5_1).bind fun r5_2 => some (r5_0, r5_1, r5_2)))).bind fun x5 =>
        if (decide (x4 ≤ x5.2.2.1)) = true then
          some ((0 : Int), (2 : Int))
        else
          ((m61 x5.2.2.1 x5.2.2.2 x4).bind fun r8_0 => some r8_0).bind fun x8 =>
            if (a3 == (0 : Int)) = true then
              if ((((decide (a0 < (0 : Int))) != (decide (a1 < (0 : Int)))) != (decide (a2 < (0 : Int)))) && (decide ((0 : Int) < x8.2))) = true then
                if (x8.1 == (18446744073709551615 : Int)) = true then
                  some ((0 : Int), (2 : Int))
                else
                  ((m62 (IntKind.wrap .u64 (x8.1 + (1 : Int))) (((decide (a0 < (0 : Int))) != (decide (a1 < (0 : Int)))) != (decide (a2 < (0 : Int))))).bind fun r21_0 => some r21_0).bind fun x21 =>
                    some (x21.1, x21.2)
              else
                ((m62 x8.1 (((decide (a0 < (0 : Int))) != (decide (a1 < (0 : Int)))) != (decide (a2 < (0 : Int))))).bind fun r21_0 => some r21_0).bind fun x21 =>
                  some (x21.1, x21.2)
            else
              if (a3 == (1 : Int)) = true then
                if ((!(((decide (a0 < (0 : Int))) != (decide (a1 < (0 : Int)))) != (decide (a2 < (0 : Int))))) && (decide ((0 : Int) < x8.2))) = true then
                  if (x8.1 == (18446744073709551615 : Int)) = true then
                    some ((0 : Int), (2 : Int))
                  else
                    ((m62 (IntKind.wrap .u64 (x8.1 + (1 : Int))) (((decide (a0 < (0 : Int))) != (decide (a1 < (0 : Int)))) != (decide (a2 < (0 : Int))))).bind fun r21_0 => some r21_0).bind fun x21 =>
                      some (x21.1, x21.2)
                else
                  ((m62 x8.1 (((decide (a0 < (0 : Int))) != (decide (a1 < (0 : Int)))) != (decide (a2 < (0 : Int))))).bind fun r21_0 => some r21_0).bind fun x21 =>
                    some (x21.1, x21.2)
              else
                if (a3 == (2 : Int)) = true then
                  if ((decide ((IntKind.wrap .u64 (x4 - x8.2)) < x8.2)) || ((!(((decide (a0 < (0 : Int))) != (decide (a1 < (0 : Int)))) != (decide (a2 < (0 : Int))))) && (x8.2 == (IntKind.wrap .u64 (x4 - x8.2))))) = true then
                    if (x8.1 == (18446744073709551615 : Int)) = true then
                      some ((0 : Int), (2 : Int))
                    else
                      ((m62 (IntKind.wrap .u64 (x8.1 + (1 : Int))) (((decide (a0 < (0 : Int))) != (decide (a1 < (0 : Int)))) != (decide (a2 < (0 : Int))))).bind fun r21_0 => some r21_0).bind fun x21 =>
                        some (x21.1, x21.2)
                  else
                    ((m62 x8.1 (((decide (a0 < (0 : Int))) != (decide (a1 < (0 : Int)))) != (decide (a2 < (0 : Int))))).bind fun r21_0 => some r21_0).bind fun x21 =>
                      some (x21.1, x21.2)
                else
                  if false = true then
                    if (x8.1 == (18446744073709551615 : Int)) = true then
                      some ((0 : Int), (2 : Int))
                    else
                      ((m62 (IntKind.wrap .u64 (x8.1 + (1 : Int))) (((decide (a0 < (0 : Int))) != (decide (a1 < (0 : Int)))) != (decide (a2 < (0 : Int))))).bind fun r21_0 => some r21_0).bind fun x21 =>
                        some (x21.1, x21.2)
                  else
                    ((m62 x8.1 (((decide (a0 < (0 : Int))) != (decide (a1 < (0 : Int)))) != (decide (a2 < (0 : Int))))).bind fun r21_0 => some r21_0).bind fun x21 =>
                      some (x21.1, x21.2)
noncomputable def W57_1 (a0 a1 a2 a3 : Int) : ((Int × Int)) → Way := fun y => fin Try.prog Try.f57 (.tup [(.int .i64 y.1), (.int .i64 y.2)])
noncomputable def t57_1 (a0 a1 a2 a3 : Int) : Tr (W57_1 a0 a1 a2 a3) := (.ite (a2 == (0 : Int)) (.ret .ret ⟨[(8, (.d (.int .i64 (0 : Int)))), (9, (.d (.int .i64 (1 : Int))))], [], [], 96⟩ ((0 : Int), (1 : Int)) ⟨rfl, ⟨dr, dr, trivial⟩⟩) (.exi (Int) ((m59 a2).bind fun r4_0 => some r4_0) (fun x4 => (.p (PureAt Try.prog 59 [(.int .i64 a2)] (.int .u64 x4)) (.fin 0))) (by intro x4 h; obtain ⟨r4_0, h1, h⟩ := Option.bind_eq_some_iff.1 h; cases h; exact ⟨p59 h1, trivial⟩) (fun x4 _ => (.exi (Int × Int × (Int × Int)) ((m59 a0).bind fun r5_0 => ((m59 a1).bind fun r5_1 => ((m60 r5_0 r5_1).bind fun r5_2 => some (r5_0, r5_1, r5_2)))) (fun x5 => (.p (PureAt Try.prog 59 [(.int .i64 a0)] (.int .u64 x5.1)) (.p (PureAt Try.prog 59 [(.int .i64 a1)] (.int .u64 x5.2.1)) (.p (PureAt Try.prog 60 [(.int .u64 x5.1), (.int .u64 x5.2.1)] (.tup [(.int .u64 x5.2.2.1), (.int .u64 x5.2.2.2)])) (.fin 0))))) (by intro x5 h; obtain ⟨r5_0, h1, h⟩ := Option.bind_eq_some_iff.1 h; obtain ⟨r5_1, h2, h⟩ := Option.bind_eq_some_iff.1 h; obtain ⟨r5_2, h3, h⟩ := Option.bind_eq_some_iff.1 h; cases h; exact ⟨p59 h1, p59 h2, p60 h3, trivial⟩) (fun x5 _ => (.ite (decide (x4 ≤ x5.2.2.1)) (.ret .ret ⟨[(8, (.d (.int .i64 (0 : Int)))), (9, (.d (.int .i64 (2 : Int))))], [], [], 496⟩ ((0 : Int), (2 : Int)) ⟨rfl, ⟨dr, dr, trivial⟩⟩) (.exi ((Int × Int)) ((m61 x5.2.2.1 x5.2.2.2 x4).bind fun r8_0 => some r8_0) (fun x8 => (.p (PureAt Try.prog 61 [(.int .u64 x5.2.2.1), (.int .u64 x5.2.2.2), (.int .u64 x4)] (.tup [(.int .u64 x8.1), (.int .u64 x8.2)])) (.fin 0))) (by intro x8 h; obtain ⟨r8_0, h1, h⟩ := Option.bind_eq_some_iff.1 h; cases h; exact ⟨p61 h1, trivial⟩) (fun x8 _ => (.ite (a3 == (0 : Int)) (.ite ((((decide (a0 < (0 : Int))) != (decide (a1 < (0 : Int)))) != (decide (a2 < (0 : Int)))) && (decide ((0 : Int) < x8.2))) (.ite (x8.1 == (18446744073709551615 : Int)) (.ret .ret ⟨[(8, (.d (.int .i64 (0 : Int)))), (9, (.d (.int .i64 (2 : Int))))], [], [], 848⟩ ((0 : Int), (2 : Int)) ⟨rfl, ⟨dr, dr, trivial⟩⟩) (.exi ((Int × Int)) ((m62 (IntKind.wrap .u64 (x8.1 + (1 : Int))) (((decide (a0 < (0 : Int))) != (decide (a1 < (0 : Int)))) != (decide (a2 < (0 : Int))))).bind fun r21_0 => some r21_0) (fun x21 => (.p (PureAt Try.prog 62 [(.int .u64 (IntKind.wrap .u64 (x8.1 + (1 : Int)))), (.bool (((decide (a0 < (0 : Int))) != (decide (a1 < (0 : Int)))) != (decide (a2 < (0 : Int)))))] (.tup [(.int .i64 x21.1), (.int .i64 x21.2)])) (.fin 0))) (by intro x21 h; obtain ⟨r21_0, h1, h⟩ := Option.bind_eq_some_iff.1 h; cases h; exact ⟨p62 h1, trivial⟩) (fun x21 _ => (.ret .ret ⟨[(8, (.d (.int .i64 x21.1))), (9, (.d (.int .i64 x21.2)))], [], [], 976⟩ (x21.1, x21.2) ⟨rfl, ⟨dr, dr, trivial⟩⟩)))) (.exi ((Int × Int)) ((m62 x8.1 (((decide (a0 < (0 : Int))) != (decide (a1 < (0 : Int)))) != (decide (a2 < (0 : Int))))).bind fun r21_0 => some r21_0) (fun x21 => (.p (PureAt Try.prog 62 [(.int .u64 x8.1), (.bool (((decide (a0 < (0 : Int))) != (decide (a1 < (0 : Int)))) != (decide (a2 < (0 : Int)))))] (.tup [(.int .i64 x21.1), (.int .i64 x21.2)])) (.fin 0))) (by intro x21 h; obtain ⟨r21_0, h1, h⟩ := Option.bind_eq_some_iff.1 h; cases h; exact ⟨p62 h1, trivial⟩) (fun x21 _ => (.ret .ret ⟨[(8, (.d (.int .i64 x21.1))), (9, (.d (.int .i64 x21.2)))], [], [], 896⟩ (x21.1, x21.2) ⟨rfl, ⟨dr, dr, trivial⟩⟩)))) (.ite (a3 == (1 : Int)) (.ite ((!(((decide (a0 < (0 : Int))) != (decide (a1 < (0 : Int)))) != (decide (a2 < (0 : Int))))) && (decide ((0 : Int) < x8.2))) (.ite (x8.1 == (18446744073709551615 : Int)) (.ret .ret ⟨[(8, (.d (.int .i64 (0 : Int)))), (9, (.d (.int .i64 (2 : Int))))], [], [], 896⟩ ((0 : Int), (2 : Int)) ⟨rfl, ⟨dr, dr, trivial⟩⟩) (.exi ((Int × Int)) ((m62 (IntKind.wrap .u64 (x8.1 + (1 : Int))) (((decide (a0 < (0 : Int))) != (decide (a1 < (0 : Int)))) != (decide (a2 < (0 : Int))))).bind fun r21_0 => some r21_0) (fun x21 => (.p (PureAt Try.prog 62 [(.int .u64 (IntKind.wrap .u64 (x8.1 + (1 : Int)))), (.bool (((decide (a0 < (0 : Int))) != (decide (a1 < (0 : Int)))) != (decide (a2 < (0 : Int)))))] (.tup [(.int .i64 x21.1), (.int .i64 x21.2)])) (.fin 0))) (by intro x21 h; obtain ⟨r21_0, h1, h⟩ := Option.bind_eq_some_iff.1 h; cases h; exact ⟨p62 h1, trivial⟩) (fun x21 _ => (.ret .ret ⟨[(8, (.d (.int .i64 x21.1))), (9, (.d (.int .i64 x21.2)))], [], [], 1024⟩ (x21.1, x21.2) ⟨rfl, ⟨dr, dr, trivial⟩⟩)))) (.exi ((Int × Int)) ((m62 x8.1 (((decide (a0 < (0 : Int))) != (decide (a1 < (0 : Int)))) != (decide (a2 < (0 : Int))))).bind fun r21_0 => some r21_0) (fun x21 => (.p (PureAt Try.prog 62 [(.int .u64 x8.1), (.bool (((decide (a0 < (0 : Int))) != (decide (a1 < (0 : Int)))) != (decide (a2 < (0 : Int)))))] (.tup [(.int .i64 x21.1), (.int .i64 x21.2)])) (.fin 0))) (by intro x21 h; obtain ⟨r21_0, h1, h⟩ := Option.bind_eq_some_iff.1 h; cases h; exact ⟨p62 h1, trivial⟩) (fun x21 _ => (.ret .ret ⟨[(8, (.d (.int .i64 x21.1))), (9, (.d (.int .i64 x21.2)))], [], [], 944⟩ (x21.1, x21.2) ⟨rfl, ⟨dr, dr, trivial⟩⟩)))) (.ite (a3 == (2 : Int)) (.ite ((decide ((IntKind.wrap .u64 (x4 - x8.2)) < x8.2)) || ((!(((decide (a0 < (0 : Int))) != (decide (a1 < (0 : Int)))) != (decide (a2 < (0 : Int))))) && (x8.2 == (IntKind.wrap .u64 (x4 - x8.2))))) (.ite (x8.1 == (18446744073709551615 : Int)) (.ret .ret ⟨[(8, (.d (.int .i64 (0 : Int)))), (9, (.d (.int .i64 (2 : Int))))], [], [], 1088⟩ ((0 : Int), (2 : Int)) ⟨rfl, ⟨dr, dr, trivial⟩⟩) (.exi ((Int × Int)) ((m62 (IntKind.wrap .u64 (x8.1 + (1 : Int))) (((decide (a0 < (0 : Int))) != (decide (a1 < (0 : Int)))) != (decide (a2 < (0 : Int))))).bind fun r21_0 => some r21_0) (fun x21 => (.p (PureAt Try.prog 62 [(.int .u64 (IntKind.wrap .u64 (x8.1 + (1 : Int)))), (.bool (((decide (a0 < (0 : Int))) != (decide (a1 < (0 : Int)))) != (decide (a2 < (0 : Int)))))] (.tup [(.int .i64 x21.1), (.int .i64 x21.2)])) (.fin 0))) (by intro x21 h; obtain ⟨r21_0, h1, h⟩ := Option.bind_eq_some_iff.1 h; cases h; exact ⟨p62 h1, trivial⟩) (fun x21 _ => (.ret .ret ⟨[(8, (.d (.int .i64 x21.1))), (9, (.d (.int .i64 x21.2)))], [], [], 1216⟩ (x21.1, x21.2) ⟨rfl, ⟨dr, dr, trivial⟩⟩)))) (.exi ((Int × Int)) ((m62 x8.1 (((decide (a0 < (0 : Int))) != (decide (a1 < (0 : Int)))) != (decide (a2 < (0 : Int))))).bind fun r21_0 => some r21_0) (fun x21 => (.p (PureAt Try.prog 62 [(.int .u64 x8.1), (.bool (((decide (a0 < (0 : Int))) != (decide (a1 < (0 : Int)))) != (decide (a2 < (0 : Int)))))] (.tup [(.int .i64 x21.1), (.int .i64 x21.2)])) (.fin 0))) (by intro x21 h; obtain ⟨r21_0, h1, h⟩ := Option.bind_eq_some_iff.1 h; cases h; exact ⟨p62 h1, trivial⟩) (fun x21 _ => (.ret .ret ⟨[(8, (.d (.int .i64 x21.1))), (9, (.d (.int .i64 x21.2)))], [], [], 1136⟩ (x21.1, x21.2) ⟨rfl, ⟨dr, dr, trivial⟩⟩)))) (.ite false (.ite (x8.1 == (18446744073709551615 : Int)) (.ret .ret ⟨[(8, (.d (.int .i64 (0 : Int)))), (9, (.d (.int .i64 (2 : Int))))], [], [], 816⟩ ((0 : Int), (2 : Int)) ⟨rfl, ⟨dr, dr, trivial⟩⟩) (.exi ((Int × Int)) ((m62 (IntKind.wrap .u64 (x8.1 + (1 : Int))) (((decide (a0 < (0 : Int))) != (decide (a1 < (0 : Int)))) != (decide (a2 < (0 : Int))))).bind fun r21_0 => some r21_0) (fun x21 => (.p (PureAt Try.prog 62 [(.int .u64 (IntKind.wrap .u64 (x8.1 + (1 : Int)))), (.bool (((decide (a0 < (0 : Int))) != (decide (a1 < (0 : Int)))) != (decide (a2 < (0 : Int)))))] (.tup [(.int .i64 x21.1), (.int .i64 x21.2)])) (.fin 0))) (by intro x21 h; obtain ⟨r21_0, h1, h⟩ := Option.bind_eq_some_iff.1 h; cases h; exact ⟨p62 h1, trivial⟩) (fun x21 _ => (.ret .ret ⟨[(8, (.d (.int .i64 x21.1))), (9, (.d (.int .i64 x21.2)))], [], [], 944⟩ (x21.1, x21.2) ⟨rfl, ⟨dr, dr, trivial⟩⟩)))) (.exi ((Int × Int)) ((m62 x8.1 (((decide (a0 < (0 : Int))) != (decide (a1 < (0 : Int)))) != (decide (a2 < (0 : Int))))).bind fun r21_0 => some r21_0) (fun x21 => (.p (PureAt Try.prog 62 [(.int .u64 x8.1), (.bool (((decide (a0 < (0 : Int))) != (decide (a1 < (0 : Int)))) != (decide (a2 < (0 : Int)))))] (.tup [(.int .i64 x21.1), (.int .i64 x21.2)])) (.fin 0))) (by intro x21 h; obtain ⟨r21_0, h1, h⟩ := Option.bind_eq_some_iff.1 h; cases h; exact ⟨p62 h1, trivial⟩) (fun x21 _ => (.ret .ret ⟨[(8, (.d (.int .i64 x21.1))), (9, (.d (.int .i64 x21.2)))], [], [], 864⟩ (x21.1, x21.2) ⟨rfl, ⟨dr, dr, trivial⟩⟩)))))))))))))))
theorem j57_1 (V : Env) (a0 a1 a2 a3 : Int) : Judge Try.prog V 91 (sub (body Try.f57) []) ⟨argFr 0 [(.int .i64 a0), (.int .i64 a1), (.int .i64 a2), (.int .u8 a3)], [], [], 0⟩ (m57_1 a0 a1 a2 a3) (W57_1 a0 a1 a2 a3) :=
  Judge.seg (tms := [(4, ⟨Int, fun x => [(28, (.int .u64 x))]⟩), (5, ⟨Int × Int × (Int × Int), fun x => [(31, (.int .u64 x.1)), (33, (.int .u64 x.2.1)), (34, (.tup [(.int .u64 x.2.2.1), (.int .u64 x.2.2.2)]))]⟩), (8, ⟨(Int × Int), fun x => [(44, (.tup [(.int .u64 x.1), (.int .u64 x.2)]))]⟩), (21, ⟨(Int × Int), fun x => [(88, (.tup [(.int .i64 x.1), (.int .i64 x.2)]))]⟩)]) rfl [8, 9] [] (t := t57_1 a0 a1 a2 a3) (by kernel_rfl) (fun K => by kernel_rfl)
noncomputable def m57 (a0 a1 a2 a3 : Int) : Option (Int × Int) := m57_1 a0 a1 a2 a3
theorem p57 {a0 : Int} {a1 : Int} {a2 : Int} {a3 : Int} {r : Int × Int} (h : m57 a0 a1 a2 a3 = some r) : PureAt Try.prog 57 [(.int .i64 a0), (.int .i64 a1), (.int .i64 a2), (.int .u8 a3)] (.tup [(.int .i64 r.1), (.int .i64 r.2)]) :=
  pure_judge (R := Int × Int) (en := fun (r : Int × Int) => (.tup [(.int .i64 r.1), (.int .i64 r.2)])) (c := (sub (body Try.f57) [])) (ds := [(.int .i64 a0), (.int .i64 a1), (.int .i64 a2), (.int .u8 a3)]) (m := m57_1 a0 a1 a2 a3) Try.func57 (by kernel_rfl) (by decide) (Nat.le_of_ble_eq_true rfl) (fun V => j57_1 V a0 a1 a2 a3) h
/- flightdeck/fixed.Floor -/
noncomputable def m55_1 (a0 a1 : Int) : Option ((Int × Int)) :=
  ((m57 a0 (1 : Int) a1 (0 : Int)).bind fun r1_0 => some r1_0).bind fun x1 =>
    some (x1.1, x1.2)
noncomputable def W55_1 (a0 a1 : Int) : ((Int × Int)) → Way := fun y => fin Try.prog Try.f55 (.tup [(.int .i64 y.1), (.int .i64 y.2)])
noncomputable def t55_1 (a0 a1 : Int) : Tr (W55_1 a0 a1) := (.exi ((Int × Int)) ((m57 a0 (1 : Int) a1 (0 : Int)).bind fun r1_0 => some r1_0) (fun x1 => (.p (PureAt Try.prog 57 [(.int .i64 a0), (.int .i64 (1 : Int)), (.int .i64 a1), (.int .u8 (0 : Int))] (.tup [(.int .i64 x1.1), (.int .i64 x1.2)])) (.fin 0))) (by intro x1 h; obtain ⟨r1_0, h1, h⟩ := Option.bind_eq_some_iff.1 h; cases h; exact ⟨p57 h1, trivial⟩) (fun x1 _ => (.ret .ret ⟨[(4, (.d (.int .i64 x1.1))), (5, (.d (.int .i64 x1.2)))], [], [], 144⟩ (x1.1, x1.2) ⟨rfl, ⟨dr, dr, trivial⟩⟩)))
theorem j55_1 (V : Env) (a0 a1 : Int) : Judge Try.prog V 11 (sub (body Try.f55) []) ⟨argFr 0 [(.int .i64 a0), (.int .i64 a1)], [], [], 0⟩ (m55_1 a0 a1) (W55_1 a0 a1) :=
  Judge.seg (tms := [(1, ⟨(Int × Int), fun x => [(8, (.tup [(.int .i64 x.1), (.int .i64 x.2)]))]⟩)]) rfl [4, 5] [] (t := t55_1 a0 a1) (by kernel_rfl) (fun K => by kernel_rfl)
noncomputable def m55 (a0 a1 : Int) : Option (Int × Int) := m55_1 a0 a1
theorem p55 {a0 : Int} {a1 : Int} {r : Int × Int} (h : m55 a0 a1 = some r) : PureAt Try.prog 55 [(.int .i64 a0), (.int .i64 a1)] (.tup [(.int .i64 r.1), (.int .i64 r.2)]) :=
  pure_judge (R := Int × Int) (en := fun (r : Int × Int) => (.tup [(.int .i64 r.1), (.int .i64 r.2)])) (c := (sub (body Try.f55) [])) (ds := [(.int .i64 a0), (.int .i64 a1)]) (m := m55_1 a0 a1) Try.func55 (by kernel_rfl) (by decide) (Nat.le_of_ble_eq_true rfl) (fun V => j55_1 V a0 a1) h
/- flightdeck/performance.value -/
noncomputable def s53_1_0 (a0 a1 : List Int) (a2 : Int) (y : Unit) : St := ⟨[(0, (.d (eSl 1 (D.int .i64) a0))), (1, (.d (eSl 1 (D.int .i64) a1))), (2, (.d (.int .i64 a2)))], [], [], 16⟩
noncomputable def m53_1 (a0 a1 : List Int) (a2 : Int) : Option ((Unit)) :=
  some ()
noncomputable def W53_1 (a0 a1 : List Int) (a2 : Int) : ((Unit)) → Way := fun y => go (s53_1_0 a0 a1 a2 y)
noncomputable def t53_1 (a0 a1 : List Int) (a2 : Int) : Tr (W53_1 a0 a1 a2) := (.ret .normal (s53_1_0 a0 a1 a2 ()) () ⟨rfl, Weak.refl _⟩)
theorem j53_1 (V : Env) (a0 a1 : List Int) (a2 : Int) : Judge Try.prog V 79 (sub (body Try.f53) [0]) ⟨argFr 0 [(eSl 1 (D.int .i64) a0), (eSl 1 (D.int .i64) a1), (.int .i64 a2)], [], [], 0⟩ (m53_1 a0 a1 a2) (W53_1 a0 a1 a2) :=
  Judge.seg (tms := []) rfl [0, 1, 2] [] (t := t53_1 a0 a1 a2) (by kernel_rfl) (fun K => by kernel_rfl)
noncomputable def s53_2_0 (a0 a1 : List Int) (a2 : Int) (y : Unit) : St := ⟨[(0, (.d (eSl 1 (D.int .i64) a0))), (1, (.d (eSl 1 (D.int .i64) a1))), (2, (.d (.int .i64 a2))), (7, (.d (.int .i64 (0 : Int))))], [], [], 32⟩
noncomputable def m53_2 (a0 a1 : List Int) (a2 : Int) : Option ((Unit)) :=
  some ()
noncomputable def W53_2 (a0 a1 : List Int) (a2 : Int) : ((Unit)) → Way := fun y => go (s53_2_0 a0 a1 a2 y)
noncomputable def t53_2 (a0 a1 : List Int) (a2 : Int) : Tr (W53_2 a0 a1 a2) := (.ret .normal (s53_2_0 a0 a1 a2 ()) () ⟨rfl, Weak.refl _⟩)
theorem j53_2 (V : Env) (a0 a1 : List Int) (a2 : Int) : Judge Try.prog V 79 (sub (body Try.f53) [1, 0]) (s53_1_0 a0 a1 a2 ()) (m53_2 a0 a1 a2) (W53_2 a0 a1 a2) :=
  Judge.seg (tms := []) rfl [0, 1, 2, 7] [] (t := t53_2 a0 a1 a2) (by kernel_rfl) (fun K => by kernel_rfl)
noncomputable def h53_4 (a0 a1 : List Int) (a2 : Int) (y : Int) : St := ⟨[(0, (.d (eSl 1 (D.int .i64) a0))), (1, (.d (eSl 1 (D.int .i64) a1))), (2, (.d (.int .i64 a2))), (7, (.d (.int .i64 y)))], [], [], 272⟩
noncomputable def s53_5_0 (a0 a1 : List Int) (a2 s3 : Int) (y : Unit) : St := ⟨[(0, (.d (eSl 1 (D.int .i64) a0))), (1, (.d (eSl 1 (D.int .i64) a1))), (2, (.d (.int .i64 a2))), (7, (.d (.int .i64 (IntKind.wrap .i64 (s3 + (1 : Int))))))], [], [], 512⟩
noncomputable def s53_5_1 (a0 a1 : List Int) (a2 s3 : Int) (y : Unit) : St := ⟨[(0, (.d (eSl 1 (D.int .i64) a0))), (1, (.d (eSl 1 (D.int .i64) a1))), (2, (.d (.int .i64 a2))), (7, (.d (.int .i64 s3)))], [], [], 464⟩
noncomputable def m53_5 (a0 a1 : List Int) (a2 s3 : Int) : Option ((Unit) ⊕ (Unit)) :=
  if (decide (s3 < (a0.length : Int))) = true → (0 : Int) ≤ s3 then
    if (decide (s3 < (a0.length : Int))) = true → s3 < (a0.length : Int) then
      if ((decide (s3 < (a0.length : Int))) && (decide ((a0.getD s3.toNat default) < a2))) = true then
        some (.inl ())
      else
        some (.inr ())
    else none
  else none
noncomputable def W53_5 (a0 a1 : List Int) (a2 s3 : Int) : ((Unit) ⊕ (Unit)) → Way := fun y => match y with | .inl y => go (s53_5_0 a0 a1 a2 s3 y) | .inr y => quit 0 (s53_5_1 a0 a1 a2 s3 y)
noncomputable def t53_5 (a0 a1 : List Int) (a2 s3 : Int) : Tr (W53_5 a0 a1 a2 s3) := (.needG (decide (s3 < (a0.length : Int))) ((0 : Int) ≤ s3) inferInstance (.needG (decide (s3 < (a0.length : Int))) (s3 < (a0.length : Int)) inferInstance (.ite ((decide (s3 < (a0.length : Int))) && (decide ((a0.getD s3.toNat default) < a2))) (.ret .normal (s53_5_0 a0 a1 a2 s3 ()) (.inl ()) ⟨rfl, Weak.refl _⟩) (.ret (.exit 0) (s53_5_1 a0 a1 a2 s3 ()) (.inr ()) ⟨rfl, Weak.refl _⟩))))
theorem j53_5 (V : Env) (a0 a1 : List Int) (a2 s3 : Int) : Judge Try.prog V 79 (sub (body Try.f53) [1, 1, 0, 0, 0]) (h53_4 a0 a1 a2 s3) (m53_5 a0 a1 a2 s3) (W53_5 a0 a1 a2 s3) :=
  Judge.seg (tms := []) rfl [0, 1, 2, 7] [] (t := t53_5 a0 a1 a2 s3) (by kernel_rfl) (fun K => by kernel_rfl)
noncomputable def s53_6 (a0 a1 : List Int) (a2 : Int) (y : Int) : St := ⟨[(0, (.d (eSl 1 (D.int .i64) a0))), (1, (.d (eSl 1 (D.int .i64) a1))), (2, (.d (.int .i64 a2))), (7, (.d (.int .i64 y)))], [], [], 464⟩
noncomputable def b53_7 (a0 a1 : List Int) (a2 : Int) (s3 : Int) : Option ((Int) ⊕ ((Int))) := (m53_5 a0 a1 a2 s3).map (fun z => match z with | .inl z => .inl (IntKind.wrap .i64 (s3 + (1 : Int))) | .inr z => .inr s3 : (Unit) ⊕ (Unit) → (Int) ⊕ ((Int)))
noncomputable def m53_7 (a0 a1 : List Int) (a2 : Int) : Option ((Int)) := loopO (b53_7 a0 a1 a2) (0 : Int)
noncomputable def W53_7 (a0 a1 : List Int) (a2 : Int) : ((Int)) → Way := fun y => quit 0 (s53_6 a0 a1 a2 y)
theorem j53_7 (V : Env) (a0 a1 : List Int) (a2 : Int) : Judge Try.prog V 79 (sub (body Try.f53) [1, 1, 0, 0]) (s53_2_0 a0 a1 a2 ()) (m53_7 a0 a1 a2) (W53_7 a0 a1 a2) :=
  Judge.loopS (c := (sub (body Try.f53) [1, 1, 0, 0, 0])) (by kernel_rfl) (h53_4 a0 a1 a2) (b53_7 a0 a1 a2) (0 : Int) rfl (weak_of [] [] (by kernel_rfl) ⟨dr, dr, dr, dr⟩ trivial) (by intro y; exact fun h => by cases h)
    (fun s3 => Judge.map (fun z => match z with | .inl z => .inl (IntKind.wrap .i64 (s3 + (1 : Int))) | .inr z => .inr s3 : (Unit) ⊕ (Unit) → (Int) ⊕ ((Int))) rfl (j53_5 V a0 a1 a2 s3) (fun z => match z with | .inl z => ⟨rfl, fun _ h => h.trans (weak_of [] [] (by kernel_rfl) ⟨dr, dr, dr, dr⟩ trivial)⟩ | .inr z => ⟨rfl, fun _ h => h⟩))
noncomputable def m53_8 (a0 a1 : List Int) (a2 : Int) : Option ((Int)) := m53_7 a0 a1 a2
noncomputable def W53_8 (a0 a1 : List Int) (a2 : Int) : ((Int)) → Way := fun y => go (s53_6 a0 a1 a2 y)
theorem j53_8 (V : Env) (a0 a1 : List Int) (a2 : Int) : Judge Try.prog V 79 (sub (body Try.f53) [1, 1, 0]) (s53_2_0 a0 a1 a2 ()) (m53_8 a0 a1 a2) (W53_8 a0 a1 a2) := Judge.blockS (id := 0) (c := (sub (body Try.f53) [1, 1, 0, 0])) (by kernel_rfl) (j53_7 V a0 a1 a2) (by intro y; rfl)
noncomputable def m53_10 (a0 a1 : List Int) (a2 y9 : Int) : Option ((Int)) :=
  if (y9 == (0 : Int)) = true then
    if (0 : Int) ≤ (0 : Int) then
      if (0 : Int) < (a1.length : Int) then
        some (a1.getD (0 : Int).toNat default)
      else none
    else none
  else
    if (y9 == (a0.length : Int)) = true then
      if (0 : Int) ≤ (IntKind.wrap .i64 (y9 - (1 : Int))) then
        if (IntKind.wrap .i64 (y9 - (1 : Int))) < (a1.length : Int) then
          some (a1.getD (IntKind.wrap .i64 (y9 - (1 : Int))).toNat default)
        else none
      else none
    else
      if (0 : Int) ≤ (IntKind.wrap .i64 (y9 - (1 : Int))) then
        if (IntKind.wrap .i64 (y9 - (1 : Int))) < (a0.length : Int) then
          if (0 : Int) ≤ y9 then
            if y9 < (a0.length : Int) then
              if (0 : Int) ≤ (IntKind.wrap .i64 (y9 - (1 : Int))) then
                if (IntKind.wrap .i64 (y9 - (1 : Int))) < (a1.length : Int) then
                  if (0 : Int) ≤ y9 then
                    if y9 < (a1.length : Int) then
                      ((m55 (IntKind.wrap .i64 ((IntKind.wrap .i64 ((a1.getD y9.toNat default) - (a1.getD (IntKind.wrap .i64 (y9 - (1 : Int))).toNat default))) * (IntKind.wrap .i64 (a2 - (a0.getD (IntKind.wrap .i64 (y9 - (1 : Int))).toNat default))))) (IntKind.wrap .i64 ((a0.getD y9.toNat default) - (a0.getD (IntKind.wrap .i64 (y9 - (1 : Int))).toNat default)))).bind fun r9_0 => some r9_0).bind fun x9 =>
                        some (IntKind.wrap .i64 ((a1.getD (IntKind.wrap .i64 (y9 - (1 : Int))).toNat default) + x9.1))
                    else none
                  else none
                else none
              else none
            else none
          else none
        else none
      else none
noncomputable def W53_10 (a0 a1 : List Int) (a2 y9 : Int) : ((Int)) → Way := fun y => fin Try.prog Try.f53 (.int .i64 y)
noncomputable def t53_10 (a0 a1 : List Int) (a2 y9 : Int) : Tr (W53_10 a0 a1 a2 y9) := (.ite (y9 == (0 : Int)) (.need ((0 : Int) ≤ (0 : Int)) inferInstance (.need ((0 : Int) < (a1.length : Int)) inferInstance (.ret .ret ⟨[(6, (.d (.int .i64 (a1.getD (0 : Int).toNat default))))], [], [], 576⟩ (a1.getD (0 : Int).toNat default) ⟨rfl, dr⟩))) (.ite (y9 == (a0.length : Int)) (.need ((0 : Int) ≤ (IntKind.wrap .i64 (y9 - (1 : Int)))) inferInstance (.need ((IntKind.wrap .i64 (y9 - (1 : Int))) < (a1.length : Int)) inferInstance (.ret .ret ⟨[(6, (.d (.int .i64 (a1.getD (IntKind.wrap .i64 (y9 - (1 : Int))).toNat default))))], [], [], 688⟩ (a1.getD (IntKind.wrap .i64 (y9 - (1 : Int))).toNat default) ⟨rfl, dr⟩))) (.need ((0 : Int) ≤ (IntKind.wrap .i64 (y9 - (1 : Int)))) inferInstance (.need ((IntKind.wrap .i64 (y9 - (1 : Int))) < (a0.length : Int)) inferInstance (.need ((0 : Int) ≤ y9) inferInstance (.need (y9 < (a0.length : Int)) inferInstance (.need ((0 : Int) ≤ (IntKind.wrap .i64 (y9 - (1 : Int)))) inferInstance (.need ((IntKind.wrap .i64 (y9 - (1 : Int))) < (a1.length : Int)) inferInstance (.need ((0 : Int) ≤ y9) inferInstance (.need (y9 < (a1.length : Int)) inferInstance (.exi ((Int × Int)) ((m55 (IntKind.wrap .i64 ((IntKind.wrap .i64 ((a1.getD y9.toNat default) - (a1.getD (IntKind.wrap .i64 (y9 - (1 : Int))).toNat default))) * (IntKind.wrap .i64 (a2 - (a0.getD (IntKind.wrap .i64 (y9 - (1 : Int))).toNat default))))) (IntKind.wrap .i64 ((a0.getD y9.toNat default) - (a0.getD (IntKind.wrap .i64 (y9 - (1 : Int))).toNat default)))).bind fun r9_0 => some r9_0) (fun x9 => (.p (PureAt Try.prog 55 [(.int .i64 (IntKind.wrap .i64 ((IntKind.wrap .i64 ((a1.getD y9.toNat default) - (a1.getD (IntKind.wrap .i64 (y9 - (1 : Int))).toNat default))) * (IntKind.wrap .i64 (a2 - (a0.getD (IntKind.wrap .i64 (y9 - (1 : Int))).toNat default)))))), (.int .i64 (IntKind.wrap .i64 ((a0.getD y9.toNat default) - (a0.getD (IntKind.wrap .i64 (y9 - (1 : Int))).toNat default))))] (.tup [(.int .i64 x9.1), (.int .i64 x9.2)])) (.fin 0))) (by intro x9 h; obtain ⟨r9_0, h1, h⟩ := Option.bind_eq_some_iff.1 h; cases h; exact ⟨p55 h1, trivial⟩) (fun x9 _ => (.ret .ret ⟨[(6, (.d (.int .i64 (IntKind.wrap .i64 ((a1.getD (IntKind.wrap .i64 (y9 - (1 : Int))).toNat default) + x9.1)))))], [], [], 1264⟩ (IntKind.wrap .i64 ((a1.getD (IntKind.wrap .i64 (y9 - (1 : Int))).toNat default) + x9.1)) ⟨rfl, dr⟩)))))))))))))
theorem j53_10 (V : Env) (a0 a1 : List Int) (a2 y9 : Int) : Judge Try.prog V 79 (sub (body Try.f53) [1, 1, 1]) (s53_6 a0 a1 a2 y9) (m53_10 a0 a1 a2 y9) (W53_10 a0 a1 a2 y9) :=
  Judge.seg (tms := [(9, ⟨(Int × Int), fun x => [(73, (.tup [(.int .i64 x.1), (.int .i64 x.2)]))]⟩)]) rfl [6] [] (t := t53_10 a0 a1 a2 y9) (by kernel_rfl) (fun K => by kernel_rfl)
noncomputable def m53_11 (a0 a1 : List Int) (a2 : Int) : Option ((Int)) := (m53_8 a0 a1 a2).bind (fun yy => match yy with | y9 => m53_10 a0 a1 a2 y9 : (Int) → Option ((Int)))
noncomputable def W53_11 (a0 a1 : List Int) (a2 : Int) : ((Int)) → Way := fun y => fin Try.prog Try.f53 (.int .i64 y)
theorem j53_11 (V : Env) (a0 a1 : List Int) (a2 : Int) : Judge Try.prog V 79 (sub (body Try.f53) [1, 1]) (s53_2_0 a0 a1 a2 ()) (m53_11 a0 a1 a2) (W53_11 a0 a1 a2) := 
  Judge.seqX (a := (sub (body Try.f53) [1, 1, 0])) (b := (sub (body Try.f53) [1, 1, 1])) (m2 := (fun yy => match yy with | y9 => m53_10 a0 a1 a2 y9 : (Int) → Option ((Int)))) (by kernel_rfl) rfl (j53_8 V a0 a1 a2) (fun yy => match yy with | y9 => .inl ⟨rfl, _, fun _ h => h, j53_10 V a0 a1 a2 y9⟩)
noncomputable def m53_12 (a0 a1 : List Int) (a2 : Int) : Option ((Int)) := (m53_2 a0 a1 a2).bind (fun yy => match yy with | _ => m53_11 a0 a1 a2  : (Unit) → Option ((Int)))
noncomputable def W53_12 (a0 a1 : List Int) (a2 : Int) : ((Int)) → Way := fun y => fin Try.prog Try.f53 (.int .i64 y)
theorem j53_12 (V : Env) (a0 a1 : List Int) (a2 : Int) : Judge Try.prog V 79 (sub (body Try.f53) [1]) (s53_1_0 a0 a1 a2 ()) (m53_12 a0 a1 a2) (W53_12 a0 a1 a2) := 
  Judge.seqX (a := (sub (body Try.f53) [1, 0])) (b := (sub (body Try.f53) [1, 1])) (m2 := (fun yy => match yy with | _ => m53_11 a0 a1 a2  : (Unit) → Option ((Int)))) (by kernel_rfl) rfl (j53_2 V a0 a1 a2) (fun yy => match yy with | _ => .inl ⟨rfl, _, fun _ h => h, j53_11 V a0 a1 a2 ⟩)
noncomputable def m53_13 (a0 a1 : List Int) (a2 : Int) : Option ((Int)) := (m53_1 a0 a1 a2).bind (fun yy => match yy with | _ => m53_12 a0 a1 a2  : (Unit) → Option ((Int)))
noncomputable def W53_13 (a0 a1 : List Int) (a2 : Int) : ((Int)) → Way := fun y => fin Try.prog Try.f53 (.int .i64 y)
theorem j53_13 (V : Env) (a0 a1 : List Int) (a2 : Int) : Judge Try.prog V 79 (sub (body Try.f53) []) ⟨argFr 0 [(eSl 1 (D.int .i64) a0), (eSl 1 (D.int .i64) a1), (.int .i64 a2)], [], [], 0⟩ (m53_13 a0 a1 a2) (W53_13 a0 a1 a2) := 
  Judge.seqX (a := (sub (body Try.f53) [0])) (b := (sub (body Try.f53) [1])) (m2 := (fun yy => match yy with | _ => m53_12 a0 a1 a2  : (Unit) → Option ((Int)))) (by kernel_rfl) rfl (j53_1 V a0 a1 a2) (fun yy => match yy with | _ => .inl ⟨rfl, _, fun _ h => h, j53_12 V a0 a1 a2 ⟩)
noncomputable def m53 (a0 a1 : List Int) (a2 : Int) : Option (Int) := m53_13 a0 a1 a2
theorem p53 {a0 : List Int} {a1 : List Int} {a2 : Int} {r : Int} (h : m53 a0 a1 a2 = some r) : PureAt Try.prog 53 [(eSl 1 (D.int .i64) a0), (eSl 1 (D.int .i64) a1), (.int .i64 a2)] (.int .i64 r) :=
  pure_judge (R := Int) (en := fun (r : Int) => (.int .i64 r)) (c := (sub (body Try.f53) [])) (ds := [(eSl 1 (D.int .i64) a0), (eSl 1 (D.int .i64) a1), (.int .i64 a2)]) (m := m53_13 a0 a1 a2) Try.func53 (by kernel_rfl) (by decide) (Nat.le_of_ble_eq_true rfl) (fun V => j53_13 V a0 a1 a2) h
/- flightdeck/performance.table -/
noncomputable def s50_1_0 (a0 : T25) (a1 : List (List Int)) (a2 a3 : Int) (y : Unit) : St := ⟨[(1, (.d (eSl 1 (eSl 1 (D.int .i64)) a1))), (2, (.d (.int .i64 a2))), (3, (.d (.int .i64 a3))), (4, (.ptr 0 0))], [(0, (.cells (g25 a0)))], [], 32⟩
noncomputable def m50_1 (a0 : T25) (a1 : List (List Int)) (a2 a3 : Int) : Option ((Unit)) :=
  some ()
noncomputable def W50_1 (a0 : T25) (a1 : List (List Int)) (a2 a3 : Int) : ((Unit)) → Way := fun y => go (s50_1_0 a0 a1 a2 a3 y)
noncomputable def t50_1 (a0 : T25) (a1 : List (List Int)) (a2 a3 : Int) : Tr (W50_1 a0 a1 a2 a3) := (.ret .normal (s50_1_0 a0 a1 a2 a3 ()) () ⟨rfl, Weak.refl _⟩)
theorem j50_1 (V : Env) (a0 : T25) (a1 : List (List Int)) (a2 a3 : Int) : Judge Try.prog V 56 (sub (body Try.f50) [0]) ⟨argFr 0 [(e25 a0), (eSl 1 (eSl 1 (D.int .i64)) a1), (.int .i64 a2), (.int .i64 a3)], [], [], 0⟩ (m50_1 a0 a1 a2 a3) (W50_1 a0 a1 a2 a3) :=
  Judge.seg (tms := []) rfl [1, 2, 3, 4] [0] (t := t50_1 a0 a1 a2 a3) (by kernel_rfl) (fun K => by kernel_rfl)
noncomputable def s50_2_0 (a0 : T25) (a1 : List (List Int)) (a2 a3 : Int) (y : Unit) : St := ⟨[(1, (.d (eSl 1 (eSl 1 (D.int .i64)) a1))), (2, (.d (.int .i64 a2))), (3, (.d (.int .i64 a3))), (4, (.ptr 0 0)), (9, (.arr 80 1 (a0.Masses.length : Int).toNat))], [(0, (.cells (g25 a0))), (80, (.arr 1 (List.replicate (a0.Masses.length : Int).toNat (0 : Int)).length (cF (D.int .i64) (List.replicate (a0.Masses.length : Int).toNat (0 : Int)))))], [], 112⟩
noncomputable def m50_2 (a0 : T25) (a1 : List (List Int)) (a2 a3 : Int) : Option ((Unit)) :=
  if (0 : Int) ≤ (a0.Masses.length : Int) then
    if (a0.Masses.length : Int) = (a0.Masses.length : Int) then
      if (a0.Masses.length : Int) * 8 ≤ 140737488355328 then
        if (a0.Masses.length : Int) ≤ 9223372036854775807 then
          some ()
        else none
      else none
    else none
  else none
noncomputable def W50_2 (a0 : T25) (a1 : List (List Int)) (a2 a3 : Int) : ((Unit)) → Way := fun y => go (s50_2_0 a0 a1 a2 a3 y)
noncomputable def t50_2 (a0 : T25) (a1 : List (List Int)) (a2 a3 : Int) : Tr (W50_2 a0 a1 a2 a3) := (.need ((0 : Int) ≤ (a0.Masses.length : Int)) inferInstance (.need ((a0.Masses.length : Int) = (a0.Masses.length : Int)) inferInstance (.need ((a0.Masses.length : Int) * 8 ≤ 140737488355328) inferInstance (.need ((a0.Masses.length : Int) ≤ 9223372036854775807) inferInstance (.ret .normal ⟨[(1, (.d (eSl 1 (eSl 1 (D.int .i64)) a1))), (2, (.d (.int .i64 a2))), (3, (.d (.int .i64 a3))), (4, (.ptr 0 0)), (9, (.arr 80 1 (a0.Masses.length : Int).toNat))], [(0, (.cells (g25 a0))), (80, (.arr 1 (a0.Masses.length : Int).toNat (fun _ => (.int .i64 (0 : Int)))))], [], 112⟩ () ⟨rfl, (weak_of [(0, 0), (80, 80)] [] (by kernel_rfl) ⟨dr, dr, dr, ⟨rfl, rfl⟩, ⟨rfl, rfl, rfl⟩⟩ ⟨⟨_, _, rfl, rfl, ⟨dr, dr, dr, dr, dr, dr, dr, dr, dr, dr, dr, dr, dr, dr, dr, trivial⟩⟩, ⟨_, _, rfl, rfl, ⟨rfl, de_rep⟩⟩⟩)⟩)))))
theorem j50_2 (V : Env) (a0 : T25) (a1 : List (List Int)) (a2 a3 : Int) : Judge Try.prog V 56 (sub (body Try.f50) [1, 0]) (s50_1_0 a0 a1 a2 a3 ()) (m50_2 a0 a1 a2 a3) (W50_2 a0 a1 a2 a3) :=
  Judge.seg (tms := []) rfl [1, 2, 3, 4, 9] [0, 80] (t := t50_2 a0 a1 a2 a3) (by kernel_rfl) (fun K => by kernel_rfl)
noncomputable def s50_3_0 (a0 : T25) (a1 : List (List Int)) (a2 a3 : Int) (y : Unit) : St := ⟨[(1, (.d (eSl 1 (eSl 1 (D.int .i64)) a1))), (2, (.d (.int .i64 a2))), (3, (.d (.int .i64 a3))), (4, (.ptr 0 0)), (9, (.arr 80 1 (a0.Masses.length : Int).toNat)), (10, (.arr 160 1 (a0.Alts.length : Int).toNat))], [(0, (.cells (g25 a0))), (80, (.arr 1 (List.replicate (a0.Masses.length : Int).toNat (0 : Int)).length (cF (D.int .i64) (List.replicate (a0.Masses.length : Int).toNat (0 : Int))))), (160, (.arr 1 (List.replicate (a0.Alts.length : Int).toNat (0 : Int)).length (cF (D.int .i64) (List.replicate (a0.Alts.length : Int).toNat (0 : Int)))))], [], 192⟩
noncomputable def m50_3 (a0 : T25) (a1 : List (List Int)) (a2 a3 : Int) : Option ((Unit)) :=
  if (0 : Int) ≤ (a0.Alts.length : Int) then
    if (a0.Alts.length : Int) = (a0.Alts.length : Int) then
      if (a0.Alts.length : Int) * 8 ≤ 140737488355328 then
        if (a0.Alts.length : Int) ≤ 9223372036854775807 then
          some ()
        else none
      else none
    else none
  else none
noncomputable def W50_3 (a0 : T25) (a1 : List (List Int)) (a2 a3 : Int) : ((Unit)) → Way := fun y => go (s50_3_0 a0 a1 a2 a3 y)
noncomputable def t50_3 (a0 : T25) (a1 : List (List Int)) (a2 a3 : Int) : Tr (W50_3 a0 a1 a2 a3) := (.need ((0 : Int) ≤ (a0.Alts.length : Int)) inferInstance (.need ((a0.Alts.length : Int) = (a0.Alts.length : Int)) inferInstance (.need ((a0.Alts.length : Int) * 8 ≤ 140737488355328) inferInstance (.need ((a0.Alts.length : Int) ≤ 9223372036854775807) inferInstance (.ret .normal ⟨[(1, (.d (eSl 1 (eSl 1 (D.int .i64)) a1))), (2, (.d (.int .i64 a2))), (3, (.d (.int .i64 a3))), (4, (.ptr 0 0)), (9, (.arr 80 1 (a0.Masses.length : Int).toNat)), (10, (.arr 160 1 (a0.Alts.length : Int).toNat))], [(0, (.cells (g25 a0))), (80, (.arr 1 (List.replicate (a0.Masses.length : Int).toNat (0 : Int)).length (cF (D.int .i64) (List.replicate (a0.Masses.length : Int).toNat (0 : Int))))), (160, (.arr 1 (a0.Alts.length : Int).toNat (fun _ => (.int .i64 (0 : Int)))))], [], 192⟩ () ⟨rfl, (weak_of [(0, 0), (80, 80), (160, 160)] [] (by kernel_rfl) ⟨dr, dr, dr, ⟨rfl, rfl⟩, ⟨rfl, rfl, rfl⟩, ⟨rfl, rfl, rfl⟩⟩ ⟨⟨_, _, rfl, rfl, ⟨dr, dr, dr, dr, dr, dr, dr, dr, dr, dr, dr, dr, dr, dr, dr, trivial⟩⟩, ⟨_, _, rfl, rfl, ⟨rfl, dr⟩⟩, ⟨_, _, rfl, rfl, ⟨rfl, de_rep⟩⟩⟩)⟩)))))
theorem j50_3 (V : Env) (a0 : T25) (a1 : List (List Int)) (a2 a3 : Int) : Judge Try.prog V 56 (sub (body Try.f50) [1, 1, 0]) (s50_2_0 a0 a1 a2 a3 ()) (m50_3 a0 a1 a2 a3) (W50_3 a0 a1 a2 a3) :=
  Judge.seg (tms := []) rfl [1, 2, 3, 4, 9, 10] [0, 80, 160] (t := t50_3 a0 a1 a2 a3) (by kernel_rfl) (fun K => by kernel_rfl)
noncomputable def s50_4_0 (a0 : T25) (a1 : List (List Int)) (a2 a3 : Int) (y : Unit) : St := ⟨[(1, (.d (eSl 1 (eSl 1 (D.int .i64)) a1))), (2, (.d (.int .i64 a2))), (3, (.d (.int .i64 a3))), (4, (.ptr 0 0)), (9, (.arr 80 1 (a0.Masses.length : Int).toNat)), (10, (.arr 160 1 (a0.Alts.length : Int).toNat)), (22, (.d (.int .i64 ((a0.Masses.length : Int).toNat : Int)))), (23, (.d (.int .i64 (0 : Int))))], [(0, (.cells (g25 a0))), (80, (.arr 1 (List.replicate (a0.Masses.length : Int).toNat (0 : Int)).length (cF (D.int .i64) (List.replicate (a0.Masses.length : Int).toNat (0 : Int))))), (160, (.arr 1 (List.replicate (a0.Alts.length : Int).toNat (0 : Int)).length (cF (D.int .i64) (List.replicate (a0.Alts.length : Int).toNat (0 : Int)))))], [], 240⟩
noncomputable def m50_4 (a0 : T25) (a1 : List (List Int)) (a2 a3 : Int) : Option ((Unit)) :=
  some ()
noncomputable def W50_4 (a0 : T25) (a1 : List (List Int)) (a2 a3 : Int) : ((Unit)) → Way := fun y => go (s50_4_0 a0 a1 a2 a3 y)
noncomputable def t50_4 (a0 : T25) (a1 : List (List Int)) (a2 a3 : Int) : Tr (W50_4 a0 a1 a2 a3) := (.ret .normal (s50_4_0 a0 a1 a2 a3 ()) () ⟨rfl, Weak.refl _⟩)
theorem j50_4 (V : Env) (a0 : T25) (a1 : List (List Int)) (a2 a3 : Int) : Judge Try.prog V 56 (sub (body Try.f50) [1, 1, 1, 0, 0]) (s50_3_0 a0 a1 a2 a3 ()) (m50_4 a0 a1 a2 a3) (W50_4 a0 a1 a2 a3) :=
  Judge.seg (tms := []) rfl [1, 2, 3, 4, 9, 10, 22, 23] [0, 80, 160] (t := t50_4 a0 a1 a2 a3) (by kernel_rfl) (fun K => by kernel_rfl)
noncomputable def h50_6 (a0 : T25) (a1 : List (List Int)) (a2 a3 : Int) (y : Int × (List Int) × (List Int)) : St := ⟨[(1, (.d (eSl 1 (eSl 1 (D.int .i64)) a1))), (2, (.d (.int .i64 a2))), (3, (.d (.int .i64 a3))), (4, (.ptr 0 0)), (9, (.arr 80 1 (a0.Masses.length : Int).toNat)), (10, (.arr 160 1 (a0.Alts.length : Int).toNat)), (22, (.d (.int .i64 ((a0.Masses.length : Int).toNat : Int)))), (23, (.d (.int .i64 y.1)))], [(0, (.cells (g25 a0))), (80, (.arr 1 y.2.1.length (cF (D.int .i64) y.2.1))), (160, (.arr 1 y.2.2.length (cF (D.int .i64) y.2.2)))], [], 784⟩
noncomputable def s50_7_0 (a0 : T25) (a1 : List (List Int)) (a2 a3 : Int) (s5 : Int × (List Int) × (List Int)) (y : Unit) : St := ⟨[(1, (.d (eSl 1 (eSl 1 (D.int .i64)) a1))), (2, (.d (.int .i64 a2))), (3, (.d (.int .i64 a3))), (4, (.ptr 0 0)), (9, (.arr 80 1 (a0.Masses.length : Int).toNat)), (10, (.arr 160 1 (a0.Alts.length : Int).toNat)), (22, (.d (.int .i64 ((a0.Masses.length : Int).toNat : Int)))), (23, (.d (.int .i64 s5.1))), (24, (.d (.bool (decide (s5.1 < ((a0.Masses.length : Int).toNat : Int))))))], [(0, (.cells (g25 a0))), (80, (.arr 1 s5.2.1.length (cF (D.int .i64) s5.2.1))), (160, (.arr 1 s5.2.2.length (cF (D.int .i64) s5.2.2)))], [], 800⟩
noncomputable def m50_7 (a0 : T25) (a1 : List (List Int)) (a2 a3 : Int) (s5 : Int × (List Int) × (List Int)) : Option ((Unit)) :=
  some ()
noncomputable def W50_7 (a0 : T25) (a1 : List (List Int)) (a2 a3 : Int) (s5 : Int × (List Int) × (List Int)) : ((Unit)) → Way := fun y => go (s50_7_0 a0 a1 a2 a3 s5 y)
noncomputable def t50_7 (a0 : T25) (a1 : List (List Int)) (a2 a3 : Int) (s5 : Int × (List Int) × (List Int)) : Tr (W50_7 a0 a1 a2 a3 s5) := (.ret .normal (s50_7_0 a0 a1 a2 a3 s5 ()) () ⟨rfl, Weak.refl _⟩)
theorem j50_7 (V : Env) (a0 : T25) (a1 : List (List Int)) (a2 a3 : Int) (s5 : Int × (List Int) × (List Int)) : Judge Try.prog V 56 (sub (body Try.f50) [1, 1, 1, 0, 1, 0, 0, 0]) (h50_6 a0 a1 a2 a3 s5) (m50_7 a0 a1 a2 a3 s5) (W50_7 a0 a1 a2 a3 s5) :=
  Judge.seg (tms := []) rfl [1, 2, 3, 4, 9, 10, 22, 23, 24] [0, 80, 160] (t := t50_7 a0 a1 a2 a3 s5) (by kernel_rfl) (fun K => by kernel_rfl)
noncomputable def s50_8_0 (a0 : T25) (a1 : List (List Int)) (a2 a3 : Int) (s5 : Int × (List Int) × (List Int)) (y : Unit) : St := ⟨[(1, (.d (eSl 1 (eSl 1 (D.int .i64)) a1))), (2, (.d (.int .i64 a2))), (3, (.d (.int .i64 a3))), (4, (.ptr 0 0)), (9, (.arr 80 1 (a0.Masses.length : Int).toNat)), (10, (.arr 160 1 (a0.Alts.length : Int).toNat)), (22, (.d (.int .i64 ((a0.Masses.length : Int).toNat : Int)))), (23, (.d (.int .i64 s5.1)))], [(0, (.cells (g25 a0))), (80, (.arr 1 s5.2.1.length (cF (D.int .i64) s5.2.1))), (160, (.arr 1 s5.2.2.length (cF (D.int .i64) s5.2.2)))], [], 800⟩
noncomputable def s50_8_1 (a0 : T25) (a1 : List (List Int)) (a2 a3 : Int) (s5 : Int × (List Int) × (List Int)) (y : Unit) : St := ⟨[(3, (.d (.int .i64 a3))), (4, (.ptr 0 0)), (9, (.arr 80 1 (a0.Masses.length : Int).toNat))], [(0, (.cells (g25 a0))), (80, (.arr 1 s5.2.1.length (cF (D.int .i64) s5.2.1)))], [], 800⟩
noncomputable def m50_8 (a0 : T25) (a1 : List (List Int)) (a2 a3 : Int) (s5 : Int × (List Int) × (List Int)) : Option ((Unit) ⊕ (Unit)) :=
  if (decide (s5.1 < ((a0.Masses.length : Int).toNat : Int))) = true then
    some (.inl ())
  else
    some (.inr ())
noncomputable def W50_8 (a0 : T25) (a1 : List (List Int)) (a2 a3 : Int) (s5 : Int × (List Int) × (List Int)) : ((Unit) ⊕ (Unit)) → Way := fun y => match y with | .inl y => go (s50_8_0 a0 a1 a2 a3 s5 y) | .inr y => quit 0 (s50_8_1 a0 a1 a2 a3 s5 y)
noncomputable def t50_8 (a0 : T25) (a1 : List (List Int)) (a2 a3 : Int) (s5 : Int × (List Int) × (List Int)) : Tr (W50_8 a0 a1 a2 a3 s5) := (.ite (decide (s5.1 < ((a0.Masses.length : Int).toNat : Int))) (.ret .normal (s50_8_0 a0 a1 a2 a3 s5 ()) (.inl ()) ⟨rfl, Weak.refl _⟩) (.ret (.exit 0) ⟨[(1, (.d (eSl 1 (eSl 1 (D.int .i64)) a1))), (2, (.d (.int .i64 a2))), (3, (.d (.int .i64 a3))), (4, (.ptr 0 0)), (9, (.arr 80 1 (a0.Masses.length : Int).toNat)), (10, (.arr 160 1 (a0.Alts.length : Int).toNat)), (22, (.d (.int .i64 ((a0.Masses.length : Int).toNat : Int)))), (23, (.d (.int .i64 s5.1)))], [(0, (.cells (g25 a0))), (80, (.arr 1 s5.2.1.length (cF (D.int .i64) s5.2.1))), (160, (.arr 1 s5.2.2.length (cF (D.int .i64) s5.2.2)))], [], 800⟩ (.inr ()) ⟨rfl, (weak_of [(0, 0), (80, 80)] [] (by kernel_rfl) ⟨dr, ⟨rfl, rfl⟩, ⟨rfl, rfl, rfl⟩⟩ ⟨⟨_, _, rfl, rfl, ⟨dr, dr, dr, dr, dr, dr, dr, dr, dr, dr, dr, dr, dr, dr, dr, trivial⟩⟩, ⟨_, _, rfl, rfl, ⟨rfl, dr⟩⟩⟩)⟩))
theorem j50_8 (V : Env) (a0 : T25) (a1 : List (List Int)) (a2 a3 : Int) (s5 : Int × (List Int) × (List Int)) : Judge Try.prog V 56 (sub (body Try.f50) [1, 1, 1, 0, 1, 0, 0, 1, 0]) (s50_7_0 a0 a1 a2 a3 s5 ()) (m50_8 a0 a1 a2 a3 s5) (W50_8 a0 a1 a2 a3 s5) :=
  Judge.seg (tms := []) rfl [1, 2, 3, 4, 9, 10, 22, 23] [0, 80, 160] (t := t50_8 a0 a1 a2 a3 s5) (by kernel_rfl) (fun K => by kernel_rfl)
noncomputable def s50_9_0 (a0 : T25) (a1 : List (List Int)) (a2 a3 : Int) (s5 : Int × (List Int) × (List Int)) (y : Unit) : St := ⟨[(1, (.d (eSl 1 (eSl 1 (D.int .i64)) a1))), (2, (.d (.int .i64 a2))), (3, (.d (.int .i64 a3))), (4, (.ptr 0 0)), (9, (.arr 80 1 (a0.Masses.length : Int).toNat)), (10, (.arr 160 1 (a0.Alts.length : Int).toNat)), (11, (.d (.int .i64 s5.1))), (22, (.d (.int .i64 ((a0.Masses.length : Int).toNat : Int)))), (23, (.d (.int .i64 s5.1)))], [(0, (.cells (g25 a0))), (80, (.arr 1 s5.2.1.length (cF (D.int .i64) s5.2.1))), (160, (.arr 1 s5.2.2.length (cF (D.int .i64) s5.2.2)))], [], 832⟩
noncomputable def m50_9 (a0 : T25) (a1 : List (List Int)) (a2 a3 : Int) (s5 : Int × (List Int) × (List Int)) : Option ((Unit)) :=
  some ()
noncomputable def W50_9 (a0 : T25) (a1 : List (List Int)) (a2 a3 : Int) (s5 : Int × (List Int) × (List Int)) : ((Unit)) → Way := fun y => go (s50_9_0 a0 a1 a2 a3 s5 y)
noncomputable def t50_9 (a0 : T25) (a1 : List (List Int)) (a2 a3 : Int) (s5 : Int × (List Int) × (List Int)) : Tr (W50_9 a0 a1 a2 a3 s5) := (.ret .normal (s50_9_0 a0 a1 a2 a3 s5 ()) () ⟨rfl, Weak.refl _⟩)
theorem j50_9 (V : Env) (a0 : T25) (a1 : List (List Int)) (a2 a3 : Int) (s5 : Int × (List Int) × (List Int)) : Judge Try.prog V 56 (sub (body Try.f50) [1, 1, 1, 0, 1, 0, 0, 1, 1, 0, 0, 0]) (s50_8_0 a0 a1 a2 a3 s5 ()) (m50_9 a0 a1 a2 a3 s5) (W50_9 a0 a1 a2 a3 s5) :=
  Judge.seg (tms := []) rfl [1, 2, 3, 4, 9, 10, 11, 22, 23] [0, 80, 160] (t := t50_9 a0 a1 a2 a3 s5) (by kernel_rfl) (fun K => by kernel_rfl)
noncomputable def s50_10_0 (a0 : T25) (a1 : List (List Int)) (a2 a3 : Int) (s5 : Int × (List Int) × (List Int)) (y : Unit) : St := ⟨[(1, (.d (eSl 1 (eSl 1 (D.int .i64)) a1))), (2, (.d (.int .i64 a2))), (3, (.d (.int .i64 a3))), (4, (.ptr 0 0)), (9, (.arr 80 1 (a0.Masses.length : Int).toNat)), (10, (.arr 160 1 (a0.Alts.length : Int).toNat)), (11, (.d (.int .i64 s5.1))), (22, (.d (.int .i64 ((a0.Masses.length : Int).toNat : Int)))), (23, (.d (.int .i64 s5.1))), (27, (.d (.int .i64 ((a0.Alts.length : Int).toNat : Int)))), (28, (.d (.int .i64 (0 : Int))))], [(0, (.cells (g25 a0))), (80, (.arr 1 s5.2.1.length (cF (D.int .i64) s5.2.1))), (160, (.arr 1 s5.2.2.length (cF (D.int .i64) s5.2.2)))], [], 880⟩
noncomputable def m50_10 (a0 : T25) (a1 : List (List Int)) (a2 a3 : Int) (s5 : Int × (List Int) × (List Int)) : Option ((Unit)) :=
  some ()
noncomputable def W50_10 (a0 : T25) (a1 : List (List Int)) (a2 a3 : Int) (s5 : Int × (List Int) × (List Int)) : ((Unit)) → Way := fun y => go (s50_10_0 a0 a1 a2 a3 s5 y)
noncomputable def t50_10 (a0 : T25) (a1 : List (List Int)) (a2 a3 : Int) (s5 : Int × (List Int) × (List Int)) : Tr (W50_10 a0 a1 a2 a3 s5) := (.ret .normal (s50_10_0 a0 a1 a2 a3 s5 ()) () ⟨rfl, Weak.refl _⟩)
theorem j50_10 (V : Env) (a0 : T25) (a1 : List (List Int)) (a2 a3 : Int) (s5 : Int × (List Int) × (List Int)) : Judge Try.prog V 56 (sub (body Try.f50) [1, 1, 1, 0, 1, 0, 0, 1, 1, 0, 0, 1, 0, 0]) (s50_9_0 a0 a1 a2 a3 s5 ()) (m50_10 a0 a1 a2 a3 s5) (W50_10 a0 a1 a2 a3 s5) :=
  Judge.seg (tms := []) rfl [1, 2, 3, 4, 9, 10, 11, 22, 23, 27, 28] [0, 80, 160] (t := t50_10 a0 a1 a2 a3 s5) (by kernel_rfl) (fun K => by kernel_rfl)
noncomputable def h50_12 (a0 : T25) (a1 : List (List Int)) (a2 a3 : Int) (s5 : Int × (List Int) × (List Int)) (y : Int × (List Int)) : St := ⟨[(1, (.d (eSl 1 (eSl 1 (D.int .i64)) a1))), (2, (.d (.int .i64 a2))), (3, (.d (.int .i64 a3))), (4, (.ptr 0 0)), (9, (.arr 80 1 (a0.Masses.length : Int).toNat)), (10, (.arr 160 1 (a0.Alts.length : Int).toNat)), (11, (.d (.int .i64 s5.1))), (22, (.d (.int .i64 ((a0.Masses.length : Int).toNat : Int)))), (23, (.d (.int .i64 s5.1))), (27, (.d (.int .i64 ((a0.Alts.length : Int).toNat : Int)))), (28, (.d (.int .i64 y.1)))], [(0, (.cells (g25 a0))), (80, (.arr 1 s5.2.1.length (cF (D.int .i64) s5.2.1))), (160, (.arr 1 y.2.length (cF (D.int .i64) y.2)))], [], 1136⟩
noncomputable def s50_13_0 (a0 : T25) (a1 : List (List Int)) (a2 a3 : Int) (s5 : Int × (List Int) × (List Int)) (s11 : Int × (List Int)) (y : Unit) : St := ⟨[(1, (.d (eSl 1 (eSl 1 (D.int .i64)) a1))), (2, (.d (.int .i64 a2))), (3, (.d (.int .i64 a3))), (4, (.ptr 0 0)), (9, (.arr 80 1 (a0.Masses.length : Int).toNat)), (10, (.arr 160 1 (a0.Alts.length : Int).toNat)), (11, (.d (.int .i64 s5.1))), (22, (.d (.int .i64 ((a0.Masses.length : Int).toNat : Int)))), (23, (.d (.int .i64 s5.1))), (27, (.d (.int .i64 ((a0.Alts.length : Int).toNat : Int)))), (28, (.d (.int .i64 (IntKind.wrap .i64 (s11.1 + (1 : Int))))))], [(0, (.cells (g25 a0))), (80, (.arr 1 s5.2.1.length (cF (D.int .i64) s5.2.1))), (160, (.arr 1 (s11.2.set s11.1.toNat ((a1.getD s11.1.toNat default).getD s5.1.toNat default)).length (cF (D.int .i64) (s11.2.set s11.1.toNat ((a1.getD s11.1.toNat default).getD s5.1.toNat default)))))], [], 1392⟩
noncomputable def s50_13_1 (a0 : T25) (a1 : List (List Int)) (a2 a3 : Int) (s5 : Int × (List Int) × (List Int)) (s11 : Int × (List Int)) (y : Unit) : St := ⟨[(1, (.d (eSl 1 (eSl 1 (D.int .i64)) a1))), (2, (.d (.int .i64 a2))), (3, (.d (.int .i64 a3))), (4, (.ptr 0 0)), (9, (.arr 80 1 (a0.Masses.length : Int).toNat)), (10, (.arr 160 1 (a0.Alts.length : Int).toNat)), (11, (.d (.int .i64 s5.1))), (22, (.d (.int .i64 ((a0.Masses.length : Int).toNat : Int)))), (23, (.d (.int .i64 s5.1)))], [(0, (.cells (g25 a0))), (80, (.arr 1 s5.2.1.length (cF (D.int .i64) s5.2.1))), (160, (.arr 1 s11.2.length (cF (D.int .i64) s11.2)))], [], 1152⟩
noncomputable def m50_13 (a0 : T25) (a1 : List (List Int)) (a2 a3 : Int) (s5 : Int × (List Int) × (List Int)) (s11 : Int × (List Int)) : Option ((Unit) ⊕ (Unit)) :=
  if (decide (s11.1 < ((a0.Alts.length : Int).toNat : Int))) = true then
    if (0 : Int) ≤ s11.1 then
      if s11.1 < (a1.length : Int) then
        if (0 : Int) ≤ s5.1 then
          if s5.1 < ((a1.getD s11.1.toNat default).length : Int) then
            if (0 : Int) ≤ s11.1 then
              if s11.1 < ((a0.Alts.length : Int).toNat : Int) then
                if s11.1.toNat < s11.2.length then
                  some (.inl ())
                else none
              else none
            else none
          else none
        else none
      else none
    else none
  else
    some (.inr ())
noncomputable def W50_13 (a0 : T25) (a1 : List (List Int)) (a2 a3 : Int) (s5 : Int × (List Int) × (List Int)) (s11 : Int × (List Int)) : ((Unit) ⊕ (Unit)) → Way := fun y => match y with | .inl y => go (s50_13_0 a0 a1 a2 a3 s5 s11 y) | .inr y => quit 2 (s50_13_1 a0 a1 a2 a3 s5 s11 y)
noncomputable def t50_13 (a0 : T25) (a1 : List (List Int)) (a2 a3 : Int) (s5 : Int × (List Int) × (List Int)) (s11 : Int × (List Int)) : Tr (W50_13 a0 a1 a2 a3 s5 s11) := (.ite (decide (s11.1 < ((a0.Alts.length : Int).toNat : Int))) (.need ((0 : Int) ≤ s11.1) inferInstance (.need (s11.1 < (a1.length : Int)) inferInstance (.need ((0 : Int) ≤ s5.1) inferInstance (.need (s5.1 < ((a1.getD s11.1.toNat default).length : Int)) inferInstance (.need ((0 : Int) ≤ s11.1) inferInstance (.need (s11.1 < ((a0.Alts.length : Int).toNat : Int)) inferInstance (.need (s11.1.toNat < s11.2.length) inferInstance (.ret .normal ⟨[(1, (.d (eSl 1 (eSl 1 (D.int .i64)) a1))), (2, (.d (.int .i64 a2))), (3, (.d (.int .i64 a3))), (4, (.ptr 0 0)), (9, (.arr 80 1 (a0.Masses.length : Int).toNat)), (10, (.arr 160 1 (a0.Alts.length : Int).toNat)), (11, (.d (.int .i64 s5.1))), (22, (.d (.int .i64 ((a0.Masses.length : Int).toNat : Int)))), (23, (.d (.int .i64 s5.1))), (27, (.d (.int .i64 ((a0.Alts.length : Int).toNat : Int)))), (28, (.d (.int .i64 (IntKind.wrap .i64 (s11.1 + (1 : Int))))))], [(0, (.cells (g25 a0))), (80, (.arr 1 s5.2.1.length (cF (D.int .i64) s5.2.1))), (160, (.arr 1 s11.2.length (fun k => if k = s11.1.toNat then (.int .i64 ((a1.getD s11.1.toNat default).getD s5.1.toNat default)) else (cF (D.int .i64) s11.2) k)))], [], 1392⟩ (.inl ()) ⟨rfl, (weak_of [(0, 0), (80, 80), (160, 160)] [] (by kernel_rfl) ⟨dr, dr, dr, ⟨rfl, rfl⟩, ⟨rfl, rfl, rfl⟩, ⟨rfl, rfl, rfl⟩, dr, dr, dr, dr, dr⟩ ⟨⟨_, _, rfl, rfl, ⟨dr, dr, dr, dr, dr, dr, dr, dr, dr, dr, dr, dr, dr, dr, dr, trivial⟩⟩, ⟨_, _, rfl, rfl, ⟨rfl, dr⟩⟩, ⟨_, _, rfl, rfl, ⟨rfl, (de_set dr)⟩⟩⟩)⟩)))))))) (.ret (.exit 2) ⟨[(1, (.d (eSl 1 (eSl 1 (D.int .i64)) a1))), (2, (.d (.int .i64 a2))), (3, (.d (.int .i64 a3))), (4, (.ptr 0 0)), (9, (.arr 80 1 (a0.Masses.length : Int).toNat)), (10, (.arr 160 1 (a0.Alts.length : Int).toNat)), (11, (.d (.int .i64 s5.1))), (22, (.d (.int .i64 ((a0.Masses.length : Int).toNat : Int)))), (23, (.d (.int .i64 s5.1))), (27, (.d (.int .i64 ((a0.Alts.length : Int).toNat : Int)))), (28, (.d (.int .i64 s11.1)))], [(0, (.cells (g25 a0))), (80, (.arr 1 s5.2.1.length (cF (D.int .i64) s5.2.1))), (160, (.arr 1 s11.2.length (cF (D.int .i64) s11.2)))], [], 1152⟩ (.inr ()) ⟨rfl, (weak_of [(0, 0), (80, 80), (160, 160)] [] (by kernel_rfl) ⟨dr, dr, dr, ⟨rfl, rfl⟩, ⟨rfl, rfl, rfl⟩, ⟨rfl, rfl, rfl⟩, dr, dr, dr⟩ ⟨⟨_, _, rfl, rfl, ⟨dr, dr, dr, dr, dr, dr, dr, dr, dr, dr, dr, dr, dr, dr, dr, trivial⟩⟩, ⟨_, _, rfl, rfl, ⟨rfl, dr⟩⟩, ⟨_, _, rfl, rfl, ⟨rfl, dr⟩⟩⟩)⟩))
theorem j50_13 (V : Env) (a0 : T25) (a1 : List (List Int)) (a2 a3 : Int) (s5 : Int × (List Int) × (List Int)) (s11 : Int × (List Int)) : Judge Try.prog V 56 (sub (body Try.f50) [1, 1, 1, 0, 1, 0, 0, 1, 1, 0, 0, 1, 0, 1, 0, 0]) (h50_12 a0 a1 a2 a3 s5 s11) (m50_13 a0 a1 a2 a3 s5 s11) (W50_13 a0 a1 a2 a3 s5 s11) :=
  Judge.seg (tms := []) rfl [1, 2, 3, 4, 9, 10, 11, 22, 23, 27, 28] [0, 80, 160] (t := t50_13 a0 a1 a2 a3 s5 s11) (by kernel_rfl) (fun K => by kernel_rfl)
noncomputable def s50_14 (a0 : T25) (a1 : List (List Int)) (a2 a3 : Int) (s5 : Int × (List Int) × (List Int)) (y : Int × (List Int)) : St := ⟨[(1, (.d (eSl 1 (eSl 1 (D.int .i64)) a1))), (2, (.d (.int .i64 a2))), (3, (.d (.int .i64 a3))), (4, (.ptr 0 0)), (9, (.arr 80 1 (a0.Masses.length : Int).toNat)), (10, (.arr 160 1 (a0.Alts.length : Int).toNat)), (11, (.d (.int .i64 s5.1))), (22, (.d (.int .i64 ((a0.Masses.length : Int).toNat : Int)))), (23, (.d (.int .i64 s5.1)))], [(0, (.cells (g25 a0))), (80, (.arr 1 s5.2.1.length (cF (D.int .i64) s5.2.1))), (160, (.arr 1 y.2.length (cF (D.int .i64) y.2)))], [], 1152⟩
noncomputable def b50_15 (a0 : T25) (a1 : List (List Int)) (a2 a3 : Int) (s5 : Int × (List Int) × (List Int)) (s11 : Int × (List Int)) : Option ((Int × (List Int)) ⊕ ((Int × (List Int)))) := (m50_13 a0 a1 a2 a3 s5 s11).map (fun z => match z with | .inl z => .inl ((IntKind.wrap .i64 (s11.1 + (1 : Int))), (s11.2.set s11.1.toNat ((a1.getD s11.1.toNat default).getD s5.1.toNat default))) | .inr z => .inr s11 : (Unit) ⊕ (Unit) → (Int × (List Int)) ⊕ ((Int × (List Int))))
noncomputable def m50_15 (a0 : T25) (a1 : List (List Int)) (a2 a3 : Int) (s5 : Int × (List Int) × (List Int)) : Option ((Int × (List Int))) := loopO (b50_15 a0 a1 a2 a3 s5) ((0 : Int), s5.2.2)
noncomputable def W50_15 (a0 : T25) (a1 : List (List Int)) (a2 a3 : Int) (s5 : Int × (List Int) × (List Int)) : ((Int × (List Int))) → Way := fun y => quit 2 (s50_14 a0 a1 a2 a3 s5 y)
theorem j50_15 (V : Env) (a0 : T25) (a1 : List (List Int)) (a2 a3 : Int) (s5 : Int × (List Int) × (List Int)) : Judge Try.prog V 56 (sub (body Try.f50) [1, 1, 1, 0, 1, 0, 0, 1, 1, 0, 0, 1, 0, 1, 0]) (s50_10_0 a0 a1 a2 a3 s5 ()) (m50_15 a0 a1 a2 a3 s5) (W50_15 a0 a1 a2 a3 s5) :=
  Judge.loopS (c := (sub (body Try.f50) [1, 1, 1, 0, 1, 0, 0, 1, 1, 0, 0, 1, 0, 1, 0, 0])) (by kernel_rfl) (h50_12 a0 a1 a2 a3 s5) (b50_15 a0 a1 a2 a3 s5) ((0 : Int), s5.2.2) rfl (weak_of [(0, 0), (80, 80), (160, 160)] [] (by kernel_rfl) ⟨dr, dr, dr, ⟨rfl, rfl⟩, ⟨rfl, rfl, rfl⟩, ⟨rfl, rfl, rfl⟩, dr, dr, dr, dr, dr⟩ ⟨⟨_, _, rfl, rfl, ⟨dr, dr, dr, dr, dr, dr, dr, dr, dr, dr, dr, dr, dr, dr, dr, trivial⟩⟩, ⟨_, _, rfl, rfl, ⟨rfl, dr⟩⟩, ⟨_, _, rfl, rfl, ⟨rfl, dr⟩⟩⟩) (by intro y; exact fun h => by cases h)
    (fun s11 => Judge.map (fun z => match z with | .inl z => .inl ((IntKind.wrap .i64 (s11.1 + (1 : Int))), (s11.2.set s11.1.toNat ((a1.getD s11.1.toNat default).getD s5.1.toNat default))) | .inr z => .inr s11 : (Unit) ⊕ (Unit) → (Int × (List Int)) ⊕ ((Int × (List Int)))) rfl (j50_13 V a0 a1 a2 a3 s5 s11) (fun z => match z with | .inl z => ⟨rfl, fun _ h => h.trans (weak_of [(0, 0), (80, 80), (160, 160)] [] (by kernel_rfl) ⟨dr, dr, dr, ⟨rfl, rfl⟩, ⟨rfl, rfl, rfl⟩, ⟨rfl, rfl, rfl⟩, dr, dr, dr, dr, dr⟩ ⟨⟨_, _, rfl, rfl, ⟨dr, dr, dr, dr, dr, dr, dr, dr, dr, dr, dr, dr, dr, dr, dr, trivial⟩⟩, ⟨_, _, rfl, rfl, ⟨rfl, dr⟩⟩, ⟨_, _, rfl, rfl, ⟨rfl, dr⟩⟩⟩)⟩ | .inr z => ⟨rfl, fun _ h => h⟩))
noncomputable def m50_16 (a0 : T25) (a1 : List (List Int)) (a2 a3 : Int) (s5 : Int × (List Int) × (List Int)) : Option ((Int × (List Int))) := m50_15 a0 a1 a2 a3 s5
noncomputable def W50_16 (a0 : T25) (a1 : List (List Int)) (a2 a3 : Int) (s5 : Int × (List Int) × (List Int)) : ((Int × (List Int))) → Way := fun y => go (s50_14 a0 a1 a2 a3 s5 y)
theorem j50_16 (V : Env) (a0 : T25) (a1 : List (List Int)) (a2 a3 : Int) (s5 : Int × (List Int) × (List Int)) : Judge Try.prog V 56 (sub (body Try.f50) [1, 1, 1, 0, 1, 0, 0, 1, 1, 0, 0, 1, 0, 1]) (s50_10_0 a0 a1 a2 a3 s5 ()) (m50_16 a0 a1 a2 a3 s5) (W50_16 a0 a1 a2 a3 s5) := Judge.blockS (id := 2) (c := (sub (body Try.f50) [1, 1, 1, 0, 1, 0, 0, 1, 1, 0, 0, 1, 0, 1, 0])) (by kernel_rfl) (j50_15 V a0 a1 a2 a3 s5) (by intro y; rfl)
noncomputable def m50_17 (a0 : T25) (a1 : List (List Int)) (a2 a3 : Int) (s5 : Int × (List Int) × (List Int)) : Option ((Int × (List Int))) := (m50_10 a0 a1 a2 a3 s5).bind (fun yy => match yy with | _ => m50_16 a0 a1 a2 a3 s5  : (Unit) → Option ((Int × (List Int))))
noncomputable def W50_17 (a0 : T25) (a1 : List (List Int)) (a2 a3 : Int) (s5 : Int × (List Int) × (List Int)) : ((Int × (List Int))) → Way := fun y => go (s50_14 a0 a1 a2 a3 s5 y)
theorem j50_17 (V : Env) (a0 : T25) (a1 : List (List Int)) (a2 a3 : Int) (s5 : Int × (List Int) × (List Int)) : Judge Try.prog V 56 (sub (body Try.f50) [1, 1, 1, 0, 1, 0, 0, 1, 1, 0, 0, 1, 0]) (s50_9_0 a0 a1 a2 a3 s5 ()) (m50_17 a0 a1 a2 a3 s5) (W50_17 a0 a1 a2 a3 s5) := 
  Judge.seqX (a := (sub (body Try.f50) [1, 1, 1, 0, 1, 0, 0, 1, 1, 0, 0, 1, 0, 0])) (b := (sub (body Try.f50) [1, 1, 1, 0, 1, 0, 0, 1, 1, 0, 0, 1, 0, 1])) (m2 := (fun yy => match yy with | _ => m50_16 a0 a1 a2 a3 s5  : (Unit) → Option ((Int × (List Int))))) (by kernel_rfl) rfl (j50_10 V a0 a1 a2 a3 s5) (fun yy => match yy with | _ => .inl ⟨rfl, _, fun _ h => h, j50_16 V a0 a1 a2 a3 s5 ⟩)
noncomputable def s50_19_0 (a0 : T25) (a1 : List (List Int)) (a2 a3 : Int) (s5 : Int × (List Int) × (List Int)) (y18 : Int × (List Int)) (y : (List Int)) : St := ⟨[(1, (.d (eSl 1 (eSl 1 (D.int .i64)) a1))), (2, (.d (.int .i64 a2))), (3, (.d (.int .i64 a3))), (4, (.ptr 0 0)), (9, (.arr 80 1 (a0.Masses.length : Int).toNat)), (10, (.arr 160 1 (a0.Alts.length : Int).toNat)), (22, (.d (.int .i64 ((a0.Masses.length : Int).toNat : Int)))), (23, (.d (.int .i64 s5.1)))], [(0, (.cells (g25 a0))), (80, (.arr 1 y.length (cF (D.int .i64) y))), (160, (.arr 1 y18.2.length (cF (D.int .i64) y18.2)))], [], 1296⟩
noncomputable def m50_19 (a0 : T25) (a1 : List (List Int)) (a2 a3 : Int) (s5 : Int × (List Int) × (List Int)) (y18 : Int × (List Int)) : Option (((List Int))) :=
  (if (a0.Alts.length : Int).toNat = y18.2.length then ((m53 a0.Alts y18.2 a2).bind fun r11_0 => (if (0 : Int) ≤ s5.1 then (if s5.1 < ((a0.Masses.length : Int).toNat : Int) then (if s5.1.toNat < s5.2.1.length then some r11_0 else none) else none) else none)) else none).bind fun x11 =>
    some (s5.2.1.set s5.1.toNat x11)
noncomputable def W50_19 (a0 : T25) (a1 : List (List Int)) (a2 a3 : Int) (s5 : Int × (List Int) × (List Int)) (y18 : Int × (List Int)) : (((List Int))) → Way := fun y => go (s50_19_0 a0 a1 a2 a3 s5 y18 y)
noncomputable def t50_19 (a0 : T25) (a1 : List (List Int)) (a2 a3 : Int) (s5 : Int × (List Int) × (List Int)) (y18 : Int × (List Int)) : Tr (W50_19 a0 a1 a2 a3 s5 y18) := (.exi (Int) (if (a0.Alts.length : Int).toNat = y18.2.length then ((m53 a0.Alts y18.2 a2).bind fun r11_0 => (if (0 : Int) ≤ s5.1 then (if s5.1 < ((a0.Masses.length : Int).toNat : Int) then (if s5.1.toNat < s5.2.1.length then some r11_0 else none) else none) else none)) else none) (fun x11 => (.p ((a0.Alts.length : Int).toNat = y18.2.length) (.p (PureAt Try.prog 53 [(eSl 1 (D.int .i64) a0.Alts), (eSl 1 (D.int .i64) y18.2), (.int .i64 a2)] (.int .i64 x11)) (.p ((0 : Int) ≤ s5.1) (.p (s5.1 < ((a0.Masses.length : Int).toNat : Int)) (.p (s5.1.toNat < s5.2.1.length) (.fin 0))))))) (by intro x11 h; obtain ⟨h1, h⟩ := if_some h; obtain ⟨r11_0, h2, h⟩ := Option.bind_eq_some_iff.1 h; obtain ⟨h3, h⟩ := if_some h; obtain ⟨h4, h⟩ := if_some h; obtain ⟨h5, h⟩ := if_some h; cases h; exact ⟨h1, p53 h2, h3, h4, h5, trivial⟩) (fun x11 _ => (.ret .normal ⟨[(1, (.d (eSl 1 (eSl 1 (D.int .i64)) a1))), (2, (.d (.int .i64 a2))), (3, (.d (.int .i64 a3))), (4, (.ptr 0 0)), (9, (.arr 80 1 (a0.Masses.length : Int).toNat)), (10, (.arr 160 1 (a0.Alts.length : Int).toNat)), (22, (.d (.int .i64 ((a0.Masses.length : Int).toNat : Int)))), (23, (.d (.int .i64 s5.1)))], [(0, (.cells (g25 a0))), (80, (.arr 1 s5.2.1.length (fun k => if k = s5.1.toNat then (.int .i64 x11) else (cF (D.int .i64) s5.2.1) k))), (160, (.arr 1 y18.2.length (cF (D.int .i64) y18.2)))], [], 1296⟩ (s5.2.1.set s5.1.toNat x11) ⟨rfl, (weak_of [(0, 0), (80, 80), (160, 160)] [] (by kernel_rfl) ⟨dr, dr, dr, ⟨rfl, rfl⟩, ⟨rfl, rfl, rfl⟩, ⟨rfl, rfl, rfl⟩, dr, dr⟩ ⟨⟨_, _, rfl, rfl, ⟨dr, dr, dr, dr, dr, dr, dr, dr, dr, dr, dr, dr, dr, dr, dr, trivial⟩⟩, ⟨_, _, rfl, rfl, ⟨rfl, (de_set dr)⟩⟩, ⟨_, _, rfl, rfl, ⟨rfl, dr⟩⟩⟩)⟩)))
theorem j50_19 (V : Env) (a0 : T25) (a1 : List (List Int)) (a2 a3 : Int) (s5 : Int × (List Int) × (List Int)) (y18 : Int × (List Int)) : Judge Try.prog V 56 (sub (body Try.f50) [1, 1, 1, 0, 1, 0, 0, 1, 1, 0, 0, 1, 1]) (s50_14 a0 a1 a2 a3 s5 y18) (m50_19 a0 a1 a2 a3 s5 y18) (W50_19 a0 a1 a2 a3 s5 y18) :=
  Judge.seg (tms := [(11, ⟨Int, fun x => [(48, (.int .i64 x))]⟩)]) rfl [1, 2, 3, 4, 9, 10, 22, 23] [0, 80, 160] (t := t50_19 a0 a1 a2 a3 s5 y18) (by kernel_rfl) (fun K => by kernel_rfl)
noncomputable def s50_20 (a0 : T25) (a1 : List (List Int)) (a2 a3 : Int) (s5 : Int × (List Int) × (List Int)) (y : (Int × (List Int)) × ((List Int))) : St := ⟨[(1, (.d (eSl 1 (eSl 1 (D.int .i64)) a1))), (2, (.d (.int .i64 a2))), (3, (.d (.int .i64 a3))), (4, (.ptr 0 0)), (9, (.arr 80 1 (a0.Masses.length : Int).toNat)), (10, (.arr 160 1 (a0.Alts.length : Int).toNat)), (22, (.d (.int .i64 ((a0.Masses.length : Int).toNat : Int)))), (23, (.d (.int .i64 s5.1)))], [(0, (.cells (g25 a0))), (80, (.arr 1 y.2.length (cF (D.int .i64) y.2))), (160, (.arr 1 y.1.2.length (cF (D.int .i64) y.1.2)))], [], 1296⟩
noncomputable def m50_21 (a0 : T25) (a1 : List (List Int)) (a2 a3 : Int) (s5 : Int × (List Int) × (List Int)) : Option (((Int × (List Int)) × ((List Int)))) := (m50_17 a0 a1 a2 a3 s5).bind (fun yy => match yy with | y18 => (m50_19 a0 a1 a2 a3 s5 y18).map (fun z => match z with | z => (y18, z) : ((List Int)) → ((Int × (List Int)) × ((List Int)))) : (Int × (List Int)) → Option (((Int × (List Int)) × ((List Int)))))
noncomputable def W50_21 (a0 : T25) (a1 : List (List Int)) (a2 a3 : Int) (s5 : Int × (List Int) × (List Int)) : (((Int × (List Int)) × ((List Int)))) → Way := fun y => go (s50_20 a0 a1 a2 a3 s5 y)
theorem j50_21 (V : Env) (a0 : T25) (a1 : List (List Int)) (a2 a3 : Int) (s5 : Int × (List Int) × (List Int)) : Judge Try.prog V 56 (sub (body Try.f50) [1, 1, 1, 0, 1, 0, 0, 1, 1, 0, 0, 1]) (s50_9_0 a0 a1 a2 a3 s5 ()) (m50_21 a0 a1 a2 a3 s5) (W50_21 a0 a1 a2 a3 s5) := 
  Judge.seqX (a := (sub (body Try.f50) [1, 1, 1, 0, 1, 0, 0, 1, 1, 0, 0, 1, 0])) (b := (sub (body Try.f50) [1, 1, 1, 0, 1, 0, 0, 1, 1, 0, 0, 1, 1])) (m2 := (fun yy => match yy with | y18 => (m50_19 a0 a1 a2 a3 s5 y18).map (fun z => match z with | z => (y18, z) : ((List Int)) → ((Int × (List Int)) × ((List Int)))) : (Int × (List Int)) → Option (((Int × (List Int)) × ((List Int)))))) (by kernel_rfl) rfl (j50_17 V a0 a1 a2 a3 s5) (fun yy => match yy with | y18 => .inl ⟨rfl, _, fun _ h => h, Judge.map (fun z => match z with | z => (y18, z) : ((List Int)) → ((Int × (List Int)) × ((List Int)))) rfl (j50_19 V a0 a1 a2 a3 s5 y18) (fun z => match z with | z => ⟨rfl, fun _ h => h⟩)⟩)
noncomputable def m50_22 (a0 : T25) (a1 : List (List Int)) (a2 a3 : Int) (s5 : Int × (List Int) × (List Int)) : Option (((Int × (List Int)) × ((List Int)))) := (m50_9 a0 a1 a2 a3 s5).bind (fun yy => match yy with | _ => m50_21 a0 a1 a2 a3 s5  : (Unit) → Option (((Int × (List Int)) × ((List Int)))))
noncomputable def W50_22 (a0 : T25) (a1 : List (List Int)) (a2 a3 : Int) (s5 : Int × (List Int) × (List Int)) : (((Int × (List Int)) × ((List Int)))) → Way := fun y => go (s50_20 a0 a1 a2 a3 s5 y)
theorem j50_22 (V : Env) (a0 : T25) (a1 : List (List Int)) (a2 a3 : Int) (s5 : Int × (List Int) × (List Int)) : Judge Try.prog V 56 (sub (body Try.f50) [1, 1, 1, 0, 1, 0, 0, 1, 1, 0, 0]) (s50_8_0 a0 a1 a2 a3 s5 ()) (m50_22 a0 a1 a2 a3 s5) (W50_22 a0 a1 a2 a3 s5) := 
  Judge.seqX (a := (sub (body Try.f50) [1, 1, 1, 0, 1, 0, 0, 1, 1, 0, 0, 0])) (b := (sub (body Try.f50) [1, 1, 1, 0, 1, 0, 0, 1, 1, 0, 0, 1])) (m2 := (fun yy => match yy with | _ => m50_21 a0 a1 a2 a3 s5  : (Unit) → Option (((Int × (List Int)) × ((List Int)))))) (by kernel_rfl) rfl (j50_9 V a0 a1 a2 a3 s5) (fun yy => match yy with | _ => .inl ⟨rfl, _, fun _ h => h, j50_21 V a0 a1 a2 a3 s5 ⟩)
noncomputable def m50_23 (a0 : T25) (a1 : List (List Int)) (a2 a3 : Int) (s5 : Int × (List Int) × (List Int)) : Option (((Int × (List Int)) × ((List Int)))) := m50_22 a0 a1 a2 a3 s5
noncomputable def W50_23 (a0 : T25) (a1 : List (List Int)) (a2 a3 : Int) (s5 : Int × (List Int) × (List Int)) : (((Int × (List Int)) × ((List Int)))) → Way := fun y => go (s50_20 a0 a1 a2 a3 s5 y)
theorem j50_23 (V : Env) (a0 : T25) (a1 : List (List Int)) (a2 a3 : Int) (s5 : Int × (List Int) × (List Int)) : Judge Try.prog V 56 (sub (body Try.f50) [1, 1, 1, 0, 1, 0, 0, 1, 1, 0]) (s50_8_0 a0 a1 a2 a3 s5 ()) (m50_23 a0 a1 a2 a3 s5) (W50_23 a0 a1 a2 a3 s5) := Judge.blockS (id := 1) (c := (sub (body Try.f50) [1, 1, 1, 0, 1, 0, 0, 1, 1, 0, 0])) (by kernel_rfl) (j50_22 V a0 a1 a2 a3 s5) (by intro y; rfl)
noncomputable def s50_25_0 (a0 : T25) (a1 : List (List Int)) (a2 a3 : Int) (s5 : Int × (List Int) × (List Int)) (y24 : (Int × (List Int)) × ((List Int))) (y : Unit) : St := ⟨[(1, (.d (eSl 1 (eSl 1 (D.int .i64)) a1))), (2, (.d (.int .i64 a2))), (3, (.d (.int .i64 a3))), (4, (.ptr 0 0)), (9, (.arr 80 1 (a0.Masses.length : Int).toNat)), (10, (.arr 160 1 (a0.Alts.length : Int).toNat)), (22, (.d (.int .i64 ((a0.Masses.length : Int).toNat : Int)))), (23, (.d (.int .i64 (IntKind.wrap .i64 (s5.1 + (1 : Int))))))], [(0, (.cells (g25 a0))), (80, (.arr 1 y24.2.length (cF (D.int .i64) y24.2))), (160, (.arr 1 y24.1.2.length (cF (D.int .i64) y24.1.2)))], [], 1328⟩
noncomputable def m50_25 (a0 : T25) (a1 : List (List Int)) (a2 a3 : Int) (s5 : Int × (List Int) × (List Int)) (y24 : (Int × (List Int)) × ((List Int))) : Option ((Unit)) :=
  some ()
noncomputable def W50_25 (a0 : T25) (a1 : List (List Int)) (a2 a3 : Int) (s5 : Int × (List Int) × (List Int)) (y24 : (Int × (List Int)) × ((List Int))) : ((Unit)) → Way := fun y => go (s50_25_0 a0 a1 a2 a3 s5 y24 y)
noncomputable def t50_25 (a0 : T25) (a1 : List (List Int)) (a2 a3 : Int) (s5 : Int × (List Int) × (List Int)) (y24 : (Int × (List Int)) × ((List Int))) : Tr (W50_25 a0 a1 a2 a3 s5 y24) := (.ret .normal (s50_25_0 a0 a1 a2 a3 s5 y24 ()) () ⟨rfl, Weak.refl _⟩)
theorem j50_25 (V : Env) (a0 : T25) (a1 : List (List Int)) (a2 a3 : Int) (s5 : Int × (List Int) × (List Int)) (y24 : (Int × (List Int)) × ((List Int))) : Judge Try.prog V 56 (sub (body Try.f50) [1, 1, 1, 0, 1, 0, 0, 1, 1, 1]) (s50_20 a0 a1 a2 a3 s5 y24) (m50_25 a0 a1 a2 a3 s5 y24) (W50_25 a0 a1 a2 a3 s5 y24) :=
  Judge.seg (tms := []) rfl [1, 2, 3, 4, 9, 10, 22, 23] [0, 80, 160] (t := t50_25 a0 a1 a2 a3 s5 y24) (by kernel_rfl) (fun K => by kernel_rfl)
noncomputable def s50_26 (a0 : T25) (a1 : List (List Int)) (a2 a3 : Int) (s5 : Int × (List Int) × (List Int)) (y : (Int × (List Int)) × ((List Int))) : St := ⟨[(1, (.d (eSl 1 (eSl 1 (D.int .i64)) a1))), (2, (.d (.int .i64 a2))), (3, (.d (.int .i64 a3))), (4, (.ptr 0 0)), (9, (.arr 80 1 (a0.Masses.length : Int).toNat)), (10, (.arr 160 1 (a0.Alts.length : Int).toNat)), (22, (.d (.int .i64 ((a0.Masses.length : Int).toNat : Int)))), (23, (.d (.int .i64 (IntKind.wrap .i64 (s5.1 + (1 : Int))))))], [(0, (.cells (g25 a0))), (80, (.arr 1 y.2.length (cF (D.int .i64) y.2))), (160, (.arr 1 y.1.2.length (cF (D.int .i64) y.1.2)))], [], 1328⟩
noncomputable def m50_27 (a0 : T25) (a1 : List (List Int)) (a2 a3 : Int) (s5 : Int × (List Int) × (List Int)) : Option (((Int × (List Int)) × ((List Int)))) := (m50_23 a0 a1 a2 a3 s5).bind (fun yy => match yy with | y24 => (m50_25 a0 a1 a2 a3 s5 y24).map (fun z => match z with | z => y24 : (Unit) → ((Int × (List Int)) × ((List Int)))) : ((Int × (List Int)) × ((List Int))) → Option (((Int × (List Int)) × ((List Int)))))
noncomputable def W50_27 (a0 : T25) (a1 : List (List Int)) (a2 a3 : Int) (s5 : Int × (List Int) × (List Int)) : (((Int × (List Int)) × ((List Int)))) → Way := fun y => go (s50_26 a0 a1 a2 a3 s5 y)
theorem j50_27 (V : Env) (a0 : T25) (a1 : List (List Int)) (a2 a3 : Int) (s5 : Int × (List Int) × (List Int)) : Judge Try.prog V 56 (sub (body Try.f50) [1, 1, 1, 0, 1, 0, 0, 1, 1]) (s50_8_0 a0 a1 a2 a3 s5 ()) (m50_27 a0 a1 a2 a3 s5) (W50_27 a0 a1 a2 a3 s5) := 
  Judge.seqX (a := (sub (body Try.f50) [1, 1, 1, 0, 1, 0, 0, 1, 1, 0])) (b := (sub (body Try.f50) [1, 1, 1, 0, 1, 0, 0, 1, 1, 1])) (m2 := (fun yy => match yy with | y24 => (m50_25 a0 a1 a2 a3 s5 y24).map (fun z => match z with | z => y24 : (Unit) → ((Int × (List Int)) × ((List Int)))) : ((Int × (List Int)) × ((List Int))) → Option (((Int × (List Int)) × ((List Int)))))) (by kernel_rfl) rfl (j50_23 V a0 a1 a2 a3 s5) (fun yy => match yy with | y24 => .inl ⟨rfl, _, fun _ h => h, Judge.map (fun z => match z with | z => y24 : (Unit) → ((Int × (List Int)) × ((List Int)))) rfl (j50_25 V a0 a1 a2 a3 s5 y24) (fun z => match z with | z => ⟨rfl, fun _ h => h⟩)⟩)
noncomputable def m50_28 (a0 : T25) (a1 : List (List Int)) (a2 a3 : Int) (s5 : Int × (List Int) × (List Int)) : Option (((Int × (List Int)) × ((List Int))) ⊕ (Unit)) := (m50_8 a0 a1 a2 a3 s5).bind (fun yy => match yy with | .inl _ => (m50_27 a0 a1 a2 a3 s5 ).map (fun z => match z with | z => .inl z : ((Int × (List Int)) × ((List Int))) → ((Int × (List Int)) × ((List Int))) ⊕ (Unit)) | .inr z => some (.inr z) : (Unit) ⊕ (Unit) → Option (((Int × (List Int)) × ((List Int))) ⊕ (Unit)))
noncomputable def W50_28 (a0 : T25) (a1 : List (List Int)) (a2 a3 : Int) (s5 : Int × (List Int) × (List Int)) : (((Int × (List Int)) × ((List Int))) ⊕ (Unit)) → Way := fun y => match y with | .inl y => go (s50_26 a0 a1 a2 a3 s5 y) | .inr y => quit 0 (s50_8_1 a0 a1 a2 a3 s5 y)
theorem j50_28 (V : Env) (a0 : T25) (a1 : List (List Int)) (a2 a3 : Int) (s5 : Int × (List Int) × (List Int)) : Judge Try.prog V 56 (sub (body Try.f50) [1, 1, 1, 0, 1, 0, 0, 1]) (s50_7_0 a0 a1 a2 a3 s5 ()) (m50_28 a0 a1 a2 a3 s5) (W50_28 a0 a1 a2 a3 s5) := 
  Judge.seqX (a := (sub (body Try.f50) [1, 1, 1, 0, 1, 0, 0, 1, 0])) (b := (sub (body Try.f50) [1, 1, 1, 0, 1, 0, 0, 1, 1])) (m2 := (fun yy => match yy with | .inl _ => (m50_27 a0 a1 a2 a3 s5 ).map (fun z => match z with | z => .inl z : ((Int × (List Int)) × ((List Int))) → ((Int × (List Int)) × ((List Int))) ⊕ (Unit)) | .inr z => some (.inr z) : (Unit) ⊕ (Unit) → Option (((Int × (List Int)) × ((List Int))) ⊕ (Unit)))) (by kernel_rfl) rfl (j50_8 V a0 a1 a2 a3 s5) (fun yy => match yy with | .inl _ => .inl ⟨rfl, _, fun _ h => h, Judge.map (fun z => match z with | z => .inl z : ((Int × (List Int)) × ((List Int))) → ((Int × (List Int)) × ((List Int))) ⊕ (Unit)) rfl (j50_27 V a0 a1 a2 a3 s5 ) (fun z => match z with | z => ⟨rfl, fun _ h => h⟩)⟩ | .inr z => .inr ⟨(by intro h; cases h), .inr z, rfl, rfl, fun _ h => h⟩)
noncomputable def m50_29 (a0 : T25) (a1 : List (List Int)) (a2 a3 : Int) (s5 : Int × (List Int) × (List Int)) : Option (((Int × (List Int)) × ((List Int))) ⊕ (Unit)) := (m50_7 a0 a1 a2 a3 s5).bind (fun yy => match yy with | _ => m50_28 a0 a1 a2 a3 s5  : (Unit) → Option (((Int × (List Int)) × ((List Int))) ⊕ (Unit)))
noncomputable def W50_29 (a0 : T25) (a1 : List (List Int)) (a2 a3 : Int) (s5 : Int × (List Int) × (List Int)) : (((Int × (List Int)) × ((List Int))) ⊕ (Unit)) → Way := fun y => match y with | .inl y => go (s50_26 a0 a1 a2 a3 s5 y) | .inr y => quit 0 (s50_8_1 a0 a1 a2 a3 s5 y)
theorem j50_29 (V : Env) (a0 : T25) (a1 : List (List Int)) (a2 a3 : Int) (s5 : Int × (List Int) × (List Int)) : Judge Try.prog V 56 (sub (body Try.f50) [1, 1, 1, 0, 1, 0, 0]) (h50_6 a0 a1 a2 a3 s5) (m50_29 a0 a1 a2 a3 s5) (W50_29 a0 a1 a2 a3 s5) := 
  Judge.seqX (a := (sub (body Try.f50) [1, 1, 1, 0, 1, 0, 0, 0])) (b := (sub (body Try.f50) [1, 1, 1, 0, 1, 0, 0, 1])) (m2 := (fun yy => match yy with | _ => m50_28 a0 a1 a2 a3 s5  : (Unit) → Option (((Int × (List Int)) × ((List Int))) ⊕ (Unit)))) (by kernel_rfl) rfl (j50_7 V a0 a1 a2 a3 s5) (fun yy => match yy with | _ => .inl ⟨rfl, _, fun _ h => h, j50_28 V a0 a1 a2 a3 s5 ⟩)
noncomputable def s50_30 (a0 : T25) (a1 : List (List Int)) (a2 a3 : Int) (y : Int × (List Int) × (List Int)) : St := ⟨[(3, (.d (.int .i64 a3))), (4, (.ptr 0 0)), (9, (.arr 80 1 (a0.Masses.length : Int).toNat))], [(0, (.cells (g25 a0))), (80, (.arr 1 y.2.1.length (cF (D.int .i64) y.2.1)))], [], 800⟩
noncomputable def b50_31 (a0 : T25) (a1 : List (List Int)) (a2 a3 : Int) (s5 : Int × (List Int) × (List Int)) : Option ((Int × (List Int) × (List Int)) ⊕ ((Int × (List Int) × (List Int)))) := (m50_29 a0 a1 a2 a3 s5).map (fun z => match z with | .inl z => .inl ((IntKind.wrap .i64 (s5.1 + (1 : Int))), z.2, z.1.2) | .inr z => .inr s5 : ((Int × (List Int)) × ((List Int))) ⊕ (Unit) → (Int × (List Int) × (List Int)) ⊕ ((Int × (List Int) × (List Int))))
noncomputable def m50_31 (a0 : T25) (a1 : List (List Int)) (a2 a3 : Int) : Option ((Int × (List Int) × (List Int))) := loopO (b50_31 a0 a1 a2 a3) ((0 : Int), (List.replicate (a0.Masses.length : Int).toNat (0 : Int)), (List.replicate (a0.Alts.length : Int).toNat (0 : Int)))
noncomputable def W50_31 (a0 : T25) (a1 : List (List Int)) (a2 a3 : Int) : ((Int × (List Int) × (List Int))) → Way := fun y => quit 0 (s50_30 a0 a1 a2 a3 y)
theorem j50_31 (V : Env) (a0 : T25) (a1 : List (List Int)) (a2 a3 : Int) : Judge Try.prog V 56 (sub (body Try.f50) [1, 1, 1, 0, 1, 0]) (s50_4_0 a0 a1 a2 a3 ()) (m50_31 a0 a1 a2 a3) (W50_31 a0 a1 a2 a3) :=
  Judge.loopS (c := (sub (body Try.f50) [1, 1, 1, 0, 1, 0, 0])) (by kernel_rfl) (h50_6 a0 a1 a2 a3) (b50_31 a0 a1 a2 a3) ((0 : Int), (List.replicate (a0.Masses.length : Int).toNat (0 : Int)), (List.replicate (a0.Alts.length : Int).toNat (0 : Int))) rfl (weak_of [(0, 0), (80, 80), (160, 160)] [] (by kernel_rfl) ⟨dr, dr, dr, ⟨rfl, rfl⟩, ⟨rfl, rfl, rfl⟩, ⟨rfl, rfl, rfl⟩, dr, dr⟩ ⟨⟨_, _, rfl, rfl, ⟨dr, dr, dr, dr, dr, dr, dr, dr, dr, dr, dr, dr, dr, dr, dr, trivial⟩⟩, ⟨_, _, rfl, rfl, ⟨rfl, dr⟩⟩, ⟨_, _, rfl, rfl, ⟨rfl, dr⟩⟩⟩) (by intro y; exact fun h => by cases h)
    (fun s5 => Judge.map (fun z => match z with | .inl z => .inl ((IntKind.wrap .i64 (s5.1 + (1 : Int))), z.2, z.1.2) | .inr z => .inr s5 : ((Int × (List Int)) × ((List Int))) ⊕ (Unit) → (Int × (List Int) × (List Int)) ⊕ ((Int × (List Int) × (List Int)))) rfl (j50_29 V a0 a1 a2 a3 s5) (fun z => match z with | .inl z => ⟨rfl, fun _ h => h.trans (weak_of [(0, 0), (80, 80), (160, 160)] [] (by kernel_rfl) ⟨dr, dr, dr, ⟨rfl, rfl⟩, ⟨rfl, rfl, rfl⟩, ⟨rfl, rfl, rfl⟩, dr, dr⟩ ⟨⟨_, _, rfl, rfl, ⟨dr, dr, dr, dr, dr, dr, dr, dr, dr, dr, dr, dr, dr, dr, dr, trivial⟩⟩, ⟨_, _, rfl, rfl, ⟨rfl, dr⟩⟩, ⟨_, _, rfl, rfl, ⟨rfl, dr⟩⟩⟩)⟩ | .inr z => ⟨rfl, fun _ h => h⟩))
noncomputable def m50_32 (a0 : T25) (a1 : List (List Int)) (a2 a3 : Int) : Option ((Int × (List Int) × (List Int))) := m50_31 a0 a1 a2 a3
noncomputable def W50_32 (a0 : T25) (a1 : List (List Int)) (a2 a3 : Int) : ((Int × (List Int) × (List Int))) → Way := fun y => go (s50_30 a0 a1 a2 a3 y)
theorem j50_32 (V : Env) (a0 : T25) (a1 : List (List Int)) (a2 a3 : Int) : Judge Try.prog V 56 (sub (body Try.f50) [1, 1, 1, 0, 1]) (s50_4_0 a0 a1 a2 a3 ()) (m50_32 a0 a1 a2 a3) (W50_32 a0 a1 a2 a3) := Judge.blockS (id := 0) (c := (sub (body Try.f50) [1, 1, 1, 0, 1, 0])) (by kernel_rfl) (j50_31 V a0 a1 a2 a3) (by intro y; rfl)
noncomputable def m50_33 (a0 : T25) (a1 : List (List Int)) (a2 a3 : Int) : Option ((Int × (List Int) × (List Int))) := (m50_4 a0 a1 a2 a3).bind (fun yy => match yy with | _ => m50_32 a0 a1 a2 a3  : (Unit) → Option ((Int × (List Int) × (List Int))))
noncomputable def W50_33 (a0 : T25) (a1 : List (List Int)) (a2 a3 : Int) : ((Int × (List Int) × (List Int))) → Way := fun y => go (s50_30 a0 a1 a2 a3 y)
theorem j50_33 (V : Env) (a0 : T25) (a1 : List (List Int)) (a2 a3 : Int) : Judge Try.prog V 56 (sub (body Try.f50) [1, 1, 1, 0]) (s50_3_0 a0 a1 a2 a3 ()) (m50_33 a0 a1 a2 a3) (W50_33 a0 a1 a2 a3) := 
  Judge.seqX (a := (sub (body Try.f50) [1, 1, 1, 0, 0])) (b := (sub (body Try.f50) [1, 1, 1, 0, 1])) (m2 := (fun yy => match yy with | _ => m50_32 a0 a1 a2 a3  : (Unit) → Option ((Int × (List Int) × (List Int))))) (by kernel_rfl) rfl (j50_4 V a0 a1 a2 a3) (fun yy => match yy with | _ => .inl ⟨rfl, _, fun _ h => h, j50_32 V a0 a1 a2 a3 ⟩)
noncomputable def m50_35 (a0 : T25) (a1 : List (List Int)) (a2 a3 : Int) (y34 : Int × (List Int) × (List Int)) : Option ((Int)) :=
  (if (a0.Masses.length : Int).toNat = y34.2.1.length then ((m53 a0.Masses y34.2.1 a3).bind fun r13_0 => some r13_0) else none).bind fun x13 =>
    some x13
noncomputable def W50_35 (a0 : T25) (a1 : List (List Int)) (a2 a3 : Int) (y34 : Int × (List Int) × (List Int)) : ((Int)) → Way := fun y => fin Try.prog Try.f50 (.int .i64 y)
noncomputable def t50_35 (a0 : T25) (a1 : List (List Int)) (a2 a3 : Int) (y34 : Int × (List Int) × (List Int)) : Tr (W50_35 a0 a1 a2 a3 y34) := (.exi (Int) (if (a0.Masses.length : Int).toNat = y34.2.1.length then ((m53 a0.Masses y34.2.1 a3).bind fun r13_0 => some r13_0) else none) (fun x13 => (.p ((a0.Masses.length : Int).toNat = y34.2.1.length) (.p (PureAt Try.prog 53 [(eSl 1 (D.int .i64) a0.Masses), (eSl 1 (D.int .i64) y34.2.1), (.int .i64 a3)] (.int .i64 x13)) (.fin 0)))) (by intro x13 h; obtain ⟨h1, h⟩ := if_some h; obtain ⟨r13_0, h2, h⟩ := Option.bind_eq_some_iff.1 h; cases h; exact ⟨h1, p53 h2, trivial⟩) (fun x13 _ => (.ret .ret ⟨[(8, (.d (.int .i64 x13)))], [], [], 896⟩ x13 ⟨rfl, dr⟩)))
theorem j50_35 (V : Env) (a0 : T25) (a1 : List (List Int)) (a2 a3 : Int) (y34 : Int × (List Int) × (List Int)) : Judge Try.prog V 56 (sub (body Try.f50) [1, 1, 1, 1]) (s50_30 a0 a1 a2 a3 y34) (m50_35 a0 a1 a2 a3 y34) (W50_35 a0 a1 a2 a3 y34) :=
  Judge.seg (tms := [(13, ⟨Int, fun x => [(55, (.int .i64 x))]⟩)]) rfl [8] [] (t := t50_35 a0 a1 a2 a3 y34) (by kernel_rfl) (fun K => by kernel_rfl)
noncomputable def m50_36 (a0 : T25) (a1 : List (List Int)) (a2 a3 : Int) : Option ((Int)) := (m50_33 a0 a1 a2 a3).bind (fun yy => match yy with | y34 => m50_35 a0 a1 a2 a3 y34 : (Int × (List Int) × (List Int)) → Option ((Int)))
noncomputable def W50_36 (a0 : T25) (a1 : List (List Int)) (a2 a3 : Int) : ((Int)) → Way := fun y => fin Try.prog Try.f50 (.int .i64 y)
theorem j50_36 (V : Env) (a0 : T25) (a1 : List (List Int)) (a2 a3 : Int) : Judge Try.prog V 56 (sub (body Try.f50) [1, 1, 1]) (s50_3_0 a0 a1 a2 a3 ()) (m50_36 a0 a1 a2 a3) (W50_36 a0 a1 a2 a3) := 
  Judge.seqX (a := (sub (body Try.f50) [1, 1, 1, 0])) (b := (sub (body Try.f50) [1, 1, 1, 1])) (m2 := (fun yy => match yy with | y34 => m50_35 a0 a1 a2 a3 y34 : (Int × (List Int) × (List Int)) → Option ((Int)))) (by kernel_rfl) rfl (j50_33 V a0 a1 a2 a3) (fun yy => match yy with | y34 => .inl ⟨rfl, _, fun _ h => h, j50_35 V a0 a1 a2 a3 y34⟩)
noncomputable def m50_37 (a0 : T25) (a1 : List (List Int)) (a2 a3 : Int) : Option ((Int)) := (m50_3 a0 a1 a2 a3).bind (fun yy => match yy with | _ => m50_36 a0 a1 a2 a3  : (Unit) → Option ((Int)))
noncomputable def W50_37 (a0 : T25) (a1 : List (List Int)) (a2 a3 : Int) : ((Int)) → Way := fun y => fin Try.prog Try.f50 (.int .i64 y)
theorem j50_37 (V : Env) (a0 : T25) (a1 : List (List Int)) (a2 a3 : Int) : Judge Try.prog V 56 (sub (body Try.f50) [1, 1]) (s50_2_0 a0 a1 a2 a3 ()) (m50_37 a0 a1 a2 a3) (W50_37 a0 a1 a2 a3) := 
  Judge.seqX (a := (sub (body Try.f50) [1, 1, 0])) (b := (sub (body Try.f50) [1, 1, 1])) (m2 := (fun yy => match yy with | _ => m50_36 a0 a1 a2 a3  : (Unit) → Option ((Int)))) (by kernel_rfl) rfl (j50_3 V a0 a1 a2 a3) (fun yy => match yy with | _ => .inl ⟨rfl, _, fun _ h => h, j50_36 V a0 a1 a2 a3 ⟩)
noncomputable def m50_38 (a0 : T25) (a1 : List (List Int)) (a2 a3 : Int) : Option ((Int)) := (m50_2 a0 a1 a2 a3).bind (fun yy => match yy with | _ => m50_37 a0 a1 a2 a3  : (Unit) → Option ((Int)))
noncomputable def W50_38 (a0 : T25) (a1 : List (List Int)) (a2 a3 : Int) : ((Int)) → Way := fun y => fin Try.prog Try.f50 (.int .i64 y)
theorem j50_38 (V : Env) (a0 : T25) (a1 : List (List Int)) (a2 a3 : Int) : Judge Try.prog V 56 (sub (body Try.f50) [1]) (s50_1_0 a0 a1 a2 a3 ()) (m50_38 a0 a1 a2 a3) (W50_38 a0 a1 a2 a3) := 
  Judge.seqX (a := (sub (body Try.f50) [1, 0])) (b := (sub (body Try.f50) [1, 1])) (m2 := (fun yy => match yy with | _ => m50_37 a0 a1 a2 a3  : (Unit) → Option ((Int)))) (by kernel_rfl) rfl (j50_2 V a0 a1 a2 a3) (fun yy => match yy with | _ => .inl ⟨rfl, _, fun _ h => h, j50_37 V a0 a1 a2 a3 ⟩)
noncomputable def m50_39 (a0 : T25) (a1 : List (List Int)) (a2 a3 : Int) : Option ((Int)) := (m50_1 a0 a1 a2 a3).bind (fun yy => match yy with | _ => m50_38 a0 a1 a2 a3  : (Unit) → Option ((Int)))
noncomputable def W50_39 (a0 : T25) (a1 : List (List Int)) (a2 a3 : Int) : ((Int)) → Way := fun y => fin Try.prog Try.f50 (.int .i64 y)
theorem j50_39 (V : Env) (a0 : T25) (a1 : List (List Int)) (a2 a3 : Int) : Judge Try.prog V 56 (sub (body Try.f50) []) ⟨argFr 0 [(e25 a0), (eSl 1 (eSl 1 (D.int .i64)) a1), (.int .i64 a2), (.int .i64 a3)], [], [], 0⟩ (m50_39 a0 a1 a2 a3) (W50_39 a0 a1 a2 a3) := 
  Judge.seqX (a := (sub (body Try.f50) [0])) (b := (sub (body Try.f50) [1])) (m2 := (fun yy => match yy with | _ => m50_38 a0 a1 a2 a3  : (Unit) → Option ((Int)))) (by kernel_rfl) rfl (j50_1 V a0 a1 a2 a3) (fun yy => match yy with | _ => .inl ⟨rfl, _, fun _ h => h, j50_38 V a0 a1 a2 a3 ⟩)
noncomputable def m50 (a0 : T25) (a1 : List (List Int)) (a2 a3 : Int) : Option (Int) := m50_39 a0 a1 a2 a3
theorem p50 {a0 : T25} {a1 : List (List Int)} {a2 : Int} {a3 : Int} {r : Int} (h : m50 a0 a1 a2 a3 = some r) : PureAt Try.prog 50 [(e25 a0), (eSl 1 (eSl 1 (D.int .i64)) a1), (.int .i64 a2), (.int .i64 a3)] (.int .i64 r) :=
  pure_judge (R := Int) (en := fun (r : Int) => (.int .i64 r)) (c := (sub (body Try.f50) [])) (ds := [(e25 a0), (eSl 1 (eSl 1 (D.int .i64)) a1), (.int .i64 a2), (.int .i64 a3)]) (m := m50_39 a0 a1 a2 a3) Try.func50 (by kernel_rfl) (by decide) (Nat.le_of_ble_eq_true rfl) (fun V => j50_39 V a0 a1 a2 a3) h
/- flightdeck/performance.Climb -/
noncomputable def m18_1 (a0 : T25) (a1 a2 : Int) : Option ((Int × Int)) :=
  ((m49 a0 a1 a2).bind fun r1_0 => some r1_0).bind fun x1 =>
    if (x1 != (0 : Int)) = true then
      some ((0 : Int), x1)
    else
      ((m50 a0 a0.Climb a1 a2).bind fun r4_0 => some r4_0).bind fun x4 =>
        some (x4, (0 : Int))
noncomputable def W18_1 (a0 : T25) (a1 a2 : Int) : ((Int × Int)) → Way := fun y => fin Try.prog Try.f18 (.tup [(.int .i64 y.1), (.int .i64 y.2)])
noncomputable def t18_1 (a0 : T25) (a1 a2 : Int) : Tr (W18_1 a0 a1 a2) := (.exi (Int) ((m49 a0 a1 a2).bind fun r1_0 => some r1_0) (fun x1 => (.p (PureAt Try.prog 49 [(e25 a0), (.int .i64 a1), (.int .i64 a2)] (.int .i64 x1)) (.fin 0))) (by intro x1 h; obtain ⟨r1_0, h1, h⟩ := Option.bind_eq_some_iff.1 h; cases h; exact ⟨p49 h1, trivial⟩) (fun x1 _ => (.ite (x1 != (0 : Int)) (.ret .ret ⟨[(6, (.d (.int .i64 (0 : Int)))), (7, (.d (.int .i64 x1)))], [], [], 208⟩ ((0 : Int), x1) ⟨rfl, ⟨dr, dr, trivial⟩⟩) (.exi (Int) ((m50 a0 a0.Climb a1 a2).bind fun r4_0 => some r4_0) (fun x4 => (.p (PureAt Try.prog 50 [(e25 a0), (eSl 1 (eSl 1 (D.int .i64)) a0.Climb), (.int .i64 a1), (.int .i64 a2)] (.int .i64 x4)) (.fin 0))) (by intro x4 h; obtain ⟨r4_0, h1, h⟩ := Option.bind_eq_some_iff.1 h; cases h; exact ⟨p50 h1, trivial⟩) (fun x4 _ => (.ret .ret ⟨[(6, (.d (.int .i64 x4))), (7, (.d (.int .i64 (0 : Int))))], [], [], 288⟩ (x4, (0 : Int)) ⟨rfl, ⟨dr, dr, trivial⟩⟩))))))
theorem j18_1 (V : Env) (a0 : T25) (a1 a2 : Int) : Judge Try.prog V 22 (sub (body Try.f18) []) ⟨argFr 0 [(e25 a0), (.int .i64 a1), (.int .i64 a2)], [], [], 0⟩ (m18_1 a0 a1 a2) (W18_1 a0 a1 a2) :=
  Judge.seg (tms := [(1, ⟨Int, fun x => [(12, (.int .i64 x))]⟩), (4, ⟨Int, fun x => [(21, (.int .i64 x))]⟩)]) rfl [6, 7] [] (t := t18_1 a0 a1 a2) (by kernel_rfl) (fun K => by kernel_rfl)
noncomputable def m18 (a0 : T25) (a1 a2 : Int) : Option (Int × Int) := m18_1 a0 a1 a2
theorem p18 {a0 : T25} {a1 : Int} {a2 : Int} {r : Int × Int} (h : m18 a0 a1 a2 = some r) : PureAt Try.prog 18 [(e25 a0), (.int .i64 a1), (.int .i64 a2)] (.tup [(.int .i64 r.1), (.int .i64 r.2)]) :=
  pure_judge (R := Int × Int) (en := fun (r : Int × Int) => (.tup [(.int .i64 r.1), (.int .i64 r.2)])) (c := (sub (body Try.f18) [])) (ds := [(e25 a0), (.int .i64 a1), (.int .i64 a2)]) (m := m18_1 a0 a1 a2) Try.func18 (by kernel_rfl) (by decide) (Nat.le_of_ble_eq_true rfl) (fun V => j18_1 V a0 a1 a2) h
/- flightdeck/performance.Rise -/
noncomputable def s14_1_0 (a0 : T25) (a1 a2 a3 : Int) (y : Unit) : St := ⟨[(1, (.d (.int .i64 a1))), (2, (.d (.int .i64 a2))), (3, (.d (.int .i64 a3))), (4, (.ptr 0 0))], [(0, (.cells (g25 a0)))], [], 48⟩
noncomputable def m14_1 (a0 : T25) (a1 a2 a3 : Int) : Option ((Unit)) :=
  some ()
noncomputable def W14_1 (a0 : T25) (a1 a2 a3 : Int) : ((Unit)) → Way := fun y => go (s14_1_0 a0 a1 a2 a3 y)
noncomputable def t14_1 (a0 : T25) (a1 a2 a3 : Int) : Tr (W14_1 a0 a1 a2 a3) := (.ret .normal (s14_1_0 a0 a1 a2 a3 ()) () ⟨rfl, Weak.refl _⟩)
theorem j14_1 (V : Env) (a0 : T25) (a1 a2 a3 : Int) : Judge Try.prog V 47 (sub (body Try.f14) [0]) ⟨argFr 0 [(e25 a0), (.int .i64 a1), (.int .i64 a2), (.int .i64 a3)], [], [], 0⟩ (m14_1 a0 a1 a2 a3) (W14_1 a0 a1 a2 a3) :=
  Judge.seg (tms := []) rfl [1, 2, 3, 4] [0] (t := t14_1 a0 a1 a2 a3) (by kernel_rfl) (fun K => by kernel_rfl)
noncomputable def s14_2_0 (a0 : T25) (a1 a2 a3 : Int) (y : Unit) : St := ⟨[(1, (.d (.int .i64 a1))), (2, (.d (.int .i64 a2))), (3, (.d (.int .i64 a3))), (4, (.ptr 0 0))], [(0, (.cells (g25 a0)))], [], 160⟩
noncomputable def m14_2 (a0 : T25) (a1 a2 a3 : Int) : Option ((Unit) ⊕ (Int × Int)) :=
  ((m49 a0 a1 a2).bind fun r1_0 => some r1_0).bind fun x1 =>
    if (x1 != (0 : Int)) = true then
      some (.inr ((0 : Int), x1))
    else
      some (.inl ())
noncomputable def W14_2 (a0 : T25) (a1 a2 a3 : Int) : ((Unit) ⊕ (Int × Int)) → Way := fun y => match y with | .inl y => go (s14_2_0 a0 a1 a2 a3 y) | .inr y => fin Try.prog Try.f14 (.tup [(.int .i64 y.1), (.int .i64 y.2)])
noncomputable def t14_2 (a0 : T25) (a1 a2 a3 : Int) : Tr (W14_2 a0 a1 a2 a3) := (.exi (Int) ((m49 a0 a1 a2).bind fun r1_0 => some r1_0) (fun x1 => (.p (PureAt Try.prog 49 [(e25 a0), (.int .i64 a1), (.int .i64 a2)] (.int .i64 x1)) (.fin 0))) (by intro x1 h; obtain ⟨r1_0, h1, h⟩ := Option.bind_eq_some_iff.1 h; cases h; exact ⟨p49 h1, trivial⟩) (fun x1 _ => (.ite (x1 != (0 : Int)) (.ret .ret ⟨[(1, (.d (.int .i64 a1))), (2, (.d (.int .i64 a2))), (3, (.d (.int .i64 a3))), (4, (.ptr 0 0)), (8, (.d (.int .i64 (0 : Int)))), (9, (.d (.int .i64 x1)))], [(0, (.cells (g25 a0)))], [], 208⟩ (.inr ((0 : Int), x1)) ⟨rfl, ⟨dr, dr, trivial⟩⟩) (.ret .normal ⟨[(1, (.d (.int .i64 a1))), (2, (.d (.int .i64 a2))), (3, (.d (.int .i64 a3))), (4, (.ptr 0 0)), (8, .any), (9, .any)], [(0, (.cells (g25 a0)))], [], 160⟩ (.inl ()) ⟨rfl, (weak_of [(0, 0)] [] (by kernel_rfl) ⟨dr, dr, dr, ⟨rfl, rfl⟩⟩ ⟨_, _, rfl, rfl, ⟨dr, dr, dr, dr, dr, dr, dr, dr, dr, dr, dr, dr, dr, dr, dr, trivial⟩⟩)⟩))))
theorem j14_2 (V : Env) (a0 : T25) (a1 a2 a3 : Int) : Judge Try.prog V 47 (sub (body Try.f14) [1, 0]) (s14_1_0 a0 a1 a2 a3 ()) (m14_2 a0 a1 a2 a3) (W14_2 a0 a1 a2 a3) :=
  Judge.seg (tms := [(1, ⟨Int, fun x => [(15, (.int .i64 x))]⟩)]) rfl [1, 2, 3, 4, 8, 9] [0] (t := t14_2 a0 a1 a2 a3) (by kernel_rfl) (fun K => by kernel_rfl)
noncomputable def s14_3_0 (a0 : T25) (a1 a2 a3 : Int) (y : Unit) : St := ⟨[(1, (.d (.int .i64 a1))), (2, (.d (.int .i64 a2))), (3, (.d (.int .i64 a3))), (4, (.ptr 0 0))], [(0, (.cells (g25 a0)))], [], 208⟩
noncomputable def m14_3 (a0 : T25) (a1 a2 a3 : Int) : Option ((Unit) ⊕ (Int × Int)) :=
  ((m32 a3 (0 : Int) (50000 : Int)).bind fun r4_0 => some r4_0).bind fun x4 =>
    if (!x4) = true then
      some (.inr ((0 : Int), (2 : Int)))
    else
      some (.inl ())
noncomputable def W14_3 (a0 : T25) (a1 a2 a3 : Int) : ((Unit) ⊕ (Int × Int)) → Way := fun y => match y with | .inl y => go (s14_3_0 a0 a1 a2 a3 y) | .inr y => fin Try.prog Try.f14 (.tup [(.int .i64 y.1), (.int .i64 y.2)])
noncomputable def t14_3 (a0 : T25) (a1 a2 a3 : Int) : Tr (W14_3 a0 a1 a2 a3) := (.exi (Bool) ((m32 a3 (0 : Int) (50000 : Int)).bind fun r4_0 => some r4_0) (fun x4 => (.p (PureAt Try.prog 32 [(.int .i64 a3), (.int .i64 (0 : Int)), (.int .i64 (50000 : Int))] (.bool x4)) (.fin 0))) (by intro x4 h; obtain ⟨r4_0, h1, h⟩ := Option.bind_eq_some_iff.1 h; cases h; exact ⟨p32 h1, trivial⟩) (fun x4 _ => (.ite (!x4) (.ret .ret ⟨[(1, (.d (.int .i64 a1))), (2, (.d (.int .i64 a2))), (3, (.d (.int .i64 a3))), (4, (.ptr 0 0)), (8, (.d (.int .i64 (0 : Int)))), (9, (.d (.int .i64 (2 : Int))))], [(0, (.cells (g25 a0)))], [], 240⟩ (.inr ((0 : Int), (2 : Int))) ⟨rfl, ⟨dr, dr, trivial⟩⟩) (.ret .normal ⟨[(1, (.d (.int .i64 a1))), (2, (.d (.int .i64 a2))), (3, (.d (.int .i64 a3))), (4, (.ptr 0 0)), (8, .any), (9, .any)], [(0, (.cells (g25 a0)))], [], 208⟩ (.inl ()) ⟨rfl, (weak_of [(0, 0)] [] (by kernel_rfl) ⟨dr, dr, dr, ⟨rfl, rfl⟩⟩ ⟨_, _, rfl, rfl, ⟨dr, dr, dr, dr, dr, dr, dr, dr, dr, dr, dr, dr, dr, dr, dr, trivial⟩⟩)⟩))))
theorem j14_3 (V : Env) (a0 : T25) (a1 a2 a3 : Int) : Judge Try.prog V 47 (sub (body Try.f14) [1, 1, 0]) (s14_2_0 a0 a1 a2 a3 ()) (m14_3 a0 a1 a2 a3) (W14_3 a0 a1 a2 a3) :=
  Judge.seg (tms := [(4, ⟨Bool, fun x => [(20, (.bool x))]⟩)]) rfl [1, 2, 3, 4, 8, 9] [0] (t := t14_3 a0 a1 a2 a3) (by kernel_rfl) (fun K => by kernel_rfl)
noncomputable def h14_5 (a0 : T25) (a1 a2 a3 : Int) (y : Int × Int) : St := ⟨[(1, (.d (.int .i64 y.1))), (2, (.d (.int .i64 a2))), (3, (.d (.int .i64 y.2))), (4, (.ptr 0 0))], [(0, (.cells (g25 a0)))], [], 640⟩
noncomputable def s14_6_0 (a0 : T25) (a1 a2 a3 : Int) (s4 : Int × Int) (y : Int) : St := ⟨[(1, (.d (.int .i64 y))), (2, (.d (.int .i64 a2))), (3, (.d (.int .i64 (IntKind.wrap .i64 (s4.2 - (1 : Int)))))), (4, (.ptr 0 0))], [(0, (.cells (g25 a0)))], [], 1072⟩
noncomputable def s14_6_1 (a0 : T25) (a1 a2 a3 : Int) (s4 : Int × Int) (y : Unit) : St := ⟨[(1, (.d (.int .i64 s4.1)))], [], [], 912⟩
noncomputable def m14_6 (a0 : T25) (a1 a2 a3 : Int) (s4 : Int × Int) : Option ((Int) ⊕ (Unit)) :=
  if ((decide ((0 : Int) < s4.2)) && (decide (s4.1 < a0.Ceiling))) = true then
    ((m50 a0 a0.Climb s4.1 a2).bind fun r8_0 => some r8_0).bind fun x8 =>
      if (x8 == (0 : Int)) = true then
        some (.inr ())
      else
        some (.inl (if a0.Ceiling < (IntKind.wrap .i64 (s4.1 + x8)) then a0.Ceiling else (IntKind.wrap .i64 (s4.1 + x8))))
  else
    some (.inr ())
noncomputable def W14_6 (a0 : T25) (a1 a2 a3 : Int) (s4 : Int × Int) : ((Int) ⊕ (Unit)) → Way := fun y => match y with | .inl y => go (s14_6_0 a0 a1 a2 a3 s4 y) | .inr y => quit 0 (s14_6_1 a0 a1 a2 a3 s4 y)
noncomputable def t14_6 (a0 : T25) (a1 a2 a3 : Int) (s4 : Int × Int) : Tr (W14_6 a0 a1 a2 a3 s4) := (.ite ((decide ((0 : Int) < s4.2)) && (decide (s4.1 < a0.Ceiling))) (.exi (Int) ((m50 a0 a0.Climb s4.1 a2).bind fun r8_0 => some r8_0) (fun x8 => (.p (PureAt Try.prog 50 [(e25 a0), (eSl 1 (eSl 1 (D.int .i64)) a0.Climb), (.int .i64 s4.1), (.int .i64 a2)] (.int .i64 x8)) (.fin 0))) (by intro x8 h; obtain ⟨r8_0, h1, h⟩ := Option.bind_eq_some_iff.1 h; cases h; exact ⟨p50 h1, trivial⟩) (fun x8 _ => (.ite (x8 == (0 : Int)) (.ret (.exit 0) ⟨[(1, (.d (.int .i64 s4.1))), (2, (.d (.int .i64 a2))), (3, (.d (.int .i64 s4.2))), (4, (.ptr 0 0))], [(0, (.cells (g25 a0)))], [], 912⟩ (.inr ()) ⟨rfl, (weak_of [] [] (by kernel_rfl) dr trivial)⟩) (.ret .normal (s14_6_0 a0 a1 a2 a3 s4 (if a0.Ceiling < (IntKind.wrap .i64 (s4.1 + x8)) then a0.Ceiling else (IntKind.wrap .i64 (s4.1 + x8)))) (.inl (if a0.Ceiling < (IntKind.wrap .i64 (s4.1 + x8)) then a0.Ceiling else (IntKind.wrap .i64 (s4.1 + x8)))) ⟨rfl, Weak.refl _⟩)))) (.ret (.exit 0) ⟨[(1, (.d (.int .i64 s4.1))), (2, (.d (.int .i64 a2))), (3, (.d (.int .i64 s4.2))), (4, (.ptr 0 0))], [(0, (.cells (g25 a0)))], [], 768⟩ (.inr ()) ⟨rfl, (weak_of [] [] (by kernel_rfl) dr trivial)⟩))
theorem j14_6 (V : Env) (a0 : T25) (a1 a2 a3 : Int) (s4 : Int × Int) : Judge Try.prog V 47 (sub (body Try.f14) [1, 1, 1, 0, 0, 0]) (h14_5 a0 a1 a2 a3 s4) (m14_6 a0 a1 a2 a3 s4) (W14_6 a0 a1 a2 a3 s4) :=
  Judge.seg (tms := [(8, ⟨Int, fun x => [(37, (.int .i64 x))]⟩)]) rfl [1, 2, 3, 4] [0] (t := t14_6 a0 a1 a2 a3 s4) (by kernel_rfl) (fun K => by kernel_rfl)
noncomputable def s14_7 (a0 : T25) (a1 a2 a3 : Int) (y : Int × Int) : St := ⟨[(1, (.d (.int .i64 y.1)))], [], [], 912⟩
noncomputable def b14_8 (a0 : T25) (a1 a2 a3 : Int) (s4 : Int × Int) : Option ((Int × Int) ⊕ ((Int × Int))) := (m14_6 a0 a1 a2 a3 s4).map (fun z => match z with | .inl z => .inl (z, (IntKind.wrap .i64 (s4.2 - (1 : Int)))) | .inr z => .inr s4 : (Int) ⊕ (Unit) → (Int × Int) ⊕ ((Int × Int)))
noncomputable def m14_8 (a0 : T25) (a1 a2 a3 : Int) : Option ((Int × Int)) := loopO (b14_8 a0 a1 a2 a3) (a1, a3)
noncomputable def W14_8 (a0 : T25) (a1 a2 a3 : Int) : ((Int × Int)) → Way := fun y => quit 0 (s14_7 a0 a1 a2 a3 y)
theorem j14_8 (V : Env) (a0 : T25) (a1 a2 a3 : Int) : Judge Try.prog V 47 (sub (body Try.f14) [1, 1, 1, 0, 0]) (s14_3_0 a0 a1 a2 a3 ()) (m14_8 a0 a1 a2 a3) (W14_8 a0 a1 a2 a3) :=
  Judge.loopS (c := (sub (body Try.f14) [1, 1, 1, 0, 0, 0])) (by kernel_rfl) (h14_5 a0 a1 a2 a3) (b14_8 a0 a1 a2 a3) (a1, a3) rfl (weak_of [(0, 0)] [] (by kernel_rfl) ⟨dr, dr, dr, ⟨rfl, rfl⟩⟩ ⟨_, _, rfl, rfl, ⟨dr, dr, dr, dr, dr, dr, dr, dr, dr, dr, dr, dr, dr, dr, dr, trivial⟩⟩) (by intro y; exact fun h => by cases h)
    (fun s4 => Judge.map (fun z => match z with | .inl z => .inl (z, (IntKind.wrap .i64 (s4.2 - (1 : Int)))) | .inr z => .inr s4 : (Int) ⊕ (Unit) → (Int × Int) ⊕ ((Int × Int))) rfl (j14_6 V a0 a1 a2 a3 s4) (fun z => match z with | .inl z => ⟨rfl, fun _ h => h.trans (weak_of [(0, 0)] [] (by kernel_rfl) ⟨dr, dr, dr, ⟨rfl, rfl⟩⟩ ⟨_, _, rfl, rfl, ⟨dr, dr, dr, dr, dr, dr, dr, dr, dr, dr, dr, dr, dr, dr, dr, trivial⟩⟩)⟩ | .inr z => ⟨rfl, fun _ h => h⟩))
noncomputable def m14_9 (a0 : T25) (a1 a2 a3 : Int) : Option ((Int × Int)) := m14_8 a0 a1 a2 a3
noncomputable def W14_9 (a0 : T25) (a1 a2 a3 : Int) : ((Int × Int)) → Way := fun y => go (s14_7 a0 a1 a2 a3 y)
theorem j14_9 (V : Env) (a0 : T25) (a1 a2 a3 : Int) : Judge Try.prog V 47 (sub (body Try.f14) [1, 1, 1, 0]) (s14_3_0 a0 a1 a2 a3 ()) (m14_9 a0 a1 a2 a3) (W14_9 a0 a1 a2 a3) := Judge.blockS (id := 0) (c := (sub (body Try.f14) [1, 1, 1, 0, 0])) (by kernel_rfl) (j14_8 V a0 a1 a2 a3) (by intro y; rfl)
noncomputable def m14_11 (a0 : T25) (a1 a2 a3 : Int) (y10 : Int × Int) : Option ((Int × Int)) :=
  some (y10.1, (0 : Int))
noncomputable def W14_11 (a0 : T25) (a1 a2 a3 : Int) (y10 : Int × Int) : ((Int × Int)) → Way := fun y => fin Try.prog Try.f14 (.tup [(.int .i64 y.1), (.int .i64 y.2)])
noncomputable def t14_11 (a0 : T25) (a1 a2 a3 : Int) (y10 : Int × Int) : Tr (W14_11 a0 a1 a2 a3 y10) := (.ret .ret ⟨[(8, (.d (.int .i64 y10.1))), (9, (.d (.int .i64 (0 : Int))))], [], [], 960⟩ (y10.1, (0 : Int)) ⟨rfl, ⟨dr, dr, trivial⟩⟩)
theorem j14_11 (V : Env) (a0 : T25) (a1 a2 a3 : Int) (y10 : Int × Int) : Judge Try.prog V 47 (sub (body Try.f14) [1, 1, 1, 1]) (s14_7 a0 a1 a2 a3 y10) (m14_11 a0 a1 a2 a3 y10) (W14_11 a0 a1 a2 a3 y10) :=
  Judge.seg (tms := []) rfl [8, 9] [] (t := t14_11 a0 a1 a2 a3 y10) (by kernel_rfl) (fun K => by kernel_rfl)
noncomputable def m14_12 (a0 : T25) (a1 a2 a3 : Int) : Option ((Int × Int)) := (m14_9 a0 a1 a2 a3).bind (fun yy => match yy with | y10 => m14_11 a0 a1 a2 a3 y10 : (Int × Int) → Option ((Int × Int)))
noncomputable def W14_12 (a0 : T25) (a1 a2 a3 : Int) : ((Int × Int)) → Way := fun y => fin Try.prog Try.f14 (.tup [(.int .i64 y.1), (.int .i64 y.2)])
theorem j14_12 (V : Env) (a0 : T25) (a1 a2 a3 : Int) : Judge Try.prog V 47 (sub (body Try.f14) [1, 1, 1]) (s14_3_0 a0 a1 a2 a3 ()) (m14_12 a0 a1 a2 a3) (W14_12 a0 a1 a2 a3) := 
  Judge.seqX (a := (sub (body Try.f14) [1, 1, 1, 0])) (b := (sub (body Try.f14) [1, 1, 1, 1])) (m2 := (fun yy => match yy with | y10 => m14_11 a0 a1 a2 a3 y10 : (Int × Int) → Option ((Int × Int)))) (by kernel_rfl) rfl (j14_9 V a0 a1 a2 a3) (fun yy => match yy with | y10 => .inl ⟨rfl, _, fun _ h => h, j14_11 V a0 a1 a2 a3 y10⟩)
noncomputable def m14_13 (a0 : T25) (a1 a2 a3 : Int) : Option ((Int × Int)) := (m14_3 a0 a1 a2 a3).bind (fun yy => match yy with | .inl _ => m14_12 a0 a1 a2 a3  | .inr z => some z : (Unit) ⊕ (Int × Int) → Option ((Int × Int)))
noncomputable def W14_13 (a0 : T25) (a1 a2 a3 : Int) : ((Int × Int)) → Way := fun y => fin Try.prog Try.f14 (.tup [(.int .i64 y.1), (.int .i64 y.2)])
theorem j14_13 (V : Env) (a0 : T25) (a1 a2 a3 : Int) : Judge Try.prog V 47 (sub (body Try.f14) [1, 1]) (s14_2_0 a0 a1 a2 a3 ()) (m14_13 a0 a1 a2 a3) (W14_13 a0 a1 a2 a3) := 
  Judge.seqX (a := (sub (body Try.f14) [1, 1, 0])) (b := (sub (body Try.f14) [1, 1, 1])) (m2 := (fun yy => match yy with | .inl _ => m14_12 a0 a1 a2 a3  | .inr z => some z : (Unit) ⊕ (Int × Int) → Option ((Int × Int)))) (by kernel_rfl) rfl (j14_3 V a0 a1 a2 a3) (fun yy => match yy with | .inl _ => .inl ⟨rfl, _, fun _ h => h, j14_12 V a0 a1 a2 a3 ⟩ | .inr z => .inr ⟨(by intro h; cases h), z, rfl, rfl, fun _ h => h⟩)
noncomputable def m14_14 (a0 : T25) (a1 a2 a3 : Int) : Option ((Int × Int)) := (m14_2 a0 a1 a2 a3).bind (fun yy => match yy with | .inl _ => m14_13 a0 a1 a2 a3  | .inr z => some z : (Unit) ⊕ (Int × Int) → Option ((Int × Int)))
noncomputable def W14_14 (a0 : T25) (a1 a2 a3 : Int) : ((Int × Int)) → Way := fun y => fin Try.prog Try.f14 (.tup [(.int .i64 y.1), (.int .i64 y.2)])
theorem j14_14 (V : Env) (a0 : T25) (a1 a2 a3 : Int) : Judge Try.prog V 47 (sub (body Try.f14) [1]) (s14_1_0 a0 a1 a2 a3 ()) (m14_14 a0 a1 a2 a3) (W14_14 a0 a1 a2 a3) := 
  Judge.seqX (a := (sub (body Try.f14) [1, 0])) (b := (sub (body Try.f14) [1, 1])) (m2 := (fun yy => match yy with | .inl _ => m14_13 a0 a1 a2 a3  | .inr z => some z : (Unit) ⊕ (Int × Int) → Option ((Int × Int)))) (by kernel_rfl) rfl (j14_2 V a0 a1 a2 a3) (fun yy => match yy with | .inl _ => .inl ⟨rfl, _, fun _ h => h, j14_13 V a0 a1 a2 a3 ⟩ | .inr z => .inr ⟨(by intro h; cases h), z, rfl, rfl, fun _ h => h⟩)
noncomputable def m14_15 (a0 : T25) (a1 a2 a3 : Int) : Option ((Int × Int)) := (m14_1 a0 a1 a2 a3).bind (fun yy => match yy with | _ => m14_14 a0 a1 a2 a3  : (Unit) → Option ((Int × Int)))
noncomputable def W14_15 (a0 : T25) (a1 a2 a3 : Int) : ((Int × Int)) → Way := fun y => fin Try.prog Try.f14 (.tup [(.int .i64 y.1), (.int .i64 y.2)])
theorem j14_15 (V : Env) (a0 : T25) (a1 a2 a3 : Int) : Judge Try.prog V 47 (sub (body Try.f14) []) ⟨argFr 0 [(e25 a0), (.int .i64 a1), (.int .i64 a2), (.int .i64 a3)], [], [], 0⟩ (m14_15 a0 a1 a2 a3) (W14_15 a0 a1 a2 a3) := 
  Judge.seqX (a := (sub (body Try.f14) [0])) (b := (sub (body Try.f14) [1])) (m2 := (fun yy => match yy with | _ => m14_14 a0 a1 a2 a3  : (Unit) → Option ((Int × Int)))) (by kernel_rfl) rfl (j14_1 V a0 a1 a2 a3) (fun yy => match yy with | _ => .inl ⟨rfl, _, fun _ h => h, j14_14 V a0 a1 a2 a3 ⟩)
noncomputable def m14 (a0 : T25) (a1 a2 a3 : Int) : Option (Int × Int) := m14_15 a0 a1 a2 a3
theorem p14 {a0 : T25} {a1 : Int} {a2 : Int} {a3 : Int} {r : Int × Int} (h : m14 a0 a1 a2 a3 = some r) : PureAt Try.prog 14 [(e25 a0), (.int .i64 a1), (.int .i64 a2), (.int .i64 a3)] (.tup [(.int .i64 r.1), (.int .i64 r.2)]) :=
  pure_judge (R := Int × Int) (en := fun (r : Int × Int) => (.tup [(.int .i64 r.1), (.int .i64 r.2)])) (c := (sub (body Try.f14) [])) (ds := [(e25 a0), (.int .i64 a1), (.int .i64 a2), (.int .i64 a3)]) (m := m14_15 a0 a1 a2 a3) Try.func14 (by kernel_rfl) (by decide) (Nat.le_of_ble_eq_true rfl) (fun V => j14_15 V a0 a1 a2 a3) h
/- flightdeck/flightdecklaw31.awake -/
noncomputable def m9_1 : Option ((Bool)) :=
  ((m30 ).bind fun r1_0 => some r1_0).bind fun x1 =>
    ((m18 x1 (1500000 : Int) (1500 : Int)).bind fun r2_0 => some r2_0).bind fun x2 =>
      ((m18 x1 (-100000 : Int) (500 : Int)).bind fun r3_0 => some r3_0).bind fun x3 =>
        ((m14 x1 (2999000 : Int) (1000 : Int) (50 : Int)).bind fun r4_0 => some r4_0).bind fun x4 =>
          ((m14 x1 (0 : Int) (1000 : Int) (1 : Int)).bind fun r5_0 => some r5_0).bind fun x5 =>
            ((m10 x1).bind fun r6_0 => some r6_0).bind fun x6 =>
              some (((((((((x6 == (0 : Int)) && (x2.2 == (0 : Int))) && (x3.2 == (0 : Int))) && (x4.2 == (0 : Int))) && (x5.2 == (0 : Int))) && (x2.1 == (1625 : Int))) && (x3.1 == (3000 : Int))) && (x4.1 == (3000000 : Int))) && (x5.1 == (3000 : Int)))
noncomputable def W9_1 : ((Bool)) → Way := fun y => fin Try.prog Try.f9 (.bool y)
noncomputable def t9_1 : Tr (W9_1 ) := (.exi (T25) ((m30 ).bind fun r1_0 => some r1_0) (fun x1 => (.p (PureAt Try.prog 30 [] (e25 x1)) (.fin 0))) (by intro x1 h; obtain ⟨r1_0, h1, h⟩ := Option.bind_eq_some_iff.1 h; cases h; exact ⟨p30 h1, trivial⟩) (fun x1 _ => (.exi ((Int × Int)) ((m18 x1 (1500000 : Int) (1500 : Int)).bind fun r2_0 => some r2_0) (fun x2 => (.p (PureAt Try.prog 18 [(e25 x1), (.int .i64 (1500000 : Int)), (.int .i64 (1500 : Int))] (.tup [(.int .i64 x2.1), (.int .i64 x2.2)])) (.fin 0))) (by intro x2 h; obtain ⟨r2_0, h1, h⟩ := Option.bind_eq_some_iff.1 h; cases h; exact ⟨p18 h1, trivial⟩) (fun x2 _ => (.exi ((Int × Int)) ((m18 x1 (-100000 : Int) (500 : Int)).bind fun r3_0 => some r3_0) (fun x3 => (.p (PureAt Try.prog 18 [(e25 x1), (.int .i64 (-100000 : Int)), (.int .i64 (500 : Int))] (.tup [(.int .i64 x3.1), (.int .i64 x3.2)])) (.fin 0))) (by intro x3 h; obtain ⟨r3_0, h1, h⟩ := Option.bind_eq_some_iff.1 h; cases h; exact ⟨p18 h1, trivial⟩) (fun x3 _ => (.exi ((Int × Int)) ((m14 x1 (2999000 : Int) (1000 : Int) (50 : Int)).bind fun r4_0 => some r4_0) (fun x4 => (.p (PureAt Try.prog 14 [(e25 x1), (.int .i64 (2999000 : Int)), (.int .i64 (1000 : Int)), (.int .i64 (50 : Int))] (.tup [(.int .i64 x4.1), (.int .i64 x4.2)])) (.fin 0))) (by intro x4 h; obtain ⟨r4_0, h1, h⟩ := Option.bind_eq_some_iff.1 h; cases h; exact ⟨p14 h1, trivial⟩) (fun x4 _ => (.exi ((Int × Int)) ((m14 x1 (0 : Int) (1000 : Int) (1 : Int)).bind fun r5_0 => some r5_0) (fun x5 => (.p (PureAt Try.prog 14 [(e25 x1), (.int .i64 (0 : Int)), (.int .i64 (1000 : Int)), (.int .i64 (1 : Int))] (.tup [(.int .i64 x5.1), (.int .i64 x5.2)])) (.fin 0))) (by intro x5 h; obtain ⟨r5_0, h1, h⟩ := Option.bind_eq_some_iff.1 h; cases h; exact ⟨p14 h1, trivial⟩) (fun x5 _ => (.exi (Int) ((m10 x1).bind fun r6_0 => some r6_0) (fun x6 => (.p (PureAt Try.prog 10 [(e25 x1)] (.int .i64 x6)) (.fin 0))) (by intro x6 h; obtain ⟨r6_0, h1, h⟩ := Option.bind_eq_some_iff.1 h; cases h; exact ⟨p10 h1, trivial⟩) (fun x6 _ => (.ret .ret ⟨[(0, (.d (.bool (((((((((x6 == (0 : Int)) && (x2.2 == (0 : Int))) && (x3.2 == (0 : Int))) && (x4.2 == (0 : Int))) && (x5.2 == (0 : Int))) && (x2.1 == (1625 : Int))) && (x3.1 == (3000 : Int))) && (x4.1 == (3000000 : Int))) && (x5.1 == (3000 : Int))))))], [], [], 1088⟩ (((((((((x6 == (0 : Int)) && (x2.2 == (0 : Int))) && (x3.2 == (0 : Int))) && (x4.2 == (0 : Int))) && (x5.2 == (0 : Int))) && (x2.1 == (1625 : Int))) && (x3.1 == (3000 : Int))) && (x4.1 == (3000000 : Int))) && (x5.1 == (3000 : Int))) ⟨rfl, dr⟩)))))))))))))
theorem j9_1 (V : Env) : Judge Try.prog V 66 (sub (body Try.f9) []) ⟨argFr 0 [], [], [], 0⟩ (m9_1 ) (W9_1 ) :=
  Judge.seg (tms := [(1, ⟨T25, fun x => [(10, (e25 x))]⟩), (2, ⟨(Int × Int), fun x => [(13, (.tup [(.int .i64 x.1), (.int .i64 x.2)]))]⟩), (3, ⟨(Int × Int), fun x => [(18, (.tup [(.int .i64 x.1), (.int .i64 x.2)]))]⟩), (4, ⟨(Int × Int), fun x => [(23, (.tup [(.int .i64 x.1), (.int .i64 x.2)]))]⟩), (5, ⟨(Int × Int), fun x => [(28, (.tup [(.int .i64 x.1), (.int .i64 x.2)]))]⟩), (6, ⟨Int, fun x => [(32, (.int .i64 x))]⟩)]) rfl [0] [] (t := t9_1 ) (by kernel_rfl) (fun K => by kernel_rfl)
noncomputable def m9 : Option (Bool) := m9_1 
theorem p9 {r : Bool} (h : m9  = some r) : PureAt Try.prog 9 [] (.bool r) :=
  pure_judge (R := Bool) (en := fun (r : Bool) => (.bool r)) (c := (sub (body Try.f9) [])) (ds := []) (m := m9_1 ) Try.func9 (by kernel_rfl) (by decide) (Nat.le_of_ble_eq_true rfl) (fun V => j9_1 V ) h
/- flightdeck/flightdeckref08.Name -/
noncomputable def s40_1_0 (a0 : List UInt8) (a1 : Int) (y : Unit) : St := ⟨[(0, (.d (.str a0))), (1, (.d (.int .i64 a1)))], [], [], 16⟩
noncomputable def m40_1 (a0 : List UInt8) (a1 : Int) : Option ((Unit)) :=
  some ()
noncomputable def W40_1 (a0 : List UInt8) (a1 : Int) : ((Unit)) → Way := fun y => go (s40_1_0 a0 a1 y)
noncomputable def t40_1 (a0 : List UInt8) (a1 : Int) : Tr (W40_1 a0 a1) := (.ret .normal (s40_1_0 a0 a1 ()) () ⟨rfl, Weak.refl _⟩)
theorem j40_1 (V : Env) (a0 : List UInt8) (a1 : Int) : Judge Try.prog V 53 (sub (body Try.f40) [0]) ⟨argFr 0 [(.str a0), (.int .i64 a1)], [], [], 0⟩ (m40_1 a0 a1) (W40_1 a0 a1) :=
  Judge.seg (tms := []) rfl [0, 1] [] (t := t40_1 a0 a1) (by kernel_rfl) (fun K => by kernel_rfl)
noncomputable def s40_2_0 (a0 : List UInt8) (a1 : Int) (y : Unit) : St := ⟨[(0, (.d (.str a0)))], [], [], 320⟩
noncomputable def m40_2 (a0 : List UInt8) (a1 : Int) : Option ((Unit) ⊕ (Bool)) :=
  if (!((decide ((a0.length : Int) < (1 : Int))) || (decide (a1 < (a0.length : Int))))) = true → (0 : Int) ≤ (0 : Int) then
    if (!((decide ((a0.length : Int) < (1 : Int))) || (decide (a1 < (a0.length : Int))))) = true → (0 : Int) < (a0.length : Int) then
      if (!(((decide ((a0.length : Int) < (1 : Int))) || (decide (a1 < (a0.length : Int)))) || (decide ((byteAt a0 (0 : Int).toNat) < (65 : Int))))) = true → (0 : Int) ≤ (0 : Int) then
        if (!(((decide ((a0.length : Int) < (1 : Int))) || (decide (a1 < (a0.length : Int)))) || (decide ((byteAt a0 (0 : Int).toNat) < (65 : Int))))) = true → (0 : Int) < (a0.length : Int) then
          if ((((decide ((a0.length : Int) < (1 : Int))) || (decide (a1 < (a0.length : Int)))) || (decide ((byteAt a0 (0 : Int).toNat) < (65 : Int)))) || (decide ((90 : Int) < (byteAt a0 (0 : Int).toNat)))) = true then
            some (.inr false)
          else
            some (.inl ())
        else none
      else none
    else none
  else none
noncomputable def W40_2 (a0 : List UInt8) (a1 : Int) : ((Unit) ⊕ (Bool)) → Way := fun y => match y with | .inl y => go (s40_2_0 a0 a1 y) | .inr y => fin Try.prog Try.f40 (.bool y)
noncomputable def t40_2 (a0 : List UInt8) (a1 : Int) : Tr (W40_2 a0 a1) := (.needG (!((decide ((a0.length : Int) < (1 : Int))) || (decide (a1 < (a0.length : Int))))) ((0 : Int) ≤ (0 : Int)) inferInstance (.needG (!((decide ((a0.length : Int) < (1 : Int))) || (decide (a1 < (a0.length : Int))))) ((0 : Int) < (a0.length : Int)) inferInstance (.needG (!(((decide ((a0.length : Int) < (1 : Int))) || (decide (a1 < (a0.length : Int)))) || (decide ((byteAt a0 (0 : Int).toNat) < (65 : Int))))) ((0 : Int) ≤ (0 : Int)) inferInstance (.needG (!(((decide ((a0.length : Int) < (1 : Int))) || (decide (a1 < (a0.length : Int)))) || (decide ((byteAt a0 (0 : Int).toNat) < (65 : Int))))) ((0 : Int) < (a0.length : Int)) inferInstance (.ite ((((decide ((a0.length : Int) < (1 : Int))) || (decide (a1 < (a0.length : Int)))) || (decide ((byteAt a0 (0 : Int).toNat) < (65 : Int)))) || (decide ((90 : Int) < (byteAt a0 (0 : Int).toNat)))) (.ret .ret ⟨[(0, (.d (.str a0))), (4, (.d (.bool false)))], [], [], 336⟩ (.inr false) ⟨rfl, dr⟩) (.ret .normal ⟨[(0, (.d (.str a0))), (4, .any)], [], [], 320⟩ (.inl ()) ⟨rfl, (weak_of [] [] (by kernel_rfl) dr trivial)⟩))))))
theorem j40_2 (V : Env) (a0 : List UInt8) (a1 : Int) : Judge Try.prog V 53 (sub (body Try.f40) [1, 0]) (s40_1_0 a0 a1 ()) (m40_2 a0 a1) (W40_2 a0 a1) :=
  Judge.seg (tms := []) rfl [0, 4] [] (t := t40_2 a0 a1) (by kernel_rfl) (fun K => by kernel_rfl)
noncomputable def s40_3_0 (a0 : List UInt8) (a1 : Int) (y : Unit) : St := ⟨[(0, (.d (.str a0))), (5, (.d (.int .i64 (0 : Int))))], [], [], 336⟩
noncomputable def m40_3 (a0 : List UInt8) (a1 : Int) : Option ((Unit)) :=
  some ()
noncomputable def W40_3 (a0 : List UInt8) (a1 : Int) : ((Unit)) → Way := fun y => go (s40_3_0 a0 a1 y)
noncomputable def t40_3 (a0 : List UInt8) (a1 : Int) : Tr (W40_3 a0 a1) := (.ret .normal (s40_3_0 a0 a1 ()) () ⟨rfl, Weak.refl _⟩)
theorem j40_3 (V : Env) (a0 : List UInt8) (a1 : Int) : Judge Try.prog V 53 (sub (body Try.f40) [1, 1, 0, 0]) (s40_2_0 a0 a1 ()) (m40_3 a0 a1) (W40_3 a0 a1) :=
  Judge.seg (tms := []) rfl [0, 5] [] (t := t40_3 a0 a1) (by kernel_rfl) (fun K => by kernel_rfl)
noncomputable def h40_5 (a0 : List UInt8) (a1 : Int) (y : Int) : St := ⟨[(0, (.d (.str a0))), (5, (.d (.int .i64 y)))], [], [], 800⟩
noncomputable def s40_6_0 (a0 : List UInt8) (a1 s4 : Int) (y : Unit) : St := ⟨[(0, (.d (.str a0))), (5, (.d (.int .i64 (IntKind.wrap .i64 (s4 + (1 : Int))))))], [], [], 1264⟩
noncomputable def s40_6_1 (a0 : List UInt8) (a1 s4 : Int) (y : Unit) : St := ⟨[], [], [], 864⟩
noncomputable def m40_6 (a0 : List UInt8) (a1 s4 : Int) : Option ((Unit) ⊕ (Unit) ⊕ (Bool)) :=
  if (decide (s4 < (a0.length : Int))) = true then
    if (0 : Int) ≤ s4 then
      if s4 < (a0.length : Int) then
        if (!(decide ((byteAt a0 s4.toNat) < (65 : Int)))) = true → (0 : Int) ≤ s4 then
          if (!(decide ((byteAt a0 s4.toNat) < (65 : Int)))) = true → s4 < (a0.length : Int) then
            if ((decide ((byteAt a0 s4.toNat) < (65 : Int))) || (decide ((90 : Int) < (byteAt a0 s4.toNat)))) = true → (0 : Int) ≤ s4 then
              if ((decide ((byteAt a0 s4.toNat) < (65 : Int))) || (decide ((90 : Int) < (byteAt a0 s4.toNat)))) = true → s4 < (a0.length : Int) then
                if (((decide ((byteAt a0 s4.toNat) < (65 : Int))) || (decide ((90 : Int) < (byteAt a0 s4.toNat)))) && (!(decide ((byteAt a0 s4.toNat) < (48 : Int))))) = true → (0 : Int) ≤ s4 then
                  if (((decide ((byteAt a0 s4.toNat) < (65 : Int))) || (decide ((90 : Int) < (byteAt a0 s4.toNat)))) && (!(decide ((byteAt a0 s4.toNat) < (48 : Int))))) = true → s4 < (a0.length : Int) then
                    if (((decide ((byteAt a0 s4.toNat) < (65 : Int))) || (decide ((90 : Int) < (byteAt a0 s4.toNat)))) && ((decide ((byteAt a0 s4.toNat) < (48 : Int))) || (decide ((57 : Int) < (byteAt a0 s4.toNat))))) = true then
                      some (.inr (.inr false))
                    else
                      some (.inl ())
                  else none
                else none
              else none
            else none
          else none
        else none
      else none
    else none
  else
    some (.inr (.inl ()))
noncomputable def W40_6 (a0 : List UInt8) (a1 s4 : Int) : ((Unit) ⊕ (Unit) ⊕ (Bool)) → Way := fun y => match y with | .inl y => go (s40_6_0 a0 a1 s4 y) | .inr (.inl y) => quit 0 (s40_6_1 a0 a1 s4 y) | .inr (.inr y) => fin Try.prog Try.f40 (.bool y)
noncomputable def t40_6 (a0 : List UInt8) (a1 s4 : Int) : Tr (W40_6 a0 a1 s4) := (.ite (decide (s4 < (a0.length : Int))) (.need ((0 : Int) ≤ s4) inferInstance (.need (s4 < (a0.length : Int)) inferInstance (.needG (!(decide ((byteAt a0 s4.toNat) < (65 : Int)))) ((0 : Int) ≤ s4) inferInstance (.needG (!(decide ((byteAt a0 s4.toNat) < (65 : Int)))) (s4 < (a0.length : Int)) inferInstance (.needG ((decide ((byteAt a0 s4.toNat) < (65 : Int))) || (decide ((90 : Int) < (byteAt a0 s4.toNat)))) ((0 : Int) ≤ s4) inferInstance (.needG ((decide ((byteAt a0 s4.toNat) < (65 : Int))) || (decide ((90 : Int) < (byteAt a0 s4.toNat)))) (s4 < (a0.length : Int)) inferInstance (.needG (((decide ((byteAt a0 s4.toNat) < (65 : Int))) || (decide ((90 : Int) < (byteAt a0 s4.toNat)))) && (!(decide ((byteAt a0 s4.toNat) < (48 : Int))))) ((0 : Int) ≤ s4) inferInstance (.needG (((decide ((byteAt a0 s4.toNat) < (65 : Int))) || (decide ((90 : Int) < (byteAt a0 s4.toNat)))) && (!(decide ((byteAt a0 s4.toNat) < (48 : Int))))) (s4 < (a0.length : Int)) inferInstance (.ite (((decide ((byteAt a0 s4.toNat) < (65 : Int))) || (decide ((90 : Int) < (byteAt a0 s4.toNat)))) && ((decide ((byteAt a0 s4.toNat) < (48 : Int))) || (decide ((57 : Int) < (byteAt a0 s4.toNat))))) (.ret .ret ⟨[(0, (.d (.str a0))), (4, (.d (.bool false))), (5, (.d (.int .i64 s4)))], [], [], 1232⟩ (.inr (.inr false)) ⟨rfl, dr⟩) (.ret .normal ⟨[(0, (.d (.str a0))), (4, .any), (5, (.d (.int .i64 (IntKind.wrap .i64 (s4 + (1 : Int))))))], [], [], 1264⟩ (.inl ()) ⟨rfl, (weak_of [] [] (by kernel_rfl) ⟨dr, dr⟩ trivial)⟩)))))))))) (.ret (.exit 0) ⟨[(0, (.d (.str a0))), (4, .any), (5, (.d (.int .i64 s4)))], [], [], 864⟩ (.inr (.inl ())) ⟨rfl, (weak_of [] [] (by kernel_rfl) trivial trivial)⟩))
theorem j40_6 (V : Env) (a0 : List UInt8) (a1 s4 : Int) : Judge Try.prog V 53 (sub (body Try.f40) [1, 1, 0, 1, 0, 0]) (h40_5 a0 a1 s4) (m40_6 a0 a1 s4) (W40_6 a0 a1 s4) :=
  Judge.seg (tms := []) rfl [0, 4, 5] [] (t := t40_6 a0 a1 s4) (by kernel_rfl) (fun K => by kernel_rfl)
noncomputable def s40_7 (a0 : List UInt8) (a1 : Int) (y : Unit) : St := ⟨[], [], [], 864⟩
noncomputable def b40_8 (a0 : List UInt8) (a1 : Int) (s4 : Int) : Option ((Int) ⊕ ((Unit) ⊕ (Bool))) := (m40_6 a0 a1 s4).map (fun z => match z with | .inl z => .inl (IntKind.wrap .i64 (s4 + (1 : Int))) | .inr (.inl z) => .inr (.inl z) | .inr (.inr z) => .inr (.inr z) : (Unit) ⊕ (Unit) ⊕ (Bool) → (Int) ⊕ ((Unit) ⊕ (Bool)))
noncomputable def m40_8 (a0 : List UInt8) (a1 : Int) : Option ((Unit) ⊕ (Bool)) := loopO (b40_8 a0 a1) (0 : Int)
noncomputable def W40_8 (a0 : List UInt8) (a1 : Int) : ((Unit) ⊕ (Bool)) → Way := fun y => match y with | .inl y => quit 0 (s40_7 a0 a1 y) | .inr y => fin Try.prog Try.f40 (.bool y)
theorem j40_8 (V : Env) (a0 : List UInt8) (a1 : Int) : Judge Try.prog V 53 (sub (body Try.f40) [1, 1, 0, 1, 0]) (s40_3_0 a0 a1 ()) (m40_8 a0 a1) (W40_8 a0 a1) :=
  Judge.loopS (c := (sub (body Try.f40) [1, 1, 0, 1, 0, 0])) (by kernel_rfl) (h40_5 a0 a1) (b40_8 a0 a1) (0 : Int) rfl (weak_of [] [] (by kernel_rfl) ⟨dr, dr⟩ trivial) (by intro y; rcases y with y | y <;> exact fun h => by cases h)
    (fun s4 => Judge.map (fun z => match z with | .inl z => .inl (IntKind.wrap .i64 (s4 + (1 : Int))) | .inr (.inl z) => .inr (.inl z) | .inr (.inr z) => .inr (.inr z) : (Unit) ⊕ (Unit) ⊕ (Bool) → (Int) ⊕ ((Unit) ⊕ (Bool))) rfl (j40_6 V a0 a1 s4) (fun z => match z with | .inl z => ⟨rfl, fun _ h => h.trans (weak_of [] [] (by kernel_rfl) ⟨dr, dr⟩ trivial)⟩ | .inr (.inl z) => ⟨rfl, fun _ h => h⟩ | .inr (.inr z) => ⟨rfl, fun _ h => h⟩))
noncomputable def m40_9 (a0 : List UInt8) (a1 : Int) : Option ((Unit) ⊕ (Bool)) := m40_8 a0 a1
noncomputable def W40_9 (a0 : List UInt8) (a1 : Int) : ((Unit) ⊕ (Bool)) → Way := fun y => match y with | .inl y => go (s40_7 a0 a1 y) | .inr y => fin Try.prog Try.f40 (.bool y)
theorem j40_9 (V : Env) (a0 : List UInt8) (a1 : Int) : Judge Try.prog V 53 (sub (body Try.f40) [1, 1, 0, 1]) (s40_3_0 a0 a1 ()) (m40_9 a0 a1) (W40_9 a0 a1) := Judge.blockS (id := 0) (c := (sub (body Try.f40) [1, 1, 0, 1, 0])) (by kernel_rfl) (j40_8 V a0 a1) (by intro y; rcases y with y | y <;> rfl)
noncomputable def m40_10 (a0 : List UInt8) (a1 : Int) : Option ((Unit) ⊕ (Bool)) := (m40_3 a0 a1).bind (fun yy => match yy with | _ => m40_9 a0 a1  : (Unit) → Option ((Unit) ⊕ (Bool)))
noncomputable def W40_10 (a0 : List UInt8) (a1 : Int) : ((Unit) ⊕ (Bool)) → Way := fun y => match y with | .inl y => go (s40_7 a0 a1 y) | .inr y => fin Try.prog Try.f40 (.bool y)
theorem j40_10 (V : Env) (a0 : List UInt8) (a1 : Int) : Judge Try.prog V 53 (sub (body Try.f40) [1, 1, 0]) (s40_2_0 a0 a1 ()) (m40_10 a0 a1) (W40_10 a0 a1) := 
  Judge.seqX (a := (sub (body Try.f40) [1, 1, 0, 0])) (b := (sub (body Try.f40) [1, 1, 0, 1])) (m2 := (fun yy => match yy with | _ => m40_9 a0 a1  : (Unit) → Option ((Unit) ⊕ (Bool)))) (by kernel_rfl) rfl (j40_3 V a0 a1) (fun yy => match yy with | _ => .inl ⟨rfl, _, fun _ h => h, j40_9 V a0 a1 ⟩)
noncomputable def m40_11 (a0 : List UInt8) (a1 : Int) : Option ((Bool)) :=
  some true
noncomputable def W40_11 (a0 : List UInt8) (a1 : Int) : ((Bool)) → Way := fun y => fin Try.prog Try.f40 (.bool y)
noncomputable def t40_11 (a0 : List UInt8) (a1 : Int) : Tr (W40_11 a0 a1) := (.ret .ret ⟨[(4, (.d (.bool true)))], [], [], 880⟩ true ⟨rfl, dr⟩)
theorem j40_11 (V : Env) (a0 : List UInt8) (a1 : Int) : Judge Try.prog V 53 (sub (body Try.f40) [1, 1, 1]) (s40_7 a0 a1 ()) (m40_11 a0 a1) (W40_11 a0 a1) :=
  Judge.seg (tms := []) rfl [4] [] (t := t40_11 a0 a1) (by kernel_rfl) (fun K => by kernel_rfl)
noncomputable def m40_12 (a0 : List UInt8) (a1 : Int) : Option ((Bool)) := (m40_10 a0 a1).bind (fun yy => match yy with | .inl _ => m40_11 a0 a1  | .inr z => some z : (Unit) ⊕ (Bool) → Option ((Bool)))
noncomputable def W40_12 (a0 : List UInt8) (a1 : Int) : ((Bool)) → Way := fun y => fin Try.prog Try.f40 (.bool y)
theorem j40_12 (V : Env) (a0 : List UInt8) (a1 : Int) : Judge Try.prog V 53 (sub (body Try.f40) [1, 1]) (s40_2_0 a0 a1 ()) (m40_12 a0 a1) (W40_12 a0 a1) := 
  Judge.seqX (a := (sub (body Try.f40) [1, 1, 0])) (b := (sub (body Try.f40) [1, 1, 1])) (m2 := (fun yy => match yy with | .inl _ => m40_11 a0 a1  | .inr z => some z : (Unit) ⊕ (Bool) → Option ((Bool)))) (by kernel_rfl) rfl (j40_10 V a0 a1) (fun yy => match yy with | .inl _ => .inl ⟨rfl, _, fun _ h => h, j40_11 V a0 a1 ⟩ | .inr z => .inr ⟨(by intro h; cases h), z, rfl, rfl, fun _ h => h⟩)
noncomputable def m40_13 (a0 : List UInt8) (a1 : Int) : Option ((Bool)) := (m40_2 a0 a1).bind (fun yy => match yy with | .inl _ => m40_12 a0 a1  | .inr z => some z : (Unit) ⊕ (Bool) → Option ((Bool)))
noncomputable def W40_13 (a0 : List UInt8) (a1 : Int) : ((Bool)) → Way := fun y => fin Try.prog Try.f40 (.bool y)
theorem j40_13 (V : Env) (a0 : List UInt8) (a1 : Int) : Judge Try.prog V 53 (sub (body Try.f40) [1]) (s40_1_0 a0 a1 ()) (m40_13 a0 a1) (W40_13 a0 a1) := 
  Judge.seqX (a := (sub (body Try.f40) [1, 0])) (b := (sub (body Try.f40) [1, 1])) (m2 := (fun yy => match yy with | .inl _ => m40_12 a0 a1  | .inr z => some z : (Unit) ⊕ (Bool) → Option ((Bool)))) (by kernel_rfl) rfl (j40_2 V a0 a1) (fun yy => match yy with | .inl _ => .inl ⟨rfl, _, fun _ h => h, j40_12 V a0 a1 ⟩ | .inr z => .inr ⟨(by intro h; cases h), z, rfl, rfl, fun _ h => h⟩)
noncomputable def m40_14 (a0 : List UInt8) (a1 : Int) : Option ((Bool)) := (m40_1 a0 a1).bind (fun yy => match yy with | _ => m40_13 a0 a1  : (Unit) → Option ((Bool)))
noncomputable def W40_14 (a0 : List UInt8) (a1 : Int) : ((Bool)) → Way := fun y => fin Try.prog Try.f40 (.bool y)
theorem j40_14 (V : Env) (a0 : List UInt8) (a1 : Int) : Judge Try.prog V 53 (sub (body Try.f40) []) ⟨argFr 0 [(.str a0), (.int .i64 a1)], [], [], 0⟩ (m40_14 a0 a1) (W40_14 a0 a1) := 
  Judge.seqX (a := (sub (body Try.f40) [0])) (b := (sub (body Try.f40) [1])) (m2 := (fun yy => match yy with | _ => m40_13 a0 a1  : (Unit) → Option ((Bool)))) (by kernel_rfl) rfl (j40_1 V a0 a1) (fun yy => match yy with | _ => .inl ⟨rfl, _, fun _ h => h, j40_13 V a0 a1 ⟩)
noncomputable def m40 (a0 : List UInt8) (a1 : Int) : Option (Bool) := m40_14 a0 a1
theorem p40 {a0 : List UInt8} {a1 : Int} {r : Bool} (h : m40 a0 a1 = some r) : PureAt Try.prog 40 [(.str a0), (.int .i64 a1)] (.bool r) :=
  pure_judge (R := Bool) (en := fun (r : Bool) => (.bool r)) (c := (sub (body Try.f40) [])) (ds := [(.str a0), (.int .i64 a1)]) (m := m40_14 a0 a1) Try.func40 (by kernel_rfl) (by decide) (Nat.le_of_ble_eq_true rfl) (fun V => j40_14 V a0 a1) h
/- flightdeck/flightdeckref31.shaped -/
noncomputable def s41_1_0 (a0 : List (List Int)) (a1 a2 : Int) (y : Unit) : St := ⟨[(0, (.d (eSl 1 (eSl 1 (D.int .i64)) a0))), (1, (.d (.int .i64 a1))), (2, (.d (.int .i64 a2)))], [], [], 16⟩
noncomputable def m41_1 (a0 : List (List Int)) (a1 a2 : Int) : Option ((Unit)) :=
  some ()
noncomputable def W41_1 (a0 : List (List Int)) (a1 a2 : Int) : ((Unit)) → Way := fun y => go (s41_1_0 a0 a1 a2 y)
noncomputable def t41_1 (a0 : List (List Int)) (a1 a2 : Int) : Tr (W41_1 a0 a1 a2) := (.ret .normal (s41_1_0 a0 a1 a2 ()) () ⟨rfl, Weak.refl _⟩)
theorem j41_1 (V : Env) (a0 : List (List Int)) (a1 a2 : Int) : Judge Try.prog V 24 (sub (body Try.f41) [0]) ⟨argFr 0 [(eSl 1 (eSl 1 (D.int .i64)) a0), (.int .i64 a1), (.int .i64 a2)], [], [], 0⟩ (m41_1 a0 a1 a2) (W41_1 a0 a1 a2) :=
  Judge.seg (tms := []) rfl [0, 1, 2] [] (t := t41_1 a0 a1 a2) (by kernel_rfl) (fun K => by kernel_rfl)
noncomputable def s41_2_0 (a0 : List (List Int)) (a1 a2 : Int) (y : Unit) : St := ⟨[(0, (.d (eSl 1 (eSl 1 (D.int .i64)) a0))), (2, (.d (.int .i64 a2)))], [], [], 80⟩
noncomputable def m41_2 (a0 : List (List Int)) (a1 a2 : Int) : Option ((Unit) ⊕ (Bool)) :=
  if ((a0.length : Int) != a1) = true then
    some (.inr false)
  else
    some (.inl ())
noncomputable def W41_2 (a0 : List (List Int)) (a1 a2 : Int) : ((Unit) ⊕ (Bool)) → Way := fun y => match y with | .inl y => go (s41_2_0 a0 a1 a2 y) | .inr y => fin Try.prog Try.f41 (.bool y)
noncomputable def t41_2 (a0 : List (List Int)) (a1 a2 : Int) : Tr (W41_2 a0 a1 a2) := (.ite ((a0.length : Int) != a1) (.ret .ret ⟨[(0, (.d (eSl 1 (eSl 1 (D.int .i64)) a0))), (2, (.d (.int .i64 a2))), (6, (.d (.bool false)))], [], [], 96⟩ (.inr false) ⟨rfl, dr⟩) (.ret .normal ⟨[(0, (.d (eSl 1 (eSl 1 (D.int .i64)) a0))), (2, (.d (.int .i64 a2))), (6, .any)], [], [], 80⟩ (.inl ()) ⟨rfl, (weak_of [] [] (by kernel_rfl) ⟨dr, dr⟩ trivial)⟩))
theorem j41_2 (V : Env) (a0 : List (List Int)) (a1 a2 : Int) : Judge Try.prog V 24 (sub (body Try.f41) [1, 0]) (s41_1_0 a0 a1 a2 ()) (m41_2 a0 a1 a2) (W41_2 a0 a1 a2) :=
  Judge.seg (tms := []) rfl [0, 2, 6] [] (t := t41_2 a0 a1 a2) (by kernel_rfl) (fun K => by kernel_rfl)
noncomputable def s41_3_0 (a0 : List (List Int)) (a1 a2 : Int) (y : Unit) : St := ⟨[(2, (.d (.int .i64 a2))), (13, (.d (eSl 1 (eSl 1 (D.int .i64)) a0))), (14, (.d (.int .i64 (a0.length : Int)))), (15, (.d (.int .i64 (0 : Int))))], [], [], 128⟩
noncomputable def m41_3 (a0 : List (List Int)) (a1 a2 : Int) : Option ((Unit)) :=
  some ()
noncomputable def W41_3 (a0 : List (List Int)) (a1 a2 : Int) : ((Unit)) → Way := fun y => go (s41_3_0 a0 a1 a2 y)
noncomputable def t41_3 (a0 : List (List Int)) (a1 a2 : Int) : Tr (W41_3 a0 a1 a2) := (.ret .normal (s41_3_0 a0 a1 a2 ()) () ⟨rfl, Weak.refl _⟩)
theorem j41_3 (V : Env) (a0 : List (List Int)) (a1 a2 : Int) : Judge Try.prog V 24 (sub (body Try.f41) [1, 1, 0, 0]) (s41_2_0 a0 a1 a2 ()) (m41_3 a0 a1 a2) (W41_3 a0 a1 a2) :=
  Judge.seg (tms := []) rfl [2, 13, 14, 15] [] (t := t41_3 a0 a1 a2) (by kernel_rfl) (fun K => by kernel_rfl)
noncomputable def h41_5 (a0 : List (List Int)) (a1 a2 : Int) (y : Int) : St := ⟨[(2, (.d (.int .i64 a2))), (13, (.d (eSl 1 (eSl 1 (D.int .i64)) a0))), (14, (.d (.int .i64 (a0.length : Int)))), (15, (.d (.int .i64 y)))], [], [], 288⟩
noncomputable def s41_6_0 (a0 : List (List Int)) (a1 a2 s4 : Int) (y : Unit) : St := ⟨[(2, (.d (.int .i64 a2))), (13, (.d (eSl 1 (eSl 1 (D.int .i64)) a0))), (14, (.d (.int .i64 (a0.length : Int)))), (15, (.d (.int .i64 (IntKind.wrap .i64 (s4 + (1 : Int))))))], [], [], 448⟩
noncomputable def s41_6_1 (a0 : List (List Int)) (a1 a2 s4 : Int) (y : Unit) : St := ⟨[], [], [], 304⟩
noncomputable def m41_6 (a0 : List (List Int)) (a1 a2 s4 : Int) : Option ((Unit) ⊕ (Unit) ⊕ (Bool)) :=
  if (decide (s4 < (a0.length : Int))) = true then
    if (0 : Int) ≤ s4 then
      if s4 < (a0.length : Int) then
        if (((a0.getD s4.toNat default).length : Int) != a2) = true then
          some (.inr (.inr false))
        else
          some (.inl ())
      else none
    else none
  else
    some (.inr (.inl ()))
noncomputable def W41_6 (a0 : List (List Int)) (a1 a2 s4 : Int) : ((Unit) ⊕ (Unit) ⊕ (Bool)) → Way := fun y => match y with | .inl y => go (s41_6_0 a0 a1 a2 s4 y) | .inr (.inl y) => quit 0 (s41_6_1 a0 a1 a2 s4 y) | .inr (.inr y) => fin Try.prog Try.f41 (.bool y)
noncomputable def t41_6 (a0 : List (List Int)) (a1 a2 s4 : Int) : Tr (W41_6 a0 a1 a2 s4) := (.ite (decide (s4 < (a0.length : Int))) (.need ((0 : Int) ≤ s4) inferInstance (.need (s4 < (a0.length : Int)) inferInstance (.ite (((a0.getD s4.toNat default).length : Int) != a2) (.ret .ret ⟨[(2, (.d (.int .i64 a2))), (6, (.d (.bool false))), (13, (.d (eSl 1 (eSl 1 (D.int .i64)) a0))), (14, (.d (.int .i64 (a0.length : Int)))), (15, (.d (.int .i64 s4)))], [], [], 432⟩ (.inr (.inr false)) ⟨rfl, dr⟩) (.ret .normal ⟨[(2, (.d (.int .i64 a2))), (6, .any), (13, (.d (eSl 1 (eSl 1 (D.int .i64)) a0))), (14, (.d (.int .i64 (a0.length : Int)))), (15, (.d (.int .i64 (IntKind.wrap .i64 (s4 + (1 : Int))))))], [], [], 448⟩ (.inl ()) ⟨rfl, (weak_of [] [] (by kernel_rfl) ⟨dr, dr, dr, dr⟩ trivial)⟩)))) (.ret (.exit 0) ⟨[(2, (.d (.int .i64 a2))), (6, .any), (13, (.d (eSl 1 (eSl 1 (D.int .i64)) a0))), (14, (.d (.int .i64 (a0.length : Int)))), (15, (.d (.int .i64 s4)))], [], [], 304⟩ (.inr (.inl ())) ⟨rfl, (weak_of [] [] (by kernel_rfl) trivial trivial)⟩))
theorem j41_6 (V : Env) (a0 : List (List Int)) (a1 a2 s4 : Int) : Judge Try.prog V 24 (sub (body Try.f41) [1, 1, 0, 1, 0, 0]) (h41_5 a0 a1 a2 s4) (m41_6 a0 a1 a2 s4) (W41_6 a0 a1 a2 s4) :=
  Judge.seg (tms := []) rfl [2, 6, 13, 14, 15] [] (t := t41_6 a0 a1 a2 s4) (by kernel_rfl) (fun K => by kernel_rfl)
noncomputable def s41_7 (a0 : List (List Int)) (a1 a2 : Int) (y : Unit) : St := ⟨[], [], [], 304⟩
noncomputable def b41_8 (a0 : List (List Int)) (a1 a2 : Int) (s4 : Int) : Option ((Int) ⊕ ((Unit) ⊕ (Bool))) := (m41_6 a0 a1 a2 s4).map (fun z => match z with | .inl z => .inl (IntKind.wrap .i64 (s4 + (1 : Int))) | .inr (.inl z) => .inr (.inl z) | .inr (.inr z) => .inr (.inr z) : (Unit) ⊕ (Unit) ⊕ (Bool) → (Int) ⊕ ((Unit) ⊕ (Bool)))
noncomputable def m41_8 (a0 : List (List Int)) (a1 a2 : Int) : Option ((Unit) ⊕ (Bool)) := loopO (b41_8 a0 a1 a2) (0 : Int)
noncomputable def W41_8 (a0 : List (List Int)) (a1 a2 : Int) : ((Unit) ⊕ (Bool)) → Way := fun y => match y with | .inl y => quit 0 (s41_7 a0 a1 a2 y) | .inr y => fin Try.prog Try.f41 (.bool y)
theorem j41_8 (V : Env) (a0 : List (List Int)) (a1 a2 : Int) : Judge Try.prog V 24 (sub (body Try.f41) [1, 1, 0, 1, 0]) (s41_3_0 a0 a1 a2 ()) (m41_8 a0 a1 a2) (W41_8 a0 a1 a2) :=
  Judge.loopS (c := (sub (body Try.f41) [1, 1, 0, 1, 0, 0])) (by kernel_rfl) (h41_5 a0 a1 a2) (b41_8 a0 a1 a2) (0 : Int) rfl (weak_of [] [] (by kernel_rfl) ⟨dr, dr, dr, dr⟩ trivial) (by intro y; rcases y with y | y <;> exact fun h => by cases h)
    (fun s4 => Judge.map (fun z => match z with | .inl z => .inl (IntKind.wrap .i64 (s4 + (1 : Int))) | .inr (.inl z) => .inr (.inl z) | .inr (.inr z) => .inr (.inr z) : (Unit) ⊕ (Unit) ⊕ (Bool) → (Int) ⊕ ((Unit) ⊕ (Bool))) rfl (j41_6 V a0 a1 a2 s4) (fun z => match z with | .inl z => ⟨rfl, fun _ h => h.trans (weak_of [] [] (by kernel_rfl) ⟨dr, dr, dr, dr⟩ trivial)⟩ | .inr (.inl z) => ⟨rfl, fun _ h => h⟩ | .inr (.inr z) => ⟨rfl, fun _ h => h⟩))
noncomputable def m41_9 (a0 : List (List Int)) (a1 a2 : Int) : Option ((Unit) ⊕ (Bool)) := m41_8 a0 a1 a2
noncomputable def W41_9 (a0 : List (List Int)) (a1 a2 : Int) : ((Unit) ⊕ (Bool)) → Way := fun y => match y with | .inl y => go (s41_7 a0 a1 a2 y) | .inr y => fin Try.prog Try.f41 (.bool y)
theorem j41_9 (V : Env) (a0 : List (List Int)) (a1 a2 : Int) : Judge Try.prog V 24 (sub (body Try.f41) [1, 1, 0, 1]) (s41_3_0 a0 a1 a2 ()) (m41_9 a0 a1 a2) (W41_9 a0 a1 a2) := Judge.blockS (id := 0) (c := (sub (body Try.f41) [1, 1, 0, 1, 0])) (by kernel_rfl) (j41_8 V a0 a1 a2) (by intro y; rcases y with y | y <;> rfl)
noncomputable def m41_10 (a0 : List (List Int)) (a1 a2 : Int) : Option ((Unit) ⊕ (Bool)) := (m41_3 a0 a1 a2).bind (fun yy => match yy with | _ => m41_9 a0 a1 a2  : (Unit) → Option ((Unit) ⊕ (Bool)))
noncomputable def W41_10 (a0 : List (List Int)) (a1 a2 : Int) : ((Unit) ⊕ (Bool)) → Way := fun y => match y with | .inl y => go (s41_7 a0 a1 a2 y) | .inr y => fin Try.prog Try.f41 (.bool y)
theorem j41_10 (V : Env) (a0 : List (List Int)) (a1 a2 : Int) : Judge Try.prog V 24 (sub (body Try.f41) [1, 1, 0]) (s41_2_0 a0 a1 a2 ()) (m41_10 a0 a1 a2) (W41_10 a0 a1 a2) := 
  Judge.seqX (a := (sub (body Try.f41) [1, 1, 0, 0])) (b := (sub (body Try.f41) [1, 1, 0, 1])) (m2 := (fun yy => match yy with | _ => m41_9 a0 a1 a2  : (Unit) → Option ((Unit) ⊕ (Bool)))) (by kernel_rfl) rfl (j41_3 V a0 a1 a2) (fun yy => match yy with | _ => .inl ⟨rfl, _, fun _ h => h, j41_9 V a0 a1 a2 ⟩)
noncomputable def m41_11 (a0 : List (List Int)) (a1 a2 : Int) : Option ((Bool)) :=
  some true
noncomputable def W41_11 (a0 : List (List Int)) (a1 a2 : Int) : ((Bool)) → Way := fun y => fin Try.prog Try.f41 (.bool y)
noncomputable def t41_11 (a0 : List (List Int)) (a1 a2 : Int) : Tr (W41_11 a0 a1 a2) := (.ret .ret ⟨[(6, (.d (.bool true)))], [], [], 320⟩ true ⟨rfl, dr⟩)
theorem j41_11 (V : Env) (a0 : List (List Int)) (a1 a2 : Int) : Judge Try.prog V 24 (sub (body Try.f41) [1, 1, 1]) (s41_7 a0 a1 a2 ()) (m41_11 a0 a1 a2) (W41_11 a0 a1 a2) :=
  Judge.seg (tms := []) rfl [6] [] (t := t41_11 a0 a1 a2) (by kernel_rfl) (fun K => by kernel_rfl)
noncomputable def m41_12 (a0 : List (List Int)) (a1 a2 : Int) : Option ((Bool)) := (m41_10 a0 a1 a2).bind (fun yy => match yy with | .inl _ => m41_11 a0 a1 a2  | .inr z => some z : (Unit) ⊕ (Bool) → Option ((Bool)))
noncomputable def W41_12 (a0 : List (List Int)) (a1 a2 : Int) : ((Bool)) → Way := fun y => fin Try.prog Try.f41 (.bool y)
theorem j41_12 (V : Env) (a0 : List (List Int)) (a1 a2 : Int) : Judge Try.prog V 24 (sub (body Try.f41) [1, 1]) (s41_2_0 a0 a1 a2 ()) (m41_12 a0 a1 a2) (W41_12 a0 a1 a2) := 
  Judge.seqX (a := (sub (body Try.f41) [1, 1, 0])) (b := (sub (body Try.f41) [1, 1, 1])) (m2 := (fun yy => match yy with | .inl _ => m41_11 a0 a1 a2  | .inr z => some z : (Unit) ⊕ (Bool) → Option ((Bool)))) (by kernel_rfl) rfl (j41_10 V a0 a1 a2) (fun yy => match yy with | .inl _ => .inl ⟨rfl, _, fun _ h => h, j41_11 V a0 a1 a2 ⟩ | .inr z => .inr ⟨(by intro h; cases h), z, rfl, rfl, fun _ h => h⟩)
noncomputable def m41_13 (a0 : List (List Int)) (a1 a2 : Int) : Option ((Bool)) := (m41_2 a0 a1 a2).bind (fun yy => match yy with | .inl _ => m41_12 a0 a1 a2  | .inr z => some z : (Unit) ⊕ (Bool) → Option ((Bool)))
noncomputable def W41_13 (a0 : List (List Int)) (a1 a2 : Int) : ((Bool)) → Way := fun y => fin Try.prog Try.f41 (.bool y)
theorem j41_13 (V : Env) (a0 : List (List Int)) (a1 a2 : Int) : Judge Try.prog V 24 (sub (body Try.f41) [1]) (s41_1_0 a0 a1 a2 ()) (m41_13 a0 a1 a2) (W41_13 a0 a1 a2) := 
  Judge.seqX (a := (sub (body Try.f41) [1, 0])) (b := (sub (body Try.f41) [1, 1])) (m2 := (fun yy => match yy with | .inl _ => m41_12 a0 a1 a2  | .inr z => some z : (Unit) ⊕ (Bool) → Option ((Bool)))) (by kernel_rfl) rfl (j41_2 V a0 a1 a2) (fun yy => match yy with | .inl _ => .inl ⟨rfl, _, fun _ h => h, j41_12 V a0 a1 a2 ⟩ | .inr z => .inr ⟨(by intro h; cases h), z, rfl, rfl, fun _ h => h⟩)
noncomputable def m41_14 (a0 : List (List Int)) (a1 a2 : Int) : Option ((Bool)) := (m41_1 a0 a1 a2).bind (fun yy => match yy with | _ => m41_13 a0 a1 a2  : (Unit) → Option ((Bool)))
noncomputable def W41_14 (a0 : List (List Int)) (a1 a2 : Int) : ((Bool)) → Way := fun y => fin Try.prog Try.f41 (.bool y)
theorem j41_14 (V : Env) (a0 : List (List Int)) (a1 a2 : Int) : Judge Try.prog V 24 (sub (body Try.f41) []) ⟨argFr 0 [(eSl 1 (eSl 1 (D.int .i64)) a0), (.int .i64 a1), (.int .i64 a2)], [], [], 0⟩ (m41_14 a0 a1 a2) (W41_14 a0 a1 a2) := 
  Judge.seqX (a := (sub (body Try.f41) [0])) (b := (sub (body Try.f41) [1])) (m2 := (fun yy => match yy with | _ => m41_13 a0 a1 a2  : (Unit) → Option ((Bool)))) (by kernel_rfl) rfl (j41_1 V a0 a1 a2) (fun yy => match yy with | _ => .inl ⟨rfl, _, fun _ h => h, j41_13 V a0 a1 a2 ⟩)
noncomputable def m41 (a0 : List (List Int)) (a1 a2 : Int) : Option (Bool) := m41_14 a0 a1 a2
theorem p41 {a0 : List (List Int)} {a1 : Int} {a2 : Int} {r : Bool} (h : m41 a0 a1 a2 = some r) : PureAt Try.prog 41 [(eSl 1 (eSl 1 (D.int .i64)) a0), (.int .i64 a1), (.int .i64 a2)] (.bool r) :=
  pure_judge (R := Bool) (en := fun (r : Bool) => (.bool r)) (c := (sub (body Try.f41) [])) (ds := [(eSl 1 (eSl 1 (D.int .i64)) a0), (.int .i64 a1), (.int .i64 a2)]) (m := m41_14 a0 a1 a2) Try.func41 (by kernel_rfl) (by decide) (Nat.le_of_ble_eq_true rfl) (fun V => j41_14 V a0 a1 a2) h
/- flightdeck/flightdeckref31.rising -/
noncomputable def s42_1_0 (a0 : List Int) (y : Unit) : St := ⟨[(0, (.d (eSl 1 (D.int .i64) a0)))], [], [], 16⟩
noncomputable def m42_1 (a0 : List Int) : Option ((Unit)) :=
  some ()
noncomputable def W42_1 (a0 : List Int) : ((Unit)) → Way := fun y => go (s42_1_0 a0 y)
noncomputable def t42_1 (a0 : List Int) : Tr (W42_1 a0) := (.ret .normal (s42_1_0 a0 ()) () ⟨rfl, Weak.refl _⟩)
theorem j42_1 (V : Env) (a0 : List Int) : Judge Try.prog V 20 (sub (body Try.f42) [0]) ⟨argFr 0 [(eSl 1 (D.int .i64) a0)], [], [], 0⟩ (m42_1 a0) (W42_1 a0) :=
  Judge.seg (tms := []) rfl [0] [] (t := t42_1 a0) (by kernel_rfl) (fun K => by kernel_rfl)
noncomputable def s42_2_0 (a0 : List Int) (y : Unit) : St := ⟨[(0, (.d (eSl 1 (D.int .i64) a0))), (3, (.d (.int .i64 (1 : Int))))], [], [], 32⟩
noncomputable def m42_2 (a0 : List Int) : Option ((Unit)) :=
  some ()
noncomputable def W42_2 (a0 : List Int) : ((Unit)) → Way := fun y => go (s42_2_0 a0 y)
noncomputable def t42_2 (a0 : List Int) : Tr (W42_2 a0) := (.ret .normal (s42_2_0 a0 ()) () ⟨rfl, Weak.refl _⟩)
theorem j42_2 (V : Env) (a0 : List Int) : Judge Try.prog V 20 (sub (body Try.f42) [1, 0, 0]) (s42_1_0 a0 ()) (m42_2 a0) (W42_2 a0) :=
  Judge.seg (tms := []) rfl [0, 3] [] (t := t42_2 a0) (by kernel_rfl) (fun K => by kernel_rfl)
noncomputable def h42_4 (a0 : List Int) (y : Int) : St := ⟨[(0, (.d (eSl 1 (D.int .i64) a0))), (3, (.d (.int .i64 y)))], [], [], 304⟩
noncomputable def s42_5_0 (a0 : List Int) (s3 : Int) (y : Unit) : St := ⟨[(0, (.d (eSl 1 (D.int .i64) a0))), (3, (.d (.int .i64 (IntKind.wrap .i64 (s3 + (1 : Int))))))], [], [], 576⟩
noncomputable def s42_5_1 (a0 : List Int) (s3 : Int) (y : Unit) : St := ⟨[], [], [], 368⟩
noncomputable def m42_5 (a0 : List Int) (s3 : Int) : Option ((Unit) ⊕ (Unit) ⊕ (Bool)) :=
  if (decide (s3 < (a0.length : Int))) = true then
    if (0 : Int) ≤ s3 then
      if s3 < (a0.length : Int) then
        if (0 : Int) ≤ (IntKind.wrap .i64 (s3 - (1 : Int))) then
          if (IntKind.wrap .i64 (s3 - (1 : Int))) < (a0.length : Int) then
            if (decide ((a0.getD s3.toNat default) ≤ (a0.getD (IntKind.wrap .i64 (s3 - (1 : Int))).toNat default))) = true then
              some (.inr (.inr false))
            else
              some (.inl ())
          else none
        else none
      else none
    else none
  else
    some (.inr (.inl ()))
noncomputable def W42_5 (a0 : List Int) (s3 : Int) : ((Unit) ⊕ (Unit) ⊕ (Bool)) → Way := fun y => match y with | .inl y => go (s42_5_0 a0 s3 y) | .inr (.inl y) => quit 0 (s42_5_1 a0 s3 y) | .inr (.inr y) => fin Try.prog Try.f42 (.bool y)
noncomputable def t42_5 (a0 : List Int) (s3 : Int) : Tr (W42_5 a0 s3) := (.ite (decide (s3 < (a0.length : Int))) (.need ((0 : Int) ≤ s3) inferInstance (.need (s3 < (a0.length : Int)) inferInstance (.need ((0 : Int) ≤ (IntKind.wrap .i64 (s3 - (1 : Int)))) inferInstance (.need ((IntKind.wrap .i64 (s3 - (1 : Int))) < (a0.length : Int)) inferInstance (.ite (decide ((a0.getD s3.toNat default) ≤ (a0.getD (IntKind.wrap .i64 (s3 - (1 : Int))).toNat default))) (.ret .ret ⟨[(0, (.d (eSl 1 (D.int .i64) a0))), (2, (.d (.bool false))), (3, (.d (.int .i64 s3)))], [], [], 544⟩ (.inr (.inr false)) ⟨rfl, dr⟩) (.ret .normal ⟨[(0, (.d (eSl 1 (D.int .i64) a0))), (2, .any), (3, (.d (.int .i64 (IntKind.wrap .i64 (s3 + (1 : Int))))))], [], [], 576⟩ (.inl ()) ⟨rfl, (weak_of [] [] (by kernel_rfl) ⟨dr, dr⟩ trivial)⟩)))))) (.ret (.exit 0) ⟨[(0, (.d (eSl 1 (D.int .i64) a0))), (2, .any), (3, (.d (.int .i64 s3)))], [], [], 368⟩ (.inr (.inl ())) ⟨rfl, (weak_of [] [] (by kernel_rfl) trivial trivial)⟩))
theorem j42_5 (V : Env) (a0 : List Int) (s3 : Int) : Judge Try.prog V 20 (sub (body Try.f42) [1, 0, 1, 0, 0]) (h42_4 a0 s3) (m42_5 a0 s3) (W42_5 a0 s3) :=
  Judge.seg (tms := []) rfl [0, 2, 3] [] (t := t42_5 a0 s3) (by kernel_rfl) (fun K => by kernel_rfl)
noncomputable def s42_6 (a0 : List Int) (y : Unit) : St := ⟨[], [], [], 368⟩
noncomputable def b42_7 (a0 : List Int) (s3 : Int) : Option ((Int) ⊕ ((Unit) ⊕ (Bool))) := (m42_5 a0 s3).map (fun z => match z with | .inl z => .inl (IntKind.wrap .i64 (s3 + (1 : Int))) | .inr (.inl z) => .inr (.inl z) | .inr (.inr z) => .inr (.inr z) : (Unit) ⊕ (Unit) ⊕ (Bool) → (Int) ⊕ ((Unit) ⊕ (Bool)))
noncomputable def m42_7 (a0 : List Int) : Option ((Unit) ⊕ (Bool)) := loopO (b42_7 a0) (1 : Int)
noncomputable def W42_7 (a0 : List Int) : ((Unit) ⊕ (Bool)) → Way := fun y => match y with | .inl y => quit 0 (s42_6 a0 y) | .inr y => fin Try.prog Try.f42 (.bool y)
theorem j42_7 (V : Env) (a0 : List Int) : Judge Try.prog V 20 (sub (body Try.f42) [1, 0, 1, 0]) (s42_2_0 a0 ()) (m42_7 a0) (W42_7 a0) :=
  Judge.loopS (c := (sub (body Try.f42) [1, 0, 1, 0, 0])) (by kernel_rfl) (h42_4 a0) (b42_7 a0) (1 : Int) rfl (weak_of [] [] (by kernel_rfl) ⟨dr, dr⟩ trivial) (by intro y; rcases y with y | y <;> exact fun h => by cases h)
    (fun s3 => Judge.map (fun z => match z with | .inl z => .inl (IntKind.wrap .i64 (s3 + (1 : Int))) | .inr (.inl z) => .inr (.inl z) | .inr (.inr z) => .inr (.inr z) : (Unit) ⊕ (Unit) ⊕ (Bool) → (Int) ⊕ ((Unit) ⊕ (Bool))) rfl (j42_5 V a0 s3) (fun z => match z with | .inl z => ⟨rfl, fun _ h => h.trans (weak_of [] [] (by kernel_rfl) ⟨dr, dr⟩ trivial)⟩ | .inr (.inl z) => ⟨rfl, fun _ h => h⟩ | .inr (.inr z) => ⟨rfl, fun _ h => h⟩))
noncomputable def m42_8 (a0 : List Int) : Option ((Unit) ⊕ (Bool)) := m42_7 a0
noncomputable def W42_8 (a0 : List Int) : ((Unit) ⊕ (Bool)) → Way := fun y => match y with | .inl y => go (s42_6 a0 y) | .inr y => fin Try.prog Try.f42 (.bool y)
theorem j42_8 (V : Env) (a0 : List Int) : Judge Try.prog V 20 (sub (body Try.f42) [1, 0, 1]) (s42_2_0 a0 ()) (m42_8 a0) (W42_8 a0) := Judge.blockS (id := 0) (c := (sub (body Try.f42) [1, 0, 1, 0])) (by kernel_rfl) (j42_7 V a0) (by intro y; rcases y with y | y <;> rfl)
noncomputable def m42_9 (a0 : List Int) : Option ((Unit) ⊕ (Bool)) := (m42_2 a0).bind (fun yy => match yy with | _ => m42_8 a0  : (Unit) → Option ((Unit) ⊕ (Bool)))
noncomputable def W42_9 (a0 : List Int) : ((Unit) ⊕ (Bool)) → Way := fun y => match y with | .inl y => go (s42_6 a0 y) | .inr y => fin Try.prog Try.f42 (.bool y)
theorem j42_9 (V : Env) (a0 : List Int) : Judge Try.prog V 20 (sub (body Try.f42) [1, 0]) (s42_1_0 a0 ()) (m42_9 a0) (W42_9 a0) := 
  Judge.seqX (a := (sub (body Try.f42) [1, 0, 0])) (b := (sub (body Try.f42) [1, 0, 1])) (m2 := (fun yy => match yy with | _ => m42_8 a0  : (Unit) → Option ((Unit) ⊕ (Bool)))) (by kernel_rfl) rfl (j42_2 V a0) (fun yy => match yy with | _ => .inl ⟨rfl, _, fun _ h => h, j42_8 V a0 ⟩)
noncomputable def m42_10 (a0 : List Int) : Option ((Bool)) :=
  some true
noncomputable def W42_10 (a0 : List Int) : ((Bool)) → Way := fun y => fin Try.prog Try.f42 (.bool y)
noncomputable def t42_10 (a0 : List Int) : Tr (W42_10 a0) := (.ret .ret ⟨[(2, (.d (.bool true)))], [], [], 384⟩ true ⟨rfl, dr⟩)
theorem j42_10 (V : Env) (a0 : List Int) : Judge Try.prog V 20 (sub (body Try.f42) [1, 1]) (s42_6 a0 ()) (m42_10 a0) (W42_10 a0) :=
  Judge.seg (tms := []) rfl [2] [] (t := t42_10 a0) (by kernel_rfl) (fun K => by kernel_rfl)
noncomputable def m42_11 (a0 : List Int) : Option ((Bool)) := (m42_9 a0).bind (fun yy => match yy with | .inl _ => m42_10 a0  | .inr z => some z : (Unit) ⊕ (Bool) → Option ((Bool)))
noncomputable def W42_11 (a0 : List Int) : ((Bool)) → Way := fun y => fin Try.prog Try.f42 (.bool y)
theorem j42_11 (V : Env) (a0 : List Int) : Judge Try.prog V 20 (sub (body Try.f42) [1]) (s42_1_0 a0 ()) (m42_11 a0) (W42_11 a0) := 
  Judge.seqX (a := (sub (body Try.f42) [1, 0])) (b := (sub (body Try.f42) [1, 1])) (m2 := (fun yy => match yy with | .inl _ => m42_10 a0  | .inr z => some z : (Unit) ⊕ (Bool) → Option ((Bool)))) (by kernel_rfl) rfl (j42_9 V a0) (fun yy => match yy with | .inl _ => .inl ⟨rfl, _, fun _ h => h, j42_10 V a0 ⟩ | .inr z => .inr ⟨(by intro h; cases h), z, rfl, rfl, fun _ h => h⟩)
noncomputable def m42_12 (a0 : List Int) : Option ((Bool)) := (m42_1 a0).bind (fun yy => match yy with | _ => m42_11 a0  : (Unit) → Option ((Bool)))
noncomputable def W42_12 (a0 : List Int) : ((Bool)) → Way := fun y => fin Try.prog Try.f42 (.bool y)
theorem j42_12 (V : Env) (a0 : List Int) : Judge Try.prog V 20 (sub (body Try.f42) []) ⟨argFr 0 [(eSl 1 (D.int .i64) a0)], [], [], 0⟩ (m42_12 a0) (W42_12 a0) := 
  Judge.seqX (a := (sub (body Try.f42) [0])) (b := (sub (body Try.f42) [1])) (m2 := (fun yy => match yy with | _ => m42_11 a0  : (Unit) → Option ((Bool)))) (by kernel_rfl) rfl (j42_1 V a0) (fun yy => match yy with | _ => .inl ⟨rfl, _, fun _ h => h, j42_11 V a0 ⟩)
noncomputable def m42 (a0 : List Int) : Option (Bool) := m42_12 a0
theorem p42 {a0 : List Int} {r : Bool} (h : m42 a0 = some r) : PureAt Try.prog 42 [(eSl 1 (D.int .i64) a0)] (.bool r) :=
  pure_judge (R := Bool) (en := fun (r : Bool) => (.bool r)) (c := (sub (body Try.f42) [])) (ds := [(eSl 1 (D.int .i64) a0)]) (m := m42_12 a0) Try.func42 (by kernel_rfl) (by decide) (Nat.le_of_ble_eq_true rfl) (fun V => j42_12 V a0) h
/- flightdeck/flightdeckref31.within -/
noncomputable def s43_1_0 (a0 : List Int) (a1 a2 : Int) (y : Unit) : St := ⟨[(0, (.d (eSl 1 (D.int .i64) a0))), (1, (.d (.int .i64 a1))), (2, (.d (.int .i64 a2)))], [], [], 16⟩
noncomputable def m43_1 (a0 : List Int) (a1 a2 : Int) : Option ((Unit)) :=
  some ()
noncomputable def W43_1 (a0 : List Int) (a1 a2 : Int) : ((Unit)) → Way := fun y => go (s43_1_0 a0 a1 a2 y)
noncomputable def t43_1 (a0 : List Int) (a1 a2 : Int) : Tr (W43_1 a0 a1 a2) := (.ret .normal (s43_1_0 a0 a1 a2 ()) () ⟨rfl, Weak.refl _⟩)
theorem j43_1 (V : Env) (a0 : List Int) (a1 a2 : Int) : Judge Try.prog V 24 (sub (body Try.f43) [0]) ⟨argFr 0 [(eSl 1 (D.int .i64) a0), (.int .i64 a1), (.int .i64 a2)], [], [], 0⟩ (m43_1 a0 a1 a2) (W43_1 a0 a1 a2) :=
  Judge.seg (tms := []) rfl [0, 1, 2] [] (t := t43_1 a0 a1 a2) (by kernel_rfl) (fun K => by kernel_rfl)
noncomputable def s43_2_0 (a0 : List Int) (a1 a2 : Int) (y : Unit) : St := ⟨[(1, (.d (.int .i64 a1))), (2, (.d (.int .i64 a2))), (9, (.d (eSl 1 (D.int .i64) a0))), (10, (.d (.int .i64 (a0.length : Int)))), (11, (.d (.int .i64 (0 : Int))))], [], [], 64⟩
noncomputable def m43_2 (a0 : List Int) (a1 a2 : Int) : Option ((Unit)) :=
  some ()
noncomputable def W43_2 (a0 : List Int) (a1 a2 : Int) : ((Unit)) → Way := fun y => go (s43_2_0 a0 a1 a2 y)
noncomputable def t43_2 (a0 : List Int) (a1 a2 : Int) : Tr (W43_2 a0 a1 a2) := (.ret .normal (s43_2_0 a0 a1 a2 ()) () ⟨rfl, Weak.refl _⟩)
theorem j43_2 (V : Env) (a0 : List Int) (a1 a2 : Int) : Judge Try.prog V 24 (sub (body Try.f43) [1, 0, 0]) (s43_1_0 a0 a1 a2 ()) (m43_2 a0 a1 a2) (W43_2 a0 a1 a2) :=
  Judge.seg (tms := []) rfl [1, 2, 9, 10, 11] [] (t := t43_2 a0 a1 a2) (by kernel_rfl) (fun K => by kernel_rfl)
noncomputable def h43_4 (a0 : List Int) (a1 a2 : Int) (y : Int) : St := ⟨[(1, (.d (.int .i64 a1))), (2, (.d (.int .i64 a2))), (9, (.d (eSl 1 (D.int .i64) a0))), (10, (.d (.int .i64 (a0.length : Int)))), (11, (.d (.int .i64 y)))], [], [], 288⟩
noncomputable def s43_5_0 (a0 : List Int) (a1 a2 s3 : Int) (y : Unit) : St := ⟨[(1, (.d (.int .i64 a1))), (2, (.d (.int .i64 a2))), (9, (.d (eSl 1 (D.int .i64) a0))), (10, (.d (.int .i64 (a0.length : Int)))), (11, (.d (.int .i64 (IntKind.wrap .i64 (s3 + (1 : Int))))))], [], [], 512⟩
noncomputable def s43_5_1 (a0 : List Int) (a1 a2 s3 : Int) (y : Unit) : St := ⟨[], [], [], 304⟩
noncomputable def m43_5 (a0 : List Int) (a1 a2 s3 : Int) : Option ((Unit) ⊕ (Unit) ⊕ (Bool)) :=
  if (decide (s3 < (a0.length : Int))) = true then
    if (0 : Int) ≤ s3 then
      if s3 < (a0.length : Int) then
        if ((decide ((a0.getD s3.toNat default) < a1)) || (decide (a2 < (a0.getD s3.toNat default)))) = true then
          some (.inr (.inr false))
        else
          some (.inl ())
      else none
    else none
  else
    some (.inr (.inl ()))
noncomputable def W43_5 (a0 : List Int) (a1 a2 s3 : Int) : ((Unit) ⊕ (Unit) ⊕ (Bool)) → Way := fun y => match y with | .inl y => go (s43_5_0 a0 a1 a2 s3 y) | .inr (.inl y) => quit 0 (s43_5_1 a0 a1 a2 s3 y) | .inr (.inr y) => fin Try.prog Try.f43 (.bool y)
noncomputable def t43_5 (a0 : List Int) (a1 a2 s3 : Int) : Tr (W43_5 a0 a1 a2 s3) := (.ite (decide (s3 < (a0.length : Int))) (.need ((0 : Int) ≤ s3) inferInstance (.need (s3 < (a0.length : Int)) inferInstance (.ite ((decide ((a0.getD s3.toNat default) < a1)) || (decide (a2 < (a0.getD s3.toNat default)))) (.ret .ret ⟨[(1, (.d (.int .i64 a1))), (2, (.d (.int .i64 a2))), (6, (.d (.bool false))), (9, (.d (eSl 1 (D.int .i64) a0))), (10, (.d (.int .i64 (a0.length : Int)))), (11, (.d (.int .i64 s3)))], [], [], 496⟩ (.inr (.inr false)) ⟨rfl, dr⟩) (.ret .normal ⟨[(1, (.d (.int .i64 a1))), (2, (.d (.int .i64 a2))), (6, .any), (9, (.d (eSl 1 (D.int .i64) a0))), (10, (.d (.int .i64 (a0.length : Int)))), (11, (.d (.int .i64 (IntKind.wrap .i64 (s3 + (1 : Int))))))], [], [], 512⟩ (.inl ()) ⟨rfl, (weak_of [] [] (by kernel_rfl) ⟨dr, dr, dr, dr, dr⟩ trivial)⟩)))) (.ret (.exit 0) ⟨[(1, (.d (.int .i64 a1))), (2, (.d (.int .i64 a2))), (6, .any), (9, (.d (eSl 1 (D.int .i64) a0))), (10, (.d (.int .i64 (a0.length : Int)))), (11, (.d (.int .i64 s3)))], [], [], 304⟩ (.inr (.inl ())) ⟨rfl, (weak_of [] [] (by kernel_rfl) trivial trivial)⟩))
theorem j43_5 (V : Env) (a0 : List Int) (a1 a2 s3 : Int) : Judge Try.prog V 24 (sub (body Try.f43) [1, 0, 1, 0, 0]) (h43_4 a0 a1 a2 s3) (m43_5 a0 a1 a2 s3) (W43_5 a0 a1 a2 s3) :=
  Judge.seg (tms := []) rfl [1, 2, 6, 9, 10, 11] [] (t := t43_5 a0 a1 a2 s3) (by kernel_rfl) (fun K => by kernel_rfl)
noncomputable def s43_6 (a0 : List Int) (a1 a2 : Int) (y : Unit) : St := ⟨[], [], [], 304⟩
noncomputable def b43_7 (a0 : List Int) (a1 a2 : Int) (s3 : Int) : Option ((Int) ⊕ ((Unit) ⊕ (Bool))) := (m43_5 a0 a1 a2 s3).map (fun z => match z with | .inl z => .inl (IntKind.wrap .i64 (s3 + (1 : Int))) | .inr (.inl z) => .inr (.inl z) | .inr (.inr z) => .inr (.inr z) : (Unit) ⊕ (Unit) ⊕ (Bool) → (Int) ⊕ ((Unit) ⊕ (Bool)))
noncomputable def m43_7 (a0 : List Int) (a1 a2 : Int) : Option ((Unit) ⊕ (Bool)) := loopO (b43_7 a0 a1 a2) (0 : Int)
noncomputable def W43_7 (a0 : List Int) (a1 a2 : Int) : ((Unit) ⊕ (Bool)) → Way := fun y => match y with | .inl y => quit 0 (s43_6 a0 a1 a2 y) | .inr y => fin Try.prog Try.f43 (.bool y)
theorem j43_7 (V : Env) (a0 : List Int) (a1 a2 : Int) : Judge Try.prog V 24 (sub (body Try.f43) [1, 0, 1, 0]) (s43_2_0 a0 a1 a2 ()) (m43_7 a0 a1 a2) (W43_7 a0 a1 a2) :=
  Judge.loopS (c := (sub (body Try.f43) [1, 0, 1, 0, 0])) (by kernel_rfl) (h43_4 a0 a1 a2) (b43_7 a0 a1 a2) (0 : Int) rfl (weak_of [] [] (by kernel_rfl) ⟨dr, dr, dr, dr, dr⟩ trivial) (by intro y; rcases y with y | y <;> exact fun h => by cases h)
    (fun s3 => Judge.map (fun z => match z with | .inl z => .inl (IntKind.wrap .i64 (s3 + (1 : Int))) | .inr (.inl z) => .inr (.inl z) | .inr (.inr z) => .inr (.inr z) : (Unit) ⊕ (Unit) ⊕ (Bool) → (Int) ⊕ ((Unit) ⊕ (Bool))) rfl (j43_5 V a0 a1 a2 s3) (fun z => match z with | .inl z => ⟨rfl, fun _ h => h.trans (weak_of [] [] (by kernel_rfl) ⟨dr, dr, dr, dr, dr⟩ trivial)⟩ | .inr (.inl z) => ⟨rfl, fun _ h => h⟩ | .inr (.inr z) => ⟨rfl, fun _ h => h⟩))
noncomputable def m43_8 (a0 : List Int) (a1 a2 : Int) : Option ((Unit) ⊕ (Bool)) := m43_7 a0 a1 a2
noncomputable def W43_8 (a0 : List Int) (a1 a2 : Int) : ((Unit) ⊕ (Bool)) → Way := fun y => match y with | .inl y => go (s43_6 a0 a1 a2 y) | .inr y => fin Try.prog Try.f43 (.bool y)
theorem j43_8 (V : Env) (a0 : List Int) (a1 a2 : Int) : Judge Try.prog V 24 (sub (body Try.f43) [1, 0, 1]) (s43_2_0 a0 a1 a2 ()) (m43_8 a0 a1 a2) (W43_8 a0 a1 a2) := Judge.blockS (id := 0) (c := (sub (body Try.f43) [1, 0, 1, 0])) (by kernel_rfl) (j43_7 V a0 a1 a2) (by intro y; rcases y with y | y <;> rfl)
noncomputable def m43_9 (a0 : List Int) (a1 a2 : Int) : Option ((Unit) ⊕ (Bool)) := (m43_2 a0 a1 a2).bind (fun yy => match yy with | _ => m43_8 a0 a1 a2  : (Unit) → Option ((Unit) ⊕ (Bool)))
noncomputable def W43_9 (a0 : List Int) (a1 a2 : Int) : ((Unit) ⊕ (Bool)) → Way := fun y => match y with | .inl y => go (s43_6 a0 a1 a2 y) | .inr y => fin Try.prog Try.f43 (.bool y)
theorem j43_9 (V : Env) (a0 : List Int) (a1 a2 : Int) : Judge Try.prog V 24 (sub (body Try.f43) [1, 0]) (s43_1_0 a0 a1 a2 ()) (m43_9 a0 a1 a2) (W43_9 a0 a1 a2) := 
  Judge.seqX (a := (sub (body Try.f43) [1, 0, 0])) (b := (sub (body Try.f43) [1, 0, 1])) (m2 := (fun yy => match yy with | _ => m43_8 a0 a1 a2  : (Unit) → Option ((Unit) ⊕ (Bool)))) (by kernel_rfl) rfl (j43_2 V a0 a1 a2) (fun yy => match yy with | _ => .inl ⟨rfl, _, fun _ h => h, j43_8 V a0 a1 a2 ⟩)
noncomputable def m43_10 (a0 : List Int) (a1 a2 : Int) : Option ((Bool)) :=
  some true
noncomputable def W43_10 (a0 : List Int) (a1 a2 : Int) : ((Bool)) → Way := fun y => fin Try.prog Try.f43 (.bool y)
noncomputable def t43_10 (a0 : List Int) (a1 a2 : Int) : Tr (W43_10 a0 a1 a2) := (.ret .ret ⟨[(6, (.d (.bool true)))], [], [], 320⟩ true ⟨rfl, dr⟩)
theorem j43_10 (V : Env) (a0 : List Int) (a1 a2 : Int) : Judge Try.prog V 24 (sub (body Try.f43) [1, 1]) (s43_6 a0 a1 a2 ()) (m43_10 a0 a1 a2) (W43_10 a0 a1 a2) :=
  Judge.seg (tms := []) rfl [6] [] (t := t43_10 a0 a1 a2) (by kernel_rfl) (fun K => by kernel_rfl)
noncomputable def m43_11 (a0 : List Int) (a1 a2 : Int) : Option ((Bool)) := (m43_9 a0 a1 a2).bind (fun yy => match yy with | .inl _ => m43_10 a0 a1 a2  | .inr z => some z : (Unit) ⊕ (Bool) → Option ((Bool)))
noncomputable def W43_11 (a0 : List Int) (a1 a2 : Int) : ((Bool)) → Way := fun y => fin Try.prog Try.f43 (.bool y)
theorem j43_11 (V : Env) (a0 : List Int) (a1 a2 : Int) : Judge Try.prog V 24 (sub (body Try.f43) [1]) (s43_1_0 a0 a1 a2 ()) (m43_11 a0 a1 a2) (W43_11 a0 a1 a2) := 
  Judge.seqX (a := (sub (body Try.f43) [1, 0])) (b := (sub (body Try.f43) [1, 1])) (m2 := (fun yy => match yy with | .inl _ => m43_10 a0 a1 a2  | .inr z => some z : (Unit) ⊕ (Bool) → Option ((Bool)))) (by kernel_rfl) rfl (j43_9 V a0 a1 a2) (fun yy => match yy with | .inl _ => .inl ⟨rfl, _, fun _ h => h, j43_10 V a0 a1 a2 ⟩ | .inr z => .inr ⟨(by intro h; cases h), z, rfl, rfl, fun _ h => h⟩)
noncomputable def m43_12 (a0 : List Int) (a1 a2 : Int) : Option ((Bool)) := (m43_1 a0 a1 a2).bind (fun yy => match yy with | _ => m43_11 a0 a1 a2  : (Unit) → Option ((Bool)))
noncomputable def W43_12 (a0 : List Int) (a1 a2 : Int) : ((Bool)) → Way := fun y => fin Try.prog Try.f43 (.bool y)
theorem j43_12 (V : Env) (a0 : List Int) (a1 a2 : Int) : Judge Try.prog V 24 (sub (body Try.f43) []) ⟨argFr 0 [(eSl 1 (D.int .i64) a0), (.int .i64 a1), (.int .i64 a2)], [], [], 0⟩ (m43_12 a0 a1 a2) (W43_12 a0 a1 a2) := 
  Judge.seqX (a := (sub (body Try.f43) [0])) (b := (sub (body Try.f43) [1])) (m2 := (fun yy => match yy with | _ => m43_11 a0 a1 a2  : (Unit) → Option ((Bool)))) (by kernel_rfl) rfl (j43_1 V a0 a1 a2) (fun yy => match yy with | _ => .inl ⟨rfl, _, fun _ h => h, j43_11 V a0 a1 a2 ⟩)
noncomputable def m43 (a0 : List Int) (a1 a2 : Int) : Option (Bool) := m43_12 a0 a1 a2
theorem p43 {a0 : List Int} {a1 : Int} {a2 : Int} {r : Bool} (h : m43 a0 a1 a2 = some r) : PureAt Try.prog 43 [(eSl 1 (D.int .i64) a0), (.int .i64 a1), (.int .i64 a2)] (.bool r) :=
  pure_judge (R := Bool) (en := fun (r : Bool) => (.bool r)) (c := (sub (body Try.f43) [])) (ds := [(eSl 1 (D.int .i64) a0), (.int .i64 a1), (.int .i64 a2)]) (m := m43_12 a0 a1 a2) Try.func43 (by kernel_rfl) (by decide) (Nat.le_of_ble_eq_true rfl) (fun V => j43_12 V a0 a1 a2) h
/- flightdeck/flightdeckref31.all -/
noncomputable def s44_1_0 (a0 : List (List Int)) (a1 a2 : Int) (y : Unit) : St := ⟨[(0, (.d (eSl 1 (eSl 1 (D.int .i64)) a0))), (1, (.d (.int .i64 a1))), (2, (.d (.int .i64 a2)))], [], [], 16⟩
noncomputable def m44_1 (a0 : List (List Int)) (a1 a2 : Int) : Option ((Unit)) :=
  some ()
noncomputable def W44_1 (a0 : List (List Int)) (a1 a2 : Int) : ((Unit)) → Way := fun y => go (s44_1_0 a0 a1 a2 y)
noncomputable def t44_1 (a0 : List (List Int)) (a1 a2 : Int) : Tr (W44_1 a0 a1 a2) := (.ret .normal (s44_1_0 a0 a1 a2 ()) () ⟨rfl, Weak.refl _⟩)
theorem j44_1 (V : Env) (a0 : List (List Int)) (a1 a2 : Int) : Judge Try.prog V 21 (sub (body Try.f44) [0]) ⟨argFr 0 [(eSl 1 (eSl 1 (D.int .i64)) a0), (.int .i64 a1), (.int .i64 a2)], [], [], 0⟩ (m44_1 a0 a1 a2) (W44_1 a0 a1 a2) :=
  Judge.seg (tms := []) rfl [0, 1, 2] [] (t := t44_1 a0 a1 a2) (by kernel_rfl) (fun K => by kernel_rfl)
noncomputable def s44_2_0 (a0 : List (List Int)) (a1 a2 : Int) (y : Unit) : St := ⟨[(1, (.d (.int .i64 a1))), (2, (.d (.int .i64 a2))), (9, (.d (eSl 1 (eSl 1 (D.int .i64)) a0))), (10, (.d (.int .i64 (a0.length : Int)))), (11, (.d (.int .i64 (0 : Int))))], [], [], 64⟩
noncomputable def m44_2 (a0 : List (List Int)) (a1 a2 : Int) : Option ((Unit)) :=
  some ()
noncomputable def W44_2 (a0 : List (List Int)) (a1 a2 : Int) : ((Unit)) → Way := fun y => go (s44_2_0 a0 a1 a2 y)
noncomputable def t44_2 (a0 : List (List Int)) (a1 a2 : Int) : Tr (W44_2 a0 a1 a2) := (.ret .normal (s44_2_0 a0 a1 a2 ()) () ⟨rfl, Weak.refl _⟩)
theorem j44_2 (V : Env) (a0 : List (List Int)) (a1 a2 : Int) : Judge Try.prog V 21 (sub (body Try.f44) [1, 0, 0]) (s44_1_0 a0 a1 a2 ()) (m44_2 a0 a1 a2) (W44_2 a0 a1 a2) :=
  Judge.seg (tms := []) rfl [1, 2, 9, 10, 11] [] (t := t44_2 a0 a1 a2) (by kernel_rfl) (fun K => by kernel_rfl)
noncomputable def h44_4 (a0 : List (List Int)) (a1 a2 : Int) (y : Int) : St := ⟨[(1, (.d (.int .i64 a1))), (2, (.d (.int .i64 a2))), (9, (.d (eSl 1 (eSl 1 (D.int .i64)) a0))), (10, (.d (.int .i64 (a0.length : Int)))), (11, (.d (.int .i64 y)))], [], [], 240⟩
noncomputable def s44_5_0 (a0 : List (List Int)) (a1 a2 s3 : Int) (y : Unit) : St := ⟨[(1, (.d (.int .i64 a1))), (2, (.d (.int .i64 a2))), (9, (.d (eSl 1 (eSl 1 (D.int .i64)) a0))), (10, (.d (.int .i64 (a0.length : Int)))), (11, (.d (.int .i64 (IntKind.wrap .i64 (s3 + (1 : Int))))))], [], [], 416⟩
noncomputable def s44_5_1 (a0 : List (List Int)) (a1 a2 s3 : Int) (y : Unit) : St := ⟨[], [], [], 256⟩
noncomputable def m44_5 (a0 : List (List Int)) (a1 a2 s3 : Int) : Option ((Unit) ⊕ (Unit) ⊕ (Bool)) :=
  if (decide (s3 < (a0.length : Int))) = true then
    if (0 : Int) ≤ s3 then
      if s3 < (a0.length : Int) then
        ((m43 (a0.getD s3.toNat default) a1 a2).bind fun r4_0 => some r4_0).bind fun x4 =>
          if (!x4) = true then
            some (.inr (.inr false))
          else
            some (.inl ())
      else none
    else none
  else
    some (.inr (.inl ()))
noncomputable def W44_5 (a0 : List (List Int)) (a1 a2 s3 : Int) : ((Unit) ⊕ (Unit) ⊕ (Bool)) → Way := fun y => match y with | .inl y => go (s44_5_0 a0 a1 a2 s3 y) | .inr (.inl y) => quit 0 (s44_5_1 a0 a1 a2 s3 y) | .inr (.inr y) => fin Try.prog Try.f44 (.bool y)
noncomputable def t44_5 (a0 : List (List Int)) (a1 a2 s3 : Int) : Tr (W44_5 a0 a1 a2 s3) := (.ite (decide (s3 < (a0.length : Int))) (.need ((0 : Int) ≤ s3) inferInstance (.need (s3 < (a0.length : Int)) inferInstance (.exi (Bool) ((m43 (a0.getD s3.toNat default) a1 a2).bind fun r4_0 => some r4_0) (fun x4 => (.p (PureAt Try.prog 43 [(eSl 1 (D.int .i64) (a0.getD s3.toNat default)), (.int .i64 a1), (.int .i64 a2)] (.bool x4)) (.fin 0))) (by intro x4 h; obtain ⟨r4_0, h1, h⟩ := Option.bind_eq_some_iff.1 h; cases h; exact ⟨p43 h1, trivial⟩) (fun x4 _ => (.ite (!x4) (.ret .ret ⟨[(1, (.d (.int .i64 a1))), (2, (.d (.int .i64 a2))), (6, (.d (.bool false))), (9, (.d (eSl 1 (eSl 1 (D.int .i64)) a0))), (10, (.d (.int .i64 (a0.length : Int)))), (11, (.d (.int .i64 s3)))], [], [], 400⟩ (.inr (.inr false)) ⟨rfl, dr⟩) (.ret .normal ⟨[(1, (.d (.int .i64 a1))), (2, (.d (.int .i64 a2))), (6, .any), (9, (.d (eSl 1 (eSl 1 (D.int .i64)) a0))), (10, (.d (.int .i64 (a0.length : Int)))), (11, (.d (.int .i64 (IntKind.wrap .i64 (s3 + (1 : Int))))))], [], [], 416⟩ (.inl ()) ⟨rfl, (weak_of [] [] (by kernel_rfl) ⟨dr, dr, dr, dr, dr⟩ trivial)⟩)))))) (.ret (.exit 0) ⟨[(1, (.d (.int .i64 a1))), (2, (.d (.int .i64 a2))), (6, .any), (9, (.d (eSl 1 (eSl 1 (D.int .i64)) a0))), (10, (.d (.int .i64 (a0.length : Int)))), (11, (.d (.int .i64 s3)))], [], [], 256⟩ (.inr (.inl ())) ⟨rfl, (weak_of [] [] (by kernel_rfl) trivial trivial)⟩))
theorem j44_5 (V : Env) (a0 : List (List Int)) (a1 a2 s3 : Int) : Judge Try.prog V 21 (sub (body Try.f44) [1, 0, 1, 0, 0]) (h44_4 a0 a1 a2 s3) (m44_5 a0 a1 a2 s3) (W44_5 a0 a1 a2 s3) :=
  Judge.seg (tms := [(4, ⟨Bool, fun x => [(18, (.bool x))]⟩)]) rfl [1, 2, 6, 9, 10, 11] [] (t := t44_5 a0 a1 a2 s3) (by kernel_rfl) (fun K => by kernel_rfl)
noncomputable def s44_6 (a0 : List (List Int)) (a1 a2 : Int) (y : Unit) : St := ⟨[], [], [], 256⟩
noncomputable def b44_7 (a0 : List (List Int)) (a1 a2 : Int) (s3 : Int) : Option ((Int) ⊕ ((Unit) ⊕ (Bool))) := (m44_5 a0 a1 a2 s3).map (fun z => match z with | .inl z => .inl (IntKind.wrap .i64 (s3 + (1 : Int))) | .inr (.inl z) => .inr (.inl z) | .inr (.inr z) => .inr (.inr z) : (Unit) ⊕ (Unit) ⊕ (Bool) → (Int) ⊕ ((Unit) ⊕ (Bool)))
noncomputable def m44_7 (a0 : List (List Int)) (a1 a2 : Int) : Option ((Unit) ⊕ (Bool)) := loopO (b44_7 a0 a1 a2) (0 : Int)
noncomputable def W44_7 (a0 : List (List Int)) (a1 a2 : Int) : ((Unit) ⊕ (Bool)) → Way := fun y => match y with | .inl y => quit 0 (s44_6 a0 a1 a2 y) | .inr y => fin Try.prog Try.f44 (.bool y)
theorem j44_7 (V : Env) (a0 : List (List Int)) (a1 a2 : Int) : Judge Try.prog V 21 (sub (body Try.f44) [1, 0, 1, 0]) (s44_2_0 a0 a1 a2 ()) (m44_7 a0 a1 a2) (W44_7 a0 a1 a2) :=
  Judge.loopS (c := (sub (body Try.f44) [1, 0, 1, 0, 0])) (by kernel_rfl) (h44_4 a0 a1 a2) (b44_7 a0 a1 a2) (0 : Int) rfl (weak_of [] [] (by kernel_rfl) ⟨dr, dr, dr, dr, dr⟩ trivial) (by intro y; rcases y with y | y <;> exact fun h => by cases h)
    (fun s3 => Judge.map (fun z => match z with | .inl z => .inl (IntKind.wrap .i64 (s3 + (1 : Int))) | .inr (.inl z) => .inr (.inl z) | .inr (.inr z) => .inr (.inr z) : (Unit) ⊕ (Unit) ⊕ (Bool) → (Int) ⊕ ((Unit) ⊕ (Bool))) rfl (j44_5 V a0 a1 a2 s3) (fun z => match z with | .inl z => ⟨rfl, fun _ h => h.trans (weak_of [] [] (by kernel_rfl) ⟨dr, dr, dr, dr, dr⟩ trivial)⟩ | .inr (.inl z) => ⟨rfl, fun _ h => h⟩ | .inr (.inr z) => ⟨rfl, fun _ h => h⟩))
noncomputable def m44_8 (a0 : List (List Int)) (a1 a2 : Int) : Option ((Unit) ⊕ (Bool)) := m44_7 a0 a1 a2
noncomputable def W44_8 (a0 : List (List Int)) (a1 a2 : Int) : ((Unit) ⊕ (Bool)) → Way := fun y => match y with | .inl y => go (s44_6 a0 a1 a2 y) | .inr y => fin Try.prog Try.f44 (.bool y)
theorem j44_8 (V : Env) (a0 : List (List Int)) (a1 a2 : Int) : Judge Try.prog V 21 (sub (body Try.f44) [1, 0, 1]) (s44_2_0 a0 a1 a2 ()) (m44_8 a0 a1 a2) (W44_8 a0 a1 a2) := Judge.blockS (id := 0) (c := (sub (body Try.f44) [1, 0, 1, 0])) (by kernel_rfl) (j44_7 V a0 a1 a2) (by intro y; rcases y with y | y <;> rfl)
noncomputable def m44_9 (a0 : List (List Int)) (a1 a2 : Int) : Option ((Unit) ⊕ (Bool)) := (m44_2 a0 a1 a2).bind (fun yy => match yy with | _ => m44_8 a0 a1 a2  : (Unit) → Option ((Unit) ⊕ (Bool)))
noncomputable def W44_9 (a0 : List (List Int)) (a1 a2 : Int) : ((Unit) ⊕ (Bool)) → Way := fun y => match y with | .inl y => go (s44_6 a0 a1 a2 y) | .inr y => fin Try.prog Try.f44 (.bool y)
theorem j44_9 (V : Env) (a0 : List (List Int)) (a1 a2 : Int) : Judge Try.prog V 21 (sub (body Try.f44) [1, 0]) (s44_1_0 a0 a1 a2 ()) (m44_9 a0 a1 a2) (W44_9 a0 a1 a2) := 
  Judge.seqX (a := (sub (body Try.f44) [1, 0, 0])) (b := (sub (body Try.f44) [1, 0, 1])) (m2 := (fun yy => match yy with | _ => m44_8 a0 a1 a2  : (Unit) → Option ((Unit) ⊕ (Bool)))) (by kernel_rfl) rfl (j44_2 V a0 a1 a2) (fun yy => match yy with | _ => .inl ⟨rfl, _, fun _ h => h, j44_8 V a0 a1 a2 ⟩)
noncomputable def m44_10 (a0 : List (List Int)) (a1 a2 : Int) : Option ((Bool)) :=
  some true
noncomputable def W44_10 (a0 : List (List Int)) (a1 a2 : Int) : ((Bool)) → Way := fun y => fin Try.prog Try.f44 (.bool y)
noncomputable def t44_10 (a0 : List (List Int)) (a1 a2 : Int) : Tr (W44_10 a0 a1 a2) := (.ret .ret ⟨[(6, (.d (.bool true)))], [], [], 272⟩ true ⟨rfl, dr⟩)
theorem j44_10 (V : Env) (a0 : List (List Int)) (a1 a2 : Int) : Judge Try.prog V 21 (sub (body Try.f44) [1, 1]) (s44_6 a0 a1 a2 ()) (m44_10 a0 a1 a2) (W44_10 a0 a1 a2) :=
  Judge.seg (tms := []) rfl [6] [] (t := t44_10 a0 a1 a2) (by kernel_rfl) (fun K => by kernel_rfl)
noncomputable def m44_11 (a0 : List (List Int)) (a1 a2 : Int) : Option ((Bool)) := (m44_9 a0 a1 a2).bind (fun yy => match yy with | .inl _ => m44_10 a0 a1 a2  | .inr z => some z : (Unit) ⊕ (Bool) → Option ((Bool)))
noncomputable def W44_11 (a0 : List (List Int)) (a1 a2 : Int) : ((Bool)) → Way := fun y => fin Try.prog Try.f44 (.bool y)
theorem j44_11 (V : Env) (a0 : List (List Int)) (a1 a2 : Int) : Judge Try.prog V 21 (sub (body Try.f44) [1]) (s44_1_0 a0 a1 a2 ()) (m44_11 a0 a1 a2) (W44_11 a0 a1 a2) := 
  Judge.seqX (a := (sub (body Try.f44) [1, 0])) (b := (sub (body Try.f44) [1, 1])) (m2 := (fun yy => match yy with | .inl _ => m44_10 a0 a1 a2  | .inr z => some z : (Unit) ⊕ (Bool) → Option ((Bool)))) (by kernel_rfl) rfl (j44_9 V a0 a1 a2) (fun yy => match yy with | .inl _ => .inl ⟨rfl, _, fun _ h => h, j44_10 V a0 a1 a2 ⟩ | .inr z => .inr ⟨(by intro h; cases h), z, rfl, rfl, fun _ h => h⟩)
noncomputable def m44_12 (a0 : List (List Int)) (a1 a2 : Int) : Option ((Bool)) := (m44_1 a0 a1 a2).bind (fun yy => match yy with | _ => m44_11 a0 a1 a2  : (Unit) → Option ((Bool)))
noncomputable def W44_12 (a0 : List (List Int)) (a1 a2 : Int) : ((Bool)) → Way := fun y => fin Try.prog Try.f44 (.bool y)
theorem j44_12 (V : Env) (a0 : List (List Int)) (a1 a2 : Int) : Judge Try.prog V 21 (sub (body Try.f44) []) ⟨argFr 0 [(eSl 1 (eSl 1 (D.int .i64)) a0), (.int .i64 a1), (.int .i64 a2)], [], [], 0⟩ (m44_12 a0 a1 a2) (W44_12 a0 a1 a2) := 
  Judge.seqX (a := (sub (body Try.f44) [0])) (b := (sub (body Try.f44) [1])) (m2 := (fun yy => match yy with | _ => m44_11 a0 a1 a2  : (Unit) → Option ((Bool)))) (by kernel_rfl) rfl (j44_1 V a0 a1 a2) (fun yy => match yy with | _ => .inl ⟨rfl, _, fun _ h => h, j44_11 V a0 a1 a2 ⟩)
noncomputable def m44 (a0 : List (List Int)) (a1 a2 : Int) : Option (Bool) := m44_12 a0 a1 a2
theorem p44 {a0 : List (List Int)} {a1 : Int} {a2 : Int} {r : Bool} (h : m44 a0 a1 a2 = some r) : PureAt Try.prog 44 [(eSl 1 (eSl 1 (D.int .i64)) a0), (.int .i64 a1), (.int .i64 a2)] (.bool r) :=
  pure_judge (R := Bool) (en := fun (r : Bool) => (.bool r)) (c := (sub (body Try.f44) [])) (ds := [(eSl 1 (eSl 1 (D.int .i64)) a0), (.int .i64 a1), (.int .i64 a2)]) (m := m44_12 a0 a1 a2) Try.func44 (by kernel_rfl) (by decide) (Nat.le_of_ble_eq_true rfl) (fun V => j44_12 V a0 a1 a2) h
/- flightdeck/flightdeckref31.climbs -/
noncomputable def s45_1_0 (a0 : T25) (y : Unit) : St := ⟨[(1, (.ptr 0 0))], [(0, (.cells (g25 a0)))], [], 32⟩
noncomputable def m45_1 (a0 : T25) : Option ((Unit)) :=
  some ()
noncomputable def W45_1 (a0 : T25) : ((Unit)) → Way := fun y => go (s45_1_0 a0 y)
noncomputable def t45_1 (a0 : T25) : Tr (W45_1 a0) := (.ret .normal (s45_1_0 a0 ()) () ⟨rfl, Weak.refl _⟩)
theorem j45_1 (V : Env) (a0 : T25) : Judge Try.prog V 76 (sub (body Try.f45) [0]) ⟨argFr 0 [(e25 a0)], [], [], 0⟩ (m45_1 a0) (W45_1 a0) :=
  Judge.seg (tms := []) rfl [1] [0] (t := t45_1 a0) (by kernel_rfl) (fun K => by kernel_rfl)
noncomputable def s45_2_0 (a0 : T25) (y : Unit) : St := ⟨[(1, (.ptr 0 0)), (8, (.d (eSl 1 (eSl 1 (D.int .i64)) a0.Climb))), (9, (.d (.int .i64 (a0.Climb.length : Int)))), (10, (.d (.int .i64 (0 : Int))))], [(0, (.cells (g25 a0)))], [], 96⟩
noncomputable def m45_2 (a0 : T25) : Option ((Unit)) :=
  some ()
noncomputable def W45_2 (a0 : T25) : ((Unit)) → Way := fun y => go (s45_2_0 a0 y)
noncomputable def t45_2 (a0 : T25) : Tr (W45_2 a0) := (.ret .normal (s45_2_0 a0 ()) () ⟨rfl, Weak.refl _⟩)
theorem j45_2 (V : Env) (a0 : T25) : Judge Try.prog V 76 (sub (body Try.f45) [1, 0, 0]) (s45_1_0 a0 ()) (m45_2 a0) (W45_2 a0) :=
  Judge.seg (tms := []) rfl [1, 8, 9, 10] [0] (t := t45_2 a0) (by kernel_rfl) (fun K => by kernel_rfl)
noncomputable def h45_4 (a0 : T25) (y : Int) : St := ⟨[(1, (.ptr 0 0)), (8, (.d (eSl 1 (eSl 1 (D.int .i64)) a0.Climb))), (9, (.d (.int .i64 (a0.Climb.length : Int)))), (10, (.d (.int .i64 y)))], [(0, (.cells (g25 a0)))], [], 1248⟩
noncomputable def s45_5_0 (a0 : T25) (s3 : Int) (y : Unit) : St := ⟨[(1, (.ptr 0 0)), (8, (.d (eSl 1 (eSl 1 (D.int .i64)) a0.Climb))), (9, (.d (.int .i64 (a0.Climb.length : Int)))), (10, (.d (.int .i64 s3))), (11, (.d (.bool (decide (s3 < (a0.Climb.length : Int))))))], [(0, (.cells (g25 a0)))], [], 1264⟩
noncomputable def m45_5 (a0 : T25) (s3 : Int) : Option ((Unit)) :=
  some ()
noncomputable def W45_5 (a0 : T25) (s3 : Int) : ((Unit)) → Way := fun y => go (s45_5_0 a0 s3 y)
noncomputable def t45_5 (a0 : T25) (s3 : Int) : Tr (W45_5 a0 s3) := (.ret .normal (s45_5_0 a0 s3 ()) () ⟨rfl, Weak.refl _⟩)
theorem j45_5 (V : Env) (a0 : T25) (s3 : Int) : Judge Try.prog V 76 (sub (body Try.f45) [1, 0, 1, 0, 0, 0]) (h45_4 a0 s3) (m45_5 a0 s3) (W45_5 a0 s3) :=
  Judge.seg (tms := []) rfl [1, 8, 9, 10, 11] [0] (t := t45_5 a0 s3) (by kernel_rfl) (fun K => by kernel_rfl)
noncomputable def s45_6_0 (a0 : T25) (s3 : Int) (y : Unit) : St := ⟨[(1, (.ptr 0 0)), (8, (.d (eSl 1 (eSl 1 (D.int .i64)) a0.Climb))), (9, (.d (.int .i64 (a0.Climb.length : Int)))), (10, (.d (.int .i64 s3)))], [(0, (.cells (g25 a0)))], [], 1264⟩
noncomputable def s45_6_1 (a0 : T25) (s3 : Int) (y : Unit) : St := ⟨[], [], [], 1264⟩
noncomputable def m45_6 (a0 : T25) (s3 : Int) : Option ((Unit) ⊕ (Unit)) :=
  if (decide (s3 < (a0.Climb.length : Int))) = true then
    some (.inl ())
  else
    some (.inr ())
noncomputable def W45_6 (a0 : T25) (s3 : Int) : ((Unit) ⊕ (Unit)) → Way := fun y => match y with | .inl y => go (s45_6_0 a0 s3 y) | .inr y => quit 0 (s45_6_1 a0 s3 y)
noncomputable def t45_6 (a0 : T25) (s3 : Int) : Tr (W45_6 a0 s3) := (.ite (decide (s3 < (a0.Climb.length : Int))) (.ret .normal (s45_6_0 a0 s3 ()) (.inl ()) ⟨rfl, Weak.refl _⟩) (.ret (.exit 0) ⟨[(1, (.ptr 0 0)), (8, (.d (eSl 1 (eSl 1 (D.int .i64)) a0.Climb))), (9, (.d (.int .i64 (a0.Climb.length : Int)))), (10, (.d (.int .i64 s3)))], [(0, (.cells (g25 a0)))], [], 1264⟩ (.inr ()) ⟨rfl, (weak_of [] [] (by kernel_rfl) trivial trivial)⟩))
theorem j45_6 (V : Env) (a0 : T25) (s3 : Int) : Judge Try.prog V 76 (sub (body Try.f45) [1, 0, 1, 0, 0, 1, 0]) (s45_5_0 a0 s3 ()) (m45_6 a0 s3) (W45_6 a0 s3) :=
  Judge.seg (tms := []) rfl [1, 8, 9, 10] [0] (t := t45_6 a0 s3) (by kernel_rfl) (fun K => by kernel_rfl)
noncomputable def s45_7_0 (a0 : T25) (s3 : Int) (y : Unit) : St := ⟨[(1, (.ptr 0 0)), (3, (.d (.int .i64 s3))), (4, (.d (eSl 1 (D.int .i64) (a0.Climb.getD s3.toNat default)))), (8, (.d (eSl 1 (eSl 1 (D.int .i64)) a0.Climb))), (9, (.d (.int .i64 (a0.Climb.length : Int)))), (10, (.d (.int .i64 s3)))], [(0, (.cells (g25 a0)))], [], 1344⟩
noncomputable def m45_7 (a0 : T25) (s3 : Int) : Option ((Unit)) :=
  if (0 : Int) ≤ s3 then
    if s3 < (a0.Climb.length : Int) then
      some ()
    else none
  else none
noncomputable def W45_7 (a0 : T25) (s3 : Int) : ((Unit)) → Way := fun y => go (s45_7_0 a0 s3 y)
noncomputable def t45_7 (a0 : T25) (s3 : Int) : Tr (W45_7 a0 s3) := (.need ((0 : Int) ≤ s3) inferInstance (.need (s3 < (a0.Climb.length : Int)) inferInstance (.ret .normal (s45_7_0 a0 s3 ()) () ⟨rfl, Weak.refl _⟩)))
theorem j45_7 (V : Env) (a0 : T25) (s3 : Int) : Judge Try.prog V 76 (sub (body Try.f45) [1, 0, 1, 0, 0, 1, 1, 0, 0, 0]) (s45_6_0 a0 s3 ()) (m45_7 a0 s3) (W45_7 a0 s3) :=
  Judge.seg (tms := []) rfl [1, 3, 4, 8, 9, 10] [0] (t := t45_7 a0 s3) (by kernel_rfl) (fun K => by kernel_rfl)
noncomputable def s45_8_0 (a0 : T25) (s3 : Int) (y : Unit) : St := ⟨[(1, (.ptr 0 0)), (3, (.d (.int .i64 s3))), (4, (.d (eSl 1 (D.int .i64) (a0.Climb.getD s3.toNat default)))), (8, (.d (eSl 1 (eSl 1 (D.int .i64)) a0.Climb))), (9, (.d (.int .i64 (a0.Climb.length : Int)))), (10, (.d (.int .i64 s3))), (15, (.d (eSl 1 (D.int .i64) (a0.Climb.getD s3.toNat default)))), (16, (.d (.int .i64 ((a0.Climb.getD s3.toNat default).length : Int)))), (17, (.d (.int .i64 (0 : Int))))], [(0, (.cells (g25 a0)))], [], 1392⟩
noncomputable def m45_8 (a0 : T25) (s3 : Int) : Option ((Unit)) :=
  some ()
noncomputable def W45_8 (a0 : T25) (s3 : Int) : ((Unit)) → Way := fun y => go (s45_8_0 a0 s3 y)
noncomputable def t45_8 (a0 : T25) (s3 : Int) : Tr (W45_8 a0 s3) := (.ret .normal (s45_8_0 a0 s3 ()) () ⟨rfl, Weak.refl _⟩)
theorem j45_8 (V : Env) (a0 : T25) (s3 : Int) : Judge Try.prog V 76 (sub (body Try.f45) [1, 0, 1, 0, 0, 1, 1, 0, 0, 1, 0]) (s45_7_0 a0 s3 ()) (m45_8 a0 s3) (W45_8 a0 s3) :=
  Judge.seg (tms := []) rfl [1, 3, 4, 8, 9, 10, 15, 16, 17] [0] (t := t45_8 a0 s3) (by kernel_rfl) (fun K => by kernel_rfl)
noncomputable def h45_10 (a0 : T25) (s3 : Int) (y : Int) : St := ⟨[(1, (.ptr 0 0)), (3, (.d (.int .i64 s3))), (4, (.d (eSl 1 (D.int .i64) (a0.Climb.getD s3.toNat default)))), (8, (.d (eSl 1 (eSl 1 (D.int .i64)) a0.Climb))), (9, (.d (.int .i64 (a0.Climb.length : Int)))), (10, (.d (.int .i64 s3))), (15, (.d (eSl 1 (D.int .i64) (a0.Climb.getD s3.toNat default)))), (16, (.d (.int .i64 ((a0.Climb.getD s3.toNat default).length : Int)))), (17, (.d (.int .i64 y)))], [(0, (.cells (g25 a0)))], [], 2352⟩
noncomputable def s45_11_0 (a0 : T25) (s3 s9 : Int) (y : Unit) : St := ⟨[(1, (.ptr 0 0)), (3, (.d (.int .i64 s3))), (4, (.d (eSl 1 (D.int .i64) (a0.Climb.getD s3.toNat default)))), (8, (.d (eSl 1 (eSl 1 (D.int .i64)) a0.Climb))), (9, (.d (.int .i64 (a0.Climb.length : Int)))), (10, (.d (.int .i64 s3))), (15, (.d (eSl 1 (D.int .i64) (a0.Climb.getD s3.toNat default)))), (16, (.d (.int .i64 ((a0.Climb.getD s3.toNat default).length : Int)))), (17, (.d (.int .i64 (IntKind.wrap .i64 (s9 + (1 : Int))))))], [(0, (.cells (g25 a0)))], [], 3312⟩
noncomputable def s45_11_1 (a0 : T25) (s3 s9 : Int) (y : Unit) : St := ⟨[(1, (.ptr 0 0)), (8, (.d (eSl 1 (eSl 1 (D.int .i64)) a0.Climb))), (9, (.d (.int .i64 (a0.Climb.length : Int)))), (10, (.d (.int .i64 s3)))], [(0, (.cells (g25 a0)))], [], 2368⟩
noncomputable def m45_11 (a0 : T25) (s3 s9 : Int) : Option ((Unit) ⊕ (Unit) ⊕ (Bool)) :=
  if (decide (s9 < ((a0.Climb.getD s3.toNat default).length : Int))) = true then
    if (0 : Int) ≤ s9 then
      if s9 < ((a0.Climb.getD s3.toNat default).length : Int) then
        if (decide ((0 : Int) < s9)) = true → (0 : Int) ≤ (IntKind.wrap .i64 (s9 - (1 : Int))) then
          if (decide ((0 : Int) < s9)) = true → (IntKind.wrap .i64 (s9 - (1 : Int))) < ((a0.Climb.getD s3.toNat default).length : Int) then
            if ((decide ((0 : Int) < s9)) && (decide (((a0.Climb.getD s3.toNat default).getD (IntKind.wrap .i64 (s9 - (1 : Int))).toNat default) < ((a0.Climb.getD s3.toNat default).getD s9.toNat default)))) = true then
              some (.inr (.inr false))
            else
              if (decide ((0 : Int) < s3)) = true → (0 : Int) ≤ (IntKind.wrap .i64 (s3 - (1 : Int))) then
                if (decide ((0 : Int) < s3)) = true → (IntKind.wrap .i64 (s3 - (1 : Int))) < (a0.Climb.length : Int) then
                  if (decide ((0 : Int) < s3)) = true → (0 : Int) ≤ s9 then
                    if (decide ((0 : Int) < s3)) = true → s9 < ((a0.Climb.getD (IntKind.wrap .i64 (s3 - (1 : Int))).toNat default).length : Int) then
                      if ((decide ((0 : Int) < s3)) && (!(decide (((a0.Climb.getD (IntKind.wrap .i64 (s3 - (1 : Int))).toNat default).getD s9.toNat default) < ((a0.Climb.getD s3.toNat default).getD s9.toNat default))))) = true → (0 : Int) ≤ (IntKind.wrap .i64 (s3 - (1 : Int))) then
                        if ((decide ((0 : Int) < s3)) && (!(decide (((a0.Climb.getD (IntKind.wrap .i64 (s3 - (1 : Int))).toNat default).getD s9.toNat default) < ((a0.Climb.getD s3.toNat default).getD s9.toNat default))))) = true → (IntKind.wrap .i64 (s3 - (1 : Int))) < (a0.Climb.length : Int) then
                          if ((decide ((0 : Int) < s3)) && (!(decide (((a0.Climb.getD (IntKind.wrap .i64 (s3 - (1 : Int))).toNat default).getD s9.toNat default) < ((a0.Climb.getD s3.toNat default).getD s9.toNat default))))) = true → (0 : Int) ≤ s9 then
                            if ((decide ((0 : Int) < s3)) && (!(decide (((a0.Climb.getD (IntKind.wrap .i64 (s3 - (1 : Int))).toNat default).getD s9.toNat default) < ((a0.Climb.getD s3.toNat default).getD s9.toNat default))))) = true → s9 < ((a0.Climb.getD (IntKind.wrap .i64 (s3 - (1 : Int))).toNat default).length : Int) then
                              if ((decide ((0 : Int) < s3)) && (!(decide (((a0.Climb.getD (IntKind.wrap .i64 (s3 - (1 : Int))).toNat default).getD s9.toNat default) < ((a0.Climb.getD s3.toNat default).getD s9.toNat default))))) = true → (0 : Int) ≤ s3 then
                                if ((decide ((0 : Int) < s3)) && (!(decide (((a0.Climb.getD (IntKind.wrap .i64 (s3 - (1 : Int))).toNat default).getD s9.toNat default) < ((a0.Climb.getD s3.toNat default).getD s9.toNat default))))) = true → s3 < (a0.Alts.length : Int) then
                                  if ((decide ((0 : Int) < s3)) && (!(decide (((a0.Climb.getD (IntKind.wrap .i64 (s3 - (1 : Int))).toNat default).getD s9.toNat default) < ((a0.Climb.getD s3.toNat default).getD s9.toNat default))))) = true → (0 : Int) ≤ (IntKind.wrap .i64 (s3 - (1 : Int))) then
                                    if ((decide ((0 : Int) < s3)) && (!(decide (((a0.Climb.getD (IntKind.wrap .i64 (s3 - (1 : Int))).toNat default).getD s9.toNat default) < ((a0.Climb.getD s3.toNat default).getD s9.toNat default))))) = true → (IntKind.wrap .i64 (s3 - (1 : Int))) < (a0.Alts.length : Int) then
                                      if ((decide ((0 : Int) < s3)) && ((decide (((a0.Climb.getD (IntKind.wrap .i64 (s3 - (1 : Int))).toNat default).getD s9.toNat default) < ((a0.Climb.getD s3.toNat default).getD s9.toNat default))) || (decide ((IntKind.wrap .i64 ((a0.Alts.getD s3.toNat default) - (a0.Alts.getD (IntKind.wrap .i64 (s3 - (1 : Int))).toNat default))) < (IntKind.wrap .i64 (((a0.Climb.getD (IntKind.wrap .i64 (s3 - (1 : Int))).toNat default).getD s9.toNat default) - ((a0.Climb.getD s3.toNat default).getD s9.toNat default))))))) = true then
                                        some (.inr (.inr false))
                                      else
                                        some (.inl ())
                                    else none
                                  else none
                                else none
                              else none
                            else none
                          else none
                        else none
                      else none
                    else none
                  else none
                else none
              else none
          else none
        else none
      else none
    else none
  else
    some (.inr (.inl ()))
noncomputable def W45_11 (a0 : T25) (s3 s9 : Int) : ((Unit) ⊕ (Unit) ⊕ (Bool)) → Way := fun y => match y with | .inl y => go (s45_11_0 a0 s3 s9 y) | .inr (.inl y) => quit 2 (s45_11_1 a0 s3 s9 y) | .inr (.inr y) => fin Try.prog Try.f45 (.bool y)
noncomputable def t45_11 (a0 : T25) (s3 s9 : Int) : Tr (W45_11 a0 s3 s9) := (.ite (decide (s9 < ((a0.Climb.getD s3.toNat default).length : Int))) (.need ((0 : Int) ≤ s9) inferInstance (.need (s9 < ((a0.Climb.getD s3.toNat default).length : Int)) inferInstance (.needG (decide ((0 : Int) < s9)) ((0 : Int) ≤ (IntKind.wrap .i64 (s9 - (1 : Int)))) inferInstance (.needG (decide ((0 : Int) < s9)) ((IntKind.wrap .i64 (s9 - (1 : Int))) < ((a0.Climb.getD s3.toNat default).length : Int)) inferInstance (.ite ((decide ((0 : Int) < s9)) && (decide (((a0.Climb.getD s3.toNat default).getD (IntKind.wrap .i64 (s9 - (1 : Int))).toNat default) < ((a0.Climb.getD s3.toNat default).getD s9.toNat default)))) (.ret .ret ⟨[(1, (.ptr 0 0)), (2, (.d (.bool false))), (3, (.d (.int .i64 s3))), (4, (.d (eSl 1 (D.int .i64) (a0.Climb.getD s3.toNat default)))), (8, (.d (eSl 1 (eSl 1 (D.int .i64)) a0.Climb))), (9, (.d (.int .i64 (a0.Climb.length : Int)))), (10, (.d (.int .i64 s3))), (15, (.d (eSl 1 (D.int .i64) (a0.Climb.getD s3.toNat default)))), (16, (.d (.int .i64 ((a0.Climb.getD s3.toNat default).length : Int)))), (17, (.d (.int .i64 s9)))], [(0, (.cells (g25 a0)))], [], 2640⟩ (.inr (.inr false)) ⟨rfl, dr⟩) (.needG (decide ((0 : Int) < s3)) ((0 : Int) ≤ (IntKind.wrap .i64 (s3 - (1 : Int)))) inferInstance (.needG (decide ((0 : Int) < s3)) ((IntKind.wrap .i64 (s3 - (1 : Int))) < (a0.Climb.length : Int)) inferInstance (.needG (decide ((0 : Int) < s3)) ((0 : Int) ≤ s9) inferInstance (.needG (decide ((0 : Int) < s3)) (s9 < ((a0.Climb.getD (IntKind.wrap .i64 (s3 - (1 : Int))).toNat default).length : Int)) inferInstance (.needG ((decide ((0 : Int) < s3)) && (!(decide (((a0.Climb.getD (IntKind.wrap .i64 (s3 - (1 : Int))).toNat default).getD s9.toNat default) < ((a0.Climb.getD s3.toNat default).getD s9.toNat default))))) ((0 : Int) ≤ (IntKind.wrap .i64 (s3 - (1 : Int)))) inferInstance (.needG ((decide ((0 : Int) < s3)) && (!(decide (((a0.Climb.getD (IntKind.wrap .i64 (s3 - (1 : Int))).toNat default).getD s9.toNat default) < ((a0.Climb.getD s3.toNat default).getD s9.toNat default))))) ((IntKind.wrap .i64 (s3 - (1 : Int))) < (a0.Climb.length : Int)) inferInstance (.needG ((decide ((0 : Int) < s3)) && (!(decide (((a0.Climb.getD (IntKind.wrap .i64 (s3 - (1 : Int))).toNat default).getD s9.toNat default) < ((a0.Climb.getD s3.toNat default).getD s9.toNat default))))) ((0 : Int) ≤ s9) inferInstance (.needG ((decide ((0 : Int) < s3)) && (!(decide (((a0.Climb.getD (IntKind.wrap .i64 (s3 - (1 : Int))).toNat default).getD s9.toNat default) < ((a0.Climb.getD s3.toNat default).getD s9.toNat default))))) (s9 < ((a0.Climb.getD (IntKind.wrap .i64 (s3 - (1 : Int))).toNat default).length : Int)) inferInstance (.needG ((decide ((0 : Int) < s3)) && (!(decide (((a0.Climb.getD (IntKind.wrap .i64 (s3 - (1 : Int))).toNat default).getD s9.toNat default) < ((a0.Climb.getD s3.toNat default).getD s9.toNat default))))) ((0 : Int) ≤ s3) inferInstance (.needG ((decide ((0 : Int) < s3)) && (!(decide (((a0.Climb.getD (IntKind.wrap .i64 (s3 - (1 : Int))).toNat default).getD s9.toNat default) < ((a0.Climb.getD s3.toNat default).getD s9.toNat default))))) (s3 < (a0.Alts.length : Int)) inferInstance (.needG ((decide ((0 : Int) < s3)) && (!(decide (((a0.Climb.getD (IntKind.wrap .i64 (s3 - (1 : Int))).toNat default).getD s9.toNat default) < ((a0.Climb.getD s3.toNat default).getD s9.toNat default))))) ((0 : Int) ≤ (IntKind.wrap .i64 (s3 - (1 : Int)))) inferInstance (.needG ((decide ((0 : Int) < s3)) && (!(decide (((a0.Climb.getD (IntKind.wrap .i64 (s3 - (1 : Int))).toNat default).getD s9.toNat default) < ((a0.Climb.getD s3.toNat default).getD s9.toNat default))))) ((IntKind.wrap .i64 (s3 - (1 : Int))) < (a0.Alts.length : Int)) inferInstance (.ite ((decide ((0 : Int) < s3)) && ((decide (((a0.Climb.getD (IntKind.wrap .i64 (s3 - (1 : Int))).toNat default).getD s9.toNat default) < ((a0.Climb.getD s3.toNat default).getD s9.toNat default))) || (decide ((IntKind.wrap .i64 ((a0.Alts.getD s3.toNat default) - (a0.Alts.getD (IntKind.wrap .i64 (s3 - (1 : Int))).toNat default))) < (IntKind.wrap .i64 (((a0.Climb.getD (IntKind.wrap .i64 (s3 - (1 : Int))).toNat default).getD s9.toNat default) - ((a0.Climb.getD s3.toNat default).getD s9.toNat default))))))) (.ret .ret ⟨[(1, (.ptr 0 0)), (2, (.d (.bool false))), (3, (.d (.int .i64 s3))), (4, (.d (eSl 1 (D.int .i64) (a0.Climb.getD s3.toNat default)))), (8, (.d (eSl 1 (eSl 1 (D.int .i64)) a0.Climb))), (9, (.d (.int .i64 (a0.Climb.length : Int)))), (10, (.d (.int .i64 s3))), (15, (.d (eSl 1 (D.int .i64) (a0.Climb.getD s3.toNat default)))), (16, (.d (.int .i64 ((a0.Climb.getD s3.toNat default).length : Int)))), (17, (.d (.int .i64 s9)))], [(0, (.cells (g25 a0)))], [], 3296⟩ (.inr (.inr false)) ⟨rfl, dr⟩) (.ret .normal ⟨[(1, (.ptr 0 0)), (2, .any), (3, (.d (.int .i64 s3))), (4, (.d (eSl 1 (D.int .i64) (a0.Climb.getD s3.toNat default)))), (8, (.d (eSl 1 (eSl 1 (D.int .i64)) a0.Climb))), (9, (.d (.int .i64 (a0.Climb.length : Int)))), (10, (.d (.int .i64 s3))), (15, (.d (eSl 1 (D.int .i64) (a0.Climb.getD s3.toNat default)))), (16, (.d (.int .i64 ((a0.Climb.getD s3.toNat default).length : Int)))), (17, (.d (.int .i64 (IntKind.wrap .i64 (s9 + (1 : Int))))))], [(0, (.cells (g25 a0)))], [], 3312⟩ (.inl ()) ⟨rfl, (weak_of [(0, 0)] [] (by kernel_rfl) ⟨⟨rfl, rfl⟩, dr, dr, dr, dr, dr, dr, dr, dr⟩ ⟨_, _, rfl, rfl, ⟨dr, dr, dr, dr, dr, dr, dr, dr, dr, dr, dr, dr, dr, dr, dr, trivial⟩⟩)⟩))))))))))))))))))) (.ret (.exit 2) ⟨[(1, (.ptr 0 0)), (2, .any), (3, (.d (.int .i64 s3))), (4, (.d (eSl 1 (D.int .i64) (a0.Climb.getD s3.toNat default)))), (8, (.d (eSl 1 (eSl 1 (D.int .i64)) a0.Climb))), (9, (.d (.int .i64 (a0.Climb.length : Int)))), (10, (.d (.int .i64 s3))), (15, (.d (eSl 1 (D.int .i64) (a0.Climb.getD s3.toNat default)))), (16, (.d (.int .i64 ((a0.Climb.getD s3.toNat default).length : Int)))), (17, (.d (.int .i64 s9)))], [(0, (.cells (g25 a0)))], [], 2368⟩ (.inr (.inl ())) ⟨rfl, (weak_of [(0, 0)] [] (by kernel_rfl) ⟨⟨rfl, rfl⟩, dr, dr, dr⟩ ⟨_, _, rfl, rfl, ⟨dr, dr, dr, dr, dr, dr, dr, dr, dr, dr, dr, dr, dr, dr, dr, trivial⟩⟩)⟩))
theorem j45_11 (V : Env) (a0 : T25) (s3 s9 : Int) : Judge Try.prog V 76 (sub (body Try.f45) [1, 0, 1, 0, 0, 1, 1, 0, 0, 1, 1, 0, 0]) (h45_10 a0 s3 s9) (m45_11 a0 s3 s9) (W45_11 a0 s3 s9) :=
  Judge.seg (tms := []) rfl [1, 2, 3, 4, 8, 9, 10, 15, 16, 17] [0] (t := t45_11 a0 s3 s9) (by kernel_rfl) (fun K => by kernel_rfl)
noncomputable def s45_12 (a0 : T25) (s3 : Int) (y : Unit) : St := ⟨[(1, (.ptr 0 0)), (8, (.d (eSl 1 (eSl 1 (D.int .i64)) a0.Climb))), (9, (.d (.int .i64 (a0.Climb.length : Int)))), (10, (.d (.int .i64 s3)))], [(0, (.cells (g25 a0)))], [], 2368⟩
noncomputable def b45_13 (a0 : T25) (s3 : Int) (s9 : Int) : Option ((Int) ⊕ ((Unit) ⊕ (Bool))) := (m45_11 a0 s3 s9).map (fun z => match z with | .inl z => .inl (IntKind.wrap .i64 (s9 + (1 : Int))) | .inr (.inl z) => .inr (.inl z) | .inr (.inr z) => .inr (.inr z) : (Unit) ⊕ (Unit) ⊕ (Bool) → (Int) ⊕ ((Unit) ⊕ (Bool)))
noncomputable def m45_13 (a0 : T25) (s3 : Int) : Option ((Unit) ⊕ (Bool)) := loopO (b45_13 a0 s3) (0 : Int)
noncomputable def W45_13 (a0 : T25) (s3 : Int) : ((Unit) ⊕ (Bool)) → Way := fun y => match y with | .inl y => quit 2 (s45_12 a0 s3 y) | .inr y => fin Try.prog Try.f45 (.bool y)
theorem j45_13 (V : Env) (a0 : T25) (s3 : Int) : Judge Try.prog V 76 (sub (body Try.f45) [1, 0, 1, 0, 0, 1, 1, 0, 0, 1, 1, 0]) (s45_8_0 a0 s3 ()) (m45_13 a0 s3) (W45_13 a0 s3) :=
  Judge.loopS (c := (sub (body Try.f45) [1, 0, 1, 0, 0, 1, 1, 0, 0, 1, 1, 0, 0])) (by kernel_rfl) (h45_10 a0 s3) (b45_13 a0 s3) (0 : Int) rfl (weak_of [(0, 0)] [] (by kernel_rfl) ⟨⟨rfl, rfl⟩, dr, dr, dr, dr, dr, dr, dr, dr⟩ ⟨_, _, rfl, rfl, ⟨dr, dr, dr, dr, dr, dr, dr, dr, dr, dr, dr, dr, dr, dr, dr, trivial⟩⟩) (by intro y; rcases y with y | y <;> exact fun h => by cases h)
    (fun s9 => Judge.map (fun z => match z with | .inl z => .inl (IntKind.wrap .i64 (s9 + (1 : Int))) | .inr (.inl z) => .inr (.inl z) | .inr (.inr z) => .inr (.inr z) : (Unit) ⊕ (Unit) ⊕ (Bool) → (Int) ⊕ ((Unit) ⊕ (Bool))) rfl (j45_11 V a0 s3 s9) (fun z => match z with | .inl z => ⟨rfl, fun _ h => h.trans (weak_of [(0, 0)] [] (by kernel_rfl) ⟨⟨rfl, rfl⟩, dr, dr, dr, dr, dr, dr, dr, dr⟩ ⟨_, _, rfl, rfl, ⟨dr, dr, dr, dr, dr, dr, dr, dr, dr, dr, dr, dr, dr, dr, dr, trivial⟩⟩)⟩ | .inr (.inl z) => ⟨rfl, fun _ h => h⟩ | .inr (.inr z) => ⟨rfl, fun _ h => h⟩))
noncomputable def m45_14 (a0 : T25) (s3 : Int) : Option ((Unit) ⊕ (Bool)) := m45_13 a0 s3
noncomputable def W45_14 (a0 : T25) (s3 : Int) : ((Unit) ⊕ (Bool)) → Way := fun y => match y with | .inl y => go (s45_12 a0 s3 y) | .inr y => fin Try.prog Try.f45 (.bool y)
theorem j45_14 (V : Env) (a0 : T25) (s3 : Int) : Judge Try.prog V 76 (sub (body Try.f45) [1, 0, 1, 0, 0, 1, 1, 0, 0, 1, 1]) (s45_8_0 a0 s3 ()) (m45_14 a0 s3) (W45_14 a0 s3) := Judge.blockS (id := 2) (c := (sub (body Try.f45) [1, 0, 1, 0, 0, 1, 1, 0, 0, 1, 1, 0])) (by kernel_rfl) (j45_13 V a0 s3) (by intro y; rcases y with y | y <;> rfl)
noncomputable def m45_15 (a0 : T25) (s3 : Int) : Option ((Unit) ⊕ (Bool)) := (m45_8 a0 s3).bind (fun yy => match yy with | _ => m45_14 a0 s3  : (Unit) → Option ((Unit) ⊕ (Bool)))
noncomputable def W45_15 (a0 : T25) (s3 : Int) : ((Unit) ⊕ (Bool)) → Way := fun y => match y with | .inl y => go (s45_12 a0 s3 y) | .inr y => fin Try.prog Try.f45 (.bool y)
theorem j45_15 (V : Env) (a0 : T25) (s3 : Int) : Judge Try.prog V 76 (sub (body Try.f45) [1, 0, 1, 0, 0, 1, 1, 0, 0, 1]) (s45_7_0 a0 s3 ()) (m45_15 a0 s3) (W45_15 a0 s3) := 
  Judge.seqX (a := (sub (body Try.f45) [1, 0, 1, 0, 0, 1, 1, 0, 0, 1, 0])) (b := (sub (body Try.f45) [1, 0, 1, 0, 0, 1, 1, 0, 0, 1, 1])) (m2 := (fun yy => match yy with | _ => m45_14 a0 s3  : (Unit) → Option ((Unit) ⊕ (Bool)))) (by kernel_rfl) rfl (j45_8 V a0 s3) (fun yy => match yy with | _ => .inl ⟨rfl, _, fun _ h => h, j45_14 V a0 s3 ⟩)
noncomputable def m45_16 (a0 : T25) (s3 : Int) : Option ((Unit) ⊕ (Bool)) := (m45_7 a0 s3).bind (fun yy => match yy with | _ => m45_15 a0 s3  : (Unit) → Option ((Unit) ⊕ (Bool)))
noncomputable def W45_16 (a0 : T25) (s3 : Int) : ((Unit) ⊕ (Bool)) → Way := fun y => match y with | .inl y => go (s45_12 a0 s3 y) | .inr y => fin Try.prog Try.f45 (.bool y)
theorem j45_16 (V : Env) (a0 : T25) (s3 : Int) : Judge Try.prog V 76 (sub (body Try.f45) [1, 0, 1, 0, 0, 1, 1, 0, 0]) (s45_6_0 a0 s3 ()) (m45_16 a0 s3) (W45_16 a0 s3) := 
  Judge.seqX (a := (sub (body Try.f45) [1, 0, 1, 0, 0, 1, 1, 0, 0, 0])) (b := (sub (body Try.f45) [1, 0, 1, 0, 0, 1, 1, 0, 0, 1])) (m2 := (fun yy => match yy with | _ => m45_15 a0 s3  : (Unit) → Option ((Unit) ⊕ (Bool)))) (by kernel_rfl) rfl (j45_7 V a0 s3) (fun yy => match yy with | _ => .inl ⟨rfl, _, fun _ h => h, j45_15 V a0 s3 ⟩)
noncomputable def m45_17 (a0 : T25) (s3 : Int) : Option ((Unit) ⊕ (Bool)) := m45_16 a0 s3
noncomputable def W45_17 (a0 : T25) (s3 : Int) : ((Unit) ⊕ (Bool)) → Way := fun y => match y with | .inl y => go (s45_12 a0 s3 y) | .inr y => fin Try.prog Try.f45 (.bool y)
theorem j45_17 (V : Env) (a0 : T25) (s3 : Int) : Judge Try.prog V 76 (sub (body Try.f45) [1, 0, 1, 0, 0, 1, 1, 0]) (s45_6_0 a0 s3 ()) (m45_17 a0 s3) (W45_17 a0 s3) := Judge.blockS (id := 1) (c := (sub (body Try.f45) [1, 0, 1, 0, 0, 1, 1, 0, 0])) (by kernel_rfl) (j45_16 V a0 s3) (by intro y; rcases y with y | y <;> rfl)
noncomputable def s45_18_0 (a0 : T25) (s3 : Int) (y : Unit) : St := ⟨[(1, (.ptr 0 0)), (8, (.d (eSl 1 (eSl 1 (D.int .i64)) a0.Climb))), (9, (.d (.int .i64 (a0.Climb.length : Int)))), (10, (.d (.int .i64 (IntKind.wrap .i64 (s3 + (1 : Int))))))], [(0, (.cells (g25 a0)))], [], 2400⟩
noncomputable def m45_18 (a0 : T25) (s3 : Int) : Option ((Unit)) :=
  some ()
noncomputable def W45_18 (a0 : T25) (s3 : Int) : ((Unit)) → Way := fun y => go (s45_18_0 a0 s3 y)
noncomputable def t45_18 (a0 : T25) (s3 : Int) : Tr (W45_18 a0 s3) := (.ret .normal (s45_18_0 a0 s3 ()) () ⟨rfl, Weak.refl _⟩)
theorem j45_18 (V : Env) (a0 : T25) (s3 : Int) : Judge Try.prog V 76 (sub (body Try.f45) [1, 0, 1, 0, 0, 1, 1, 1]) (s45_12 a0 s3 ()) (m45_18 a0 s3) (W45_18 a0 s3) :=
  Judge.seg (tms := []) rfl [1, 8, 9, 10] [0] (t := t45_18 a0 s3) (by kernel_rfl) (fun K => by kernel_rfl)
noncomputable def m45_19 (a0 : T25) (s3 : Int) : Option ((Unit) ⊕ (Bool)) := (m45_17 a0 s3).bind (fun yy => match yy with | .inl _ => (m45_18 a0 s3 ).map (fun z => match z with | z => .inl z : (Unit) → (Unit) ⊕ (Bool)) | .inr z => some (.inr z) : (Unit) ⊕ (Bool) → Option ((Unit) ⊕ (Bool)))
noncomputable def W45_19 (a0 : T25) (s3 : Int) : ((Unit) ⊕ (Bool)) → Way := fun y => match y with | .inl y => go (s45_18_0 a0 s3 y) | .inr y => fin Try.prog Try.f45 (.bool y)
theorem j45_19 (V : Env) (a0 : T25) (s3 : Int) : Judge Try.prog V 76 (sub (body Try.f45) [1, 0, 1, 0, 0, 1, 1]) (s45_6_0 a0 s3 ()) (m45_19 a0 s3) (W45_19 a0 s3) := 
  Judge.seqX (a := (sub (body Try.f45) [1, 0, 1, 0, 0, 1, 1, 0])) (b := (sub (body Try.f45) [1, 0, 1, 0, 0, 1, 1, 1])) (m2 := (fun yy => match yy with | .inl _ => (m45_18 a0 s3 ).map (fun z => match z with | z => .inl z : (Unit) → (Unit) ⊕ (Bool)) | .inr z => some (.inr z) : (Unit) ⊕ (Bool) → Option ((Unit) ⊕ (Bool)))) (by kernel_rfl) rfl (j45_17 V a0 s3) (fun yy => match yy with | .inl _ => .inl ⟨rfl, _, fun _ h => h, Judge.map (fun z => match z with | z => .inl z : (Unit) → (Unit) ⊕ (Bool)) rfl (j45_18 V a0 s3 ) (fun z => match z with | z => ⟨rfl, fun _ h => h⟩)⟩ | .inr z => .inr ⟨(by intro h; cases h), .inr z, rfl, rfl, fun _ h => h⟩)
noncomputable def m45_20 (a0 : T25) (s3 : Int) : Option ((Unit) ⊕ (Bool) ⊕ (Unit)) := (m45_6 a0 s3).bind (fun yy => match yy with | .inl _ => (m45_19 a0 s3 ).map (fun z => match z with | .inl z => .inl z | .inr z => .inr (.inl z) : (Unit) ⊕ (Bool) → (Unit) ⊕ (Bool) ⊕ (Unit)) | .inr z => some (.inr (.inr z)) : (Unit) ⊕ (Unit) → Option ((Unit) ⊕ (Bool) ⊕ (Unit)))
noncomputable def W45_20 (a0 : T25) (s3 : Int) : ((Unit) ⊕ (Bool) ⊕ (Unit)) → Way := fun y => match y with | .inl y => go (s45_18_0 a0 s3 y) | .inr (.inl y) => fin Try.prog Try.f45 (.bool y) | .inr (.inr y) => quit 0 (s45_6_1 a0 s3 y)
theorem j45_20 (V : Env) (a0 : T25) (s3 : Int) : Judge Try.prog V 76 (sub (body Try.f45) [1, 0, 1, 0, 0, 1]) (s45_5_0 a0 s3 ()) (m45_20 a0 s3) (W45_20 a0 s3) := 
  Judge.seqX (a := (sub (body Try.f45) [1, 0, 1, 0, 0, 1, 0])) (b := (sub (body Try.f45) [1, 0, 1, 0, 0, 1, 1])) (m2 := (fun yy => match yy with | .inl _ => (m45_19 a0 s3 ).map (fun z => match z with | .inl z => .inl z | .inr z => .inr (.inl z) : (Unit) ⊕ (Bool) → (Unit) ⊕ (Bool) ⊕ (Unit)) | .inr z => some (.inr (.inr z)) : (Unit) ⊕ (Unit) → Option ((Unit) ⊕ (Bool) ⊕ (Unit)))) (by kernel_rfl) rfl (j45_6 V a0 s3) (fun yy => match yy with | .inl _ => .inl ⟨rfl, _, fun _ h => h, Judge.map (fun z => match z with | .inl z => .inl z | .inr z => .inr (.inl z) : (Unit) ⊕ (Bool) → (Unit) ⊕ (Bool) ⊕ (Unit)) rfl (j45_19 V a0 s3 ) (fun z => match z with | .inl z => ⟨rfl, fun _ h => h⟩ | .inr z => ⟨rfl, fun _ h => h⟩)⟩ | .inr z => .inr ⟨(by intro h; cases h), .inr (.inr z), rfl, rfl, fun _ h => h⟩)
noncomputable def m45_21 (a0 : T25) (s3 : Int) : Option ((Unit) ⊕ (Bool) ⊕ (Unit)) := (m45_5 a0 s3).bind (fun yy => match yy with | _ => m45_20 a0 s3  : (Unit) → Option ((Unit) ⊕ (Bool) ⊕ (Unit)))
noncomputable def W45_21 (a0 : T25) (s3 : Int) : ((Unit) ⊕ (Bool) ⊕ (Unit)) → Way := fun y => match y with | .inl y => go (s45_18_0 a0 s3 y) | .inr (.inl y) => fin Try.prog Try.f45 (.bool y) | .inr (.inr y) => quit 0 (s45_6_1 a0 s3 y)
theorem j45_21 (V : Env) (a0 : T25) (s3 : Int) : Judge Try.prog V 76 (sub (body Try.f45) [1, 0, 1, 0, 0]) (h45_4 a0 s3) (m45_21 a0 s3) (W45_21 a0 s3) := 
  Judge.seqX (a := (sub (body Try.f45) [1, 0, 1, 0, 0, 0])) (b := (sub (body Try.f45) [1, 0, 1, 0, 0, 1])) (m2 := (fun yy => match yy with | _ => m45_20 a0 s3  : (Unit) → Option ((Unit) ⊕ (Bool) ⊕ (Unit)))) (by kernel_rfl) rfl (j45_5 V a0 s3) (fun yy => match yy with | _ => .inl ⟨rfl, _, fun _ h => h, j45_20 V a0 s3 ⟩)
noncomputable def s45_22 (a0 : T25) (y : Unit) : St := ⟨[], [], [], 1264⟩
noncomputable def b45_23 (a0 : T25) (s3 : Int) : Option ((Int) ⊕ ((Bool) ⊕ (Unit))) := (m45_21 a0 s3).map (fun z => match z with | .inl z => .inl (IntKind.wrap .i64 (s3 + (1 : Int))) | .inr (.inl z) => .inr (.inl z) | .inr (.inr z) => .inr (.inr z) : (Unit) ⊕ (Bool) ⊕ (Unit) → (Int) ⊕ ((Bool) ⊕ (Unit)))
noncomputable def m45_23 (a0 : T25) : Option ((Bool) ⊕ (Unit)) := loopO (b45_23 a0) (0 : Int)
noncomputable def W45_23 (a0 : T25) : ((Bool) ⊕ (Unit)) → Way := fun y => match y with | .inl y => fin Try.prog Try.f45 (.bool y) | .inr y => quit 0 (s45_22 a0 y)
theorem j45_23 (V : Env) (a0 : T25) : Judge Try.prog V 76 (sub (body Try.f45) [1, 0, 1, 0]) (s45_2_0 a0 ()) (m45_23 a0) (W45_23 a0) :=
  Judge.loopS (c := (sub (body Try.f45) [1, 0, 1, 0, 0])) (by kernel_rfl) (h45_4 a0) (b45_23 a0) (0 : Int) rfl (weak_of [(0, 0)] [] (by kernel_rfl) ⟨⟨rfl, rfl⟩, dr, dr, dr⟩ ⟨_, _, rfl, rfl, ⟨dr, dr, dr, dr, dr, dr, dr, dr, dr, dr, dr, dr, dr, dr, dr, trivial⟩⟩) (by intro y; rcases y with y | y <;> exact fun h => by cases h)
    (fun s3 => Judge.map (fun z => match z with | .inl z => .inl (IntKind.wrap .i64 (s3 + (1 : Int))) | .inr (.inl z) => .inr (.inl z) | .inr (.inr z) => .inr (.inr z) : (Unit) ⊕ (Bool) ⊕ (Unit) → (Int) ⊕ ((Bool) ⊕ (Unit))) rfl (j45_21 V a0 s3) (fun z => match z with | .inl z => ⟨rfl, fun _ h => h.trans (weak_of [(0, 0)] [] (by kernel_rfl) ⟨⟨rfl, rfl⟩, dr, dr, dr⟩ ⟨_, _, rfl, rfl, ⟨dr, dr, dr, dr, dr, dr, dr, dr, dr, dr, dr, dr, dr, dr, dr, trivial⟩⟩)⟩ | .inr (.inl z) => ⟨rfl, fun _ h => h⟩ | .inr (.inr z) => ⟨rfl, fun _ h => h⟩))
noncomputable def m45_24 (a0 : T25) : Option ((Bool) ⊕ (Unit)) := m45_23 a0
noncomputable def W45_24 (a0 : T25) : ((Bool) ⊕ (Unit)) → Way := fun y => match y with | .inl y => fin Try.prog Try.f45 (.bool y) | .inr y => go (s45_22 a0 y)
theorem j45_24 (V : Env) (a0 : T25) : Judge Try.prog V 76 (sub (body Try.f45) [1, 0, 1]) (s45_2_0 a0 ()) (m45_24 a0) (W45_24 a0) := Judge.blockS (id := 0) (c := (sub (body Try.f45) [1, 0, 1, 0])) (by kernel_rfl) (j45_23 V a0) (by intro y; rcases y with y | y <;> rfl)
noncomputable def m45_25 (a0 : T25) : Option ((Bool) ⊕ (Unit)) := (m45_2 a0).bind (fun yy => match yy with | _ => m45_24 a0  : (Unit) → Option ((Bool) ⊕ (Unit)))
noncomputable def W45_25 (a0 : T25) : ((Bool) ⊕ (Unit)) → Way := fun y => match y with | .inl y => fin Try.prog Try.f45 (.bool y) | .inr y => go (s45_22 a0 y)
theorem j45_25 (V : Env) (a0 : T25) : Judge Try.prog V 76 (sub (body Try.f45) [1, 0]) (s45_1_0 a0 ()) (m45_25 a0) (W45_25 a0) := 
  Judge.seqX (a := (sub (body Try.f45) [1, 0, 0])) (b := (sub (body Try.f45) [1, 0, 1])) (m2 := (fun yy => match yy with | _ => m45_24 a0  : (Unit) → Option ((Bool) ⊕ (Unit)))) (by kernel_rfl) rfl (j45_2 V a0) (fun yy => match yy with | _ => .inl ⟨rfl, _, fun _ h => h, j45_24 V a0 ⟩)
noncomputable def m45_26 (a0 : T25) : Option ((Bool)) :=
  some true
noncomputable def W45_26 (a0 : T25) : ((Bool)) → Way := fun y => fin Try.prog Try.f45 (.bool y)
noncomputable def t45_26 (a0 : T25) : Tr (W45_26 a0) := (.ret .ret ⟨[(2, (.d (.bool true)))], [], [], 1280⟩ true ⟨rfl, dr⟩)
theorem j45_26 (V : Env) (a0 : T25) : Judge Try.prog V 76 (sub (body Try.f45) [1, 1]) (s45_22 a0 ()) (m45_26 a0) (W45_26 a0) :=
  Judge.seg (tms := []) rfl [2] [] (t := t45_26 a0) (by kernel_rfl) (fun K => by kernel_rfl)
noncomputable def m45_27 (a0 : T25) : Option ((Bool)) := (m45_25 a0).bind (fun yy => match yy with | .inl z => some z | .inr _ => m45_26 a0  : (Bool) ⊕ (Unit) → Option ((Bool)))
noncomputable def W45_27 (a0 : T25) : ((Bool)) → Way := fun y => fin Try.prog Try.f45 (.bool y)
theorem j45_27 (V : Env) (a0 : T25) : Judge Try.prog V 76 (sub (body Try.f45) [1]) (s45_1_0 a0 ()) (m45_27 a0) (W45_27 a0) := 
  Judge.seqX (a := (sub (body Try.f45) [1, 0])) (b := (sub (body Try.f45) [1, 1])) (m2 := (fun yy => match yy with | .inl z => some z | .inr _ => m45_26 a0  : (Bool) ⊕ (Unit) → Option ((Bool)))) (by kernel_rfl) rfl (j45_25 V a0) (fun yy => match yy with | .inl z => .inr ⟨(by intro h; cases h), z, rfl, rfl, fun _ h => h⟩ | .inr _ => .inl ⟨rfl, _, fun _ h => h, j45_26 V a0 ⟩)
noncomputable def m45_28 (a0 : T25) : Option ((Bool)) := (m45_1 a0).bind (fun yy => match yy with | _ => m45_27 a0  : (Unit) → Option ((Bool)))
noncomputable def W45_28 (a0 : T25) : ((Bool)) → Way := fun y => fin Try.prog Try.f45 (.bool y)
theorem j45_28 (V : Env) (a0 : T25) : Judge Try.prog V 76 (sub (body Try.f45) []) ⟨argFr 0 [(e25 a0)], [], [], 0⟩ (m45_28 a0) (W45_28 a0) := 
  Judge.seqX (a := (sub (body Try.f45) [0])) (b := (sub (body Try.f45) [1])) (m2 := (fun yy => match yy with | _ => m45_27 a0  : (Unit) → Option ((Bool)))) (by kernel_rfl) rfl (j45_1 V a0) (fun yy => match yy with | _ => .inl ⟨rfl, _, fun _ h => h, j45_27 V a0 ⟩)
noncomputable def m45 (a0 : T25) : Option (Bool) := m45_28 a0
theorem p45 {a0 : T25} {r : Bool} (h : m45 a0 = some r) : PureAt Try.prog 45 [(e25 a0)] (.bool r) :=
  pure_judge (R := Bool) (en := fun (r : Bool) => (.bool r)) (c := (sub (body Try.f45) [])) (ds := [(e25 a0)]) (m := m45_28 a0) Try.func45 (by kernel_rfl) (by decide) (Nat.le_of_ble_eq_true rfl) (fun V => j45_28 V a0) h
/- flightdeck/flightdeckref31.flows -/
noncomputable def s46_1_0 (a0 : List (List Int)) (y : Unit) : St := ⟨[(0, (.d (eSl 1 (eSl 1 (D.int .i64)) a0)))], [], [], 16⟩
noncomputable def m46_1 (a0 : List (List Int)) : Option ((Unit)) :=
  some ()
noncomputable def W46_1 (a0 : List (List Int)) : ((Unit)) → Way := fun y => go (s46_1_0 a0 y)
noncomputable def t46_1 (a0 : List (List Int)) : Tr (W46_1 a0) := (.ret .normal (s46_1_0 a0 ()) () ⟨rfl, Weak.refl _⟩)
theorem j46_1 (V : Env) (a0 : List (List Int)) : Judge Try.prog V 62 (sub (body Try.f46) [0]) ⟨argFr 0 [(eSl 1 (eSl 1 (D.int .i64)) a0)], [], [], 0⟩ (m46_1 a0) (W46_1 a0) :=
  Judge.seg (tms := []) rfl [0] [] (t := t46_1 a0) (by kernel_rfl) (fun K => by kernel_rfl)
noncomputable def s46_2_0 (a0 : List (List Int)) (y : Unit) : St := ⟨[(0, (.d (eSl 1 (eSl 1 (D.int .i64)) a0))), (6, (.d (.int .i64 (a0.length : Int)))), (7, (.d (.int .i64 (0 : Int))))], [], [], 64⟩
noncomputable def m46_2 (a0 : List (List Int)) : Option ((Unit)) :=
  some ()
noncomputable def W46_2 (a0 : List (List Int)) : ((Unit)) → Way := fun y => go (s46_2_0 a0 y)
noncomputable def t46_2 (a0 : List (List Int)) : Tr (W46_2 a0) := (.ret .normal (s46_2_0 a0 ()) () ⟨rfl, Weak.refl _⟩)
theorem j46_2 (V : Env) (a0 : List (List Int)) : Judge Try.prog V 62 (sub (body Try.f46) [1, 0, 0]) (s46_1_0 a0 ()) (m46_2 a0) (W46_2 a0) :=
  Judge.seg (tms := []) rfl [0, 6, 7] [] (t := t46_2 a0) (by kernel_rfl) (fun K => by kernel_rfl)
noncomputable def h46_4 (a0 : List (List Int)) (y : Int) : St := ⟨[(0, (.d (eSl 1 (eSl 1 (D.int .i64)) a0))), (6, (.d (.int .i64 (a0.length : Int)))), (7, (.d (.int .i64 y)))], [], [], 1008⟩
noncomputable def s46_5_0 (a0 : List (List Int)) (s3 : Int) (y : Unit) : St := ⟨[(0, (.d (eSl 1 (eSl 1 (D.int .i64)) a0))), (6, (.d (.int .i64 (a0.length : Int)))), (7, (.d (.int .i64 s3))), (8, (.d (.bool (decide (s3 < (a0.length : Int))))))], [], [], 1024⟩
noncomputable def m46_5 (a0 : List (List Int)) (s3 : Int) : Option ((Unit)) :=
  some ()
noncomputable def W46_5 (a0 : List (List Int)) (s3 : Int) : ((Unit)) → Way := fun y => go (s46_5_0 a0 s3 y)
noncomputable def t46_5 (a0 : List (List Int)) (s3 : Int) : Tr (W46_5 a0 s3) := (.ret .normal (s46_5_0 a0 s3 ()) () ⟨rfl, Weak.refl _⟩)
theorem j46_5 (V : Env) (a0 : List (List Int)) (s3 : Int) : Judge Try.prog V 62 (sub (body Try.f46) [1, 0, 1, 0, 0, 0]) (h46_4 a0 s3) (m46_5 a0 s3) (W46_5 a0 s3) :=
  Judge.seg (tms := []) rfl [0, 6, 7, 8] [] (t := t46_5 a0 s3) (by kernel_rfl) (fun K => by kernel_rfl)
noncomputable def s46_6_0 (a0 : List (List Int)) (s3 : Int) (y : Unit) : St := ⟨[(0, (.d (eSl 1 (eSl 1 (D.int .i64)) a0))), (6, (.d (.int .i64 (a0.length : Int)))), (7, (.d (.int .i64 s3)))], [], [], 1024⟩
noncomputable def s46_6_1 (a0 : List (List Int)) (s3 : Int) (y : Unit) : St := ⟨[], [], [], 1024⟩
noncomputable def m46_6 (a0 : List (List Int)) (s3 : Int) : Option ((Unit) ⊕ (Unit)) :=
  if (decide (s3 < (a0.length : Int))) = true then
    some (.inl ())
  else
    some (.inr ())
noncomputable def W46_6 (a0 : List (List Int)) (s3 : Int) : ((Unit) ⊕ (Unit)) → Way := fun y => match y with | .inl y => go (s46_6_0 a0 s3 y) | .inr y => quit 0 (s46_6_1 a0 s3 y)
noncomputable def t46_6 (a0 : List (List Int)) (s3 : Int) : Tr (W46_6 a0 s3) := (.ite (decide (s3 < (a0.length : Int))) (.ret .normal (s46_6_0 a0 s3 ()) (.inl ()) ⟨rfl, Weak.refl _⟩) (.ret (.exit 0) ⟨[(0, (.d (eSl 1 (eSl 1 (D.int .i64)) a0))), (6, (.d (.int .i64 (a0.length : Int)))), (7, (.d (.int .i64 s3)))], [], [], 1024⟩ (.inr ()) ⟨rfl, (weak_of [] [] (by kernel_rfl) trivial trivial)⟩))
theorem j46_6 (V : Env) (a0 : List (List Int)) (s3 : Int) : Judge Try.prog V 62 (sub (body Try.f46) [1, 0, 1, 0, 0, 1, 0]) (s46_5_0 a0 s3 ()) (m46_6 a0 s3) (W46_6 a0 s3) :=
  Judge.seg (tms := []) rfl [0, 6, 7] [] (t := t46_6 a0 s3) (by kernel_rfl) (fun K => by kernel_rfl)
noncomputable def s46_7_0 (a0 : List (List Int)) (s3 : Int) (y : Unit) : St := ⟨[(0, (.d (eSl 1 (eSl 1 (D.int .i64)) a0))), (3, (.d (.int .i64 s3))), (6, (.d (.int .i64 (a0.length : Int)))), (7, (.d (.int .i64 s3)))], [], [], 1056⟩
noncomputable def m46_7 (a0 : List (List Int)) (s3 : Int) : Option ((Unit)) :=
  some ()
noncomputable def W46_7 (a0 : List (List Int)) (s3 : Int) : ((Unit)) → Way := fun y => go (s46_7_0 a0 s3 y)
noncomputable def t46_7 (a0 : List (List Int)) (s3 : Int) : Tr (W46_7 a0 s3) := (.ret .normal (s46_7_0 a0 s3 ()) () ⟨rfl, Weak.refl _⟩)
theorem j46_7 (V : Env) (a0 : List (List Int)) (s3 : Int) : Judge Try.prog V 62 (sub (body Try.f46) [1, 0, 1, 0, 0, 1, 1, 0, 0, 0]) (s46_6_0 a0 s3 ()) (m46_7 a0 s3) (W46_7 a0 s3) :=
  Judge.seg (tms := []) rfl [0, 3, 6, 7] [] (t := t46_7 a0 s3) (by kernel_rfl) (fun K => by kernel_rfl)
noncomputable def s46_8_0 (a0 : List (List Int)) (s3 : Int) (y : Unit) : St := ⟨[(0, (.d (eSl 1 (eSl 1 (D.int .i64)) a0))), (3, (.d (.int .i64 s3))), (6, (.d (.int .i64 (a0.length : Int)))), (7, (.d (.int .i64 s3))), (14, (.d (.int .i64 ((a0.getD s3.toNat default).length : Int)))), (15, (.d (.int .i64 (0 : Int))))], [], [], 1152⟩
noncomputable def m46_8 (a0 : List (List Int)) (s3 : Int) : Option ((Unit)) :=
  if (0 : Int) ≤ s3 then
    if s3 < (a0.length : Int) then
      some ()
    else none
  else none
noncomputable def W46_8 (a0 : List (List Int)) (s3 : Int) : ((Unit)) → Way := fun y => go (s46_8_0 a0 s3 y)
noncomputable def t46_8 (a0 : List (List Int)) (s3 : Int) : Tr (W46_8 a0 s3) := (.need ((0 : Int) ≤ s3) inferInstance (.need (s3 < (a0.length : Int)) inferInstance (.ret .normal (s46_8_0 a0 s3 ()) () ⟨rfl, Weak.refl _⟩)))
theorem j46_8 (V : Env) (a0 : List (List Int)) (s3 : Int) : Judge Try.prog V 62 (sub (body Try.f46) [1, 0, 1, 0, 0, 1, 1, 0, 0, 1, 0]) (s46_7_0 a0 s3 ()) (m46_8 a0 s3) (W46_8 a0 s3) :=
  Judge.seg (tms := []) rfl [0, 3, 6, 7, 14, 15] [] (t := t46_8 a0 s3) (by kernel_rfl) (fun K => by kernel_rfl)
noncomputable def h46_10 (a0 : List (List Int)) (s3 : Int) (y : Int) : St := ⟨[(0, (.d (eSl 1 (eSl 1 (D.int .i64)) a0))), (3, (.d (.int .i64 s3))), (6, (.d (.int .i64 (a0.length : Int)))), (7, (.d (.int .i64 s3))), (14, (.d (.int .i64 ((a0.getD s3.toNat default).length : Int)))), (15, (.d (.int .i64 y)))], [], [], 1904⟩
noncomputable def s46_11_0 (a0 : List (List Int)) (s3 s9 : Int) (y : Unit) : St := ⟨[(0, (.d (eSl 1 (eSl 1 (D.int .i64)) a0))), (3, (.d (.int .i64 s3))), (6, (.d (.int .i64 (a0.length : Int)))), (7, (.d (.int .i64 s3))), (14, (.d (.int .i64 ((a0.getD s3.toNat default).length : Int)))), (15, (.d (.int .i64 (IntKind.wrap .i64 (s9 + (1 : Int))))))], [], [], 2656⟩
noncomputable def s46_11_1 (a0 : List (List Int)) (s3 s9 : Int) (y : Unit) : St := ⟨[(0, (.d (eSl 1 (eSl 1 (D.int .i64)) a0))), (6, (.d (.int .i64 (a0.length : Int)))), (7, (.d (.int .i64 s3)))], [], [], 1920⟩
noncomputable def m46_11 (a0 : List (List Int)) (s3 s9 : Int) : Option ((Unit) ⊕ (Unit) ⊕ (Bool)) :=
  if (decide (s9 < ((a0.getD s3.toNat default).length : Int))) = true then
    if (decide ((0 : Int) < s3)) = true → (0 : Int) ≤ s3 then
      if (decide ((0 : Int) < s3)) = true → s3 < (a0.length : Int) then
        if (decide ((0 : Int) < s3)) = true → (0 : Int) ≤ s9 then
          if (decide ((0 : Int) < s3)) = true → s9 < ((a0.getD s3.toNat default).length : Int) then
            if (decide ((0 : Int) < s3)) = true → (0 : Int) ≤ (IntKind.wrap .i64 (s3 - (1 : Int))) then
              if (decide ((0 : Int) < s3)) = true → (IntKind.wrap .i64 (s3 - (1 : Int))) < (a0.length : Int) then
                if (decide ((0 : Int) < s3)) = true → (0 : Int) ≤ s9 then
                  if (decide ((0 : Int) < s3)) = true → s9 < ((a0.getD (IntKind.wrap .i64 (s3 - (1 : Int))).toNat default).length : Int) then
                    if ((!((decide ((0 : Int) < s3)) && (decide (((a0.getD (IntKind.wrap .i64 (s3 - (1 : Int))).toNat default).getD s9.toNat default) < ((a0.getD s3.toNat default).getD s9.toNat default))))) && (decide ((0 : Int) < s9))) = true → (0 : Int) ≤ s3 then
                      if ((!((decide ((0 : Int) < s3)) && (decide (((a0.getD (IntKind.wrap .i64 (s3 - (1 : Int))).toNat default).getD s9.toNat default) < ((a0.getD s3.toNat default).getD s9.toNat default))))) && (decide ((0 : Int) < s9))) = true → s3 < (a0.length : Int) then
                        if ((!((decide ((0 : Int) < s3)) && (decide (((a0.getD (IntKind.wrap .i64 (s3 - (1 : Int))).toNat default).getD s9.toNat default) < ((a0.getD s3.toNat default).getD s9.toNat default))))) && (decide ((0 : Int) < s9))) = true → (0 : Int) ≤ s9 then
                          if ((!((decide ((0 : Int) < s3)) && (decide (((a0.getD (IntKind.wrap .i64 (s3 - (1 : Int))).toNat default).getD s9.toNat default) < ((a0.getD s3.toNat default).getD s9.toNat default))))) && (decide ((0 : Int) < s9))) = true → s9 < ((a0.getD s3.toNat default).length : Int) then
                            if ((!((decide ((0 : Int) < s3)) && (decide (((a0.getD (IntKind.wrap .i64 (s3 - (1 : Int))).toNat default).getD s9.toNat default) < ((a0.getD s3.toNat default).getD s9.toNat default))))) && (decide ((0 : Int) < s9))) = true → (0 : Int) ≤ s3 then
                              if ((!((decide ((0 : Int) < s3)) && (decide (((a0.getD (IntKind.wrap .i64 (s3 - (1 : Int))).toNat default).getD s9.toNat default) < ((a0.getD s3.toNat default).getD s9.toNat default))))) && (decide ((0 : Int) < s9))) = true → s3 < (a0.length : Int) then
                                if ((!((decide ((0 : Int) < s3)) && (decide (((a0.getD (IntKind.wrap .i64 (s3 - (1 : Int))).toNat default).getD s9.toNat default) < ((a0.getD s3.toNat default).getD s9.toNat default))))) && (decide ((0 : Int) < s9))) = true → (0 : Int) ≤ (IntKind.wrap .i64 (s9 - (1 : Int))) then
                                  if ((!((decide ((0 : Int) < s3)) && (decide (((a0.getD (IntKind.wrap .i64 (s3 - (1 : Int))).toNat default).getD s9.toNat default) < ((a0.getD s3.toNat default).getD s9.toNat default))))) && (decide ((0 : Int) < s9))) = true → (IntKind.wrap .i64 (s9 - (1 : Int))) < ((a0.getD s3.toNat default).length : Int) then
                                    if (((decide ((0 : Int) < s3)) && (decide (((a0.getD (IntKind.wrap .i64 (s3 - (1 : Int))).toNat default).getD s9.toNat default) < ((a0.getD s3.toNat default).getD s9.toNat default)))) || ((decide ((0 : Int) < s9)) && (decide (((a0.getD s3.toNat default).getD s9.toNat default) < ((a0.getD s3.toNat default).getD (IntKind.wrap .i64 (s9 - (1 : Int))).toNat default))))) = true then
                                      some (.inr (.inr false))
                                    else
                                      some (.inl ())
                                  else none
                                else none
                              else none
                            else none
                          else none
                        else none
                      else none
                    else none
                  else none
                else none
              else none
            else none
          else none
        else none
      else none
    else none
  else
    some (.inr (.inl ()))
noncomputable def W46_11 (a0 : List (List Int)) (s3 s9 : Int) : ((Unit) ⊕ (Unit) ⊕ (Bool)) → Way := fun y => match y with | .inl y => go (s46_11_0 a0 s3 s9 y) | .inr (.inl y) => quit 2 (s46_11_1 a0 s3 s9 y) | .inr (.inr y) => fin Try.prog Try.f46 (.bool y)
noncomputable def t46_11 (a0 : List (List Int)) (s3 s9 : Int) : Tr (W46_11 a0 s3 s9) := (.ite (decide (s9 < ((a0.getD s3.toNat default).length : Int))) (.needG (decide ((0 : Int) < s3)) ((0 : Int) ≤ s3) inferInstance (.needG (decide ((0 : Int) < s3)) (s3 < (a0.length : Int)) inferInstance (.needG (decide ((0 : Int) < s3)) ((0 : Int) ≤ s9) inferInstance (.needG (decide ((0 : Int) < s3)) (s9 < ((a0.getD s3.toNat default).length : Int)) inferInstance (.needG (decide ((0 : Int) < s3)) ((0 : Int) ≤ (IntKind.wrap .i64 (s3 - (1 : Int)))) inferInstance (.needG (decide ((0 : Int) < s3)) ((IntKind.wrap .i64 (s3 - (1 : Int))) < (a0.length : Int)) inferInstance (.needG (decide ((0 : Int) < s3)) ((0 : Int) ≤ s9) inferInstance (.needG (decide ((0 : Int) < s3)) (s9 < ((a0.getD (IntKind.wrap .i64 (s3 - (1 : Int))).toNat default).length : Int)) inferInstance (.needG ((!((decide ((0 : Int) < s3)) && (decide (((a0.getD (IntKind.wrap .i64 (s3 - (1 : Int))).toNat default).getD s9.toNat default) < ((a0.getD s3.toNat default).getD s9.toNat default))))) && (decide ((0 : Int) < s9))) ((0 : Int) ≤ s3) inferInstance (.needG ((!((decide ((0 : Int) < s3)) && (decide (((a0.getD (IntKind.wrap .i64 (s3 - (1 : Int))).toNat default).getD s9.toNat default) < ((a0.getD s3.toNat default).getD s9.toNat default))))) && (decide ((0 : Int) < s9))) (s3 < (a0.length : Int)) inferInstance (.needG ((!((decide ((0 : Int) < s3)) && (decide (((a0.getD (IntKind.wrap .i64 (s3 - (1 : Int))).toNat default).getD s9.toNat default) < ((a0.getD s3.toNat default).getD s9.toNat default))))) && (decide ((0 : Int) < s9))) ((0 : Int) ≤ s9) inferInstance (.needG ((!((decide ((0 : Int) < s3)) && (decide (((a0.getD (IntKind.wrap .i64 (s3 - (1 : Int))).toNat default).getD s9.toNat default) < ((a0.getD s3.toNat default).getD s9.toNat default))))) && (decide ((0 : Int) < s9))) (s9 < ((a0.getD s3.toNat default).length : Int)) inferInstance (.needG ((!((decide ((0 : Int) < s3)) && (decide (((a0.getD (IntKind.wrap .i64 (s3 - (1 : Int))).toNat default).getD s9.toNat default) < ((a0.getD s3.toNat default).getD s9.toNat default))))) && (decide ((0 : Int) < s9))) ((0 : Int) ≤ s3) inferInstance (.needG ((!((decide ((0 : Int) < s3)) && (decide (((a0.getD (IntKind.wrap .i64 (s3 - (1 : Int))).toNat default).getD s9.toNat default) < ((a0.getD s3.toNat default).getD s9.toNat default))))) && (decide ((0 : Int) < s9))) (s3 < (a0.length : Int)) inferInstance (.needG ((!((decide ((0 : Int) < s3)) && (decide (((a0.getD (IntKind.wrap .i64 (s3 - (1 : Int))).toNat default).getD s9.toNat default) < ((a0.getD s3.toNat default).getD s9.toNat default))))) && (decide ((0 : Int) < s9))) ((0 : Int) ≤ (IntKind.wrap .i64 (s9 - (1 : Int)))) inferInstance (.needG ((!((decide ((0 : Int) < s3)) && (decide (((a0.getD (IntKind.wrap .i64 (s3 - (1 : Int))).toNat default).getD s9.toNat default) < ((a0.getD s3.toNat default).getD s9.toNat default))))) && (decide ((0 : Int) < s9))) ((IntKind.wrap .i64 (s9 - (1 : Int))) < ((a0.getD s3.toNat default).length : Int)) inferInstance (.ite (((decide ((0 : Int) < s3)) && (decide (((a0.getD (IntKind.wrap .i64 (s3 - (1 : Int))).toNat default).getD s9.toNat default) < ((a0.getD s3.toNat default).getD s9.toNat default)))) || ((decide ((0 : Int) < s9)) && (decide (((a0.getD s3.toNat default).getD s9.toNat default) < ((a0.getD s3.toNat default).getD (IntKind.wrap .i64 (s9 - (1 : Int))).toNat default))))) (.ret .ret ⟨[(0, (.d (eSl 1 (eSl 1 (D.int .i64)) a0))), (2, (.d (.bool false))), (3, (.d (.int .i64 s3))), (6, (.d (.int .i64 (a0.length : Int)))), (7, (.d (.int .i64 s3))), (14, (.d (.int .i64 ((a0.getD s3.toNat default).length : Int)))), (15, (.d (.int .i64 s9)))], [], [], 2640⟩ (.inr (.inr false)) ⟨rfl, dr⟩) (.ret .normal ⟨[(0, (.d (eSl 1 (eSl 1 (D.int .i64)) a0))), (2, .any), (3, (.d (.int .i64 s3))), (6, (.d (.int .i64 (a0.length : Int)))), (7, (.d (.int .i64 s3))), (14, (.d (.int .i64 ((a0.getD s3.toNat default).length : Int)))), (15, (.d (.int .i64 (IntKind.wrap .i64 (s9 + (1 : Int))))))], [], [], 2656⟩ (.inl ()) ⟨rfl, (weak_of [] [] (by kernel_rfl) ⟨dr, dr, dr, dr, dr, dr⟩ trivial)⟩)))))))))))))))))) (.ret (.exit 2) ⟨[(0, (.d (eSl 1 (eSl 1 (D.int .i64)) a0))), (2, .any), (3, (.d (.int .i64 s3))), (6, (.d (.int .i64 (a0.length : Int)))), (7, (.d (.int .i64 s3))), (14, (.d (.int .i64 ((a0.getD s3.toNat default).length : Int)))), (15, (.d (.int .i64 s9)))], [], [], 1920⟩ (.inr (.inl ())) ⟨rfl, (weak_of [] [] (by kernel_rfl) ⟨dr, dr, dr⟩ trivial)⟩))
theorem j46_11 (V : Env) (a0 : List (List Int)) (s3 s9 : Int) : Judge Try.prog V 62 (sub (body Try.f46) [1, 0, 1, 0, 0, 1, 1, 0, 0, 1, 1, 0, 0]) (h46_10 a0 s3 s9) (m46_11 a0 s3 s9) (W46_11 a0 s3 s9) :=
  Judge.seg (tms := []) rfl [0, 2, 3, 6, 7, 14, 15] [] (t := t46_11 a0 s3 s9) (by kernel_rfl) (fun K => by kernel_rfl)
noncomputable def s46_12 (a0 : List (List Int)) (s3 : Int) (y : Unit) : St := ⟨[(0, (.d (eSl 1 (eSl 1 (D.int .i64)) a0))), (6, (.d (.int .i64 (a0.length : Int)))), (7, (.d (.int .i64 s3)))], [], [], 1920⟩
noncomputable def b46_13 (a0 : List (List Int)) (s3 : Int) (s9 : Int) : Option ((Int) ⊕ ((Unit) ⊕ (Bool))) := (m46_11 a0 s3 s9).map (fun z => match z with | .inl z => .inl (IntKind.wrap .i64 (s9 + (1 : Int))) | .inr (.inl z) => .inr (.inl z) | .inr (.inr z) => .inr (.inr z) : (Unit) ⊕ (Unit) ⊕ (Bool) → (Int) ⊕ ((Unit) ⊕ (Bool)))
noncomputable def m46_13 (a0 : List (List Int)) (s3 : Int) : Option ((Unit) ⊕ (Bool)) := loopO (b46_13 a0 s3) (0 : Int)
noncomputable def W46_13 (a0 : List (List Int)) (s3 : Int) : ((Unit) ⊕ (Bool)) → Way := fun y => match y with | .inl y => quit 2 (s46_12 a0 s3 y) | .inr y => fin Try.prog Try.f46 (.bool y)
theorem j46_13 (V : Env) (a0 : List (List Int)) (s3 : Int) : Judge Try.prog V 62 (sub (body Try.f46) [1, 0, 1, 0, 0, 1, 1, 0, 0, 1, 1, 0]) (s46_8_0 a0 s3 ()) (m46_13 a0 s3) (W46_13 a0 s3) :=
  Judge.loopS (c := (sub (body Try.f46) [1, 0, 1, 0, 0, 1, 1, 0, 0, 1, 1, 0, 0])) (by kernel_rfl) (h46_10 a0 s3) (b46_13 a0 s3) (0 : Int) rfl (weak_of [] [] (by kernel_rfl) ⟨dr, dr, dr, dr, dr, dr⟩ trivial) (by intro y; rcases y with y | y <;> exact fun h => by cases h)
    (fun s9 => Judge.map (fun z => match z with | .inl z => .inl (IntKind.wrap .i64 (s9 + (1 : Int))) | .inr (.inl z) => .inr (.inl z) | .inr (.inr z) => .inr (.inr z) : (Unit) ⊕ (Unit) ⊕ (Bool) → (Int) ⊕ ((Unit) ⊕ (Bool))) rfl (j46_11 V a0 s3 s9) (fun z => match z with | .inl z => ⟨rfl, fun _ h => h.trans (weak_of [] [] (by kernel_rfl) ⟨dr, dr, dr, dr, dr, dr⟩ trivial)⟩ | .inr (.inl z) => ⟨rfl, fun _ h => h⟩ | .inr (.inr z) => ⟨rfl, fun _ h => h⟩))
noncomputable def m46_14 (a0 : List (List Int)) (s3 : Int) : Option ((Unit) ⊕ (Bool)) := m46_13 a0 s3
noncomputable def W46_14 (a0 : List (List Int)) (s3 : Int) : ((Unit) ⊕ (Bool)) → Way := fun y => match y with | .inl y => go (s46_12 a0 s3 y) | .inr y => fin Try.prog Try.f46 (.bool y)
theorem j46_14 (V : Env) (a0 : List (List Int)) (s3 : Int) : Judge Try.prog V 62 (sub (body Try.f46) [1, 0, 1, 0, 0, 1, 1, 0, 0, 1, 1]) (s46_8_0 a0 s3 ()) (m46_14 a0 s3) (W46_14 a0 s3) := Judge.blockS (id := 2) (c := (sub (body Try.f46) [1, 0, 1, 0, 0, 1, 1, 0, 0, 1, 1, 0])) (by kernel_rfl) (j46_13 V a0 s3) (by intro y; rcases y with y | y <;> rfl)
noncomputable def m46_15 (a0 : List (List Int)) (s3 : Int) : Option ((Unit) ⊕ (Bool)) := (m46_8 a0 s3).bind (fun yy => match yy with | _ => m46_14 a0 s3  : (Unit) → Option ((Unit) ⊕ (Bool)))
noncomputable def W46_15 (a0 : List (List Int)) (s3 : Int) : ((Unit) ⊕ (Bool)) → Way := fun y => match y with | .inl y => go (s46_12 a0 s3 y) | .inr y => fin Try.prog Try.f46 (.bool y)
theorem j46_15 (V : Env) (a0 : List (List Int)) (s3 : Int) : Judge Try.prog V 62 (sub (body Try.f46) [1, 0, 1, 0, 0, 1, 1, 0, 0, 1]) (s46_7_0 a0 s3 ()) (m46_15 a0 s3) (W46_15 a0 s3) := 
  Judge.seqX (a := (sub (body Try.f46) [1, 0, 1, 0, 0, 1, 1, 0, 0, 1, 0])) (b := (sub (body Try.f46) [1, 0, 1, 0, 0, 1, 1, 0, 0, 1, 1])) (m2 := (fun yy => match yy with | _ => m46_14 a0 s3  : (Unit) → Option ((Unit) ⊕ (Bool)))) (by kernel_rfl) rfl (j46_8 V a0 s3) (fun yy => match yy with | _ => .inl ⟨rfl, _, fun _ h => h, j46_14 V a0 s3 ⟩)
noncomputable def m46_16 (a0 : List (List Int)) (s3 : Int) : Option ((Unit) ⊕ (Bool)) := (m46_7 a0 s3).bind (fun yy => match yy with | _ => m46_15 a0 s3  : (Unit) → Option ((Unit) ⊕ (Bool)))
noncomputable def W46_16 (a0 : List (List Int)) (s3 : Int) : ((Unit) ⊕ (Bool)) → Way := fun y => match y with | .inl y => go (s46_12 a0 s3 y) | .inr y => fin Try.prog Try.f46 (.bool y)
theorem j46_16 (V : Env) (a0 : List (List Int)) (s3 : Int) : Judge Try.prog V 62 (sub (body Try.f46) [1, 0, 1, 0, 0, 1, 1, 0, 0]) (s46_6_0 a0 s3 ()) (m46_16 a0 s3) (W46_16 a0 s3) := 
  Judge.seqX (a := (sub (body Try.f46) [1, 0, 1, 0, 0, 1, 1, 0, 0, 0])) (b := (sub (body Try.f46) [1, 0, 1, 0, 0, 1, 1, 0, 0, 1])) (m2 := (fun yy => match yy with | _ => m46_15 a0 s3  : (Unit) → Option ((Unit) ⊕ (Bool)))) (by kernel_rfl) rfl (j46_7 V a0 s3) (fun yy => match yy with | _ => .inl ⟨rfl, _, fun _ h => h, j46_15 V a0 s3 ⟩)
noncomputable def m46_17 (a0 : List (List Int)) (s3 : Int) : Option ((Unit) ⊕ (Bool)) := m46_16 a0 s3
noncomputable def W46_17 (a0 : List (List Int)) (s3 : Int) : ((Unit) ⊕ (Bool)) → Way := fun y => match y with | .inl y => go (s46_12 a0 s3 y) | .inr y => fin Try.prog Try.f46 (.bool y)
theorem j46_17 (V : Env) (a0 : List (List Int)) (s3 : Int) : Judge Try.prog V 62 (sub (body Try.f46) [1, 0, 1, 0, 0, 1, 1, 0]) (s46_6_0 a0 s3 ()) (m46_17 a0 s3) (W46_17 a0 s3) := Judge.blockS (id := 1) (c := (sub (body Try.f46) [1, 0, 1, 0, 0, 1, 1, 0, 0])) (by kernel_rfl) (j46_16 V a0 s3) (by intro y; rcases y with y | y <;> rfl)
noncomputable def s46_18_0 (a0 : List (List Int)) (s3 : Int) (y : Unit) : St := ⟨[(0, (.d (eSl 1 (eSl 1 (D.int .i64)) a0))), (6, (.d (.int .i64 (a0.length : Int)))), (7, (.d (.int .i64 (IntKind.wrap .i64 (s3 + (1 : Int))))))], [], [], 1952⟩
noncomputable def m46_18 (a0 : List (List Int)) (s3 : Int) : Option ((Unit)) :=
  some ()
noncomputable def W46_18 (a0 : List (List Int)) (s3 : Int) : ((Unit)) → Way := fun y => go (s46_18_0 a0 s3 y)
noncomputable def t46_18 (a0 : List (List Int)) (s3 : Int) : Tr (W46_18 a0 s3) := (.ret .normal (s46_18_0 a0 s3 ()) () ⟨rfl, Weak.refl _⟩)
theorem j46_18 (V : Env) (a0 : List (List Int)) (s3 : Int) : Judge Try.prog V 62 (sub (body Try.f46) [1, 0, 1, 0, 0, 1, 1, 1]) (s46_12 a0 s3 ()) (m46_18 a0 s3) (W46_18 a0 s3) :=
  Judge.seg (tms := []) rfl [0, 6, 7] [] (t := t46_18 a0 s3) (by kernel_rfl) (fun K => by kernel_rfl)
noncomputable def m46_19 (a0 : List (List Int)) (s3 : Int) : Option ((Unit) ⊕ (Bool)) := (m46_17 a0 s3).bind (fun yy => match yy with | .inl _ => (m46_18 a0 s3 ).map (fun z => match z with | z => .inl z : (Unit) → (Unit) ⊕ (Bool)) | .inr z => some (.inr z) : (Unit) ⊕ (Bool) → Option ((Unit) ⊕ (Bool)))
noncomputable def W46_19 (a0 : List (List Int)) (s3 : Int) : ((Unit) ⊕ (Bool)) → Way := fun y => match y with | .inl y => go (s46_18_0 a0 s3 y) | .inr y => fin Try.prog Try.f46 (.bool y)
theorem j46_19 (V : Env) (a0 : List (List Int)) (s3 : Int) : Judge Try.prog V 62 (sub (body Try.f46) [1, 0, 1, 0, 0, 1, 1]) (s46_6_0 a0 s3 ()) (m46_19 a0 s3) (W46_19 a0 s3) := 
  Judge.seqX (a := (sub (body Try.f46) [1, 0, 1, 0, 0, 1, 1, 0])) (b := (sub (body Try.f46) [1, 0, 1, 0, 0, 1, 1, 1])) (m2 := (fun yy => match yy with | .inl _ => (m46_18 a0 s3 ).map (fun z => match z with | z => .inl z : (Unit) → (Unit) ⊕ (Bool)) | .inr z => some (.inr z) : (Unit) ⊕ (Bool) → Option ((Unit) ⊕ (Bool)))) (by kernel_rfl) rfl (j46_17 V a0 s3) (fun yy => match yy with | .inl _ => .inl ⟨rfl, _, fun _ h => h, Judge.map (fun z => match z with | z => .inl z : (Unit) → (Unit) ⊕ (Bool)) rfl (j46_18 V a0 s3 ) (fun z => match z with | z => ⟨rfl, fun _ h => h⟩)⟩ | .inr z => .inr ⟨(by intro h; cases h), .inr z, rfl, rfl, fun _ h => h⟩)
noncomputable def m46_20 (a0 : List (List Int)) (s3 : Int) : Option ((Unit) ⊕ (Bool) ⊕ (Unit)) := (m46_6 a0 s3).bind (fun yy => match yy with | .inl _ => (m46_19 a0 s3 ).map (fun z => match z with | .inl z => .inl z | .inr z => .inr (.inl z) : (Unit) ⊕ (Bool) → (Unit) ⊕ (Bool) ⊕ (Unit)) | .inr z => some (.inr (.inr z)) : (Unit) ⊕ (Unit) → Option ((Unit) ⊕ (Bool) ⊕ (Unit)))
noncomputable def W46_20 (a0 : List (List Int)) (s3 : Int) : ((Unit) ⊕ (Bool) ⊕ (Unit)) → Way := fun y => match y with | .inl y => go (s46_18_0 a0 s3 y) | .inr (.inl y) => fin Try.prog Try.f46 (.bool y) | .inr (.inr y) => quit 0 (s46_6_1 a0 s3 y)
theorem j46_20 (V : Env) (a0 : List (List Int)) (s3 : Int) : Judge Try.prog V 62 (sub (body Try.f46) [1, 0, 1, 0, 0, 1]) (s46_5_0 a0 s3 ()) (m46_20 a0 s3) (W46_20 a0 s3) := 
  Judge.seqX (a := (sub (body Try.f46) [1, 0, 1, 0, 0, 1, 0])) (b := (sub (body Try.f46) [1, 0, 1, 0, 0, 1, 1])) (m2 := (fun yy => match yy with | .inl _ => (m46_19 a0 s3 ).map (fun z => match z with | .inl z => .inl z | .inr z => .inr (.inl z) : (Unit) ⊕ (Bool) → (Unit) ⊕ (Bool) ⊕ (Unit)) | .inr z => some (.inr (.inr z)) : (Unit) ⊕ (Unit) → Option ((Unit) ⊕ (Bool) ⊕ (Unit)))) (by kernel_rfl) rfl (j46_6 V a0 s3) (fun yy => match yy with | .inl _ => .inl ⟨rfl, _, fun _ h => h, Judge.map (fun z => match z with | .inl z => .inl z | .inr z => .inr (.inl z) : (Unit) ⊕ (Bool) → (Unit) ⊕ (Bool) ⊕ (Unit)) rfl (j46_19 V a0 s3 ) (fun z => match z with | .inl z => ⟨rfl, fun _ h => h⟩ | .inr z => ⟨rfl, fun _ h => h⟩)⟩ | .inr z => .inr ⟨(by intro h; cases h), .inr (.inr z), rfl, rfl, fun _ h => h⟩)
noncomputable def m46_21 (a0 : List (List Int)) (s3 : Int) : Option ((Unit) ⊕ (Bool) ⊕ (Unit)) := (m46_5 a0 s3).bind (fun yy => match yy with | _ => m46_20 a0 s3  : (Unit) → Option ((Unit) ⊕ (Bool) ⊕ (Unit)))
noncomputable def W46_21 (a0 : List (List Int)) (s3 : Int) : ((Unit) ⊕ (Bool) ⊕ (Unit)) → Way := fun y => match y with | .inl y => go (s46_18_0 a0 s3 y) | .inr (.inl y) => fin Try.prog Try.f46 (.bool y) | .inr (.inr y) => quit 0 (s46_6_1 a0 s3 y)
theorem j46_21 (V : Env) (a0 : List (List Int)) (s3 : Int) : Judge Try.prog V 62 (sub (body Try.f46) [1, 0, 1, 0, 0]) (h46_4 a0 s3) (m46_21 a0 s3) (W46_21 a0 s3) := 
  Judge.seqX (a := (sub (body Try.f46) [1, 0, 1, 0, 0, 0])) (b := (sub (body Try.f46) [1, 0, 1, 0, 0, 1])) (m2 := (fun yy => match yy with | _ => m46_20 a0 s3  : (Unit) → Option ((Unit) ⊕ (Bool) ⊕ (Unit)))) (by kernel_rfl) rfl (j46_5 V a0 s3) (fun yy => match yy with | _ => .inl ⟨rfl, _, fun _ h => h, j46_20 V a0 s3 ⟩)
noncomputable def s46_22 (a0 : List (List Int)) (y : Unit) : St := ⟨[], [], [], 1024⟩
noncomputable def b46_23 (a0 : List (List Int)) (s3 : Int) : Option ((Int) ⊕ ((Bool) ⊕ (Unit))) := (m46_21 a0 s3).map (fun z => match z with | .inl z => .inl (IntKind.wrap .i64 (s3 + (1 : Int))) | .inr (.inl z) => .inr (.inl z) | .inr (.inr z) => .inr (.inr z) : (Unit) ⊕ (Bool) ⊕ (Unit) → (Int) ⊕ ((Bool) ⊕ (Unit)))
noncomputable def m46_23 (a0 : List (List Int)) : Option ((Bool) ⊕ (Unit)) := loopO (b46_23 a0) (0 : Int)
noncomputable def W46_23 (a0 : List (List Int)) : ((Bool) ⊕ (Unit)) → Way := fun y => match y with | .inl y => fin Try.prog Try.f46 (.bool y) | .inr y => quit 0 (s46_22 a0 y)
theorem j46_23 (V : Env) (a0 : List (List Int)) : Judge Try.prog V 62 (sub (body Try.f46) [1, 0, 1, 0]) (s46_2_0 a0 ()) (m46_23 a0) (W46_23 a0) :=
  Judge.loopS (c := (sub (body Try.f46) [1, 0, 1, 0, 0])) (by kernel_rfl) (h46_4 a0) (b46_23 a0) (0 : Int) rfl (weak_of [] [] (by kernel_rfl) ⟨dr, dr, dr⟩ trivial) (by intro y; rcases y with y | y <;> exact fun h => by cases h)
    (fun s3 => Judge.map (fun z => match z with | .inl z => .inl (IntKind.wrap .i64 (s3 + (1 : Int))) | .inr (.inl z) => .inr (.inl z) | .inr (.inr z) => .inr (.inr z) : (Unit) ⊕ (Bool) ⊕ (Unit) → (Int) ⊕ ((Bool) ⊕ (Unit))) rfl (j46_21 V a0 s3) (fun z => match z with | .inl z => ⟨rfl, fun _ h => h.trans (weak_of [] [] (by kernel_rfl) ⟨dr, dr, dr⟩ trivial)⟩ | .inr (.inl z) => ⟨rfl, fun _ h => h⟩ | .inr (.inr z) => ⟨rfl, fun _ h => h⟩))
noncomputable def m46_24 (a0 : List (List Int)) : Option ((Bool) ⊕ (Unit)) := m46_23 a0
noncomputable def W46_24 (a0 : List (List Int)) : ((Bool) ⊕ (Unit)) → Way := fun y => match y with | .inl y => fin Try.prog Try.f46 (.bool y) | .inr y => go (s46_22 a0 y)
theorem j46_24 (V : Env) (a0 : List (List Int)) : Judge Try.prog V 62 (sub (body Try.f46) [1, 0, 1]) (s46_2_0 a0 ()) (m46_24 a0) (W46_24 a0) := Judge.blockS (id := 0) (c := (sub (body Try.f46) [1, 0, 1, 0])) (by kernel_rfl) (j46_23 V a0) (by intro y; rcases y with y | y <;> rfl)
noncomputable def m46_25 (a0 : List (List Int)) : Option ((Bool) ⊕ (Unit)) := (m46_2 a0).bind (fun yy => match yy with | _ => m46_24 a0  : (Unit) → Option ((Bool) ⊕ (Unit)))
noncomputable def W46_25 (a0 : List (List Int)) : ((Bool) ⊕ (Unit)) → Way := fun y => match y with | .inl y => fin Try.prog Try.f46 (.bool y) | .inr y => go (s46_22 a0 y)
theorem j46_25 (V : Env) (a0 : List (List Int)) : Judge Try.prog V 62 (sub (body Try.f46) [1, 0]) (s46_1_0 a0 ()) (m46_25 a0) (W46_25 a0) := 
  Judge.seqX (a := (sub (body Try.f46) [1, 0, 0])) (b := (sub (body Try.f46) [1, 0, 1])) (m2 := (fun yy => match yy with | _ => m46_24 a0  : (Unit) → Option ((Bool) ⊕ (Unit)))) (by kernel_rfl) rfl (j46_2 V a0) (fun yy => match yy with | _ => .inl ⟨rfl, _, fun _ h => h, j46_24 V a0 ⟩)
noncomputable def m46_26 (a0 : List (List Int)) : Option ((Bool)) :=
  some true
noncomputable def W46_26 (a0 : List (List Int)) : ((Bool)) → Way := fun y => fin Try.prog Try.f46 (.bool y)
noncomputable def t46_26 (a0 : List (List Int)) : Tr (W46_26 a0) := (.ret .ret ⟨[(2, (.d (.bool true)))], [], [], 1040⟩ true ⟨rfl, dr⟩)
theorem j46_26 (V : Env) (a0 : List (List Int)) : Judge Try.prog V 62 (sub (body Try.f46) [1, 1]) (s46_22 a0 ()) (m46_26 a0) (W46_26 a0) :=
  Judge.seg (tms := []) rfl [2] [] (t := t46_26 a0) (by kernel_rfl) (fun K => by kernel_rfl)
noncomputable def m46_27 (a0 : List (List Int)) : Option ((Bool)) := (m46_25 a0).bind (fun yy => match yy with | .inl z => some z | .inr _ => m46_26 a0  : (Bool) ⊕ (Unit) → Option ((Bool)))
noncomputable def W46_27 (a0 : List (List Int)) : ((Bool)) → Way := fun y => fin Try.prog Try.f46 (.bool y)
theorem j46_27 (V : Env) (a0 : List (List Int)) : Judge Try.prog V 62 (sub (body Try.f46) [1]) (s46_1_0 a0 ()) (m46_27 a0) (W46_27 a0) := 
  Judge.seqX (a := (sub (body Try.f46) [1, 0])) (b := (sub (body Try.f46) [1, 1])) (m2 := (fun yy => match yy with | .inl z => some z | .inr _ => m46_26 a0  : (Bool) ⊕ (Unit) → Option ((Bool)))) (by kernel_rfl) rfl (j46_25 V a0) (fun yy => match yy with | .inl z => .inr ⟨(by intro h; cases h), z, rfl, rfl, fun _ h => h⟩ | .inr _ => .inl ⟨rfl, _, fun _ h => h, j46_26 V a0 ⟩)
noncomputable def m46_28 (a0 : List (List Int)) : Option ((Bool)) := (m46_1 a0).bind (fun yy => match yy with | _ => m46_27 a0  : (Unit) → Option ((Bool)))
noncomputable def W46_28 (a0 : List (List Int)) : ((Bool)) → Way := fun y => fin Try.prog Try.f46 (.bool y)
theorem j46_28 (V : Env) (a0 : List (List Int)) : Judge Try.prog V 62 (sub (body Try.f46) []) ⟨argFr 0 [(eSl 1 (eSl 1 (D.int .i64)) a0)], [], [], 0⟩ (m46_28 a0) (W46_28 a0) := 
  Judge.seqX (a := (sub (body Try.f46) [0])) (b := (sub (body Try.f46) [1])) (m2 := (fun yy => match yy with | _ => m46_27 a0  : (Unit) → Option ((Bool)))) (by kernel_rfl) rfl (j46_1 V a0) (fun yy => match yy with | _ => .inl ⟨rfl, _, fun _ h => h, j46_27 V a0 ⟩)
noncomputable def m46 (a0 : List (List Int)) : Option (Bool) := m46_28 a0
theorem p46 {a0 : List (List Int)} {r : Bool} (h : m46 a0 = some r) : PureAt Try.prog 46 [(eSl 1 (eSl 1 (D.int .i64)) a0)] (.bool r) :=
  pure_judge (R := Bool) (en := fun (r : Bool) => (.bool r)) (c := (sub (body Try.f46) [])) (ds := [(eSl 1 (eSl 1 (D.int .i64)) a0)]) (m := m46_28 a0) Try.func46 (by kernel_rfl) (by decide) (Nat.le_of_ble_eq_true rfl) (fun V => j46_28 V a0) h
/- flightdeck/flightdeckref31.level -/
noncomputable def s47_1_0 (a0 : List Int) (y : Unit) : St := ⟨[(0, (.d (eSl 1 (D.int .i64) a0)))], [], [], 16⟩
noncomputable def m47_1 (a0 : List Int) : Option ((Unit)) :=
  some ()
noncomputable def W47_1 (a0 : List Int) : ((Unit)) → Way := fun y => go (s47_1_0 a0 y)
noncomputable def t47_1 (a0 : List Int) : Tr (W47_1 a0) := (.ret .normal (s47_1_0 a0 ()) () ⟨rfl, Weak.refl _⟩)
theorem j47_1 (V : Env) (a0 : List Int) : Judge Try.prog V 20 (sub (body Try.f47) [0]) ⟨argFr 0 [(eSl 1 (D.int .i64) a0)], [], [], 0⟩ (m47_1 a0) (W47_1 a0) :=
  Judge.seg (tms := []) rfl [0] [] (t := t47_1 a0) (by kernel_rfl) (fun K => by kernel_rfl)
noncomputable def s47_2_0 (a0 : List Int) (y : Unit) : St := ⟨[(0, (.d (eSl 1 (D.int .i64) a0))), (3, (.d (.int .i64 (1 : Int))))], [], [], 32⟩
noncomputable def m47_2 (a0 : List Int) : Option ((Unit)) :=
  some ()
noncomputable def W47_2 (a0 : List Int) : ((Unit)) → Way := fun y => go (s47_2_0 a0 y)
noncomputable def t47_2 (a0 : List Int) : Tr (W47_2 a0) := (.ret .normal (s47_2_0 a0 ()) () ⟨rfl, Weak.refl _⟩)
theorem j47_2 (V : Env) (a0 : List Int) : Judge Try.prog V 20 (sub (body Try.f47) [1, 0, 0]) (s47_1_0 a0 ()) (m47_2 a0) (W47_2 a0) :=
  Judge.seg (tms := []) rfl [0, 3] [] (t := t47_2 a0) (by kernel_rfl) (fun K => by kernel_rfl)
noncomputable def h47_4 (a0 : List Int) (y : Int) : St := ⟨[(0, (.d (eSl 1 (D.int .i64) a0))), (3, (.d (.int .i64 y)))], [], [], 304⟩
noncomputable def s47_5_0 (a0 : List Int) (s3 : Int) (y : Unit) : St := ⟨[(0, (.d (eSl 1 (D.int .i64) a0))), (3, (.d (.int .i64 (IntKind.wrap .i64 (s3 + (1 : Int))))))], [], [], 576⟩
noncomputable def s47_5_1 (a0 : List Int) (s3 : Int) (y : Unit) : St := ⟨[], [], [], 368⟩
noncomputable def m47_5 (a0 : List Int) (s3 : Int) : Option ((Unit) ⊕ (Unit) ⊕ (Bool)) :=
  if (decide (s3 < (a0.length : Int))) = true then
    if (0 : Int) ≤ s3 then
      if s3 < (a0.length : Int) then
        if (0 : Int) ≤ (IntKind.wrap .i64 (s3 - (1 : Int))) then
          if (IntKind.wrap .i64 (s3 - (1 : Int))) < (a0.length : Int) then
            if (decide ((a0.getD s3.toNat default) < (a0.getD (IntKind.wrap .i64 (s3 - (1 : Int))).toNat default))) = true then
              some (.inr (.inr false))
            else
              some (.inl ())
          else none
        else none
      else none
    else none
  else
    some (.inr (.inl ()))
noncomputable def W47_5 (a0 : List Int) (s3 : Int) : ((Unit) ⊕ (Unit) ⊕ (Bool)) → Way := fun y => match y with | .inl y => go (s47_5_0 a0 s3 y) | .inr (.inl y) => quit 0 (s47_5_1 a0 s3 y) | .inr (.inr y) => fin Try.prog Try.f47 (.bool y)
noncomputable def t47_5 (a0 : List Int) (s3 : Int) : Tr (W47_5 a0 s3) := (.ite (decide (s3 < (a0.length : Int))) (.need ((0 : Int) ≤ s3) inferInstance (.need (s3 < (a0.length : Int)) inferInstance (.need ((0 : Int) ≤ (IntKind.wrap .i64 (s3 - (1 : Int)))) inferInstance (.need ((IntKind.wrap .i64 (s3 - (1 : Int))) < (a0.length : Int)) inferInstance (.ite (decide ((a0.getD s3.toNat default) < (a0.getD (IntKind.wrap .i64 (s3 - (1 : Int))).toNat default))) (.ret .ret ⟨[(0, (.d (eSl 1 (D.int .i64) a0))), (2, (.d (.bool false))), (3, (.d (.int .i64 s3)))], [], [], 544⟩ (.inr (.inr false)) ⟨rfl, dr⟩) (.ret .normal ⟨[(0, (.d (eSl 1 (D.int .i64) a0))), (2, .any), (3, (.d (.int .i64 (IntKind.wrap .i64 (s3 + (1 : Int))))))], [], [], 576⟩ (.inl ()) ⟨rfl, (weak_of [] [] (by kernel_rfl) ⟨dr, dr⟩ trivial)⟩)))))) (.ret (.exit 0) ⟨[(0, (.d (eSl 1 (D.int .i64) a0))), (2, .any), (3, (.d (.int .i64 s3)))], [], [], 368⟩ (.inr (.inl ())) ⟨rfl, (weak_of [] [] (by kernel_rfl) trivial trivial)⟩))
theorem j47_5 (V : Env) (a0 : List Int) (s3 : Int) : Judge Try.prog V 20 (sub (body Try.f47) [1, 0, 1, 0, 0]) (h47_4 a0 s3) (m47_5 a0 s3) (W47_5 a0 s3) :=
  Judge.seg (tms := []) rfl [0, 2, 3] [] (t := t47_5 a0 s3) (by kernel_rfl) (fun K => by kernel_rfl)
noncomputable def s47_6 (a0 : List Int) (y : Unit) : St := ⟨[], [], [], 368⟩
noncomputable def b47_7 (a0 : List Int) (s3 : Int) : Option ((Int) ⊕ ((Unit) ⊕ (Bool))) := (m47_5 a0 s3).map (fun z => match z with | .inl z => .inl (IntKind.wrap .i64 (s3 + (1 : Int))) | .inr (.inl z) => .inr (.inl z) | .inr (.inr z) => .inr (.inr z) : (Unit) ⊕ (Unit) ⊕ (Bool) → (Int) ⊕ ((Unit) ⊕ (Bool)))
noncomputable def m47_7 (a0 : List Int) : Option ((Unit) ⊕ (Bool)) := loopO (b47_7 a0) (1 : Int)
noncomputable def W47_7 (a0 : List Int) : ((Unit) ⊕ (Bool)) → Way := fun y => match y with | .inl y => quit 0 (s47_6 a0 y) | .inr y => fin Try.prog Try.f47 (.bool y)
theorem j47_7 (V : Env) (a0 : List Int) : Judge Try.prog V 20 (sub (body Try.f47) [1, 0, 1, 0]) (s47_2_0 a0 ()) (m47_7 a0) (W47_7 a0) :=
  Judge.loopS (c := (sub (body Try.f47) [1, 0, 1, 0, 0])) (by kernel_rfl) (h47_4 a0) (b47_7 a0) (1 : Int) rfl (weak_of [] [] (by kernel_rfl) ⟨dr, dr⟩ trivial) (by intro y; rcases y with y | y <;> exact fun h => by cases h)
    (fun s3 => Judge.map (fun z => match z with | .inl z => .inl (IntKind.wrap .i64 (s3 + (1 : Int))) | .inr (.inl z) => .inr (.inl z) | .inr (.inr z) => .inr (.inr z) : (Unit) ⊕ (Unit) ⊕ (Bool) → (Int) ⊕ ((Unit) ⊕ (Bool))) rfl (j47_5 V a0 s3) (fun z => match z with | .inl z => ⟨rfl, fun _ h => h.trans (weak_of [] [] (by kernel_rfl) ⟨dr, dr⟩ trivial)⟩ | .inr (.inl z) => ⟨rfl, fun _ h => h⟩ | .inr (.inr z) => ⟨rfl, fun _ h => h⟩))
noncomputable def m47_8 (a0 : List Int) : Option ((Unit) ⊕ (Bool)) := m47_7 a0
noncomputable def W47_8 (a0 : List Int) : ((Unit) ⊕ (Bool)) → Way := fun y => match y with | .inl y => go (s47_6 a0 y) | .inr y => fin Try.prog Try.f47 (.bool y)
theorem j47_8 (V : Env) (a0 : List Int) : Judge Try.prog V 20 (sub (body Try.f47) [1, 0, 1]) (s47_2_0 a0 ()) (m47_8 a0) (W47_8 a0) := Judge.blockS (id := 0) (c := (sub (body Try.f47) [1, 0, 1, 0])) (by kernel_rfl) (j47_7 V a0) (by intro y; rcases y with y | y <;> rfl)
noncomputable def m47_9 (a0 : List Int) : Option ((Unit) ⊕ (Bool)) := (m47_2 a0).bind (fun yy => match yy with | _ => m47_8 a0  : (Unit) → Option ((Unit) ⊕ (Bool)))
noncomputable def W47_9 (a0 : List Int) : ((Unit) ⊕ (Bool)) → Way := fun y => match y with | .inl y => go (s47_6 a0 y) | .inr y => fin Try.prog Try.f47 (.bool y)
theorem j47_9 (V : Env) (a0 : List Int) : Judge Try.prog V 20 (sub (body Try.f47) [1, 0]) (s47_1_0 a0 ()) (m47_9 a0) (W47_9 a0) := 
  Judge.seqX (a := (sub (body Try.f47) [1, 0, 0])) (b := (sub (body Try.f47) [1, 0, 1])) (m2 := (fun yy => match yy with | _ => m47_8 a0  : (Unit) → Option ((Unit) ⊕ (Bool)))) (by kernel_rfl) rfl (j47_2 V a0) (fun yy => match yy with | _ => .inl ⟨rfl, _, fun _ h => h, j47_8 V a0 ⟩)
noncomputable def m47_10 (a0 : List Int) : Option ((Bool)) :=
  some true
noncomputable def W47_10 (a0 : List Int) : ((Bool)) → Way := fun y => fin Try.prog Try.f47 (.bool y)
noncomputable def t47_10 (a0 : List Int) : Tr (W47_10 a0) := (.ret .ret ⟨[(2, (.d (.bool true)))], [], [], 384⟩ true ⟨rfl, dr⟩)
theorem j47_10 (V : Env) (a0 : List Int) : Judge Try.prog V 20 (sub (body Try.f47) [1, 1]) (s47_6 a0 ()) (m47_10 a0) (W47_10 a0) :=
  Judge.seg (tms := []) rfl [2] [] (t := t47_10 a0) (by kernel_rfl) (fun K => by kernel_rfl)
noncomputable def m47_11 (a0 : List Int) : Option ((Bool)) := (m47_9 a0).bind (fun yy => match yy with | .inl _ => m47_10 a0  | .inr z => some z : (Unit) ⊕ (Bool) → Option ((Bool)))
noncomputable def W47_11 (a0 : List Int) : ((Bool)) → Way := fun y => fin Try.prog Try.f47 (.bool y)
theorem j47_11 (V : Env) (a0 : List Int) : Judge Try.prog V 20 (sub (body Try.f47) [1]) (s47_1_0 a0 ()) (m47_11 a0) (W47_11 a0) := 
  Judge.seqX (a := (sub (body Try.f47) [1, 0])) (b := (sub (body Try.f47) [1, 1])) (m2 := (fun yy => match yy with | .inl _ => m47_10 a0  | .inr z => some z : (Unit) ⊕ (Bool) → Option ((Bool)))) (by kernel_rfl) rfl (j47_9 V a0) (fun yy => match yy with | .inl _ => .inl ⟨rfl, _, fun _ h => h, j47_10 V a0 ⟩ | .inr z => .inr ⟨(by intro h; cases h), z, rfl, rfl, fun _ h => h⟩)
noncomputable def m47_12 (a0 : List Int) : Option ((Bool)) := (m47_1 a0).bind (fun yy => match yy with | _ => m47_11 a0  : (Unit) → Option ((Bool)))
noncomputable def W47_12 (a0 : List Int) : ((Bool)) → Way := fun y => fin Try.prog Try.f47 (.bool y)
theorem j47_12 (V : Env) (a0 : List Int) : Judge Try.prog V 20 (sub (body Try.f47) []) ⟨argFr 0 [(eSl 1 (D.int .i64) a0)], [], [], 0⟩ (m47_12 a0) (W47_12 a0) := 
  Judge.seqX (a := (sub (body Try.f47) [0])) (b := (sub (body Try.f47) [1])) (m2 := (fun yy => match yy with | _ => m47_11 a0  : (Unit) → Option ((Bool)))) (by kernel_rfl) rfl (j47_1 V a0) (fun yy => match yy with | _ => .inl ⟨rfl, _, fun _ h => h, j47_11 V a0 ⟩)
noncomputable def m47 (a0 : List Int) : Option (Bool) := m47_12 a0
theorem p47 {a0 : List Int} {r : Bool} (h : m47 a0 = some r) : PureAt Try.prog 47 [(eSl 1 (D.int .i64) a0)] (.bool r) :=
  pure_judge (R := Bool) (en := fun (r : Bool) => (.bool r)) (c := (sub (body Try.f47) [])) (ds := [(eSl 1 (D.int .i64) a0)]) (m := m47_12 a0) Try.func47 (by kernel_rfl) (by decide) (Nat.le_of_ble_eq_true rfl) (fun V => j47_12 V a0) h
/- flightdeck/flightdeckref31.falling -/
noncomputable def s48_1_0 (a0 : List Int) (y : Unit) : St := ⟨[(0, (.d (eSl 1 (D.int .i64) a0)))], [], [], 16⟩
noncomputable def m48_1 (a0 : List Int) : Option ((Unit)) :=
  some ()
noncomputable def W48_1 (a0 : List Int) : ((Unit)) → Way := fun y => go (s48_1_0 a0 y)
noncomputable def t48_1 (a0 : List Int) : Tr (W48_1 a0) := (.ret .normal (s48_1_0 a0 ()) () ⟨rfl, Weak.refl _⟩)
theorem j48_1 (V : Env) (a0 : List Int) : Judge Try.prog V 20 (sub (body Try.f48) [0]) ⟨argFr 0 [(eSl 1 (D.int .i64) a0)], [], [], 0⟩ (m48_1 a0) (W48_1 a0) :=
  Judge.seg (tms := []) rfl [0] [] (t := t48_1 a0) (by kernel_rfl) (fun K => by kernel_rfl)
noncomputable def s48_2_0 (a0 : List Int) (y : Unit) : St := ⟨[(0, (.d (eSl 1 (D.int .i64) a0))), (3, (.d (.int .i64 (1 : Int))))], [], [], 32⟩
noncomputable def m48_2 (a0 : List Int) : Option ((Unit)) :=
  some ()
noncomputable def W48_2 (a0 : List Int) : ((Unit)) → Way := fun y => go (s48_2_0 a0 y)
noncomputable def t48_2 (a0 : List Int) : Tr (W48_2 a0) := (.ret .normal (s48_2_0 a0 ()) () ⟨rfl, Weak.refl _⟩)
theorem j48_2 (V : Env) (a0 : List Int) : Judge Try.prog V 20 (sub (body Try.f48) [1, 0, 0]) (s48_1_0 a0 ()) (m48_2 a0) (W48_2 a0) :=
  Judge.seg (tms := []) rfl [0, 3] [] (t := t48_2 a0) (by kernel_rfl) (fun K => by kernel_rfl)
noncomputable def h48_4 (a0 : List Int) (y : Int) : St := ⟨[(0, (.d (eSl 1 (D.int .i64) a0))), (3, (.d (.int .i64 y)))], [], [], 304⟩
noncomputable def s48_5_0 (a0 : List Int) (s3 : Int) (y : Unit) : St := ⟨[(0, (.d (eSl 1 (D.int .i64) a0))), (3, (.d (.int .i64 (IntKind.wrap .i64 (s3 + (1 : Int))))))], [], [], 576⟩
noncomputable def s48_5_1 (a0 : List Int) (s3 : Int) (y : Unit) : St := ⟨[], [], [], 368⟩
noncomputable def m48_5 (a0 : List Int) (s3 : Int) : Option ((Unit) ⊕ (Unit) ⊕ (Bool)) :=
  if (decide (s3 < (a0.length : Int))) = true then
    if (0 : Int) ≤ s3 then
      if s3 < (a0.length : Int) then
        if (0 : Int) ≤ (IntKind.wrap .i64 (s3 - (1 : Int))) then
          if (IntKind.wrap .i64 (s3 - (1 : Int))) < (a0.length : Int) then
            if (decide ((a0.getD (IntKind.wrap .i64 (s3 - (1 : Int))).toNat default) < (a0.getD s3.toNat default))) = true then
              some (.inr (.inr false))
            else
              some (.inl ())
          else none
        else none
      else none
    else none
  else
    some (.inr (.inl ()))
noncomputable def W48_5 (a0 : List Int) (s3 : Int) : ((Unit) ⊕ (Unit) ⊕ (Bool)) → Way := fun y => match y with | .inl y => go (s48_5_0 a0 s3 y) | .inr (.inl y) => quit 0 (s48_5_1 a0 s3 y) | .inr (.inr y) => fin Try.prog Try.f48 (.bool y)
noncomputable def t48_5 (a0 : List Int) (s3 : Int) : Tr (W48_5 a0 s3) := (.ite (decide (s3 < (a0.length : Int))) (.need ((0 : Int) ≤ s3) inferInstance (.need (s3 < (a0.length : Int)) inferInstance (.need ((0 : Int) ≤ (IntKind.wrap .i64 (s3 - (1 : Int)))) inferInstance (.need ((IntKind.wrap .i64 (s3 - (1 : Int))) < (a0.length : Int)) inferInstance (.ite (decide ((a0.getD (IntKind.wrap .i64 (s3 - (1 : Int))).toNat default) < (a0.getD s3.toNat default))) (.ret .ret ⟨[(0, (.d (eSl 1 (D.int .i64) a0))), (2, (.d (.bool false))), (3, (.d (.int .i64 s3)))], [], [], 544⟩ (.inr (.inr false)) ⟨rfl, dr⟩) (.ret .normal ⟨[(0, (.d (eSl 1 (D.int .i64) a0))), (2, .any), (3, (.d (.int .i64 (IntKind.wrap .i64 (s3 + (1 : Int))))))], [], [], 576⟩ (.inl ()) ⟨rfl, (weak_of [] [] (by kernel_rfl) ⟨dr, dr⟩ trivial)⟩)))))) (.ret (.exit 0) ⟨[(0, (.d (eSl 1 (D.int .i64) a0))), (2, .any), (3, (.d (.int .i64 s3)))], [], [], 368⟩ (.inr (.inl ())) ⟨rfl, (weak_of [] [] (by kernel_rfl) trivial trivial)⟩))
theorem j48_5 (V : Env) (a0 : List Int) (s3 : Int) : Judge Try.prog V 20 (sub (body Try.f48) [1, 0, 1, 0, 0]) (h48_4 a0 s3) (m48_5 a0 s3) (W48_5 a0 s3) :=
  Judge.seg (tms := []) rfl [0, 2, 3] [] (t := t48_5 a0 s3) (by kernel_rfl) (fun K => by kernel_rfl)
noncomputable def s48_6 (a0 : List Int) (y : Unit) : St := ⟨[], [], [], 368⟩
noncomputable def b48_7 (a0 : List Int) (s3 : Int) : Option ((Int) ⊕ ((Unit) ⊕ (Bool))) := (m48_5 a0 s3).map (fun z => match z with | .inl z => .inl (IntKind.wrap .i64 (s3 + (1 : Int))) | .inr (.inl z) => .inr (.inl z) | .inr (.inr z) => .inr (.inr z) : (Unit) ⊕ (Unit) ⊕ (Bool) → (Int) ⊕ ((Unit) ⊕ (Bool)))
noncomputable def m48_7 (a0 : List Int) : Option ((Unit) ⊕ (Bool)) := loopO (b48_7 a0) (1 : Int)
noncomputable def W48_7 (a0 : List Int) : ((Unit) ⊕ (Bool)) → Way := fun y => match y with | .inl y => quit 0 (s48_6 a0 y) | .inr y => fin Try.prog Try.f48 (.bool y)
theorem j48_7 (V : Env) (a0 : List Int) : Judge Try.prog V 20 (sub (body Try.f48) [1, 0, 1, 0]) (s48_2_0 a0 ()) (m48_7 a0) (W48_7 a0) :=
  Judge.loopS (c := (sub (body Try.f48) [1, 0, 1, 0, 0])) (by kernel_rfl) (h48_4 a0) (b48_7 a0) (1 : Int) rfl (weak_of [] [] (by kernel_rfl) ⟨dr, dr⟩ trivial) (by intro y; rcases y with y | y <;> exact fun h => by cases h)
    (fun s3 => Judge.map (fun z => match z with | .inl z => .inl (IntKind.wrap .i64 (s3 + (1 : Int))) | .inr (.inl z) => .inr (.inl z) | .inr (.inr z) => .inr (.inr z) : (Unit) ⊕ (Unit) ⊕ (Bool) → (Int) ⊕ ((Unit) ⊕ (Bool))) rfl (j48_5 V a0 s3) (fun z => match z with | .inl z => ⟨rfl, fun _ h => h.trans (weak_of [] [] (by kernel_rfl) ⟨dr, dr⟩ trivial)⟩ | .inr (.inl z) => ⟨rfl, fun _ h => h⟩ | .inr (.inr z) => ⟨rfl, fun _ h => h⟩))
noncomputable def m48_8 (a0 : List Int) : Option ((Unit) ⊕ (Bool)) := m48_7 a0
noncomputable def W48_8 (a0 : List Int) : ((Unit) ⊕ (Bool)) → Way := fun y => match y with | .inl y => go (s48_6 a0 y) | .inr y => fin Try.prog Try.f48 (.bool y)
theorem j48_8 (V : Env) (a0 : List Int) : Judge Try.prog V 20 (sub (body Try.f48) [1, 0, 1]) (s48_2_0 a0 ()) (m48_8 a0) (W48_8 a0) := Judge.blockS (id := 0) (c := (sub (body Try.f48) [1, 0, 1, 0])) (by kernel_rfl) (j48_7 V a0) (by intro y; rcases y with y | y <;> rfl)
noncomputable def m48_9 (a0 : List Int) : Option ((Unit) ⊕ (Bool)) := (m48_2 a0).bind (fun yy => match yy with | _ => m48_8 a0  : (Unit) → Option ((Unit) ⊕ (Bool)))
noncomputable def W48_9 (a0 : List Int) : ((Unit) ⊕ (Bool)) → Way := fun y => match y with | .inl y => go (s48_6 a0 y) | .inr y => fin Try.prog Try.f48 (.bool y)
theorem j48_9 (V : Env) (a0 : List Int) : Judge Try.prog V 20 (sub (body Try.f48) [1, 0]) (s48_1_0 a0 ()) (m48_9 a0) (W48_9 a0) := 
  Judge.seqX (a := (sub (body Try.f48) [1, 0, 0])) (b := (sub (body Try.f48) [1, 0, 1])) (m2 := (fun yy => match yy with | _ => m48_8 a0  : (Unit) → Option ((Unit) ⊕ (Bool)))) (by kernel_rfl) rfl (j48_2 V a0) (fun yy => match yy with | _ => .inl ⟨rfl, _, fun _ h => h, j48_8 V a0 ⟩)
noncomputable def m48_10 (a0 : List Int) : Option ((Bool)) :=
  some true
noncomputable def W48_10 (a0 : List Int) : ((Bool)) → Way := fun y => fin Try.prog Try.f48 (.bool y)
noncomputable def t48_10 (a0 : List Int) : Tr (W48_10 a0) := (.ret .ret ⟨[(2, (.d (.bool true)))], [], [], 384⟩ true ⟨rfl, dr⟩)
theorem j48_10 (V : Env) (a0 : List Int) : Judge Try.prog V 20 (sub (body Try.f48) [1, 1]) (s48_6 a0 ()) (m48_10 a0) (W48_10 a0) :=
  Judge.seg (tms := []) rfl [2] [] (t := t48_10 a0) (by kernel_rfl) (fun K => by kernel_rfl)
noncomputable def m48_11 (a0 : List Int) : Option ((Bool)) := (m48_9 a0).bind (fun yy => match yy with | .inl _ => m48_10 a0  | .inr z => some z : (Unit) ⊕ (Bool) → Option ((Bool)))
noncomputable def W48_11 (a0 : List Int) : ((Bool)) → Way := fun y => fin Try.prog Try.f48 (.bool y)
theorem j48_11 (V : Env) (a0 : List Int) : Judge Try.prog V 20 (sub (body Try.f48) [1]) (s48_1_0 a0 ()) (m48_11 a0) (W48_11 a0) := 
  Judge.seqX (a := (sub (body Try.f48) [1, 0])) (b := (sub (body Try.f48) [1, 1])) (m2 := (fun yy => match yy with | .inl _ => m48_10 a0  | .inr z => some z : (Unit) ⊕ (Bool) → Option ((Bool)))) (by kernel_rfl) rfl (j48_9 V a0) (fun yy => match yy with | .inl _ => .inl ⟨rfl, _, fun _ h => h, j48_10 V a0 ⟩ | .inr z => .inr ⟨(by intro h; cases h), z, rfl, rfl, fun _ h => h⟩)
noncomputable def m48_12 (a0 : List Int) : Option ((Bool)) := (m48_1 a0).bind (fun yy => match yy with | _ => m48_11 a0  : (Unit) → Option ((Bool)))
noncomputable def W48_12 (a0 : List Int) : ((Bool)) → Way := fun y => fin Try.prog Try.f48 (.bool y)
theorem j48_12 (V : Env) (a0 : List Int) : Judge Try.prog V 20 (sub (body Try.f48) []) ⟨argFr 0 [(eSl 1 (D.int .i64) a0)], [], [], 0⟩ (m48_12 a0) (W48_12 a0) := 
  Judge.seqX (a := (sub (body Try.f48) [0])) (b := (sub (body Try.f48) [1])) (m2 := (fun yy => match yy with | _ => m48_11 a0  : (Unit) → Option ((Bool)))) (by kernel_rfl) rfl (j48_1 V a0) (fun yy => match yy with | _ => .inl ⟨rfl, _, fun _ h => h, j48_11 V a0 ⟩)
noncomputable def m48 (a0 : List Int) : Option (Bool) := m48_12 a0
end Go.Av
