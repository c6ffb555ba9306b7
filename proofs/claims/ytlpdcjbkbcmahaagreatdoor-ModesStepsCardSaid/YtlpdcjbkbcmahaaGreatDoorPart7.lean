/- A part of the proof. -/
import Derived.Test.YtlpdcjbkbcmahaaGreatDoorPart6
set_option linter.unusedVariables false
set_option linter.unusedSimpArgs false
set_option maxRecDepth 1000000
namespace Go.Av.Mo
open Go.Av.Ch
theorem M11 (a0 : T23) (a1 : Int) : m11 a0 a1 = ((Option.bind (Option.bind (Option.bind (m22 a0) fun r => some r) fun x1 => (if (!x1) = true then (some (.inr (((⟨(0 : Int), (0 : Int), (0 : Int)⟩ : T23), [], (8 : Int))))) else (Option.bind (((m33 ).bind fun r3_0 => (if 0 ≤ (r3_0.length : Int) then some r3_0 else none))) fun (x3 : ((List (List UInt8)))) => (if ((Int.fdiv a1 (2 ^ (min (x3.length : Int).toNat (IntKind.bits .u32)))) != 0) = true then (some (.inr (((⟨(0 : Int), (0 : Int), (0 : Int)⟩ : T23), [], (1 : Int))))) else (some (.inl ())))))) (onS fun (_ : Unit) => (Option.bind (Option.bind (some (.inl ())) (onS fun (_ : Unit) => (Option.bind (Option.bind (some (.inl ())) (onS fun (_ : Unit) => (Option.bind (some (.inl ())) (onS fun (_ : Unit) => (Option.bind (Option.bind (Option.bind (Option.bind (m19 (1 : Int)) fun r => some r) fun x11 => (Option.bind (Option.bind (m41 x11.1 a1) fun r => some r) fun x12 => (some (.inl (x12.1, x12.2, x11.1))))) (onS fun (y1 : Int × Bool × T48) => (Option.bind (Option.bind (some (.inl ())) (onS fun (_ : Unit) => (if (!y1.2.1) = true then (some (.inr (.inr (.inr (.inr (((⟨(0 : Int), (0 : Int), (0 : Int)⟩ : T23), [], (11 : Int)))))))) else (some (.inl ()))))) (onS fun (_ : Unit) => (some (.inl (y1.2.2, y1.1))))))) (onS fun (y2 : T48 × Int) => (some (.inl (y2.1, y2.2))))))))) (onS fun (y3 : T48 × Int) => (Option.bind (Option.bind (some (.inl ())) (onS fun (_ : Unit) => (Option.bind (some (.inl ())) (onS fun (_ : Unit) => (Option.bind (Option.bind (Option.bind (Option.bind (m19 (2 : Int)) fun r => some r) fun x11 => (Option.bind (Option.bind (m41 x11.1 a1) fun r => some r) fun x12 => (some (.inl (x12.1, x12.2, x11.1))))) (onS fun (y4 : Int × Bool × T48) => (Option.bind (Option.bind (some (.inl ())) (onS fun (_ : Unit) => (if (!y4.2.1) = true then (some (.inr (.inr (.inr (.inr (((⟨(0 : Int), (0 : Int), (0 : Int)⟩ : T23), [], (11 : Int)))))))) else (some (.inl ()))))) (onS fun (_ : Unit) => (some (.inl (y4.2.2, y4.1))))))) (onS fun (y5 : T48 × Int) => (some (.inl (y5.1, y5.2))))))))) (onS fun (y6 : T48 × Int) => (Option.bind (Option.bind (some (.inl ())) (onS fun (_ : Unit) => (Option.bind (some (.inl ())) (onS fun (_ : Unit) => (Option.bind (Option.bind (Option.bind (Option.bind (m19 (3 : Int)) fun r => some r) fun x11 => (Option.bind (Option.bind (m41 x11.1 a1) fun r => some r) fun x12 => (some (.inl (x12.1, x12.2, x11.1))))) (onS fun (y7 : Int × Bool × T48) => (Option.bind (Option.bind (some (.inl ())) (onS fun (_ : Unit) => (if (!y7.2.1) = true then (some (.inr (.inr (.inr (.inr (((⟨(0 : Int), (0 : Int), (0 : Int)⟩ : T23), [], (11 : Int)))))))) else (some (.inl ()))))) (onS fun (_ : Unit) => (some (.inl (y7.2.2, y7.1))))))) (onS fun (y8 : T48 × Int) => (some (.inl (y8.1, y8.2))))))))) (onS fun (y9 : T48 × Int) => (Option.bind (Option.bind (some (.inl ())) (onS fun (_ : Unit) => (Option.bind (some (.inr (.inr (.inl (y3.1, y6.1, y9.1, y3.2, y6.2, y9.2))))) onE))) onE))))))))) (onS fun (y10 : T48 × T48 × T48 × Int × Int × Int) => (Option.bind (some (.inl ())) (onS fun (_ : Unit) => (Option.bind (Option.bind (some (.inl ())) (onS fun (_ : Unit) => (Option.bind (Option.bind (some (.inl ())) (onS fun (_ : Unit) => (Option.bind (some (.inl ())) (onS fun (_ : Unit) => (Option.bind (Option.bind (Option.bind (Option.bind (m42 ([(-1 : Int)] : List Int) (y10.1.States.length : Int)) fun r => some r) fun x22 => (Option.bind (Option.bind (m31 y10.1 (⟨(IntKind.wrap .i64 (a0.Lateral)), x22⟩ : T71) y10.2.2.2.1) fun r => some r) fun x23 => (some (.inl (x23.2.1, x23.2.2, x23.1))))) (onS fun (y11 : (List (List UInt8)) × Int × T71) => (Option.bind (Option.bind (some (.inl ())) (onS fun (_ : Unit) => (if (y11.2.1 != 0) = true then (some (.inr (.inr (.inr (.inr (((⟨(0 : Int), (0 : Int), (0 : Int)⟩ : T23), [], y11.2.1))))))) else (some (.inl ()))))) (onS fun (_ : Unit) => (if (y11.1.length * 16 ≤ 140737488355328) then (some (.inl (y11.1, (IntKind.wrap .u8 (y11.2.2.Leaf))))) else none))))) (onS fun (y12 : (List (List UInt8)) × Int) => (some (.inl (y12.1, y12.2))))))))) (onS fun (y13 : (List (List UInt8)) × Int) => (Option.bind (Option.bind (some (.inl ())) (onS fun (_ : Unit) => (Option.bind (some (.inl ())) (onS fun (_ : Unit) => (Option.bind (Option.bind (Option.bind (Option.bind (m42 ([(-1 : Int)] : List Int) (y10.2.1.States.length : Int)) fun r => some r) fun x22 => (Option.bind (Option.bind (m31 y10.2.1 (⟨(IntKind.wrap .i64 (a0.Vertical)), x22⟩ : T71) y10.2.2.2.2.1) fun r => some r) fun x23 => (some (.inl (x23.2.1, x23.2.2, x23.1))))) (onS fun (y14 : (List (List UInt8)) × Int × T71) => (Option.bind (Option.bind (some (.inl ())) (onS fun (_ : Unit) => (if (y14.2.1 != 0) = true then (some (.inr (.inr (.inr (.inr (((⟨(0 : Int), (0 : Int), (0 : Int)⟩ : T23), [], y14.2.1))))))) else (some (.inl ()))))) (onS fun (_ : Unit) => (if ((y13.1.length + y14.1.length) * 16 ≤ 140737488355328) then (some (.inl ((y13.1 ++ y14.1), (IntKind.wrap .u8 (y14.2.2.Leaf))))) else none))))) (onS fun (y15 : (List (List UInt8)) × Int) => (some (.inl (y15.1, y15.2))))))))) (onS fun (y16 : (List (List UInt8)) × Int) => (Option.bind (Option.bind (some (.inl ())) (onS fun (_ : Unit) => (Option.bind (some (.inl ())) (onS fun (_ : Unit) => (Option.bind (Option.bind (Option.bind (Option.bind (m42 ([(-1 : Int)] : List Int) (y10.2.2.1.States.length : Int)) fun r => some r) fun x22 => (Option.bind (Option.bind (m31 y10.2.2.1 (⟨(IntKind.wrap .i64 (a0.Phase)), x22⟩ : T71) y10.2.2.2.2.2) fun r => some r) fun x23 => (some (.inl (x23.2.1, x23.2.2, x23.1))))) (onS fun (y17 : (List (List UInt8)) × Int × T71) => (Option.bind (Option.bind (some (.inl ())) (onS fun (_ : Unit) => (if (y17.2.1 != 0) = true then (some (.inr (.inr (.inr (.inr (((⟨(0 : Int), (0 : Int), (0 : Int)⟩ : T23), [], y17.2.1))))))) else (some (.inl ()))))) (onS fun (_ : Unit) => (if ((y16.1.length + y17.1.length) * 16 ≤ 140737488355328) then (some (.inl ((y16.1 ++ y17.1), (IntKind.wrap .u8 (y17.2.2.Leaf))))) else none))))) (onS fun (y18 : (List (List UInt8)) × Int) => (some (.inl (y18.1, y18.2))))))))) (onS fun (y19 : (List (List UInt8)) × Int) => (Option.bind (Option.bind (some (.inl ())) (onS fun (_ : Unit) => (Option.bind (some (.inr (.inr (.inl (y19.1, y13.2, y16.2, y19.2))))) onE))) onE))))))))) (onS fun (y20 : (List (List UInt8)) × Int × Int × Int) => (some ((⟨y20.2.1, y20.2.2.1, y20.2.2.2⟩ : T23), y20.1, (0 : Int))))))))))) : Option (T23 × (List (List UInt8)) × Int)) := by kernel_rfl
theorem M22 (a0 : T23) : m22 a0 = ((Option.bind (((m21 (1 : Int) a0.Lateral).bind fun r1_0 => ((if (r1_0 != ([] : List UInt8)) = true then m21 (2 : Int) a0.Vertical else some default).bind fun r1_1 => ((if ((r1_0 != ([] : List UInt8)) && (r1_1 != ([] : List UInt8))) = true then m21 (3 : Int) a0.Phase else some default).bind fun r1_2 => some (r1_0, r1_1, r1_2))))) fun (x1 : ((List UInt8) × (List UInt8) × (List UInt8))) => (some (((x1.1 != ([] : List UInt8)) && (x1.2.1 != ([] : List UInt8))) && (x1.2.2 != ([] : List UInt8))))) : Option (Bool)) := by kernel_rfl
theorem M21 (a0 a1 : Int) : m21 a0 a1 = ((Option.bind (Option.bind (m46 a0) fun r => some r) fun x1 => (if (decide ((x1.length : Int) ≤ (IntKind.wrap .i64 (a1)))) = true then (some ([] : List UInt8)) else (if (0 ≤ a1) then (if (a1 < (x1.length : Int)) then (some (x1.getD a1.toNat default)) else none) else none))) : Option ((List UInt8))) := by kernel_rfl
def nam1 : List (List UInt8) := [[], [82, 79, 76, 76], [72, 69, 65, 68, 73, 78, 71], [65, 82, 77, 69, 68], [78, 65, 86], [65, 80, 80, 82, 79, 65, 67, 72], [71, 79, 65, 82, 79, 85, 78, 68]]
theorem modes1 : m46 1 = some nam1 := by kernel_rfl
theorem nall1 : (List.range 256).all (fun n => (nam1.getD n [] != []) == (decide (1 ≤ n) && decide (n ≤ 6))) = true := by kernel_rfl
theorem nam1_ne {n : Nat} (h : n < 256) : (nam1.getD n [] != ([] : List UInt8)) = (decide (1 ≤ n) && decide (n ≤ 6)) := by
 have := nall1
 simp only [List.all_eq_true] at this
 exact eq_of_beq (this n (List.mem_range.2 h))
theorem mName1 {n : Nat} (h : n < 256) : m21 1 (n : Int) = some (nam1.getD n []) := by
 have hl : nam1.length = 7 := by decide
 rw [M21, bind_id, modes1, Option.bind_some, w64 (by omega) (by omega), hl]
 by_cases h1 : ((7 : Nat) : Int) ≤ (n : Int)
 ·rw [if_pos (by simpa using h1), List.getD_eq_getElem?_getD, List.getElem?_eq_none (by omega)]; rfl
 ·rw [if_neg (by simpa using h1), if_pos (by omega), if_pos (by omega), Int.toNat_natCast]; rfl
def nam2 : List (List UInt8) := [[], [72, 79, 76, 68], [67, 76, 73, 77, 66], [68, 69, 83, 67, 69, 78, 68], [83, 80, 69, 69, 68], [67, 65, 80, 84, 85, 82, 69], [80, 65, 84, 72], [71, 76, 73, 68, 69], [71, 79, 65, 82, 79, 85, 78, 68]]
theorem modes2 : m46 2 = some nam2 := by kernel_rfl
theorem nall2 : (List.range 256).all (fun n => (nam2.getD n [] != []) == (decide (1 ≤ n) && decide (n ≤ 8))) = true := by kernel_rfl
theorem nam2_ne {n : Nat} (h : n < 256) : (nam2.getD n [] != ([] : List UInt8)) = (decide (1 ≤ n) && decide (n ≤ 8)) := by
 have := nall2
 simp only [List.all_eq_true] at this
 exact eq_of_beq (this n (List.mem_range.2 h))
theorem mName2 {n : Nat} (h : n < 256) : m21 2 (n : Int) = some (nam2.getD n []) := by
 have hl : nam2.length = 9 := by decide
 rw [M21, bind_id, modes2, Option.bind_some, w64 (by omega) (by omega), hl]
 by_cases h1 : ((9 : Nat) : Int) ≤ (n : Int)
 ·rw [if_pos (by simpa using h1), List.getD_eq_getElem?_getD, List.getElem?_eq_none (by omega)]; rfl
 ·rw [if_neg (by simpa using h1), if_pos (by omega), if_pos (by omega), Int.toNat_natCast]; rfl
def nam3 : List (List UInt8) := [[], [80, 82, 69, 70, 76, 84], [84, 65, 75, 69, 79, 70, 70], [67, 76, 73, 77, 66], [67, 82, 85, 73, 83, 69], [68, 69, 83, 67, 69, 78, 84], [65, 80, 80, 82, 79, 65, 67, 72], [71, 79, 65, 82, 79, 85, 78, 68], [76, 65, 78, 68, 69, 68]]
theorem modes3 : m46 3 = some nam3 := by kernel_rfl
theorem nall3 : (List.range 256).all (fun n => (nam3.getD n [] != []) == (decide (1 ≤ n) && decide (n ≤ 8))) = true := by kernel_rfl
theorem nam3_ne {n : Nat} (h : n < 256) : (nam3.getD n [] != ([] : List UInt8)) = (decide (1 ≤ n) && decide (n ≤ 8)) := by
 have := nall3
 simp only [List.all_eq_true] at this
 exact eq_of_beq (this n (List.mem_range.2 h))
theorem mName3 {n : Nat} (h : n < 256) : m21 3 (n : Int) = some (nam3.getD n []) := by
 have hl : nam3.length = 9 := by decide
 rw [M21, bind_id, modes3, Option.bind_some, w64 (by omega) (by omega), hl]
 by_cases h1 : ((9 : Nat) : Int) ≤ (n : Int)
 ·rw [if_pos (by simpa using h1), List.getD_eq_getElem?_getD, List.getElem?_eq_none (by omega)]; rfl
 ·rw [if_neg (by simpa using h1), if_pos (by omega), if_pos (by omega), Int.toNat_natCast]; rfl
def validN (l v p : Nat) : Bool := (decide (1 ≤ l) && decide (l ≤ 6)) && (decide (1 ≤ v) && decide (v ≤ 8)) && (decide (1 ≤ p) && decide (p ≤ 8))
theorem Valid_eq {l v p : Nat} (hl : l < 256) (hv : v < 256) (hp : p < 256) : m22 ⟨(l : Int), (v : Int), (p : Int)⟩ = some (validN l v p) := by
 unfold validN
 rw [M22, ← nam1_ne hl, ← nam2_ne hv, ← nam3_ne hp]
 have hd : ((default : List UInt8) != ([] : List UInt8)) = false := rfl
 cases h1 : (nam1.getD l [] != ([] : List UInt8)) with
 | false => simp only [mName1 hl, Option.bind_some, h1, hd, Bool.false_eq_true, if_false, Bool.false_and]
 | true =>
  cases h2 : (nam2.getD v [] != ([] : List UInt8)) with
  | false => simp only [mName1 hl, mName2 hv, Option.bind_some, h1, h2, hd, Bool.false_eq_true, if_false, if_true, Bool.false_and, Bool.and_false]
  | true => simp only [mName1 hl, mName2 hv, mName3 hp, Option.bind_some, h1, h2, if_true, Bool.and_true, Bool.true_and]
def goS (c : T48) (leaf : Int) (v : Nat) : T71 × List (List UInt8) × Int := fireR c ⟨leaf, rep c⟩ ((enabledS c leaf (v : Int)).getD 0 default)
theorem leaf_valid {c : T48} {leaf : Int} (h : leaf ∈ leavesS c) : validS c ⟨leaf, rep c⟩ = true := by
 obtain ⟨h1, h2⟩ := leavesS_iff.1 h
 exact validS_iff.2 ⟨h1, h2, mem_begin⟩
theorem go_of {c : T48} (hc : checkM c = some 0) {leaf : Int} (hl : leaf ∈ leavesS c) {v : Nat} (ha : allowedS c (v : Int) = true) (h1 : (enabledS c leaf (v : Int)).length = 1) : stepM c ⟨leaf, rep c⟩ (v : Int) = some (goS c leaf v) := by
 unfold stepM
 rw [hc, Option.bind_some, leaf_valid hl, ha]
 simp only [h1]
 rfl
theorem go_leaf {c : T48} (H : Fit c) {leaf : Int} {v : Int} {r : T71 × List (List UInt8) × Int} (h : stepM c ⟨leaf, rep c⟩ v = some r) (h0 : r.2.2 = 0) : r.1.Leaf ∈ leavesS c ∧ r.2.1.length ≤ 32000 := by
 obtain ⟨h1, h2⟩ := stepM_ok H h
 obtain ⟨g1, g2, _⟩ := validS_iff.1 (h2 h0).2.2
 exact ⟨leavesS_iff.2 ⟨g1, g2⟩, h1⟩
def al1 (b : Nat) : Bool := allowedS C1 (valS C1 b)
def al2 (b : Nat) : Bool := allowedS C2 (valS C2 b)
def al3 (b : Nat) : Bool := allowedS C3 (valS C3 b)
theorem mem1 {l : Nat} (h1 : 1 ≤ l) (h2 : l ≤ 6) : (l : Int) ∈ leavesS C1 := by
 rw [lea1]
 have : l = 1 ∨ l = 2 ∨ l = 3 ∨ l = 4 ∨ l = 5 ∨ l = 6 := by omega
 rcases this with rfl | rfl | rfl | rfl | rfl | rfl <;> simp
theorem leaf1 {x : Int} (h : x ∈ leavesS C1) : 1 ≤ x ∧ x ≤ 6 := by
 rw [lea1] at h
 simp only [List.mem_cons, List.not_mem_nil, or_false] at h
 omega
theorem val1 {b : Nat} (hb : b < 4294967296) : m41 C1 (b : Int) = some ((valS C1 b : Int), al1 b) := valuation_eq fit1 pos1 (by decide) hb
theorem go1 {l : Nat} (h1 : 1 ≤ l) (h2 : l ≤ 6) {b : Nat} (ha : al1 b = true) : stepM C1 ⟨(l : Int), rep C1⟩ ((valS C1 b : Nat) : Int) = some (goS C1 l (valS C1 b)) :=
 go_of chk1 (mem1 h1 h2) ha (one1 (valS_lt (c := C1)) (mem1 h1 h2) ha)
theorem cstep1 {l : Nat} (h1 : 1 ≤ l) (h2 : l ≤ 6) {b : Nat} (ha : al1 b = true) : m31 C1 ⟨(l : Int), rep C1⟩ ((valS C1 b : Nat) : Int) = some (goS C1 l (valS C1 b)) := by rw [Step_eq C1 fit1]; exact go1 h1 h2 ha
theorem rep1 : m42 ([-1] : List Int) (C1.States.length : Int) = some (rep C1) := by kernel_rfl
theorem gol1 {l : Nat} (h1 : 1 ≤ l) (h2 : l ≤ 6) {b : Nat} (ha : al1 b = true) : (1 ≤ (goS C1 l (valS C1 b)).1.Leaf ∧ (goS C1 l (valS C1 b)).1.Leaf ≤ 6) ∧ (goS C1 l (valS C1 b)).2.1.length ≤ 32000 := by
 obtain ⟨g1, g2⟩ := go_leaf fit1 (go1 h1 h2 ha) rfl
 exact ⟨leaf1 g1, g2⟩
theorem mem2 {l : Nat} (h1 : 1 ≤ l) (h2 : l ≤ 8) : (l : Int) ∈ leavesS C2 := by
 rw [lea2]
 have : l = 1 ∨ l = 2 ∨ l = 3 ∨ l = 4 ∨ l = 5 ∨ l = 6 ∨ l = 7 ∨ l = 8 := by omega
 rcases this with rfl | rfl | rfl | rfl | rfl | rfl | rfl | rfl <;> simp
theorem leaf2 {x : Int} (h : x ∈ leavesS C2) : 1 ≤ x ∧ x ≤ 8 := by
 rw [lea2] at h
 simp only [List.mem_cons, List.not_mem_nil, or_false] at h
 omega
theorem val2 {b : Nat} (hb : b < 4294967296) : m41 C2 (b : Int) = some ((valS C2 b : Int), al2 b) := valuation_eq fit2 pos2 (by decide) hb
theorem go2 {l : Nat} (h1 : 1 ≤ l) (h2 : l ≤ 8) {b : Nat} (ha : al2 b = true) : stepM C2 ⟨(l : Int), rep C2⟩ ((valS C2 b : Nat) : Int) = some (goS C2 l (valS C2 b)) :=
 go_of chk2 (mem2 h1 h2) ha (one2 (valS_lt (c := C2)) (mem2 h1 h2) ha)
theorem cstep2 {l : Nat} (h1 : 1 ≤ l) (h2 : l ≤ 8) {b : Nat} (ha : al2 b = true) : m31 C2 ⟨(l : Int), rep C2⟩ ((valS C2 b : Nat) : Int) = some (goS C2 l (valS C2 b)) := by rw [Step_eq C2 fit2]; exact go2 h1 h2 ha
theorem rep2 : m42 ([-1] : List Int) (C2.States.length : Int) = some (rep C2) := by kernel_rfl
theorem gol2 {l : Nat} (h1 : 1 ≤ l) (h2 : l ≤ 8) {b : Nat} (ha : al2 b = true) : (1 ≤ (goS C2 l (valS C2 b)).1.Leaf ∧ (goS C2 l (valS C2 b)).1.Leaf ≤ 8) ∧ (goS C2 l (valS C2 b)).2.1.length ≤ 32000 := by
 obtain ⟨g1, g2⟩ := go_leaf fit2 (go2 h1 h2 ha) rfl
 exact ⟨leaf2 g1, g2⟩
theorem mem3 {l : Nat} (h1 : 1 ≤ l) (h2 : l ≤ 8) : (l : Int) ∈ leavesS C3 := by
 rw [lea3]
 have : l = 1 ∨ l = 2 ∨ l = 3 ∨ l = 4 ∨ l = 5 ∨ l = 6 ∨ l = 7 ∨ l = 8 := by omega
 rcases this with rfl | rfl | rfl | rfl | rfl | rfl | rfl | rfl <;> simp
theorem leaf3 {x : Int} (h : x ∈ leavesS C3) : 1 ≤ x ∧ x ≤ 8 := by
 rw [lea3] at h
 simp only [List.mem_cons, List.not_mem_nil, or_false] at h
 omega
theorem val3 {b : Nat} (hb : b < 4294967296) : m41 C3 (b : Int) = some ((valS C3 b : Int), al3 b) := valuation_eq fit3 pos3 (by decide) hb
theorem go3 {l : Nat} (h1 : 1 ≤ l) (h2 : l ≤ 8) {b : Nat} (ha : al3 b = true) : stepM C3 ⟨(l : Int), rep C3⟩ ((valS C3 b : Nat) : Int) = some (goS C3 l (valS C3 b)) :=
 go_of chk3 (mem3 h1 h2) ha (one3 (valS_lt (c := C3)) (mem3 h1 h2) ha)
theorem cstep3 {l : Nat} (h1 : 1 ≤ l) (h2 : l ≤ 8) {b : Nat} (ha : al3 b = true) : m31 C3 ⟨(l : Int), rep C3⟩ ((valS C3 b : Nat) : Int) = some (goS C3 l (valS C3 b)) := by rw [Step_eq C3 fit3]; exact go3 h1 h2 ha
theorem rep3 : m42 ([-1] : List Int) (C3.States.length : Int) = some (rep C3) := by kernel_rfl
theorem gol3 {l : Nat} (h1 : 1 ≤ l) (h2 : l ≤ 8) {b : Nat} (ha : al3 b = true) : (1 ≤ (goS C3 l (valS C3 b)).1.Leaf ∧ (goS C3 l (valS C3 b)).1.Leaf ≤ 8) ∧ (goS C3 l (valS C3 b)).2.1.length ≤ 32000 := by
 obtain ⟨g1, g2⟩ := go_leaf fit3 (go3 h1 h2 ha) rfl
 exact ⟨leaf3 g1, g2⟩
def stepP (l v p b : Nat) : T23 × List (List UInt8) × Int :=
 if (!validN l v p) = true then (⟨0, 0, 0⟩, [], 8)
 else if 524288 ≤ b then (⟨0, 0, 0⟩, [], 1)
 else if (!(al1 b && al2 b && al3 b)) = true then (⟨0, 0, 0⟩, [], 11)
 else (⟨(goS C1 l (valS C1 b)).1.Leaf, (goS C2 v (valS C2 b)).1.Leaf, (goS C3 p (valS C3 b)).1.Leaf⟩, (goS C1 l (valS C1 b)).2.1 ++ (goS C2 v (valS C2 b)).2.1 ++ (goS C3 p (valS C3 b)).2.1, 0)
theorem shr19s {b : Nat} (hb : b < 4294967296) : (Int.fdiv (b : Int) (2 ^ (min (namesL.length : Int).toNat (IntKind.bits .u32))) != (0 : Int)) = decide (524288 ≤ b) := by
 rw [show (namesL.length : Int).toNat = 19 from rfl, show IntKind.bits .u32 = 32 from rfl, fdiv_pow (by omega), Bool.eq_iff_iff, decide_eq_true_eq, bne_iff_ne, ne_eq]
 omega
theorem Step_eqM {l v p b : Nat} (hl : l < 256) (hv : v < 256) (hp : p < 256) (hb : b < 4294967296) : m11 ⟨(l : Int), (v : Int), (p : Int)⟩ (b : Int) = some (stepP l v p b) := by
 have hn0 : (0 : Int) ≤ (namesL.length : Int) := by decide
 have e0 := Valid_eq hl hv hp
 have en := Names_eq
 have h19' := shr19s hb
 have r1 := read1
 have r2 := read2
 have r3 := read3
 have w1 := val1 hb
 have w2 := val2 hb
 have w3 := val3 hb
 have p1 := rep1
 have p2 := rep2
 have p3 := rep3
 have z1 : IntKind.wrap .i64 (l : Int) = (l : Int) := w64 (by omega) (by omega)
 have z2 : IntKind.wrap .i64 (v : Int) = (v : Int) := w64 (by omega) (by omega)
 have z3 : IntKind.wrap .i64 (p : Int) = (p : Int) := w64 (by omega) (by omega)
 have good : validN l v p = true → al1 b = true → al2 b = true → al3 b = true →
   (m31 C1 ⟨(l : Int), rep C1⟩ ((valS C1 b : Nat) : Int) = some (goS C1 l (valS C1 b)) ∧ m31 C2 ⟨(v : Int), rep C2⟩ ((valS C2 b : Nat) : Int) = some (goS C2 v (valS C2 b)) ∧ m31 C3 ⟨(p : Int), rep C3⟩ ((valS C3 b : Nat) : Int) = some (goS C3 p (valS C3 b))) ∧
   ((goS C1 l (valS C1 b)).2.2 = 0 ∧ (goS C2 v (valS C2 b)).2.2 = 0 ∧ (goS C3 p (valS C3 b)).2.2 = 0) ∧
   ((goS C1 l (valS C1 b)).2.1.length * 16 ≤ 140737488355328 ∧ ((goS C1 l (valS C1 b)).2.1.length + (goS C2 v (valS C2 b)).2.1.length) * 16 ≤ 140737488355328 ∧ (((goS C1 l (valS C1 b)).2.1 ++ (goS C2 v (valS C2 b)).2.1).length + (goS C3 p (valS C3 b)).2.1.length) * 16 ≤ 140737488355328) ∧
   (IntKind.wrap .u8 (goS C1 l (valS C1 b)).1.Leaf = (goS C1 l (valS C1 b)).1.Leaf ∧ IntKind.wrap .u8 (goS C2 v (valS C2 b)).1.Leaf = (goS C2 v (valS C2 b)).1.Leaf ∧ IntKind.wrap .u8 (goS C3 p (valS C3 b)).1.Leaf = (goS C3 p (valS C3 b)).1.Leaf) := by
  intro hval a1 a2 a3
  simp only [validN, Bool.and_eq_true, decide_eq_true_eq] at hval
  obtain ⟨⟨⟨l1, l2⟩, v1, v2⟩, p1, p2⟩ := hval
  obtain ⟨⟨c1, c2⟩, c3⟩ := gol1 l1 l2 a1
  obtain ⟨⟨d1, d2⟩, d3⟩ := gol2 v1 v2 a2
  obtain ⟨⟨e1, e2⟩, e3⟩ := gol3 p1 p2 a3
  exact ⟨⟨cstep1 l1 l2 a1, cstep2 v1 v2 a2, cstep3 p1 p2 a3⟩, ⟨rfl, rfl, rfl⟩, ⟨by omega, by omega, by rw [List.length_append]; omega⟩, IntWalk.u8_in _ (by omega), IntWalk.u8_in _ (by omega), IntWalk.u8_in _ (by omega)⟩
 unfold stepP
 simp only [M11, bind_id]
 generalize goS C1 l (valS C1 b) = g1 at good ⊢
 generalize goS C2 v (valS C2 b) = g2 at good ⊢
 generalize goS C3 p (valS C3 b) = g3 at good ⊢
 generalize ((valS C1 b : Nat) : Int) = y1 at good w1
 generalize ((valS C2 b : Nat) : Int) = y2 at good w2
 generalize ((valS C3 b : Nat) : Int) = y3 at good w3
 generalize rep C1 = q1 at good p1
 generalize rep C2 = q2 at good p2
 generalize rep C3 = q3 at good p3
 generalize C1 = c1 at good r1 w1 p1
 generalize C2 = c2 at good r2 w2 p2
 generalize C3 = c3 at good r3 w3 p3
 generalize al1 b = b1 at good w1 ⊢
 generalize al2 b = b2 at good w2 ⊢
 generalize al3 b = b3 at good w3 ⊢
 generalize validN l v p = bv at good e0 ⊢
 generalize namesL = nl at hn0 en h19'
 generalize m19 = F at r1 r2 r3 ⊢
 generalize m41 = G at w1 w2 w3 ⊢
 generalize m31 = S at good ⊢
 generalize m42 = Q at p1 p2 p3 ⊢
 generalize m22 = V at e0 ⊢
 generalize m33 = M at en ⊢
 cases bv with
 | false => simp only [e0, bs, or_, Bool.not_false, if_true]
 | true =>
  by_cases h19 : 524288 ≤ b
  ·simp only [e0, en, hn0, h19', h19, decide_true, bs, or_, Bool.not_true, Bool.false_eq_true, if_false, if_true]
  ·cases b1 with
   | false => simp only [e0, en, hn0, h19', h19, decide_false, r1, w1, bs, ol, or_, oe, Bool.not_true, Bool.not_false, Bool.false_and, Bool.false_eq_true, if_false, if_true]
   | true =>
    cases b2 with
    | false => simp only [e0, en, hn0, h19', h19, decide_false, r1, w1, r2, w2, bs, ol, or_, oe, Bool.not_true, Bool.not_false, Bool.true_and, Bool.false_and, Bool.false_eq_true, if_false, if_true]
    | true =>
     cases b3 with
     | false => simp only [e0, en, hn0, h19', h19, decide_false, r1, w1, r2, w2, r3, w3, bs, ol, or_, oe, Bool.not_true, Bool.not_false, Bool.true_and, Bool.false_and, Bool.false_eq_true, if_false, if_true]
     | true =>
      obtain ⟨⟨s1, s2, s3⟩, ⟨o1, o2, o3⟩, ⟨f1, f2, f3⟩, k1, k2, k3⟩ := good rfl rfl rfl rfl
      simp only [e0, en, hn0, h19', h19, decide_false, r1, w1, r2, w2, r3, w3, p1, p2, p3, z1, z2, z3, s1, s2, s3, o1, o2, o3, f1, f2, f3, k1, k2, k3,
       bs, ol, or_, oe, bne_self_eq_false, Bool.not_true, Bool.not_false, Bool.true_and, Bool.false_and, Bool.false_eq_true, if_false, if_true]
set_option maxRecDepth 1000000
def headS (p : List UInt8) : List (List UInt8) → List (List UInt8)
 | [] => [p]
 | l :: r => (p ++ l) :: r
def linesS : List UInt8 → List (List UInt8)
 | [] => [[]]
 | c :: s => match Nat.beq c.toNat 10 with
  | true => [] :: linesS s
  | false => headS [c] (linesS s)
theorem linesS_t {c : UInt8} {s : List UInt8} (h : Nat.beq c.toNat 10 = true) : linesS (c :: s) = [] :: linesS s := by rw [linesS, h]
theorem linesS_f {c : UInt8} {s : List UInt8} (h : Nat.beq c.toNat 10 = false) : linesS (c :: s) = headS [c] (linesS s) := by rw [linesS, h]
theorem linesS_ne : ∀ s, ∃ l r, linesS s = l :: r
 | [] => ⟨_, _, rfl⟩
 | c :: s => by
  unfold linesS
  split
  ·exact ⟨_, _, rfl⟩
  ·obtain ⟨l, r, h⟩ := linesS_ne s
   rw [h]; exact ⟨_, _, rfl⟩
theorem headS_headS (p q : List UInt8) (l : List (List UInt8)) : headS p (headS q l) = headS (p ++ q) l := by cases l <;> simp [headS]
theorem M145 (a0 : List UInt8) : m145 a0 = ((Option.bind (some (.inl ())) (onS fun (_ : Unit) => (Option.bind (Option.bind (some (.inl ())) (onS fun (_ : Unit) => (loopO (fun (s1 : (List (List UInt8)) × Int × Int) => ((if (decide (s1.2.2 ≤ (a0.length : Int))) = true then (if (!(s1.2.2 == (a0.length : Int))) = true → (0 ≤ s1.2.2) then (if (!(s1.2.2 == (a0.length : Int))) = true → (s1.2.2 < (a0.length : Int)) then (if ((s1.2.2 == (a0.length : Int)) || ((byteAt a0 s1.2.2.toNat) == 10)) = true then (if (0 ≤ s1.2.1) then (if (s1.2.1 ≤ s1.2.2) then (if (s1.2.2 ≤ (a0.length : Int)) then (if ((s1.1.length + 1) * 16 ≤ 140737488355328) then (some (.inl ((s1.1 ++ ([((a0.take s1.2.2.toNat).drop s1.2.1.toNat)] : List (List UInt8))), (IntKind.wrap .i64 (s1.2.2 + 1)), (IntKind.wrap .i64 (s1.2.2 + 1))))) else none) else none) else none) else none) else (some (.inl (s1.1, s1.2.1, (IntKind.wrap .i64 (s1.2.2 + 1)))))) else none) else none) else (some (.inr (.inl s1.1)))) : Option (((List (List UInt8)) × Int × Int) ⊕ (((List (List UInt8))) ⊕ ((List (List UInt8))))))) ([], (0 : Int), (0 : Int))))) (onS fun (y2 : (List (List UInt8))) => (some y2))))) : Option ((List (List UInt8)))) := by kernel_rfl
theorem M101o0 (a0 : List UInt8) : m101o0 a0 = ((Option.bind (if (decide (262144 < (a0.length : Int))) = true then (some (.inr ((([(⟨(1 : Int), (1 : Int), (3 : Int)⟩ : T136)] : List T136), [])))) else (some (.inl ()))) (onS fun (_ : Unit) => (Option.bind (Option.bind (Option.bind (Option.bind (m145 a0) fun r => some r) fun x5 => (some (.inl (x5, (x5.length : Int))))) (onS fun (y1 : (List (List UInt8)) × Int) => (loopO (fun (s2 : (List T139) × (List T136) × Int) => ((if (decide (s2.2.2 < y1.2)) = true then (if (0 ≤ s2.2.2) then (if (s2.2.2 < (y1.1.length : Int)) then (Option.bind (Option.bind (m146 (y1.1.getD s2.2.2.toNat default)) fun r => some r) fun x8 => (if (x8.2.2 != 0) = true then (if (decide ((s2.2.1.length : Int) < (50 : Int))) = true then (if ((s2.2.1.length + 1) * 24 ≤ 140737488355328) then (some (.inl (s2.1, (s2.2.1 ++ ([(⟨(IntKind.wrap .i64 (s2.2.2 + 1)), x8.2.1, x8.2.2⟩ : T136)] : List T136)), (IntKind.wrap .i64 (s2.2.2 + 1))))) else none) else (some (.inl (s2.1, s2.2.1, (IntKind.wrap .i64 (s2.2.2 + 1)))))) else (if (decide (0 < (x8.1.length : Int))) = true then (if ((s2.1.length + 1) * 32 ≤ 140737488355328) then (some (.inl ((s2.1 ++ ([(⟨(IntKind.wrap .i64 (s2.2.2 + 1)), x8.1⟩ : T139)] : List T139)), s2.2.1, (IntKind.wrap .i64 (s2.2.2 + 1))))) else none) else (some (.inl (s2.1, s2.2.1, (IntKind.wrap .i64 (s2.2.2 + 1)))))))) else none) else none) else (some (.inr (.inl (s2.1, s2.2.1))))) : Option (((List T139) × (List T136) × Int) ⊕ (((List T139) × (List T136)) ⊕ ((List T136) × (List T139)))))) ([], [], (0 : Int))))) (onS fun (y3 : (List T139) × (List T136)) => (some (y3.2, y3.1)))))) : Option ((List T136) × (List T139))) := by kernel_rfl
theorem M63 (a0 : List UInt8) : m63 a0 = ((Option.bind (Option.bind (Option.bind (m101o0 a0) fun r => some r) fun x1 => (if (((x1.1.length : Int) == (0 : Int)) && ((x1.2.length : Int) == (0 : Int))) = true then (if (decide ((0 : Int) < (1 : Int))) = true then (some (.inr (((⟨([] : List UInt8), [], [], [], (0 : Int), []⟩ : T48), ([(⟨(1 : Int), (1 : Int), (9 : Int)⟩ : T136)] : List T136))))) else (some (.inl (x1.2, ([(⟨(1 : Int), (1 : Int), (9 : Int)⟩ : T136)] : List T136))))) else (if (decide (0 < (x1.1.length : Int))) = true then (some (.inr (((⟨([] : List UInt8), [], [], [], (0 : Int), []⟩ : T48), x1.1)))) else (some (.inl (x1.2, x1.1)))))) (onS fun (y1 : (List T139) × (List T136)) => (Option.bind (Option.bind (some (.inl ())) (onS fun (_ : Unit) => (loopO (fun (s2 : (List T136) × Int) => ((if (decide (s2.2 < (y1.1.length : Int))) = true then (if (0 ≤ s2.2) then (if (s2.2 < (y1.1.length : Int)) then (if ((0 : Int) ≤ (0 : Int)) then (if (0 < ((y1.1.getD s2.2.toNat default).Fields.length : Int)) then (Option.bind (Option.bind (m102 (y1.1.getD s2.2.toNat default)) fun r => some r) fun x10 => (if (decide (x10 < 0)) = true then (if (true && (decide ((s2.1.length : Int) < (50 : Int)))) = true then (if ((s2.1.length + 1) * 24 ≤ 140737488355328) then (some (.inl ((s2.1 ++ ([(⟨(y1.1.getD s2.2.toNat default).Number, ((y1.1.getD s2.2.toNat default).Fields.getD (0 : Int).toNat default).Column, (4 : Int)⟩ : T136)] : List T136)), (IntKind.wrap .i64 (s2.2 + 1))))) else none) else (some (.inl (s2.1, (IntKind.wrap .i64 (s2.2 + 1)))))) else (Option.bind ((if (((!((s2.2 == 0) && (x10 != 0))) && (decide (0 < s2.2))) && (!(x10 == 0))) = true → 0 ≤ (IntKind.wrap .i64 (s2.2 - 1)) then (if (((!((s2.2 == 0) && (x10 != 0))) && (decide (0 < s2.2))) && (!(x10 == 0))) = true → (IntKind.wrap .i64 (s2.2 - 1)) < (y1.1.length : Int) then ((if (((!((s2.2 == 0) && (x10 != 0))) && (decide (0 < s2.2))) && (!(x10 == 0))) = true then m102 (y1.1.getD (IntKind.wrap .i64 (s2.2 - 1)).toNat default) else some default).bind fun r14_0 => ((if (((!((s2.2 == 0) && (x10 != 0))) && (decide (0 < s2.2))) && (!(x10 == 0))) = true then m103 x10 r14_0 else some default).bind fun r14_1 => some (r14_0, r14_1))) else none) else none)) fun (x14 : (Int × Bool)) => (if (((s2.2 == 0) && (x10 != 0)) || ((decide (0 < s2.2)) && ((x10 == 0) || (!x14.2)))) = true then (if (true && (decide ((s2.1.length : Int) < (50 : Int)))) = true then (if ((s2.1.length + 1) * 24 ≤ 140737488355328) then (some (.inl ((s2.1 ++ ([(⟨(y1.1.getD s2.2.toNat default).Number, ((y1.1.getD s2.2.toNat default).Fields.getD (0 : Int).toNat default).Column, (9 : Int)⟩ : T136)] : List T136)), (IntKind.wrap .i64 (s2.2 + 1))))) else none) else (some (.inl (s2.1, (IntKind.wrap .i64 (s2.2 + 1)))))) else (Option.bind (Option.bind (m104 (y1.1.getD s2.2.toNat default)) fun r => some r) fun x16 => (if (x16.2 && (decide ((s2.1.length : Int) < (50 : Int)))) = true then (if ((s2.1.length + 1) * 24 ≤ 140737488355328) then (some (.inl ((s2.1 ++ ([x16.1] : List T136)), (IntKind.wrap .i64 (s2.2 + 1))))) else none) else (some (.inl (s2.1, (IntKind.wrap .i64 (s2.2 + 1))))))))))) else none) else none) else none) else none) else (some (.inr (.inl s2.1)))) : Option (((List T136) × Int) ⊕ (((List T136)) ⊕ (T48 × (List T136)))))) (y1.2, (0 : Int))))) (onS fun (y3 : (List T136)) => (Option.bind (if (decide (0 < (y3.length : Int))) = true then (some (.inr (((⟨([] : List UInt8), [], [], [], (0 : Int), []⟩ : T48), y3)))) else (some (.inl ()))) (onS fun (_ : Unit) => (Option.bind (Option.bind (some (.inl ())) (onS fun (_ : Unit) => (loopO (fun (s4 : (List T136) × Int) => ((if (decide (s4.2 < (y1.1.length : Int))) = true then (if (0 ≤ s4.2) then (if (s4.2 < (y1.1.length : Int)) then (Option.bind (Option.bind (m105 y1.1 (y1.1.getD s4.2.toNat default)) fun r => some r) fun x25 => (if ((decide (0 < x25)) && (decide ((s4.1.length : Int) < (50 : Int)))) = true then (if ((s4.1.length + 1) * 24 ≤ 140737488355328) then (some (.inl ((s4.1 ++ ([(⟨(y1.1.getD s4.2.toNat default).Number, x25, (6 : Int)⟩ : T136)] : List T136)), (IntKind.wrap .i64 (s4.2 + 1))))) else none) else (some (.inl (s4.1, (IntKind.wrap .i64 (s4.2 + 1))))))) else none) else none) else (some (.inr (.inl s4.1)))) : Option (((List T136) × Int) ⊕ (((List T136)) ⊕ (T48 × (List T136)))))) (y3, (0 : Int))))) (onS fun (y5 : (List T136)) => (if (decide (0 < (y5.length : Int))) = true then (some ((⟨([] : List UInt8), [], [], [], (0 : Int), []⟩ : T48), y5)) else (Option.bind (Option.bind (m106 y1.1) fun r => some r) fun x31 => (Option.bind (Option.bind (m107 x31) fun r => some r) fun x32 => (if (x32 != 0) = true then (some ((⟨([] : List UInt8), [], [], [], (0 : Int), []⟩ : T48), ([(⟨(1 : Int), (1 : Int), x32⟩ : T136)] : List T136))) else (some (x31, [])))))))))))))) : Option (T48 × (List T136))) := by kernel_rfl
theorem M37 (a0 : Int) : m37 a0 = ((if ((decide (a0 < 1)) || (decide (3 < a0))) = true then (some ((⟨([] : List UInt8), [], [], [], (0 : Int), []⟩ : T48), (1 : Int))) else (Option.bind (((m36 a0).bind fun r3_0 => ((m63 r3_0).bind fun r3_1 => some (r3_0, r3_1)))) fun (x3 : ((List UInt8) × (T48 × (List T136)))) => (some (x3.2.1, (0 : Int))))) : Option (T48 × Int)) := by kernel_rfl
theorem Lines_eq (s : List UInt8) (hs : s.length ≤ 1000000) : m145 s = some (linesS s) := by
 simp only [M145, bs, ol]
 have key := loop_inv (b := fun (s1 : List (List UInt8) × Int × Int) => (if (decide (s1.2.2 ≤ (s.length : Int))) = true then (if (!(s1.2.2 == (s.length : Int))) = true → ((0 : Int) ≤ s1.2.2) then (if (!(s1.2.2 == (s.length : Int))) = true → (s1.2.2 < (s.length : Int)) then (if ((s1.2.2 == (s.length : Int)) || ((byteAt s s1.2.2.toNat) == (10 : Int))) = true then (if ((0 : Int) ≤ s1.2.1) then (if (s1.2.1 ≤ s1.2.2) then (if (s1.2.2 ≤ (s.length : Int)) then (if ((s1.1.length + 1) * 16 ≤ 140737488355328) then (some (.inl ((s1.1 ++ ([((s.take s1.2.2.toNat).drop s1.2.1.toNat)] : List (List UInt8))), (IntKind.wrap .i64 (s1.2.2 + (1 : Int))), (IntKind.wrap .i64 (s1.2.2 + (1 : Int))))) : Option (((List (List UInt8)) × Int × Int) ⊕ (((List (List UInt8))) ⊕ ((List (List UInt8)))))) else none) else none) else none) else none) else (some (.inl (s1.1, s1.2.1, (IntKind.wrap .i64 (s1.2.2 + (1 : Int))))) : Option (((List (List UInt8)) × Int × Int) ⊕ (((List (List UInt8))) ⊕ ((List (List UInt8))))))) else none) else none) else (some (.inr (.inl s1.1)) : Option (((List (List UInt8)) × Int × Int) ⊕ (((List (List UInt8))) ⊕ ((List (List UInt8))))))))
  (fun m st => ∃ (out : List (List UInt8)) (b i : Nat), st = (out, (b : Int), (i : Int)) ∧ out.length ≤ i ∧ m = s.length + 1 - i ∧ ((b ≤ i ∧ i ≤ s.length ∧ out ++ headS ((s.take i).drop b) (linesS (s.drop i)) = linesS s) ∨ (i = s.length + 1 ∧ out = linesS s))) (fun x => x = .inl (linesS s)) ?_ (s.length + 1) ([], (0 : Int), (0 : Int)) ⟨[], 0, 0, rfl, by simp, by omega, .inl ⟨by omega, by omega, by
   obtain ⟨l, r, h⟩ := linesS_ne s
   simp [h, headS]⟩⟩
 ·obtain ⟨x, h1, rfl⟩ := key
  exact on_l h1 rfl
 ·rintro m st ⟨out, b, i, rfl, ho, rfl, ⟨hb, hi, he⟩ | ⟨rfl, he⟩⟩
  ·left
   have w1 : IntKind.wrap .i64 ((i : Int) + 1) = ((i + 1 : Nat) : Int) := w64 (by omega) (by omega)
   have d1 : decide ((i : Int) ≤ (s.length : Int)) = true := by simp; omega
   have a1 : ((0 : Int) ≤ (i : Int)) = True := eq_true (by omega)
   have a2 : ((0 : Int) ≤ (b : Int)) = True := eq_true (by omega)
   have a3 : ((b : Int) ≤ (i : Int)) = True := eq_true (by omega)
   have a4 : ((i : Int) ≤ (s.length : Int)) = True := eq_true (by omega)
   have a5 : ((out.length + 1) * 16 ≤ 140737488355328) = True := eq_true (by omega)
   rcases Nat.lt_or_eq_of_le hi with hlt | heq
   ·have n1 : ((i : Int) == (s.length : Int)) = false := by simp; omega
    have a6 : ((i : Int) < (s.length : Int)) = True := eq_true (by omega)
    have hd : s.drop i = s[i] :: s.drop (i + 1) := List.drop_eq_getElem_cons hlt
    have hb10 : byteAt s i = (s[i].toNat : Int) := by simp only [byteAt, List.getElem?_eq_getElem hlt]
    rw [hd] at he
    cases hc : Nat.beq s[i].toNat 10 with
    | true =>
     have e10 : (byteAt s i == (10 : Int)) = true := by rw [hb10, Nat.eq_of_beq_eq_true hc]; rfl
     refine ⟨(out ++ [(s.take i).drop b], ((i + 1 : Nat) : Int), ((i + 1 : Nat) : Int)), ?_, s.length + 1 - (i + 1), by omega, _, i + 1, i + 1, rfl, by simp; omega, rfl, .inl ⟨by omega, by omega, ?_⟩⟩
     ·simp only [d1, decide_true, n1, a1, a2, a3, a4, a5, a6, Int.toNat_natCast, e10, Bool.or_true, implies_true, if_true, w1]
     ·rw [← he]
      rw [linesS_t hc]
      obtain ⟨l, r, h⟩ := linesS_ne (s.drop (i + 1))
      rw [h]
      simp [headS]
    | false =>
     have e10 : (byteAt s i == (10 : Int)) = false := by
      rw [hb10, beq_eq_false_iff_ne]
      intro h
      have : s[i].toNat = 10 := by omega
      rw [this] at hc; cases hc
     refine ⟨(out, (b : Int), ((i + 1 : Nat) : Int)), ?_, s.length + 1 - (i + 1), by omega, _, b, i + 1, rfl, by omega, rfl, .inl ⟨by omega, by omega, ?_⟩⟩
     ·simp only [d1, decide_true, n1, a1, a2, a3, a4, a5, a6, Int.toNat_natCast, e10, Bool.or_false, implies_true, if_true, Bool.false_eq_true, if_false, w1]
     ·rw [← he]
      rw [linesS_f hc, headS_headS]
      have ht : (s.take (i + 1)).drop b = (s.take i).drop b ++ [s[i]] := by
       rw [List.take_add_one, List.getElem?_eq_getElem hlt, List.drop_append]
       simp only [List.length_take, Option.toList_some]
       rw [show b - min i s.length = 0 by omega]; rfl
      rw [ht]
   ·subst heq
    have n1 : ((s.length : Int) == (s.length : Int)) = true := by simp
    refine ⟨(out ++ [(s.take s.length).drop b], ((s.length + 1 : Nat) : Int), ((s.length + 1 : Nat) : Int)), ?_, 0, by omega, _, s.length + 1, s.length + 1, rfl, by simp; omega, by omega, .inr ⟨rfl, ?_⟩⟩
    ·simp only [d1, decide_true, n1, a1, a2, a3, a5, Int.le_refl, Int.toNat_natCast, Bool.true_or, Bool.not_true, Bool.false_eq_true, false_implies, if_true, w1]
    ·rw [← he, List.drop_length]; simp [linesS, headS]
  ·right
   have d1 : decide (((s.length + 1 : Nat) : Int) ≤ (s.length : Int)) = false := by simp; omega
   exact ⟨_, by simp only [d1, Bool.false_eq_true, if_false]; rfl, by rw [he]⟩
def splitW : List UInt8 → Int → Int → List UInt8 → List T141
 | [], _, b, cur => [⟨cur.reverse, b + 1⟩]
 | c :: s, i, b, cur => match Nat.beq c.toNat 32 with
  | true => ⟨cur.reverse, b + 1⟩ :: splitW s (i + 1) (i + 1) []
  | false => splitW s (i + 1) b (c :: cur)
def linesX : Int → List (List UInt8) → List T139
 | _, [] => []
 | n, [] :: r => linesX (n + 1) r
 | n, (c :: s) :: r => ⟨n, splitW (c :: s) 0 0 []⟩ :: linesX (n + 1) r
set_option maxRecDepth 1000000
open Go.Av.Ch
def valR (c : T48) (b : Nat) : Int × Int := if 524288 ≤ b then (0, 1) else if (!allowedS c (valS c b)) = true then (0, 11) else ((valS c b : Int), 0)
set_option maxRecDepth 1000000
noncomputable def src1 : List UInt8 := (m36 1).getD []
theorem src1_eq : m36 1 = some src1 := by kernel_rfl
theorem rRead1 : m101o0 src1 = some ([], linesX 1 (linesS src1)) := by
 have h := Lines_eq src1 (of_decide_eq_true (by kernel_rfl))
 rw [M101o0, h]
 show _ = some _
 kernel_rfl
theorem rParse1 : m63 src1 = some (C1, []) := by
 rw [M63, rRead1]
 show _ = some _
 kernel_rfl
theorem rread1 : (m37 1) = some (C1, 0) := by
 have h := rParse1
 have h2 := src1_eq
 rw [M37]
 generalize m63 = F at h ⊢
 generalize m36 = G at h2 ⊢
 rw [if_neg (by decide), h2, Option.bind_some, h]; rfl
set_option maxRecDepth 1000000
noncomputable def src2 : List UInt8 := (m36 2).getD []
theorem src2_eq : m36 2 = some src2 := by kernel_rfl
theorem rRead2 : m101o0 src2 = some ([], linesX 1 (linesS src2)) := by
 have h := Lines_eq src2 (of_decide_eq_true (by kernel_rfl))
 rw [M101o0, h]
 show _ = some _
 kernel_rfl
theorem rParse2 : m63 src2 = some (C2, []) := by
 rw [M63, rRead2]
 show _ = some _
 kernel_rfl
theorem rread2 : (m37 2) = some (C2, 0) := by
 have h := rParse2
 have h2 := src2_eq
 rw [M37]
 generalize m63 = F at h ⊢
 generalize m36 = G at h2 ⊢
 rw [if_neg (by decide), h2, Option.bind_some, h]; rfl
set_option maxRecDepth 1000000
noncomputable def src3 : List UInt8 := (m36 3).getD []
theorem src3_eq : m36 3 = some src3 := by kernel_rfl
theorem rRead3 : m101o0 src3 = some ([], linesX 1 (linesS src3)) := by
 have h := Lines_eq src3 (of_decide_eq_true (by kernel_rfl))
 rw [M101o0, h]
 show _ = some _
 kernel_rfl
theorem rParse3 : m63 src3 = some (C3, []) := by
 rw [M63, rRead3]
 show _ = some _
 kernel_rfl
theorem rread3 : (m37 3) = some (C3, 0) := by
 have h := rParse3
 have h2 := src3_eq
 rw [M37]
 generalize m63 = F at h ⊢
 generalize m36 = G at h2 ⊢
 rw [if_neg (by decide), h2, Option.bind_some, h]; rfl
set_option maxRecDepth 1000000
open Go.Av.Ch
theorem rNames_eq : m34 = some namesL := by kernel_rfl
def uniq (c : T48) : Bool := (List.range c.Conds.length).all fun i => (List.range 19).all fun j => (namesL.getD j default == c.Conds.getD i default) == decide ((j : Int) = posS c i)
theorem uniq1 : uniq C1 = true := by kernel_rfl
theorem uniq2 : uniq C2 = true := by kernel_rfl
theorem uniq3 : uniq C3 = true := by kernel_rfl
theorem uniq_of {c : T48} (h : uniq c = true) {i j : Nat} (hi : i < c.Conds.length) (hj : j < 19) : (namesL.getD j default == c.Conds.getD i default) = decide ((j : Int) = posS c i) := by
 simp only [uniq, List.all_eq_true] at h
 exact eq_of_beq (h i (List.mem_range.2 hi) j (List.mem_range.2 hj))
def addB (c : T48) (b i v j : Nat) : Nat := if (decide ((posS c i).toNat < j) && b.testBit (posS c i).toNat) = true then v ||| 2 ^ i else v
theorem etaC (x : T48) : (⟨x.Name, x.Conds, x.Never, x.States, x.Start, x.Transitions⟩ : T48) = x := Eq.mpr rfl rfl
theorem M23 (a0 a1 : Int) : m23 a0 a1 = ((Option.bind (Option.bind (Option.bind (m37 a0) fun r => some r) fun x1 => (if ((x1.2 != 0) || (decide (524288 ≤ a1))) = true then (some (.inr (((0 : Int), (1 : Int))))) else (some (.inl (x1.1.Name, x1.1.Conds, x1.1.Never, x1.1.States, x1.1.Start, x1.1.Transitions))))) (onS fun (y1 : (List UInt8) × (List (List UInt8)) × (List (List T176)) × (List T57) × Int × (List T119)) => (Option.bind (Option.bind (some (.inl ())) (onS fun (_ : Unit) => (loopO (fun (s2 : Int × Int) => ((Option.bind (if (decide (s2.2 < (y1.2.1.length : Int))) = true then (some (.inl ())) else (some (.inr (.inr (.inl s2.1))))) (onS fun (_ : Unit) => (Option.bind (Option.bind (if (0 ≤ s2.2) then (if (s2.2 < (y1.2.1.length : Int)) then (Option.bind (Option.bind (m34) fun r => some r) fun x8 => (some (.inl (x8, (x8.length : Int))))) else none) else none) (onS fun (y3 : (List (List UInt8)) × Int) => (loopO (fun (s4 : Int × Int) => ((if (decide (s4.2 < y3.2)) = true then (if (0 ≤ s4.2) then (if (s4.2 < (y3.1.length : Int)) then (if ((y3.1.getD s4.2.toNat default) == (y1.2.1.getD s2.2.toNat default)) = true → (0 ≤ s4.2) then (if (((y3.1.getD s4.2.toNat default) == (y1.2.1.getD s2.2.toNat default)) && ((IntKind.wrap .u32 ((((BitVec.ofInt (IntKind.bits .u32) (Int.fdiv a1 (2 ^ (min s4.2.toNat (IntKind.bits .u32))))) &&& (BitVec.ofInt (IntKind.bits .u32) (1 : Int))).toNat : Int))) == 1)) = true then (if (0 ≤ s2.2) then (some (.inl ((IntKind.wrap .u16 ((((BitVec.ofInt (IntKind.bits .u16) s4.1) ||| (BitVec.ofInt (IntKind.bits .u16) (IntKind.wrap .u16 ((1 : Int) * 2 ^ (min s2.2.toNat (IntKind.bits .u16)))))).toNat : Int))), (IntKind.wrap .i64 (s4.2 + 1))))) else none) else (some (.inl (s4.1, (IntKind.wrap .i64 (s4.2 + 1)))))) else none) else none) else none) else (some (.inr (.inl s4.1)))) : Option ((Int × Int) ⊕ ((Int) ⊕ ((Int × Int) ⊕ ((Int) ⊕ (Int × Int))))))) (s2.1, (0 : Int))))) (onS fun (y5 : Int) => (some (.inl (y5, (IntKind.wrap .i64 (s2.2 + 1))))))))) : Option ((Int × Int) ⊕ ((Int) ⊕ (Int × Int))))) ((0 : Int), (0 : Int))))) (onS fun (y6 : Int) => (Option.bind (Option.bind (m47 (⟨y1.1, y1.2.1, y1.2.2.1, y1.2.2.2.1, y1.2.2.2.2.1, y1.2.2.2.2.2⟩ : T48) y6) fun r => some r) fun x15 => (if (!x15) = true then (some ((0 : Int), (11 : Int))) else (some (y6, (0 : Int))))))))) : Option (Int × Int)) := by kernel_rfl
theorem rValuation_of {a : Int} {c : T48} {b : Nat} (hr : m37 a = some (c, 0)) (H : Fit c) (hp : posOk c = true) (hu : uniq c = true) (hc : c.Conds.length ≤ 15) (hb : b < 4294967296) : m23 a (b : Int) = some (valR c b) := by
 have en := rNames_eq
 have hlen : namesL.length = 19 := rfl
 have hal := rAllowed_eq c H (valS c b) (by omega) (by have := valS_lt16 (c := c) (b := b) (by omega); omega)
 unfold valR
 simp only [M23, bind_id]
 by_cases h19 : 524288 ≤ b
 ·have d : decide ((524288 : Int) ≤ (b : Int)) = true := by simp; omega
  simp only [hr, bs, d, Bool.or_true, if_true, or_, h19]
 ·have d : decide ((524288 : Int) ≤ (b : Int)) = false := by simp; omega
  simp only [hr, bs, d, bne_self_eq_false, Bool.or_false, Bool.false_eq_true, if_false, ol, h19]
  refine on_l (loop_st c.Conds.length (fun i => (((valF (fun i => (posS c i).toNat) b i : Nat) : Int), (i : Int))) (Sum.inl (valS c b : Int)) (fun i hi => ?_) (by (simp only [lt_irr, decide_false, Bool.false_eq_true, if_false]; try rfl))) ?_
  ·obtain ⟨p0, p1⟩ := pos_of hp hi
   generalize hvv : valF (fun i => (posS c i).toNat) b i = vv
   have hl : vv < 65536 := by
    rw [← hvv]
    exact Nat.lt_of_lt_of_le (valF_lt _ _ _) (show 2 ^ i ≤ 2 ^ 16 from Nat.pow_le_pow_right (by omega) (by omega))
   have h2 : 2 ^ i < 65536 := Nat.pow_lt_pow_right (a := 2) (m := i) (n := 16) (by omega) (by omega)
   have hfin : addB c b i vv 19 = valF (fun i => (posS c i).toNat) b (i + 1) := by
    unfold addB
    rw [decide_eq_true (by omega), Bool.true_and]
    show _ = if b.testBit (posS c i).toNat = true then valF (fun i => (posS c i).toNat) b i ||| 2 ^ i else valF (fun i => (posS c i).toNat) b i
    rw [hvv]
   simp only [inL hi, decide_true, if_true, bs, ol, en, hlen]
   refine on_l (y := ((addB c b i vv 19 : Nat) : Int)) (loop_st 19 (fun j => (((addB c b i vv j : Nat) : Int), (j : Int))) (Sum.inl ((addB c b i vv 19 : Nat) : Int)) (fun j hj => ?_) (by (simp only [lt_irr, decide_false, Bool.false_eq_true, if_false]; try rfl))) ?_
   ·have hj19 : j < namesL.length := by rw [hlen]; exact hj
    have hu' := uniq_of hu hi hj
    have ha : addB c b i vv j < 65536 := by
     unfold addB
     split
     ·exact Nat.or_lt_two_pow (n := 16) hl h2
     ·exact hl
    have hbit := bitW_eq hb (k := j) (by omega)
    unfold bitW at hbit
    have cj : decide ((j : Int) < ((19 : Nat) : Int)) = true := by simp; omega
    have cj2 : (j : Int) < ((19 : Nat) : Int) := by omega
    have cj0 : (0 : Int) ≤ (j : Int) := by omega
    have ci0 : (0 : Int) ≤ (i : Int) := by omega
    have wj : IntKind.wrap .i64 ((j : Int) + 1) = ((j + 1 : Nat) : Int) := w64 (by omega) (by omega)
    simp only [cj, cj2, cj0, ci0, if_true, Int.toNat_natCast, hu', hbit, implies_true, shl16 (show i < 16 by omega), or16 ha h2, wj]
    by_cases e : (j : Int) = posS c i
    ·have ej : (posS c i).toNat = j := by omega
     have e1 : addB c b i vv j = vv := by unfold addB; rw [ej, decide_eq_false (by omega)]; rfl
     cases hbj : b.testBit j with
     | false =>
      have e2 : addB c b i vv (j + 1) = vv := by unfold addB; rw [ej, hbj, Bool.and_false]; rfl
      rw [e1, e2, decide_eq_true e]; rfl
     | true =>
      have e2 : addB c b i vv (j + 1) = vv ||| 2 ^ i := by unfold addB; rw [ej, hbj, decide_eq_true (by omega)]; rfl
      rw [e1, e2, decide_eq_true e]; rfl
    ·have e2 : addB c b i vv (j + 1) = addB c b i vv j := by
      unfold addB
      have : decide ((posS c i).toNat < j + 1) = decide ((posS c i).toNat < j) := by rw [decide_eq_decide]; omega
      rw [this]
     rw [e2, decide_eq_false e]; rfl
   ·rw [hfin, wr1 hi (by omega)]; rfl
  ·simp only [etaC, hal, bs]
   cases allowedS c (valS c b) <;> rfl
set_option maxRecDepth 1000000
open Go.Av.Ch
theorem M27 (a0 a1 : Int) : m27 a0 a1 = ((Option.bind (Option.bind (Option.bind (m37 a0) fun r => some r) fun x1 => (if (x1.2 != 0) = true then (some (.inr (([] : List UInt8)))) else (some (.inl (x1.1.Name, x1.1.Conds, x1.1.Never, x1.1.States, x1.1.Start, x1.1.Transitions))))) (onS fun (y1 : (List UInt8) × (List (List UInt8)) × (List (List T176)) × (List T57) × Int × (List T119)) => (Option.bind (Option.bind (Option.bind (Option.bind (m48 (⟨y1.1, y1.2.1, y1.2.2.1, y1.2.2.2.1, y1.2.2.2.2.1, y1.2.2.2.2.2⟩ : T48)) fun r => some r) fun x4 => (some (.inl (x4, (x4.length : Int))))) (onS fun (y2 : (List Int) × Int) => (loopO (fun (s3 : Int) => ((if (decide (s3 < y2.2)) = true then (if (0 ≤ s3) then (if (s3 < (y2.1.length : Int)) then (if ((y2.1.getD s3.toNat default) == (IntKind.wrap .i64 (a1))) = true then (if (0 ≤ (y2.1.getD s3.toNat default)) then (if ((y2.1.getD s3.toNat default) < (y1.2.2.2.1.length : Int)) then (some (.inr (.inr ((y1.2.2.2.1.getD (y2.1.getD s3.toNat default).toNat default).Name)))) else none) else none) else (some (.inl (IntKind.wrap .i64 (s3 + 1))))) else none) else none) else (some (.inr (.inl ())))) : Option ((Int) ⊕ ((Unit) ⊕ ((List UInt8)))))) (0 : Int)))) (onS fun (_ : Unit) => (some ([] : List UInt8)))))) : Option ((List UInt8))) := by kernel_rfl
theorem M24 (a0 : T30) : m24 a0 = ((Option.bind (((m27 (1 : Int) a0.Lateral).bind fun r1_0 => ((if (r1_0 != ([] : List UInt8)) = true then m27 (2 : Int) a0.Vertical else some default).bind fun r1_1 => ((if ((r1_0 != ([] : List UInt8)) && (r1_1 != ([] : List UInt8))) = true then m27 (3 : Int) a0.Phase else some default).bind fun r1_2 => some (r1_0, r1_1, r1_2))))) fun (x1 : ((List UInt8) × (List UInt8) × (List UInt8))) => (some (((x1.1 != ([] : List UInt8)) && (x1.2.1 != ([] : List UInt8))) && (x1.2.2 != ([] : List UInt8))))) : Option (Bool)) := by kernel_rfl
theorem nm1 : (List.range 7).all (fun n => Nat.beq n 0 || ((C1.States.getD n default).Name == nam1.getD n [])) = true := by kernel_rfl
theorem nm2 : (List.range 9).all (fun n => Nat.beq n 0 || ((C2.States.getD n default).Name == nam2.getD n [])) = true := by kernel_rfl
theorem nm3 : (List.range 9).all (fun n => Nat.beq n 0 || ((C3.States.getD n default).Name == nam3.getD n [])) = true := by kernel_rfl
theorem nm_of {c : T48} {l : List (List UInt8)} {k n : Nat} (h : (List.range k).all (fun n => Nat.beq n 0 || ((c.States.getD n default).Name == l.getD n [])) = true) (h1 : 1 ≤ n) (h2 : n < k) : l.getD n [] = (c.States.getD n default).Name := by
 simp only [List.all_eq_true] at h
 have := h n (List.mem_range.2 h2)
 rw [show Nat.beq n 0 = false from by cases n with | zero => omega | succ n => rfl, Bool.false_or] at this
 exact (eq_of_beq this).symm
theorem rName_of {a : Int} {c : T48} (H : Fit c) (hr : m37 a = some (c, 0)) {n : Nat} (hn : n < 256) : m27 a (n : Int) = some (if (n : Int) ∈ leavesS c then (c.States.getD n default).Name else []) := by
 have hlv := rLeaves_eq c H
 have hs := H.states
 have hl : (leavesS c).length ≤ 1000 := by
  have := flatMap_len (leafG_len c) c.States.length
  unfold leavesS; omega
 have w : IntKind.wrap .i64 (n : Int) = (n : Int) := w64 (by omega) (by omega)
 simp only [M27, bind_id]
 simp only [hr, bs, ol, bne_self_eq_false, Bool.false_eq_true, if_false, etaC, hlv, w]
 rw [loop_ex (leavesS c).length (fun i => if ((leavesS c).getD i default == (n : Int)) = true then some ((c.States.getD n default).Name) else none) ?_ ?_, firstR_const]
 ·have e : anyR (fun i => (leavesS c).getD i default == (n : Int)) (leavesS c).length = decide ((n : Int) ∈ leavesS c) := by
   rw [Bool.eq_iff_iff, anyR_iff, decide_eq_true_eq]
   constructor
   ·rintro ⟨i, hi, h⟩
    rw [← eq_of_beq h]; exact getD_mem hi
   ·intro h
    obtain ⟨i, hi, h⟩ := List.getElem_of_mem h
    exact ⟨i, hi, by simp [List.getD_eq_getElem?_getD, List.getElem?_eq_getElem hi, h]⟩
  rw [e]
  by_cases h : (n : Int) ∈ leavesS c
  ·rw [if_pos (by simpa using h), if_pos h, orK_some]
  ·rw [if_neg (by simpa using h), if_neg h, orK_none]
 ·intro i hi
  by_cases h : ((leavesS c).getD i default == (n : Int)) = true
  ·have hm : (leavesS c).getD i default ∈ leavesS c := getD_mem hi
   have e := eq_of_beq h
   rw [e] at hm
   obtain ⟨h1, h2⟩ := leavesS_iff.1 hm
   have h3 := isS_iff.1 h1
   simp only [inL hi, decide_true, Int.toNat_natCast, if_true, h, e, h3.1, h3.2, beq_self_eq_true, exB_some]
  ·simp only [inL hi, decide_true, Int.toNat_natCast, if_true, h, if_false, Bool.false_eq_true, wr1 hi (by omega), exB_none]
 ·(simp only [lt_irr, decide_false, Bool.false_eq_true, if_false]; try rfl)
theorem rName1 {n : Nat} (hn : n < 256) : m27 1 (n : Int) = some (nam1.getD n []) := by
 rw [rName_of fit1 rread1 hn]
 by_cases h : (n : Int) ∈ leavesS C1
 ·have hb := leaf1 h
  rw [if_pos h, nm_of nm1 (by omega) (by omega)]
 ·rw [if_neg h]
  have hz : n = 0 ∨ 7 ≤ n := by
   apply Classical.byContradiction
   intro hc
   exact h (mem1 (by omega) (by omega))
  rcases hz with rfl | hz
  ·rfl
  ·rw [List.getD_eq_getElem?_getD, List.getElem?_eq_none (by show nam1.length ≤ n; exact hz)]; rfl
theorem rName2 {n : Nat} (hn : n < 256) : m27 2 (n : Int) = some (nam2.getD n []) := by
 rw [rName_of fit2 rread2 hn]
 by_cases h : (n : Int) ∈ leavesS C2
 ·have hb := leaf2 h
  rw [if_pos h, nm_of nm2 (by omega) (by omega)]
 ·rw [if_neg h]
  have hz : n = 0 ∨ 9 ≤ n := by
   apply Classical.byContradiction
   intro hc
   exact h (mem2 (by omega) (by omega))
  rcases hz with rfl | hz
  ·rfl
  ·rw [List.getD_eq_getElem?_getD, List.getElem?_eq_none (by show nam2.length ≤ n; exact hz)]; rfl
theorem rName3 {n : Nat} (hn : n < 256) : m27 3 (n : Int) = some (nam3.getD n []) := by
 rw [rName_of fit3 rread3 hn]
 by_cases h : (n : Int) ∈ leavesS C3
 ·have hb := leaf3 h
  rw [if_pos h, nm_of nm3 (by omega) (by omega)]
 ·rw [if_neg h]
  have hz : n = 0 ∨ 9 ≤ n := by
   apply Classical.byContradiction
   intro hc
   exact h (mem3 (by omega) (by omega))
  rcases hz with rfl | hz
  ·rfl
  ·rw [List.getD_eq_getElem?_getD, List.getElem?_eq_none (by show nam3.length ≤ n; exact hz)]; rfl
theorem rmValid_eq {l v p : Nat} (hl : l < 256) (hv : v < 256) (hp : p < 256) : m24 ⟨(l : Int), (v : Int), (p : Int)⟩ = some (validN l v p) := by
 unfold validN
 rw [M24, ← nam1_ne hl, ← nam2_ne hv, ← nam3_ne hp]
 have hd : ((default : List UInt8) != ([] : List UInt8)) = false := rfl
 cases h1 : (nam1.getD l [] != ([] : List UInt8)) with
 | false => simp only [rName1 hl, bs, h1, hd, Bool.false_eq_true, if_false, Bool.false_and]
 | true =>
  cases h2 : (nam2.getD v [] != ([] : List UInt8)) with
  | false => simp only [rName1 hl, rName2 hv, bs, h1, h2, hd, Bool.false_eq_true, if_false, if_true, Bool.false_and, Bool.and_false]
  | true => simp only [rName1 hl, rName2 hv, rName3 hp, bs, h1, h2, if_true, Bool.and_true, Bool.true_and]
set_option maxRecDepth 1000000
open Go.Av.Ch
theorem ok_state {s : T23} (h : ok23 s) : ∃ l v p : Nat, s = ⟨(l : Int), (v : Int), (p : Int)⟩ ∧ l < 256 ∧ v < 256 ∧ p < 256 := by
 obtain ⟨h1, h2, h3⟩ := h
 obtain ⟨l, e1, g1⟩ := u8_nat h1
 obtain ⟨v, e2, g2⟩ := u8_nat h2
 obtain ⟨p, e3, g3⟩ := u8_nat h3
 obtain ⟨x, y, z⟩ := s
 simp only at e1 e2 e3
 subst e1 e2 e3
 exact ⟨l, v, p, rfl, g1, g2, g3⟩
theorem M10 : m10  = ((Option.bind (((m17 ).bind fun r1_0 => ((m11 r1_0 (16385 : Int)).bind fun r1_1 => some (r1_0, r1_1)))) fun (x1 : (T23 × (T23 × (List (List UInt8)) × Int))) => (Option.bind (Option.bind (m11 x1.2.1 (28 : Int)) fun r => some r) fun x2 => (Option.bind (((m25 x1.2.1).bind fun r3_0 => ((if (((r3_0 == ([82, 79, 76, 76, 32, 72, 79, 76, 68, 32, 84, 65, 75, 69, 79, 70, 70] : List UInt8)) && ((x1.2.2.1.length : Int) == (0 : Int))) && (x1.2.2.2 == 0)) = true then m25 x2.1 else some default).bind fun r3_1 => (if (((((r3_0 == ([82, 79, 76, 76, 32, 72, 79, 76, 68, 32, 84, 65, 75, 69, 79, 70, 70] : List UInt8)) && ((x1.2.2.1.length : Int) == (0 : Int))) && (x1.2.2.2 == 0)) && (r3_1 == ([78, 65, 86, 32, 72, 79, 76, 68, 32, 84, 65, 75, 69, 79, 70, 70] : List UInt8))) && ((x2.2.1.length : Int) == (1 : Int))) = true → (0 : Int) ≤ (0 : Int) then (if (((((r3_0 == ([82, 79, 76, 76, 32, 72, 79, 76, 68, 32, 84, 65, 75, 69, 79, 70, 70] : List UInt8)) && ((x1.2.2.1.length : Int) == (0 : Int))) && (x1.2.2.2 == 0)) && (r3_1 == ([78, 65, 86, 32, 72, 79, 76, 68, 32, 84, 65, 75, 69, 79, 70, 70] : List UInt8))) && ((x2.2.1.length : Int) == (1 : Int))) = true → 0 < (x2.2.1.length : Int) then some (r3_0, r3_1) else none) else none)))) fun (x3 : ((List UInt8) × (List UInt8))) => (some (((((((x3.1 == ([82, 79, 76, 76, 32, 72, 79, 76, 68, 32, 84, 65, 75, 69, 79, 70, 70] : List UInt8)) && ((x1.2.2.1.length : Int) == (0 : Int))) && (x1.2.2.2 == 0)) && (x3.2 == ([78, 65, 86, 32, 72, 79, 76, 68, 32, 84, 65, 75, 69, 79, 70, 70] : List UInt8))) && ((x2.2.1.length : Int) == (1 : Int))) && ((x2.2.1.getD (0 : Int).toNat default) == ([67, 65, 80, 84, 85, 82, 69, 68] : List UInt8))) && (x2.2.2 == 0)))))) : Option (Bool)) := by kernel_rfl
theorem wake1 : stepP 1 1 1 16385 = (⟨1, 1, 2⟩, [], 0) := by kernel_rfl
theorem wake2 : stepP 1 1 2 28 = (⟨4, 1, 2⟩, [[67, 65, 80, 84, 85, 82, 69, 68]], 0) := by kernel_rfl
theorem wake3 : m25 ⟨1, 1, 2⟩ = some [82, 79, 76, 76, 32, 72, 79, 76, 68, 32, 84, 65, 75, 69, 79, 70, 70] := by kernel_rfl
theorem wake4 : m25 ⟨4, 1, 2⟩ = some [78, 65, 86, 32, 72, 79, 76, 68, 32, 84, 65, 75, 69, 79, 70, 70] := by kernel_rfl
theorem start_eq : m17 = some ⟨1, 1, 1⟩ := by kernel_rfl
theorem awake_true : m10 = some true := by
 have e1 := Step_eqM (l := 1) (v := 1) (p := 1) (b := 16385) (by omega) (by omega) (by omega) (by omega)
 have e2 := Step_eqM (l := 1) (v := 1) (p := 2) (b := 28) (by omega) (by omega) (by omega) (by omega)
 rw [wake1] at e1
 rw [wake2] at e2
 simp only [Int.cast_ofNat_Int] at e1 e2
 have e3 := wake3
 have e4 := wake4
 have e5 := start_eq
 simp only [M10, bind_id]
 generalize m11 = F at e1 e2 ⊢
 generalize m25 = G at e3 e4 ⊢
 generalize m17 = S at e5 ⊢
 simp only [e5, bs, e1, e2, e3, e4]
 rfl
theorem step_good {l v p b : Nat} (h : (stepP l v p b).2.2 = 0) : (1 ≤ l ∧ l ≤ 6) ∧ (1 ≤ v ∧ v ≤ 8) ∧ (1 ≤ p ∧ p ≤ 8) ∧ b < 524288 ∧ al1 b = true ∧ al2 b = true ∧ al3 b = true ∧
  stepP l v p b = (⟨(goS C1 l (valS C1 b)).1.Leaf, (goS C2 v (valS C2 b)).1.Leaf, (goS C3 p (valS C3 b)).1.Leaf⟩, (goS C1 l (valS C1 b)).2.1 ++ (goS C2 v (valS C2 b)).2.1 ++ (goS C3 p (valS C3 b)).2.1, 0) := by
 unfold stepP at h ⊢
 cases hval : validN l v p with
 | false => rw [hval, if_pos (show (!false) = true from rfl)] at h; exact absurd h (by decide)
 | true =>
  rw [hval] at h
  simp only [Bool.not_true, Bool.false_eq_true, if_false] at h ⊢
  simp only [validN, Bool.and_eq_true, decide_eq_true_eq] at hval
  by_cases hb : 524288 ≤ b
  ·rw [if_pos hb] at h; exact absurd h (by decide)
  ·rw [if_neg hb] at h ⊢
   cases ha : (al1 b && al2 b && al3 b) with
   | false => rw [ha, if_pos (show (!false) = true from rfl)] at h; exact absurd h (by decide)
   | true =>
    simp only [Bool.and_eq_true] at ha
    obtain ⟨⟨a1, a2⟩, a3⟩ := ha
    exact ⟨hval.1.1, hval.1.2, hval.2, by omega, a1, a2, a3, by simp⟩
end Go.Av.Mo
set_option maxRecDepth 100000
namespace Go.Av.Ch
theorem down_loop {c : T48} (G : Good c) {l : List Int} (hl : ∀ x ∈ l, isS c x = true) (h1 : l.length ≤ 2000) {m : List Int} (M : MemOk c m) {a : List (List UInt8)} (ha : a.length ≤ 60000) {R : Type} {b : List Int × List (List UInt8) × Int → Option ((List Int × List (List UInt8) × Int) ⊕ ((List Int × List (List UInt8)) ⊕ R))}
  (hb : ∀ (j : Nat) (m : List Int) (a : List (List UInt8)) (x : Int), j < l.length → l.getD j default = x → isS c x = true → MemOk c m → a.length ≤ 100000 → b (m, a, (j : Int)) = some (.inl (m.set x.toNat (-1), a ++ (stA c x).Entry, (j : Int) - 1)))
  (he : ∀ m a, b (m, a, -1) = some (.inr (.inl (m, a)))) : loopO b (m, a, (l.length : Int) - 1) = some (.inl (aroundS c l m a)) := by
 have key : ∀ j, j ≤ l.length → loopO b ((aroundS c (l.drop j) m a).1, (aroundS c (l.drop j) m a).2, (j : Int) - 1) = some (.inl (aroundS c l m a)) := by
  intro j
  induction j with
  | zero => intro _; rw [show ((0 : Nat) : Int) - 1 = -1 from rfl, loopO_eq, he]; rfl
  | succ j ih =>
   intro hj
   have hi : j < l.length := by omega
   have hx : isS c (l.getD j default) = true := hl _ (getD_mem hi)
   obtain ⟨k1, k2⟩ := aroundS_ok G (a := a) M (l.drop (j + 1)) fun x hx => hl x (List.mem_of_mem_drop hx)
   rw [show ((j + 1 : Nat) : Int) - 1 = (j : Int) by omega, loopO_eq, hb j _ _ _ hi rfl hx k1 (by rw [List.length_drop] at k2; omega)]
   have hd : l.drop j = l.getD j default :: l.drop (j + 1) := by
    rw [List.drop_eq_getElem_cons hi]; simp [List.getD_eq_getElem?_getD, List.getElem?_eq_getElem hi]
   have := ih (by omega)
   rw [hd] at this
   exact this
 have := key l.length (Nat.le_refl _)
 rwa [List.drop_length] at this
theorem around0_eq {c : T48} (G : Good c) (H : Fit c) {l : List Int} (hl : ∀ x ∈ l, isS c x = true) (h1 : l.length ≤ 2000) {m : List Int} (M : MemOk c m) {a : List (List UInt8)} (ha : a.length ≤ 60000) :
  m173o0 c m l a = some ((aroundS c l m a).2, (aroundS c l m a).1, (aroundS c l m a).2) := by
 have hs := H.states
 have hm := M.len
 have w : IntKind.wrap .i64 ((l.length : Int) - 1) = (l.length : Int) - 1 := w64 (by omega) (by omega)
 delta m173o0 d173o0
 simp only [↓JD.sg_m, ↓JD.sq_m, ↓JD.sc_m, ↓JD.bk_m, ↓JD.lp_m, ↓JD.cd_m, ↓JD.lu_m, ↓JD.ct_m, ↓JD.ce_m, ↓JL.r_m, ↓JL.z_m, ↓JD.se_m, onE_r, ↓Tr.run, ↓Tr.run_nd, ↓Tr.run_c3, ↓Tr.run_c2, ↓Tr.run_nx, ↓onS, bind_ite, Option.bind_some, Option.bind_none, obR, w]
 refine on_l (down_loop G hl h1 M ha (fun j m' a' x hj hg hx M' ha' => ?_) fun m' a' => rfl) rfl
 have he := G.entry x hx
 have k1 : (0 + a'.length + (c.States.getD x.toNat default).Entry.length) * 16 ≤ 140737488355328 := by unfold stA at he; omega
 have k0 : (0 + a'.length) * 16 ≤ 140737488355328 := by omega
 have k2 : x < (m.length : Int) := by have := isS_iff.1 hx; omega
 have k3 : x.toNat < m.length := by have := (isS_lt hx).2.2; omega
 have k4 : subL m' 0 m.length = m' := subL_all (by rw [M'.len, hm])
 have k5 : (decide ((0 : Int) ≤ (j : Int)) = true) = True := eq_true (by simp)
 have k6 : IntKind.wrap .i64 ((j : Int) - 1) = (j : Int) - 1 := w64 (by omega) (by omega)
 simp only [inL hj, k5, decide_true, Int.toNat_natCast, if_true, hg, isS_lt hx, k0, k1, k2, k3, k4, k6, List.nil_append]
theorem renter_eq {c : T48} (G : Good c) (H : Fit c) {x : Int} (hx : isS c x = true) {m : List Int} (M : MemOk c m) {a : List (List UInt8)} (ha : a.length ≤ 80000) : m174o0 c m x a = some ((enterS c x m a).2.2, (enterS c x m a).1, (enterS c x m a).2.1, (enterS c x m a).2.2) := by
 have hs := H.states
 have hm := M.len
 have he := G.entry x hx
 have k0 : (0 + a.length) * 16 ≤ 140737488355328 := by omega
 have k1 : (0 + a.length + (c.States.getD x.toNat default).Entry.length) * 16 ≤ 140737488355328 := by unfold stA at he; omega
 delta m174o0 d174o0
 simp only [↓JD.sg_m, ↓JD.sq_m, ↓JD.sc_m, ↓JD.bk_m, ↓JD.lp_m, ↓JD.cd_m, ↓JD.lu_m, ↓JD.ct_m, ↓JD.ce_m, ↓JL.r_m, ↓JL.z_m, ↓JD.se_m, onE_r, ↓Tr.run, ↓Tr.run_nd, ↓Tr.run_c3, ↓Tr.run_c2, ↓Tr.run_nx, ↓onS, bind_ite, Option.bind_some, Option.bind_none, obR, k0, k1, isS_lt hx, if_true, List.nil_append, rcomposite_eq c _ (Nat.le_trans hs (by omega))]
 refine on_l (renter_loop G (fun x m' a hx M' ha => ?_) c.States.length x m a hx M (by omega) (by omega)) rfl
 have hl := (isS_lt hx).2.2
 have h2 : x < (m.length : Int) := by have := isS_iff.1 hx; omega
 have h3 : x.toNat < m.length := by omega
 have h4 : subL m' 0 m.length = m' := subL_all (by rw [M'.len, hm])
 cases hc : comp c x with
 | false => simp only [Bool.false_eq_true, if_false]
 | true =>
  obtain ⟨q1, q2⟩ := child_is G (nextS_child G M' hx hc)
  have q4 := G.entry _ q1
  have q5 : (a.length + (stA c (nextS c m' x)).Entry.length) * 16 ≤ 140737488355328 := by omega
  have q6 := isS_lt q1
  unfold nextS stA at *
  simp only [isS_lt hx, h2, h3, h4, implies_true, if_true]
  by_cases hh : ((c.States.getD x.toNat default).History && (m'.getD x.toNat default != (-1 : Int))) = true
  ·simp only [hh, if_true] at q5 q6 ⊢
   simp only [q5, q6, if_true]
  ·have hh := Bool.eq_false_iff.2 hh
   simp only [hh, Bool.false_eq_true, if_false] at q5 q6 ⊢
   simp only [q5, q6, if_true]
theorem rscope_eq {c : T48} (H : Fit c) {a b : Int} (ha : isS c a = true) (hb : isS c b = true) : m172 c a b = some (scopeS c a b) := by
 have hs := H.states
 have hla := pathS_len c a
 have hlb := pathS_len c b
 have hl : (pathS c b).tail.length ≤ 100000 := by rw [List.length_tail]; omega
 delta m172 d172
 simp only [↓JD.sg_m, ↓JD.sq_m, ↓JD.sc_m, ↓JD.bk_m, ↓JD.lp_m, ↓JD.cd_m, ↓JD.lu_m, ↓JD.ct_m, ↓JD.ce_m, ↓JL.r_m, ↓JL.z_m, ↓JD.se_m, onE_r, ↓Tr.run, ↓Tr.run_nd, ↓Tr.run_c3, ↓Tr.run_c2, ↓Tr.run_nx, ↓onS, bind_ite, Option.bind_some, Option.bind_none, obR, rPath_eq c H, Option.bind_some, Int.reduceLE, pathS_pos ha, pathS_pos hb, if_true, onS_l, Int.toNat_one, tail_sub, on_eq _ _ hl]
 rw [show ((pathS c a).length - 1) = (pathS c a).tail.length by rw [List.length_tail]]
 rw [loop_ex (pathS c a).tail.length (fun i => if hasK (pathS c b).tail (pathS c b).tail.length ((pathS c a).tail.getD i default) = true then some ((pathS c a).tail.getD i default) else none) ?_ ?_, firstR_find, orK_getD]; rfl
 ·intro i hi
  have hta : (pathS c a).tail.length ≤ 1000 := by rw [List.length_tail]; omega
  simp only [exB_ite, exB_some, exB_none]
  simp only [inL hi, decide_true, Int.toNat_natCast, if_true, wr1 hi (by omega)]
 ·(simp only [lt_irr, decide_false, Bool.false_eq_true, if_false]; try rfl)
theorem until_loop {s : Int} {l : List Int} {R : Type} {b : List Int × Int → Option ((List Int × Int) ⊕ (List Int ⊕ R))}
  (hb : ∀ (j : Nat) (o : List Int) (x : Int), j < l.length → o.length ≤ j → l.getD j default = x → b (o, (j : Int)) = if (x == s) = true then some (.inr (.inl o)) else some (.inl (o ++ [x], ((j + 1 : Nat) : Int))))
  (he : ∀ o, b (o, (l.length : Int)) = some (.inr (.inl o))) : loopO b ([], 0) = some (.inl (untilS s l)) := by
 have key : ∀ k j (o : List Int), j + k = l.length → o.length ≤ j → loopO b (o, (j : Int)) = some (.inl (o ++ untilS s (l.drop j))) := by
  intro k
  induction k with
  | zero =>
   intro j o hk ho
   obtain rfl : j = l.length := by omega
   rw [loopO_eq, he, List.drop_length]; simp [untilS]
  | succ k ih =>
   intro j o hk ho
   have hj : j < l.length := by omega
   have hd : l.drop j = l.getD j default :: l.drop (j + 1) := by
    rw [List.drop_eq_getElem_cons hj]; simp [List.getD_eq_getElem?_getD, List.getElem?_eq_getElem hj]
   rw [loopO_eq, hb j o _ hj ho rfl, hd]
   by_cases hx : (l.getD j default == s) = true
   ·have hx' : (s == l.getD j default) = true := by rw [eq_of_beq hx]; simp
    simp only [hx, if_true, Option.bind_some]
    unfold untilS; rw [List.takeWhile_cons, hx']; simp
   ·have hx' : (s == l.getD j default) = false := by simp only [beq_eq_false_iff_ne, ne_eq]; intro e; rw [e] at hx; simp at hx
    simp only [hx, if_false, Bool.false_eq_true, Option.bind_some]
    rw [ih (j + 1) _ (by omega) (by rw [List.length_append]; simp; omega)]
    unfold untilS; rw [List.takeWhile_cons, hx']; simp
 exact key l.length 0 [] (by omega) (Nat.le_refl _)
theorem rfire_eq {c : T48} (G : Good c) (H : Fit c) {g : T71} (hg : validS c g = true) {i : Nat} (hi : i < c.Transitions.length) :
  m116 c g (c.Transitions.getD i default) = some (⟨(fireS c g (c.Transitions.getD i default)).1, (fireS c g (c.Transitions.getD i default)).2.1⟩, (fireS c g (c.Transitions.getD i default)).2.2) := by
 have hs := H.states
 obtain ⟨v1, v2, v3⟩ := validS_iff.1 hg
 have hml := v3.len
 have hne := G.ne
 have hp := pathS_len c g.Leaf
 have hlf := (isS_lt v1).2.2
 have ha := G.acts i hi
 obtain ⟨hf, ht⟩ := G.tr i hi
 have hpt := pathS_len c (c.Transitions.getD i default).To
 have hh := (G.leafI g.Leaf v1 v2).2
 obtain ⟨a1, a2⟩ := leaveS_ok G (s := scopeS c (c.Transitions.getD i default).From (c.Transitions.getD i default).To) g.Leaf.toNat g.Leaf (-1) g.Memory [] (Nat.le_refl _) v1 v3 (.inl rfl)
 simp only [List.length_nil] at a2
 have h16 : ((leaveS c (scopeS c (c.Transitions.getD i default).From (c.Transitions.getD i default).To) (pathS c g.Leaf) (-1) g.Memory []).2.length + (c.Transitions.getD i default).Actions.length) * 16 ≤ 140737488355328 := by omega
 have hsub : ∀ m : List Int, m.length = c.States.length → subL m 0 g.Memory.length = m := fun m h => subL_all (by rw [h, hml])
 have hend := (fireS_ok G H hg hi).1
 have hmend := (validS_iff.1 hend).2.2.len
 have hu := untilS_len (s := scopeS c (c.Transitions.getD i default).From (c.Transitions.getD i default).To) (l := (pathS c (c.Transitions.getD i default).To).tail)
 obtain ⟨r1, r2⟩ := aroundS_ok G (a := (leaveS c (scopeS c (c.Transitions.getD i default).From (c.Transitions.getD i default).To) (pathS c g.Leaf) (-1) g.Memory []).2 ++ (c.Transitions.getD i default).Actions) a1 (untilS (scopeS c (c.Transitions.getD i default).From (c.Transitions.getD i default).To) (pathS c (c.Transitions.getD i default).To).tail) fun x hx => tail_is x (untilS_sub x hx)
 have k0 : 0 < g.Memory.length := by omega
 have k1 : g.Memory.length * 8 ≤ 140737488355328 := by omega
 delta m116 d116
 simp only [↓JD.sg_m, ↓JD.sq_m, ↓JD.sc_m, ↓JD.bk_m, ↓JD.lp_m, ↓JD.cd_m, ↓JD.lu_m, ↓JD.ct_m, ↓JD.ce_m, ↓JL.r_m, ↓JL.z_m, ↓JD.se_m, onE_r, ↓Tr.run, ↓Tr.run_nd, ↓Tr.run_c3, ↓Tr.run_c2, ↓Tr.run_nx, ↓onS, bind_ite, Option.bind_some, Option.bind_none, obR, k0, k1, if_true, rscope_eq H hf ht, onS_l, rPath_eq c H]
 refine on_l (y := leaveS c (scopeS c (c.Transitions.getD i default).From (c.Transitions.getD i default).To) (pathS c g.Leaf) (-1) g.Memory []) ?_ ?_
 ·generalize hP : pathS c g.Leaf = p at *
  rw [show leaveS c (scopeS c (c.Transitions.getD i default).From (c.Transitions.getD i default).To) p (-1) g.Memory [] = leaveS c (scopeS c (c.Transitions.getD i default).From (c.Transitions.getD i default).To) (pathS c g.Leaf) (-1) g.Memory [] by rw [hP]]
  refine leave_key G _ (p := p) (fun last i m a => (m, a, last, i)) Sum.inl (fun pre l x last m' a hpre hx M' hl ha => ?_) (fun last m' a => ?_) g.Leaf.toNat [] g.Leaf (-1) g.Memory [] (by rw [hP]; rfl) (Nat.le_refl _) v1 v3 (.inl ⟨rfl, hh⟩) (by simp; omega)
  ·have hi : pre.length < p.length := by rw [hpre]; simp
   have hg : p.getD pre.length default = x := by rw [hpre]; simp [List.getD_eq_getElem?_getD]
   have he8 := G.exit_ x hx
   have h1 : (a.length + (c.States.getD x.toNat default).Exit.length) * 16 ≤ 140737488355328 := by unfold stA at he8; omega
   have h2 : x < (g.Memory.length : Int) := by have := isS_iff.1 hx; omega
   have h3 : x.toNat < g.Memory.length := by have := (isS_lt hx).2.2; omega
   have h4 : subL m' 0 g.Memory.length = m' := hsub _ M'.len
   simp only [inL hi, decide_true, Int.toNat_natCast, if_true, hg, isS_lt hx, h1, h2, h3, h4, wr1 hi (by omega)]
   refine ite_else ?_
   rcases hl with ⟨e1, e2⟩ | e1
   ·unfold stA at e2 ⊢
    simp only [e1, e2, Bool.false_and, Bool.false_eq_true, if_false]; rfl
   ·have e2 := isS_iff.1 (child_is G e1).1
    have e3 : (last != (-1 : Int)) = true := by simp only [bne_iff_ne, ne_eq]; omega
    unfold stA
    simp only [e3, Bool.and_true]
    by_cases hh : (c.States.getD x.toNat default).History = true
    ·simp only [hh, if_true]; rfl
    ·have hh := Bool.eq_false_iff.2 hh
     simp only [hh, if_false, Bool.false_eq_true]; rfl
  ·(simp only [lt_irr, decide_false, Bool.false_eq_true, if_false]; try rfl)
 ·rw [if_pos h16]
  simp only [Option.bind_some, Int.reduceLE, pathS_pos ht, if_true, onS_l, Int.toNat_one, tail_sub]
  have htl : (pathS c (c.Transitions.getD i default).To).tail.length ≤ 1000 := by rw [List.length_tail]; omega
  have htl2 := @List.length_tail Int (pathS c (c.Transitions.getD i default).To)
  refine on_l (until_loop (s := scopeS c (c.Transitions.getD i default).From (c.Transitions.getD i default).To) (l := (pathS c (c.Transitions.getD i default).To).tail) (fun j o x hj ho hg => ?_) (fun o => by simp only [htl2, lt_irr, decide_false, Bool.false_eq_true, if_false])) ?_
  ·have k8 : (o.length + 1) * 8 ≤ 140737488355328 := by omega
   have k9 : ((j : Int) < (((pathS c (c.Transitions.getD i default).To).length - 1 : Nat) : Int)) = True := eq_true (by omega)
   simp only [k9, inL hj, decide_true, Int.toNat_natCast, if_true, hg, k8, wr1 hj (by omega)]; rfl
  ·have hz := hsub _ hmend
   unfold fireS at hz
   simp only [hsub _ a1.len,  around0_eq G H (fun x hx => tail_is x (untilS_sub x hx)) (show (untilS (scopeS c (c.Transitions.getD i default).From (c.Transitions.getD i default).To) (pathS c (c.Transitions.getD i default).To).tail).length ≤ 2000 by omega) a1 (a := (leaveS c (scopeS c (c.Transitions.getD i default).From (c.Transitions.getD i default).To) (pathS c g.Leaf) (-1) g.Memory []).2 ++ (c.Transitions.getD i default).Actions) (by rw [List.length_append]; omega), Option.bind_some, hsub _ r1.len]
   rw [renter_eq G H ht r1 (by rw [List.length_append] at r2; omega)]
   simp only [Option.bind_some, hz]
   rfl
theorem rStep_eq (c : T48) (H : Fit c) (g : T71) (v : Int) (h0v : 0 ≤ v) (h1v : v < 65536) : m73 c g v = stepM c g v := by
 obtain ⟨e, he⟩ := checkM_some c
 unfold stepM
 rw [he, Option.bind_some]
 delta m73 d73
 by_cases h0 : (e != 0) = true
 ·simp only [↓JD.sg_m, ↓JD.sq_m, ↓JD.sc_m, ↓JD.bk_m, ↓JD.lp_m, ↓JD.cd_m, ↓JD.lu_m, ↓JD.ct_m, ↓JD.ce_m, ↓JL.r_m, ↓JL.z_m, ↓JD.se_m, onE_r, ↓Tr.run, ↓Tr.run_nd, ↓Tr.run_c3, ↓Tr.run_c2, ↓Tr.run_nx, ↓onS, bind_ite, Option.bind_some, Option.bind_none, obR, rCheck_eq c H, he, h0, if_true]
 ·have h0' : e = 0 := by simpa using h0
  subst h0'
  simp only [↓JD.sg_m, ↓JD.sq_m, ↓JD.sc_m, ↓JD.bk_m, ↓JD.lp_m, ↓JD.cd_m, ↓JD.lu_m, ↓JD.ct_m, ↓JD.ce_m, ↓JL.r_m, ↓JL.z_m, ↓JD.se_m, onE_r, ↓Tr.run, ↓Tr.run_nd, ↓Tr.run_c3, ↓Tr.run_c2, ↓Tr.run_nx, ↓onS, bind_ite, Option.bind_some, Option.bind_none, obR, rCheck_eq c H, he, h0, if_false, Bool.false_eq_true, rValid_eq c H, rAllowed_eq c H v h0v h1v, rEnabled_eq c H]
  cases hv : validS c g with
  | false => rfl
  | true =>
   simp only [Bool.not_true, Bool.false_eq_true, if_false]
   refine ite_else ?_
   by_cases hz : (((enabledS c g.Leaf v).length : Int) == 0) = true
   ·simp only [hz, if_true]
   ·simp only [hz, if_false, Bool.false_eq_true]
    have hz : (enabledS c g.Leaf v).length ≠ 0 := by intro h; rw [h] at hz; simp at hz
    by_cases h1 : (((enabledS c g.Leaf v).length : Int) == 1) = true
    ·have hl : (enabledS c g.Leaf v).length = 1 := by have := eq_of_beq h1; omega
     have hd : decide ((1 : Int) < ((enabledS c g.Leaf v).length : Int)) = false := by rw [hl]; rfl
     obtain ⟨i, hi, hx, hon⟩ := enabled_at (c := c) (leaf := g.Leaf) (v := v) (by omega)
     have hz : (0 : Int) < ((enabledS c g.Leaf v).length : Int) := by omega
     simp only [h1, hd, hz, Int.le_refl, if_true, if_false, Bool.false_eq_true, Int.toNat_zero, hx, inL hi, Int.toNat_natCast, rfire_eq (good_of he) H hv hi, fireR, Option.bind_some]
    ·have hd : decide ((1 : Int) < ((enabledS c g.Leaf v).length : Int)) = true := by
      rw [decide_eq_true_eq]
      have : ((enabledS c g.Leaf v).length : Int) ≠ 1 := by simpa using h1
      omega
     simp only [h1, hd, if_true, if_false, Bool.false_eq_true]
end Go.Av.Ch
set_option maxRecDepth 1000000
namespace Go.Av
open Ch Mo
theorem M43 (a0 a1 a2 : Int) : m43 a0 a1 a2 = ((Option.bind (Option.bind (Option.bind (m37 a0) fun r => some r) fun x1 => (Option.bind (Option.bind (m23 a0 a2) fun r => some r) fun x2 => (if (0 ≤ (x1.1.States.length : Int)) then (if ((x1.1.States.length : Int) = (x1.1.States.length : Int)) then (if ((x1.1.States.length : Int) * 8 ≤ 140737488355328) then (if ((x1.1.States.length : Int) ≤ 9223372036854775807) then (some (.inl (x2.1, (List.replicate (x1.1.States.length : Int).toNat (0 : Int)), (x1.1.States.length : Int).toNat, x1.1.Name, x1.1.Conds, x1.1.Never, x1.1.States, x1.1.Start, x1.1.Transitions))) else none) else none) else none) else none))) (onS fun (y1 : Int × (List Int) × Nat × (List UInt8) × (List (List UInt8)) × (List (List T176)) × (List T57) × Int × (List T119)) => (Option.bind (Option.bind (some (.inl ())) (onS fun (_ : Unit) => (loopO (fun (s2 : (List Int) × Int) => ((if (decide (s2.2 < (y1.2.2.1 : Int))) = true then (if (0 ≤ s2.2) then (if (s2.2 < (y1.2.2.1 : Int)) then (if (s2.2.toNat < y1.2.2.1) then (some (.inl (((subL s2.1 0 y1.2.2.1).set s2.2.toNat (-1 : Int)), (IntKind.wrap .i64 (s2.2 + 1))))) else none) else none) else none) else (some (.inr (.inl (subL s2.1 0 y1.2.2.1))))) : Option (((List Int) × Int) ⊕ (((List Int)) ⊕ (Int × (List (List UInt8))))))) (y1.2.1, (0 : Int))))) (onS fun (y3 : (List Int)) => (Option.bind (Option.bind (m73 (⟨y1.2.2.2.1, y1.2.2.2.2.1, y1.2.2.2.2.2.1, y1.2.2.2.2.2.2.1, y1.2.2.2.2.2.2.2.1, y1.2.2.2.2.2.2.2.2⟩ : T48) (⟨(IntKind.wrap .i64 (a1)), y3⟩ : T71) y1.1) fun r => some r) fun x9 => (some ((IntKind.wrap .u8 (x9.1.Leaf)), x9.2.1))))))) : Option (Int × (List (List UInt8)))) := by kernel_rfl
theorem M12 (a0 : T30) (a1 : Int) : m12 a0 a1 = ((Option.bind (Option.bind (Option.bind (m24 a0) fun r => some r) fun x1 => (if (!x1) = true then (some (.inr (((⟨(0 : Int), (0 : Int), (0 : Int)⟩ : T30), [], (8 : Int))))) else (some (.inl ())))) (onS fun (_ : Unit) => (Option.bind (Option.bind (some (.inl ())) (onS fun (_ : Unit) => (Option.bind (Option.bind (Option.bind (some (.inl ())) (onS fun (_ : Unit) => (some (.inl ())))) (onS fun (_ : Unit) => (Option.bind (Option.bind (Option.bind (Option.bind (m23 (1 : Int) a1) fun r => some r) fun x6 => (some (.inl (x6.2, (x6.2 != 0))))) (onS fun (y1 : Int × Bool) => (if y1.2 = true then (some (.inr (.inr (.inr (((⟨(0 : Int), (0 : Int), (0 : Int)⟩ : T30), [], y1.1)))))) else (some (.inl ()))))) (onS fun (_ : Unit) => (some (.inl ())))))) (onS fun (_ : Unit) => (Option.bind (Option.bind (Option.bind (some (.inl ())) (onS fun (_ : Unit) => (some (.inl ())))) (onS fun (_ : Unit) => (Option.bind (Option.bind (Option.bind (Option.bind (m23 (2 : Int) a1) fun r => some r) fun x6 => (some (.inl (x6.2, (x6.2 != 0))))) (onS fun (y2 : Int × Bool) => (if y2.2 = true then (some (.inr (.inr (.inr (((⟨(0 : Int), (0 : Int), (0 : Int)⟩ : T30), [], y2.1)))))) else (some (.inl ()))))) (onS fun (_ : Unit) => (some (.inl ())))))) (onS fun (_ : Unit) => (Option.bind (Option.bind (Option.bind (some (.inl ())) (onS fun (_ : Unit) => (some (.inl ())))) (onS fun (_ : Unit) => (Option.bind (Option.bind (Option.bind (Option.bind (m23 (3 : Int) a1) fun r => some r) fun x6 => (some (.inl (x6.2, (x6.2 != 0))))) (onS fun (y3 : Int × Bool) => (if y3.2 = true then (some (.inr (.inr (.inr (((⟨(0 : Int), (0 : Int), (0 : Int)⟩ : T30), [], y3.1)))))) else (some (.inl ()))))) (onS fun (_ : Unit) => (some (.inl ())))))) (onS fun (_ : Unit) => (Option.bind (Option.bind (Option.bind (some (.inl ())) (onS fun (_ : Unit) => (some (.inr (.inr (.inl ())))))) onE) onE))))))))) (onS fun (_ : Unit) => (Option.bind (Option.bind (m43 (1 : Int) a0.Lateral a1) fun r => some r) fun x9 => (Option.bind (Option.bind (m43 (2 : Int) a0.Vertical a1) fun r => some r) fun x10 => (Option.bind (Option.bind (m43 (3 : Int) a0.Phase a1) fun r => some r) fun x11 => (if ((0 + x9.2.length) * 16 ≤ 140737488355328) then (if (((0 + x9.2.length) + x10.2.length) * 16 ≤ 140737488355328) then (if ((((0 + x9.2.length) + x10.2.length) + x11.2.length) * 16 ≤ 140737488355328) then (some ((⟨x9.1, x10.1, x11.1⟩ : T30), (((([] : List (List UInt8)) ++ x9.2) ++ x10.2) ++ x11.2), (0 : Int))) else none) else none) else none)))))))) : Option (T30 × (List (List UInt8)) × Int)) := by kernel_rfl
def Mo.laid (N i : Nat) : List Int := List.replicate i (-1) ++ List.replicate (N - i) 0
theorem Mo.laid_len {N i : Nat} (h : i ≤ N) : (laid N i).length = N := by unfold laid; simp; omega
theorem Mo.laid_set {N i : Nat} (h : i < N) : (laid N i).set i (-1) = laid N (i + 1) := by
 unfold laid
 rw [List.set_append, if_neg (by simp), List.length_replicate, Nat.sub_self, List.replicate_succ', List.append_assoc]
 congr 1
 rw [show N - i = (N - (i + 1)) + 1 by omega, List.replicate_succ]
 rfl
theorem Mo.move_of {a : Int} {c : T48} {b n : Nat} {v : Int} {r : T71 × List (List UInt8) × Int} (hr : m37 a = some (c, 0)) (hv : m23 a (b : Int) = some (v, 0)) (hc : c.States.length ≤ 1000) (hn : n < 256) (hs : m73 c ⟨(n : Int), rep c⟩ v = some r) (h1 : 0 ≤ r.1.Leaf ∧ r.1.Leaf < 256) :
  m43 a (n : Int) (b : Int) = some (r.1.Leaf, r.2.1) := by
 have w : IntKind.wrap .i64 (n : Int) = (n : Int) := w64 (by omega) (by omega)
 have w8 : IntKind.wrap .u8 r.1.Leaf = r.1.Leaf := IntWalk.u8_in _ (by omega)
 have c0 : ((0 : Int) ≤ (c.States.length : Int)) = True := eq_true (by omega)
 have c1 : ((c.States.length : Int) * 8 ≤ 140737488355328) = True := eq_true (by omega)
 have c2 : ((c.States.length : Int) ≤ 9223372036854775807) = True := eq_true (by omega)
 simp only [M43, bind_id]
 generalize m37 = F at hr ⊢
 generalize m23 = G at hv ⊢
 generalize m73 = S at hs ⊢
 simp only [hr, hv, bs, ol, c0, c1, c2, if_true, Int.toNat_natCast]
 generalize hN : c.States.length = N at *
 refine on_l (loop_st N (fun i => (laid N i, (i : Int))) (Sum.inl (rep c)) (fun i hi => ?_) ?_) ?_
 ·have e1 : subL (laid N i) 0 N = laid N i := subL_all (laid_len (by omega))
  have d1 : decide ((i : Int) < (N : Int)) = true := by simp; omega
  have d2 : ((0 : Int) ≤ (i : Int)) = True := eq_true (by omega)
  have d3 : ((i : Int) < (N : Int)) = True := eq_true (by omega)
  have d4 : (i < N) = True := eq_true hi
  have w1 : IntKind.wrap .i64 ((i : Int) + 1) = ((i + 1 : Nat) : Int) := w64 (by omega) (by omega)
  simp only [e1, d1, d2, d3, d4, decide_true, Int.toNat_natCast, if_true, w1, laid_set hi]
 ·have e1 : subL (laid N N) 0 N = laid N N := subL_all (laid_len (Nat.le_refl _))
  have e2 : laid N N = rep c := by unfold laid rep; rw [hN]; simp
  have d1 : decide ((N : Int) < (N : Int)) = false := by simp
  have e3 : subL (rep c) 0 N = rep c := by rw [← e2]; exact e1
  simp only [d1, Int.lt_irrefl, decide_false, Bool.false_eq_true, if_false, e2, e3]
 ·simp only [w, hs, bs, w8]
theorem Mo.rmStep_eq {l v p b : Nat} (hl : l < 256) (hv : v < 256) (hp : p < 256) (hb : b < 4294967296) : m12 ⟨(l : Int), (v : Int), (p : Int)⟩ (b : Int) = some (⟨(stepP l v p b).1.Lateral, (stepP l v p b).1.Vertical, (stepP l v p b).1.Phase⟩, (stepP l v p b).2.1, (stepP l v p b).2.2) := by
 have e0 := rmValid_eq hl hv hp
 have v1 := rValuation_of rread1 fit1 pos1 uniq1 (by decide) hb
 have v2 := rValuation_of rread2 fit2 pos2 uniq2 (by decide) hb
 have v3 := rValuation_of rread3 fit3 pos3 uniq3 (by decide) hb
 have good : validN l v p = true → b < 524288 → al1 b = true → al2 b = true → al3 b = true →
   (m43 1 (l : Int) (b : Int) = some ((goS C1 l (valS C1 b)).1.Leaf, (goS C1 l (valS C1 b)).2.1) ∧ m43 2 (v : Int) (b : Int) = some ((goS C2 v (valS C2 b)).1.Leaf, (goS C2 v (valS C2 b)).2.1) ∧ m43 3 (p : Int) (b : Int) = some ((goS C3 p (valS C3 b)).1.Leaf, (goS C3 p (valS C3 b)).2.1)) ∧
   ((0 + (goS C1 l (valS C1 b)).2.1.length) * 16 ≤ 140737488355328 ∧ ((0 + (goS C1 l (valS C1 b)).2.1.length) + (goS C2 v (valS C2 b)).2.1.length) * 16 ≤ 140737488355328 ∧ (((0 + (goS C1 l (valS C1 b)).2.1.length) + (goS C2 v (valS C2 b)).2.1.length) + (goS C3 p (valS C3 b)).2.1.length) * 16 ≤ 140737488355328) := by
  intro hval h19 a1 a2 a3
  simp only [validN, Bool.and_eq_true, decide_eq_true_eq] at hval
  obtain ⟨⟨⟨l1, l2⟩, q1, q2⟩, p1, p2⟩ := hval
  obtain ⟨⟨c1, c2⟩, c3⟩ := gol1 l1 l2 a1
  obtain ⟨⟨d1, d2⟩, d3⟩ := gol2 q1 q2 a2
  obtain ⟨⟨e1, e2⟩, e3⟩ := gol3 p1 p2 a3
  have u1 : m23 1 (b : Int) = some (((valS C1 b : Nat) : Int), 0) := by rw [v1]; unfold valR; rw [if_neg (by omega)]; unfold al1 at a1; rw [a1]; rfl
  have u2 : m23 2 (b : Int) = some (((valS C2 b : Nat) : Int), 0) := by rw [v2]; unfold valR; rw [if_neg (by omega)]; unfold al2 at a2; rw [a2]; rfl
  have u3 : m23 3 (b : Int) = some (((valS C3 b : Nat) : Int), 0) := by rw [v3]; unfold valR; rw [if_neg (by omega)]; unfold al3 at a3; rw [a3]; rfl
  have b1 := valS_lt16 (c := C1) (b := b) (by decide)
  have b2 := valS_lt16 (c := C2) (b := b) (by decide)
  have b3 := valS_lt16 (c := C3) (b := b) (by decide)
  exact ⟨⟨move_of rread1 u1 fit1.states hl (by rw [rStep_eq C1 fit1 _ _ (by omega) (by omega)]; exact go1 l1 l2 a1) (by omega), move_of rread2 u2 fit2.states hv (by rw [rStep_eq C2 fit2 _ _ (by omega) (by omega)]; exact go2 q1 q2 a2) (by omega), move_of rread3 u3 fit3.states hp (by rw [rStep_eq C3 fit3 _ _ (by omega) (by omega)]; exact go3 p1 p2 a3) (by omega)⟩, by omega, by omega, by omega⟩
 have x1 : valR C1 b = if 524288 ≤ b then (0, 1) else if (!al1 b) = true then (0, 11) else (((valS C1 b : Nat) : Int), 0) := rfl
 have x2 : valR C2 b = if 524288 ≤ b then (0, 1) else if (!al2 b) = true then (0, 11) else (((valS C2 b : Nat) : Int), 0) := rfl
 have x3 : valR C3 b = if 524288 ≤ b then (0, 1) else if (!al3 b) = true then (0, 11) else (((valS C3 b : Nat) : Int), 0) := rfl
 rw [x1] at v1
 rw [x2] at v2
 rw [x3] at v3
 unfold stepP
 simp only [M12, bind_id]
 generalize goS C1 l (valS C1 b) = g1 at good ⊢
 generalize goS C2 v (valS C2 b) = g2 at good ⊢
 generalize goS C3 p (valS C3 b) = g3 at good ⊢
 generalize ((valS C1 b : Nat) : Int) = y1 at v1
 generalize ((valS C2 b : Nat) : Int) = y2 at v2
 generalize ((valS C3 b : Nat) : Int) = y3 at v3
 generalize al1 b = b1 at good v1 ⊢
 generalize al2 b = b2 at good v2 ⊢
 generalize al3 b = b3 at good v3 ⊢
 generalize validN l v p = bv at good e0 ⊢
 generalize m23 = G at v1 v2 v3 ⊢
 generalize m43 = S at good ⊢
 generalize m24 = V at e0 ⊢
 have n1 : ((1 : Int) != 0) = true := rfl
 have n11 : ((11 : Int) != 0) = true := rfl
 cases bv with
 | false => simp only [e0, bs, or_, Bool.not_false, if_true]
 | true =>
  by_cases h19 : 524288 ≤ b
  ·simp only [h19, if_true] at v1 v2 v3
   simp only [e0, v1, n1, h19, bs, ol, or_, oe, Bool.not_true, Bool.false_eq_true, if_false, if_true]
  ·simp only [h19, if_false] at v1 v2 v3
   cases b1 with
   | false =>
    simp only [Bool.not_false, if_true] at v1
    simp only [e0, v1, n11, h19, bs, ol, or_, oe, Bool.not_true, Bool.not_false, Bool.false_and, Bool.false_eq_true, if_false, if_true]
   | true =>
    simp only [Bool.not_true, Bool.false_eq_true, if_false] at v1
    cases b2 with
    | false =>
     simp only [Bool.not_false, if_true] at v2
     simp only [e0, v1, v2, n11, h19, bs, ol, or_, oe, bne_self_eq_false, Bool.not_true, Bool.not_false, Bool.true_and, Bool.false_and, Bool.false_eq_true, if_false, if_true]
    | true =>
     simp only [Bool.not_true, Bool.false_eq_true, if_false] at v2
     cases b3 with
     | false =>
      simp only [Bool.not_false, if_true] at v3
      simp only [e0, v1, v2, v3, n11, h19, bs, ol, or_, oe, bne_self_eq_false, Bool.not_true, Bool.not_false, Bool.true_and, Bool.false_and, Bool.false_eq_true, if_false, if_true]
     | true =>
      simp only [Bool.not_true, Bool.false_eq_true, if_false] at v3
      obtain ⟨⟨s1, s2, s3⟩, f1, f2, f3⟩ := good rfl (by omega) rfl rfl rfl
      simp only [e0, v1, v2, v3, s1, s2, s3, f1, f2, f3, h19, bs, ol, or_, oe, bne_self_eq_false, List.nil_append, Bool.not_true, Bool.not_false, Bool.true_and, Bool.false_and, Bool.false_eq_true, if_false, if_true]
theorem Mo.step_len {l v p b : Nat} : (stepP l v p b).2.1.length ≤ 100000 := by
 by_cases h0 : (stepP l v p b).2.2 = 0
 ·obtain ⟨⟨l1, l2⟩, ⟨v1, v2⟩, ⟨p1, p2⟩, hb, a1, a2, a3, he⟩ := step_good h0
  have c3 := (gol1 l1 l2 a1).2
  have d3 := (gol2 v1 v2 a2).2
  have e3 := (gol3 p1 p2 a3).2
  rw [he]; simp only [List.length_append]; omega
 ·have : (stepP l v p b).2.1 = [] ∨ (stepP l v p b).2.2 = 0 := by
   unfold stepP
   split
   ·exact .inl rfl
   ·split
    ·exact .inl rfl
    ·split
     ·exact .inl rfl
     ·exact .inr rfl
  rcases this with h | h
  ·rw [h]; simp
  ·exact absurd h h0
theorem Mo.bne_self {α : Type} [BEq α] [LawfulBEq α] (x : α) : (x != x) = false := by simp
theorem Mo.sameS (l : List (List UInt8)) (hl : l.length ≤ 1000000) : m15 l l = some true := by
 delta m15 d15
 simp only [↓JD.sg_m, ↓JD.sq_m, ↓JD.sc_m, ↓JD.bk_m, ↓JD.lp_m, ↓JD.cd_m, ↓JD.lu_m, ↓JD.ct_m, ↓JD.ce_m, ↓JL.r_m, ↓JL.z_m, ↓JD.se_m, onE_r, ↓Tr.run, ↓Tr.run_nd, ↓Tr.run_c3, ↓Tr.run_c2, ↓Tr.run_nx, ↓onS, bind_ite, Option.bind_some, Option.bind_none, obR, bne_self, Bool.false_eq_true, if_false]
 refine loop_pass l.length (fun i hi => ?_) (by (simp only [lt_irr, decide_false, Bool.false_eq_true, if_false]; try rfl)) rfl
 simp only [inL hi, decide_true, Int.toNat_natCast, if_true, wr1 hi (by omega)]
theorem M13 (a0 : T23) : m13 a0 = ((some (⟨a0.Lateral, a0.Vertical, a0.Phase⟩ : T30)) : Option (T30)) := by kernel_rfl
theorem M14 (a0 : T30) : m14 a0 = ((some (⟨a0.Lateral, a0.Vertical, a0.Phase⟩ : T23)) : Option (T23)) := by kernel_rfl
theorem M3 (a0 : T23) (a1 : Int) : m3 a0 a1 = ((Option.bind (Option.bind (m10) fun r => some r) fun x1 => (if (!x1) = true then (some false) else (Option.bind (Option.bind (m11 a0 a1) fun r => some r) fun x3 => (Option.bind (((m13 a0).bind fun r4_0 => ((m12 r4_0 a1).bind fun r4_1 => some (r4_0, r4_1)))) fun (x4 : (T30 × (T30 × (List (List UInt8)) × Int))) => (Option.bind (((m14 x4.2.1).bind fun r5_0 => ((if ((x3.1.Lateral == r5_0.Lateral) && ((x3.1.Vertical == r5_0.Vertical) && ((x3.1.Phase == r5_0.Phase) && true))) = true then m15 x3.2.1 x4.2.2.1 else some default).bind fun r5_1 => some (r5_0, r5_1)))) fun (x5 : (T23 × Bool)) => (some ((((x3.1.Lateral == x5.1.Lateral) && ((x3.1.Vertical == x5.1.Vertical) && ((x3.1.Phase == x5.1.Phase) && true))) && x5.2) && (x3.2.2 == x4.2.2.2)))))))) : Option (Bool)) := by kernel_rfl
theorem plain3 {s : T23} {c : Int} (hs : ok23 s) (hc : (Lit.int .u32 c).wf = true) : m3 s c = some true := by
 obtain ⟨l, v, p, rfl, hl, hv, hp⟩ := ok_state hs
 obtain ⟨b, rfl, hb⟩ := u32_nat hc
 have hw := Mo.awake_true
 have e1 := Step_eqM hl hv hp hb
 have e2 := Mo.rmStep_eq hl hv hp hb
 have e3 := Mo.sameS (stepP l v p b).2.1 (Nat.le_trans Mo.step_len (by omega))
 simp only [M3, M13, M14, bind_id]
 generalize m10 = A at hw ⊢
 generalize m11 = F at e1 ⊢
 generalize m12 = G at e2 ⊢
 generalize m15 = S at e3 ⊢
 generalize stepP l v p b = r at *
 simp only [hw, bs, e1, e2, e3, beq_self_eq_true, Bool.not_true, Bool.false_eq_true, if_false, if_true, Bool.and_self]
end Go.Av
