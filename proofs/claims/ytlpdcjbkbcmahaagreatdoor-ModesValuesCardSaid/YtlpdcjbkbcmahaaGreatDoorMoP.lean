/- Lines of a text, as the specification reads them. -/
import Derived.Test.YtlpdcjbkbcmahaaGreatDoorMoC
import Derived.Test.YtlpdcjbkbcmahaaGreatDoorBits
set_option linter.unusedVariables false
set_option linter.unusedSimpArgs false
set_option maxRecDepth 1000000
namespace Go.Av.Mo
def headS (p : List UInt8) : List (List UInt8) → List (List UInt8)
  | [] => [p]
  | l :: r => (p ++ l) :: r
def linesS : List UInt8 → List (List UInt8)
  | [] => [[]]
  | c :: s => match Nat.beq c.toNat 10 with
    | true => [] :: linesS s
    | false => headS [c] (linesS s)
theorem linesS_t {c : UInt8} {s : List UInt8} (h : Nat.beq c.toNat 10 = true) : linesS (c :: s) = [] :: linesS s := by rw [linesS, h]
theorem linesS_f {c : UInt8} {s : List UInt8} (h : Nat.beq c.toNat 10 = false) : linesS (c :: s) = headS [c] (linesS s) := by rw [linesS, h]
theorem linesS_ne : ∀ s, ∃ l r, linesS s = l :: r
  | [] => ⟨_, _, rfl⟩
  | c :: s => by
    unfold linesS
    split
    · exact ⟨_, _, rfl⟩
    · obtain ⟨l, r, h⟩ := linesS_ne s
      rw [h]; exact ⟨_, _, rfl⟩
theorem headS_headS (p q : List UInt8) (l : List (List UInt8)) : headS p (headS q l) = headS (p ++ q) l := by cases l <;> simp [headS]
theorem M145 (a0 : List UInt8) : m145 a0 = ((((some (.inl ()) : Option ((Unit) ⊕ ((List (List UInt8))))) : Option ((Unit) ⊕ ((List (List UInt8))))).bind (onS fun (_ : Unit) => (((((some (.inl ()) : Option ((Unit) ⊕ (((List (List UInt8))) ⊕ ((List (List UInt8)))))) : Option ((Unit) ⊕ (((List (List UInt8))) ⊕ ((List (List UInt8)))))).bind (onS fun (_ : Unit) => (loopO (fun (s1 : (List (List UInt8)) × Int × Int) => ((if (decide (s1.2.2 ≤ (a0.length : Int))) = true then (if (!(s1.2.2 == (a0.length : Int))) = true → ((0 : Int) ≤ s1.2.2) then (if (!(s1.2.2 == (a0.length : Int))) = true → (s1.2.2 < (a0.length : Int)) then (if ((s1.2.2 == (a0.length : Int)) || ((byteAt a0 s1.2.2.toNat) == (10 : Int))) = true then (if ((0 : Int) ≤ s1.2.1) then (if (s1.2.1 ≤ s1.2.2) then (if (s1.2.2 ≤ (a0.length : Int)) then (if ((s1.1.length + 1) * 16 ≤ 140737488355328) then (some (.inl ((s1.1 ++ ([((a0.take s1.2.2.toNat).drop s1.2.1.toNat)] : List (List UInt8))), (IntKind.wrap .i64 (s1.2.2 + (1 : Int))), (IntKind.wrap .i64 (s1.2.2 + (1 : Int))))) : Option (((List (List UInt8)) × Int × Int) ⊕ (((List (List UInt8))) ⊕ ((List (List UInt8)))))) else none) else none) else none) else none) else (some (.inl (s1.1, s1.2.1, (IntKind.wrap .i64 (s1.2.2 + (1 : Int))))) : Option (((List (List UInt8)) × Int × Int) ⊕ (((List (List UInt8))) ⊕ ((List (List UInt8))))))) else none) else none) else (some (.inr (.inl s1.1)) : Option (((List (List UInt8)) × Int × Int) ⊕ (((List (List UInt8))) ⊕ ((List (List UInt8))))))) : Option (((List (List UInt8)) × Int × Int) ⊕ (((List (List UInt8))) ⊕ ((List (List UInt8))))))) ([], (0 : Int), (0 : Int))))) : Option (((List (List UInt8))) ⊕ ((List (List UInt8))))).bind (onS fun (y2 : (List (List UInt8))) => (some y2 : Option ((List (List UInt8)))))))) : Option ((List (List UInt8)))) := by kernel_rfl
theorem M101o0 (a0 : List UInt8) : m101o0 a0 = ((((if (decide ((262144 : Int) < (a0.length : Int))) = true then (some (.inr ((([(⟨(1 : Int), (1 : Int), (3 : Int)⟩ : T136)] : List T136), []))) : Option ((Unit) ⊕ ((List T136) × (List T139)))) else (some (.inl ()) : Option ((Unit) ⊕ ((List T136) × (List T139))))) : Option ((Unit) ⊕ ((List T136) × (List T139)))).bind (onS fun (_ : Unit) => (((((Option.bind (Option.bind (m145 a0) fun r => some r) fun x5 => (some (.inl (x5, (x5.length : Int))) : Option (((List (List UInt8)) × Int) ⊕ (((List T139) × (List T136)) ⊕ ((List T136) × (List T139)))))) : Option (((List (List UInt8)) × Int) ⊕ (((List T139) × (List T136)) ⊕ ((List T136) × (List T139))))).bind (onS fun (y1 : (List (List UInt8)) × Int) => (loopO (fun (s2 : (List T139) × (List T136) × Int) => ((if (decide (s2.2.2 < y1.2)) = true then (if ((0 : Int) ≤ s2.2.2) then (if (s2.2.2 < (y1.1.length : Int)) then (Option.bind (Option.bind (m146 (y1.1.getD s2.2.2.toNat default)) fun r => some r) fun x8 => (if (x8.2.2 != (0 : Int)) = true then (if (decide ((s2.2.1.length : Int) < (50 : Int))) = true then (if ((s2.2.1.length + 1) * 24 ≤ 140737488355328) then (some (.inl (s2.1, (s2.2.1 ++ ([(⟨(IntKind.wrap .i64 (s2.2.2 + (1 : Int))), x8.2.1, x8.2.2⟩ : T136)] : List T136)), (IntKind.wrap .i64 (s2.2.2 + (1 : Int))))) : Option (((List T139) × (List T136) × Int) ⊕ (((List T139) × (List T136)) ⊕ ((List T136) × (List T139))))) else none) else (some (.inl (s2.1, s2.2.1, (IntKind.wrap .i64 (s2.2.2 + (1 : Int))))) : Option (((List T139) × (List T136) × Int) ⊕ (((List T139) × (List T136)) ⊕ ((List T136) × (List T139)))))) else (if (decide ((0 : Int) < (x8.1.length : Int))) = true then (if ((s2.1.length + 1) * 32 ≤ 140737488355328) then (some (.inl ((s2.1 ++ ([(⟨(IntKind.wrap .i64 (s2.2.2 + (1 : Int))), x8.1⟩ : T139)] : List T139)), s2.2.1, (IntKind.wrap .i64 (s2.2.2 + (1 : Int))))) : Option (((List T139) × (List T136) × Int) ⊕ (((List T139) × (List T136)) ⊕ ((List T136) × (List T139))))) else none) else (some (.inl (s2.1, s2.2.1, (IntKind.wrap .i64 (s2.2.2 + (1 : Int))))) : Option (((List T139) × (List T136) × Int) ⊕ (((List T139) × (List T136)) ⊕ ((List T136) × (List T139)))))))) else none) else none) else (some (.inr (.inl (s2.1, s2.2.1))) : Option (((List T139) × (List T136) × Int) ⊕ (((List T139) × (List T136)) ⊕ ((List T136) × (List T139)))))) : Option (((List T139) × (List T136) × Int) ⊕ (((List T139) × (List T136)) ⊕ ((List T136) × (List T139)))))) ([], [], (0 : Int))))) : Option (((List T139) × (List T136)) ⊕ ((List T136) × (List T139)))).bind (onS fun (y3 : (List T139) × (List T136)) => (some (y3.2, y3.1) : Option ((List T136) × (List T139))))))) : Option ((List T136) × (List T139))) := by kernel_rfl
theorem M63 (a0 : List UInt8) : m63 a0 = ((((Option.bind (Option.bind (m101o0 a0) fun r => some r) fun x1 => (if (((x1.1.length : Int) == (0 : Int)) && ((x1.2.length : Int) == (0 : Int))) = true then (if (decide ((0 : Int) < (1 : Int))) = true then (some (.inr (((⟨([] : List UInt8), [], [], [], (0 : Int), []⟩ : T48), ([(⟨(1 : Int), (1 : Int), (9 : Int)⟩ : T136)] : List T136)))) : Option (((List T139) × (List T136)) ⊕ (T48 × (List T136)))) else (some (.inl (x1.2, ([(⟨(1 : Int), (1 : Int), (9 : Int)⟩ : T136)] : List T136))) : Option (((List T139) × (List T136)) ⊕ (T48 × (List T136))))) else (if (decide ((0 : Int) < (x1.1.length : Int))) = true then (some (.inr (((⟨([] : List UInt8), [], [], [], (0 : Int), []⟩ : T48), x1.1))) : Option (((List T139) × (List T136)) ⊕ (T48 × (List T136)))) else (some (.inl (x1.2, x1.1)) : Option (((List T139) × (List T136)) ⊕ (T48 × (List T136))))))) : Option (((List T139) × (List T136)) ⊕ (T48 × (List T136)))).bind (onS fun (y1 : (List T139) × (List T136)) => (((((some (.inl ()) : Option ((Unit) ⊕ (((List T136)) ⊕ (T48 × (List T136))))) : Option ((Unit) ⊕ (((List T136)) ⊕ (T48 × (List T136))))).bind (onS fun (_ : Unit) => (loopO (fun (s2 : (List T136) × Int) => ((if (decide (s2.2 < (y1.1.length : Int))) = true then (if ((0 : Int) ≤ s2.2) then (if (s2.2 < (y1.1.length : Int)) then (if ((0 : Int) ≤ (0 : Int)) then (if ((0 : Int) < ((y1.1.getD s2.2.toNat default).Fields.length : Int)) then (Option.bind (Option.bind (m102 (y1.1.getD s2.2.toNat default)) fun r => some r) fun x10 => (if (decide (x10 < (0 : Int))) = true then (if (true && (decide ((s2.1.length : Int) < (50 : Int)))) = true then (if ((s2.1.length + 1) * 24 ≤ 140737488355328) then (some (.inl ((s2.1 ++ ([(⟨(y1.1.getD s2.2.toNat default).Number, ((y1.1.getD s2.2.toNat default).Fields.getD (0 : Int).toNat default).Column, (4 : Int)⟩ : T136)] : List T136)), (IntKind.wrap .i64 (s2.2 + (1 : Int))))) : Option (((List T136) × Int) ⊕ (((List T136)) ⊕ (T48 × (List T136))))) else none) else (some (.inl (s2.1, (IntKind.wrap .i64 (s2.2 + (1 : Int))))) : Option (((List T136) × Int) ⊕ (((List T136)) ⊕ (T48 × (List T136)))))) else (Option.bind ((if (((!((s2.2 == (0 : Int)) && (x10 != (0 : Int)))) && (decide ((0 : Int) < s2.2))) && (!(x10 == (0 : Int)))) = true → (0 : Int) ≤ (IntKind.wrap .i64 (s2.2 - (1 : Int))) then (if (((!((s2.2 == (0 : Int)) && (x10 != (0 : Int)))) && (decide ((0 : Int) < s2.2))) && (!(x10 == (0 : Int)))) = true → (IntKind.wrap .i64 (s2.2 - (1 : Int))) < (y1.1.length : Int) then ((if (((!((s2.2 == (0 : Int)) && (x10 != (0 : Int)))) && (decide ((0 : Int) < s2.2))) && (!(x10 == (0 : Int)))) = true then m102 (y1.1.getD (IntKind.wrap .i64 (s2.2 - (1 : Int))).toNat default) else some default).bind fun r14_0 => ((if (((!((s2.2 == (0 : Int)) && (x10 != (0 : Int)))) && (decide ((0 : Int) < s2.2))) && (!(x10 == (0 : Int)))) = true then m103 x10 r14_0 else some default).bind fun r14_1 => some (r14_0, r14_1))) else none) else none)) fun (x14 : (Int × Bool)) => (if (((s2.2 == (0 : Int)) && (x10 != (0 : Int))) || ((decide ((0 : Int) < s2.2)) && ((x10 == (0 : Int)) || (!x14.2)))) = true then (if (true && (decide ((s2.1.length : Int) < (50 : Int)))) = true then (if ((s2.1.length + 1) * 24 ≤ 140737488355328) then (some (.inl ((s2.1 ++ ([(⟨(y1.1.getD s2.2.toNat default).Number, ((y1.1.getD s2.2.toNat default).Fields.getD (0 : Int).toNat default).Column, (9 : Int)⟩ : T136)] : List T136)), (IntKind.wrap .i64 (s2.2 + (1 : Int))))) : Option (((List T136) × Int) ⊕ (((List T136)) ⊕ (T48 × (List T136))))) else none) else (some (.inl (s2.1, (IntKind.wrap .i64 (s2.2 + (1 : Int))))) : Option (((List T136) × Int) ⊕ (((List T136)) ⊕ (T48 × (List T136)))))) else (Option.bind (Option.bind (m104 (y1.1.getD s2.2.toNat default)) fun r => some r) fun x16 => (if (x16.2 && (decide ((s2.1.length : Int) < (50 : Int)))) = true then (if ((s2.1.length + 1) * 24 ≤ 140737488355328) then (some (.inl ((s2.1 ++ ([x16.1] : List T136)), (IntKind.wrap .i64 (s2.2 + (1 : Int))))) : Option (((List T136) × Int) ⊕ (((List T136)) ⊕ (T48 × (List T136))))) else none) else (some (.inl (s2.1, (IntKind.wrap .i64 (s2.2 + (1 : Int))))) : Option (((List T136) × Int) ⊕ (((List T136)) ⊕ (T48 × (List T136))))))))))) else none) else none) else none) else none) else (some (.inr (.inl s2.1)) : Option (((List T136) × Int) ⊕ (((List T136)) ⊕ (T48 × (List T136)))))) : Option (((List T136) × Int) ⊕ (((List T136)) ⊕ (T48 × (List T136)))))) (y1.2, (0 : Int))))) : Option (((List T136)) ⊕ (T48 × (List T136)))).bind (onS fun (y3 : (List T136)) => (((if (decide ((0 : Int) < (y3.length : Int))) = true then (some (.inr (((⟨([] : List UInt8), [], [], [], (0 : Int), []⟩ : T48), y3))) : Option ((Unit) ⊕ (T48 × (List T136)))) else (some (.inl ()) : Option ((Unit) ⊕ (T48 × (List T136))))) : Option ((Unit) ⊕ (T48 × (List T136)))).bind (onS fun (_ : Unit) => (((((some (.inl ()) : Option ((Unit) ⊕ (((List T136)) ⊕ (T48 × (List T136))))) : Option ((Unit) ⊕ (((List T136)) ⊕ (T48 × (List T136))))).bind (onS fun (_ : Unit) => (loopO (fun (s4 : (List T136) × Int) => ((if (decide (s4.2 < (y1.1.length : Int))) = true then (if ((0 : Int) ≤ s4.2) then (if (s4.2 < (y1.1.length : Int)) then (Option.bind (Option.bind (m105 y1.1 (y1.1.getD s4.2.toNat default)) fun r => some r) fun x25 => (if ((decide ((0 : Int) < x25)) && (decide ((s4.1.length : Int) < (50 : Int)))) = true then (if ((s4.1.length + 1) * 24 ≤ 140737488355328) then (some (.inl ((s4.1 ++ ([(⟨(y1.1.getD s4.2.toNat default).Number, x25, (6 : Int)⟩ : T136)] : List T136)), (IntKind.wrap .i64 (s4.2 + (1 : Int))))) : Option (((List T136) × Int) ⊕ (((List T136)) ⊕ (T48 × (List T136))))) else none) else (some (.inl (s4.1, (IntKind.wrap .i64 (s4.2 + (1 : Int))))) : Option (((List T136) × Int) ⊕ (((List T136)) ⊕ (T48 × (List T136))))))) else none) else none) else (some (.inr (.inl s4.1)) : Option (((List T136) × Int) ⊕ (((List T136)) ⊕ (T48 × (List T136)))))) : Option (((List T136) × Int) ⊕ (((List T136)) ⊕ (T48 × (List T136)))))) (y3, (0 : Int))))) : Option (((List T136)) ⊕ (T48 × (List T136)))).bind (onS fun (y5 : (List T136)) => (if (decide ((0 : Int) < (y5.length : Int))) = true then (some ((⟨([] : List UInt8), [], [], [], (0 : Int), []⟩ : T48), y5) : Option (T48 × (List T136))) else (Option.bind (Option.bind (m106 y1.1) fun r => some r) fun x31 => (Option.bind (Option.bind (m107 x31) fun r => some r) fun x32 => (if (x32 != (0 : Int)) = true then (some ((⟨([] : List UInt8), [], [], [], (0 : Int), []⟩ : T48), ([(⟨(1 : Int), (1 : Int), x32⟩ : T136)] : List T136)) : Option (T48 × (List T136))) else (some (x31, []) : Option (T48 × (List T136))))))))))))))) : Option (T48 × (List T136))) := by kernel_rfl
theorem M37 (a0 : Int) : m37 a0 = ((if ((decide (a0 < (1 : Int))) || (decide ((3 : Int) < a0))) = true then (some ((⟨([] : List UInt8), [], [], [], (0 : Int), []⟩ : T48), (1 : Int)) : Option (T48 × Int)) else (Option.bind (((m36 a0).bind fun r3_0 => ((m63 r3_0).bind fun r3_1 => some (r3_0, r3_1)))) fun (x3 : ((List UInt8) × (T48 × (List T136)))) => (some (x3.2.1, (0 : Int)) : Option (T48 × Int)))) : Option (T48 × Int)) := by kernel_rfl
theorem Lines_eq (s : List UInt8) (hs : s.length ≤ 1000000) : m145 s = some (linesS s) := by
  simp only [M145, bs, ol]
  have key := loop_inv (b := fun (s1 : List (List UInt8) × Int × Int) => (if (decide (s1.2.2 ≤ (s.length : Int))) = true then (if (!(s1.2.2 == (s.length : Int))) = true → ((0 : Int) ≤ s1.2.2) then (if (!(s1.2.2 == (s.length : Int))) = true → (s1.2.2 < (s.length : Int)) then (if ((s1.2.2 == (s.length : Int)) || ((byteAt s s1.2.2.toNat) == (10 : Int))) = true then (if ((0 : Int) ≤ s1.2.1) then (if (s1.2.1 ≤ s1.2.2) then (if (s1.2.2 ≤ (s.length : Int)) then (if ((s1.1.length + 1) * 16 ≤ 140737488355328) then (some (.inl ((s1.1 ++ ([((s.take s1.2.2.toNat).drop s1.2.1.toNat)] : List (List UInt8))), (IntKind.wrap .i64 (s1.2.2 + (1 : Int))), (IntKind.wrap .i64 (s1.2.2 + (1 : Int))))) : Option (((List (List UInt8)) × Int × Int) ⊕ (((List (List UInt8))) ⊕ ((List (List UInt8)))))) else none) else none) else none) else none) else (some (.inl (s1.1, s1.2.1, (IntKind.wrap .i64 (s1.2.2 + (1 : Int))))) : Option (((List (List UInt8)) × Int × Int) ⊕ (((List (List UInt8))) ⊕ ((List (List UInt8))))))) else none) else none) else (some (.inr (.inl s1.1)) : Option (((List (List UInt8)) × Int × Int) ⊕ (((List (List UInt8))) ⊕ ((List (List UInt8)))))))) 
    (fun m st => ∃ (out : List (List UInt8)) (b i : Nat), st = (out, (b : Int), (i : Int)) ∧ out.length ≤ i ∧ m = s.length + 1 - i ∧ ((b ≤ i ∧ i ≤ s.length ∧ out ++ headS ((s.take i).drop b) (linesS (s.drop i)) = linesS s) ∨ (i = s.length + 1 ∧ out = linesS s))) (fun x => x = .inl (linesS s)) ?_ (s.length + 1) ([], (0 : Int), (0 : Int)) ⟨[], 0, 0, rfl, by simp, by omega, .inl ⟨by omega, by omega, by
      obtain ⟨l, r, h⟩ := linesS_ne s
      simp [h, headS]⟩⟩
  · obtain ⟨x, h1, rfl⟩ := key
    exact on_l h1 rfl
  · rintro m st ⟨out, b, i, rfl, ho, rfl, ⟨hb, hi, he⟩ | ⟨rfl, he⟩⟩
    · left
      have w1 : IntKind.wrap .i64 ((i : Int) + 1) = ((i + 1 : Nat) : Int) := w64 (by omega) (by omega)
      have d1 : decide ((i : Int) ≤ (s.length : Int)) = true := by simp; omega
      have a1 : ((0 : Int) ≤ (i : Int)) = True := eq_true (by omega)
      have a2 : ((0 : Int) ≤ (b : Int)) = True := eq_true (by omega)
      have a3 : ((b : Int) ≤ (i : Int)) = True := eq_true (by omega)
      have a4 : ((i : Int) ≤ (s.length : Int)) = True := eq_true (by omega)
      have a5 : ((out.length + 1) * 16 ≤ 140737488355328) = True := eq_true (by omega)
      rcases Nat.lt_or_eq_of_le hi with hlt | heq
      · have n1 : ((i : Int) == (s.length : Int)) = false := by simp; omega
        have a6 : ((i : Int) < (s.length : Int)) = True := eq_true (by omega)
        have hd : s.drop i = s[i] :: s.drop (i + 1) := List.drop_eq_getElem_cons hlt
        have hb10 : byteAt s i = (s[i].toNat : Int) := by simp only [byteAt, List.getElem?_eq_getElem hlt]
        rw [hd] at he
        cases hc : Nat.beq s[i].toNat 10 with
        | true =>
          have e10 : (byteAt s i == (10 : Int)) = true := by rw [hb10, Nat.eq_of_beq_eq_true hc]; rfl
          refine ⟨(out ++ [(s.take i).drop b], ((i + 1 : Nat) : Int), ((i + 1 : Nat) : Int)), ?_, s.length + 1 - (i + 1), by omega, _, i + 1, i + 1, rfl, by simp; omega, rfl, .inl ⟨by omega, by omega, ?_⟩⟩
          · simp only [d1, decide_true, n1, a1, a2, a3, a4, a5, a6, Int.toNat_natCast, e10, Bool.or_true, implies_true, if_true, w1]
          · rw [← he]
            rw [linesS_t hc]
            obtain ⟨l, r, h⟩ := linesS_ne (s.drop (i + 1))
            rw [h]
            simp [headS]
        | false =>
          have e10 : (byteAt s i == (10 : Int)) = false := by
            rw [hb10, beq_eq_false_iff_ne]
            intro h
            have : s[i].toNat = 10 := by omega
            rw [this] at hc; cases hc
          refine ⟨(out, (b : Int), ((i + 1 : Nat) : Int)), ?_, s.length + 1 - (i + 1), by omega, _, b, i + 1, rfl, by omega, rfl, .inl ⟨by omega, by omega, ?_⟩⟩
          · simp only [d1, decide_true, n1, a1, a2, a3, a4, a5, a6, Int.toNat_natCast, e10, Bool.or_false, implies_true, if_true, Bool.false_eq_true, if_false, w1]
          · rw [← he]
            rw [linesS_f hc, headS_headS]
            have ht : (s.take (i + 1)).drop b = (s.take i).drop b ++ [s[i]] := by
              rw [List.take_add_one, List.getElem?_eq_getElem hlt, List.drop_append]
              simp only [List.length_take, Option.toList_some]
              rw [show b - min i s.length = 0 by omega]; rfl
            rw [ht]
      · subst heq
        have n1 : ((s.length : Int) == (s.length : Int)) = true := by simp
        refine ⟨(out ++ [(s.take s.length).drop b], ((s.length + 1 : Nat) : Int), ((s.length + 1 : Nat) : Int)), ?_, 0, by omega, _, s.length + 1, s.length + 1, rfl, by simp; omega, by omega, .inr ⟨rfl, ?_⟩⟩
        · simp only [d1, decide_true, n1, a1, a2, a3, a5, Int.le_refl, Int.toNat_natCast, Bool.true_or, Bool.not_true, Bool.false_eq_true, false_implies, if_true, w1]
        · rw [← he, List.drop_length]; simp [linesS, headS]
    · right
      have d1 : decide (((s.length + 1 : Nat) : Int) ≤ (s.length : Int)) = false := by simp; omega
      exact ⟨_, by simp only [d1, Bool.false_eq_true, if_false]; rfl, by rw [he]⟩
/-- The records of a text that has no signs of its own (no comments, one space between words). -/
def splitW : List UInt8 → Int → Int → List UInt8 → List T141
  | [], _, b, cur => [⟨cur.reverse, b + 1⟩]
  | c :: s, i, b, cur => match Nat.beq c.toNat 32 with
    | true => ⟨cur.reverse, b + 1⟩ :: splitW s (i + 1) (i + 1) []
    | false => splitW s (i + 1) b (c :: cur)
def linesX : Int → List (List UInt8) → List T139
  | _, [] => []
  | n, [] :: r => linesX (n + 1) r
  | n, (c :: s) :: r => ⟨n, splitW (c :: s) 0 0 []⟩ :: linesX (n + 1) r
end Go.Av.Mo
