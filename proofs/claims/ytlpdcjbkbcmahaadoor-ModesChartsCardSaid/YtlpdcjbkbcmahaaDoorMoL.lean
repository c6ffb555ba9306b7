/- Laws of modes in plain terms. -/
import Derived.Test.YtlpdcjbkbcmahaaDoorMoB
set_option linter.unusedVariables false
set_option linter.unusedSimpArgs false
set_option maxRecDepth 1000000
namespace Go.Av
open Ch Mo
/-- What a step gives that is one. -/
theorem Mo.step_good {l v p b : Nat} (h : (stepP l v p b).2.2 = 0) : (1 ≤ l ∧ l ≤ 6) ∧ (1 ≤ v ∧ v ≤ 8) ∧ (1 ≤ p ∧ p ≤ 8) ∧ b < 524288 ∧ al1 b = true ∧ al2 b = true ∧ al3 b = true ∧
    stepP l v p b = (⟨(goS C1 l (valS C1 b)).1.Leaf, (goS C2 v (valS C2 b)).1.Leaf, (goS C3 p (valS C3 b)).1.Leaf⟩, (goS C1 l (valS C1 b)).2.1 ++ (goS C2 v (valS C2 b)).2.1 ++ (goS C3 p (valS C3 b)).2.1, 0) := by
  unfold stepP at h ⊢
  cases hval : validN l v p with
  | false => rw [hval, if_pos (show (!false) = true from rfl)] at h; exact absurd h (by decide)
  | true =>
    rw [hval] at h
    simp only [Bool.not_true, Bool.false_eq_true, if_false] at h ⊢
    simp only [validN, Bool.and_eq_true, decide_eq_true_eq] at hval
    by_cases hb : 524288 ≤ b
    · rw [if_pos hb] at h; exact absurd h (by decide)
    · rw [if_neg hb] at h ⊢
      cases ha : (al1 b && al2 b && al3 b) with
      | false => rw [ha, if_pos (show (!false) = true from rfl)] at h; exact absurd h (by decide)
      | true =>
        simp only [Bool.and_eq_true] at ha
        obtain ⟨⟨a1, a2⟩, a3⟩ := ha
        exact ⟨hval.1.1, hval.1.2, hval.2, by omega, a1, a2, a3, by simp⟩
theorem Mo.step_bad {l v p b : Nat} (h : validN l v p = true) : (stepP l v p b).2.2 = 0 ∨ (stepP l v p b).2.2 = 1 ∨ (stepP l v p b).2.2 = 11 := by
  unfold stepP
  rw [h]
  simp only [Bool.not_true, Bool.false_eq_true, if_false]
  by_cases hb : 524288 ≤ b
  · rw [if_pos hb]; exact .inr (.inl rfl)
  · rw [if_neg hb]
    by_cases ha : (!(al1 b && al2 b && al3 b)) = true
    · rw [if_pos ha]; exact .inr (.inr rfl)
    · rw [if_neg ha]; exact .inl rfl
theorem Mo.gr1 : allBy C1 (leavesS C1) [(0, true)] (fun _ r => r.1.Leaf == 1) = true := by kernel_rfl
theorem Mo.gr2 : allBy C2 (leavesS C2) [(0, true)] (fun _ r => r.1.Leaf == 1) = true := by kernel_rfl
theorem Mo.ga1 : allBy C1 (leavesS C1) [(0, false), (6, true)] (fun _ r => r.1.Leaf == 6) = true := by kernel_rfl
theorem Mo.ga2 : allBy C2 (leavesS C2) [(0, false), (3, true)] (fun _ r => r.1.Leaf == 8) = true := by kernel_rfl
theorem Mo.ga3 : allBy C3 [3, 4, 5, 6, 7] [(0, false), (2, true)] (fun _ r => r.1.Leaf == 7) = true := by kernel_rfl
theorem M4 (a0 : T25) (a1 : Int) : m4 a0 a1 = ((Option.bind (Option.bind (m7) fun r => some r) fun x1 => (if (!x1) = true then (some false : Option (Bool)) else (Option.bind (Option.bind (m9 a0 a1) fun r => some r) fun x3 => (if (x3.2.2 != (0 : Int)) = true then (some true : Option (Bool)) else (if ((IntKind.wrap .u32 ((((BitVec.ofInt (IntKind.bits .u32) a1) &&& (BitVec.ofInt (IntKind.bits .u32) (1 : Int))).toNat : Int))) != (0 : Int)) = true then (some ((x3.1.Lateral == (1 : Int)) && (x3.1.Vertical == (1 : Int))) : Option (Bool)) else (if ((IntKind.wrap .u32 ((((BitVec.ofInt (IntKind.bits .u32) a1) &&& (BitVec.ofInt (IntKind.bits .u32) (64 : Int))).toNat : Int))) != (0 : Int)) = true then (some (((x3.1.Lateral == (6 : Int)) && (x3.1.Vertical == (8 : Int))) && ((!((decide ((3 : Int) ≤ a0.Phase)) && (decide (a0.Phase ≤ (7 : Int))))) || (x3.1.Phase == (7 : Int)))) : Option (Bool)) else (some true : Option (Bool)))))))) : Option (Bool)) := by kernel_rfl
theorem plain4 {s : T25} {c : Int} (hs : ok25 s) (hc : (Lit.int .u32 c).wf = true) : m4 s c = some true := by
  obtain ⟨l, v, p, rfl, hl, hv, hp⟩ := ok_state hs
  obtain ⟨b, rfl, hb⟩ := u32_nat hc
  have b0 := and_bit32 hb (k := 0) (by omega)
  have b6 := and_bit32 hb (k := 6) (by omega)
  rw [show (((2 ^ 0 : Nat)) : Int) = 1 from rfl] at b0
  rw [show (((2 ^ 6 : Nat)) : Int) = 64 from rfl] at b6
  simp only [M4, bind_id]
  rw [awake_true, bs, Step_eqM hl hv hp hb, bs, b0, b6]
  by_cases h0 : (stepP l v p b).2.2 = 0
  · obtain ⟨⟨l1, l2⟩, ⟨v1, v2⟩, ⟨p1, p2⟩, hb19, a1, a2, a3, he⟩ := step_good h0
    have s1 := go1 l1 l2 a1
    have s2 := go2 v1 v2 a2
    have s3 := go3 p1 p2 a3
    have m1 := mem1 l1 l2
    have m2 := mem2 v1 v2
    rw [he]
    cases t0 : b.testBit 0 with
    | true =>
      have k1 : ((goS C1 l (valS C1 b)).1.Leaf == 1) = true := by_all gr1 m1 s1 rfl (fun q hq => by simp only [List.mem_singleton] at hq; subst hq; rw [bit1_GROUND]; exact t0)
      have k2 : ((goS C2 v (valS C2 b)).1.Leaf == 1) = true := by_all gr2 m2 s2 rfl (fun q hq => by simp only [List.mem_singleton] at hq; subst hq; rw [bit2_GROUND]; exact t0)
      simp only [Bool.not_true, Bool.false_eq_true, if_false, if_true, bne_self_eq_false, k1, k2, Bool.and_self]
    | false =>
      cases t6 : b.testBit 6 with
      | true =>
        have k1 : ((goS C1 l (valS C1 b)).1.Leaf == 6) = true := by_all ga1 m1 s1 rfl (fun q hq => by
          simp only [List.mem_cons, List.not_mem_nil, or_false] at hq
          rcases hq with rfl | rfl
          · rw [bit1_GROUND]; exact t0
          · rw [bit1_GO]; exact t6)
        have k2 : ((goS C2 v (valS C2 b)).1.Leaf == 8) = true := by_all ga2 m2 s2 rfl (fun q hq => by
          simp only [List.mem_cons, List.not_mem_nil, or_false] at hq
          rcases hq with rfl | rfl
          · rw [bit2_GROUND]; exact t0
          · rw [bit2_GO]; exact t6)
        have k3 : ((!(decide ((3 : Int) ≤ (p : Int)) && decide ((p : Int) ≤ 7))) || ((goS C3 p (valS C3 b)).1.Leaf == 7)) = true := by
          cases hu : (decide ((3 : Int) ≤ (p : Int)) && decide ((p : Int) ≤ 7)) with
          | false => rfl
          | true =>
            simp only [Bool.and_eq_true, decide_eq_true_eq] at hu
            have hm : (p : Int) ∈ ([3, 4, 5, 6, 7] : List Int) := by
              have : p = 3 ∨ p = 4 ∨ p = 5 ∨ p = 6 ∨ p = 7 := by omega
              rcases this with rfl | rfl | rfl | rfl | rfl <;> simp
            have := by_all ga3 hm s3 rfl (fun q hq => by
              simp only [List.mem_cons, List.not_mem_nil, or_false] at hq
              rcases hq with rfl | rfl
              · rw [bit3_GROUND]; exact t0
              · rw [bit3_GO]; exact t6)
            simpa using this
        simp only [Bool.not_true, Bool.false_eq_true, if_false, if_true, bne_self_eq_false, k1, k2, k3, Bool.and_self]
      | false => simp only [Bool.not_true, Bool.false_eq_true, if_false, if_true, bne_self_eq_false]
  · have : ((stepP l v p b).2.2 != (0 : Int)) = true := by simpa using h0
    simp only [this, Bool.not_true, Bool.false_eq_true, if_false, if_true]
theorem M3 (a0 : List Int) : m3 a0 = ((((Option.bind (Option.bind (m7) fun r => some r) fun x1 => (if (!x1) = true then (some (.inr (false)) : Option ((Int × Int × Int) ⊕ (Bool))) else (Option.bind (Option.bind (m8) fun r => some r) fun x3 => (some (.inl (x3.Lateral, x3.Vertical, x3.Phase)) : Option ((Int × Int × Int) ⊕ (Bool)))))) : Option ((Int × Int × Int) ⊕ (Bool))).bind (onS fun (y1 : Int × Int × Int) => (((((some (.inl ()) : Option ((Unit) ⊕ ((Unit) ⊕ (Bool)))) : Option ((Unit) ⊕ ((Unit) ⊕ (Bool)))).bind (onS fun (_ : Unit) => (loopO (fun (s2 : Int × Int × Int × Int) => ((if ((decide (s2.1 < (a0.length : Int))) && (decide (s2.1 < (16 : Int)))) = true then (Option.bind ((if (0 : Int) ≤ s2.1 then (if s2.1 < (a0.length : Int) then ((m9 (⟨s2.2.1, s2.2.2.1, s2.2.2.2⟩ : T25) (a0.getD s2.1.toNat default)).bind fun r7_0 => some r7_0) else none) else none)) fun (x7 : ((T25 × (List (List UInt8)) × Int))) => (if (x7.2.2 == (0 : Int)) = true then (Option.bind (((if (!((((((decide (x7.1.Lateral < (1 : Int))) || (decide ((6 : Int) < x7.1.Lateral))) || (decide (x7.1.Vertical < (1 : Int)))) || (decide ((8 : Int) < x7.1.Vertical))) || (decide (x7.1.Phase < (1 : Int)))) || (decide ((8 : Int) < x7.1.Phase)))) = true then m10 x7.1 else some default).bind fun r12_0 => some r12_0)) fun (x12 : (Bool)) => (if (((((((decide (x7.1.Lateral < (1 : Int))) || (decide ((6 : Int) < x7.1.Lateral))) || (decide (x7.1.Vertical < (1 : Int)))) || (decide ((8 : Int) < x7.1.Vertical))) || (decide (x7.1.Phase < (1 : Int)))) || (decide ((8 : Int) < x7.1.Phase))) || (!x12)) = true then (some (.inr (.inr (false))) : Option ((Int × Int × Int × Int) ⊕ ((Unit) ⊕ (Bool)))) else (some (.inl ((IntKind.wrap .i64 (s2.1 + (1 : Int))), x7.1.Lateral, x7.1.Vertical, x7.1.Phase)) : Option ((Int × Int × Int × Int) ⊕ ((Unit) ⊕ (Bool)))))) else (if (x7.2.2 == (8 : Int)) = true then (some (.inr (.inr (false))) : Option ((Int × Int × Int × Int) ⊕ ((Unit) ⊕ (Bool)))) else (Option.bind (((if (!((((((decide (s2.2.1 < (1 : Int))) || (decide ((6 : Int) < s2.2.1))) || (decide (s2.2.2.1 < (1 : Int)))) || (decide ((8 : Int) < s2.2.2.1))) || (decide (s2.2.2.2 < (1 : Int)))) || (decide ((8 : Int) < s2.2.2.2)))) = true then m10 (⟨s2.2.1, s2.2.2.1, s2.2.2.2⟩ : T25) else some default).bind fun r12_0 => some r12_0)) fun (x12 : (Bool)) => (if (((((((decide (s2.2.1 < (1 : Int))) || (decide ((6 : Int) < s2.2.1))) || (decide (s2.2.2.1 < (1 : Int)))) || (decide ((8 : Int) < s2.2.2.1))) || (decide (s2.2.2.2 < (1 : Int)))) || (decide ((8 : Int) < s2.2.2.2))) || (!x12)) = true then (some (.inr (.inr (false))) : Option ((Int × Int × Int × Int) ⊕ ((Unit) ⊕ (Bool)))) else (some (.inl ((IntKind.wrap .i64 (s2.1 + (1 : Int))), s2.2.1, s2.2.2.1, s2.2.2.2)) : Option ((Int × Int × Int × Int) ⊕ ((Unit) ⊕ (Bool))))))))) else (some (.inr (.inl ())) : Option ((Int × Int × Int × Int) ⊕ ((Unit) ⊕ (Bool))))) : Option ((Int × Int × Int × Int) ⊕ ((Unit) ⊕ (Bool))))) ((0 : Int), y1.1, y1.2.1, y1.2.2)))) : Option ((Unit) ⊕ (Bool))).bind (onS fun (_ : Unit) => (some true : Option (Bool)))))) : Option (Bool)) := by kernel_rfl
theorem plain3 {a : List Int} (ha : a.length ≤ maxLen ∧ ∀ b ∈ a, (Lit.int .u32 b).wf = true) : m3 a = some true := by
  simp only [M3, bind_id, awake_true, Mo.start_eq]
  simp only [bs, Bool.not_true, Bool.false_eq_true, if_false, ol]
  refine loop_done (fun m s => ∃ (i l v p : Nat), s = ((i : Int), (l : Int), (v : Int), (p : Int)) ∧ m = a.length - i ∧ (1 ≤ l ∧ l ≤ 6) ∧ (1 ≤ v ∧ v ≤ 8) ∧ (1 ≤ p ∧ p ≤ 8)) a.length ⟨0, 1, 1, 1, rfl, by omega, by omega, by omega, by omega⟩ ?_ rfl
  · rintro m s ⟨i, l, v, p, rfl, rfl, l1, v1, p1⟩
    have hml := maxLen_le ha.1
    by_cases hi : i < a.length
    · by_cases hi16 : i < 16
      · left
        obtain ⟨b, eb, hb⟩ := u32_nat (ha.2 _ (getD_mem hi))
        have e := Step_eqM (l := l) (v := v) (p := p) (by omega) (by omega) (by omega) hb
        have hval : validN l v p = true := by simp only [validN, Bool.and_eq_true, decide_eq_true_eq]; omega
        have c1 : decide ((i : Int) < 16) = true := by simp; omega
        have w1 : IntKind.wrap .i64 ((i : Int) + 1) = ((i + 1 : Nat) : Int) := w64 (by omega) (by omega)
        have inR : ∀ {x y z : Int}, 1 ≤ x ∧ x ≤ 6 → 1 ≤ y ∧ y ≤ 8 → 1 ≤ z ∧ z ≤ 8 → ((((((decide (x < (1 : Int))) || (decide ((6 : Int) < x))) || (decide (y < (1 : Int)))) || (decide ((8 : Int) < y))) || (decide (z < (1 : Int)))) || (decide ((8 : Int) < z))) = false := fun hx hy hz => by
          simp only [Bool.or_eq_false_iff, decide_eq_false_iff_not]; omega
        by_cases h0 : (stepP l v p b).2.2 = 0
        · obtain ⟨_, _, _, hb19, a1, a2, a3, he⟩ := step_good h0
          obtain ⟨⟨r1, r2⟩, _⟩ := gol1 l1.1 l1.2 a1
          obtain ⟨⟨r3, r4⟩, _⟩ := gol2 v1.1 v1.2 a2
          obtain ⟨⟨r5, r6⟩, _⟩ := gol3 p1.1 p1.2 a3
          rw [he] at e
          generalize (goS C1 l (valS C1 b)).1.Leaf = x at *
          generalize (goS C2 v (valS C2 b)).1.Leaf = y at *
          generalize (goS C3 p (valS C3 b)).1.Leaf = z at *
          obtain ⟨x, rfl⟩ := Int.eq_ofNat_of_zero_le (show 0 ≤ x by omega)
          obtain ⟨y, rfl⟩ := Int.eq_ofNat_of_zero_le (show 0 ≤ y by omega)
          obtain ⟨z, rfl⟩ := Int.eq_ofNat_of_zero_le (show 0 ≤ z by omega)
          have hv2 : validN x y z = true := by simp only [validN, Bool.and_eq_true, decide_eq_true_eq]; omega
          have ev := Valid_eq (l := x) (v := y) (p := z) (by omega) (by omega) (by omega)
          rw [hv2] at ev
          refine ⟨(((i + 1 : Nat) : Int), (x : Int), (y : Int), (z : Int)), ?_, a.length - (i + 1), by omega, i + 1, x, y, z, rfl, rfl, by omega, by omega, by omega⟩
          simp only [c1, if_true, decide_true, Bool.and_self, inL hi, Int.toNat_natCast, eb, e, bs, beq_self_eq_true, inR (x := (x : Int)) (y := (y : Int)) (z := (z : Int)) (by omega) (by omega) (by omega), Bool.not_false, ev, Bool.not_true, Bool.or_false, Bool.false_or, Bool.false_eq_true, if_false, w1]
        · have ev := Valid_eq (l := l) (v := v) (p := p) (by omega) (by omega) (by omega)
          rw [hval] at ev
          have n0 : ((stepP l v p b).2.2 == (0 : Int)) = false := by simpa using h0
          have n8 : ((stepP l v p b).2.2 == (8 : Int)) = false := by
            rcases step_bad (b := b) hval with h | h | h
            · exact absurd h h0
            · rw [h]; rfl
            · rw [h]; rfl
          refine ⟨(((i + 1 : Nat) : Int), (l : Int), (v : Int), (p : Int)), ?_, a.length - (i + 1), by omega, i + 1, l, v, p, rfl, rfl, by omega, by omega, by omega⟩
          simp only [c1, if_true, decide_true, Bool.and_self, inL hi, Int.toNat_natCast, eb, e, bs, n0, n8, inR (x := (l : Int)) (y := (v : Int)) (z := (p : Int)) (by omega) (by omega) (by omega), Bool.not_false, ev, Bool.not_true, Bool.or_false, Bool.false_or, Bool.false_eq_true, if_false, w1]
      · right
        have c1 : (decide ((i : Int) < (a.length : Int)) && decide ((i : Int) < 16)) = false := by simp; omega
        simp only [c1, Bool.false_eq_true, if_false]
    · right
      have c1 : (decide ((i : Int) < (a.length : Int)) && decide ((i : Int) < 16)) = false := by simp; omega
      simp only [c1, Bool.false_eq_true, if_false]
def Mo.rev : List UInt8 := [76, 65, 84, 82, 69, 86]
def Mo.tells (l : List (List UInt8)) : Bool := l.any fun x => x == rev
theorem Mo.rr1 : allBy C1 (leavesS C1) [(3, false)] (fun _ r => !(r.1.Leaf == 4) && !(r.1.Leaf == 5)) = true := by kernel_rfl
theorem Mo.rr2 : allBy C2 (leavesS C2) [(1, false), (8, false)] (fun _ r => !(r.1.Leaf == 6) && !(r.1.Leaf == 7)) = true := by kernel_rfl
theorem Mo.rt1 : allBy C1 [3, 4, 5] [(3, false), (0, false), (6, false), (1, false)] (fun _ r => tells r.2.1) = true := by kernel_rfl
theorem Mo.rt2 : allBy C1 [1, 2, 6] [(3, false)] (fun _ r => !tells r.2.1) = true := by kernel_rfl
theorem Mo.rt3 : allBy C1 (leavesS C1) [(0, true)] (fun _ r => !tells r.2.1) = true := by kernel_rfl
theorem Mo.rt4 : allBy C1 (leavesS C1) [(6, true)] (fun _ r => !tells r.2.1) = true := by kernel_rfl
theorem Mo.rt5 : allBy C1 (leavesS C1) [(1, true)] (fun _ r => !tells r.2.1) = true := by kernel_rfl
theorem Mo.rt6 : allBy C2 (leavesS C2) [] (fun _ r => !tells r.2.1) = true := by kernel_rfl
theorem Mo.rt7 : allBy C3 (leavesS C3) [] (fun _ r => !tells r.2.1) = true := by kernel_rfl
theorem Mo.no_bit (q : (Nat × Bool)) (h : q ∈ ([] : List (Nat × Bool))) {v : Int} : bitV v q.1 = q.2 := by cases h
theorem Mo.clear32 {b : Nat} (hb : b < 4294967296) : ∃ d : Nat, IntKind.wrap .u32 (((BitVec.ofInt (IntKind.bits .u32) (b : Int)) &&& ~~~(BitVec.ofInt (IntKind.bits .u32) (2056 : Int))).toNat : Int) = (d : Int) ∧ d < 4294967296 ∧ d.testBit 3 = false ∧ d.testBit 11 = false := by
  have e1 : ((BitVec.ofInt (IntKind.bits .u32) (b : Int)) &&& ~~~(BitVec.ofInt (IntKind.bits .u32) (2056 : Int))).toNat = b &&& 4294965239 := by
    rw [BitVec.toNat_and, bv32 hb]
    show (BitVec.ofNat 32 b).toNat &&& _ = _
    rw [BitVec.toNat_ofNat, Nat.mod_eq_of_lt hb]
    rfl
  rw [e1]
  have hlt : b &&& 4294965239 < 4294967296 := Nat.lt_of_le_of_lt Nat.and_le_left hb
  refine ⟨b &&& 4294965239, n32 hlt, hlt, ?_, ?_⟩ <;> (rw [Nat.testBit_and]; simp only [show (4294965239 : Nat).testBit 3 = false from by decide, show (4294965239 : Nat).testBit 11 = false from by decide, Bool.and_false])
theorem Mo.quiet67 {d : Nat} (hd : d < 4294967296) : (IntKind.wrap .u32 (((BitVec.ofInt (IntKind.bits .u32) (d : Int)) &&& (BitVec.ofInt (IntKind.bits .u32) (67 : Int))).toNat : Int) == (0 : Int)) = (!d.testBit 0 && !d.testBit 1 && !d.testBit 6) := by
  have h := and32 hd (m := 67) (by omega)
  rw [show ((67 : Nat) : Int) = 67 from rfl] at h
  rw [h, Bool.eq_iff_iff]
  simp only [beq_iff_eq, Bool.and_eq_true, Bool.not_eq_true']
  have hz : ((d &&& 67 : Nat) : Int) = 0 ↔ d &&& 67 = 0 := by omega
  rw [hz]
  constructor
  · intro h0
    have hj : ∀ j, (67 : Nat).testBit j = true → d.testBit j = false := fun j hj => by
      have := congrArg (fun n => Nat.testBit n j) h0
      simp only [Nat.testBit_and, hj, Bool.and_true, Nat.zero_testBit] at this
      exact this
    exact ⟨⟨hj 0 (by decide), hj 1 (by decide)⟩, hj 6 (by decide)⟩
  · rintro ⟨⟨h0, h1⟩, h6⟩
    apply Nat.eq_of_testBit_eq
    intro j
    rw [Nat.testBit_and, Nat.zero_testBit]
    by_cases hj : j < 7
    · have : j = 0 ∨ j = 1 ∨ j = 2 ∨ j = 3 ∨ j = 4 ∨ j = 5 ∨ j = 6 := by omega
      rcases this with rfl | rfl | rfl | rfl | rfl | rfl | rfl
      · rw [h0]; rfl
      · rw [h1]; rfl
      · rw [show (67 : Nat).testBit 2 = false from by decide, Bool.and_false]
      · rw [show (67 : Nat).testBit 3 = false from by decide, Bool.and_false]
      · rw [show (67 : Nat).testBit 4 = false from by decide, Bool.and_false]
      · rw [show (67 : Nat).testBit 5 = false from by decide, Bool.and_false]
      · rw [h6]; rfl
    · rw [Nat.testBit_lt_two_pow (x := 67) (i := j) (Nat.lt_of_lt_of_le (show 67 < 2 ^ 7 by decide) (Nat.pow_le_pow_right (by omega) (by omega))), Bool.and_false]
theorem Mo.tells_loop {l : List (List UInt8)} (hl : l.length ≤ 1000000) {b : Bool × Int → Option ((Bool × Int) ⊕ (Bool ⊕ Bool))} (hb : ∀ (x : Bool) (i : Nat), i < l.length → b (x, (i : Int)) = some (.inl (x || (l.getD i default == rev), ((i + 1 : Nat) : Int)))) (he : ∀ x, b (x, (l.length : Int)) = some (.inr (.inl x))) :
    loopO b (false, 0) = some (.inl (tells l)) := by
  have h := loop_st l.length (fun i => (tells (l.take i), (i : Int))) (b := b) (.inl (tells l)) (fun i hi => ?_) (by rw [List.take_length]; exact he _)
  · exact h
  · have e : tells (l.take (i + 1)) = (tells (l.take i) || (l.getD i default == rev)) := by
      unfold tells
      rw [List.take_add_one, List.any_append, List.getD_eq_getElem?_getD, List.getElem?_eq_getElem hi]
      simp
    rw [hb _ i hi, e]
theorem M5 (a0 : T25) (a1 : Int) : m5 a0 a1 = ((((Option.bind (Option.bind (m7) fun r => some r) fun x1 => (if (!x1) = true then (some (.inr (false)) : Option (((List (List UInt8))) ⊕ (Bool))) else (Option.bind (Option.bind (m9 a0 (IntKind.wrap .u32 ((((BitVec.ofInt (IntKind.bits .u32) a1) &&& ~~~(BitVec.ofInt (IntKind.bits .u32) (2056 : Int))).toNat : Int)))) fun r => some r) fun x4 => (if (x4.2.2 != (0 : Int)) = true then (some (.inr (true)) : Option (((List (List UInt8))) ⊕ (Bool))) else (if ((((x4.1.Lateral == (4 : Int)) || (x4.1.Lateral == (5 : Int))) || (x4.1.Vertical == (6 : Int))) || (x4.1.Vertical == (7 : Int))) = true then (some (.inr (false)) : Option (((List (List UInt8))) ⊕ (Bool))) else (some (.inl x4.2.1) : Option (((List (List UInt8))) ⊕ (Bool)))))))) : Option (((List (List UInt8))) ⊕ (Bool))).bind (onS fun (y1 : (List (List UInt8))) => (((((some (.inl ()) : Option ((Unit) ⊕ ((Bool) ⊕ (Bool)))) : Option ((Unit) ⊕ ((Bool) ⊕ (Bool)))).bind (onS fun (_ : Unit) => (loopO (fun (s2 : Bool × Int) => ((if (decide (s2.2 < (y1.length : Int))) = true then (if ((0 : Int) ≤ s2.2) then (if (s2.2 < (y1.length : Int)) then (some (.inl ((s2.1 || ((y1.getD s2.2.toNat default) == ([76, 65, 84, 82, 69, 86] : List UInt8))), (IntKind.wrap .i64 (s2.2 + (1 : Int))))) : Option ((Bool × Int) ⊕ ((Bool) ⊕ (Bool)))) else none) else none) else (some (.inr (.inl s2.1)) : Option ((Bool × Int) ⊕ ((Bool) ⊕ (Bool))))) : Option ((Bool × Int) ⊕ ((Bool) ⊕ (Bool))))) (false, (0 : Int))))) : Option ((Bool) ⊕ (Bool))).bind (onS fun (y3 : Bool) => (some (y3 == (((IntKind.wrap .u32 ((((BitVec.ofInt (IntKind.bits .u32) (IntKind.wrap .u32 ((((BitVec.ofInt (IntKind.bits .u32) a1) &&& ~~~(BitVec.ofInt (IntKind.bits .u32) (2056 : Int))).toNat : Int)))) &&& (BitVec.ofInt (IntKind.bits .u32) (67 : Int))).toNat : Int))) == (0 : Int)) && (((a0.Lateral == (3 : Int)) || (a0.Lateral == (4 : Int))) || (a0.Lateral == (5 : Int))))) : Option (Bool)))))) : Option (Bool)) := by kernel_rfl
theorem plain5 {s : T25} {c : Int} (hs : ok25 s) (hc : (Lit.int .u32 c).wf = true) : m5 s c = some true := by
  obtain ⟨l, v, p, rfl, hl, hv, hp⟩ := ok_state hs
  obtain ⟨b, rfl, hb⟩ := u32_nat hc
  obtain ⟨d, ed, hd, d3, d11⟩ := clear32 hb
  simp only [M5, bind_id, awake_true, bs, ed, Step_eqM hl hv hp hd, quiet67 hd, Bool.not_true, Bool.false_eq_true, if_false]
  by_cases h0 : (stepP l v p d).2.2 = 0
  · obtain ⟨⟨l1, l2⟩, ⟨v1, v2⟩, ⟨p1, p2⟩, hb19, a1, a2, a3, he⟩ := step_good h0
    have s1 := go1 l1 l2 a1
    have s2 := go2 v1 v2 a2
    have s3 := go3 p1 p2 a3
    have m1 := mem1 l1 l2
    have m2 := mem2 v1 v2
    have m3 := mem3 p1 p2
    have g1 := (gol1 l1 l2 a1).2
    have g2 := (gol2 v1 v2 a2).2
    have g3 := (gol3 p1 p2 a3).2
    have q1 : (!((goS C1 l (valS C1 d)).1.Leaf == 4) && !((goS C1 l (valS C1 d)).1.Leaf == 5)) = true := by_all rr1 m1 s1 rfl (fun q hq => by simp only [List.mem_singleton] at hq; subst hq; rw [bit1_READY]; exact d3)
    have q2 : (!((goS C2 v (valS C2 d)).1.Leaf == 6) && !((goS C2 v (valS C2 d)).1.Leaf == 7)) = true := by_all rr2 m2 s2 rfl (fun q hq => by
      simp only [List.mem_cons, List.not_mem_nil, or_false] at hq
      rcases hq with rfl | rfl
      · rw [bit2_READY]; exact d3
      · rw [bit2_TAKE]; exact d11)
    have t2 : (!tells (goS C2 v (valS C2 d)).2.1) = true := by_all rt6 m2 s2 rfl (fun q hq => no_bit q hq)
    have t3 : (!tells (goS C3 p (valS C3 d)).2.1) = true := by_all rt7 m3 s3 rfl (fun q hq => no_bit q hq)
    have t1 : tells (goS C1 l (valS C1 d)).2.1 = ((!d.testBit 0 && !d.testBit 1 && !d.testBit 6) && (((((l : Int) == 3) || ((l : Int) == 4))) || ((l : Int) == 5))) := by
      cases b0 : d.testBit 0 with
      | true => simpa using (by_all rt3 m1 s1 rfl (fun q hq => by simp only [List.mem_singleton] at hq; subst hq; rw [bit1_GROUND]; exact b0) : (!tells (goS C1 l (valS C1 d)).2.1) = true)
      | false =>
        cases b1 : d.testBit 1 with
        | true => simpa using (by_all rt5 m1 s1 rfl (fun q hq => by simp only [List.mem_singleton] at hq; subst hq; rw [bit1_HEADING]; exact b1) : (!tells (goS C1 l (valS C1 d)).2.1) = true)
        | false =>
          cases b6 : d.testBit 6 with
          | true => simpa using (by_all rt4 m1 s1 rfl (fun q hq => by simp only [List.mem_singleton] at hq; subst hq; rw [bit1_GO]; exact b6) : (!tells (goS C1 l (valS C1 d)).2.1) = true)
          | false =>
            have hcs : l = 1 ∨ l = 2 ∨ l = 3 ∨ l = 4 ∨ l = 5 ∨ l = 6 := by omega
            by_cases h345 : l = 3 ∨ l = 4 ∨ l = 5
            · have hm : (l : Int) ∈ ([3, 4, 5] : List Int) := by rcases h345 with rfl | rfl | rfl <;> simp
              have h := (by_all rt1 hm s1 rfl (fun q hq => by
                simp only [List.mem_cons, List.not_mem_nil, or_false] at hq
                rcases hq with rfl | rfl | rfl | rfl
                · rw [bit1_READY]; exact d3
                · rw [bit1_GROUND]; exact b0
                · rw [bit1_GO]; exact b6
                · rw [bit1_HEADING]; exact b1) : tells (goS C1 l (valS C1 d)).2.1 = true)
              rw [h]
              rcases h345 with rfl | rfl | rfl <;> rfl
            · have hm : (l : Int) ∈ ([1, 2, 6] : List Int) := by
                have : l = 1 ∨ l = 2 ∨ l = 6 := by omega
                rcases this with rfl | rfl | rfl <;> simp
              have h := (by_all rt2 hm s1 rfl (fun q hq => by simp only [List.mem_singleton] at hq; subst hq; rw [bit1_READY]; exact d3) : (!tells (goS C1 l (valS C1 d)).2.1) = true)
              have h : tells (goS C1 l (valS C1 d)).2.1 = false := by simpa using h
              rw [h]
              have : l = 1 ∨ l = 2 ∨ l = 6 := by omega
              rcases this with rfl | rfl | rfl <;> rfl
    have t2 : tells (goS C2 v (valS C2 d)).2.1 = false := by simpa using t2
    have t3 : tells (goS C3 p (valS C3 d)).2.1 = false := by simpa using t3
    have q3 : (((((goS C1 l (valS C1 d)).1.Leaf == 4) || ((goS C1 l (valS C1 d)).1.Leaf == 5)) || ((goS C2 v (valS C2 d)).1.Leaf == 6)) || ((goS C2 v (valS C2 d)).1.Leaf == 7)) = false := by
      simp only [Bool.and_eq_true, Bool.not_eq_true'] at q1 q2
      simp only [q1.1, q1.2, q2.1, q2.2, Bool.or_self]
    have hlen : ((goS C1 l (valS C1 d)).2.1 ++ (goS C2 v (valS C2 d)).2.1 ++ (goS C3 p (valS C3 d)).2.1).length ≤ 1000000 := by simp only [List.length_append]; omega
    have hall : tells ((goS C1 l (valS C1 d)).2.1 ++ (goS C2 v (valS C2 d)).2.1 ++ (goS C3 p (valS C3 d)).2.1) = tells (goS C1 l (valS C1 d)).2.1 := by
      unfold tells at t2 t3 ⊢
      rw [List.any_append, List.any_append, t2, t3, Bool.or_false, Bool.or_false]
    rw [he]
    simp only [bne_self_eq_false, Bool.false_eq_true, if_false, q3, bs, ol]
    generalize (goS C1 l (valS C1 d)).2.1 ++ (goS C2 v (valS C2 d)).2.1 ++ (goS C3 p (valS C3 d)).2.1 = ev at *
    refine on_l (tells_loop hlen (fun x i hi => ?_) (fun x => by (simp only [lt_irr, decide_false, Bool.false_eq_true, if_false]; try rfl))) ?_
    · simp only [inL hi, decide_true, Int.toNat_natCast, if_true, wr1 hi (by omega)]; rfl
    · rw [hall, t1]; simp
  · have : ((stepP l v p d).2.2 != (0 : Int)) = true := by simpa using h0
    simp only [this, if_true, bs, or_]
theorem M6 (a0 a1 : Int) : m6 a0 a1 = ((((Option.bind (Option.bind (m7) fun r => some r) fun x1 => (if (!x1) = true then (some (.inr (false)) : Option ((Int × (List UInt8) × (List (List UInt8)) × (List (List T111)) × (List T107) × Int × (List T73)) ⊕ (Bool))) else (if ((3 : Int) ≠ 0) then (Option.bind (Option.bind (m11 (IntKind.wrap .i64 ((Int.tmod (IntKind.wrap .i64 (a0)) (3 : Int)) + (1 : Int)))) fun r => some r) fun x4 => (if (x4.2 != (0 : Int)) = true then (some (.inr (false)) : Option ((Int × (List UInt8) × (List (List UInt8)) × (List (List T111)) × (List T107) × Int × (List T73)) ⊕ (Bool))) else (if ((0 : Int) ≤ (x4.1.Conds.length : Int)) then (some (.inl ((IntKind.wrap .u16 ((((BitVec.ofInt (IntKind.bits .u16) a1) &&& (BitVec.ofInt (IntKind.bits .u16) (IntKind.wrap .u16 ((IntKind.wrap .u16 ((1 : Int) * 2 ^ (min (x4.1.Conds.length : Int).toNat (IntKind.bits .u16)))) - (1 : Int))))).toNat : Int))), x4.1.Name, x4.1.Conds, x4.1.Never, x4.1.States, x4.1.Start, x4.1.Transitions)) : Option ((Int × (List UInt8) × (List (List UInt8)) × (List (List T111)) × (List T107) × Int × (List T73)) ⊕ (Bool))) else none))) else none))) : Option ((Int × (List UInt8) × (List (List UInt8)) × (List (List T111)) × (List T107) × Int × (List T73)) ⊕ (Bool))).bind (onS fun (y1 : Int × (List UInt8) × (List (List UInt8)) × (List (List T111)) × (List T107) × Int × (List T73)) => (((((Option.bind (Option.bind (m12 (⟨y1.2.1, y1.2.2.1, y1.2.2.2.1, y1.2.2.2.2.1, y1.2.2.2.2.2.1, y1.2.2.2.2.2.2⟩ : T40)) fun r => some r) fun x8 => (some (.inl (x8, (x8.length : Int))) : Option (((List Int) × Int) ⊕ ((Unit) ⊕ (Bool))))) : Option (((List Int) × Int) ⊕ ((Unit) ⊕ (Bool)))).bind (onS fun (y2 : (List Int) × Int) => (loopO (fun (s3 : Int) => ((if (decide (s3 < y2.2)) = true then (if ((0 : Int) ≤ s3) then (if (s3 < (y2.1.length : Int)) then (Option.bind (((m13 (⟨y1.2.1, y1.2.2.1, y1.2.2.2.1, y1.2.2.2.2.1, y1.2.2.2.2.2.1, y1.2.2.2.2.2.2⟩ : T40) y1.1).bind fun r11_0 => ((if r11_0 = true then m14 (⟨y1.2.1, y1.2.2.1, y1.2.2.2.1, y1.2.2.2.2.1, y1.2.2.2.2.2.1, y1.2.2.2.2.2.2⟩ : T40) (y2.1.getD s3.toNat default) y1.1 else some default).bind fun r11_1 => some (r11_0, r11_1)))) fun (x11 : (Bool × (List Int))) => (if (x11.1 && ((x11.2.length : Int) != (1 : Int))) = true then (some (.inr (.inr (false))) : Option ((Int) ⊕ ((Unit) ⊕ (Bool)))) else (some (.inl (IntKind.wrap .i64 (s3 + (1 : Int)))) : Option ((Int) ⊕ ((Unit) ⊕ (Bool)))))) else none) else none) else (some (.inr (.inl ())) : Option ((Int) ⊕ ((Unit) ⊕ (Bool))))) : Option ((Int) ⊕ ((Unit) ⊕ (Bool))))) (0 : Int)))) : Option ((Unit) ⊕ (Bool))).bind (onS fun (_ : Unit) => (Option.bind (((m12 (⟨y1.2.1, y1.2.2.1, y1.2.2.2.1, y1.2.2.2.2.1, y1.2.2.2.2.2.1, y1.2.2.2.2.2.2⟩ : T40)).bind fun r14_0 => (if (0 : Int) ≤ (IntKind.wrap .i64 ((Int.tmod (IntKind.wrap .i64 (a0)) (3 : Int)) + (1 : Int))) then (if (IntKind.wrap .i64 ((Int.tmod (IntKind.wrap .i64 (a0)) (3 : Int)) + (1 : Int))) < (4 : Int) then some r14_0 else none) else none))) fun (x14 : ((List Int))) => (some ((x14.length : Int) == ([(0 : Int), (6 : Int), (8 : Int), (8 : Int)].getD (IntKind.wrap .i64 ((Int.tmod (IntKind.wrap .i64 (a0)) (3 : Int)) + (1 : Int))).toNat 0)) : Option (Bool))))))) : Option (Bool)) := by kernel_rfl
theorem Mo.eta (x : T40) : (⟨x.Name, x.Conds, x.Never, x.States, x.Start, x.Transitions⟩ : T40) = x := Eq.mpr rfl rfl
theorem Mo.charts_of {c : T40} (H : Fit c) {a0 a1 : Int} {ax : Int} (hax : IntKind.wrap .i64 ((Int.tmod (IntKind.wrap .i64 a0) (3 : Int)) + (1 : Int)) = ax) (h1 : 0 ≤ ax) (h4 : ax < 4) (hr : m11 ax = some (c, 0)) {n k : Nat} (hn : c.Conds.length = n) (hn16 : n < 16)
    (hv : ∃ v : Nat, IntKind.wrap .u16 (((BitVec.ofInt (IntKind.bits .u16) a1) &&& (BitVec.ofInt (IntKind.bits .u16) (IntKind.wrap .u16 ((IntKind.wrap .u16 ((1 : Int) * 2 ^ (min (n : Int).toNat (IntKind.bits .u16)))) - (1 : Int))))).toNat : Int) = (v : Int) ∧ v < 2 ^ n)
    (one : ∀ v : Nat, v < 2 ^ n → ∀ leaf ∈ leavesS c, allowedS c (v : Int) = true → (enabledS c leaf (v : Int)).length = 1) (hL : (leavesS c).length = k) (hk : ([(0 : Int), (6 : Int), (8 : Int), (8 : Int)].getD ax.toNat 0) = (k : Int)) :
    m6 a0 a1 = some true := by
  obtain ⟨v, ev, hv⟩ := hv
  have hl : (leavesS c).length ≤ 1000 := by
    have := flatMap_len (leafG_len c) c.States.length
    have h2 := H.states
    unfold leavesS; omega
  have c0 : (0 : Int) ≤ (n : Int) := by omega
  simp only [M6, bind_id, awake_true, bs, Bool.not_true, Bool.false_eq_true, if_false, hax, hr, bne_self_eq_false, hn, c0, if_true, ev, ol, eta, show ((3 : Int) ≠ 0) = True from by simp, Leaves_eq c H]
  refine loop_pass (leavesS c).length (fun i hi => ?_) (by (simp only [lt_irr, decide_false, Bool.false_eq_true, if_false]; try rfl)) ?_
  · have hm : (leavesS c).getD i default ∈ leavesS c := getD_mem hi
    have e1 := one v hv _ hm
    cases ha : allowedS c (v : Int) with
    | false => simp only [inL hi, decide_true, Int.toNat_natCast, if_true, wr1 hi (by omega), Allowed_eq c H, ha, bs, Bool.false_eq_true, if_false, Bool.false_and]
    | true => simp only [inL hi, decide_true, Int.toNat_natCast, if_true, wr1 hi (by omega), Allowed_eq c H, Enabled_eq c H, ha, bs, e1 ha, Bool.true_and, show (((1 : Nat) : Int) != 1) = false from rfl, Bool.false_eq_true, if_false]
  · simp only [h1, h4, if_true, bs, hL, hk, beq_self_eq_true]
theorem Mo.mask_low {n : Nat} (hn : n < 16) {a : Nat} (ha : a < 65536) : ∃ v : Nat, IntKind.wrap .u16 (((BitVec.ofInt (IntKind.bits .u16) (a : Int)) &&& (BitVec.ofInt (IntKind.bits .u16) (IntKind.wrap .u16 ((IntKind.wrap .u16 ((1 : Int) * 2 ^ (min (n : Int).toNat (IntKind.bits .u16)))) - (1 : Int))))).toNat : Int) = (v : Int) ∧ v < 2 ^ n := by
  have hp : 2 ^ n < 65536 := Nat.pow_lt_pow_right (a := 2) (m := n) (n := 16) (by omega) hn
  have h0 := Nat.two_pow_pos n
  rw [Int.toNat_natCast, shl16 hn, show ((2 ^ n : Nat) : Int) - 1 = ((2 ^ n - 1 : Nat) : Int) by omega, n16 (n := 2 ^ n - 1) (by omega), and16 ha (by omega)]
  exact ⟨_, rfl, Nat.lt_of_le_of_lt Nat.and_le_right (by omega)⟩
theorem plain6 {a b : Int} (ha : (Lit.int .u8 a).wf = true) (hb : (Lit.int .u16 b).wf = true) : m6 a b = some true := by
  obtain ⟨a, rfl, ha'⟩ := u8_nat ha
  obtain ⟨b, rfl, hb'⟩ := u16_nat hb
  have w : IntKind.wrap .i64 (a : Int) = (a : Int) := w64 (by omega) (by omega)
  have hax : IntKind.wrap .i64 ((Int.tmod (IntKind.wrap .i64 (a : Int)) (3 : Int)) + (1 : Int)) = ((a % 3 + 1 : Nat) : Int) := by
    rw [w, Int.tmod_eq_emod_of_nonneg (by omega)]
    have : ((a : Int) % 3 + 1) = ((a % 3 + 1 : Nat) : Int) := by omega
    rw [this]
    exact w64 (by omega) (by omega)
  have hcs : a % 3 = 0 ∨ a % 3 = 1 ∨ a % 3 = 2 := by omega
  rcases hcs with h | h | h
  · rw [h] at hax
    exact charts_of fit1 hax (by decide) (by decide) Mo.read1 (n := 7) (k := 6) rfl (by omega) (mask_low (by omega) hb') (fun v hv leaf hl ha => one1 hv hl ha) (by rw [lea1]; rfl) rfl
  · rw [h] at hax
    exact charts_of fit2 hax (by decide) (by decide) Mo.read2 (n := 11) (k := 8) rfl (by omega) (mask_low (by omega) hb') (fun v hv leaf hl ha => one2 hv hl ha) (by rw [lea2]; rfl) rfl
  · rw [h] at hax
    exact charts_of fit3 hax (by decide) (by decide) Mo.read3 (n := 8) (k := 8) rfl (by omega) (mask_low (by omega) hb') (fun v hv leaf hl ha => one3 hv hl ha) (by rw [lea3]; rfl) rfl
end Go.Av
