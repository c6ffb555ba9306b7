/- Bits of words. -/
import Derived.Test.YtlpdcjbkbcmahaaGreatDoorPl
set_option linter.unusedVariables false
set_option linter.unusedSimpArgs false
namespace Go.Av
theorem n16 {n : Nat} (h : n < 65536) : IntKind.wrap .u16 (n : Int) = (n : Int) := IntWalk.u16_in _ (by omega)
theorem n32 {n : Nat} (h : n < 4294967296) : IntKind.wrap .u32 (n : Int) = (n : Int) := IntWalk.u32_in _ (by omega)
theorem bv16 {n : Nat} (h : n < 65536) : (BitVec.ofInt (IntKind.bits .u16) (n : Int)) = BitVec.ofNat 16 n := by show BitVec.ofInt 16 (n : Int) = _; rw [BitVec.ofInt_natCast]
theorem bv32 {n : Nat} (h : n < 4294967296) : (BitVec.ofInt (IntKind.bits .u32) (n : Int)) = BitVec.ofNat 32 n := by show BitVec.ofInt 32 (n : Int) = _; rw [BitVec.ofInt_natCast]
theorem or16 {n m : Nat} (hn : n < 65536) (hm : m < 65536) : IntKind.wrap .u16 (((BitVec.ofInt (IntKind.bits .u16) (n : Int)) ||| (BitVec.ofInt (IntKind.bits .u16) (m : Int))).toNat : Int) = ((n ||| m : Nat) : Int) := by
  have e : ((BitVec.ofInt (IntKind.bits .u16) (n : Int)) ||| (BitVec.ofInt (IntKind.bits .u16) (m : Int))).toNat = n ||| m := by
    rw [BitVec.toNat_or, bv16 hn, bv16 hm]
    show (BitVec.ofNat 16 n).toNat ||| (BitVec.ofNat 16 m).toNat = _
    rw [BitVec.toNat_ofNat, BitVec.toNat_ofNat, Nat.mod_eq_of_lt hn, Nat.mod_eq_of_lt hm]
  rw [e]
  exact n16 (Nat.or_lt_two_pow (n := 16) hn hm)
theorem and16 {n m : Nat} (hn : n < 65536) (hm : m < 65536) : IntKind.wrap .u16 (((BitVec.ofInt (IntKind.bits .u16) (n : Int)) &&& (BitVec.ofInt (IntKind.bits .u16) (m : Int))).toNat : Int) = ((n &&& m : Nat) : Int) := by
  have e : ((BitVec.ofInt (IntKind.bits .u16) (n : Int)) &&& (BitVec.ofInt (IntKind.bits .u16) (m : Int))).toNat = n &&& m := by
    rw [BitVec.toNat_and, bv16 hn, bv16 hm]
    show (BitVec.ofNat 16 n).toNat &&& (BitVec.ofNat 16 m).toNat = _
    rw [BitVec.toNat_ofNat, BitVec.toNat_ofNat, Nat.mod_eq_of_lt hn, Nat.mod_eq_of_lt hm]
  rw [e]
  exact n16 (Nat.lt_of_le_of_lt Nat.and_le_left hn)
theorem and32 {n m : Nat} (hn : n < 4294967296) (hm : m < 4294967296) : IntKind.wrap .u32 (((BitVec.ofInt (IntKind.bits .u32) (n : Int)) &&& (BitVec.ofInt (IntKind.bits .u32) (m : Int))).toNat : Int) = ((n &&& m : Nat) : Int) := by
  have e : ((BitVec.ofInt (IntKind.bits .u32) (n : Int)) &&& (BitVec.ofInt (IntKind.bits .u32) (m : Int))).toNat = n &&& m := by
    rw [BitVec.toNat_and, bv32 hn, bv32 hm]
    show (BitVec.ofNat 32 n).toNat &&& (BitVec.ofNat 32 m).toNat = _
    rw [BitVec.toNat_ofNat, BitVec.toNat_ofNat, Nat.mod_eq_of_lt hn, Nat.mod_eq_of_lt hm]
  rw [e]
  exact n32 (Nat.lt_of_le_of_lt Nat.and_le_left hn)
theorem fdiv_pow {n k B : Nat} (hk : k ≤ B) : (n : Int).fdiv (2 ^ (min k B)) = ((n / 2 ^ k : Nat) : Int) := by
  have e1 : min k B = k := by omega
  rw [e1, Int.fdiv_eq_ediv_of_nonneg _ (Int.le_of_lt (Int.pow_pos (by omega)))]
  push_cast
  rfl
/-- A bit of a word of 32. -/
def bitW (v : Int) (k : Nat) : Bool := IntKind.wrap .u32 (((BitVec.ofInt (IntKind.bits .u32) (Int.fdiv v (2 ^ (min k (IntKind.bits .u32))))) &&& (BitVec.ofInt (IntKind.bits .u32) 1)).toNat : Int) == 1
theorem bitW_eq {n k : Nat} (hn : n < 4294967296) (hk : k ≤ 32) : bitW (n : Int) k = n.testBit k := by
  unfold bitW
  rw [show IntKind.bits .u32 = 32 from rfl, fdiv_pow hk]
  have h2 : n / 2 ^ k < 4294967296 := Nat.lt_of_le_of_lt (Nat.div_le_self _ _) hn
  have := and32 h2 (show 1 < 4294967296 by omega)
  rw [show ((1 : Nat) : Int) = 1 from rfl, show IntKind.bits .u32 = 32 from rfl] at this
  rw [this, Nat.and_one_is_mod, Nat.testBit_eq_decide_div_mod_eq, Bool.eq_iff_iff, beq_iff_eq, decide_eq_true_eq]
  omega
theorem shl16 {i : Nat} (hi : i < 16) : IntKind.wrap .u16 ((1 : Int) * 2 ^ (min i (IntKind.bits .u16))) = ((2 ^ i : Nat) : Int) := by
  have e1 : min i (IntKind.bits .u16) = i := by show min i 16 = i; omega
  rw [e1, Int.one_mul]
  have h : 2 ^ i < 65536 := Nat.pow_lt_pow_right (a := 2) (m := i) (n := 16) (by omega) hi
  have e2 : ((2 : Int) ^ i) = ((2 ^ i : Nat) : Int) := by push_cast; rfl
  rw [e2]
  exact n16 h
/-- Bits of b, from the places ps, put together. -/
def valF (p : Nat → Nat) (b : Nat) : Nat → Nat
  | 0 => 0
  | n + 1 => if b.testBit (p n) = true then valF p b n ||| 2 ^ n else valF p b n
theorem valF_bit (p : Nat → Nat) (b : Nat) : ∀ n j, (valF p b n).testBit j = (decide (j < n) && b.testBit (p j))
  | 0, j => by simp [valF]
  | n + 1, j => by
    unfold valF
    have ih := valF_bit p b n j
    by_cases h : b.testBit (p n) = true
    · rw [if_pos h, Nat.testBit_or, ih, Nat.testBit_two_pow]
      by_cases e : j = n
      · subst e; simp [h]
      · have e1 : decide (n = j) = false := by simp; omega
        have e2 : decide (j < n + 1) = decide (j < n) := by rw [decide_eq_decide]; omega
        rw [e1, e2, Bool.or_false]
    · rw [if_neg h, ih]
      by_cases e : j = n
      · subst e; simp [h]
      · have e2 : decide (j < n + 1) = decide (j < n) := by rw [decide_eq_decide]; omega
        rw [e2]
theorem valF_lt (p : Nat → Nat) (b n : Nat) : valF p b n < 2 ^ n := by
  apply Nat.lt_pow_two_of_testBit
  intro i hi
  rw [valF_bit]
  have : ¬ i < n := by omega
  simp [this]
theorem u32_nat {v : Int} (h : (Lit.int .u32 v).wf = true) : ∃ n : Nat, v = n ∧ n < 4294967296 := by
  simp [Lit.wf, IntKind.min, IntKind.max, IntKind.signed, IntKind.bits] at h
  exact ⟨v.toNat, by omega, by omega⟩
theorem u8_nat {v : Int} (h : (Lit.int .u8 v).wf = true) : ∃ n : Nat, v = n ∧ n < 256 := by
  simp [Lit.wf, IntKind.min, IntKind.max, IntKind.signed, IntKind.bits] at h
  exact ⟨v.toNat, by omega, by omega⟩
theorem u16_nat {v : Int} (h : (Lit.int .u16 v).wf = true) : ∃ n : Nat, v = n ∧ n < 65536 := by
  simp [Lit.wf, IntKind.min, IntKind.max, IntKind.signed, IntKind.bits] at h
  exact ⟨v.toNat, by omega, by omega⟩
theorem and_pow {n k : Nat} : n &&& 2 ^ k = if n.testBit k = true then 2 ^ k else 0 := by
  apply Nat.eq_of_testBit_eq
  intro j
  rw [Nat.testBit_and, Nat.testBit_two_pow]
  by_cases e : k = j
  · subst e
    cases h : n.testBit k <;> simp
  · have : decide (k = j) = false := by simpa using e
    rw [this, Bool.and_false]
    split
    · rw [Nat.testBit_two_pow, this]
    · simp
/-- A bit is set. -/
theorem and_bit32 {n k : Nat} (hn : n < 4294967296) (hk : k < 32) : (IntKind.wrap .u32 (((BitVec.ofInt (IntKind.bits .u32) (n : Int)) &&& (BitVec.ofInt (IntKind.bits .u32) ((2 ^ k : Nat) : Int))).toNat : Int) != 0) = n.testBit k := by
  have h2 : 2 ^ k < 4294967296 := Nat.pow_lt_pow_right (a := 2) (m := k) (n := 32) (by omega) hk
  rw [and32 hn h2, and_pow]
  have : 0 < 2 ^ k := Nat.two_pow_pos k
  cases n.testBit k
  · rfl
  · simp only [if_true, bne_iff_ne, ne_eq]
    omega
/- The steps of a model, told so that the kernel does not look for them by itself (a proof by rfl over a long chain costs it all its memory). -/
theorem bs {α β : Type} {a : α} {f : α → Option β} : Option.bind (some a) f = f a := Eq.mpr rfl rfl
theorem bn {α β : Type} {f : α → Option β} : Option.bind none f = none := Eq.mpr rfl rfl
theorem ol {Y R : Type} {f : Y → Option R} {y : Y} : onS f (.inl y) = f y := Eq.mpr rfl rfl
theorem or_ {Y R : Type} {f : Y → Option R} {r : R} : onS f (.inr r) = some r := Eq.mpr rfl rfl
theorem oe {R : Type} {r : R} : onE (.inr r) = some r := Eq.mpr rfl rfl
theorem bind_id {α : Type} {m : Option α} : (Option.bind m fun r => some r) = m := by cases m <;> rfl
/-- A loop whose states are known. -/
theorem loop_st {S X : Type} {b : S → Option (S ⊕ X)} (n : Nat) (st : Nat → S) (out : X) (hs : ∀ i, i < n → b (st i) = some (.inl (st (i + 1)))) (he : b (st n) = some (.inr out)) : loopO b (st 0) = some out := by
  have key : ∀ k i, i + k = n → loopO b (st i) = some out := by
    intro k
    induction k with
    | zero => intro i h; obtain rfl : i = n := by omega
              rw [loopO_eq, he]; rfl
    | succ k ih => intro i h; rw [loopO_eq, hs i (by omega)]; exact ih (i + 1) (by omega)
  exact key n 0 (by omega)
/-- A loop that ends at last, with nothing to tell. -/
theorem loop_done {S R : Type} {b : S → Option (S ⊕ (Unit ⊕ R))} {k : Unit → Option R} {z : Option R} {s0 : S} (I : Nat → S → Prop) (m0 : Nat) (h0 : I m0 s0) (step : ∀ m s, I m s → (∃ s', b s = some (.inl s') ∧ ∃ m', m' < m ∧ I m' s') ∨ b s = some (.inr (.inl ()))) (hk : k () = z) : (loopO b s0).bind (onS k) = z := by
  obtain ⟨x, h1, h2⟩ := loop_inv I (fun (x : Unit ⊕ R) => x = .inl ()) (fun m s hs => by
    rcases step m s hs with h | h
    · exact .inl h
    · exact .inr ⟨_, h, rfl⟩) m0 s0 h0
  subst h2
  rw [h1]; exact hk
/-- A loop that ends at last, and what is known then. -/
theorem loop_end {S Y R : Type} {b : S → Option (S ⊕ (Y ⊕ R))} {k : Y → Option R} {z : Option R} {s0 : S} (I : Nat → S → Prop) (Q : Y → Prop) (m0 : Nat) (h0 : I m0 s0) (step : ∀ m s, I m s → (∃ s', b s = some (.inl s') ∧ ∃ m', m' < m ∧ I m' s') ∨ ∃ y, b s = some (.inr (.inl y)) ∧ Q y) (hk : ∀ y, Q y → k y = z) : (loopO b s0).bind (onS k) = z := by
  obtain ⟨x, h1, y, h2, h3⟩ := loop_inv I (fun (x : Y ⊕ R) => ∃ y, x = .inl y ∧ Q y) (fun m s hs => by
    rcases step m s hs with h | ⟨y, h, hq⟩
    · exact .inl h
    · exact .inr ⟨_, h, y, rfl, hq⟩) m0 s0 h0
  subst h2
  rw [h1]; exact hk y h3
end Go.Av
