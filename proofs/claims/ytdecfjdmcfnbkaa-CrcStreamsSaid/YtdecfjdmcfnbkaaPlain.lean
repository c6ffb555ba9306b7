/- The plain mathematics of the checksum: registers of 32 bits, bytes taken into them, linearity, residue, bursts and pairs. -/
namespace Crc

abbrev R := BitVec 32

def poly : R := 0xEDB88320
def bitStep (r : R) : R := if r.getLsbD 0 then (r >>> 1) ^^^ poly else r >>> 1
def iter (f : R → R) : Nat → R → R
  | 0, r => r
  | n + 1, r => iter f n (f r)
def step (r : R) (b : BitVec 8) : R := iter bitStep 8 (r ^^^ b.setWidth 32)
def upd (r : R) (l : List (BitVec 8)) : R := l.foldl step r
def update (s : R) (l : List (BitVec 8)) : R := ~~~ upd (~~~ s) l
def sum (l : List (BitVec 8)) : R := update (0 : R) l

theorem iter_add (f : R → R) (m n : Nat) (r : R) : iter f (m + n) r = iter f n (iter f m r) := by
  induction m generalizing r with
  | zero => simp [iter]
  | succ m ih => rw [Nat.succ_add]; simp [iter, ih]
theorem iter_succ (f : R → R) (n : Nat) (r : R) : iter f (n + 1) r = f (iter f n r) := by
  rw [iter_add]; rfl

/- linearity -/
theorem bitStep_xor (a b : R) : bitStep (a ^^^ b) = bitStep a ^^^ bitStep b := by
  unfold bitStep
  rw [BitVec.getLsbD_xor]
  cases ha : a.getLsbD 0 <;> cases hb : b.getLsbD 0 <;> simp [BitVec.ushiftRight_xor_distrib]
  · ac_rfl
  · ac_rfl
  · rw [show a >>> 1 ^^^ poly ^^^ (b >>> 1 ^^^ poly) = a >>> 1 ^^^ b >>> 1 ^^^ (poly ^^^ poly) by ac_rfl]; simp
theorem bitStep_zero : bitStep (0 : R) = (0 : R) := by decide
theorem iter_xor (n : Nat) (a b : R) : iter bitStep n (a ^^^ b) = iter bitStep n a ^^^ iter bitStep n b := by
  induction n generalizing a b with
  | zero => rfl
  | succ n ih => simp [iter, bitStep_xor, ih]
theorem iter_zero (n : Nat) : iter bitStep n (0 : R) = (0 : R) := by
  induction n with
  | zero => rfl
  | succ n ih => simp only [iter]; rw [bitStep_zero]; exact ih

theorem step_xor (a b : R) (x y : BitVec 8) : step (a ^^^ b) (x ^^^ y) = step a x ^^^ step b y := by
  unfold step
  rw [← iter_xor]
  congr 1
  rw [show (x ^^^ y).setWidth 32 = x.setWidth 32 ^^^ y.setWidth 32 by simp]
  ac_rfl
theorem upd_append (r : R) (p q : List (BitVec 8)) : upd r (p ++ q) = upd (upd r p) q := by simp [upd]
theorem upd_xor : ∀ (p q : List (BitVec 8)) (a b : R), p.length = q.length → upd (a ^^^ b) (List.zipWith (· ^^^ ·) p q) = upd a p ^^^ upd b q
  | [], [], _, _, _ => rfl
  | x :: p, y :: q, a, b, h => by
    simp only [upd, List.zipWith_cons_cons, List.foldl_cons, step_xor]
    exact upd_xor p q _ _ (by simpa using h)

/- the inverse -/
def bitBack (r : R) : R := if r.getLsbD 31 then ((r ^^^ poly) <<< 1) ||| (1 : R) else r <<< 1
theorem back_step (r : R) : bitBack (bitStep r) = r := by
  unfold bitBack bitStep
  cases h : r.getLsbD 0
  · simp only [Bool.false_eq_true, if_false]
    have h0 : r[0] = false := by simpa using h
    rw [if_neg (by simp)]
    apply BitVec.eq_of_getLsbD_eq
    intro i hi
    rcases i with _ | i
    · simp [h0]
    · simp [BitVec.getLsbD_shiftLeft, BitVec.getLsbD_ushiftRight, Nat.add_comm 1 i]; omega
  · simp only [if_true]
    have h0 : r[0] = true := by simpa using h
    have : (r >>> 1 ^^^ poly).getLsbD 31 = true := by rw [BitVec.getLsbD_xor]; simp [poly]
    rw [if_pos this, show r >>> 1 ^^^ poly ^^^ poly = r >>> 1 ^^^ (poly ^^^ poly) by ac_rfl]
    apply BitVec.eq_of_getLsbD_eq
    intro i hi
    rcases i with _ | i
    · simp [h0]
    · simp [BitVec.getLsbD_shiftLeft, BitVec.getLsbD_ushiftRight, Nat.add_comm 1 i]; omega
theorem bitStep_inj {a b : R} (h : bitStep a = bitStep b) : a = b := by rw [← back_step a, h, back_step]
theorem iter_inj (n : Nat) {a b : R} (h : iter bitStep n a = iter bitStep n b) : a = b := by
  induction n generalizing a b with
  | zero => exact h
  | succ n ih => exact bitStep_inj (ih h)
theorem iter_ne_zero (n : Nat) {a : R} (h : a ≠ (0 : R)) : iter bitStep n a ≠ (0 : R) := fun e => h (iter_inj n (by rw [e, iter_zero]))


/- a byte at the top of the register comes down unchanged -/
theorem bitStep_shift (x : R) (h : x.getLsbD 31 = false) : bitStep (x <<< 1) = x := by
  unfold bitStep
  rw [if_neg (by simp)]
  have h0 : x[31] = false := by simpa using h
  apply BitVec.eq_of_getLsbD_eq
  intro i hi
  simp [BitVec.getLsbD_shiftLeft, BitVec.getLsbD_ushiftRight, Nat.add_comm 1 i]
  rcases Nat.lt_or_ge (i + 1) 32 with h | h
  · simp [h, hi]
  · obtain rfl : i = 31 := by omega
    simp [h0]
theorem iter_shift (k : Nat) (x : R) (h : x.toNat < 2 ^ (32 - k)) (hk : k ≤ 32) : iter bitStep k (x <<< k) = x := by
  induction k generalizing x with
  | zero => simp [iter]
  | succ k ih =>
    rw [iter_succ]
    have e : x <<< (k + 1) = (x <<< 1) <<< k := by rw [← BitVec.shiftLeft_add, Nat.add_comm]
    have hlt : x.toNat < 2 ^ 31 := Nat.lt_of_lt_of_le h (Nat.pow_le_pow_right (by omega) (by omega))
    rw [e, ih]
    · exact bitStep_shift x (by rw [BitVec.getLsbD, Nat.testBit_lt_two_pow hlt])
    · rw [BitVec.toNat_shiftLeft, Nat.shiftLeft_eq, Nat.mod_eq_of_lt (by omega)]
      have : (2 : Nat) ^ (32 - k) = 2 ^ (32 - (k + 1)) * 2 := by rw [← Nat.pow_succ]; congr 1; omega
      omega
    · omega

theorem iter8_in (r : R) (b : BitVec 8) (k : Nat) (hk : k ≤ 24) : iter bitStep k r ^^^ b.setWidth 32 = iter bitStep k (r ^^^ (b.setWidth 32 <<< k)) := by
  rw [iter_xor, iter_shift k (b.setWidth 32) _ (by omega)]
  have h1 : (b.setWidth 32).toNat < 2 ^ 8 := by rw [BitVec.toNat_setWidth]; have := b.isLt; omega
  exact Nat.lt_of_lt_of_le h1 (Nat.pow_le_pow_right (by omega) (by omega))
theorem step_iter (r : R) (b : BitVec 8) (k : Nat) (hk : k ≤ 24) : step (iter bitStep k r) b = iter bitStep (k + 8) (r ^^^ (b.setWidth 32 <<< k)) := by
  rw [step, iter8_in r b k hk, iter_add]

def le4 (s : R) : List (BitVec 8) := [s.setWidth 8, (s >>> 8).setWidth 8, (s >>> 16).setWidth 8, (s >>> 24).setWidth 8]
theorem part_bit (s : R) (k i : Nat) (hi : i < 32) : ((((s >>> k).setWidth 8).setWidth 32) <<< k).getLsbD i = (decide (k ≤ i ∧ i < k + 8) && s.getLsbD i) := by
  rw [BitVec.getLsbD_shiftLeft, BitVec.getLsbD_setWidth, BitVec.getLsbD_setWidth, BitVec.getLsbD_ushiftRight]
  rcases Nat.lt_or_ge i k with h | h
  · have h2 : ¬ k ≤ i := by omega
    simp [h, h2]
  · rw [show k + (i - k) = i by omega]
    rcases Nat.lt_or_ge i (k + 8) with h3 | h3
    · simp [hi, h3, h, show ¬ i < k by omega, show i - k < 32 by omega, show i - k < 8 by omega]
    · simp [show ¬ i < k + 8 by omega, show ¬ i - k < 8 by omega]
theorem le4_join (s : R) : (s.setWidth 8).setWidth 32 ^^^ (((s >>> 8).setWidth 8).setWidth 32 <<< 8) ^^^ (((s >>> 16).setWidth 8).setWidth 32 <<< 16) ^^^ (((s >>> 24).setWidth 8).setWidth 32 <<< 24) = s := by
  apply BitVec.eq_of_getLsbD_eq
  intro i hi
  have e0 : (s.setWidth 8).setWidth 32 = (((s >>> 0).setWidth 8).setWidth 32) <<< 0 := by rw [BitVec.ushiftRight_zero, BitVec.shiftLeft_zero]
  rw [e0, BitVec.getLsbD_xor, BitVec.getLsbD_xor, BitVec.getLsbD_xor, part_bit s 0 i hi, part_bit s 8 i hi, part_bit s 16 i hi, part_bit s 24 i hi]
  rcases Nat.lt_or_ge i 8 with h | h
  · simp only [show (0 ≤ i ∧ i < 0 + 8) by omega, show ¬ (8 ≤ i ∧ i < 8 + 8) by omega, show ¬ (16 ≤ i ∧ i < 16 + 8) by omega, show ¬ (24 ≤ i ∧ i < 24 + 8) by omega, and_self, decide_true, decide_false, Bool.true_and, Bool.false_and, Bool.xor_false]
  rcases Nat.lt_or_ge i 16 with h | h
  · simp only [show ¬ (0 ≤ i ∧ i < 0 + 8) by omega, show (8 ≤ i ∧ i < 8 + 8) by omega, show ¬ (16 ≤ i ∧ i < 16 + 8) by omega, show ¬ (24 ≤ i ∧ i < 24 + 8) by omega, and_self, decide_true, decide_false, Bool.true_and, Bool.false_and, Bool.xor_false, Bool.false_xor]
  rcases Nat.lt_or_ge i 24 with h | h
  · simp only [show ¬ (0 ≤ i ∧ i < 0 + 8) by omega, show ¬ (8 ≤ i ∧ i < 8 + 8) by omega, show (16 ≤ i ∧ i < 16 + 8) by omega, show ¬ (24 ≤ i ∧ i < 24 + 8) by omega, and_self, decide_true, decide_false, Bool.true_and, Bool.false_and, Bool.xor_false, Bool.false_xor]
  · simp only [show ¬ (0 ≤ i ∧ i < 0 + 8) by omega, show ¬ (8 ≤ i ∧ i < 8 + 8) by omega, show ¬ (16 ≤ i ∧ i < 16 + 8) by omega, show (24 ≤ i ∧ i < 24 + 8) by omega, and_self, decide_true, decide_false, Bool.true_and, Bool.false_and, Bool.false_xor]
theorem upd_le4 (r s : R) : upd r (le4 s) = iter bitStep 32 (r ^^^ s) := by
  have e0 : step r (s.setWidth 8) = iter bitStep (0 + 8) (r ^^^ ((s.setWidth 8).setWidth 32 <<< 0)) := step_iter r _ 0 (by omega)
  show step (step (step (step r _) _) _) _ = _
  rw [e0, step_iter _ _ _ (by omega), step_iter _ _ _ (by omega), step_iter _ _ _ (by omega)]
  refine congrArg (iter bitStep 32) ?_
  conv => rhs; rw [← le4_join s]
  rw [BitVec.shiftLeft_zero, BitVec.xor_assoc, BitVec.xor_assoc, BitVec.xor_assoc, BitVec.xor_assoc, BitVec.xor_assoc]

def ones : R := BitVec.allOnes 32
def residue : R := 0x2144DF1C
theorem not_zero : ~~~ (0 : R) = ones := rfl
theorem xor_not_self {n : Nat} (x : BitVec n) : x ^^^ ~~~ x = BitVec.allOnes n := by
  apply BitVec.eq_of_getLsbD_eq
  intro i hi
  simp [hi]
theorem xor_ones {n : Nat} (x : BitVec n) : x ^^^ BitVec.allOnes n = ~~~ x := by
  apply BitVec.eq_of_getLsbD_eq
  intro i hi
  simp [hi]
theorem ones_residue : ~~~ iter bitStep 32 ones = residue := by decide +kernel
def seal_ (l : List (BitVec 8)) : List (BitVec 8) := l ++ le4 (sum l)
theorem sum_eq (l : List (BitVec 8)) : sum l = ~~~ upd ones l := rfl
theorem sum_append_le4 (l : List (BitVec 8)) (s : R) : sum (l ++ le4 s) = ~~~ iter bitStep 32 (upd ones l ^^^ s) := by
  rw [sum_eq, upd_append, upd_le4]
theorem sum_seal (l : List (BitVec 8)) : sum (seal_ l) = residue := by
  rw [seal_, sum_append_le4, sum_eq, xor_not_self]; exact ones_residue
theorem residue_iff (l : List (BitVec 8)) (s : R) : sum (l ++ le4 s) = residue ↔ s = sum l := by
  constructor
  · intro h
    rw [sum_append_le4, ← ones_residue] at h
    have h1 := iter_inj 32 (BitVec.not_inj.1 h)
    rw [sum_eq]
    generalize upd ones l = u at h1
    have : u ^^^ (u ^^^ s) = u ^^^ ones := by rw [h1]
    rw [← BitVec.xor_assoc, BitVec.xor_self, BitVec.zero_xor] at this
    rw [this]
    exact xor_ones u
  · rintro rfl; exact sum_seal l

/- a bit that is inverted -/
def xorBit (l : List (BitVec 8)) (i : Nat) : List (BitVec 8) := l.modify (i / 8) (· ^^^ ((1 : BitVec 8) <<< (i % 8)))
theorem length_xorBit (l : List (BitVec 8)) (i : Nat) : (xorBit l i).length = l.length := by simp [xorBit]
theorem upd_delta : ∀ (t : List (BitVec 8)) (a d : R), upd (a ^^^ d) t = upd a t ^^^ iter bitStep (8 * t.length) d
  | [], a, d => by simp [upd, iter]
  | x :: t, a, d => by
    have h : step (a ^^^ d) x = step a x ^^^ iter bitStep 8 d := by
      unfold step
      rw [← iter_xor]
      congr 1
      ac_rfl
    show upd (step (a ^^^ d) x) t = upd (step a x) t ^^^ _
    rw [h, upd_delta t]
    congr 1
theorem step_bit (i : Nat) (hi : i < 8) : iter bitStep 8 (((1 : BitVec 8) <<< i).setWidth 32) = iter bitStep (8 - i) 1 := by
  rcases i with _ | _ | _ | _ | _ | _ | _ | _ | i
  all_goals first | decide +kernel | omega
theorem upd_xorBit : ∀ (l : List (BitVec 8)) (i : Nat) (a : R), i < 8 * l.length → upd a (xorBit l i) = upd a l ^^^ iter bitStep (8 * l.length - i) 1
  | [], i, a, h => by simp at h
  | x :: t, i, a, h => by
    rcases Nat.lt_or_ge i 8 with hi | hi
    · have e : xorBit (x :: t) i = (x ^^^ ((1 : BitVec 8) <<< i)) :: t := by simp [xorBit, Nat.div_eq_of_lt hi, Nat.mod_eq_of_lt hi]
      rw [e]
      have h : step a (x ^^^ ((1 : BitVec 8) <<< i)) = step a x ^^^ iter bitStep (8 - i) 1 := by
        rw [← step_bit i hi]
        unfold step
        rw [← iter_xor]
        congr 1
        rw [BitVec.setWidth_xor]
        ac_rfl
      show upd (step a (x ^^^ ((1 : BitVec 8) <<< i))) t = upd (step a x) t ^^^ _
      rw [h, upd_delta t, ← iter_add]
      congr 2
      simp only [List.length_cons]
      omega
    · obtain ⟨j, rfl⟩ : ∃ j, i = j + 8 := ⟨i - 8, by omega⟩
      have e : xorBit (x :: t) (j + 8) = x :: xorBit t j := by
        simp only [xorBit]
        rw [show (j + 8) / 8 = j / 8 + 1 by omega, show (j + 8) % 8 = j % 8 by omega]
        rfl
      rw [e]
      show upd (step a x) (xorBit t j) = upd (step a x) t ^^^ _
      rw [upd_xorBit t j _ (by simp at h; omega)]
      congr 2
      simp only [List.length_cons]
      omega

/- a pattern of bits -/
def flipK (bit : Int) (p : R) (l : List (BitVec 8)) (k : Nat) : List (BitVec 8) := if p.getLsbD k then xorBit l (bit + k).toNat else l
def flipTo (bit : Int) (p : R) (l : List (BitVec 8)) : Nat → List (BitVec 8)
  | 0 => l
  | k + 1 => flipK bit p (flipTo bit p l k) k
def Fits (bit : Int) (p : R) (n k : Nat) : Prop := ∀ j, j < k → p.getLsbD j = true → 0 ≤ bit + j ∧ bit + j < 8 * n
theorem length_flipTo (bit : Int) (p : R) (l : List (BitVec 8)) (k : Nat) : (flipTo bit p l k).length = l.length := by
  induction k with
  | zero => rfl
  | succ k ih =>
    simp only [flipTo, flipK]
    split
    · rw [length_xorBit, ih]
    · exact ih
def lowTo (p : R) : Nat → R
  | 0 => 0
  | k + 1 => lowTo p k ^^^ (if p.getLsbD k then (1 : R) <<< k else 0)
theorem lowTo_bit (p : R) (k i : Nat) (hk : k ≤ 32) (hi : i < 32) : (lowTo p k).getLsbD i = (decide (i < k) && p.getLsbD i) := by
  induction k with
  | zero => simp [lowTo]
  | succ k ih =>
    rw [lowTo, BitVec.getLsbD_xor, ih (by omega)]
    have e1 : ((1 : R) <<< k).getLsbD i = decide (i = k) := by
      rw [BitVec.getLsbD_shiftLeft]
      rcases Nat.lt_trichotomy i k with h | h | h
      · simp [h, show i ≠ k by omega]
      · subst h; simp [hi]
      · simp [show ¬ i < k by omega, show i ≠ k by omega, hi]
        omega
    rcases Nat.lt_trichotomy i k with h | h | h
    · split
      · rw [e1]; simp [h, show i ≠ k by omega, show i < k + 1 by omega]
      · simp [h, show i < k + 1 by omega]
    · subst h
      split
      · rename_i hp; rw [e1, hp]; simp
      · rename_i hp; simp [hp]
    · split
      · rw [e1]; simp [show ¬ i < k by omega, show i ≠ k by omega, show ¬ i < k + 1 by omega]
      · simp [show ¬ i < k by omega, show ¬ i < k + 1 by omega]
theorem lowTo_all (p : R) : lowTo p 32 = p := by
  apply BitVec.eq_of_getLsbD_eq
  intro i hi
  rw [lowTo_bit p 32 i (by omega) hi]
  simp [hi]
theorem upd_flipTo (bit : Nat) (p : R) (l : List (BitVec 8)) (a : R) (k : Nat) (hk : k ≤ 32) (h : Fits bit p l.length k) :
    upd a (flipTo bit p l k) = upd a l ^^^ iter bitStep (8 * l.length - bit) (lowTo p k) := by
  induction k with
  | zero => rw [flipTo, lowTo, iter_zero]; simp
  | succ k ih =>
    have ih := ih (by omega) (fun j hj => h j (by omega))
    rw [flipTo, flipK, lowTo]
    by_cases hp : p.getLsbD k = true
    · have hb := h k (by omega) hp
      rw [if_pos hp, if_pos hp, upd_xorBit _ _ _ (by rw [length_flipTo]; omega), ih, iter_xor, length_flipTo, BitVec.xor_assoc]
      congr 2
      have e : 8 * l.length - bit = k + (8 * l.length - ((bit : Int) + k).toNat) := by omega
      rw [e, iter_add, iter_shift k 1 _ (by omega)]
      have : (1 : R).toNat = 1 := rfl
      rw [this]
      exact Nat.one_lt_two_pow (by omega)
    · rw [if_neg hp, if_neg hp, ih]
      simp

def Sealed (q : List (BitVec 8)) : Prop := ∃ l, q = seal_ l
theorem sum_inj_upd {a b : List (BitVec 8)} (h : sum a = sum b) : upd ones a = upd ones b := by
  rw [sum_eq, sum_eq] at h
  exact BitVec.not_inj.1 h
theorem burst (l : List (BitVec 8)) (bit : Nat) (p : R) (hp : p ≠ 0) (h : Fits bit p (seal_ l).length 32) : ¬ Sealed (flipTo bit p (seal_ l) 32) := by
  rintro ⟨m, hm⟩
  have h1 := upd_flipTo bit p (seal_ l) ones 32 (by omega) h
  rw [hm, sum_inj_upd ((sum_seal m).trans (sum_seal l).symm), lowTo_all] at h1
  refine iter_ne_zero (8 * (seal_ l).length - bit) hp ?_
  generalize iter bitStep (8 * (seal_ l).length - bit) p = x at h1
  have h2 : upd ones (seal_ l) ^^^ upd ones (seal_ l) = upd ones (seal_ l) ^^^ (upd ones (seal_ l) ^^^ x) := by rw [← h1]
  rw [← BitVec.xor_assoc, BitVec.xor_self, BitVec.zero_xor] at h2
  exact h2.symm

/- two bits -/
def natStep (n : Nat) : Nat := if n % 2 = 1 then (n / 2) ^^^ 0xEDB88320 else n / 2
def check : Nat → Nat → Bool
  | 0, _ => true
  | f + 1, n => match natStep n with
    | m => (m != 1) && check f m
theorem check_all : check 8200 1 = true := by decide +kernel
theorem bitStep_nat (r : R) : (bitStep r).toNat = natStep r.toNat := by
  unfold bitStep natStep
  have h : r.getLsbD 0 = decide (r.toNat % 2 = 1) := by
    rw [BitVec.getLsbD, Nat.testBit_zero]
  by_cases h2 : r.toNat % 2 = 1
  · rw [if_pos (by rw [h]; simp [h2]), if_pos h2, BitVec.toNat_xor, BitVec.toNat_ushiftRight, Nat.shiftRight_eq_div_pow]
    rfl
  · rw [if_neg (by rw [h]; simp [h2]), if_neg h2, BitVec.toNat_ushiftRight, Nat.shiftRight_eq_div_pow]
theorem check_ne (f : Nat) : ∀ (r : R), check f r.toNat = true → ∀ d, 0 < d → d ≤ f → iter bitStep d r ≠ 1 := by
  induction f with
  | zero => intro r _ d h0 h1; omega
  | succ f ih =>
    intro r h d h0 h1
    rw [check, ← bitStep_nat] at h
    simp only [Bool.and_eq_true, bne_iff_ne] at h
    obtain ⟨ha, hb⟩ := h
    rcases d with _ | d
    · omega
    · rw [iter]
      rcases d with _ | d
      · intro e
        exact ha (by rw [iter] at e; rw [e]; rfl)
      · exact ih _ hb _ (by omega) (by omega)
theorem order (d : Nat) (h0 : 0 < d) (h1 : d ≤ 8200) : iter bitStep d 1 ≠ 1 := check_ne 8200 1 check_all d h0 h1
theorem pair_iter (m n : Nat) (hm : m ≤ 8200) (hn : n ≤ 8200) (h : iter bitStep m 1 = iter bitStep n 1) : m = n := by
  rcases Nat.lt_trichotomy m n with hlt | he | hlt
  · exfalso
    rw [show n = (n - m) + m by omega, iter_add] at h
    exact order (n - m) (by omega) (by omega) (iter_inj m h).symm
  · exact he
  · exfalso
    rw [show m = (m - n) + n by omega, iter_add] at h
    exact order (m - n) (by omega) (by omega) (iter_inj n h)
theorem pairs (l : List (BitVec 8)) (i j : Nat) (hl : (seal_ l).length ≤ 1024) (hi : i < 8 * (seal_ l).length) (hj : j < 8 * (seal_ l).length) (hne : i ≠ j) : ¬ Sealed (xorBit (xorBit (seal_ l) i) j) := by
  rintro ⟨m, hm⟩
  have h1 := upd_xorBit (xorBit (seal_ l) i) j ones (by rw [length_xorBit]; exact hj)
  rw [hm, upd_xorBit _ i ones hi, length_xorBit, sum_inj_upd ((sum_seal m).trans (sum_seal l).symm)] at h1
  refine hne ?_
  have h3 : 8 * (seal_ l).length - i = 8 * (seal_ l).length - j := by
    refine pair_iter _ _ (by omega) (by omega) ?_
    generalize iter bitStep (8 * (seal_ l).length - i) 1 = x at h1
    generalize iter bitStep (8 * (seal_ l).length - j) 1 = y at h1
    generalize upd ones (seal_ l) = u at h1
    have h2 : u ^^^ u = u ^^^ (u ^^^ x ^^^ y) := by rw [← h1]
    rw [BitVec.xor_assoc u x y, ← BitVec.xor_assoc u u, BitVec.xor_self, BitVec.zero_xor] at h2
    have h4 : x ^^^ (0 : R) = x ^^^ (x ^^^ y) := congrArg (x ^^^ ·) h2
    rw [← BitVec.xor_assoc, BitVec.xor_self, BitVec.zero_xor] at h4
    rw [← h4]; exact (BitVec.xor_zero).symm
  omega
theorem flipTo_one (bit : Nat) (l : List (BitVec 8)) (k : Nat) (hk : 0 < k) : flipTo bit 1 l k = xorBit l bit := by
  induction k with
  | zero => omega
  | succ k ih =>
    rw [flipTo, flipK]
    rcases Nat.eq_zero_or_pos k with rfl | h
    · rw [if_pos (by decide), flipTo]; simp
    · have : (1 : R).getLsbD k = false := by
        rw [BitVec.getLsbD]
        exact Nat.testBit_lt_two_pow (Nat.one_lt_two_pow (by omega))
      rw [if_neg (by rw [this]; simp), ih h]

/- inverting again -/
theorem xorBit_comm_self (l : List (BitVec 8)) (i : Nat) : xorBit (xorBit l i) i = l := by
  unfold xorBit
  rw [List.modify_modify_eq]
  have : ((fun x : BitVec 8 => x ^^^ (1 : BitVec 8) <<< (i % 8)) ∘ fun x => x ^^^ (1 : BitVec 8) <<< (i % 8)) = id := by
    funext x
    simp [BitVec.xor_assoc]
  rw [this]
  exact List.modify_id _ _

theorem xorBit_comm (l : List (BitVec 8)) (i j : Nat) : xorBit (xorBit l i) j = xorBit (xorBit l j) i := by
  unfold xorBit
  apply List.ext_getElem?
  intro k
  simp only [List.getElem?_modify]
  by_cases h1 : i / 8 = k <;> by_cases h2 : j / 8 = k <;> simp [h1, h2, Function.comp_def]
  congr 1
  funext x
  ac_rfl
theorem flipTo_xorBit (bit : Int) (p : R) (l : List (BitVec 8)) (i k : Nat) : flipTo bit p (xorBit l i) k = xorBit (flipTo bit p l k) i := by
  induction k with
  | zero => rfl
  | succ k ih =>
    rw [flipTo, flipTo, flipK, flipK, ih]
    split
    · exact xorBit_comm _ _ _
    · rfl
theorem flipTo_flipTo (bit : Int) (p : R) (l : List (BitVec 8)) (k : Nat) : flipTo bit p (flipTo bit p l k) k = l := by
  induction k with
  | zero => rfl
  | succ k ih =>
    rw [flipTo, flipTo, flipK, flipK]
    split
    · rw [flipTo_xorBit, xorBit_comm_self, ih]
    · exact ih

/- joining -/
def zeros (n : Nat) (r : R) : R := iter (fun r => step r 0) n r
theorem zeros_eq (n : Nat) (r : R) : zeros n r = iter bitStep (8 * n) r := by
  induction n generalizing r with
  | zero => rfl
  | succ n ih =>
    have h : step r 0 = iter bitStep 8 r := by unfold step; simp
    show zeros n (step r 0) = _
    rw [ih, h, ← iter_add]
    congr 1
    omega
theorem sum_append (p q : List (BitVec 8)) : sum (p ++ q) = zeros q.length (sum p) ^^^ sum q := by
  rw [sum_eq, sum_eq, sum_eq, upd_append, zeros_eq]
  have h : upd (upd ones p) q = upd ones q ^^^ iter bitStep (8 * q.length) (~~~ upd ones p) := by
    rw [← upd_delta]
    congr 1
    generalize upd ones p = u
    have : ones ^^^ ~~~ u = u := by
      have h0 : ones = u ^^^ ~~~ u := (xor_not_self u).symm
      rw [h0, BitVec.xor_assoc, BitVec.xor_self]
      exact BitVec.xor_zero
    exact this.symm
  rw [h]
  generalize iter bitStep (8 * q.length) (~~~ upd ones p) = x
  generalize upd ones q = y
  rw [← xor_ones, ← xor_ones y, BitVec.xor_assoc, BitVec.xor_comm y, BitVec.xor_assoc, BitVec.xor_comm _ y]
theorem update_sum (p q : List (BitVec 8)) : update (sum p) q = sum (p ++ q) := by
  rw [update, sum_eq, sum_eq, upd_append, BitVec.not_not]
theorem update_nil (s : R) : update s [] = s := by
  show ~~~ ~~~ s = s
  rw [BitVec.not_not]
theorem sum_xor3 (p q r : List (BitVec 8)) (h1 : p.length = q.length) (h2 : p.length = r.length) :
    sum (List.zipWith (· ^^^ ·) (List.zipWith (· ^^^ ·) p q) r) = sum p ^^^ sum q ^^^ sum r := by
  have e : ones ^^^ ones ^^^ ones = ones := by rw [BitVec.xor_self, BitVec.zero_xor]
  rw [sum_eq, sum_eq, sum_eq, sum_eq]
  have h3 := upd_xor (List.zipWith (· ^^^ ·) p q) r (ones ^^^ ones) ones (by simp; omega)
  rw [e, upd_xor p q ones ones h1] at h3
  rw [h3]
  generalize upd ones p = a
  generalize upd ones q = b
  generalize upd ones r = c
  apply BitVec.eq_of_getLsbD_eq
  intro i hi
  simp only [BitVec.getLsbD_xor, BitVec.getLsbD_not, hi, decide_true, Bool.true_and]
  cases a.getLsbD i <;> cases b.getLsbD i <;> cases c.getLsbD i <;> rfl

/- opening -/
def Good (l : List (BitVec 8)) : Prop := l.drop (l.length - 4) = le4 (sum (l.take (l.length - 4)))
instance (l : List (BitVec 8)) : Decidable (Good l) := inferInstanceAs (Decidable (_ = _))
def opened (l : List (BitVec 8)) : List (BitVec 8) := if l.length < 4 then [] else if Good l then l.take (l.length - 4) else []
def openCode (l : List (BitVec 8)) : Int := if l.length < 4 then 4 else if Good l then 0 else 12
theorem sealed_iff (l : List (BitVec 8)) (h : 4 ≤ l.length) : Sealed l ↔ Good l := by
  constructor
  · rintro ⟨m, rfl⟩
    have e : (seal_ m).length - 4 = m.length := by simp [seal_, le4]
    unfold Good
    rw [e, seal_, List.drop_left, List.take_left]
  · intro hg
    exact ⟨l.take (l.length - 4), by rw [seal_, ← hg, List.take_append_drop]⟩
theorem drop_four (l : List (BitVec 8)) (n : Nat) (hn : l.length = n) (h : 4 ≤ n) : l.drop (n - 4) = [l[n - 4], l[n - 4 + 1], l[n - 4 + 2], l[n - 4 + 3]] := by
  subst hn
  rw [List.drop_eq_getElem_cons (by omega), List.drop_eq_getElem_cons (by omega), List.drop_eq_getElem_cons (by omega), List.drop_eq_getElem_cons (by omega), List.drop_eq_nil_of_le (by omega)]
theorem good_iff (l : List (BitVec 8)) (n : Nat) (hn : l.length = n) (h : 4 ≤ n) : Good l ↔
    l[n - 4] = (sum (l.take (n - 4))).setWidth 8 ∧ l[n - 4 + 1] = (sum (l.take (n - 4)) >>> 8).setWidth 8 ∧
    l[n - 4 + 2] = (sum (l.take (n - 4)) >>> 16).setWidth 8 ∧ l[n - 4 + 3] = (sum (l.take (n - 4)) >>> 24).setWidth 8 := by
  subst hn
  unfold Good
  rw [drop_four l l.length rfl h, le4]
  simp only [List.cons.injEq, and_true]
theorem opened_short {l : List (BitVec 8)} (h : l.length < 4) : opened l = [] ∧ openCode l = 4 := by simp [opened, openCode, h]
theorem opened_good {l : List (BitVec 8)} (h : 4 ≤ l.length) (hg : Good l) : opened l = l.take (l.length - 4) ∧ openCode l = 0 := by
  simp [opened, openCode, hg, show ¬ l.length < 4 by omega]
theorem opened_bad {l : List (BitVec 8)} (h : 4 ≤ l.length) (hg : ¬ Good l) : opened l = [] ∧ openCode l = 12 := by
  simp [opened, openCode, hg, show ¬ l.length < 4 by omega]
theorem opened_seal (l : List (BitVec 8)) : opened (seal_ l) = l ∧ openCode (seal_ l) = 0 := by
  have hl : (seal_ l).length = l.length + 4 := by simp [seal_, le4]
  have := opened_good (l := seal_ l) (by omega) ((sealed_iff _ (by omega)).1 ⟨l, rfl⟩)
  rw [hl, Nat.add_sub_cancel] at this
  rw [this.1, this.2]
  exact ⟨by rw [seal_, List.take_left], rfl⟩

/- flipping -/
instance (bit : Int) (p : R) (n k : Nat) : Decidable (Fits bit p n k) := Nat.decidableBallLT k fun j _ => p.getLsbD j = true → 0 ≤ bit + j ∧ bit + j < 8 * n
def flipped (l : List (BitVec 8)) (bit : Int) (p : R) : List (BitVec 8) := if Fits bit p l.length 32 then flipTo bit p l 32 else []
def flipCode (l : List (BitVec 8)) (bit : Int) (p : R) : Int := if Fits bit p l.length 32 then 0 else 2

theorem fits_step {bit : Int} {p : R} {n k : Nat} (h : Fits bit p n k) (hk : p.getLsbD k = true → 0 ≤ bit + k ∧ bit + k < 8 * n) : Fits bit p n (k + 1) := by
  intro j hj hp
  rcases Nat.lt_or_ge j k with h1 | h1
  · exact h j h1 hp
  · obtain rfl : j = k := by omega
    exact hk hp
theorem not_fits {bit : Int} {p : R} {n k : Nat} (hk : k < 32) (hp : p.getLsbD k = true) (h : bit + k < 0 ∨ 8 * (n : Int) ≤ bit + k) : ¬ Fits bit p n 32 := by
  intro hf
  have := hf k hk hp
  omega
theorem flipTo_no {bit : Int} {p : R} {l : List (BitVec 8)} {k : Nat} (hp : p.getLsbD k = false) : flipTo bit p l (k + 1) = flipTo bit p l k := by
  rw [flipTo, flipK, if_neg (by rw [hp]; simp)]
theorem flipTo_yes {bit : Int} {p : R} {l : List (BitVec 8)} {k i : Nat} (hp : p.getLsbD k = true) (hi : bit + k = i) : flipTo bit p l (k + 1) = xorBit (flipTo bit p l k) i := by
  rw [flipTo, flipK, if_pos hp, hi]
  rfl
theorem xorBit_set (l : List (BitVec 8)) (i : Nat) (h : i / 8 < l.length) : xorBit l i = l.set (i / 8) (l[i / 8] ^^^ (1 : BitVec 8) <<< (i % 8)) := by
  unfold xorBit
  apply List.ext_getElem?
  intro k
  rw [List.getElem?_modify, List.getElem?_set]
  by_cases hk : i / 8 = k
  · subst hk
    simp [h]
  · simp [hk]
theorem flipped_fits {l : List (BitVec 8)} {bit : Int} {p : R} (h : Fits bit p l.length 32) : flipped l bit p = flipTo bit p l 32 ∧ flipCode l bit p = 0 := by simp [flipped, flipCode, h]
theorem flipped_not {l : List (BitVec 8)} {bit : Int} {p : R} (h : ¬ Fits bit p l.length 32) : flipped l bit p = [] ∧ flipCode l bit p = 2 := by simp [flipped, flipCode, h]
theorem fits_zero (bit : Int) (n k : Nat) : Fits bit 0 n k := by
  intro j _ hp
  simp at hp
theorem flipTo_zero (bit : Int) (l : List (BitVec 8)) (k : Nat) : flipTo bit 0 l k = l := by
  induction k with
  | zero => rfl
  | succ k ih => rw [flipTo_no (by simp), ih]
theorem some_bit {p : R} (h : p ≠ 0) : ∃ k, k < 32 ∧ p.getLsbD k = true := by
  apply Classical.byContradiction
  intro hn
  refine h (BitVec.eq_of_getLsbD_eq ?_)
  intro i hi
  cases hb : p.getLsbD i
  · simp
  · exact absurd ⟨i, hi, hb⟩ hn
theorem not_fits_far {bit : Int} {p : R} {n : Nat} (hp : p ≠ 0) (h : bit < -31 ∨ 8 * (n : Int) ≤ bit) : ¬ Fits bit p n 32 := by
  obtain ⟨k, hk, hb⟩ := some_bit hp
  exact not_fits hk hb (by omega)

theorem one_bit {j : Nat} (h : (1 : R).getLsbD j = true) : j = 0 := by
  rcases Nat.eq_zero_or_pos j with h0 | h0
  · exact h0
  · rw [BitVec.getLsbD] at h
    have h1 : (1 : R).toNat = 1 := rfl
    rw [h1, Nat.testBit_lt_two_pow (Nat.one_lt_two_pow (by omega))] at h
    cases h
theorem fits_one {i : Int} {n k : Nat} (h0 : 0 ≤ i) (h1 : i < 8 * n) : Fits i 1 n k := by
  intro j _ hp
  obtain rfl := one_bit hp
  simp
  omega
theorem flipped_one {l : List (BitVec 8)} {i : Nat} (h1 : i < 8 * l.length) : flipped l i 1 = xorBit l i ∧ flipCode l i 1 = 0 := by
  have := flipped_fits (l := l) (bit := i) (p := 1) (fits_one (by omega) (by omega))
  rw [flipTo_one _ _ _ (by omega)] at this
  exact this
theorem flipped_back {l : List (BitVec 8)} {bit : Int} {p : R} (h : Fits bit p l.length 32) : flipped (flipped l bit p) bit p = l ∧ flipCode (flipped l bit p) bit p = 0 := by
  have h1 := flipped_fits h
  rw [h1.1]
  have h2 := flipped_fits (l := flipTo bit p l 32) (bit := bit) (p := p) (by rw [length_flipTo]; exact h)
  rw [h2.1, h2.2, flipTo_flipTo]
  exact ⟨rfl, rfl⟩
theorem length_seal (l : List (BitVec 8)) : (seal_ l).length = l.length + 4 := by simp [seal_, le4]
theorem opened_not {l : List (BitVec 8)} (h : 4 ≤ l.length) (hs : ¬ Sealed l) : opened l = [] ∧ openCode l = 12 :=
  opened_bad h fun hg => hs ((sealed_iff l h).2 hg)

/- matrices -/
def lowX (M : List R) (r : R) : Nat → R
  | 0 => 0
  | k + 1 => lowX M r k ^^^ (if r.getLsbD k then M.getD k 0 else 0)
theorem lowX_rest (M : List R) (r : R) (k : Nat) (hk : k ≤ 32) (h : ∀ j, k ≤ j → r.getLsbD j = false) : lowX M r 32 = lowX M r k := by
  have : ∀ d, lowX M r (k + d) = lowX M r k := by
    intro d
    induction d with
    | zero => rfl
    | succ d ih =>
      rw [← Nat.add_assoc, lowX, ih, h (k + d) (by omega)]
      simp
  have h2 := this (32 - k)
  rw [show k + (32 - k) = 32 by omega] at h2
  exact h2
/-- The matrix of some steps of a register. -/
def IsIter (M : List R) (n : Nat) : Prop := M.length = 32 ∧ ∀ k, k < 32 → M.getD k 0 = iter bitStep n ((1 : R) <<< k)
theorem lowX_iter {M : List R} {n : Nat} (h : IsIter M n) (r : R) : ∀ k, k ≤ 32 → lowX M r k = iter bitStep n (lowTo r k) := by
  intro k
  induction k with
  | zero => intro _; rw [lowX, lowTo, iter_zero]
  | succ k ih =>
    intro hk
    rw [lowX, lowTo, ih (by omega), iter_xor]
    congr 1
    split
    · exact h.2 k (by omega)
    · rw [iter_zero]
theorem apply_iter {M : List R} {n : Nat} (h : IsIter M n) (r : R) : lowX M r 32 = iter bitStep n r := by
  rw [lowX_iter h r 32 (Nat.le_refl _), lowTo_all]

def combine (a b : R) (n : Int) : R := if n < 0 then 0 else zeros n.toNat a ^^^ b
theorem step_zero (r : R) : step r 0 = iter bitStep 8 r := by unfold step; simp
theorem zeros_succ (k : Nat) (a : R) : zeros (k + 1) a = step (zeros k a) 0 := iter_succ _ k a

/- the chapter's examples -/
def exFlip : List (BitVec 8) := [0x80, 1]
def exSeal : List (BitVec 8) := [0, 0, 0, 0]
theorem ex_open : opened [0, 0, 0, 0] = [] ∧ openCode [0, 0, 0, 0] = 0 := by decide +kernel
theorem ex_flip : flipped [0, 0] 7 3 = exFlip ∧ flipCode [0, 0] 7 3 = 0 := by decide +kernel
theorem ex_sum1 : sum [49, 50, 51, 52, 53, 54, 55, 56, 57] = 3421780262 := by decide +kernel
theorem ex_sum2 : sum [0] = 3523407757 := by decide +kernel
theorem ex_seal : seal_ [] = exSeal := by decide +kernel

end Crc
