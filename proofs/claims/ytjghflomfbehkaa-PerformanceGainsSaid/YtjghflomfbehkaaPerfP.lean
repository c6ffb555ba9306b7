/- Order, gains, and climbs in parts. -/
import Derived.Test.YtjghflomfbehkaaPerfO
set_option linter.unusedSimpArgs false
namespace Go.Av
variable {A M : List Int} {t : List (List Int)}
theorem gi_row {alt : Int} {j : Nat} (hj : j < M.length) : gi (rowT A M t alt) j = V A (col t A.length j) alt := gi_map _ hj
/-- A table that falls with the altitude. -/
theorem T_altfall (h : TOk A M t) (hA : ∀ i j, 0 < i → i < A.length → j < M.length → tb t i j ≤ tb t (i - 1) j) {x y : Int} (hxy : x ≤ y) (mass : Int) : T A M t y mass ≤ T A M t x mass := by
  refine V_mono h.om.asc (fun j hj => ?_) h.om.pos mass
  rw [gi_row hj, gi_row hj]
  exact V_anti h.oa.asc _ h.oa.pos (fun k h1 h2 => by rw [gi_col t h2, gi_col t (by omega)]; exact hA k j h1 h2 hj) _ rfl hxy
theorem T_massfall (h : TOk A M t) (hM : ∀ i j, i < A.length → 0 < j → j < M.length → tb t i j ≤ tb t i (j - 1)) (alt : Int) {x y : Int} (hxy : x ≤ y) : T A M t alt y ≤ T A M t alt x := by
  refine V_anti h.om.asc _ h.om.pos (fun k h1 h2 => ?_) _ rfl hxy
  rw [gi_row h2, gi_row (by omega)]
  exact V_mono h.oa.asc (fun i hi => by rw [gi_col t hi, gi_col t hi]; exact hM i k hi h1 h2) h.oa.pos alt
theorem T_massrise (h : TOk A M t) (hM : ∀ i j, i < A.length → 0 < j → j < M.length → tb t i (j - 1) ≤ tb t i j) (alt : Int) {x y : Int} (hxy : x ≤ y) : T A M t alt x ≤ T A M t alt y := by
  have := V_rise h.om.asc (rowT A M t alt) 0 (by omega) h.om.pos (fun k h1 h2 => by
    rw [gi_row h2, gi_row (by omega)]
    have := V_mono h.oa.asc (l := col t A.length (k - 1)) (l' := col t A.length k) (fun i hi => by rw [gi_col t hi, gi_col t hi]; exact hM i k hi h1 h2) h.oa.pos alt
    omega) _ rfl hxy
  unfold T
  omega
theorem T_gentle (h : TOk A M t) (hG : ∀ i j, 0 < i → i < A.length → j < M.length → tb t (i - 1) j - tb t i j ≤ gi A i - gi A (i - 1)) {x y : Int} (hxy : x ≤ y) (mass : Int) : x + T A M t x mass ≤ y + T A M t y mass := by
  have e : ∀ z, V M ((List.range M.length).map fun j => V A (col t A.length j) z + z) mass = T A M t z mass + z := fun z =>
    V_add h.om.asc (l := rowT A M t z) (fun i hi => by rw [gi_map _ hi, gi_row hi]) h.om.pos mass
  have hx := e x
  have hy := e y
  have := V_mono h.om.asc (l := (List.range M.length).map fun j => V A (col t A.length j) x + x) (l' := (List.range M.length).map fun j => V A (col t A.length j) y + y) (fun j hj => by
    rw [gi_map _ hj, gi_map _ hj]
    have := V_rise h.oa.asc (col t A.length j) 1 (by omega) h.oa.pos (fun k h1 h2 => by
      rw [gi_col t h2, gi_col t (by omega)]
      have := hG k j h1 h2 hj
      omega) _ rfl hxy
    omega) h.om.pos mass
  omega
/-! ### Climbs -/
variable {p : T25}
theorem gs_mono (F : GoodP p) (mass : Int) {a b : Int} (h : a ≤ b) : gs p mass a ≤ gs p mass b := by
  have h1 := T_gentle F.tC F.cG h mass
  have hb := T_bound F.tC b mass
  have ha := T_bound F.tC a mass
  unfold gs
  split <;> split <;> (try split) <;> (try split) <;> omega
theorem gs_gain (F : GoodP p) (mass : Int) {a b : Int} (h : a ≤ b) : gs p mass b - b ≤ gs p mass a - a := by
  have h1 := T_altfall F.tC F.cA h mass
  have hb := T_bound F.tC b mass
  have ha := T_bound F.tC a mass
  unfold gs
  split <;> split <;> (try split) <;> (try split) <;> omega
theorem gs_mass (F : GoodP p) {m n : Int} (h : m ≤ n) (a : Int) : gs p n a ≤ gs p m a := by
  have h1 := T_massfall F.tC F.cM a h
  unfold gs
  split <;> (try split) <;> (try split) <;> omega
theorem gs_up (F : GoodP p) (mass a : Int) : a ≤ gs p mass a := by
  have ha := T_bound F.tC a mass
  unfold gs
  split <;> (try split) <;> omega
theorem gs_ceil (mass a c : Int) (hc : p.Ceiling ≤ c) (ha : a ≤ c) : gs p mass a ≤ c := by
  unfold gs
  split <;> (try split) <;> omega
theorem R_mono (F : GoodP p) (mass : Int) : ∀ (n : Nat) {a b : Int}, a ≤ b → R p mass n a ≤ R p mass n b
  | 0, _, _, h => h
  | n + 1, _, _, h => R_mono F mass n (gs_mono F mass h)
theorem R_gain (F : GoodP p) (mass : Int) : ∀ (n : Nat) {a b : Int}, a ≤ b → R p mass n b - b ≤ R p mass n a - a
  | 0, _, _, h => by simp only [R]; omega
  | n + 1, a, b, h => by
    have h1 := gs_gain F mass h
    have h2 := R_gain F mass n (gs_mono F mass h)
    simp only [R]
    omega
theorem R_mass (F : GoodP p) {m k : Int} (h : m ≤ k) : ∀ (n : Nat) (a : Int), R p k n a ≤ R p m n a
  | 0, a => Int.le_refl _
  | n + 1, a => Int.le_trans (R_mass F h n _) (R_mono F m n (gs_mass F h a))
theorem R_up (F : GoodP p) (mass : Int) : ∀ (n : Nat) (a : Int), a ≤ R p mass n a
  | 0, a => Int.le_refl _
  | n + 1, a => Int.le_trans (gs_up F mass a) (R_up F mass n _)
theorem R_ceil (mass c : Int) (hc : p.Ceiling ≤ c) : ∀ (n : Nat) (a : Int), a ≤ c → R p mass n a ≤ c
  | 0, _, h => h
  | n + 1, a, h => R_ceil mass c hc n _ (gs_ceil mass a c hc h)
theorem R_in (F : GoodP p) (mass : Int) : ∀ (n : Nat) (a : Int), -200000 ≤ a ∧ a ≤ 6000000 → -200000 ≤ R p mass n a ∧ R p mass n a ≤ 6000000
  | 0, _, h => h
  | n + 1, _, h => R_in F mass n _ (gs_in F h)
theorem R_add (mass : Int) : ∀ (n m : Nat) (a : Int), R p mass (n + m) a = R p mass m (R p mass n a)
  | 0, m, a => by rw [Nat.zero_add]; rfl
  | n + 1, m, a => by rw [show n + 1 + m = (n + m) + 1 by omega]; exact R_add mass n m _
/-! ### The laws -/
def loS (a b : T31) : T31 := ⟨(if b.Alt < a.Alt then b.Alt else a.Alt), (if b.Mass < a.Mass then b.Mass else a.Mass), (if b.N < a.N then b.N else a.N)⟩
def hiS (a b : T31) : T31 := ⟨(if a.Alt < b.Alt then b.Alt else a.Alt), (if a.Mass < b.Mass then b.Mass else a.Mass), (if a.N < b.N then b.N else a.N)⟩
theorem s12 (a b : T31) : m12 a b = some (loS a b) := rfl
theorem s13 (a b : T31) : m13 a b = some (hiS a b) := rfl
theorem min_le (x y : Int) : (if y < x then y else x) ≤ x ∧ (if y < x then y else x) ≤ y ∧ ((if y < x then y else x) = x ∨ (if y < x then y else x) = y) := by split <;> omega
theorem max_ge (x y : Int) : x ≤ (if x < y then y else x) ∧ y ≤ (if x < y then y else x) ∧ ((if x < y then y else x) = x ∨ (if x < y then y else x) = y) := by split <;> omega
theorem lo_hi (a b : T31) : (loS a b).Alt ≤ (hiS a b).Alt ∧ (loS a b).Mass ≤ (hiS a b).Mass ∧ (loS a b).N ≤ (hiS a b).N := by
  unfold loS hiS
  simp only
  refine ⟨?_, ?_, ?_⟩ <;> (split <;> split <;> omega)
theorem rng_of {alt mass : Int} (h1 : -200000 ≤ alt ∧ alt ≤ 6000000) (h2 : 1 ≤ mass ∧ mass ≤ 3000000000) : rng alt mass = true := by
  unfold rng inI
  simp only [h1, h2, decide_true, Bool.and_true]
theorem inI_of {lo hi x : Int} (h : lo ≤ x ∧ x ≤ hi) : inI lo hi x = true := by
  unfold inI
  simp only [h, decide_true, Bool.and_true]
theorem ne_of_zero {c : Int} (h : c ≠ 0) : (c != 0) = true := by simpa using h
theorem plain4 {p : T25} {s : T32} (h : ok25 p) (_ : ok32 s) : m4 p s = some true := by
  obtain ⟨l1, l2, _⟩ := lo_hi s.e0 s.e1
  simp only [m4_1, m4, awake, s12, s13, decide_true, decide_false, Bool.false_eq_true, if_true, if_false, Bool.not_true, Bool.not_false, Bool.or_true, Bool.or_false, Bool.true_or, Bool.false_or, Bool.and_true, Bool.and_false, Bool.true_and, Bool.false_and, Option.bind_some, true_implies, false_implies, implies_true]
  generalize loS s.e0 s.e1 = L at l1 l2 ⊢
  generalize hiS s.e0 s.e1 = H at l1 l2 ⊢
  generalize (if 3000 < L.N then 3000 else L.N) = n
  obtain ⟨x, x1, _, x3, x4, x5⟩ := q14 h L.Alt L.Mass n
  obtain ⟨y, y1, _, y3, y4, y5⟩ := q14 h H.Alt L.Mass n
  obtain ⟨z, z1, _, z3, z4, z5⟩ := q14 h L.Alt H.Mass n
  simp only [x1, y1, z1, decide_true, decide_false, Bool.false_eq_true, if_true, if_false, Bool.not_true, Bool.not_false, Bool.or_true, Bool.or_false, Bool.true_or, Bool.false_or, Bool.and_true, Bool.and_false, Bool.true_and, Bool.false_and, Option.bind_some, true_implies, false_implies, implies_true]
  by_cases cx : x.2 = 0
  · by_cases cy : y.2 = 0
    · by_cases cz : z.2 = 0
      · obtain ⟨g, rx, rn⟩ := x3.1 cx
        obtain ⟨_, ry, _⟩ := y3.1 cy
        obtain ⟨_, rz, _⟩ := z3.1 cz
        have F := facts g
        have b1 := rng_b rx
        have b2 := rng_b ry
        have b3 := rng_b rz
        have e1 := x4 cx
        have e2 := y4 cy
        have e3 := z4 cz
        have f1 := R_mono F L.Mass n.toNat l1
        have f2 := R_gain F L.Mass n.toNat l1
        have f3 := R_mass F l2 n.toNat L.Alt
        have f4 := R_up F H.Mass n.toNat L.Alt
        have f5 := R_ceil (p := p) L.Mass (if L.Alt < p.Ceiling then p.Ceiling else L.Alt) (by split <;> omega) n.toNat L.Alt (by split <;> omega)
        have f6 := R_ceil (p := p) L.Mass (if H.Alt < p.Ceiling then p.Ceiling else H.Alt) (by split <;> omega) n.toNat H.Alt (by split <;> omega)
        have f7 := R_in F L.Mass n.toNat _ b1.1
        have f8 := R_in F L.Mass n.toNat _ b2.1
        rw [← e1] at f1 f2 f3 f5 f7
        rw [← e2] at f1 f2 f6 f8
        rw [← e3] at f3 f4
        have w1 : IntKind.wrap .i64 (y.1 - H.Alt) = y.1 - H.Alt := w64 (by omega) (by omega)
        have w2 : IntKind.wrap .i64 (x.1 - L.Alt) = x.1 - L.Alt := w64 (by omega) (by omega)
        have z0 : ((0 : Int) != 0) = false := rfl
        simp only [cx, cy, cz, z0, w1, w2, f1, f2, f3, f4, f5, f6, decide_true, decide_false, Bool.false_eq_true, if_true, if_false, Bool.not_true, Bool.not_false, Bool.or_true, Bool.or_false, Bool.true_or, Bool.false_or, Bool.and_true, Bool.and_false, Bool.true_and, Bool.false_and, Option.bind_some, true_implies, false_implies, implies_true]
      · have := z5 cz
        simp only [ne_of_zero cz, this, beq_self_eq_true, decide_true, decide_false, Bool.false_eq_true, if_true, if_false, Bool.not_true, Bool.not_false, Bool.or_true, Bool.or_false, Bool.true_or, Bool.false_or, Bool.and_true, Bool.and_false, Bool.true_and, Bool.false_and, Option.bind_some, true_implies, false_implies, implies_true]
    · have := y5 cy
      simp only [ne_of_zero cy, this, beq_self_eq_true, decide_true, decide_false, Bool.false_eq_true, if_true, if_false, Bool.not_true, Bool.not_false, Bool.or_true, Bool.or_false, Bool.true_or, Bool.false_or, Bool.and_true, Bool.and_false, Bool.true_and, Bool.false_and, Option.bind_some, true_implies, false_implies, implies_true]
  · have := x5 cx
    simp only [ne_of_zero cx, this, beq_self_eq_true, decide_true, decide_false, Bool.false_eq_true, if_true, if_false, Bool.not_true, Bool.not_false, Bool.or_true, Bool.or_false, Bool.true_or, Bool.false_or, Bool.and_true, Bool.and_false, Bool.true_and, Bool.false_and, Option.bind_some, true_implies, false_implies, implies_true]
theorem plain5 {p : T25} {x : T31} {more : Int} (h : ok25 p) (_ : ok31 x) (_ : (Lit.int .i64 more).wf = true) : m5 p x more = some true := by
  have hn : (if 3000 < x.N then 3000 else x.N) ≤ 3000 := by split <;> omega
  have hm : (if 3000 < more then 3000 else more) ≤ 3000 := by split <;> omega
  simp only [m5_1, m5, awake, decide_true, decide_false, Bool.false_eq_true, if_true, if_false, Bool.not_true, Bool.not_false, Bool.or_true, Bool.or_false, Bool.true_or, Bool.false_or, Bool.and_true, Bool.and_false, Bool.true_and, Bool.false_and, Option.bind_some, true_implies, false_implies, implies_true]
  generalize (if 3000 < x.N then 3000 else x.N) = n at hn ⊢
  generalize (if 3000 < more then 3000 else more) = m at hm ⊢
  by_cases c : n < 0 ∨ m < 0
  · have c1 : (decide (n < 0) || decide (m < 0)) = true := by simpa using c
    have c2 : (if m < n then m else n) < 0 := by split <;> omega
    generalize (if m < n then m else n) = k at c2 ⊢
    obtain ⟨y, y1, _, y3, _⟩ := q14 h x.Alt x.Mass k
    have : y.2 ≠ 0 := fun e => by have := inI_iff (y3.1 e).2.2; omega
    simp only [c1, y1, ne_of_zero this, decide_true, decide_false, Bool.false_eq_true, if_true, if_false, Bool.not_true, Bool.not_false, Bool.or_true, Bool.or_false, Bool.true_or, Bool.false_or, Bool.and_true, Bool.and_false, Bool.true_and, Bool.false_and, Option.bind_some, true_implies, false_implies, implies_true]
  · have c1 : (decide (n < 0) || decide (m < 0)) = false := by simpa using c
    obtain ⟨y, y1, _, y3, y4, y5⟩ := q14 h x.Alt x.Mass n
    simp only [c1, y1, decide_true, decide_false, Bool.false_eq_true, if_true, if_false, Bool.not_true, Bool.not_false, Bool.or_true, Bool.or_false, Bool.true_or, Bool.false_or, Bool.and_true, Bool.and_false, Bool.true_and, Bool.false_and, Option.bind_some, true_implies, false_implies, implies_true]
    by_cases cy : y.2 = 0
    · obtain ⟨g, ry, rn⟩ := y3.1 cy
      have F := facts g
      have b := rng_b ry
      have e1 := y4 cy
      have f7 := R_in F x.Mass n.toNat _ b.1
      rw [← e1] at f7
      have w : IntKind.wrap .i64 (n + m) = n + m := w64 (by omega) (by omega)
      obtain ⟨z, z1, _, z3, z4, _⟩ := q14 h y.1 x.Mass m
      obtain ⟨v, v1, _, v3, v4, _⟩ := q14 h x.Alt x.Mass (n + m)
      have cz : z.2 = 0 := z3.2 ⟨g, rng_of f7 b.2, inI_of (by omega)⟩
      have cv : v.2 = 0 := v3.2 ⟨g, ry, inI_of (by omega)⟩
      have e : z.1 = v.1 := by
        rw [z4 cz, v4 cv, e1, show (n + m).toNat = n.toNat + m.toNat by omega, R_add]
      have z0 : ((0 : Int) != 0) = false := rfl
      simp only [cy, z0, w, z1, v1, cz, cv, e, beq_self_eq_true, decide_true, decide_false, Bool.false_eq_true, if_true, if_false, Bool.not_true, Bool.not_false, Bool.or_true, Bool.or_false, Bool.true_or, Bool.false_or, Bool.and_true, Bool.and_false, Bool.true_and, Bool.false_and, Option.bind_some, true_implies, false_implies, implies_true]
    · have := y5 cy
      simp only [ne_of_zero cy, this, beq_self_eq_true, decide_true, decide_false, Bool.false_eq_true, if_true, if_false, Bool.not_true, Bool.not_false, Bool.or_true, Bool.or_false, Bool.true_or, Bool.false_or, Bool.and_true, Bool.and_false, Bool.true_and, Bool.false_and, Option.bind_some, true_implies, false_implies, implies_true]
theorem cf_mono (F : GoodP p) {a a' m m' n n' : Int} (ha : a ≤ a') (hm : m ≤ m') (hn : n ≤ n') : cf p a' m n ≤ cf p a m' n' := by
  have h1 := T_altfall F.tR F.rA ha m
  have h2 := T_massrise F.tR F.rM a hm
  have h3 := T_bound F.tR a' m
  have hx := F.ext
  have h4 : mx (n - p.Ref) ≤ mx (n' - p.Ref) := by unfold mx; split <;> split <;> omega
  have h5 : 0 ≤ mx (n - p.Ref) := by unfold mx; split <;> omega
  have h6 := Int.mul_le_mul_of_nonneg_left h4 hx.1
  have h7 := Int.mul_nonneg hx.1 h5
  have h8 := Int.mul_le_mul (Int.le_trans h1 h2) (show 1000 + p.Extra * mx (n - p.Ref) ≤ 1000 + p.Extra * mx (n' - p.Ref) by omega) (by omega) (by have := T_bound F.tR a m'; omega)
  have h9 := Int.ediv_le_ediv (c := 1000) (by omega) h8
  unfold cf
  split <;> split <;> omega
theorem plain7 {p : T25} {s : T32} (h : ok25 p) (_ : ok32 s) : m7 p s = some true := by
  obtain ⟨l1, l2, l3⟩ := lo_hi s.e0 s.e1
  have k1 := min_le s.e0.Alt s.e1.Alt
  have k2 := min_le s.e0.Mass s.e1.Mass
  have k3 := min_le s.e0.N s.e1.N
  have k4 := max_ge s.e0.Alt s.e1.Alt
  have k5 := max_ge s.e0.Mass s.e1.Mass
  have k6 := max_ge s.e0.N s.e1.N
  obtain ⟨c, c1, _, c3⟩ := both h
  simp only [m7_1, m7, awake, s12, s13, c1, decide_true, decide_false, Bool.false_eq_true, if_true, if_false, Bool.not_true, Bool.not_false, Bool.or_true, Bool.or_false, Bool.true_or, Bool.false_or, Bool.and_true, Bool.and_false, Bool.true_and, Bool.false_and, Option.bind_some, true_implies, false_implies, implies_true]
  change (if _ < _ then _ else _) ≤ _ ∧ _ at k1
  have e1 : (loS s.e0 s.e1).Alt = if s.e1.Alt < s.e0.Alt then s.e1.Alt else s.e0.Alt := rfl
  have e2 : (loS s.e0 s.e1).Mass = if s.e1.Mass < s.e0.Mass then s.e1.Mass else s.e0.Mass := rfl
  have e3 : (loS s.e0 s.e1).N = if s.e1.N < s.e0.N then s.e1.N else s.e0.N := rfl
  have e4 : (hiS s.e0 s.e1).Alt = if s.e0.Alt < s.e1.Alt then s.e1.Alt else s.e0.Alt := rfl
  have e5 : (hiS s.e0 s.e1).Mass = if s.e0.Mass < s.e1.Mass then s.e1.Mass else s.e0.Mass := rfl
  have e6 : (hiS s.e0 s.e1).N = if s.e0.N < s.e1.N then s.e1.N else s.e0.N := rfl
  rw [← e1] at k1
  rw [← e2] at k2
  rw [← e3] at k3
  rw [← e4] at k4
  rw [← e5] at k5
  rw [← e6] at k6
  clear e1 e2 e3 e4 e5 e6
  generalize loS s.e0 s.e1 = L at l1 l2 l3 k1 k2 k3 ⊢
  generalize hiS s.e0 s.e1 = H at l1 l2 l3 k4 k5 k6 ⊢
  by_cases good' : c = 0 ∧ -200000 ≤ L.Alt ∧ H.Alt ≤ 6000000 ∧ 1 ≤ L.Mass ∧ H.Mass ≤ 3000000000 ∧ 0 ≤ L.N ∧ H.N ≤ 4000
  · obtain ⟨rfl, g1, g2, g3, g4, g5, g6⟩ := good'
    have g := c3.1 rfl
    have F := facts g
    have z0 : ((0 : Int) != 0) = false := rfl
    have n1 : ¬ L.Alt < -200000 := by omega
    have n2 : ¬ 6000000 < H.Alt := by omega
    have n3 : ¬ L.Mass < 1 := by omega
    have n4 : ¬ 3000000000 < H.Mass := by omega
    have n5 : ¬ L.N < 0 := by omega
    have n6 : ¬ 4000 < H.N := by omega
    obtain ⟨a, a1, _, a3, a4, _⟩ := q18 h L.Alt L.Mass
    obtain ⟨b, b1, _, b3, b4, _⟩ := q18 h H.Alt H.Mass
    obtain ⟨d, d1, _, d3, d4, _⟩ := q19 h H.Alt L.Mass
    obtain ⟨e, e1, _, e3, e4, _⟩ := q19 h L.Alt H.Mass
    obtain ⟨f, f1, _, f3, f4, _⟩ := q15 h H.Alt L.Mass L.N
    obtain ⟨i, i1, _, i3, i4, _⟩ := q15 h L.Alt H.Mass H.N
    obtain ⟨j, j1, _, j3, j4, _⟩ := q20 h L.Alt
    obtain ⟨k, k1, _, k3, k4, _⟩ := q20 h H.Alt
    have ca : a.2 = 0 := a3.2 ⟨g, rng_of (by omega) (by omega)⟩
    have cb : b.2 = 0 := b3.2 ⟨g, rng_of (by omega) (by omega)⟩
    have cd : d.2 = 0 := d3.2 ⟨g, rng_of (by omega) (by omega)⟩
    have ce : e.2 = 0 := e3.2 ⟨g, rng_of (by omega) (by omega)⟩
    have cg : f.2 = 0 := f3.2 ⟨g, rng_of (by omega) (by omega), inI_of (by omega)⟩
    have ci : i.2 = 0 := i3.2 ⟨g, rng_of (by omega) (by omega), inI_of (by omega)⟩
    have cj : j.2 = 0 := j3.2 ⟨g, rng_of (by omega) (by omega)⟩
    have ck : k.2 = 0 := k3.2 ⟨g, rng_of (by omega) (by omega)⟩
    have o1 : ¬ a.1 < b.1 := by
      rw [a4 ca, b4 cb]
      have := T_altfall F.tC F.cA l1 L.Mass
      have := T_massfall F.tC F.cM H.Alt l2
      omega
    have o2 : ¬ e.1 < d.1 := by
      rw [e4 ce, d4 cd]
      have := T_altfall F.tF F.fA l1 L.Mass
      have := T_massrise F.tF F.fM L.Alt l2
      omega
    have o3 : ¬ i.1 < f.1 := by
      rw [i4 ci, f4 cg]
      have := cf_mono F l1 l2 l3
      omega
    have o4 : j.1 ≤ k.1 ∧ 1 ≤ j.1 := by
      rw [j4 cj, k4 ck]
      have := V_rise F.A.asc p.Descent 0 (by omega) F.A.pos (fun k h1 h2 => by have := F.dD k h1 h2; omega) _ rfl l1
      have := V_bound F.A.asc (l := p.Descent) (a := 1) (b := 10000) (fun i hi => F.bD i (by rw [F.lD]; exact hi)) F.A.pos L.Alt
      omega
    have z1 : ((0 : Int) == 0) = true := rfl
    simp only [z0, z1, n1, n2, n3, n4, n5, n6, a1, b1, d1, e1, f1, i1, j1, k1, ca, cb, cd, ce, cg, ci, cj, ck, o1, o2, o3, o4, decide_true, decide_false, Bool.false_eq_true, if_true, if_false, Bool.not_true, Bool.not_false, Bool.or_true, Bool.or_false, Bool.true_or, Bool.false_or, Bool.and_true, Bool.and_false, Bool.true_and, Bool.false_and, Option.bind_some, true_implies, false_implies, implies_true]
  · have q : ((((((c != 0) || decide (L.Alt < -200000)) || decide (6000000 < H.Alt)) || decide (L.Mass < 1)) || decide (3000000000 < H.Mass)) || decide (L.N < 0) || decide (4000 < H.N)) = true := by
      by_cases hc : c = 0
      · simp only [Bool.or_eq_true, decide_eq_true_eq, bne_iff_ne, ne_eq]
        omega
      · rw [ne_of_zero hc]; rfl
    obtain ⟨a, a1, _, a3, _⟩ := q15 h s.e0.Alt s.e0.Mass s.e0.N
    obtain ⟨b, b1, _, b3, _⟩ := q15 h s.e1.Alt s.e1.Mass s.e1.N
    have : ¬ (a.2 = 0 ∧ b.2 = 0) := fun ⟨x, y⟩ => good' (by
      obtain ⟨g, r1, r2⟩ := a3.1 x
      obtain ⟨_, r3, r4⟩ := b3.1 y
      have u1 := rng_b r1
      have u2 := inI_iff r2
      have u3 := rng_b r3
      have u4 := inI_iff r4
      exact ⟨c3.2 g, by omega, by omega, by omega, by omega, by omega, by omega⟩)
    have w : ((a.2 != 0) || (b.2 != 0)) = true := by
      by_cases x : a.2 = 0
      · rw [ne_of_zero fun y => this ⟨x, y⟩, Bool.or_true]
      · rw [ne_of_zero x]; rfl
    simp only [q, a1, b1, w, decide_true, decide_false, Bool.false_eq_true, if_true, if_false, Bool.not_true, Bool.not_false, Bool.or_true, Bool.or_false, Bool.true_or, Bool.false_or, Bool.and_true, Bool.and_false, Bool.true_and, Bool.false_and, Option.bind_some, true_implies, false_implies, implies_true]
end Go.Av
