/- Tables, in both packages. -/
import Derived.Test.YtjghflomfbehkaaPerfL
set_option linter.unusedSimpArgs false
namespace Go.Av
/-- Between two places: a list that falls. -/
theorem interp_anti {P : List Int} (hP : Asc P) (l : List Int) {k : Nat} (h1 : 0 < k) (h2 : k < P.length) (hl : gi l k ≤ gi l (k - 1)) {x y : Int} (hxy : x ≤ y) : interp P l y k ≤ interp P l x k := by
  have hd := hP (k - 1) k (by omega) h2
  unfold interp
  refine Int.add_le_add_left (Int.ediv_le_ediv (by omega) ?_) _
  exact Int.mul_le_mul_of_nonpos_left (by omega) (by omega)
theorem V_anti1 {P : List Int} (hP : Asc P) (l : List Int) (h0 : 0 < P.length) (hl : ∀ k, 0 < k → k < P.length → gi l k ≤ gi l (k - 1)) {x y : Int} (hxy : x ≤ y) (hk : kOf P x = kOf P y) : V P l y ≤ V P l x := by
  unfold V valAt
  rw [← hk]
  have := kOf_le P x
  split
  · omega
  · split
    · omega
    · exact interp_anti hP l (by omega) (by omega) (hl _ (by omega) (by omega)) hxy
theorem V_anti {P : List Int} (hP : Asc P) (l : List Int) (h0 : 0 < P.length) (hl : ∀ k, 0 < k → k < P.length → gi l k ≤ gi l (k - 1)) : ∀ (n : Nat) {x y : Int}, kOf P y - kOf P x = n → x ≤ y → V P l y ≤ V P l x
  | 0, x, y, hn, hxy => V_anti1 hP l h0 hl hxy (by have := kOf_mono (P := P) hxy; omega)
  | n + 1, x, y, hn, hxy => by
    have hlt : kOf P x < P.length := by have := kOf_le P y; omega
    have h1 : x ≤ gi P (kOf P x) := kOf_ge hlt
    have h2 : gi P (kOf P x) < y := kOf_lt (by omega)
    have e : kOf P (gi P (kOf P x)) = kOf P x := (below_kOf P _).uniq ⟨by omega, fun j hj => hP j _ hj hlt, fun _ => by omega⟩
    have a1 := V_anti1 hP l h0 hl h1 e.symm
    have e2 : kOf P (gi P (kOf P x) + 1) = kOf P x + 1 := (below_kOf P _).uniq ⟨by omega, fun j hj => by
      rcases Nat.lt_or_ge j (kOf P x) with h | h
      · have := hP j _ h hlt; omega
      · obtain rfl : j = kOf P x := by omega
        omega, fun h => by have := hP (kOf P x) (kOf P x + 1) (by omega) h; omega⟩
    have a2 := V_anti hP l h0 hl n (x := gi P (kOf P x) + 1) (y := y) (by omega) (by omega)
    have a3 : V P l (gi P (kOf P x) + 1) ≤ V P l (gi P (kOf P x)) := by
      rw [V_at hP l hlt]
      unfold V valAt
      rw [e2, if_neg (by omega)]
      split
      · rw [Nat.add_sub_cancel]; omega
      · have b := interp_anti hP l (k := kOf P x + 1) (by omega) (by have := kOf_le P (gi P (kOf P x) + 1); omega) (hl _ (by omega) (by have := kOf_le P (gi P (kOf P x) + 1); omega)) (x := gi P (kOf P x)) (y := gi P (kOf P x) + 1) (by omega)
        rw [interp_bot (x := gi P (kOf P x)) (by rw [Nat.add_sub_cancel]), Nat.add_sub_cancel] at b
        exact b
    omega
/-- A column of a table. -/
def col (t : List (List Int)) (n j : Nat) : List Int := (List.range n).map fun i => tb t i j
theorem gi_map (f : Nat → Int) {n i : Nat} (h : i < n) : gi ((List.range n).map f) i = f i := by
  unfold gi
  rw [List.getD_eq_getElem?_getD, List.getElem?_map, List.getElem?_range h, Option.map_some, Option.getD_some]
theorem gi_out {l : List Int} {i : Nat} (h : l.length ≤ i) : gi l i = 0 := by
  unfold gi
  rw [List.getD_eq_getElem?_getD, List.getElem?_eq_none h]; rfl
theorem gi_col (t : List (List Int)) {n i j : Nat} (h : i < n) : gi (col t n j) i = tb t i j := gi_map _ h
def rowT (A M : List Int) (t : List (List Int)) (alt : Int) : List Int := (List.range M.length).map fun j => V A (col t A.length j) alt
/-- The value of a table. -/
def T (A M : List Int) (t : List (List Int)) (alt mass : Int) : Int := V M (rowT A M t alt) mass
structure POk (P : List Int) : Prop where
  fit : P.length ≤ maxLen
  small : P.length ≤ 100000
  pos : 0 < P.length
  asc : Asc P
  b : ∀ i, -10000000000 ≤ gi P i ∧ gi P i ≤ 10000000000
structure TOk (A M : List Int) (t : List (List Int)) : Prop where
  oa : POk A
  om : POk M
  len : t.length = A.length
  sh : Sh M.length t
  b : ∀ i j, 0 ≤ tb t i j ∧ tb t i j ≤ 100000
theorem gi_all {l : List Int} {p : Int → Prop} (h0 : p 0) (h : ∀ i, i < l.length → p (gi l i)) (i : Nat) : p (gi l i) := by
  by_cases hi : i < l.length
  · exact h i hi
  · rw [gi_out (by omega)]; exact h0
theorem vb_of {P l : List Int} {x : Int} (hP : POk P) (hl : l.length = P.length) (hb : ∀ i, i < l.length → 0 ≤ gi l i ∧ gi l i ≤ 100000) (hx : -10000000000 ≤ x ∧ x ≤ 10000000000) : Vb P l x :=
  ⟨hP.fit, hl, hP.pos, gi_all (p := fun y => 0 ≤ y ∧ y ≤ 100000) (by omega) hb, hP.b, hx, hP.asc⟩
theorem vb_col {A M : List Int} {t : List (List Int)} (h : TOk A M t) (j : Nat) {x : Int} (hx : -10000000000 ≤ x ∧ x ≤ 10000000000) : Vb A (col t A.length j) x :=
  vb_of h.oa (by simp [col]) (fun i hi => by rw [gi_col t (by simpa [col] using hi)]; exact h.b i j) hx
theorem col_bound {A M : List Int} {t : List (List Int)} (h : TOk A M t) (j : Nat) (x : Int) : 0 ≤ V A (col t A.length j) x ∧ V A (col t A.length j) x ≤ 100000 :=
  V_bound h.oa.asc (fun i hi => by rw [gi_col t hi]; exact h.b i j) h.oa.pos x
theorem vb_row {A M : List Int} {t : List (List Int)} (h : TOk A M t) (alt : Int) {x : Int} (hx : -10000000000 ≤ x ∧ x ≤ 10000000000) : Vb M (rowT A M t alt) x :=
  vb_of h.om (by simp [rowT]) (fun i hi => by unfold rowT; rw [gi_map _ (by simpa [rowT] using hi)]; exact col_bound h i alt) hx
/-- A list of which the first i elements are f's. -/
def Fill (n : Nat) (f : Nat → Int) (i : Nat) (l : List Int) : Prop := l.length = n ∧ ∀ q, q < i → gi l q = f q
theorem Fill.set {n : Nat} {f : Nat → Int} {i : Nat} {l : List Int} (h : Fill n f i l) (hi : i < n) {v : Int} (hv : v = f i) : Fill n f (i + 1) (l.set i v) := by
  refine ⟨by rw [List.length_set, h.1], fun q hq => ?_⟩
  unfold gi
  rw [List.getD_eq_getElem?_getD, List.getElem?_set]
  split
  · rename_i e; subst e; rw [if_pos (by rw [h.1]; exact hi), Option.getD_some, hv]
  · have := h.2 q (by omega)
    unfold gi at this
    rw [← List.getD_eq_getElem?_getD]; exact this
theorem Fill.done {n : Nat} {f : Nat → Int} {l : List Int} (h : Fill n f n l) : l = (List.range n).map f := by
  apply List.ext_getElem?
  intro i
  by_cases hi : i < n
  · have := h.2 i hi
    unfold gi at this
    rw [List.getElem?_map, List.getElem?_range hi, Option.map_some, ← this, List.getD_eq_getElem?_getD, List.getElem?_eq_getElem (by rw [h.1]; exact hi), Option.getD_some]
  · rw [List.getElem?_eq_none (by rw [h.1]; omega), List.getElem?_eq_none (by simp; omega)]
theorem Fill.start (n : Nat) (f : Nat → Int) {l : List Int} (h : l.length = n) : Fill n f 0 l := ⟨h, fun q hq => by omega⟩
theorem in50 {p : T25} {t : List (List Int)} (h : TOk p.Alts p.Masses t) (alt mass : Int) {j : Nat} (hj : j < p.Masses.length) (l c : List Int) (hc : c.length = p.Alts.length) :
    loopO (b50_15 p t alt mass ((j : Int), l, c)) (0, c) = some ((p.Alts.length : Int), col t p.Alts.length j) := by
  have hm := h.oa.small
  have hm2 := h.om.small
  obtain ⟨x, h1, h2⟩ := loop_for (b := b50_15 p t alt mass ((j : Int), l, c)) (fun i (s : Int × List Int) => s.1 = (i : Int) ∧ Fill p.Alts.length (fun i => tb t i j) i s.2) (fun x => x = ((p.Alts.length : Int), col t p.Alts.length j)) p.Alts.length
    (fun i s hi hs => by
      obtain ⟨i', l'⟩ := s
      obtain ⟨rfl, hf⟩ := hs
      have w : IntKind.wrap .i64 ((i : Int) + 1) = ((i + 1 : Nat) : Int) := by rw [w64 (by omega) (by omega)]; omega
      have d0 : (i : Int) < (p.Alts.length : Int) := by omega
      have d1 : (0 : Int) ≤ (i : Int) := by omega
      have d2 : (i : Int) < (t.length : Int) := by rw [h.len]; omega
      have d3 : (0 : Int) ≤ (j : Int) := by omega
      have d4 : (j : Int) < ((t.getD i default).length : Int) := by rw [h.sh i (by rw [h.len]; exact hi)]; omega
      have d5 : i < l'.length := by rw [hf.1]; exact hi
      refine ⟨(((i + 1 : Nat) : Int), l'.set i (tb t i j)), ?_, rfl, hf.set hi rfl⟩
      simp only [b50_15, m50_1, m50_2, m50_3, m50_4, m50_7, m50_8, m50_9, m50_10, m50_13, m50_15, m50_16, m50_17, m50_19, m50_21, m50_22, m50_23, m50_25, m50_27, m50_28, m50_29, m50_31, m50_32, m50_33, m50_35, m50_36, m50_37, m50_38, m50_39, m50, Int.toNat_natCast, d0, d1, d2, d3, d4, d5, decide_true, if_true, w]
      rfl)
    (fun s hs => by
      obtain ⟨i', l'⟩ := s
      obtain ⟨rfl, hf⟩ := hs
      have d0 : ¬ (p.Alts.length : Int) < (p.Alts.length : Int) := by omega
      refine ⟨((p.Alts.length : Int), l'), ?_, congrArg (Prod.mk (p.Alts.length : Int)) hf.done⟩
      simp only [b50_15, m50_1, m50_2, m50_3, m50_4, m50_7, m50_8, m50_9, m50_10, m50_13, m50_15, m50_16, m50_17, m50_19, m50_21, m50_22, m50_23, m50_25, m50_27, m50_28, m50_29, m50_31, m50_32, m50_33, m50_35, m50_36, m50_37, m50_38, m50_39, m50, Int.toNat_natCast, d0, decide_false, Bool.false_eq_true, if_false]
      rfl)
    (0, c) ⟨rfl, Fill.start _ _ hc⟩
  rw [h1, h2]
theorem t50 {p : T25} {t : List (List Int)} (h : TOk p.Alts p.Masses t) {alt mass : Int} (ha : -10000000000 ≤ alt ∧ alt ≤ 10000000000) (hb : -10000000000 ≤ mass ∧ mass ≤ 10000000000) : m50 p t alt mass = some (T p.Alts p.Masses t alt mass) := by
  have hm := h.oa.small
  have hm2 := h.om.small
  obtain ⟨x, h1, h2⟩ := loop_for (b := b50_31 p t alt mass) (fun j (s : Int × List Int × List Int) => s.1 = (j : Int) ∧ Fill p.Masses.length (fun j => V p.Alts (col t p.Alts.length j) alt) j s.2.1 ∧ s.2.2.length = p.Alts.length) (fun x => x.2.1 = rowT p.Alts p.Masses t alt) p.Masses.length
    (fun j s hj hs => by
      obtain ⟨j', l, c⟩ := s
      obtain ⟨rfl, hf, hc⟩ := hs
      have w : IntKind.wrap .i64 ((j : Int) + 1) = ((j + 1 : Nat) : Int) := by rw [w64 (by omega) (by omega)]; omega
      have d0 : (j : Int) < (p.Masses.length : Int) := by omega
      have d3 : (0 : Int) ≤ (j : Int) := by omega
      have d5 : j < l.length := by rw [hf.1]; exact hj
      have d6 : p.Alts.length = (col t p.Alts.length j).length := by simp [col]
      refine ⟨(((j + 1 : Nat) : Int), l.set j (V p.Alts (col t p.Alts.length j) alt), col t p.Alts.length j), ?_, rfl, hf.set hj rfl, d6.symm⟩
      simp only [b50_31, m50_1, m50_2, m50_3, m50_4, m50_7, m50_8, m50_9, m50_10, m50_13, m50_15, m50_16, m50_17, m50_19, m50_21, m50_22, m50_23, m50_25, m50_27, m50_28, m50_29, m50_31, m50_32, m50_33, m50_35, m50_36, m50_37, m50_38, m50_39, m50, Int.toNat_natCast, d0, decide_true, if_true, Option.bind_some, in50 h alt mass hj l c hc]
      simp only [v53 (vb_col h j ha), d0, d3, d5, d6.symm, Int.toNat_natCast, if_true, Option.bind_some, w]
      rfl)
    (fun s hs => by
      obtain ⟨j', l, c⟩ := s
      obtain ⟨rfl, hf, hc⟩ := hs
      have d0 : ¬ (p.Masses.length : Int) < (p.Masses.length : Int) := by omega
      refine ⟨((p.Masses.length : Int), l, c), ?_, hf.done⟩
      simp only [b50_31, m50_1, m50_2, m50_3, m50_4, m50_7, m50_8, m50_9, m50_10, m50_13, m50_15, m50_16, m50_17, m50_19, m50_21, m50_22, m50_23, m50_25, m50_27, m50_28, m50_29, m50_31, m50_32, m50_33, m50_35, m50_36, m50_37, m50_38, m50_39, m50, Int.toNat_natCast, d0, decide_false, Bool.false_eq_true, if_false, Option.bind_some]
      rfl)
    ((0 : Int), List.replicate p.Masses.length 0, List.replicate p.Alts.length 0) ⟨rfl, Fill.start _ _ (by simp), by simp⟩
  obtain ⟨x1, x2, x3⟩ := x
  simp only at h2
  subst h2
  have e1 : (0 : Int) ≤ (p.Masses.length : Int) := by omega
  have e2 : (p.Masses.length : Int) * 8 ≤ 140737488355328 := by omega
  have e3 : (p.Masses.length : Int) ≤ 9223372036854775807 := by omega
  have e4 : (0 : Int) ≤ (p.Alts.length : Int) := by omega
  have e5 : (p.Alts.length : Int) * 8 ≤ 140737488355328 := by omega
  have e6 : (p.Alts.length : Int) ≤ 9223372036854775807 := by omega
  have e7 : p.Masses.length = (rowT p.Alts p.Masses t alt).length := by simp [rowT]
  simp only [m50_1, m50_2, m50_3, m50_4, m50_7, m50_8, m50_9, m50_10, m50_13, m50_15, m50_16, m50_17, m50_19, m50_21, m50_22, m50_23, m50_25, m50_27, m50_28, m50_29, m50_31, m50_32, m50_33, m50_35, m50_36, m50_37, m50_38, m50_39, m50, Int.toNat_natCast, e1, e2, e3, e4, e5, e6, if_true, Option.bind_some, h1]
  simp only [e7.symm, if_true, v53 (vb_row h alt hb), Option.bind_some]
  rfl
theorem in52 {p : T25} {t : List (List Int)} (h : TOk p.Alts p.Masses t) (alt mass : Int) {j : Nat} (hj : j < p.Masses.length) (l c : List Int) (hc : c.length = p.Alts.length) :
    loopO (b52_15 p t alt mass ((j : Int), l)) (0, c) = some ((p.Alts.length : Int), col t p.Alts.length j) := by
  have hm := h.oa.small
  have hm2 := h.om.small
  obtain ⟨x, h1, h2⟩ := loop_for (b := b52_15 p t alt mass ((j : Int), l)) (fun i (s : Int × List Int) => s.1 = (i : Int) ∧ Fill p.Alts.length (fun i => tb t i j) i s.2) (fun x => x = ((p.Alts.length : Int), col t p.Alts.length j)) p.Alts.length
    (fun i s hi hs => by
      obtain ⟨i', l'⟩ := s
      obtain ⟨rfl, hf⟩ := hs
      have w : IntKind.wrap .i64 ((i : Int) + 1) = ((i + 1 : Nat) : Int) := by rw [w64 (by omega) (by omega)]; omega
      have d0 : (i : Int) < (p.Alts.length : Int) := by omega
      have d1 : (0 : Int) ≤ (i : Int) := by omega
      have d2 : (i : Int) < (t.length : Int) := by rw [h.len]; omega
      have d3 : (0 : Int) ≤ (j : Int) := by omega
      have d4 : (j : Int) < ((t.getD i default).length : Int) := by rw [h.sh i (by rw [h.len]; exact hi)]; omega
      have d5 : i < l'.length := by rw [hf.1]; exact hi
      refine ⟨(((i + 1 : Nat) : Int), l'.set i (tb t i j)), ?_, rfl, hf.set hi rfl⟩
      simp only [b52_15, m52_1, m52_2, m52_3, m52_6, m52_7, m52_8, m52_9, m52_10, m52_13, m52_15, m52_16, m52_17, m52_19, m52_21, m52_22, m52_23, m52_24, m52_26, m52_28, m52_29, m52_30, m52_32, m52_33, m52_34, m52_36, m52_37, m52_38, m52_39, m52, Int.toNat_natCast, d0, d1, d2, d3, d4, d5, decide_true, if_true, w]
      rfl)
    (fun s hs => by
      obtain ⟨i', l'⟩ := s
      obtain ⟨rfl, hf⟩ := hs
      have d0 : ¬ (p.Alts.length : Int) < (p.Alts.length : Int) := by omega
      refine ⟨((p.Alts.length : Int), l'), ?_, congrArg (Prod.mk (p.Alts.length : Int)) hf.done⟩
      simp only [b52_15, m52_1, m52_2, m52_3, m52_6, m52_7, m52_8, m52_9, m52_10, m52_13, m52_15, m52_16, m52_17, m52_19, m52_21, m52_22, m52_23, m52_24, m52_26, m52_28, m52_29, m52_30, m52_32, m52_33, m52_34, m52_36, m52_37, m52_38, m52_39, m52, Int.toNat_natCast, d0, decide_false, Bool.false_eq_true, if_false]
      rfl)
    (0, c) ⟨rfl, Fill.start _ _ hc⟩
  rw [h1, h2]
theorem t52 {p : T25} {t : List (List Int)} (h : TOk p.Alts p.Masses t) {alt mass : Int} (ha : -10000000000 ≤ alt ∧ alt ≤ 10000000000) (hb : -10000000000 ≤ mass ∧ mass ≤ 10000000000) : m52 p t alt mass = some (T p.Alts p.Masses t alt mass) := by
  have hm := h.oa.small
  have hm2 := h.om.small
  have e4 : (0 : Int) ≤ (p.Alts.length : Int) := by omega
  have e5 : (p.Alts.length : Int) * 8 ≤ 140737488355328 := by omega
  have e6 : (p.Alts.length : Int) ≤ 9223372036854775807 := by omega
  obtain ⟨x, h1, h2⟩ := loop_for (b := b52_32 p t alt mass) (fun j (s : Int × List Int) => s.1 = (j : Int) ∧ Fill p.Masses.length (fun j => V p.Alts (col t p.Alts.length j) alt) j s.2) (fun x => x.2 = rowT p.Alts p.Masses t alt) p.Masses.length
    (fun j s hj hs => by
      obtain ⟨j', l⟩ := s
      obtain ⟨rfl, hf⟩ := hs
      have w : IntKind.wrap .i64 ((j : Int) + 1) = ((j + 1 : Nat) : Int) := by rw [w64 (by omega) (by omega)]; omega
      have d0 : (j : Int) < (p.Masses.length : Int) := by omega
      have d3 : (0 : Int) ≤ (j : Int) := by omega
      have d5 : j < l.length := by rw [hf.1]; exact hj
      have d6 : p.Alts.length = (col t p.Alts.length j).length := by simp [col]
      refine ⟨(((j + 1 : Nat) : Int), l.set j (V p.Alts (col t p.Alts.length j) alt)), ?_, rfl, hf.set hj rfl⟩
      simp only [b52_32, m52_1, m52_2, m52_3, m52_6, m52_7, m52_8, m52_9, m52_10, m52_13, m52_15, m52_16, m52_17, m52_19, m52_21, m52_22, m52_23, m52_24, m52_26, m52_28, m52_29, m52_30, m52_32, m52_33, m52_34, m52_36, m52_37, m52_38, m52_39, m52, Int.toNat_natCast, d0, e4, e5, e6, decide_true, if_true, Option.bind_some, in52 h alt mass hj l _ (List.length_replicate)]
      simp only [v54 (vb_col h j ha), d0, d3, d5, d6.symm, Int.toNat_natCast, if_true, Option.bind_some, w]
      rfl)
    (fun s hs => by
      obtain ⟨j', l⟩ := s
      obtain ⟨rfl, hf⟩ := hs
      have d0 : ¬ (p.Masses.length : Int) < (p.Masses.length : Int) := by omega
      refine ⟨((p.Masses.length : Int), l), ?_, hf.done⟩
      simp only [b52_32, m52_1, m52_2, m52_3, m52_6, m52_7, m52_8, m52_9, m52_10, m52_13, m52_15, m52_16, m52_17, m52_19, m52_21, m52_22, m52_23, m52_24, m52_26, m52_28, m52_29, m52_30, m52_32, m52_33, m52_34, m52_36, m52_37, m52_38, m52_39, m52, Int.toNat_natCast, d0, decide_false, Bool.false_eq_true, if_false, Option.bind_some]
      rfl)
    ((0 : Int), List.replicate p.Masses.length 0) ⟨rfl, Fill.start _ _ (by simp)⟩
  obtain ⟨x1, x2⟩ := x
  simp only at h2
  subst h2
  have e1 : (0 : Int) ≤ (p.Masses.length : Int) := by omega
  have e2 : (p.Masses.length : Int) * 8 ≤ 140737488355328 := by omega
  have e3 : (p.Masses.length : Int) ≤ 9223372036854775807 := by omega
  have e7 : p.Masses.length = (rowT p.Alts p.Masses t alt).length := by simp [rowT]
  simp only [m52_1, m52_2, m52_3, m52_6, m52_7, m52_8, m52_9, m52_10, m52_13, m52_15, m52_16, m52_17, m52_19, m52_21, m52_22, m52_23, m52_24, m52_26, m52_28, m52_29, m52_30, m52_32, m52_33, m52_34, m52_36, m52_37, m52_38, m52_39, m52, Int.toNat_natCast, e1, e2, e3, if_true, Option.bind_some, h1]
  simp only [e7.symm, if_true, v54 (vb_row h alt hb), Option.bind_some]
  rfl
end Go.Av
