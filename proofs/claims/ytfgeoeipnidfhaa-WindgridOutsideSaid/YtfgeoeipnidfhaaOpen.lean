/- From what a statement says of its arguments to what the walks ask. -/
import Derived.Test.YtfgeoeipnidfhaaChk
import Derived.Deep.Slices
import Derived.Deep.SlicePairs
import Derived.ProofKit
import Derived.OpenShut
namespace Go.Proofs.Ytfgeoeipnidfhaa
open Go.RowKit Go.Base Wg Go.ChangeShapes Go.WideShapes

theorem spot_none {w : World} {a : Addr} {v : Value} (h : w.cell? a = some v) : a.spot = none := by
  unfold World.cell? at h
  cases hx : a.spot with
  | none => rfl
  | some s => rw [hx] at h; simp at h; split at h <;> cases h
theorem add_plain {a : Addr} (h : a.spot = none) (j : Nat) : a.add j = ⟨a.block, a.off + j, none⟩ := by
  unfold Addr.add
  split
  · rename_i e; subst e; cases a; simp at h; simp [h]
  · rfl
theorem addr_form {w : World} {a : Addr} {v : Value} (h : w.cell? (a.add 0) = some v) : ∃ b o, a = ⟨b, o, none⟩ ∧ b < w.heap.size := by
  have e : a.add 0 = a := by simp [Addr.add]
  rw [e] at h
  have hs := spot_none h
  obtain ⟨b, o, s⟩ := a
  simp at hs
  subst hs
  exact ⟨b, o, rfl, cell_lt h⟩
theorem rd_ints {w : World} {a : Addr} {len cap : Nat} {zs : List Int} (h1 : len ≤ cap) (h2 : cap ≤ maxLen) (h3 : len ≤ zs.length) (h4 : ∀ i, i < zs.length → w.cell? (a.add i) = some (.int .i64 (zs.getD i 0))) :
    Rd w 1 (some a) len cap ((zs.take len).map iv) := by
  refine ⟨by simp; omega, h1, h2, fun hn => ?_⟩
  obtain ⟨b, o, rfl, hb⟩ := addr_form (h4 0 (by omega))
  refine ⟨b, o, rfl, hb, fun j u hu => ?_⟩
  rw [List.getElem?_map] at hu
  cases hj : (zs.take len)[j]? with
  | none => rw [hj] at hu; cases hu
  | some z =>
    rw [hj] at hu
    rw [List.getElem?_take] at hj
    split at hj
    · have hjl : j < zs.length := (List.getElem?_eq_some_iff.1 hj).1
      have h6 := h4 j hjl
      rw [add_plain rfl] at h6
      rw [h6]
      have hz : zs.getD j 0 = z := by simp [List.getD, hj]
      rw [hz]
      simpa [iv] using hu
    · cases hj
theorem pv_range (F G : Nat → Int) : ∀ n, pv ((List.range n).map fun i => (F i, G i)) = (List.range n).flatMap fun i => [iv (F i), iv (G i)] := by
  intro n; unfold pv; rw [List.flatMap_map]
theorem pv_len (l : List (Int × Int)) : (pv l).length = l.length * 2 := by
  induction l with
  | nil => rfl
  | cons a l ih => simp [pv] at ih ⊢; omega
theorem rd_pairs {w : World} {a : Addr} {len cap : Nat} {F G : Nat → Int} (h1 : len ≤ cap) (h2 : cap ≤ maxLen) (h4 : ∀ i, i < len → w.cell? (a.add (i * 2)) = some (.int .i64 (F i)) ∧ w.cell? (a.add (i * 2 + 1)) = some (.int .i64 (G i))) :
    Rd w 2 (some a) len cap (pv ((List.range len).map fun i => (F i, G i))) := by
  refine ⟨by rw [pv_len]; simp, h1, h2, fun hn => ?_⟩
  obtain ⟨b, o, rfl, hb⟩ := addr_form (by have := (h4 0 hn).1; rw [Nat.zero_mul] at this; exact this)
  refine ⟨b, o, rfl, hb, fun j u hu => ?_⟩
  have hj : j < len * 2 := by
    have := (List.getElem?_eq_some_iff.1 hu).1
    rw [pv_len] at this; simpa using this
  have hl : j / 2 < ((List.range len).map fun i => (F i, G i)).length := by simp; omega
  obtain ⟨p1, p2⟩ := pv_at _ (j / 2) hl
  obtain ⟨c1, c2⟩ := h4 (j / 2) (by omega)
  rw [add_plain rfl] at c1 c2
  simp only [List.getElem_map, List.getElem_range] at p1 p2
  rcases Nat.mod_two_eq_zero_or_one j with hm | hm
  · have e : j / 2 * 2 = j := by omega
    rw [e] at p1 c1
    rw [p1] at hu
    injection hu with hu
    rw [← hu]; exact c1
  · have e : j / 2 * 2 + 1 = j := by omega
    rw [e] at p2 c2
    rw [p2] at hu
    injection hu with hu
    rw [← hu]; exact c2

theorem cells_i64 : Try.prog.cellsOf 2 = 1 := by kernel_rfl
theorem cells_int : Try.prog.cellsOf 3 = 1 := by kernel_rfl
theorem cells_is : Try.prog.cellsOf 24 = 1 := by kernel_rfl
theorem cells_ws : Try.prog.cellsOf 25 = 1 := by kernel_rfl
theorem cells_pt : Try.prog.cellsOf 23 = 2 := by kernel_rfl
theorem cells_wd : Try.prog.cellsOf 30 = 2 := by kernel_rfl
theorem cells_gr : Try.prog.cellsOf 27 = 9 := by kernel_rfl

section
variable {H : Type} {enc : TypeId × Value → H} {W : World} {fuel : Nat} {x : DataW H × List MemPlace} {cs : List Value} {spare : Nat → Bool}
noncomputable abbrev Tr (H : Type) (enc : TypeId × Value → H) (W : World) (spare : Nat → Bool) (fuel : Nat) (t : TypeId) (cs : List Value) : Option (DataW H × List MemPlace) := DataW.trod enc Try.prog W 0 spare true fuel t cs
theorem tr_i64 (h : Tr H enc W spare fuel 2 cs = some x) : ∃ a, cs = [.int .i64 a] ∧ -9223372036854775808 ≤ a ∧ a ≤ 9223372036854775807 := by
  obtain ⟨n, rfl, _, hw⟩ := DataW.trod_int Try.underlying2 h
  exact ⟨n, rfl, bounds_i64 hw⟩
theorem tr_int (h : Tr H enc W spare fuel 3 cs = some x) : ∃ a, cs = [.int .i64 a] ∧ -9223372036854775808 ≤ a ∧ a ≤ 9223372036854775807 := by
  obtain ⟨n, rfl, _, hw⟩ := DataW.trod_int Try.underlying3 h
  exact ⟨n, rfl, bounds_i64 hw⟩
theorem tr_is (h : Tr H enc W spare fuel 24 cs = some x) : ∃ (A : Option Addr) (l : List Int) (c : Nat), cs = [.slice A l.length c] ∧ Rd W 1 A l.length c (l.map iv) := by
  rcases open_ints Try.underlying24 Try.underlying2 cells_i64 h with ⟨rfl, _⟩ | ⟨a, len, cap, zs, rfl, _, hl, hm, hz, _, hcell, _⟩
  · exact ⟨none, [], 0, rfl, Rd.nil_ _ _ _ _ (Nat.zero_le _)⟩
  · have hle : len ≤ zs.length := by rw [hz]; split <;> omega
    have e : (zs.take len).length = len := by rw [List.length_take]; omega
    exact ⟨some a, zs.take len, cap, by rw [e], by rw [e]; exact rd_ints hl hm hle hcell⟩
theorem tr_ws (h : Tr H enc W spare fuel 25 cs = some x) : ∃ (A : Option Addr) (l : List (Int × Int)) (c : Nat), cs = [.slice A l.length c] ∧ Rd W 2 A l.length c (pv l) := by
  rcases Go.Deep.open_slice_pairs Try.underlying25 Try.underlying30 cells_wd rfl rfl cells_i64 cells_i64 h with ⟨rfl, _⟩ | ⟨a, len, cap, m, n, V0, V1, D0, D1, P0, P1, rfl, _, hl, hm, hmm, _, hx⟩
  · exact ⟨none, [], 0, rfl, Rd.nil_ _ _ _ _ (Nat.zero_le _)⟩
  · have hle : len ≤ m := by rw [hmm]; split <;> omega
    have key : ∀ i, i < len → ∃ p q : Int, W.cell? (a.add (i * 2)) = some (.int .i64 p) ∧ W.cell? (a.add (i * 2 + 1)) = some (.int .i64 q) := by
      intro i hi
      obtain ⟨c1, c2, t1, t2⟩ := hx i (by omega)
      obtain ⟨p, e1, _⟩ := tr_i64 t1
      obtain ⟨q, e2, _⟩ := tr_i64 t2
      injection e1 with e1
      injection e2 with e2
      exact ⟨p, q, by rw [c1, e1], by rw [c2, e2]⟩
    refine ⟨some a, (List.range len).map fun i => (if h : i < len then (Classical.choose (key i h), Classical.choose (Classical.choose_spec (key i h))) else (0, 0)), cap, by simp, ?_⟩
    have e : ((List.range len).map fun i => (if h : i < len then (Classical.choose (key i h), Classical.choose (Classical.choose_spec (key i h))) else ((0 : Int), (0 : Int)))).length = len := by simp
    rw [e]
    have := rd_pairs (w := W) (a := a) (len := len) (cap := cap) (F := fun i => if h : i < len then Classical.choose (key i h) else 0) (G := fun i => if h : i < len then Classical.choose (Classical.choose_spec (key i h)) else 0) hl hm (fun i hi => by
      simp only [dif_pos hi]
      exact Classical.choose_spec (Classical.choose_spec (key i hi)))
    have e2 : ((List.range len).map fun i => (if h : i < len then (Classical.choose (key i h), Classical.choose (Classical.choose_spec (key i h))) else ((0 : Int), (0 : Int)))) = (List.range len).map fun i => ((if h : i < len then Classical.choose (key i h) else 0), (if h : i < len then Classical.choose (Classical.choose_spec (key i h)) else 0)) := by
      apply List.map_congr_left
      intro i hi
      have hi2 : i < len := List.mem_range.1 hi
      simp only [dif_pos hi2]
    rw [e2]
    exact this
/-- A struct of two numbers. -/
theorem tr_two {t : TypeId} {f0 f1 : Field} (ht : Try.prog.underlying t = some (.struct #[f0, f1])) (h0 : f0.type = 2) (h1 : f1.type = 2) (o0 : f0.offset = 0) (o1 : f1.offset = 1) (hc : Try.prog.cellsOf t = 2)
    (h : Tr H enc W spare fuel t cs = some x) : ∃ a b, cs = [.int .i64 a, .int .i64 b] ∧ i64 a ∧ i64 b := by
  obtain ⟨xs, n, _, _, hl, hx, hf⟩ := DataW.trod_struct ht h
  rw [hc] at hl
  match cs, hl with
  | [c0, c1], _ =>
    have hx2 : xs.length = 2 := hx
    have g0 := hf 0 f0 rfl
    have g1 := hf 1 f1 rfl
    rw [h0, o0, cells_i64, List.getElem?_eq_getElem (by omega)] at g0
    rw [h1, o1, cells_i64, List.getElem?_eq_getElem (by omega)] at g1
    obtain ⟨a, e0, b0⟩ := tr_i64 g0
    obtain ⟨b, e1, b1⟩ := tr_i64 g1
    simp at e0 e1
    exact ⟨a, b, by rw [e0, e1], b0, b1⟩
theorem tr_pt (h : Tr H enc W spare fuel 23 cs = some x) : ∃ a b, cs = [.int .i64 a, .int .i64 b] ∧ i64 a ∧ i64 b := tr_two Try.underlying23 rfl rfl rfl rfl cells_pt h
theorem tr_wd (h : Tr H enc W spare fuel 30 cs = some x) : ∃ a b, cs = [.int .i64 a, .int .i64 b] ∧ i64 a ∧ i64 b := tr_two Try.underlying30 rfl rfl rfl rfl cells_wd h
theorem cells_wn : Try.prog.cellsOf 36 = 2 := by kernel_rfl
theorem tr_wn (h : Tr H enc W spare fuel 36 cs = some x) : ∃ a b, cs = [.int .i64 a, .int .i64 b] ∧ i64 a ∧ i64 b := tr_two Try.underlying36 rfl rfl rfl rfl cells_wn h
theorem tr_gr (h : Tr H enc W spare fuel 27 cs = some x) : ∃ g A1 c1 A2 c2 A3 c3, cs = [.int .i64 g.cx, .int .i64 g.cy, .int .i64 g.cell, .int .i64 g.nx, .int .i64 g.ny, .slice A1 g.alts.length c1, .slice A2 g.winds.length c2, .slice A3 g.devs.length c3, .int .i64 g.err] ∧ GIn W g A1 c1 A2 c2 A3 c3 ∧ (i64 g.err) := by
  obtain ⟨xs, n, _, _, hl, hx, hf⟩ := DataW.trod_struct Try.underlying27 h
  rw [cells_gr] at hl
  match cs, hl with
  | [c0, c1, c2, c3, c4, c5, c6, c7, c8], _ =>
    have hx2 : xs.length = 8 := hx
    have g0 := hf 0 _ rfl
    have g1 := hf 1 _ rfl
    have g2 := hf 2 _ rfl
    have g3 := hf 3 _ rfl
    have g4 := hf 4 _ rfl
    have g5 := hf 5 _ rfl
    have g6 := hf 6 _ rfl
    have g7 := hf 7 _ rfl
    rw [List.getElem?_eq_getElem (by omega)] at g0 g1 g2 g3 g4 g5 g6 g7
    simp [cells_i64, cells_int, cells_is, cells_ws, cells_pt] at g0 g1 g2 g3 g4 g5 g6 g7
    obtain ⟨a0, b0, e0, _, _⟩ := tr_pt g0
    obtain ⟨a1, e1, _⟩ := tr_i64 g1
    obtain ⟨a2, e2, _⟩ := tr_int g2
    obtain ⟨a3, e3, _⟩ := tr_int g3
    obtain ⟨A4, l4, k4, e4, r4⟩ := tr_is g4
    obtain ⟨A5, l5, k5, e5, r5⟩ := tr_ws g5
    obtain ⟨A6, l6, k6, e6, r6⟩ := tr_is g6
    obtain ⟨a7, e7, w7⟩ := tr_i64 g7
    simp at e0 e1 e2 e3 e4 e5 e6 e7
    obtain ⟨rfl, rfl⟩ := e0
    subst e1 e2 e3 e4 e5 e6 e7
    exact ⟨⟨a0, b0, a1, a2, a3, l4, l5, l6, a7⟩, A4, k4, A5, k5, A6, k6, rfl, ⟨r4, r5, r6⟩, w7⟩
end
end Go.Proofs.Ytfgeoeipnidfhaa
