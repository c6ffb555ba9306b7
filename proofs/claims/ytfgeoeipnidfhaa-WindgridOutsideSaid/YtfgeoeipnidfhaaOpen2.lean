/- A rectangle with a window, a spot, two spots: from what a statement says to what the walks ask. -/
import Derived.Test.YtfgeoeipnidfhaaOpen
import Derived.Test.YtfgeoeipnidfhaaEnc
namespace Go.Proofs.Ytfgeoeipnidfhaa
open Go.RowKit Go.Base Wg Go.ChangeShapes Go.WideShapes

theorem okWide_arr {P : Program} {w : World} {r : Reach} {base : Nat} {t e : TypeId} {n : Nat} {v : Value} (ht : P.underlying t = some (.array n e)) (h : Value.okWide P w r base t v) : ∃ cs, v = .agg cs ∧ cs.size = P.cellsOf t := by
  simp only [Value.okWide, ht] at h
  obtain ⟨cs, h1, h2, _⟩ := h
  exact ⟨cs, h1, h2⟩
theorem cells_area : Try.prog.cellsOf 38 = 6 := by kernel_rfl
theorem cells_spot : Try.prog.cellsOf 46 = 5 := by kernel_rfl
theorem cells_two : Try.prog.cellsOf 51 = 10 := by kernel_rfl
section
variable {H : Type} {enc : TypeId × Value → H} {W : World} {fuel : Nat} {x : DataW H × List MemPlace} {cs : List Value} {spare : Nat → Bool}
theorem tr_area (h : Tr H enc W spare fuel 38 cs = some x) : ∃ a : Ar, cs = [.int .i64 a.ax, .int .i64 a.ay, .int .i64 a.bx, .int .i64 a.by_, .int .i64 a.lo, .int .i64 a.hi] ∧ True := by
  obtain ⟨xs, n, _, _, hl, hx, hf⟩ := DataW.trod_struct Try.underlying38 h
  rw [cells_area] at hl
  match cs, hl with
  | [c0, c1, c2, c3, c4, c5], _ =>
    have hx2 : xs.length = 3 := hx
    have g0 := hf 0 _ rfl
    have g1 := hf 1 _ rfl
    have g2 := hf 2 _ rfl
    rw [List.getElem?_eq_getElem (by omega)] at g0 g1 g2
    simp [cells_pt, cells_wn] at g0 g1 g2
    obtain ⟨a0, b0, e0, _, _⟩ := tr_pt g0
    obtain ⟨a1, b1, e1, _, _⟩ := tr_pt g1
    obtain ⟨a2, b2, e2, _, _⟩ := tr_wn g2
    simp at e0 e1 e2
    obtain ⟨rfl, rfl⟩ := e0
    obtain ⟨rfl, rfl⟩ := e1
    obtain ⟨rfl, rfl⟩ := e2
    exact ⟨⟨a0, b0, a1, b1, a2, b2⟩, rfl, trivial⟩
theorem tr_spot (h : Tr H enc W spare fuel 46 cs = some x) : ∃ s : Sp0, cs = [.int .i64 s.x, .int .i64 s.y, .int .i64 s.alt, .int .i64 s.e, .int .i64 s.n] ∧ i64 s.x ∧ i64 s.y ∧ i64 s.alt ∧ i64 s.e ∧ i64 s.n := by
  obtain ⟨xs, n, _, _, hl, hx, hf⟩ := DataW.trod_struct Try.underlying46 h
  rw [cells_spot] at hl
  match cs, hl with
  | [c0, c1, c2, c3, c4], _ =>
    have hx2 : xs.length = 3 := hx
    have g0 := hf 0 _ rfl
    have g1 := hf 1 _ rfl
    have g2 := hf 2 _ rfl
    rw [List.getElem?_eq_getElem (by omega)] at g0 g1 g2
    simp [cells_pt, cells_i64, cells_wd] at g0 g1 g2
    obtain ⟨a0, b0, e0, w0, w1⟩ := tr_pt g0
    obtain ⟨a1, e1, w2⟩ := tr_i64 g1
    obtain ⟨a2, b2, e2, w3, w4⟩ := tr_wd g2
    simp at e0 e1 e2
    obtain ⟨rfl, rfl⟩ := e0
    subst e1
    obtain ⟨rfl, rfl⟩ := e2
    exact ⟨⟨a0, b0, a1, a2, b2⟩, rfl, w0, w1, w2, w3, w4⟩
set_option maxRecDepth 100000 in
theorem tr_two2 (h : Tr H enc W spare fuel 51 cs = some x) : ∃ s t : Sp0, cs = [.int .i64 s.x, .int .i64 s.y, .int .i64 s.alt, .int .i64 s.e, .int .i64 s.n, .int .i64 t.x, .int .i64 t.y, .int .i64 t.alt, .int .i64 t.e, .int .i64 t.n] ∧ True := by
  obtain ⟨xs, n, _, _, hl, hx, hf⟩ := DataW.trod_array Try.underlying51 h
  rw [cells_two] at hl
  match cs, hl with
  | [c0, c1, c2, c3, c4, c5, c6, c7, c8, c9], _ =>
    have g0 := hf 0 (by omega)
    have g1 := hf 1 (by omega)
    rw [List.getElem?_eq_getElem (by omega)] at g0 g1
    simp [cells_spot] at g0 g1
    obtain ⟨s, e0, _⟩ := tr_spot g0
    obtain ⟨t, e1, _⟩ := tr_spot g1
    simp at e0 e1
    obtain ⟨rfl, rfl, rfl, rfl, rfl⟩ := e0
    obtain ⟨rfl, rfl, rfl, rfl, rfl⟩ := e1
    exact ⟨s, t, rfl, trivial⟩
end
end Go.Proofs.Ytfgeoeipnidfhaa
