/- Comparisons of structs; the examples' grid. -/
import Derived.Test.YtfgeoeipnidfhaaHull
import Derived.Laws.StructEq
namespace Go.Proofs.Ytfgeoeipnidfhaa
open Go.RowKit Go.Base Wg

theorem eq_wind (a b c d : Int) (w : World) : (binOp .eql 30 (.agg #[.int .i64 a, .int .i64 b]) (.agg #[.int .i64 c, .int .i64 d])).run Try.prog w = .ok (.bool (a == c && b == d)) w := by
  cases h1 : a == c <;> cases h2 : b == d
  all_goals simp [go_sem, h1, h2]
theorem eq_box (a b c d e f h i : Int) (w : World) : (binOp .eql 41 (.agg #[.int .i64 a, .int .i64 b, .int .i64 c, .int .i64 d]) (.agg #[.int .i64 e, .int .i64 f, .int .i64 h, .int .i64 i])).run Try.prog w = .ok (.bool ((a == e && b == f) && (c == h && d == i))) w := by
  cases h1 : a == e <;> cases h2 : b == f <;> cases h3 : c == h <;> cases h4 : d == i
  all_goals simp [go_sem, h1, h2, h3, h4]
theorem eq_iv (a b c d : Int) (w : World) : (binOp .eql 39 (.agg #[.int .i64 a, .int .i64 b]) (.agg #[.int .i64 c, .int .i64 d])).run Try.prog w = .ok (.bool (a == c && b == d)) w := by
  cases h1 : a == c <;> cases h2 : b == d
  all_goals simp [go_sem, h1, h2]
theorem eq_pt (a b c d : Int) (w : World) : (binOp .eql 23 (.agg #[.int .i64 a, .int .i64 b]) (.agg #[.int .i64 c, .int .i64 d])).run Try.prog w = .ok (.bool (a == c && b == d)) w := by
  cases h1 : a == c <;> cases h2 : b == d
  all_goals simp [go_sem, h1, h2]

def exG (cell : Int) : Grid := ⟨0, 0, cell, 2, 1, [0], [(0, 0), (10, -10)], [0, 0], 3⟩
/-- A forecast that was handed back. -/
def GOut (g : Grid) (w : World) (e : Ending) (w' : World) : Prop := ∃ A1 c1 A2 c2 A3 c3, e = .returned (gv g A1 c1 A2 c2 A3 c3) ∧ GIn w' g A1 c1 A2 c2 A3 c3 ∧ Ext w w'
theorem rd_made {w : World} {b n : Nat} {size : Nat} {vs : List Value} (h : Bx w b vs) (hn : vs.length = n * size) (hm : n ≤ 1000) : Rd w size (some ⟨b, 0, none⟩) n n vs :=
  ⟨hn, Nat.le_refl _, by unfold maxLen; omega, fun _ => ⟨b, 0, rfl, h.lt, fun j u hu => by rw [Nat.zero_add]; exact h.at_ j u hu⟩⟩
set_option maxHeartbeats 400000 in
theorem example_any (cell : Int) (w : World) : Calls Try.prog 22 #[.int .i64 cell] w fun e w' => GOut (exG cell) w e w' := by
  go_enter Try.func22, Try.ntmps22
  go_wp2_with fail
  refine bodyPost_ret (v := gv (exG cell) (some ⟨w.heap.size + 1, 0, none⟩) 1 (some ⟨w.heap.size + 1 + 1, 0, none⟩) 2 (some ⟨w.heap.size + 1 + 1 + 1, 0, none⟩) 2) (by simp [results, Try.results22, go_sem, exG]) rfl ?_
  refine ⟨_, _, _, _, _, _, rfl, ⟨?_, ?_, ?_⟩, ?_⟩
  · exact rd_made ((((Bx.at_new (w.alloc _) #[.int .i64 0] _ (w.heap.size + 1) (by simp)).ext (ext_new _ _)).ext (ext_new _ _))) rfl (by simp [exG])
  · exact rd_made (((Bx.at_new ((w.alloc _).alloc _) #[.int .i64 0, .int .i64 0, .int .i64 10, .int .i64 (-10)] _ (w.heap.size + 1 + 1) (by simp)).ext (ext_new _ _))) rfl (by simp [exG])
  · exact rd_made (Bx.at_new (((w.alloc _).alloc _).alloc _) #[.int .i64 0, .int .i64 0] _ (w.heap.size + 1 + 1 + 1) (by simp)) rfl (by simp [exG])
  · exact Ext.trans (Ext.trans (Ext.trans (ext_new _ _) (ext_new _ _)) (ext_new _ _)) (ext_new _ _)
end Go.Proofs.Ytfgeoeipnidfhaa
