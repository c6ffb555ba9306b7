/- A block that is known whole, and whole arrays read and written in it. -/
import Derived.Test.YtdecfjdmcfnbkaaBase
import Derived.Deep.MidRow
namespace Go.Base
open Go.RowKit

/-- Block g is just the cells cs, of element type t, none frozen. -/
def Blk (w : World) (g : Nat) (t : TypeId) (cs : List Value) : Prop := w.heap[g]? = some (.cells cs.toArray t (0, 0))

section
variable {w w' : World} {g : Nat} {t : TypeId} {cs : List Value}
theorem Blk.lt (h : Blk w g t cs) : g < w.heap.size := by
  rcases Nat.lt_or_ge g w.heap.size with hlt | hge
  · exact hlt
  · unfold Blk at h; rw [Array.getElem?_eq_none hge] at h; cases h
theorem Blk.cell (h : Blk w g t cs) (i : Nat) : w.cell? ⟨g, i, none⟩ = cs[i]? := by
  rw [cell_of_row w g i cs.toArray t (0, 0) h, List.getElem?_toArray]
theorem Blk.frozen (h : Blk w g t cs) (i : Nat) : w.frozen? ⟨g, i, none⟩ = false := by
  unfold Blk at h
  simp [World.frozen?, h]
theorem Blk.new (w : World) (t : TypeId) (cs : List Value) : Blk (w.alloc (.cells cs.toArray t)) w.heap.size t cs := heap_alloc_new w _
theorem Blk.drew (h : Blk w g t cs) : Blk w.drew g t cs := h
theorem Blk.drewN (h : Blk w g t cs) (n : Nat) : Blk (w.drewN n) g t cs := h
theorem Blk.alloc (h : Blk w g t cs) (o : Obj) : Blk (w.alloc o) g t cs := (Below.heap_alloc w o g h.lt).trans h
theorem Blk.set_ (h : Blk w g t cs) (i : Nat) (u : Value) : Blk (w.setCell ⟨g, i, none⟩ u) g t (cs.set i u) := by
  unfold Blk at h ⊢
  simp [World.setCell, Array.getElem?_modify, h]
theorem Blk.far (h : Blk w g t cs) {p : Addr} (hp : g ≠ p.block) (u : Value) : Blk (w.setCell p u) g t cs := (Below.heap_setCell w p u g hp).trans h
theorem Blk.below {B : Nat} (h : Blk w g t cs) (hb : Below B w w') (hg : g < B) : Blk w' g t cs := (hb.block g hg).trans h
theorem Blk.ext (h : Blk w g t cs) (hb : Ext w w') : Blk w' g t cs := h.below hb h.lt
theorem Blk.range (h : Blk w g t cs) : w.rangeAt g 0 cs := fun j v hv => by rw [Nat.zero_add, h.cell j]; exact hv
theorem Blk.there (h : Blk w g t cs) : w.there g 0 cs.length := fun j hj => by
  rw [Nat.zero_add, h.cell j, h.frozen j, List.getElem?_eq_getElem hj]
  exact ⟨rfl, rfl⟩
theorem Blk.setCells_from : ∀ (vs : List Value) (o : Nat) {w : World} {cs : List Value}, Blk w g t cs → o + vs.length ≤ cs.length → Blk (w.setCells g o vs) g t (cs.take o ++ vs ++ cs.drop (o + vs.length))
  | [], o, w, cs, h, ho => by simpa [World.setCells] using h
  | v :: vs, o, w, cs, h, ho => by
    simp only [List.length_cons] at ho
    have := Blk.setCells_from vs (o + 1) (h.set_ o v) (by rw [List.length_set]; omega)
    rw [World.setCells]
    have e : (cs.set o v).take (o + 1) ++ vs ++ (cs.set o v).drop (o + 1 + vs.length) = cs.take o ++ v :: vs ++ cs.drop (o + (v :: vs).length) := by
      rw [List.drop_set, if_pos (by omega), List.take_succ_eq_append_getElem (by rw [List.length_set]; omega), List.take_set, List.getElem_set_self, List.set_eq_of_length_le (by rw [List.length_take]; exact Nat.min_le_left _ _)]
      simp only [List.length_cons, List.append_assoc, List.cons_append, List.nil_append]
      rw [show o + 1 + vs.length = o + (vs.length + 1) by omega]
    rw [← e]
    exact this
theorem Blk.setCells (h : Blk w g t cs) {vs : List Value} (hv : vs.length = cs.length) : Blk (w.setCells g 0 vs) g t vs := by
  have := Blk.setCells_from vs 0 h (by omega)
  rw [List.take_zero, List.nil_append, List.drop_eq_nil_of_le (by omega), List.append_nil] at this
  exact this
theorem below_setCells {B : Nat} {a : World} : ∀ (vs : List Value) (o : Nat) {w : World}, Below B a w → B ≤ g → Below B a (w.setCells g o vs)
  | [], _, _, h, _ => h
  | v :: vs, o, w, h, hg => by rw [World.setCells]; exact below_setCells vs (o + 1) (h.setCell (p := ⟨g, o, none⟩) hg v) hg
theorem Blk.setCells_far : ∀ (vs : List Value) (o : Nat) {w : World}, Blk w g t cs → ∀ {k : Nat}, g ≠ k → Blk (w.setCells k o vs) g t cs
  | [], _, _, h, _, _ => h
  | v :: vs, o, w, h, k, hk => by rw [World.setCells]; exact Blk.setCells_far vs (o + 1) (h.far (p := ⟨k, o, none⟩) hk v) hk
theorem Blk.grown {row : Option Nat} (h : Blk w g t cs) (hb : w.grownBy w' row) (hg : some g ≠ row) : Blk w' g t cs := (hb.block g h.lt hg).trans h
theorem Blk.type_ne {g' : Nat} {t' : TypeId} {cs' : Array Value} {fr : Nat × Nat} (h : Blk w g t cs) (h' : w.heap[g']? = some (.cells cs' t' fr)) (hne : t ≠ t') : g ≠ g' := by
  rintro rfl
  unfold Blk at h
  rw [h] at h'
  injection h' with h'
  injection h' with _ ht
  exact hne ht
theorem own_blk_ne {base : Nat} {e : TypeId} {size n : Nat} {v : Value} {xs : List Value} (h : w.ownsRow base e size v n xs) (hg : Blk w g t cs) (hne : t ≠ e) : some g ≠ v.ownBlock := by
  rcases h.2 with ⟨rfl, _⟩ | ⟨g', cap, cur, rfl, _, hh, _⟩
  · simp [Value.ownBlock]
  · intro he
    have : g = g' := by simpa [Value.ownBlock] using he
    exact Blk.type_ne hg hh hne this
theorem own_set_far {base : Nat} {e : TypeId} {size n : Nat} {v : Value} {xs : List Value} (h : w.ownsRow base e size v n xs) {p : Addr} (hp : v.ownBlock ≠ some p.block) (u : Value) : (w.setCell p u).ownsRow base e size v n xs := by
  refine ⟨h.1, ?_⟩
  rcases h.2 with h0 | ⟨g', cap, cur, rfl, hb, hh, h4⟩
  · exact .inl h0
  · refine .inr ⟨g', cap, cur, rfl, hb, ?_, h4⟩
    rw [Below.heap_setCell w p u g' (fun e => hp (by rw [← e]; rfl))]
    exact hh
theorem results_cell_mid {P : Program} {fn : Func} {p : Tmp} {ty : TypeId} (h : fn.results = #[.cell p ty]) (tmps : Array Value) (w : World) (b o : Nat) (cs : List Value) (d : TypeDesc)
    (hp : tmps.getD p undef = .pointer (some ⟨b, o, none⟩)) (hc : w.rangeAt b o cs)
    (hu : P.underlying ty = some d) (hd : d.isRow = true) (hi : (P.info? ty).map (·.size) = some cs.length) :
    (results fn tmps).run P w = .ok (.agg cs.toArray) w := by
  have hp' : tmps[p]?.getD undef = .pointer (some ⟨b, o, none⟩) := by simpa using hp
  simp [results, h, hp', asAddr, run_loadVar_mid w b o ty cs d hc hu hd hi]
end
end Go.Base
