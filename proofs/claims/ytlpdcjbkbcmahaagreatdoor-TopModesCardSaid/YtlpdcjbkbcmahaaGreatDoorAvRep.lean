/- What the values without addresses stand for in memory. -/
import Derived.Test.YtlpdcjbkbcmahaaGreatDoorAv
import Derived.Maps.OwnSet
set_option linter.unusedVariables false
set_option linter.unusedSimpArgs false
namespace Go.Av
open Go.RowKit Go.Base

/-- Where an own object lies: in a block; or it is what a slice holds (no block, if it is nil). -/
inductive Pl where
  | blk (b : Nat)
  | vec (v : Value) (e : TypeId) (sz : Nat)
def Pl.block : Pl → Option Nat
  | .blk b => some b
  | .vec v _ _ => v.ownBlock
/-- What is known beside the world: cells that no one writes any more, the places of the function's own objects, the slices that may be appended to. -/
structure G where
  μ : Nat → Nat → Option Value
  ι : Nat → Option Pl
  τ : Nat → Option (Value × TypeId × Nat)

mutual
def Rep (μ : Nat → Nat → Option Value) : D → Value → Prop
  | .bool b, v => v = .bool b
  | .int k n, v => v = .int k n
  | .str s, v => v = .string ⟨⟨s⟩⟩
  | .sl sz n f, v => ∃ A c, v = .slice A n c ∧ n ≤ c ∧ c ≤ maxLen ∧ (0 < n → ∃ b o, A = some ⟨b, o, none⟩ ∧ ∀ i, i < n → ∃ u, Rep μ (f i) u ∧ u.cells.size = sz ∧ (∀ x ∈ u.cells, x.oneCell' = true) ∧ ∀ j, j < sz → μ b (o + i * sz + j) = u.cells[j]?)
  | .agg cs, v => ∃ vs : List Value, v = .agg vs.toArray ∧ RepL μ cs vs
  | .tup cs, v => ∃ vs : List Value, v = .tuple vs.toArray ∧ RepL μ cs vs
  | .bad, _ => False
def RepL (μ : Nat → Nat → Option Value) : List D → List Value → Prop
  | [], vs => vs = []
  | d :: l, vs => ∃ v t, vs = v :: t ∧ Rep μ d v ∧ RepL μ l t
end
def RightOk (γ : G) (sz : Nat) (v : Value) : Right → Prop
  | .nl => v = .slice none 0 0
  | .tok t e => γ.τ t = some (v, e, sz) ∨ v = .slice none 0 0
mutual
def RepA (γ : G) : AV → Value → Prop
  | .d x, v => Rep γ.μ x v
  | .ap sz n f r, v => Rep γ.μ (.sl sz n f) v ∧ RightOk γ sz v r
  | .ptr id off, v => ∃ b, γ.ι id = some (.blk b) ∧ v = .pointer (some ⟨b, off, none⟩)
  | .ep x off, v => ∃ b o u, v = .pointer (some ⟨b, o + off, none⟩) ∧ Rep γ.μ x u ∧ (∀ x ∈ u.cells, x.oneCell' = true) ∧ ∀ j, j < u.cells.size → γ.μ b (o + j) = u.cells[j]?
  | .pa id sz i off, v => ∃ b, γ.ι id = some (.blk b) ∧ v = .pointer (some ⟨b, i * sz + off, none⟩)
  | .arr id _ n, v => ∃ b c, γ.ι id = some (.blk b) ∧ v = .slice (some ⟨b, 0, none⟩) n c ∧ n ≤ c ∧ c ≤ maxLen
  | .vec id sz n, v => ∃ e A c, γ.ι id = some (.vec v e sz) ∧ v = .slice A n c ∧ n ≤ c ∧ c ≤ maxLen ∧ (0 < n → ∃ b, A = some ⟨b, 0, none⟩)
  | .pv id sz i off, v => ∃ u e b, γ.ι id = some (.vec u e sz) ∧ u.ownBlock = some b ∧ v = .pointer (some ⟨b, i * sz + off, none⟩)
  | .mp id, v => ∃ b, γ.ι id = some (.blk b) ∧ v = .map (some b)
  | .fn f cap, v => ∃ vs : List Value, v = .func (.func f) #[] vs.toArray ∧ RepAL γ cap vs
  | .nilp, v => v = .pointer none
  | .nilf, v => v = .nilFunc
  | .agg cs, v => ∃ vs : List Value, v = .agg vs.toArray ∧ RepAL γ cs vs
  | .tup cs, v => ∃ vs : List Value, v = .tuple vs.toArray ∧ RepAL γ cs vs
  | .any, _ => True
def RepAL (γ : G) : List AV → List Value → Prop
  | [], vs => vs = []
  | d :: l, vs => ∃ v t, vs = v :: t ∧ RepA γ d v ∧ RepAL γ l t
end
/-- What a map's object holds. -/
def MapIs (P : Program) (k e : TypeId) (n : Nat) (f : List UInt8 → Option Int) (o : Go.Obj) : Prop :=
  ∃ (es : Array MapEntry) (clock : Nat), o = .map es clock ∧ Go.WideElems.Fit (H := Unit) P k (plainElem P e) es clock ∧ es.size ≤ n ∧
    ∀ key : List UInt8, key.length ≤ maxLen → Maps.has (H := Unit) (.map ((es.toList.map (Go.WideElems.rg P k (plainElem P e))).foldr DataW.insert [])) (.string key) = (f key).isSome ∧
      DataW.atKey (H := Unit) (.map ((es.toList.map (Go.WideElems.rg P k (plainElem P e))).foldr DataW.insert [])) (.string key) (.lit (.int .i64 0)) = .lit (.int .i64 ((f key).getD 0))
def RepO (γ : G) : Ob → Go.Obj → Prop
  | .cells cs, o => ∃ (vs : List Value) (e : TypeId), o = .cells vs.toArray e (0, 0) ∧ RepAL γ cs vs ∧ ∀ x ∈ vs, x.oneCell' = true
  | .arr sz n f, o => ∃ (vs : Array Value) (e : TypeId), o = .cells vs e (0, 0) ∧ n * sz ≤ vs.size ∧ ∀ i, i < n → ∃ u, Rep γ.μ (f i) u ∧ u.cells.size = sz ∧ (∀ x ∈ u.cells, x.oneCell' = true) ∧ ∀ j, j < sz → vs[i * sz + j]? = u.cells[j]?
  | .map P k e n f, o => MapIs P k e n f o
  | .vec .., _ => False
  | .gone, _ => False
  | .bld0 T, o => o = .cells #[.pointer none, .slice none 0 0] T (0, 0)
def FzM (μ : Nat → Nat → Option Value) (w : World) : Prop := ∀ b o v, μ b o = some v → w.cell? ⟨b, o, none⟩ = some v
def LeM (μ ν : Nat → Nat → Option Value) : Prop := ∀ b o v, μ b o = some v → ν b o = some v

theorem LeM.refl (μ : Nat → Nat → Option Value) : LeM μ μ := fun _ _ _ h => h
mutual
theorem Rep.mono {μ ν : Nat → Nat → Option Value} (h : LeM μ ν) : ∀ (d : D) (v : Value), Rep μ d v → Rep ν d v
  | .bool b, v, hr => by simpa only [Rep] using hr
  | .int k n, v, hr => by simpa only [Rep] using hr
  | .str s, v, hr => by simpa only [Rep] using hr
  | .bad, v, hr => by simp only [Rep] at hr
  | .sl sz n f, v, hr => by
    simp only [Rep] at hr ⊢
    obtain ⟨A, c, e, h1, h2, h3⟩ := hr
    refine ⟨A, c, e, h1, h2, fun hn => ?_⟩
    obtain ⟨b, o, ea, h4⟩ := h3 hn
    refine ⟨b, o, ea, fun i hi => ?_⟩
    obtain ⟨u, h5, h6, h7, h8⟩ := h4 i hi
    refine ⟨u, Rep.mono h (f i) u h5, h6, h7, fun j hj => ?_⟩
    have hlt : j < u.cells.size := by rw [h6]; exact hj
    have := h8 j hj
    rw [Array.getElem?_eq_getElem hlt] at this ⊢
    exact h _ _ _ this
  | .agg cs, v, hr => by
    simp only [Rep] at hr ⊢
    obtain ⟨vs, e, hr⟩ := hr
    exact ⟨vs, e, RepL.mono h cs vs hr⟩
  | .tup cs, v, hr => by
    simp only [Rep] at hr ⊢
    obtain ⟨vs, e, hr⟩ := hr
    exact ⟨vs, e, RepL.mono h cs vs hr⟩
theorem RepL.mono {μ ν : Nat → Nat → Option Value} (h : LeM μ ν) : ∀ (d : List D) (v : List Value), RepL μ d v → RepL ν d v
  | [], _, hr => by simpa only [RepL] using hr
  | d :: l, v, hr => by
    simp only [RepL] at hr ⊢
    obtain ⟨x, t, e, h1, h2⟩ := hr
    exact ⟨x, t, e, Rep.mono h d x h1, RepL.mono h l t h2⟩
end
structure LeG (γ γ' : G) : Prop where
  μ : LeM γ.μ γ'.μ
  ι : ∀ i b, γ.ι i = some b → γ'.ι i = some b
  τ : ∀ i b, γ.τ i = some b → γ'.τ i = some b
theorem LeG.refl (γ : G) : LeG γ γ := ⟨LeM.refl _, fun _ _ h => h, fun _ _ h => h⟩
theorem LeG.trans {a b c : G} (h : LeG a b) (k : LeG b c) : LeG a c := ⟨fun x y v e => k.μ x y v (h.μ x y v e), fun i b e => k.ι i b (h.ι i b e), fun i b e => k.τ i b (h.τ i b e)⟩
theorem RightOk.mono {γ γ' : G} (h : LeG γ γ') {sz : Nat} {v : Value} {r : Right} (hr : RightOk γ sz v r) : RightOk γ' sz v r := by
  cases r with
  | nl => exact hr
  | tok t e => exact hr.imp (h.τ _ _) id
mutual
theorem RepA.mono {γ γ' : G} (h : LeG γ γ') : ∀ (d : AV) (v : Value), RepA γ d v → RepA γ' d v
  | .d x, v, hr => by simp only [RepA] at hr ⊢; exact Rep.mono h.μ _ _ hr
  | .ap sz n f r, v, hr => by simp only [RepA] at hr ⊢; exact ⟨Rep.mono h.μ _ _ hr.1, hr.2.mono h⟩
  | .ptr id off, v, hr => by simp only [RepA] at hr ⊢; obtain ⟨b, e, e2⟩ := hr; exact ⟨b, h.ι _ _ e, e2⟩
  | .ep x off, v, hr => by
    simp only [RepA] at hr ⊢
    obtain ⟨b, o, u, e, h1, h3, h2⟩ := hr
    refine ⟨b, o, u, e, Rep.mono h.μ _ _ h1, h3, fun j hj => ?_⟩
    have := h2 j hj
    rw [Array.getElem?_eq_getElem hj] at this ⊢
    exact h.μ _ _ _ this
  | .pa id sz i off, v, hr => by simp only [RepA] at hr ⊢; obtain ⟨b, e, e2⟩ := hr; exact ⟨b, h.ι _ _ e, e2⟩
  | .arr id _ n, v, hr => by simp only [RepA] at hr ⊢; obtain ⟨b, c, e, e2⟩ := hr; exact ⟨b, c, h.ι _ _ e, e2⟩
  | .vec id _ n, v, hr => by simp only [RepA] at hr ⊢; obtain ⟨e, A, c, e1, e2⟩ := hr; exact ⟨e, A, c, h.ι _ _ e1, e2⟩
  | .pv id sz i off, v, hr => by simp only [RepA] at hr ⊢; obtain ⟨u, e, b, e1, e2⟩ := hr; exact ⟨u, e, b, h.ι _ _ e1, e2⟩
  | .mp id, v, hr => by simp only [RepA] at hr ⊢; obtain ⟨b, e, e2⟩ := hr; exact ⟨b, h.ι _ _ e, e2⟩
  | .fn f cap, v, hr => by simp only [RepA] at hr ⊢; obtain ⟨vs, e, h2⟩ := hr; exact ⟨vs, e, RepAL.mono h _ _ h2⟩
  | .nilp, v, hr => by simpa only [RepA] using hr
  | .nilf, v, hr => by simpa only [RepA] using hr
  | .agg cs, v, hr => by simp only [RepA] at hr ⊢; obtain ⟨vs, e, h2⟩ := hr; exact ⟨vs, e, RepAL.mono h _ _ h2⟩
  | .tup cs, v, hr => by simp only [RepA] at hr ⊢; obtain ⟨vs, e, h2⟩ := hr; exact ⟨vs, e, RepAL.mono h _ _ h2⟩
  | .any, v, hr => by simp only [RepA]
theorem RepAL.mono {γ γ' : G} (h : LeG γ γ') : ∀ (d : List AV) (v : List Value), RepAL γ d v → RepAL γ' d v
  | [], _, hr => by simpa only [RepAL] using hr
  | d :: l, v, hr => by
    simp only [RepAL] at hr ⊢
    obtain ⟨x, t, e, h1, h2⟩ := hr
    exact ⟨x, t, e, RepA.mono h d x h1, RepAL.mono h l t h2⟩
end
theorem RepO.mono {γ γ' : G} (h : LeG γ γ') {o : Ob} {x : Go.Obj} (hr : RepO γ o x) : RepO γ' o x := by
  cases o with
  | cells cs => obtain ⟨vs, e, h1, h2, h3⟩ := hr; exact ⟨vs, e, h1, RepAL.mono h _ _ h2, h3⟩
  | arr sz n f =>
    obtain ⟨vs, e, h1, h2, h3⟩ := hr
    refine ⟨vs, e, h1, h2, fun i hi => ?_⟩
    obtain ⟨u, h4, h5⟩ := h3 i hi
    exact ⟨u, Rep.mono h.μ _ _ h4, h5⟩
  | map P k e n f => exact hr
  | vec e sz n f => exact hr
  | gone => exact hr
  | bld0 T => exact hr

/-- Function f, called with these data, returns that; it leaves all memory as it was. -/
def Callable (P : Program) (f : FuncId) : Prop := ∃ fn, P.funcs[f]? = some fn ∧ fn.body.isSome = true ∧ fn.name ≠ "runtime.NumGoroutine"
def PureAt (P : Program) (f : FuncId) (ds : List D) (r : D) : Prop :=
  Callable P f ∧ ∀ (μ : Nat → Nat → Option Value) (w : World) (vs : List Value), FzM μ w → RepL μ ds vs →
    Calls P f vs.toArray w fun e w' => ∃ v ν, e = .returned v ∧ Ext w w' ∧ (∀ b o, b < w.heap.size → ν b o = μ b o) ∧ FzM ν w' ∧ Rep ν r v

/-- Elements, told, and the cells that hold them. -/
def Elems (μ : Nat → Nat → Option Value) (sz n : Nat) (f : Nat → D) (xs : List Value) : Prop :=
  ∀ i, i < n → ∃ u, Rep μ (f i) u ∧ u.cells.size = sz ∧ (∀ x ∈ u.cells, x.oneCell' = true) ∧ ∀ j, j < sz → xs[i * sz + j]? = u.cells[j]?
def ObjAt (γ : G) (w : World) (o : Ob) (p : Pl) : Prop := match p with
  | .blk b => ∃ x, w.heap[b]? = some x ∧ RepO γ o x
  | .vec v e sz => ∃ n f xs, o = .vec e sz n f ∧ 0 < sz ∧ w.ownsRow 0 e sz v n xs ∧ Elems γ.μ sz n f xs
/-- The state of the world while the function runs. -/
structure Hp (own : Nat → Prop) (hp : Nat → Option Ob) (live : Nat → Prop) (γ : G) (w : World) : Prop where
  fz : FzM γ.μ w
  obj : ∀ id o, hp id = some o → o.ok = true → ∃ p, γ.ι id = some p ∧ ObjAt γ w o p ∧ ∀ b, p.block = some b → own b ∧ ∀ k, γ.μ b k = none
  inj : ∀ i j oi oj p q, hp i = some oi → hp j = some oj → oi.ok = true → oj.ok = true → i ≠ j → γ.ι i = some p → γ.ι j = some q → p.block = none ∨ p.block ≠ q.block
  tok : ∀ t v e sz, live t → γ.τ t = some (v, e, sz) → ∃ n xs, w.ownsRow 0 e sz v n xs ∧ ∀ g, v.ownBlock = some g → own g ∧ (∀ k, n * sz ≤ k → γ.μ g k = none) ∧ ∀ id o p, hp id = some o → o.ok = true → γ.ι id = some p → p.block ≠ some g
  tinj : ∀ s t v u, live s → live t → s ≠ t → γ.τ s = some v → γ.τ t = some u → v.1.ownBlock = none ∨ v.1.ownBlock ≠ u.1.ownBlock
theorem Elems.mono {μ ν : Nat → Nat → Option Value} (h : LeM μ ν) {sz n : Nat} {f : Nat → D} {xs : List Value} (he : Elems μ sz n f xs) : Elems ν sz n f xs := fun i hi =>
  let ⟨u, h1, h2⟩ := he i hi; ⟨u, Rep.mono h _ _ h1, h2⟩
theorem own_at {w w' : World} {v : Value} {e : TypeId} {sz n : Nat} {xs : List Value} (h : w.ownsRow 0 e sz v n xs) (hb : ∀ g, v.ownBlock = some g → w'.heap[g]? = w.heap[g]?) : w'.ownsRow 0 e sz v n xs := by
  obtain ⟨h1, h2⟩ := h
  refine ⟨h1, h2.imp id ?_⟩
  rintro ⟨g, cap, cur, rfl, k1, k2, k3⟩
  exact ⟨g, cap, cur, rfl, k1, by rw [hb g rfl]; exact k2, k3⟩
theorem ObjAt.kept {γ γ' : G} {w w' : World} {o : Ob} {p : Pl} (h : ObjAt γ w o p) (le : LeG γ γ') (hb : ∀ b, p.block = some b → w'.heap[b]? = w.heap[b]?) : ObjAt γ' w' o p := by
  cases p with
  | blk b => obtain ⟨x, h1, h2⟩ := h; exact ⟨x, by rw [hb b rfl]; exact h1, h2.mono le⟩
  | vec v e sz => obtain ⟨n, f, xs, h1, h0, h2, h3⟩ := h; exact ⟨n, f, xs, h1, h0, own_at h2 hb, h3.mono le.μ⟩
theorem ObjAt.lt {γ : G} {w : World} {o : Ob} {p : Pl} (h : ObjAt γ w o p) {b : Nat} (hb : p.block = some b) : b < w.heap.size := by
  cases p with
  | blk b' => obtain ⟨x, h1, h2⟩ := h; simp only [Pl.block, Option.some.injEq] at hb; subst hb; exact (Array.getElem?_eq_some_iff.1 h1).1
  | vec v e sz => obtain ⟨n, f, xs, h1, h0, h2, h3⟩ := h; exact (h2.lt b hb).2
theorem Hp.blk {own : Nat → Prop} {hp : Nat → Option Ob} {live : Nat → Prop} {γ : G} {w : World} (H : Hp own hp live γ w) {id : Nat} {o : Ob} (h : hp id = some o) (hb : o.isBlk = true) :
    ∃ b x, γ.ι id = some (.blk b) ∧ w.heap[b]? = some x ∧ RepO γ o x ∧ own b ∧ ∀ k, γ.μ b k = none := by
  obtain ⟨p, h1, h2, h3⟩ := H.obj id o h (by cases o <;> first | rfl | cases hb)
  cases p with
  | blk b => obtain ⟨x, h4, h5⟩ := h2; exact ⟨b, x, h1, h4, h5, h3 b rfl⟩
  | vec v e sz => obtain ⟨n, f, xs, h4, _⟩ := h2; subst h4; cases hb
theorem Hp.vec {own : Nat → Prop} {hp : Nat → Option Ob} {live : Nat → Prop} {γ : G} {w : World} (H : Hp own hp live γ w) {id : Nat} {e : TypeId} {sz n : Nat} {f : Nat → D} (h : hp id = some (.vec e sz n f)) :
    ∃ v xs, γ.ι id = some (.vec v e sz) ∧ 0 < sz ∧ w.ownsRow 0 e sz v n xs ∧ Elems γ.μ sz n f xs ∧ ∀ b, v.ownBlock = some b → own b ∧ ∀ k, γ.μ b k = none := by
  obtain ⟨p, h1, h2, h3⟩ := H.obj id _ h rfl
  cases p with
  | blk b => obtain ⟨x, h4, h5⟩ := h2; exact h5.elim
  | vec v e' sz' =>
    obtain ⟨n', f', xs, h4, h0, h5, h6⟩ := h2
    injection h4 with g1 g2 g3 g4
    subst g1 g2 g3 g4
    exact ⟨v, xs, h1, h0, h5, h6, h3⟩
structure Base (own : Nat → Prop) (w0 w : World) : Prop where
  os : w.os = w0.os
  tape : w.tape = w0.tape
  output : w.output = w0.output
  size : w0.heap.size ≤ w.heap.size
  block : ∀ k, k < w0.heap.size → ¬ own k → w.heap[k]? = w0.heap[k]?
end Go.Av
