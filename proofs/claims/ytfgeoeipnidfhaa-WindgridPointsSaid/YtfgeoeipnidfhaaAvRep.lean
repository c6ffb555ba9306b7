/- What the values without addresses stand for in memory. -/
import Derived.Test.YtfgeoeipnidfhaaAv
namespace Go.Av
open Go.RowKit Go.Base

/-- What is known beside the world: cells that no one writes any more, the blocks of the function's own objects, the slices that may be appended to. -/
structure G where
  μ : Nat → Nat → Option Value
  ι : Nat → Option Nat
  τ : Nat → Option (Value × TypeId × Nat)

mutual
def Rep (μ : Nat → Nat → Option Value) : D → Value → Prop
  | .bool b, v => v = .bool b
  | .int k n, v => v = .int k n
  | .str s, v => v = .string ⟨⟨s⟩⟩
  | .sl sz n f, v => ∃ A c, v = .slice A n c ∧ n ≤ c ∧ c ≤ maxLen ∧ (0 < n → ∃ b o, A = some ⟨b, o, none⟩ ∧ ∀ i, i < n → ∃ u, Rep μ (f i) u ∧ u.cells.size = sz ∧ (∀ x ∈ u.cells, x.oneCell' = true) ∧ ∀ j, j < sz → μ b (o + i * sz + j) = u.cells[j]?)
  | .agg cs, v => ∃ vs : List Value, v = .agg vs.toArray ∧ RepL μ cs vs
  | .tup cs, v => ∃ vs : List Value, v = .tuple vs.toArray ∧ RepL μ cs vs
  | .bad, _ => False
def RepL (μ : Nat → Nat → Option Value) : List D → List Value → Prop
  | [], vs => vs = []
  | d :: l, vs => ∃ v t, vs = v :: t ∧ Rep μ d v ∧ RepL μ l t
end
def RightOk (γ : G) (sz : Nat) (v : Value) : Right → Prop
  | .nl => v = .slice none 0 0
  | .tok t e => γ.τ t = some (v, e, sz) ∨ v = .slice none 0 0
mutual
def RepA (γ : G) : AV → Value → Prop
  | .d x, v => Rep γ.μ x v
  | .ap sz n f r, v => Rep γ.μ (.sl sz n f) v ∧ RightOk γ sz v r
  | .ptr id off, v => ∃ b, γ.ι id = some b ∧ v = .pointer (some ⟨b, off, none⟩)
  | .ep x off, v => ∃ b o u, v = .pointer (some ⟨b, o + off, none⟩) ∧ Rep γ.μ x u ∧ (∀ x ∈ u.cells, x.oneCell' = true) ∧ ∀ j, j < u.cells.size → γ.μ b (o + j) = u.cells[j]?
  | .pa id sz i off, v => ∃ b, γ.ι id = some b ∧ v = .pointer (some ⟨b, i * sz + off, none⟩)
  | .arr id _ n, v => ∃ b c, γ.ι id = some b ∧ v = .slice (some ⟨b, 0, none⟩) n c ∧ n ≤ c ∧ c ≤ maxLen
  | .mp id, v => ∃ b, γ.ι id = some b ∧ v = .map (some b)
  | .fn f cap, v => ∃ vs : List Value, v = .func (.func f) #[] vs.toArray ∧ RepAL γ cap vs
  | .agg cs, v => ∃ vs : List Value, v = .agg vs.toArray ∧ RepAL γ cs vs
  | .tup cs, v => ∃ vs : List Value, v = .tuple vs.toArray ∧ RepAL γ cs vs
  | .any, _ => True
def RepAL (γ : G) : List AV → List Value → Prop
  | [], vs => vs = []
  | d :: l, vs => ∃ v t, vs = v :: t ∧ RepA γ d v ∧ RepAL γ l t
end
def RepE (μ : Nat → Nat → Option Value) : List (D × D) → List MapEntry → Prop
  | [], l => l = []
  | (k, x) :: es, l => ∃ e t, l = e :: t ∧ Rep μ k e.key ∧ Rep μ x e.val ∧ RepE μ es t
def RepO (γ : G) : Ob → Go.Obj → Prop
  | .cells cs, o => ∃ (vs : List Value) (e : TypeId), o = .cells vs.toArray e (0, 0) ∧ RepAL γ cs vs ∧ ∀ x ∈ vs, x.oneCell' = true
  | .arr sz n f, o => ∃ (vs : Array Value) (e : TypeId), o = .cells vs e (0, 0) ∧ n * sz ≤ vs.size ∧ ∀ i, i < n → ∃ u, Rep γ.μ (f i) u ∧ u.cells.size = sz ∧ (∀ x ∈ u.cells, x.oneCell' = true) ∧ ∀ j, j < sz → vs[i * sz + j]? = u.cells[j]?
  | .map es, o => ∃ (l : List MapEntry) (k : Nat), o = .map l.toArray k ∧ RepE γ.μ es l
def FzM (μ : Nat → Nat → Option Value) (w : World) : Prop := ∀ b o v, μ b o = some v → w.cell? ⟨b, o, none⟩ = some v
def LeM (μ ν : Nat → Nat → Option Value) : Prop := ∀ b o v, μ b o = some v → ν b o = some v

theorem LeM.refl (μ : Nat → Nat → Option Value) : LeM μ μ := fun _ _ _ h => h
mutual
theorem Rep.mono {μ ν : Nat → Nat → Option Value} (h : LeM μ ν) : ∀ (d : D) (v : Value), Rep μ d v → Rep ν d v
  | .bool b, v, hr => by simpa only [Rep] using hr
  | .int k n, v, hr => by simpa only [Rep] using hr
  | .str s, v, hr => by simpa only [Rep] using hr
  | .bad, v, hr => by simp only [Rep] at hr
  | .sl sz n f, v, hr => by
    simp only [Rep] at hr ⊢
    obtain ⟨A, c, e, h1, h2, h3⟩ := hr
    refine ⟨A, c, e, h1, h2, fun hn => ?_⟩
    obtain ⟨b, o, ea, h4⟩ := h3 hn
    refine ⟨b, o, ea, fun i hi => ?_⟩
    obtain ⟨u, h5, h6, h7, h8⟩ := h4 i hi
    refine ⟨u, Rep.mono h (f i) u h5, h6, h7, fun j hj => ?_⟩
    have hlt : j < u.cells.size := by rw [h6]; exact hj
    have := h8 j hj
    rw [Array.getElem?_eq_getElem hlt] at this ⊢
    exact h _ _ _ this
  | .agg cs, v, hr => by
    simp only [Rep] at hr ⊢
    obtain ⟨vs, e, hr⟩ := hr
    exact ⟨vs, e, RepL.mono h cs vs hr⟩
  | .tup cs, v, hr => by
    simp only [Rep] at hr ⊢
    obtain ⟨vs, e, hr⟩ := hr
    exact ⟨vs, e, RepL.mono h cs vs hr⟩
theorem RepL.mono {μ ν : Nat → Nat → Option Value} (h : LeM μ ν) : ∀ (d : List D) (v : List Value), RepL μ d v → RepL ν d v
  | [], _, hr => by simpa only [RepL] using hr
  | d :: l, v, hr => by
    simp only [RepL] at hr ⊢
    obtain ⟨x, t, e, h1, h2⟩ := hr
    exact ⟨x, t, e, Rep.mono h d x h1, RepL.mono h l t h2⟩
end
structure LeG (γ γ' : G) : Prop where
  μ : LeM γ.μ γ'.μ
  ι : ∀ i b, γ.ι i = some b → γ'.ι i = some b
  τ : ∀ i b, γ.τ i = some b → γ'.τ i = some b
theorem LeG.refl (γ : G) : LeG γ γ := ⟨LeM.refl _, fun _ _ h => h, fun _ _ h => h⟩
theorem LeG.trans {a b c : G} (h : LeG a b) (k : LeG b c) : LeG a c := ⟨fun x y v e => k.μ x y v (h.μ x y v e), fun i b e => k.ι i b (h.ι i b e), fun i b e => k.τ i b (h.τ i b e)⟩
theorem RightOk.mono {γ γ' : G} (h : LeG γ γ') {sz : Nat} {v : Value} {r : Right} (hr : RightOk γ sz v r) : RightOk γ' sz v r := by
  cases r with
  | nl => exact hr
  | tok t e => exact hr.imp (h.τ _ _) id
mutual
theorem RepA.mono {γ γ' : G} (h : LeG γ γ') : ∀ (d : AV) (v : Value), RepA γ d v → RepA γ' d v
  | .d x, v, hr => by simp only [RepA] at hr ⊢; exact Rep.mono h.μ _ _ hr
  | .ap sz n f r, v, hr => by simp only [RepA] at hr ⊢; exact ⟨Rep.mono h.μ _ _ hr.1, hr.2.mono h⟩
  | .ptr id off, v, hr => by simp only [RepA] at hr ⊢; obtain ⟨b, e, e2⟩ := hr; exact ⟨b, h.ι _ _ e, e2⟩
  | .ep x off, v, hr => by
    simp only [RepA] at hr ⊢
    obtain ⟨b, o, u, e, h1, h3, h2⟩ := hr
    refine ⟨b, o, u, e, Rep.mono h.μ _ _ h1, h3, fun j hj => ?_⟩
    have := h2 j hj
    rw [Array.getElem?_eq_getElem hj] at this ⊢
    exact h.μ _ _ _ this
  | .pa id sz i off, v, hr => by simp only [RepA] at hr ⊢; obtain ⟨b, e, e2⟩ := hr; exact ⟨b, h.ι _ _ e, e2⟩
  | .arr id _ n, v, hr => by simp only [RepA] at hr ⊢; obtain ⟨b, c, e, e2⟩ := hr; exact ⟨b, c, h.ι _ _ e, e2⟩
  | .mp id, v, hr => by simp only [RepA] at hr ⊢; obtain ⟨b, e, e2⟩ := hr; exact ⟨b, h.ι _ _ e, e2⟩
  | .fn f cap, v, hr => by simp only [RepA] at hr ⊢; obtain ⟨vs, e, h2⟩ := hr; exact ⟨vs, e, RepAL.mono h _ _ h2⟩
  | .agg cs, v, hr => by simp only [RepA] at hr ⊢; obtain ⟨vs, e, h2⟩ := hr; exact ⟨vs, e, RepAL.mono h _ _ h2⟩
  | .tup cs, v, hr => by simp only [RepA] at hr ⊢; obtain ⟨vs, e, h2⟩ := hr; exact ⟨vs, e, RepAL.mono h _ _ h2⟩
  | .any, v, hr => by simp only [RepA]
theorem RepAL.mono {γ γ' : G} (h : LeG γ γ') : ∀ (d : List AV) (v : List Value), RepAL γ d v → RepAL γ' d v
  | [], _, hr => by simpa only [RepAL] using hr
  | d :: l, v, hr => by
    simp only [RepAL] at hr ⊢
    obtain ⟨x, t, e, h1, h2⟩ := hr
    exact ⟨x, t, e, RepA.mono h d x h1, RepAL.mono h l t h2⟩
end
theorem RepE.mono {μ ν : Nat → Nat → Option Value} (h : LeM μ ν) : ∀ (es : List (D × D)) (l : List MapEntry), RepE μ es l → RepE ν es l
  | [], _, hr => hr
  | (k, x) :: es, l, hr => by
    obtain ⟨e, t, h1, h2, h3, h4⟩ := hr
    exact ⟨e, t, h1, Rep.mono h _ _ h2, Rep.mono h _ _ h3, RepE.mono h es t h4⟩
theorem RepO.mono {γ γ' : G} (h : LeG γ γ') {o : Ob} {x : Go.Obj} (hr : RepO γ o x) : RepO γ' o x := by
  cases o with
  | cells cs => obtain ⟨vs, e, h1, h2, h3⟩ := hr; exact ⟨vs, e, h1, RepAL.mono h _ _ h2, h3⟩
  | arr sz n f =>
    obtain ⟨vs, e, h1, h2, h3⟩ := hr
    refine ⟨vs, e, h1, h2, fun i hi => ?_⟩
    obtain ⟨u, h4, h5⟩ := h3 i hi
    exact ⟨u, Rep.mono h.μ _ _ h4, h5⟩
  | map es => obtain ⟨l, k, h1, h2⟩ := hr; exact ⟨l, k, h1, RepE.mono h.μ _ _ h2⟩

/-- Function f, called with these data, returns that; it leaves all memory as it was. -/
def Callable (P : Program) (f : FuncId) : Prop := ∃ fn, P.funcs[f]? = some fn ∧ fn.body.isSome = true ∧ fn.name ≠ "runtime.NumGoroutine"
def PureAt (P : Program) (f : FuncId) (ds : List D) (r : D) : Prop :=
  Callable P f ∧ ∀ (μ : Nat → Nat → Option Value) (w : World) (vs : List Value), FzM μ w → RepL μ ds vs →
    Calls P f vs.toArray w fun e w' => ∃ v ν, e = .returned v ∧ Ext w w' ∧ (∀ b o, b < w.heap.size → ν b o = μ b o) ∧ FzM ν w' ∧ Rep ν r v

/-- The state of the world while the function runs. -/
structure Hp (own : Nat → Prop) (hp : Nat → Option Ob) (live : Nat → Prop) (γ : G) (w : World) : Prop where
  fz : FzM γ.μ w
  obj : ∀ id o, hp id = some o → ∃ b x, γ.ι id = some b ∧ w.heap[b]? = some x ∧ RepO γ o x ∧ own b ∧ ∀ k, γ.μ b k = none
  inj : ∀ i j oi oj, hp i = some oi → hp j = some oj → i ≠ j → γ.ι i ≠ γ.ι j
  tok : ∀ t v e sz, live t → γ.τ t = some (v, e, sz) → ∃ n xs, w.ownsRow 0 e sz v n xs ∧ ∀ g, v.ownBlock = some g → own g ∧ (∀ k, n * sz ≤ k → γ.μ g k = none) ∧ ∀ id o, hp id = some o → γ.ι id ≠ some g
  tinj : ∀ s t v u, live s → live t → s ≠ t → γ.τ s = some v → γ.τ t = some u → v.1.ownBlock = none ∨ v.1.ownBlock ≠ u.1.ownBlock
structure Base (own : Nat → Prop) (w0 w : World) : Prop where
  os : w.os = w0.os
  tape : w.tape = w0.tape
  output : w.output = w0.output
  size : w0.heap.size ≤ w.heap.size
  block : ∀ k, k < w0.heap.size → ¬ own k → w.heap[k]? = w0.heap[k]?
end Go.Av
