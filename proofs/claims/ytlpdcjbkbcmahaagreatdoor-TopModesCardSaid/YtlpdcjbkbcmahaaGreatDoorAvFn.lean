/- Functions, loops, and states that say less. -/
import Derived.Test.YtlpdcjbkbcmahaaGreatDoorAvCode
set_option linter.unusedVariables false
set_option linter.unusedSimpArgs false
namespace Go.Av
open Go.RowKit Go.Base
variable {P : Program} {V : Env} {N : Nat} {γ γ' : G} {w w' : World}

mutual
/-- The same data (a slice of no elements has no width). -/
def Deq : D → D → Prop
  | .sl sz n f, .sl sz' m g => n = m ∧ ∀ i, i < n → sz = sz' ∧ (f i = g i ∨ Deq (f i) (g i))
  | .agg xs, .agg ys => DeqL xs ys
  | .tup xs, .tup ys => DeqL xs ys
  | .bool a, .bool b => a = b
  | .int k a, .int k' b => k = k' ∧ a = b
  | .str a, .str b => a = b
  | _, _ => False
def DeqL : List D → List D → Prop
  | [], [] => True
  | x :: xs, y :: ys => (x = y ∨ Deq x y) ∧ DeqL xs ys
  | _, _ => False
end
mutual
theorem Rep.deq {μ : Nat → Nat → Option Value} : ∀ {x y : D} {v : Value}, Deq x y → Rep μ x v → Rep μ y v
  | .sl sz n f, y, v, h, hr => by
    cases y with
    | sl sz' m g =>
      simp only [Deq] at h
      obtain ⟨rfl, h⟩ := h
      simp only [Rep] at hr ⊢
      obtain ⟨A, c, e, h1, h2, h3⟩ := hr
      refine ⟨A, c, e, h1, h2, fun hn => ?_⟩
      obtain ⟨b, o, e2, h4⟩ := h3 hn
      refine ⟨b, o, e2, fun i hi => ?_⟩
      obtain ⟨rfl, hd⟩ := h i hi
      obtain ⟨u, h5, h6⟩ := h4 i hi
      exact ⟨u, hd.elim (fun e => e ▸ h5) (fun hd => Rep.deq hd h5), h6⟩
    | _ => simp only [Deq] at h
  | .agg xs, y, v, h, hr => by
    cases y with
    | agg ys => simp only [Deq] at h; simp only [Rep] at hr ⊢; obtain ⟨vs, e, hr⟩ := hr; exact ⟨vs, e, RepL.deq h hr⟩
    | _ => simp only [Deq] at h
  | .tup xs, y, v, h, hr => by
    cases y with
    | tup ys => simp only [Deq] at h; simp only [Rep] at hr ⊢; obtain ⟨vs, e, hr⟩ := hr; exact ⟨vs, e, RepL.deq h hr⟩
    | _ => simp only [Deq] at h
  | .bool a, y, v, h, hr => by
    cases y with
    | bool b => simp only [Deq] at h; subst h; exact hr
    | _ => simp only [Deq] at h
  | .int k a, y, v, h, hr => by
    cases y with
    | int k' b => simp only [Deq] at h; obtain ⟨rfl, rfl⟩ := h; exact hr
    | _ => simp only [Deq] at h
  | .str a, y, v, h, hr => by
    cases y with
    | str b => simp only [Deq] at h; subst h; exact hr
    | _ => simp only [Deq] at h
  | .bad, y, v, h, hr => by simp only [Rep] at hr
theorem RepL.deq {μ : Nat → Nat → Option Value} : ∀ {x y : List D} {v : List Value}, DeqL x y → RepL μ x v → RepL μ y v
  | [], y, v, h, hr => by
    cases y with
    | nil => exact hr
    | cons _ _ => simp only [DeqL] at h
  | x :: xs, y, v, h, hr => by
    cases y with
    | nil => simp only [DeqL] at h
    | cons y ys =>
      simp only [DeqL] at h
      simp only [RepL] at hr ⊢
      obtain ⟨u, t, e, h1, h2⟩ := hr
      exact ⟨u, t, e, h.1.elim (fun e => e ▸ h1) (fun h => Rep.deq h h1), RepL.deq h.2 h2⟩
end
def De (x y : D) : Prop := x = y ∨ Deq x y
theorem De.rfl {x : D} : De x x := .inl (Eq.refl _)
theorem Rep.de {μ : Nat → Nat → Option Value} {x y : D} {v : Value} (h : De x y) (hr : Rep μ x v) : Rep μ y v := h.elim (fun e => e ▸ hr) (fun h => Rep.deq h hr)
theorem De.sl {sz n sz' m : Nat} {f g : Nat → D} (h : De (.sl sz n f) (.sl sz' m g)) : n = m ∧ ∀ i, i < n → sz = sz' ∧ De (f i) (g i) := by
  rcases h with h | h
  · injection h with h1 h2 h3; subst h1 h2 h3; exact ⟨Eq.refl _, fun _ _ => ⟨Eq.refl _, De.rfl⟩⟩
  · simp only [Deq] at h; exact h

/-! ### Loops -/
theorem wp_loop_ex {X : Type} {c : Code} {Q : Exit → Act → World → Prop} {a : Act} (I : X → Act → World → Prop) (μ : X → Nat) (x0 : X) (h₀ : I x0 a w)
    (round : ∀ x a w, I x a w → c.wp P (Exit.then (fun a' w' => ∃ x', I x' a' w' ∧ μ x' < μ x) Q) a w) : (Code.loop c).wp P Q a w := by
  intro b k cs
  have key : ∀ n x a w, μ x = n → I x a w →
      ∃ e a' w', Q e a' w' ∧ Arrives P (lone (b.at a (.code c :: .inLoop c :: k)) cs w) b k cs e a' w' := by
    intro n
    induction n using Nat.strongRecOn with
    | _ n ih =>
      intro x a w hn hI
      obtain ⟨e, a₁, w₁, hq, harr⟩ := round x a w hI b (.inLoop c :: k) cs
      cases e with
      | normal =>
        obtain ⟨x₁, hI₁, hlt⟩ := hq
        obtain ⟨e₂, a₂, w₂, hq₂, harr₂⟩ := ih (μ x₁) (hn ▸ hlt) x₁ a₁ w₁ rfl hI₁
        exact ⟨e₂, a₂, w₂, hq₂, .of_steps (Steps.trans harr (.one step_inLoop)) harr₂⟩
      | exit id => exact ⟨_, a₁, w₁, hq, .pass (x := .inLoop c) rfl (fun _ _ => .inl (by simp)) harr⟩
      | goto l => exact ⟨_, a₁, w₁, hq, .pass (x := .inLoop c) rfl (fun _ _ => .inl (by simp)) harr⟩
      | ret => exact ⟨_, a₁, w₁, hq, .pass (x := .inLoop c) rfl (fun _ _ => .inl (by simp)) harr⟩
      | panic ch => exact ⟨_, a₁, w₁, hq, .pass (x := .inLoop c) rfl (fun _ _ => .inl (by simp)) harr⟩
      | outgrown => exact ⟨_, a₁, w₁, hq, .pass (x := .inLoop c) rfl (fun _ _ => .inl (by simp)) harr⟩
  obtain ⟨e, a', w', hq, harr⟩ := key _ x0 a w rfl h₀
  exact ⟨e, a', w', hq, .of_steps (.one step_loop) harr⟩
/-- A state that says no more than another one. -/
def Weak (st st' : St) : Prop := ∀ (V : Env) (N : Nat) (γ : G) (a : Act) (w : World), RS V N st γ a w → ∃ γ', RS V N st' γ' a w
theorem Weak.refl (st : St) : Weak st st := fun _ _ γ _ _ h => ⟨γ, h⟩
theorem Weak.trans {a b c : St} (h : Weak a b) (k : Weak b c) : Weak a c := fun V N γ x w hr => let ⟨γ', h'⟩ := h V N γ x w hr; k V N γ' x w h'
theorem Tri.weak {c : Code} {st st' : St} {K : Exit → St → Prop} (hw : Weak st st') (h : Tri P V N c st' K) : Tri P V N c st K := fun γ a w hr =>
  let ⟨γ', h'⟩ := hw V N γ a w hr; h γ' a w h'
theorem Tri.post {c : Code} {st : St} {K K' : Exit → St → Prop} (h : Tri P V N c st K) (hk : ∀ ex s, K ex s → ∃ s', Weak s s' ∧ K' ex s') : Tri P V N c st K' :=
  fun γ a w hr => wp_mono (h γ a w hr) fun ex a' w' ⟨s, γ', h1, h2⟩ => by
    obtain ⟨s', hw, hk'⟩ := hk ex s h2
    obtain ⟨γ'', h3⟩ := hw V N γ' a' w' h1
    exact ⟨s', γ'', h3, hk'⟩
theorem Tri.loop {X : Type} {c : Code} {st : St} {K : Exit → St → Prop} (head : X → St) (I : X → Prop) (μ : X → Nat) (x0 : X) (h0 : Weak st (head x0)) (hi : I x0)
    (round : ∀ x, I x → Tri P V N c (head x) (andThen K fun s => ∃ x', I x' ∧ μ x' < μ x ∧ Weak s (head x'))) : Tri P V N (.loop c) st K := fun γ a w hr => by
  obtain ⟨γ0, hr0⟩ := h0 V N γ a w hr
  refine wp_loop_ex (I := fun x a w => I x ∧ ∃ γ, RS V N (head x) γ a w) μ x0 ⟨hi, γ0, hr0⟩ ?_
  rintro x a w ⟨hx, γ, hr⟩
  refine wp_mono (round x hx γ a w hr) ?_
  rintro ex a' w' ⟨s, γ', h1, h2⟩
  cases ex with
  | normal =>
    obtain ⟨x', h3, h4, h5⟩ := h2
    obtain ⟨γ'', h6⟩ := h5 V N γ' a' w' h1
    exact ⟨x', ⟨h3, γ'', h6⟩, h4⟩
  | _ => exact ⟨s, γ', h1, h2⟩

/-! ### Saying less -/
def look2 : List (Nat × Nat) → Nat → Option Nat
  | [], _ => none
  | (i, v) :: l, t => if i = t then some v else look2 l t
mutual
/-- What a result is, told as data. -/
def VIs : AV → D → Prop
  | .d x, r => De x r
  | .ap sz n f _, r => De (.sl sz n f) r
  | .tup l, .tup rs => VIsL l rs
  | .agg l, .agg rs => VIsL l rs
  | _, _ => False
def VIsL : List AV → List D → Prop
  | [], [] => True
  | x :: xs, y :: ys => VIs x y ∧ VIsL xs ys
  | _, _ => False
end
mutual
theorem VIs.rep : ∀ {x : AV} {r : D} {v : Value}, VIs x r → RepA γ x v → Rep γ.μ r v
  | .d x, r, v, h, hr => by simp only [VIs] at h; simp only [RepA] at hr; exact hr.de h
  | .ap sz n f _, r, v, h, hr => by simp only [VIs] at h; simp only [RepA] at hr; exact hr.1.de h
  | .tup l, r, v, h, hr => by
    cases r with
    | tup rs => simp only [VIs] at h; simp only [RepA] at hr; simp only [Rep]; obtain ⟨vs, e, h2⟩ := hr; exact ⟨vs, e, VIsL.rep h h2⟩
    | _ => simp only [VIs] at h
  | .agg l, r, v, h, hr => by
    cases r with
    | agg rs => simp only [VIs] at h; simp only [RepA] at hr; simp only [Rep]; obtain ⟨vs, e, h2⟩ := hr; exact ⟨vs, e, VIsL.rep h h2⟩
    | _ => simp only [VIs] at h
  | .ptr .., r, v, h, _ => by simp only [VIs] at h
  | .ep .., r, v, h, _ => by simp only [VIs] at h
  | .pa .., r, v, h, _ => by simp only [VIs] at h
  | .arr .., r, v, h, _ => by simp only [VIs] at h
  | .mp .., r, v, h, _ => by simp only [VIs] at h
  | .vec .., r, v, h, _ => by simp only [VIs] at h
  | .pv .., r, v, h, _ => by simp only [VIs] at h
  | .fn .., r, v, h, _ => by simp only [VIs] at h
  | .nilp, r, v, h, _ => by simp only [VIs] at h
  | .nilf, r, v, h, _ => by simp only [VIs] at h
  | .any, r, v, h, _ => by simp only [VIs] at h
theorem VIsL.rep : ∀ {x : List AV} {r : List D} {v : List Value}, VIsL x r → RepAL γ x v → RepL γ.μ r v
  | [], r, v, h, hr => by
    cases r with
    | nil => simpa only [RepAL, RepL] using hr
    | cons _ _ => simp only [VIsL] at h
  | x :: xs, r, v, h, hr => by
    cases r with
    | nil => simp only [VIsL] at h
    | cons y ys =>
      simp only [VIsL] at h
      simp only [RepAL] at hr
      simp only [RepL]
      obtain ⟨u, t, e, h1, h2⟩ := hr
      exact ⟨u, t, e, VIs.rep h.1 h1, VIsL.rep h.2 h2⟩
end
mutual
/-- Value x, told as y: rs and ts give each object and each right of y its name in x. -/
def AVle (rs ts : List (Nat × Nat)) : AV → AV → Prop
  | _, .any => True
  | .d x, .d y => De x y
  | .ap sz n f _, .d y => De (.sl sz n f) y
  | .agg l, .d y => VIs (.agg l) y
  | .ap _ _ _ .nl, .ap _ n' _ _ => n' = 0
  | .ap sz n f (.tok a e), .ap sz' n' g (.tok b e') => sz = sz' ∧ e = e' ∧ look2 ts b = some a ∧ De (.sl sz n f) (.sl sz' n' g)
  | .ptr a off, .ptr b off' => look2 rs b = some a ∧ off = off'
  | .ep x off, .ep y off' => x = y ∧ off = off'
  | .pa a sz i off, .pa b sz' i' off' => look2 rs b = some a ∧ sz = sz' ∧ i = i' ∧ off = off'
  | .arr a sz n, .arr b sz' n' => look2 rs b = some a ∧ sz = sz' ∧ n = n'
  | .vec a sz n, .vec b sz' n' => look2 rs b = some a ∧ sz = sz' ∧ n = n'
  | .pv a sz i off, .pv b sz' i' off' => look2 rs b = some a ∧ sz = sz' ∧ i = i' ∧ off = off'
  | .mp a, .mp b => look2 rs b = some a
  | .nilp, .nilp => True
  | .nilf, .nilf => True
  | .fn f c, .fn g c' => f = g ∧ AVleL rs ts c c'
  | .agg l, .agg l' => AVleL rs ts l l'
  | .tup l, .tup l' => AVleL rs ts l l'
  | _, _ => False
def AVleL (rs ts : List (Nat × Nat)) : List AV → List AV → Prop
  | [], [] => True
  | x :: xs, y :: ys => AVle rs ts x y ∧ AVleL rs ts xs ys
  | _, _ => False
end
def Oble (rs ts : List (Nat × Nat)) : Ob → Ob → Prop
  | .cells l, .cells l' => AVleL rs ts l l'
  | .arr sz n f, .arr sz' n' g => sz = sz' ∧ De (.sl sz n f) (.sl sz' n' g)
  | .map P k e n f, .map P' k' e' n' f' => P = P' ∧ k = k' ∧ e = e' ∧ n = n' ∧ f = f'
  | .vec e sz n f, .vec e' sz' n' g => e = e' ∧ sz = sz' ∧ De (.sl sz n f) (.sl sz' n' g)
  | .bld0 T, .bld0 T' => T = T'
  | _, .gone => True
  | _, _ => False
structure ReG (rs ts : List (Nat × Nat)) (γ γ' : G) : Prop where
  μ : γ'.μ = γ.μ
  ι : ∀ b a, look2 rs b = some a → γ'.ι b = γ.ι a
  τ : ∀ b a, look2 ts b = some a → γ'.τ b = γ.τ a
mutual
theorem RepA.le {rs ts : List (Nat × Nat)} (h : ReG rs ts γ γ') : ∀ {x y : AV} {v : Value}, AVle rs ts x y → RepA γ x v → RepA γ' y v
  | x, .any, v, _, _ => by simp only [RepA]
  | x, .d y, v, hl, hr => by
    cases x with
    | d x => simp only [AVle] at hl; simp only [RepA] at hr ⊢; rw [h.μ]; exact hr.de hl
    | ap sz n f r => simp only [AVle] at hl; simp only [RepA] at hr ⊢; rw [h.μ]; exact hr.1.de hl
    | agg l => simp only [AVle] at hl; have := VIs.rep hl hr; simp only [RepA]; rw [h.μ]; exact this
    | _ => simp only [AVle] at hl
  | x, .ap sz' n' g r', v, hl, hr => by
    cases x with
    | ap sz n f r =>
      cases r with
      | nl =>
        simp only [AVle] at hl
        subst hl
        simp only [RepA, RightOk] at hr ⊢
        obtain ⟨_, rfl⟩ := hr
        refine ⟨by simp only [Rep]; exact ⟨none, 0, rfl, Nat.le_refl _, Nat.zero_le _, fun h => absurd h (by omega)⟩, ?_⟩
        cases r' with
        | nl => rfl
        | tok t e => exact .inr rfl
      | tok a e =>
        cases r' with
        | nl => simp only [AVle] at hl
        | tok b e' =>
          simp only [AVle] at hl
          obtain ⟨rfl, rfl, h1, h2⟩ := hl
          simp only [RepA, RightOk] at hr ⊢
          rw [h.μ, h.τ b a h1]
          exact ⟨hr.1.de h2, hr.2⟩
    | _ => simp only [AVle] at hl
  | x, .ptr b off', v, hl, hr => by
    cases x with
    | ptr a off => simp only [AVle] at hl; obtain ⟨h1, rfl⟩ := hl; simp only [RepA] at hr ⊢; rw [h.ι b a h1]; exact hr
    | _ => simp only [AVle] at hl
  | x, .ep y off', v, hl, hr => by
    cases x with
    | ep x off => simp only [AVle] at hl; obtain ⟨rfl, rfl⟩ := hl; simp only [RepA] at hr ⊢; rw [h.μ]; exact hr
    | _ => simp only [AVle] at hl
  | x, .pa b sz' i' off', v, hl, hr => by
    cases x with
    | pa a sz i off => simp only [AVle] at hl; obtain ⟨h1, rfl, rfl, rfl⟩ := hl; simp only [RepA] at hr ⊢; rw [h.ι b a h1]; exact hr
    | _ => simp only [AVle] at hl
  | x, .arr b sz' n', v, hl, hr => by
    cases x with
    | arr a sz n => simp only [AVle] at hl; obtain ⟨h1, rfl, rfl⟩ := hl; simp only [RepA] at hr ⊢; rw [h.ι b a h1]; exact hr
    | _ => simp only [AVle] at hl
  | x, .vec b sz' n', v, hl, hr => by
    cases x with
    | vec a sz n => simp only [AVle] at hl; obtain ⟨h1, rfl, rfl⟩ := hl; simp only [RepA] at hr ⊢; rw [h.ι b a h1]; exact hr
    | _ => simp only [AVle] at hl
  | x, .pv b sz' i' off', v, hl, hr => by
    cases x with
    | pv a sz i off => simp only [AVle] at hl; obtain ⟨h1, rfl, rfl, rfl⟩ := hl; simp only [RepA] at hr ⊢; rw [h.ι b a h1]; exact hr
    | _ => simp only [AVle] at hl
  | x, .mp b, v, hl, hr => by
    cases x with
    | mp a => simp only [AVle] at hl; simp only [RepA] at hr ⊢; rw [h.ι b a hl]; exact hr
    | _ => simp only [AVle] at hl
  | x, .fn g c', v, hl, hr => by
    cases x with
    | fn f c => simp only [AVle] at hl; obtain ⟨rfl, h2⟩ := hl; simp only [RepA] at hr ⊢; obtain ⟨vs, e, h3⟩ := hr; exact ⟨vs, e, RepAL.le h h2 h3⟩
    | _ => simp only [AVle] at hl
  | x, .nilp, v, hl, hr => by
    cases x with
    | nilp => exact hr
    | _ => simp only [AVle] at hl
  | x, .nilf, v, hl, hr => by
    cases x with
    | nilf => exact hr
    | _ => simp only [AVle] at hl
  | x, .agg l', v, hl, hr => by
    cases x with
    | agg l => simp only [AVle] at hl; simp only [RepA] at hr ⊢; obtain ⟨vs, e, h3⟩ := hr; exact ⟨vs, e, RepAL.le h hl h3⟩
    | _ => simp only [AVle] at hl
  | x, .tup l', v, hl, hr => by
    cases x with
    | tup l => simp only [AVle] at hl; simp only [RepA] at hr ⊢; obtain ⟨vs, e, h3⟩ := hr; exact ⟨vs, e, RepAL.le h hl h3⟩
    | _ => simp only [AVle] at hl
theorem RepAL.le {rs ts : List (Nat × Nat)} (h : ReG rs ts γ γ') : ∀ {x y : List AV} {v : List Value}, AVleL rs ts x y → RepAL γ x v → RepAL γ' y v
  | x, [], v, hl, hr => by
    cases x with
    | nil => simpa only [RepAL] using hr
    | cons _ _ => simp only [AVleL] at hl
  | x, y :: ys, v, hl, hr => by
    cases x with
    | nil => simp only [AVleL] at hl
    | cons x xs =>
      simp only [AVleL] at hl
      simp only [RepAL] at hr ⊢
      obtain ⟨u, t, e, h1, h2⟩ := hr
      exact ⟨u, t, e, RepA.le h hl.1 h1, RepAL.le h hl.2 h2⟩
end
theorem Oble.ok {rs ts : List (Nat × Nat)} {x y : Ob} (hl : Oble rs ts x y) (hy : y.ok = true) : x.ok = true := by
  cases x <;> cases y <;> first | rfl | exact hl.elim | cases hy
theorem RepO.le {rs ts : List (Nat × Nat)} (h : ReG rs ts γ γ') {x y : Ob} {v : Go.Obj} (hy : y.ok = true) (hl : Oble rs ts x y) (hr : RepO γ x v) : RepO γ' y v := by
  cases x with
  | cells l =>
    cases y with
    | cells l' => obtain ⟨vs, e, h1, h2, h3⟩ := hr; exact ⟨vs, e, h1, RepAL.le h hl h2, h3⟩
    | gone => cases hy
    | _ => exact hl.elim
  | arr sz n f =>
    cases y with
    | arr sz' n' g =>
      obtain ⟨rfl, hl⟩ := hl
      obtain ⟨rfl, hl2⟩ := hl.sl
      obtain ⟨vs, e, h1, h2, h3⟩ := hr
      refine ⟨vs, e, h1, h2, fun i hi => ?_⟩
      obtain ⟨u, h4, h5⟩ := h3 i hi
      exact ⟨u, by rw [h.μ]; exact h4.de (hl2 i hi).2, h5⟩
    | gone => cases hy
    | _ => exact hl.elim
  | map P k e n f =>
    cases y with
    | map P' k' e' n' f' =>
      obtain ⟨rfl, rfl, rfl, rfl, rfl⟩ := hl
      exact hr
    | gone => cases hy
    | _ => exact hl.elim
  | bld0 T =>
    cases y with
    | bld0 T' => exact (show T = T' from hl) ▸ hr
    | gone => cases hy
    | _ => exact hl.elim
  | vec e sz n f => exact hr.elim
  | gone => exact hr.elim
theorem Elems.de {μ : Nat → Nat → Option Value} {sz n n' : Nat} {f g : Nat → D} {xs : List Value} (h : Elems μ sz n f xs) (hd : De (.sl sz n f) (.sl sz n' g)) : n = n' ∧ Elems μ sz n' g xs := by
  obtain ⟨rfl, hl2⟩ := hd.sl
  refine ⟨rfl, fun i hi => ?_⟩
  obtain ⟨u, h4, h5⟩ := h i hi
  exact ⟨u, h4.de (hl2 i hi).2, h5⟩
theorem ObjAt.le {rs ts : List (Nat × Nat)} (h : ReG rs ts γ γ') {x y : Ob} {p : Pl} (hy : y.ok = true) (hl : Oble rs ts x y) (hr : ObjAt γ w x p) : ObjAt γ' w y p := by
  cases p with
  | blk b => obtain ⟨o, h1, h2⟩ := hr; exact ⟨o, h1, h2.le h hy hl⟩
  | vec v e sz =>
    obtain ⟨n, f, xs, rfl, h0, h1, h2⟩ := hr
    cases y with
    | vec e' sz' n' g =>
      obtain ⟨rfl, rfl, hl⟩ := hl
      obtain ⟨rfl, h3⟩ := h2.de hl
      exact ⟨n, g, xs, rfl, h0, h1, by rw [h.μ]; exact h3⟩
    | gone => cases hy
    | _ => exact hl.elim

/-- All parts of a list hold. -/
def allP {α : Type} (p : α → Prop) : List α → Prop
  | [] => True
  | [x] => p x
  | x :: l => p x ∧ allP p l
theorem allP_mem {α : Type} {p : α → Prop} : ∀ {l : List α}, allP p l → ∀ x ∈ l, p x
  | [], _, x, hx => by cases hx
  | [y], h, x, hx => by rcases List.mem_singleton.1 hx with rfl; exact h
  | y :: z :: l, h, x, hx => by
    obtain ⟨h1, h2⟩ := h
    rcases List.mem_cons.1 hx with rfl | hx
    · exact h1
    · exact allP_mem h2 x hx
/-- What is decided of the names alone. -/
def namesL (rs ts : List (Nat × Nat)) (hp' : List (Nat × Ob)) (live live' : List Nat) (nx' : Nat) : Bool :=
  decide ((rs.map (·.2)).Nodup) && (rs.all fun p => decide (p.1 < nx')) && (hp'.all fun p => (look2 rs p.1).isSome) && decide ((ts.map (·.2)).Nodup) && (ts.all fun p => decide (p.1 < nx') && live.contains p.2) && (live'.all fun t => decide (t < nx'))
/-- The names below 16 are those of the arguments' objects: they stay. -/
def pinsOk (rs : List (Nat × Nat)) (nx' : Nat) : Bool := decide (16 ≤ nx') && rs.all fun p => decide (16 ≤ p.1) || p.1 == p.2
def namesOk (rs ts : List (Nat × Nat)) (st st' : St) : Bool := namesL rs ts st'.hp st.live st'.live st'.nx && pinsOk rs st'.nx
theorem look2_mem : ∀ {l : List (Nat × Nat)} {b a : Nat}, look2 l b = some a → (b, a) ∈ l
  | [], _, _, h => by cases h
  | (i, v) :: l, b, a, h => by
    simp only [look2] at h
    split at h
    · rename_i e; injection h with h; subst e h; simp
    · exact List.mem_cons_of_mem _ (look2_mem h)
theorem look2_inj {l : List (Nat × Nat)} (h : (l.map (·.2)).Nodup) {b c a : Nat} (h1 : look2 l b = some a) (h2 : look2 l c = some a) : b = c := by
  have m1 := look2_mem h1
  have m2 := look2_mem h2
  clear h1 h2
  induction l with
  | nil => cases m1
  | cons x l ih =>
    simp only [List.map_cons, List.nodup_cons, List.mem_map] at h
    rcases List.mem_cons.1 m1 with e1 | m1 <;> rcases List.mem_cons.1 m2 with e2 | m2
    · rw [← e1] at e2; exact (Prod.mk.inj e2).1.symm
    · exact absurd ⟨_, m2, by rw [← e1]⟩ h.1
    · exact absurd ⟨_, m1, by rw [← e2]⟩ h.1
    · exact ih h.2 m1 m2
theorem mem_of_look : ∀ {l : List (Nat × AV)} {t : Nat}, look l t = .any ∨ (t, look l t) ∈ l
  | [], _ => .inl rfl
  | (i, v) :: l, t => by
    simp only [look]
    split
    · rename_i e; subst e; exact .inr (by simp)
    · rcases mem_of_look (l := l) (t := t) with h | h
      · exact .inl h
      · exact .inr (List.mem_cons_of_mem _ h)
theorem mem_of_lookO : ∀ {l : List (Nat × Ob)} {t : Nat} {o : Ob}, lookO l t = some o → (t, o) ∈ l
  | [], _, _, h => by cases h
  | (i, v) :: l, t, o, h => by
    simp only [lookO] at h
    split at h
    · rename_i e; injection h with h; subst e h; simp
    · exact List.mem_cons_of_mem _ (mem_of_lookO h)
/-- Memory, told less, under other names. -/
def reG (rs ts : List (Nat × Nat)) (keep : Nat → Option Pl) (γ : G) : G := ⟨γ.μ, fun b => match look2 rs b with | some a => γ.ι a | none => keep b, fun b => (look2 ts b).bind γ.τ⟩
theorem reG_ok (rs ts : List (Nat × Nat)) (keep : Nat → Option Pl) (γ : G) : ReG rs ts γ (reG rs ts keep γ) := ⟨rfl, fun b a h => by simp only [reG, h], fun b a h => by simp only [reG, h, Option.bind_some]⟩
theorem hp_weak {own : Nat → Prop} (rs ts : List (Nat × Nat)) (keep : Nat → Option Pl) {hp hp' : List (Nat × Ob)} {live live' : List Nat} {nx' : Nat} (hn : namesL rs ts hp' live live' nx' = true)
    (ho : allP (fun p : Nat × Ob => ∃ b o, look2 rs p.1 = some b ∧ lookO hp b = some o ∧ Oble rs ts o p.2) hp') (H : Hp own (lookO hp) (· ∈ live) γ w) (hk : ∀ i, nx' ≤ i → keep i = none) :
    Hp own (lookO hp') (· ∈ live') (reG rs ts keep γ) w ∧ Fresh nx' (lookO hp') (· ∈ live') (reG rs ts keep γ) := by
  unfold namesL at hn
  simp only [Bool.and_eq_true, decide_eq_true_eq, List.all_eq_true, List.contains_eq_mem] at hn
  obtain ⟨⟨⟨⟨⟨n1, n2⟩, n3⟩, n4⟩, n5⟩, n6⟩ := hn
  have re := reG_ok rs ts keep γ
  have obj' : ∀ id o, lookO hp' id = some o → ∃ b o0, look2 rs id = some b ∧ lookO hp b = some o0 ∧ Oble rs ts o0 o := fun id o h => allP_mem ho _ (mem_of_lookO h)
  have tok' : ∀ t v, (reG rs ts keep γ).τ t = some v → ∃ a, look2 ts t = some a ∧ γ.τ a = some v ∧ a ∈ live := fun t v h => by
    simp only [reG] at h
    rw [Option.bind_eq_some_iff] at h
    obtain ⟨a, h1, h2⟩ := h
    exact ⟨a, h1, h2, (n5 _ (look2_mem h1)).2⟩
  refine ⟨⟨H.fz, fun id o h ho => ?_, fun i j oi oj p q hi hj ho1 ho2 hne hp1 hp2 => ?_, fun t v e sz hl hq => ?_, fun s t v u hs ht hne hv hu => ?_⟩, ⟨fun id hid => ⟨?_, ?_, ?_, ?_⟩⟩⟩
  · obtain ⟨b, o0, h1, h2, h3⟩ := obj' id o h
    obtain ⟨p, e1, e2, e3⟩ := H.obj b o0 h2 (h3.ok ho)
    exact ⟨p, by rw [re.ι id b h1]; exact e1, e2.le re ho h3, e3⟩
  · obtain ⟨b, o0, h1, h2, h5⟩ := obj' i oi hi
    obtain ⟨c, o1, h3, h4, h6⟩ := obj' j oj hj
    rw [re.ι i b h1] at hp1
    rw [re.ι j c h3] at hp2
    exact H.inj b c o0 o1 p q h2 h4 (h5.ok ho1) (h6.ok ho2) (fun e => hne (look2_inj n1 h1 (by rw [e]; exact h3))) hp1 hp2
  · obtain ⟨c, h1, h2, h3⟩ := tok' t _ hq
    obtain ⟨n, xs, q1, q2⟩ := H.tok c v e sz h3 h2
    refine ⟨n, xs, q1, fun g hg => ?_⟩
    obtain ⟨r1, r2, r3⟩ := q2 g hg
    refine ⟨r1, r2, fun id o p h ho hp1 => ?_⟩
    obtain ⟨b, o0, h4, h5, h6⟩ := obj' id o h
    rw [re.ι id b h4] at hp1
    exact r3 b o0 p h5 (h6.ok ho) hp1
  · obtain ⟨b, h1, h2, h3⟩ := tok' s _ hv
    obtain ⟨c, h4, h5, h6⟩ := tok' t _ hu
    exact H.tinj b c v u h3 h6 (fun e => hne (look2_inj n4 h1 (by rw [e]; exact h4))) h2 h5
  · cases h : look2 rs id with
    | none => simp only [reG, h]; exact hk id hid
    | some b => have := n2 _ (look2_mem h); simp only at this; omega
  · cases h : look2 ts id with
    | none => simp only [reG, h, Option.bind_none]
    | some b => have := (n5 _ (look2_mem h)).1; simp only at this; omega
  · cases h : lookO hp' id with
    | none => rfl
    | some o =>
      obtain ⟨b, o0, h1, _⟩ := obj' id o h
      have := n2 _ (look2_mem h1); simp only at this; omega
  · intro h; have := n6 _ h; omega
def keepLow (γ : G) : Nat → Option Pl := fun i => if i < 16 then γ.ι i else none
theorem keepLow_pin {rs ts : List (Nat × Nat)} {nx' : Nat} (h : pinsOk rs nx' = true) {i : Nat} {b : Pl} (hi : i < 16) (e : γ.ι i = some b) : (reG rs ts (keepLow γ) γ).ι i = some b := by
  unfold pinsOk at h
  simp only [Bool.and_eq_true, decide_eq_true_eq, List.all_eq_true, Bool.or_eq_true, beq_iff_eq] at h
  simp only [reG]
  cases hl : look2 rs i with
  | none => simp only [keepLow, if_pos hi, e]
  | some a =>
    have := h.2 _ (look2_mem hl)
    simp only at this
    obtain rfl : i = a := by omega
    exact e
theorem keepLow_none {rs : List (Nat × Nat)} {nx' : Nat} (h : pinsOk rs nx' = true) (i : Nat) (hi : nx' ≤ i) : keepLow γ i = none := by
  unfold pinsOk at h
  simp only [Bool.and_eq_true, decide_eq_true_eq] at h
  exact if_neg (by omega)
theorem weak_of (rs ts : List (Nat × Nat)) {st st' : St} (hn : namesOk rs ts st st' = true) (hf : allP (fun p : Nat × AV => AVle rs ts (look st.fr p.1) p.2) st'.fr)
    (ho : allP (fun p : Nat × Ob => ∃ b o, look2 rs p.1 = some b ∧ lookO st.hp b = some o ∧ Oble rs ts o p.2) st'.hp) : Weak st st' := fun V N γ a w ⟨R, F⟩ => by
  unfold namesOk at hn
  rw [Bool.and_eq_true] at hn
  obtain ⟨h1, h2⟩ := hp_weak rs ts (keepLow γ) hn.1 ho R.hp (keepLow_none hn.2)
  refine ⟨_, ⟨R.defers, R.size, fun t => ?_, (fun t j want h => by cases h), h1, R.base, R.big, ⟨R.mu.mu, R.mu.le, fun i b hi e => keepLow_pin hn.2 hi (R.mu.pin i b hi e)⟩⟩, h2⟩
  show RepA _ (look st'.fr t) (a.tmps.getD t undef)
  rcases mem_of_look (l := st'.fr) (t := t) with h | h
  · rw [h]; simp only [RepA]
  · exact RepA.le (reG_ok rs ts _ γ) (allP_mem hf _ h) (R.fr t)

/-! ### Functions -/
def resA (P : Program) (st : St) : ResultVar → Option AV
  | .tmp t => some (look st.fr t)
  | .cell a t => if (P.underlying t).isSome = true then (match look st.fr a with
    | .ptr id off => match lookO st.hp id with
      | some (.cells cs) => partA P t cs off
      | _ => none
    | _ => none) else none
def resAL (P : Program) (st : St) : List ResultVar → Option (List AV)
  | [] => some []
  | r :: l => match resA P st r with
    | some v => (resAL P st l).map (v :: ·)
    | none => none
/-- The function's result at its end. -/
def resIs (P : Program) (rs : List ResultVar) (st : St) (r : D) : Prop :=
  match resAL P st rs with
  | some [v] => VIs v r
  | some l => VIs (.tup l) r
  | none => False
def RetK (P : Program) (fn : Func) (r : D) : Exit → St → Prop
  | .ret, st => resIs P fn.results.toList st r
  | .normal, st => resIs P fn.results.toList st r
  | _, _ => False
def resRun (tmps : Array Value) : ResultVar → Sem Value
  | .tmp t => pure (tmps.getD t undef)
  | .cell a t => do loadVar t (← asAddr (tmps.getD a undef))
theorem run_resA {st : St} {a : Act} (hr : RS V N st γ a w) {r : ResultVar} {v : AV} (h : resA P st r = some v) :
    ∃ u, (resRun a.tmps r).run P w = .ok u w ∧ RepA γ v u := by
  cases r with
  | tmp t => simp only [resA, Option.some.injEq] at h; subst h; exact ⟨_, rfl, hr.1.fr t⟩
  | cell b t =>
    simp only [resA] at h
    split at h
    · rename_i hs
      obtain ⟨d, hd⟩ := Option.isSome_iff_exists.1 hs
      split at h
      · rename_i id off hb
        split at h
        · rename_i cs hcs
          have hf := hr.1.fr b
          simp only [EOk, hb, RepA] at hf
          obtain ⟨bl, h1, h2⟩ := hf
          obtain ⟨bl', x, e1, e2, e3, _⟩ := hr.1.hp.blk hcs rfl
          obtain rfl : bl' = bl := by rw [h1] at e1; injection e1 with e1; injection e1 with e1; exact e1.symm
          obtain ⟨vs, el, rfl, e4, _⟩ := e3
          obtain ⟨u, h3, h4⟩ := partA_some h e4
          refine ⟨u, ?_, h3⟩
          have := load_of_part (P := P) (w := w) hd (b := bl') (o := 0) (off := off) (vs := vs) (fun j v hj => by simp [World.cell?, e2, hj]) u h4
          rw [Nat.zero_add] at this
          simp only [resRun, h2, asAddr, Sem.run_bind, Sem.run_pure, Result.andThen_ok]
          simpa [Instr.loadAt, Instr.sureAddr] using this
        · cases h
      · cases h
    · cases h
theorem run_resAL {st : St} {a : Act} (hr : RS V N st γ a w) : ∀ {l : List ResultVar} {vs : List AV}, resAL P st l = some vs →
    ∃ us : List Value, (l.mapM (resRun a.tmps)).run P w = .ok us w ∧ RepAL γ vs us
  | [], vs, h => by
    simp only [resAL, Option.some.injEq] at h
    subst h
    exact ⟨[], by simp, by simp only [RepAL]⟩
  | r :: l, vs, h => by
    simp only [resAL] at h
    split at h
    · rename_i v hv
      rw [Option.map_eq_some_iff] at h
      obtain ⟨vs', h1, rfl⟩ := h
      obtain ⟨u, h2, h3⟩ := run_resA hr hv
      obtain ⟨us, h4, h5⟩ := run_resAL hr h1
      refine ⟨u :: us, ?_, by simp only [RepAL]; exact ⟨u, us, rfl, h3, h5⟩⟩
      rw [List.mapM_cons, Sem.run_bind, h2, Result.andThen_ok, Sem.run_bind, h4]
      rfl
    · cases h
theorem run_results {fn : Func} {st : St} {a : Act} {r : D} (hr : RS V N st γ a w) (h : resIs P fn.results.toList st r) : ∃ u, (results fn a.tmps).run P w = .ok u w ∧ Rep γ.μ r u := by
  unfold resIs at h
  cases hl : resAL P st fn.results.toList with
  | none => rw [hl] at h; exact h.elim
  | some vs =>
    obtain ⟨us, h1, h2⟩ := run_resAL hr hl
    have h3 : (fn.results.mapM (resRun a.tmps)).run P w = .ok us.toArray w := by
      rw [Array.mapM_eq_mapM_toList, Sem.run_map, h1]
      rfl
    have h4 : (results fn a.tmps).run P w = .ok (if h : us.toArray.size = 1 then us.toArray[0] else .tuple us.toArray) w := by
      have e : results fn a.tmps = (do let vs ← fn.results.mapM (resRun a.tmps); pure (if h : vs.size = 1 then vs[0] else .tuple vs)) := by
        unfold results
        congr 1
      rw [e, Sem.run_bind, h3]
      rfl
    rw [hl] at h
    refine ⟨_, h4, ?_⟩
    match vs, us, h2, h with
    | [v], us, h2, h =>
      simp only [RepAL] at h2
      obtain ⟨u, t, rfl, h5, rfl⟩ := h2
      simpa using h.rep h5
    | [], us, h2, h =>
      simp only [RepAL] at h2
      subst h2
      exact VIs.rep (x := .tup []) h (by simp only [RepA]; exact ⟨[], rfl, by simp only [RepAL]⟩)
    | v :: v2 :: l, us, h2, h =>
      have hlen := h2.length
      rw [dif_neg (by simp at hlen ⊢; omega)]
      exact VIs.rep (x := .tup (v :: v2 :: l)) h (by simp only [RepA]; exact ⟨us, rfl, h2⟩)

def argFr : Nat → List D → List (Nat × AV)
  | _, [] => []
  | i, d :: l => (i, .d d) :: argFr (i + 1) l
theorem look_argFr : ∀ (ds : List D) (i t : Nat), look (argFr i ds) t = if i ≤ t then (match ds[t - i]? with | some d => .d d | none => .any) else .any
  | [], i, t => by simp [argFr, look]
  | d :: l, i, t => by
    simp only [argFr, look]
    by_cases h : i = t
    · subst h; simp
    · rw [if_neg h, look_argFr l (i + 1) t]
      by_cases h2 : i ≤ t
      · rw [if_pos (by omega), if_pos h2]
        have : t - i = (t - (i + 1)) + 1 := by omega
        rw [this, List.getElem?_cons_succ]
      · rw [if_neg (by omega), if_neg h2]
/-- A function's body, told: what it returns. -/
theorem pure_of {f : FuncId} {fn : Func} {c : Code} {ds : List D} {r : D} (hf : P.funcs[f]? = some fn) (hb : fn.body = some c) (hn : fn.name ≠ "runtime.NumGoroutine") (hlen : ds.length ≤ fn.ntmps)
    (h : ∀ V : Env, Tri P V fn.ntmps c ⟨argFr 0 ds, [], [], 16⟩ (RetK P fn r)) : PureAt P f ds r := by
  refine ⟨⟨fn, hf, by rw [hb]; rfl, hn⟩, fun μ w vs hfz hrep => ?_⟩
  refine calls_of_wp hf hb ?_
  let γ : G := ⟨μ, fun _ => none, fun _ => none⟩
  let V : Env := ⟨fun b => w.heap.size ≤ b, ⟨γ, []⟩, w⟩
  have hvl := hrep.length
  have rs : RS V fn.ntmps ⟨argFr 0 ds, [], [], 16⟩ γ { tmps := vs.toArray ++ Array.replicate (fn.ntmps - vs.toArray.size) undef, defers := [] } w := by
    refine ⟨⟨rfl, by simp; omega, fun t => ?_, (fun t j want h => by cases h), ⟨hfz, (fun id o h => by cases h), (fun i j oi oj p q h => by cases h), (fun t v e sz h => by cases h), (fun s t v u h => by cases h)⟩, Base.refl _ _, fun _ h => h, Keep.refl _ _ _ _⟩, ⟨fun id _ => ⟨rfl, rfl, rfl, by simp⟩⟩⟩
    show RepA γ (look (argFr 0 ds) t) _
    rw [look_argFr, if_pos (Nat.zero_le _), Nat.sub_zero]
    cases hd : ds[t]? with
    | none => simp only [RepA]
    | some d =>
      obtain ⟨v, h1, h2⟩ := hrep.get t d hd
      have hlt : t < vs.length := (List.getElem?_eq_some_iff.1 h1).1
      have : (vs.toArray ++ Array.replicate (fn.ntmps - vs.toArray.size) undef).getD t undef = v := by
        rw [Array.getD_eq_getD_getElem?, Array.getElem?_append_left (by simpa using hlt)]
        simp [h1]
      rw [this]
      simpa only [RepA] using h2
  refine wp_mono (h V γ _ w rs) ?_
  rintro ex a' w' ⟨st', γ', h1, h2⟩
  have fin : resIs P fn.results.toList st' r → a'.defers = [] ∧ ∃ v, (results fn a'.tmps).run P w' = .ok v w' ∧ ∃ v' ν, Ending.returned v = .returned v' ∧ Ext w w' ∧ (∀ b o, b < w.heap.size → ν b o = μ b o) ∧ FzM ν w' ∧ Rep ν r v' := fun hres => by
    obtain ⟨u, h3, h4⟩ := run_results h1 hres
    have hb := h1.1.base
    refine ⟨h1.1.defers, u, h3, u, γ'.μ, rfl, ⟨hb.os, hb.tape, hb.output, hb.size, fun k hk => hb.block k hk (by show ¬ (w.heap.size ≤ k); omega)⟩, fun b o hlt => h1.1.mu.mu b o hlt (by show ¬ (w.heap.size ≤ b); omega), h1.1.hp.fz, h4⟩
  cases ex with
  | ret => exact fin h2
  | normal => exact fin h2
  | _ => exact h2.elim
/-- The conditions, with the temporaries that are not told any more left out at the ends. -/
theorem Tri.of_vc (hm : P.follows .mixedOrders = true) {cs : List (Nat × Tm)} {lv : List (Nat × List Nat)} (ts : List Nat) {c : Code} {st : St} {K : Exit → St → Prop} (h : vc P V N cs lv c st (fun ex s => K ex (cutTo ts s))) : Tri P V N c st K :=
  fun γ a w hr => wp_mono (vc_sound hm c st _ h γ a w hr) fun _ _ _ ⟨s, γ', h1, h2⟩ => ⟨cutTo ts s, γ', rs_cutTo h1, h2⟩
/-- A part of code: the way through its parts. -/
def sub : Code → List Nat → Code
  | c, [] => c
  | .seq a b, n :: p => if n = 0 then sub a p else sub b p
  | .cond _ a b, n :: p => if n = 0 then sub a p else sub b p
  | .block _ c, _ :: p => sub c p
  | .loop c, _ :: p => sub c p
  | .scope c, _ :: p => sub c p
  | c, _ => c
def body (f : Func) : Code := match f.body with | some c => c | none => .skip
end Go.Av
