/- Conditions as trees, their runs, and how code in parts is put together. -/
import Derived.Test.YtfgeoeipnidfhaaAvFn
namespace Go.Av
open Go.RowKit Go.Base
variable {P : Program} {V : Env} {N : Nat}

/-- The obligations of a region; its ends are numbered. -/
inductive Obl where
  | fin (i : Nat)
  | p (q : Prop) (r : Obl)
  | g (G : Bool) (q : Prop) (r : Obl)
  | split (G : Bool) (a b : Obl)
  | no
def obX : Obl → (Nat → Prop) → Prop
  | .fin i, R => R i
  | .p q l, R => q ∧ obX l R
  | .g G q l, R => (G = true → q) ∧ obX l R
  | .split G a b, R => (G = true → obX a R) ∧ (G = false → obX b R)
  | .no, _ => False
def allX : Obl → Prop
  | .fin _ => True
  | .p q l => q ∧ allX l
  | .g G q l => (G = true → q) ∧ allX l
  | .split G a b => (G = true → allX a) ∧ (G = false → allX b)
  | .no => False
def obR {α : Type} : Obl → (Nat → Option α) → Option α
  | .fin i, f => f i
  | .p _ l, f => obR l f
  | .g _ _ l, f => obR l f
  | .split G a b, f => if G = true then obR a f else obR b f
  | .no, _ => none
theorem obX_of {α : Type} {x : α} {R : Nat → Prop} {f : Nat → Option α} (hf : ∀ i, f i = some x → R i) : ∀ {l : Obl}, allX l → obR l f = some x → obX l R
  | .fin i, _, h => hf i h
  | .p _ _, h, k => ⟨h.1, obX_of hf h.2 k⟩
  | .g _ _ _, h, k => ⟨h.1, obX_of hf h.2 k⟩
  | .split G a b, h, k => by
    simp only [obR] at k
    split at k
    · rename_i hg; exact ⟨fun e => obX_of hf (h.1 e) k, fun e => by rw [hg] at e; cases e⟩
    · rename_i hg; exact ⟨fun e => absurd e hg, fun e => obX_of hf (h.2 e) k⟩
  | .no, _, h => by cases h
/-- Where code ends, and in which states. -/
abbrev Way := Exit × (St → Prop)
def Way.ok (W : Way) (ex : Exit) (s : St) : Prop := ex = W.1 ∧ W.2 s
def go (s' : St) : Way := (.normal, fun s => Weak s s')
def quit (id : Nat) (s' : St) : Way := (.exit id, fun s => Weak s s')
def fin (P : Program) (fn : Func) (d : D) : Way := (.ret, fun s => resIs P fn.results.toList s d)

inductive Tr {R : Type} (W : R → Way) : Type 1 where
  | ret (ex : Exit) (st : St) (x : R) (h : (W x).ok ex st)
  | need (p : Prop) (d : Decidable p) (k : Tr W)
  | needG (G : Bool) (p : Prop) (d : Decidable p) (k : Tr W)
  | exi (α : Type) (m : Option α) (ob : α → Obl) (h : ∀ x, m = some x → allX (ob x)) (k : α → Nat → Tr W)
  | ite (c : Bool) (a b : Tr W)
  | bad
def Tr.run {R : Type} {W : R → Way} : Tr W → Option R
  | .ret _ _ x _ => some x
  | .need p d k => if p then k.run else none
  | .needG G p d k => if G = true → p then k.run else none
  | .exi _ m ob _ k => m.bind fun x => obR (ob x) fun i => (k x i).run
  | .ite c a b => if c = true then a.run else b.run
  | .bad => none
def Tr.Hold {R : Type} {W : R → Way} (K : Exit → St → Prop) : Tr W → Prop
  | .ret ex st _ _ => K ex st
  | .need p _ k => p ∧ k.Hold K
  | .needG G p _ k => (G = true → p) ∧ k.Hold K
  | .exi α _ ob _ k => ∃ x : α, obX (ob x) fun i => (k x i).Hold K
  | .ite c a b => (c = true → a.Hold K) ∧ (c = false → b.Hold K)
  | .bad => False
theorem Tr.hold {R : Type} {W : R → Way} {K : Exit → St → Prop} {x : R} (hk : ∀ ex s, (W x).ok ex s → K ex s) : ∀ {t : Tr W}, t.run = some x → t.Hold K
  | .ret ex st y h, hr => by
    simp only [Tr.run, Option.some.injEq] at hr
    subst hr
    exact hk _ _ h
  | .need p d k, hr => by
    simp only [Tr.run] at hr
    split at hr
    · rename_i hp; exact ⟨hp, Tr.hold hk hr⟩
    · cases hr
  | .needG G p d k, hr => by
    simp only [Tr.run] at hr
    split at hr
    · rename_i hp; exact ⟨hp, Tr.hold hk hr⟩
    · cases hr
  | .exi α m ob h k, hr => by
    simp only [Tr.run, Option.bind_eq_some_iff] at hr
    obtain ⟨y, h1, h2⟩ := hr
    exact ⟨y, obX_of (fun i hi => Tr.hold hk hi) (h y h1) h2⟩
  | .ite c a b, hr => by
    simp only [Tr.run] at hr
    split at hr
    · rename_i hc; exact ⟨fun _ => Tr.hold hk hr, fun e => by rw [hc] at e; cases e⟩
    · rename_i hc; exact ⟨fun e => absurd e hc, fun _ => Tr.hold hk hr⟩
  | .bad, hr => by simp only [Tr.run] at hr; cases hr

/-- Code c, from st on, has the outcome m. -/
def Judge {R : Type} (P : Program) (V : Env) (N : Nat) (c : Code) (st : St) (m : Option R) (W : R → Way) : Prop :=
  ∀ x, m = some x → ∀ K : Exit → St → Prop, (∀ ex s, (W x).ok ex s → K ex s) → Tri P V N c st K

/-- Only these objects. -/
def pickH (hp : List (Nat × Ob)) : List Nat → List (Nat × Ob)
  | [] => []
  | i :: l => match lookO hp i with
    | some o => (i, o) :: pickH hp l
    | none => pickH hp l
def cutH (ids : List Nat) (st : St) : St := { st with hp := pickH st.hp ids }
theorem look_pickH {hp : List (Nat × Ob)} : ∀ {l : List Nat} {i : Nat} {o : Ob}, lookO (pickH hp l) i = some o → lookO hp i = some o
  | [], _, _, h => by simp [pickH, lookO] at h
  | j :: l, i, o, h => by
    simp only [pickH] at h
    split at h
    · rename_i o' ho
      simp only [lookO] at h
      split at h
      · rename_i e; injection h with h; subst e h; exact ho
      · exact look_pickH h
    · exact look_pickH h
theorem rs_cutH {ids : List Nat} {st : St} {γ : G} {a : Act} {w : World} (h : RS V N st γ a w) : RS V N (cutH ids st) γ a w := by
  obtain ⟨R, F⟩ := h
  refine ⟨⟨R.defers, R.size, R.fr, (fun t j want h => by cases h), ⟨R.hp.fz, fun id o ho => R.hp.obj id o (look_pickH ho), fun i j oi oj hi hj => R.hp.inj i j oi oj (look_pickH hi) (look_pickH hj), ?_, R.hp.tinj⟩, R.base, R.big, R.mu⟩, ⟨fun id hid => ?_⟩⟩
  · intro t v e sz hl ht
    obtain ⟨n, xs, q1, q2⟩ := R.hp.tok t v e sz hl ht
    refine ⟨n, xs, q1, fun g hg => ?_⟩
    obtain ⟨r1, r2, r3⟩ := q2 g hg
    exact ⟨r1, r2, fun id o ho => r3 id o (look_pickH ho)⟩
  · obtain ⟨h1, h2, h3, h4⟩ := F.ok id hid
    refine ⟨h1, h2, ?_, h4⟩
    cases e : lookO (cutH ids st).hp id with
    | none => rfl
    | some o => rw [look_pickH e] at h3; cases h3
theorem Judge.seg {R : Type} {W : R → Way} (hm : P.follows .mixedOrders = true) {tms : List (Nat × Tm)} (ts ids : List Nat) {c : Code} {st : St} {t : Tr W} {m : Option R} (he : m = t.run)
    (h : ∀ K : Exit → St → Prop, vc P V N tms [] c st (fun ex s => K ex (cutH ids (cutTo ts s))) = t.Hold K) : Judge P V N c st m W := fun x hx K hk γ a w hr => by
  have h1 : vc P V N tms [] c st (fun ex s => K ex (cutH ids (cutTo ts s))) := by rw [h K]; exact Tr.hold hk (he ▸ hx)
  exact wp_mono (vc_sound hm c st _ h1 γ a w hr) fun _ _ _ ⟨s, γ', h1, h2⟩ => ⟨_, γ', rs_cutH (rs_cutTo h1), h2⟩
theorem Judge.weak {R : Type} {W : R → Way} {c : Code} {st st' : St} {m : Option R} (hw : Weak st st') (h : Judge P V N c st' m W) : Judge P V N c st m W := fun x hx K hk => Tri.weak hw (h x hx K hk)
/-- One part after the other; the first part ends in its one way. -/
theorem Judge.seq0 {R Y : Type} {W : R → Way} {a b : Code} {st : St} {m1 : Option Y} {m2 : Y → Option R} {mid : Y → St} (h1 : Judge P V N a st m1 fun y => go (mid y)) (h2 : ∀ y, Judge P V N b (mid y) (m2 y) W) :
    Judge P V N (.seq a b) st (m1.bind m2) W := fun x hx K hk => by
  obtain ⟨y, hy, hx⟩ := Option.bind_eq_some_iff.1 hx
  exact Tri.seq (h1 y hy _ fun ex s hs => by obtain ⟨rfl, hs⟩ := hs; exact Tri.weak hs (h2 y x hx K hk))
/-- One part after the other; the first part goes on, or leaves. -/
theorem Judge.seq {R Y Z : Type} {W : R → Way} {a b : Code} {st : St} {m1 : Option (Y ⊕ Z)} {m2 : Y → Option R} {mid : Y → St} (g : Z → R) (hn : ∀ z, (W (g z)).1 ≠ .normal)
    (h1 : Judge P V N a st m1 fun x => match x with | .inl y => go (mid y) | .inr z => W (g z)) (h2 : ∀ y, Judge P V N b (mid y) (m2 y) W) :
    Judge P V N (.seq a b) st (m1.bind fun x => match x with | .inl y => m2 y | .inr z => some (g z)) W := fun x hx K hk => by
  obtain ⟨y, hy, hx⟩ := Option.bind_eq_some_iff.1 hx
  refine Tri.seq (h1 y hy _ fun ex s hs => ?_)
  cases y with
  | inl y => obtain ⟨rfl, hs⟩ := hs; exact Tri.weak hs (h2 y x hx K hk)
  | inr z =>
    simp only [Option.some.injEq] at hx
    subst hx
    have : ex ≠ .normal := fun e => hn z (by rw [← hs.1]; exact e)
    cases ex with
    | normal => exact absurd rfl this
    | _ => exact hk _ _ hs
def leave (id : Nat) : Exit → Exit
  | .exit j => if j = id then .normal else .exit j
  | ex => ex
theorem Judge.block {R : Type} {W W' : R → Way} {id : Nat} {c : Code} {st : St} {m : Option R} (h : Judge P V N c st m W) (hw : ∀ x, (W' x) = (leave id (W x).1, (W x).2)) : Judge P V N (.block id c) st m W' := fun x hx K hk => by
  refine Tri.block (h x hx _ fun ex s hs => ?_)
  have h2 : K (leave id ex) s := hk _ _ (by rw [hw x]; exact ⟨by rw [hs.1], hs.2⟩)
  cases ex with
  | exit j =>
    simp only [inBlock]
    simp only [leave] at h2
    split
    · rename_i e; rw [if_pos e] at h2; exact h2
    · rename_i e; rw [if_neg e] at h2; exact h2
  | _ => exact h2
theorem Judge.cond {R : Type} {W : R → Way} {x y : Code} {st : St} {o : Operand} {b : Bool} {m1 m2 : Option R} (hc : evS st o = .d (.bool b)) (h1 : Judge P V N x st m1 W) (h2 : Judge P V N y st m2 W) :
    Judge P V N (.cond o x y) st (if b = true then m1 else m2) W := fun r hr K hk => by
  refine Tri.cond hc (fun h => ?_) (fun h => ?_)
  · rw [if_pos h] at hr; exact h1 r hr K hk
  · rw [if_neg (by rw [h]; decide)] at hr; exact h2 r hr K hk

/-! ### Loops -/
def loopN {S X : Type} (b : S → Option (S ⊕ X)) : Nat → S → Option X
  | 0, _ => none
  | n + 1, s => match b s with
    | some (.inl s') => loopN b n s'
    | some (.inr x) => some x
    | none => none
theorem loopN_mono {S X : Type} {b : S → Option (S ⊕ X)} {x : X} : ∀ {n m : Nat} {s : S}, loopN b n s = some x → n ≤ m → loopN b m s = some x
  | 0, _, _, h, _ => by cases h
  | n + 1, 0, _, _, h => by omega
  | n + 1, m + 1, s, h, hm => by
    simp only [loopN] at h ⊢
    split at h
    · rename_i s' e; exact loopN_mono h (by omega)
    · exact h
    · cases h
open Classical in
/-- A loop runs until its body leaves it. -/
noncomputable def loopO {S X : Type} (b : S → Option (S ⊕ X)) (s : S) : Option X :=
  if h : ∃ n x, loopN b n s = some x then some (Classical.choose (Classical.choose_spec h)) else none
theorem loopO_of {S X : Type} {b : S → Option (S ⊕ X)} {s : S} {n : Nat} {x : X} (h : loopN b n s = some x) : loopO b s = some x := by
  have he : ∃ n x, loopN b n s = some x := ⟨n, x, h⟩
  unfold loopO
  rw [dif_pos he]
  have h2 := Classical.choose_spec (Classical.choose_spec he)
  have h3 := loopN_mono h2 (Nat.le_max_left _ n)
  have h4 := loopN_mono h (Nat.le_max_right (Classical.choose he) n)
  rw [h3] at h4
  exact h4
theorem loopO_some {S X : Type} {b : S → Option (S ⊕ X)} {s : S} {x : X} (h : loopO b s = some x) : ∃ n, loopN b n s = some x := by
  unfold loopO at h
  split at h
  · rename_i he
    injection h with h
    exact ⟨Classical.choose he, by rw [← h]; exact Classical.choose_spec (Classical.choose_spec he)⟩
  · cases h
theorem loopO_eq {S X : Type} (b : S → Option (S ⊕ X)) (s : S) : loopO b s = (b s).bind fun y => match y with | .inl s' => loopO b s' | .inr x => some x := by
  cases hb : b s with
  | none =>
    cases h : loopO b s with
    | none => rfl
    | some x =>
      obtain ⟨n, hn⟩ := loopO_some h
      cases n with
      | zero => cases hn
      | succ n => simp only [loopN, hb] at hn; cases hn
  | some y =>
    cases y with
    | inr x => simp only [Option.bind_some]; exact loopO_of (n := 1) (by simp only [loopN, hb])
    | inl s' =>
      simp only [Option.bind_some]
      cases h : loopO b s' with
      | some x =>
        obtain ⟨n, hn⟩ := loopO_some h
        exact loopO_of (n := n + 1) (by simp only [loopN, hb]; exact hn)
      | none =>
        cases h2 : loopO b s with
        | none => rfl
        | some x =>
          obtain ⟨n, hn⟩ := loopO_some h2
          cases n with
          | zero => cases hn
          | succ n =>
            simp only [loopN, hb] at hn
            rw [loopO_of hn] at h; cases h
theorem Judge.loop {S X : Type} {W : X → Way} {c : Code} {st : St} (head : S → St) (b : S → Option (S ⊕ X)) (s0 : S) (h0 : Weak st (head s0)) (hn : ∀ x, (W x).1 ≠ .normal)
    (hb : ∀ s, Judge P V N c (head s) (b s) fun x => match x with | .inl s' => go (head s') | .inr x => W x) : Judge P V N (.loop c) st (loopO b s0) W := fun x hx K hk => by
  obtain ⟨n, hx⟩ := loopO_some hx
  refine Tri.loop (X := Nat × S) (fun p => head p.2) (fun p => loopN b p.1 p.2 = some x) (fun p => p.1) (n, s0) h0 hx ?_
  rintro ⟨n, s⟩ hs
  cases n with
  | zero => cases hs
  | succ n =>
    simp only [loopN] at hs
    cases hy : b s with
    | none => rw [hy] at hs; cases hs
    | some y =>
      rw [hy] at hs
      refine hb s y hy _ fun ex t ht => ?_
      cases y with
      | inl s' => obtain ⟨rfl, ht⟩ := ht; exact ⟨(n, s'), hs, Nat.lt_succ_self n, ht⟩
      | inr x' =>
        simp only [Option.some.injEq] at hs
        subst hs
        have : ex ≠ .normal := fun e => hn x' (by rw [← ht.1]; exact e)
        cases ex with
        | normal => exact absurd rfl this
        | _ => exact hk _ _ ht

theorem pure_judge {R : Type} {f : Nat} {fn : Func} {c : Code} {ds : List D} {m : Option R} {en : R → D} (hf : P.funcs[f]? = some fn) (hb : fn.body = some c) (hn : fn.name ≠ "runtime.NumGoroutine") (hlen : ds.length ≤ fn.ntmps)
    (h : ∀ V : Env, Judge P V fn.ntmps c ⟨argFr 0 ds, [], [], 16⟩ m fun x => fin P fn (en x)) {x : R} (hx : m = some x) : PureAt P f ds (en x) :=
  pure_of hf hb hn hlen fun V => h V x hx _ fun ex s hs => by obtain ⟨rfl, hs⟩ := hs; exact hs

/-! ### Slices as lists -/
def cF {α : Type} [Inhabited α] (e : α → D) (l : List α) (i : Nat) : D := e (l.getD i default)
def eSl {α : Type} [Inhabited α] (sz : Nat) (e : α → D) (l : List α) : D := .sl sz l.length (cF e l)
theorem dr {x : D} : De x x := De.rfl
theorem de_nil {α : Type} [Inhabited α] {sz sz' : Nat} {e : α → D} {f : Nat → D} : De (.sl sz' 0 f) (eSl sz e ([] : List α)) := .inr ⟨rfl, fun i h => absurd h (by omega)⟩
theorem de_app {α : Type} [Inhabited α] {sz n m : Nat} {e : α → D} {f g : Nat → D} {l k : List α} (h1 : De (.sl sz n f) (eSl sz e l)) (h2 : De (.sl sz m g) (eSl sz e k)) : De (.sl sz (n + m) (appF n f g)) (eSl sz e (l ++ k)) := by
  obtain ⟨rfl, h1⟩ := h1.sl
  obtain ⟨rfl, h2⟩ := h2.sl
  refine .inr ⟨by rw [List.length_append], fun i hi => ⟨rfl, ?_⟩⟩
  show De _ _
  simp only [appF, cF]
  split
  · rename_i h
    have := (h1 i h).2
    simp only [cF, List.getD_eq_getElem?_getD] at this
    rw [List.getD_eq_getElem?_getD, List.getElem?_append_left h]; exact this
  · rename_i h
    have := (h2 (i - l.length) (by omega)).2
    simp only [cF, List.getD_eq_getElem?_getD] at this
    rw [List.getD_eq_getElem?_getD, List.getElem?_append_right (by omega)]; exact this
theorem de_lit {α : Type} [Inhabited α] {sz : Nat} {e : α → D} {ds : List D} {l : List α} {n : Nat} (hn : l.length = n) (h : ds = l.map e) : De (.sl sz n (litF ds)) (eSl sz e l) := by
  subst hn h
  refine .inr ⟨rfl, fun i hi => ⟨rfl, .inl ?_⟩⟩
  simp only [litF, cF, List.getElem?_map, List.getD_eq_getElem?_getD, List.getElem?_eq_getElem hi, Option.map_some, Option.getD_some]
def DeAll : List D → List D → Prop
  | [], [] => True
  | x :: xs, y :: ys => De x y ∧ DeAll xs ys
  | _, _ => False
theorem DeAll.get : ∀ {xs ys : List D}, DeAll xs ys → ∀ (i : Nat) (y : D), ys[i]? = some y → ∃ x, xs[i]? = some x ∧ De x y
  | [], [], _, i, y, h => by simp at h
  | x :: xs, y :: ys, h, 0, z, hz => by simp at hz; subst hz; exact ⟨x, by simp, h.1⟩
  | x :: xs, y :: ys, h, i + 1, z, hz => by simpa using DeAll.get h.2 i z (by simpa using hz)
  | [], _ :: _, h, _, _, _ => h.elim
  | _ :: _, [], h, _, _, _ => h.elim
theorem de_litD {α : Type} [Inhabited α] {sz : Nat} {e : α → D} {ds : List D} {l : List α} {n : Nat} (hn : l.length = n) (h : DeAll ds (l.map e)) : De (.sl sz n (litF ds)) (eSl sz e l) := by
  subst hn
  refine .inr ⟨rfl, fun i hi => ⟨rfl, ?_⟩⟩
  show De _ _
  obtain ⟨x, h1, h2⟩ := h.get i (e l[i]) (by rw [List.getElem?_map, List.getElem?_eq_getElem hi, Option.map_some])
  simp only [litF, h1, cF, List.getD_eq_getElem?_getD, List.getElem?_eq_getElem hi, Option.getD_some]
  exact h2
def byteAt (s : List UInt8) (i : Nat) : Int := match s[i]? with | some b => (b.toNat : Int) | none => 0
theorem de_rep {α : Type} [Inhabited α] {sz n : Nat} {e : α → D} {z : α} : De (.sl sz n fun _ => e z) (eSl sz e (List.replicate n z)) :=
  .inr ⟨by rw [List.length_replicate], fun i hi => ⟨rfl, .inl (by simp only [cF, List.getD_eq_getElem?_getD, List.getElem?_replicate, if_pos hi, Option.getD_some])⟩⟩
theorem de_set {α : Type} [Inhabited α] {sz n i : Nat} {e : α → D} {f : Nat → D} {l : List α} {x : α} (h : De (.sl sz n f) (eSl sz e l)) : De (.sl sz n fun k => if k = i then e x else f k) (eSl sz e (l.set i x)) := by
  obtain ⟨rfl, h⟩ := h.sl
  refine .inr ⟨by rw [List.length_set], fun k hk => ⟨rfl, ?_⟩⟩
  show De _ _
  simp only [cF, List.getD_eq_getElem?_getD, List.getElem?_set]
  split
  · rename_i e; subst e; rw [if_pos rfl, if_pos hk, Option.getD_some]; exact De.rfl
  · rename_i hne
    rw [if_neg (fun e => hne e.symm)]
    have := (h k hk).2
    simp only [cF, List.getD_eq_getElem?_getD] at this
    exact this
/-- n elements of l, from k on. -/
def subL {α : Type} [Inhabited α] (l : List α) (k n : Nat) : List α := (List.range n).map fun i => l.getD (k + i) default
theorem de_sub {α : Type} [Inhabited α] {sz k n : Nat} {e : α → D} {l : List α} : De (.sl sz n fun i => cF e l (k + i)) (eSl sz e (subL l k n)) :=
  .inr ⟨by simp [subL], fun i hi => ⟨rfl, .inl (by simp [cF, subL, List.getD_eq_getElem?_getD, List.getElem?_range hi])⟩⟩
theorem de_sub0 {α : Type} [Inhabited α] {sz n : Nat} {e : α → D} {l : List α} : De (.sl sz n (cF e l)) (eSl sz e (subL l 0 n)) :=
  .inr ⟨by simp [subL], fun i hi => ⟨rfl, .inl (by simp [cF, subL, List.getD_eq_getElem?_getD, List.getElem?_range hi])⟩⟩
theorem subL_eq {α : Type} [Inhabited α] {l : List α} {k n : Nat} (h : k + n ≤ l.length) : subL l k n = (l.drop k).take n := by
  apply List.ext_getElem?
  intro i
  simp only [subL, List.getElem?_map, List.getElem?_take, List.getElem?_drop]
  by_cases hi : i < n
  · rw [List.getElem?_range hi, if_pos hi, Option.map_some, List.getD_eq_getElem?_getD, List.getElem?_eq_getElem (by omega), Option.getD_some]
  · rw [if_neg hi, List.getElem?_eq_none (by simp; omega), Option.map_none]

/-! ### The same rules, with the code as an equation -/
theorem pure_de {f : Nat} {ds ds' : List D} {r : D} (h : PureAt P f ds r) (hd : DeqL ds' ds) : PureAt P f ds' r := ⟨h.1, fun μ w vs hz hr => h.2 μ w vs hz (hr.deq hd)⟩
theorem if_some {p : Prop} [Decidable p] {α : Type} {m : Option α} {x : α} (h : (if p then m else none) = some x) : p ∧ m = some x := by
  split at h
  · rename_i hp; exact ⟨hp, h⟩
  · cases h
theorem Judge.map {R R' : Type} {W : R → Way} {W' : R' → Way} {c : Code} {st : St} {m : Option R} {m' : Option R'} (φ : R → R') (he : m' = m.map φ) (h : Judge P V N c st m W) (hw : ∀ x, (W' (φ x)).1 = (W x).1 ∧ ∀ s, (W x).2 s → (W' (φ x)).2 s) : Judge P V N c st m' W' := fun y hy K hk => by
  subst he
  obtain ⟨x, hx, rfl⟩ := Option.map_eq_some_iff.1 hy
  exact h x hx K fun ex s hs => hk ex s ⟨by rw [(hw x).1]; exact hs.1, (hw x).2 s hs.2⟩
theorem Judge.seqS {R Y : Type} {W : R → Way} {c a b : Code} {st : St} {m : Option R} {m1 : Option Y} {m2 : Y → Option R} {mid : Y → St} (hc : c = .seq a b) (he : m = m1.bind m2) (h1 : Judge P V N a st m1 fun y => go (mid y)) (h2 : ∀ y, Judge P V N b (mid y) (m2 y) W) :
    Judge P V N c st m W := by subst hc he; exact Judge.seq0 h1 h2
theorem Judge.seqX {R Y : Type} {W : R → Way} {W1 : Y → Way} {c a b : Code} {st : St} {m : Option R} {m1 : Option Y} {m2 : Y → Option R} (hc : c = .seq a b) (he : m = m1.bind m2) (h1 : Judge P V N a st m1 W1)
    (h2 : ∀ y, ((W1 y).1 = .normal ∧ ∃ s', (∀ s, (W1 y).2 s → Weak s s') ∧ Judge P V N b s' (m2 y) W) ∨ ((W1 y).1 ≠ .normal ∧ ∃ z, m2 y = some z ∧ (W z).1 = (W1 y).1 ∧ ∀ s, (W1 y).2 s → (W z).2 s)) :
    Judge P V N c st m W := fun x hx K hk => by
  subst hc he
  obtain ⟨y, hy, hx⟩ := Option.bind_eq_some_iff.1 hx
  refine Tri.seq (h1 y hy _ fun ex s hs => ?_)
  obtain ⟨rfl, hs⟩ := hs
  rcases h2 y with ⟨e, s', h3, h4⟩ | ⟨e, z, h3, h4, h5⟩
  · rw [e]; exact Tri.weak (h3 s hs) (h4 x hx K hk)
  · rw [h3] at hx
    injection hx with hx
    subst hx
    have hk' := hk _ s ⟨h4.symm, h5 s hs⟩
    generalize (W1 y).1 = ex at e hk'
    cases ex with
    | normal => exact absurd rfl e
    | _ => exact hk'
theorem Judge.blockS {R : Type} {W W' : R → Way} {id : Nat} {c c' : Code} {st : St} {m : Option R} (hc : c' = .block id c) (h : Judge P V N c st m W) (hw : ∀ x, (W' x) = (leave id (W x).1, (W x).2)) : Judge P V N c' st m W' := by subst hc; exact Judge.block h hw
theorem Judge.loopS {S X : Type} {W : X → Way} {c c' : Code} {st : St} {m : Option X} (hc : c' = .loop c) (head : S → St) (b : S → Option (S ⊕ X)) (s0 : S) (he : m = loopO b s0) (h0 : Weak st (head s0)) (hn : ∀ x, (W x).1 ≠ .normal)
    (hb : ∀ s, Judge P V N c (head s) (b s) fun x => match x with | .inl s' => go (head s') | .inr x => W x) : Judge P V N c' st m W := by subst hc he; exact Judge.loop head b s0 h0 hn hb
theorem Judge.condS {R : Type} {W : R → Way} {c x y : Code} {st : St} {o : Operand} {b : Bool} {m m1 m2 : Option R} (hcc : c = .cond o x y) (hc : evS st o = .d (.bool b)) (he : m = if b = true then m1 else m2) (h1 : Judge P V N x st m1 W) (h2 : Judge P V N y st m2 W) :
    Judge P V N c st m W := by subst hcc he; exact Judge.cond hc h1 h2
end Go.Av
