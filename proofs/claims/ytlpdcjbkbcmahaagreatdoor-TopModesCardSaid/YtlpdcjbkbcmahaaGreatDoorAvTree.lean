/- Conditions as trees, their runs, and how code in parts is put together. -/
import Derived.Test.YtlpdcjbkbcmahaaGreatDoorAvFrz
import Derived.KernelRfl
import Derived.LoopN
set_option linter.unusedVariables false
set_option linter.unusedSimpArgs false
namespace Go.Av
open Go.RowKit Go.Base
variable {P : Program} {V : Env} {N : Nat}

/-- The obligations of a region; its ends are numbered. -/
inductive Obl where
  | fin (i : Nat)
  | p (q : Prop) (r : Obl)
  | g (G : Bool) (q : Prop) (r : Obl)
  | split (G : Bool) (a b : Obl)
  | no
def obX : Obl → (Nat → Prop) → Prop
  | .fin i, R => R i
  | .p q l, R => q ∧ obX l R
  | .g G q l, R => (G = true → q) ∧ obX l R
  | .split G a b, R => (G = true → obX a R) ∧ (G = false → obX b R)
  | .no, _ => False
def allX : Obl → Prop
  | .fin _ => True
  | .p q l => q ∧ allX l
  | .g G q l => (G = true → q) ∧ allX l
  | .split G a b => (G = true → allX a) ∧ (G = false → allX b)
  | .no => False
def obR {α : Type} : Obl → (Nat → Option α) → Option α
  | .fin i, f => f i
  | .p _ l, f => obR l f
  | .g _ _ l, f => obR l f
  | .split G a b, f => if G = true then obR a f else obR b f
  | .no, _ => none
theorem obX_of {α : Type} {x : α} {R : Nat → Prop} {f : Nat → Option α} (hf : ∀ i, f i = some x → R i) : ∀ {l : Obl}, allX l → obR l f = some x → obX l R
  | .fin i, _, h => hf i h
  | .p _ _, h, k => ⟨h.1, obX_of hf h.2 k⟩
  | .g _ _ _, h, k => ⟨h.1, obX_of hf h.2 k⟩
  | .split G a b, h, k => by
    simp only [obR] at k
    split at k
    · rename_i hg; exact ⟨fun e => obX_of hf (h.1 e) k, fun e => by rw [hg] at e; cases e⟩
    · rename_i hg; exact ⟨fun e => absurd e hg, fun e => obX_of hf (h.2 e) k⟩
  | .no, _, h => by cases h
/-- Where code ends, and in which states. -/
abbrev Way := Exit → St → Prop
def isN : Exit → Bool
  | .normal => true
  | _ => false
def isR : Exit → Bool
  | .normal => true
  | .ret => true
  | _ => false
def leave (id : Nat) : Exit → Exit
  | .exit j => match Nat.beq j id with | true => .normal | false => .exit j
  | ex => ex
def go (s' : St) : Way := fun ex s => isN ex = true ∧ Weak s s'
def fin (P : Program) (fn : Func) (d : D) : Way := fun ex s => isR ex = true ∧ ∃ s', Weak s s' ∧ resIs P fn.results.toList s' d
/-- Code in a block. -/
def lv {R : Type} (id : Nat) (W : R → Way) : R → Way := fun r ex s => W r (leave id ex) s
/-- Code ahead of other code: it goes on, or leaves. -/
def wy {Y R : Type} (S : Y → St) (W : R → Way) : Y ⊕ R → Way
  | .inl y => go (S y)
  | .inr r => fun ex s => isN ex = false ∧ W r ex s

inductive Tr {R : Type} (W : R → Way) : Type 1 where
  | ret (ex : Exit) (st : St) (x : R) (h : W x ex st)
  | need (p : Prop) (d : Decidable p) (k : Tr W)
  | needG (G : Bool) (p : Prop) (d : Decidable p) (k : Tr W)
  | exi (α : Type) (m : Option α) (ob : α → Obl) (h : ∀ x, m = some x → allX (ob x)) (k : α → Nat → Tr W)
  | ite (c : Bool) (a b : Tr W)
  | bad
def Tr.run {R : Type} {W : R → Way} : Tr W → Option R
  | .ret _ _ x _ => some x
  | .need p d k => if p then k.run else none
  | .needG G p d k => if G = true → p then k.run else none
  | .exi _ m ob _ k => m.bind fun x => obR (ob x) fun i => (k x i).run
  | .ite c a b => if c = true then a.run else b.run
  | .bad => none
def Tr.Hold {R : Type} {W : R → Way} (K : Exit → St → Prop) : Tr W → Prop
  | .ret ex st _ _ => K ex st
  | .need p _ k => p ∧ k.Hold K
  | .needG G p _ k => (G = true → p) ∧ k.Hold K
  | .exi α _ ob _ k => ∃ x : α, obX (ob x) fun i => (k x i).Hold K
  | .ite c a b => (c = true → a.Hold K) ∧ (c = false → b.Hold K)
  | .bad => False
theorem Tr.hold {R : Type} {W : R → Way} {K : Exit → St → Prop} {x : R} (hk : ∀ ex s, W x ex s → K ex s) : ∀ {t : Tr W}, t.run = some x → t.Hold K
  | .ret ex st y h, hr => by
    simp only [Tr.run, Option.some.injEq] at hr
    subst hr
    exact hk _ _ h
  | .need p d k, hr => by
    simp only [Tr.run] at hr
    split at hr
    · rename_i hp; exact ⟨hp, Tr.hold hk hr⟩
    · cases hr
  | .needG G p d k, hr => by
    simp only [Tr.run] at hr
    split at hr
    · rename_i hp; exact ⟨hp, Tr.hold hk hr⟩
    · cases hr
  | .exi α m ob h k, hr => by
    simp only [Tr.run, Option.bind_eq_some_iff] at hr
    obtain ⟨y, h1, h2⟩ := hr
    exact ⟨y, obX_of (fun i hi => Tr.hold hk hi) (h y h1) h2⟩
  | .ite c a b, hr => by
    simp only [Tr.run] at hr
    split at hr
    · rename_i hc; exact ⟨fun _ => Tr.hold hk hr, fun e => by rw [hc] at e; cases e⟩
    · rename_i hc; exact ⟨fun e => absurd e hc, fun _ => Tr.hold hk hr⟩
  | .bad, hr => by simp only [Tr.run] at hr; cases hr

/-! ### Short forms of trees -/
def nd {R : Type} {W : R → Way} (p : Prop) [d : Decidable p] (k : Tr W) : Tr W := .need p d k
/-- One call. -/
def c3 {R α : Type} {W : R → Way} {m : Option α} {p : α → Prop} (h : ∀ r, m = some r → p r) (k : α → Tr W) : Tr W :=
  .exi α (m.bind fun r => some r) (fun x => .p (p x) (.fin 0)) (fun x e => by
    obtain ⟨r, h1, h2⟩ := Option.bind_eq_some_iff.1 e
    cases h2
    exact ⟨h _ h1, trivial⟩) fun x _ => k x
/-- Code c, from st on, has the outcome m. -/
def Judge {R : Type} (P : Program) (V : Env) (N : Nat) (c : Code) (st : St) (m : Option R) (W : R → Way) : Prop :=
  ∀ x, m = some x → ∀ K : Exit → St → Prop, (∀ ex s, W x ex s → K ex s) → Tri P V N c st K

/-- Only these objects. -/
def pickH (hp : List (Nat × Ob)) : List Nat → List (Nat × Ob)
  | [] => []
  | i :: l => match lookO hp i with
    | some o => (i, o) :: pickH hp l
    | none => pickH hp l
def cutH (ids : List Nat) (st : St) : St := { st with hp := pickH st.hp ids }
theorem look_pickH {hp : List (Nat × Ob)} : ∀ {l : List Nat} {i : Nat} {o : Ob}, lookO (pickH hp l) i = some o → lookO hp i = some o
  | [], _, _, h => by simp [pickH, lookO] at h
  | j :: l, i, o, h => by
    simp only [pickH] at h
    split at h
    · rename_i o' ho
      simp only [lookO] at h
      split at h
      · rename_i e; injection h with h; subst e h; exact ho
      · exact look_pickH h
    · exact look_pickH h
theorem rs_cutH {ids : List Nat} {st : St} {γ : G} {a : Act} {w : World} (h : RS V N st γ a w) : RS V N (cutH ids st) γ a w := by
  obtain ⟨R, F⟩ := h
  refine ⟨⟨R.defers, R.size, R.fr, (fun t j want h => by cases h), ⟨R.hp.fz, fun id o ho => R.hp.obj id o (look_pickH ho), fun i j oi oj p q hi hj => R.hp.inj i j oi oj p q (look_pickH hi) (look_pickH hj), ?_, R.hp.tinj⟩, R.base, R.big, R.mu⟩, ⟨fun id hid => ?_⟩⟩
  · intro t v e sz hl ht
    obtain ⟨n, xs, q1, q2⟩ := R.hp.tok t v e sz hl ht
    refine ⟨n, xs, q1, fun g hg => ?_⟩
    obtain ⟨r1, r2, r3⟩ := q2 g hg
    exact ⟨r1, r2, fun id o p ho => r3 id o p (look_pickH ho)⟩
  · obtain ⟨h1, h2, h3, h4⟩ := F.ok id hid
    refine ⟨h1, h2, ?_, h4⟩
    cases e : lookO (cutH ids st).hp id with
    | none => rfl
    | some o => rw [look_pickH e] at h3; cases h3
/-! ### Loops -/
def loopN {S X : Type} (b : S → Option (S ⊕ X)) : Nat → S → Option X
  | 0, _ => none
  | n + 1, s => match b s with
    | some (.inl s') => loopN b n s'
    | some (.inr x) => some x
    | none => none
theorem loopN_mono {S X : Type} {b : S → Option (S ⊕ X)} {x : X} : ∀ {n m : Nat} {s : S}, loopN b n s = some x → n ≤ m → loopN b m s = some x
  | 0, _, _, h, _ => by cases h
  | n + 1, 0, _, _, h => by omega
  | n + 1, m + 1, s, h, hm => by
    simp only [loopN] at h ⊢
    split at h
    · rename_i s' e; exact loopN_mono h (by omega)
    · exact h
    · cases h
open Classical in
noncomputable def loopC {S X : Type} (b : S → Option (S ⊕ X)) (s : S) : Option X :=
  if h : ∃ n x, loopN b n s = some x then some (Classical.choose (Classical.choose_spec h)) else none
theorem loopC_of {S X : Type} {b : S → Option (S ⊕ X)} {s : S} {n : Nat} {x : X} (h : loopN b n s = some x) : loopC b s = some x := by
  have he : ∃ n x, loopN b n s = some x := ⟨n, x, h⟩
  unfold loopC
  rw [dif_pos he]
  have h2 := Classical.choose_spec (Classical.choose_spec he)
  have h3 := loopN_mono h2 (Nat.le_max_left _ n)
  have h4 := loopN_mono h (Nat.le_max_right (Classical.choose he) n)
  rw [h3] at h4
  exact h4
/-- A loop runs until its body leaves it (some rounds are tried first, that the kernel can run it). -/
noncomputable def loopO {S X : Type} (b : S → Option (S ⊕ X)) (s : S) : Option X :=
  match loopN b 100000 s with
  | some x => some x
  | none => loopC b s
theorem loopO_C {S X : Type} (b : S → Option (S ⊕ X)) (s : S) : loopO b s = loopC b s := by
  unfold loopO
  split
  · rename_i x h; exact (loopC_of h).symm
  · rfl
theorem loopO_of {S X : Type} {b : S → Option (S ⊕ X)} {s : S} {n : Nat} {x : X} (h : loopN b n s = some x) : loopO b s = some x := by rw [loopO_C]; exact loopC_of h
theorem loopO_some {S X : Type} {b : S → Option (S ⊕ X)} {s : S} {x : X} (h : loopO b s = some x) : ∃ n, loopN b n s = some x := by
  rw [loopO_C] at h
  unfold loopC at h
  split at h
  · rename_i he
    injection h with h
    exact ⟨Classical.choose he, by rw [← h]; exact Classical.choose_spec (Classical.choose_spec he)⟩
  · cases h
theorem loopO_eq {S X : Type} (b : S → Option (S ⊕ X)) (s : S) : loopO b s = (b s).bind fun y => match y with | .inl s' => loopO b s' | .inr x => some x := by
  cases hb : b s with
  | none =>
    cases h : loopO b s with
    | none => rfl
    | some x =>
      obtain ⟨n, hn⟩ := loopO_some h
      cases n with
      | zero => cases hn
      | succ n => simp only [loopN, hb] at hn; cases hn
  | some y =>
    cases y with
    | inr x => simp only [Option.bind_some]; exact loopO_of (n := 1) (by simp only [loopN, hb])
    | inl s' =>
      simp only [Option.bind_some]
      cases h : loopO b s' with
      | some x =>
        obtain ⟨n, hn⟩ := loopO_some h
        exact loopO_of (n := n + 1) (by simp only [loopN, hb]; exact hn)
      | none =>
        cases h2 : loopO b s with
        | none => rfl
        | some x =>
          obtain ⟨n, hn⟩ := loopO_some h2
          cases n with
          | zero => cases hn
          | succ n =>
            simp only [loopN, hb] at hn
            rw [loopO_of hn] at h; cases h
/-! ### Slices as lists -/
abbrev dI (x : Int) : D := .int .i64 x
abbrev aI (x : Int) : AV := .d (.int .i64 x)
abbrev aB (b : Bool) : AV := .d (.bool b)
abbrev aS (s : List UInt8) : AV := .d (.str s)
abbrev aN : AV := .ap 0 0 (fun _ => .bad) .nl
def cF {α : Type} [Inhabited α] (e : α → D) (l : List α) (i : Nat) : D := e (l.getD i default)
def eSl {α : Type} [Inhabited α] (sz : Nat) (e : α → D) (l : List α) : D := .sl sz l.length (cF e l)
theorem dr {x : D} : De x x := De.rfl
theorem de_nil {α : Type} [Inhabited α] {sz sz' : Nat} {e : α → D} {f : Nat → D} : De (.sl sz' 0 f) (eSl sz e ([] : List α)) := .inr ⟨rfl, fun i h => absurd h (by omega)⟩
/-- A string's bytes as numbers. -/
def bytesI (b : List UInt8) : List Int := b.map fun c => (c.toNat : Int)
theorem de_bytes {b : List UInt8} : De (.sl 1 b.length (bytesF b)) (eSl 1 (D.int .u8) (bytesI b)) := by
  refine .inr ⟨by simp [bytesI], fun i hi => ⟨rfl, ?_⟩⟩
  have : cF (D.int .u8) (bytesI b) i = bytesF b i := by simp [cF, bytesI, bytesF, hi]
  rw [this]
  exact De.rfl
theorem de_app {α : Type} [Inhabited α] {sz n m : Nat} {e : α → D} {f g : Nat → D} {l k : List α} (h1 : De (.sl sz n f) (eSl sz e l)) (h2 : De (.sl sz m g) (eSl sz e k)) : De (.sl sz (n + m) (appF n f g)) (eSl sz e (l ++ k)) := by
  obtain ⟨rfl, h1⟩ := h1.sl
  obtain ⟨rfl, h2⟩ := h2.sl
  refine .inr ⟨by rw [List.length_append], fun i hi => ⟨rfl, ?_⟩⟩
  show De _ _
  simp only [appF, cF]
  split
  · rename_i h
    have := (h1 i h).2
    simp only [cF, List.getD_eq_getElem?_getD] at this
    rw [List.getD_eq_getElem?_getD, List.getElem?_append_left h]; exact this
  · rename_i h
    have := (h2 (i - l.length) (by omega)).2
    simp only [cF, List.getD_eq_getElem?_getD] at this
    rw [List.getD_eq_getElem?_getD, List.getElem?_append_right (by omega)]; exact this
theorem de_lit {α : Type} [Inhabited α] {sz : Nat} {e : α → D} {ds : List D} {l : List α} {n : Nat} (hn : l.length = n) (h : ds = l.map e) : De (.sl sz n (litF ds)) (eSl sz e l) := by
  subst hn h
  refine .inr ⟨rfl, fun i hi => ⟨rfl, .inl ?_⟩⟩
  simp only [litF, cF, List.getElem?_map, List.getD_eq_getElem?_getD, List.getElem?_eq_getElem hi, Option.map_some, Option.getD_some]
def DeAll : List D → List D → Prop
  | [], [] => True
  | x :: xs, y :: ys => De x y ∧ DeAll xs ys
  | _, _ => False
theorem DeAll.get : ∀ {xs ys : List D}, DeAll xs ys → ∀ (i : Nat) (y : D), ys[i]? = some y → ∃ x, xs[i]? = some x ∧ De x y
  | [], [], _, i, y, h => by simp at h
  | x :: xs, y :: ys, h, 0, z, hz => by simp at hz; subst hz; exact ⟨x, by simp, h.1⟩
  | x :: xs, y :: ys, h, i + 1, z, hz => by simpa using DeAll.get h.2 i z (by simpa using hz)
  | [], _ :: _, h, _, _, _ => h.elim
  | _ :: _, [], h, _, _, _ => h.elim
theorem de_litD {α : Type} [Inhabited α] {sz : Nat} {e : α → D} {ds : List D} {l : List α} {n : Nat} (hn : l.length = n) (h : DeAll ds (l.map e)) : De (.sl sz n (litF ds)) (eSl sz e l) := by
  subst hn
  refine .inr ⟨rfl, fun i hi => ⟨rfl, ?_⟩⟩
  show De _ _
  obtain ⟨x, h1, h2⟩ := h.get i (e l[i]) (by rw [List.getElem?_map, List.getElem?_eq_getElem hi, Option.map_some])
  simp only [litF, h1, cF, List.getD_eq_getElem?_getD, List.getElem?_eq_getElem hi, Option.getD_some]
  exact h2
def byteAt (s : List UInt8) (i : Nat) : Int := match s[i]? with | some b => (b.toNat : Int) | none => 0
theorem de_rep {α : Type} [Inhabited α] {sz n : Nat} {e : α → D} {z : α} : De (.sl sz n fun _ => e z) (eSl sz e (List.replicate n z)) :=
  .inr ⟨by rw [List.length_replicate], fun i hi => ⟨rfl, .inl (by simp only [cF, List.getD_eq_getElem?_getD, List.getElem?_replicate, if_pos hi, Option.getD_some])⟩⟩
theorem len_of {α : Type} [Inhabited α] {sz n : Nat} {e : α → D} {f : Nat → D} {l : List α} (h : De (.sl sz n f) (eSl sz e l)) : n = l.length := h.sl.1
/-- The elements of k, written over the front of l. -/
def copyL {α : Type} (l k : List α) : List α := k.take l.length ++ l.drop k.length
theorem copyL_len {α : Type} (l k : List α) : (copyL l k).length = l.length := by simp only [copyL, List.length_append, List.length_take, List.length_drop]; omega
theorem de_copy {α : Type} [Inhabited α] {sz sz' z n m : Nat} {e : α → D} {f g : Nat → D} {l k : List α} (h1 : De (.sl sz n f) (eSl sz e l)) (h2 : De (.sl z m g) (eSl sz' e k)) : De (.sl sz n fun i => if i < m then g i else f i) (eSl sz e (copyL l k)) := by
  obtain ⟨rfl, h1⟩ := h1.sl
  obtain ⟨rfl, h2⟩ := h2.sl
  refine .inr ⟨(copyL_len l k).symm, fun i hi => ⟨rfl, ?_⟩⟩
  show De _ _
  have e2 : (copyL l k).getD i default = if i < k.length then k.getD i default else l.getD i default := by
    simp only [copyL, List.getD_eq_getElem?_getD]
    split
    · rename_i h; rw [List.getElem?_append_left (by simp; omega), List.getElem?_take, if_pos hi]
    · rename_i h
      rw [List.getElem?_append_right (by simp; omega), List.getElem?_drop]
      congr 2; simp; omega
  simp only [cF]
  rw [e2]
  split
  · rename_i h; exact (h2 i h).2
  · rename_i h; exact (h1 i hi).2
theorem de_set {α : Type} [Inhabited α] {sz n i : Nat} {e : α → D} {f : Nat → D} {l : List α} {x : α} (h : De (.sl sz n f) (eSl sz e l)) : De (.sl sz n fun k => if k = i then e x else f k) (eSl sz e (l.set i x)) := by
  obtain ⟨rfl, h⟩ := h.sl
  refine .inr ⟨by rw [List.length_set], fun k hk => ⟨rfl, ?_⟩⟩
  show De _ _
  simp only [cF, List.getD_eq_getElem?_getD, List.getElem?_set]
  split
  · rename_i e; subst e; rw [if_pos rfl, if_pos hk, Option.getD_some]; exact De.rfl
  · rename_i hne
    rw [if_neg (fun e => hne e.symm)]
    have := (h k hk).2
    simp only [cF, List.getD_eq_getElem?_getD] at this
    exact this
/-- n elements of l, from k on. -/
def subL {α : Type} [Inhabited α] (l : List α) (k n : Nat) : List α := (List.range n).map fun i => l.getD (k + i) default
theorem de_sub {α : Type} [Inhabited α] {sz k n : Nat} {e : α → D} {l : List α} : De (.sl sz n fun i => cF e l (k + i)) (eSl sz e (subL l k n)) :=
  .inr ⟨by simp [subL], fun i hi => ⟨rfl, .inl (by simp [cF, subL, List.getD_eq_getElem?_getD, List.getElem?_range hi])⟩⟩
theorem de_sub0 {α : Type} [Inhabited α] {sz n : Nat} {e : α → D} {l : List α} : De (.sl sz n (cF e l)) (eSl sz e (subL l 0 n)) :=
  .inr ⟨by simp [subL], fun i hi => ⟨rfl, .inl (by simp [cF, subL, List.getD_eq_getElem?_getD, List.getElem?_range hi])⟩⟩
theorem subL_eq {α : Type} [Inhabited α] {l : List α} {k n : Nat} (h : k + n ≤ l.length) : subL l k n = (l.drop k).take n := by
  apply List.ext_getElem?
  intro i
  simp only [subL, List.getElem?_map, List.getElem?_take, List.getElem?_drop]
  by_cases hi : i < n
  · rw [List.getElem?_range hi, if_pos hi, Option.map_some, List.getD_eq_getElem?_getD, List.getElem?_eq_getElem (by omega), Option.getD_some]
  · rw [if_neg hi, List.getElem?_eq_none (by simp; omega), Option.map_none]

theorem subL_len {α : Type} [Inhabited α] {l : List α} {k n : Nat} : (subL l k n).length = n := by simp [subL]
theorem subL_all {α : Type} [Inhabited α] {l : List α} {n : Nat} (h : l.length = n) : subL l 0 n = l := by
  subst h
  rw [subL_eq (by omega)]; simp
theorem de_keep {α : Type} [Inhabited α] {sz n : Nat} {e : α → D} {f : Nat → D} {l : List α} (h : De (.sl sz n f) (eSl sz e l)) : De (.sl sz n f) (.sl sz n (cF e l)) := by
  obtain ⟨rfl, h2⟩ := h.sl
  exact .inr ⟨rfl, fun i hi => h2 i hi⟩
theorem de_pre {α : Type} [Inhabited α] {sz n h : Nat} {e : α → D} {f : Nat → D} {l : List α} (hd : De (.sl sz n f) (eSl sz e l)) : De (.sl sz (min h n) f) (eSl sz e (l.take h)) := by
  obtain ⟨rfl, h2⟩ := hd.sl
  refine .inr ⟨by rw [List.length_take], fun i hi => ⟨rfl, ?_⟩⟩
  show De _ _
  have := (h2 i (by omega)).2
  simp only [cF, List.getD_eq_getElem?_getD] at this ⊢
  rw [List.getElem?_take, if_pos (by omega)]
  exact this
theorem de_len {sz n m : Nat} {f : Nat → D} (h : n = m) : De (.sl sz n f) (.sl sz m f) := by subst h; exact De.rfl

/-! ### The same rules, with the code as an equation -/
theorem pure_de {f : Nat} {ds ds' : List D} {r : D} (h : PureAt P f ds r) (hd : DeqL ds' ds) : PureAt P f ds' r := ⟨h.1, fun μ w vs hz hr => h.2 μ w vs hz (hr.deq hd)⟩
def c2 {R α : Type} {W : R → Way} {m : Option α} {f : Nat} {ds : List D} {e : α → D} (h : ∀ r, m = some r → PureAt P f ds (e r)) (ds' : List D) (hd : DeqL ds' ds) (k : α → Tr W) : Tr W :=
  c3 (p := fun x => PureAt P f ds' (e x)) (fun r hr => pure_de (h r hr) hd) k
theorem dq {a b : List D} (h : DeqL a b) : DeqL a b := h
theorem if_some {p : Prop} [Decidable p] {α : Type} {m : Option α} {x : α} (h : (if p then m else none) = some x) : p ∧ m = some x := by
  split at h
  · rename_i hp; exact ⟨hp, h⟩
  · cases h
/-! ### The first k parts of a sequence at once -/
def suf : Nat → Code → Code
  | 0, c => c
  | k + 1, .seq _ b => suf k b
  | _, c => c
def vcS (P : Program) (V : Env) (N : Nat) (cs : List (Nat × Tm)) : Nat → Code → St → (Exit → St → Prop) → (St → Prop) → Prop
  | 0, _, st, _, L => L st
  | k + 1, .seq a b, st, K, L => vc P V N cs [] a st (andThen K fun st' => vcS P V N cs k b st' K L)
  | _, _, _, _, _ => False
theorem vcS_sound (hm : P.follows .mixedOrders = true) {cs : List (Nat × Tm)} : ∀ (k : Nat) (c : Code) (st : St) (K K' : Exit → St → Prop) (L : St → Prop), (∀ ex s, K' ex s → K ex s) → (∀ s, L s → Tri P V N (suf k c) s K) → vcS P V N cs k c st K' L → Tri P V N c st K
  | 0, c, st, K, K', L, hK, hL, h => hL st h
  | k + 1, .seq a b, st, K, K', L, hK, hL, h => by
    unfold vcS at h
    refine Tri.seq ((vc_sound hm a st _ h).mono fun ex st' hk => ?_)
    cases ex with
    | normal => exact vcS_sound hm k b st' K K' L hK hL hk
    | _ => exact hK _ _ hk
  | k + 1, .skip, st, K, K', L, hK, hL, h => by unfold vcS at h; exact h.elim
  | k + 1, .region .., st, K, K', L, hK, hL, h => by unfold vcS at h; exact h.elim
  | k + 1, .cond .., st, K, K', L, hK, hL, h => by unfold vcS at h; exact h.elim
  | k + 1, .loop _, st, K, K', L, hK, hL, h => by unfold vcS at h; exact h.elim
  | k + 1, .block .., st, K, K', L, hK, hL, h => by unfold vcS at h; exact h.elim
  | k + 1, .exit _, st, K, K', L, hK, hL, h => by unfold vcS at h; exact h.elim
  | k + 1, .ret, st, K, K', L, hK, hL, h => by unfold vcS at h; exact h.elim
  | k + 1, .label _, st, K, K', L, hK, hL, h => by unfold vcS at h; exact h.elim
  | k + 1, .goto _, st, K, K', L, hK, hL, h => by unfold vcS at h; exact h.elim
  | k + 1, .scope _, st, K, K', L, hK, hL, h => by unfold vcS at h; exact h.elim
  | k + 1, .rangeFunc .., st, K, K', L, hK, hL, h => by unfold vcS at h; exact h.elim
  | k + 1, .refuse _, st, K, K', L, hK, hL, h => by unfold vcS at h; exact h.elim
theorem Tri.cuts {c : Code} {st : St} (ts ids : List Nat) {K : Exit → St → Prop} (h : Tri P V N c (cutH ids (cutTo ts st)) K) : Tri P V N c st K := fun γ a w hr => h γ a w (rs_cutH (rs_cutTo hr))
/-- What is told of a state where code ends so. -/
def exN : Exit → Nat
  | .normal => 0
  | .ret => 1
  | .exit j => j + 2
  | _ => 0
def cutX : List (Nat × List Nat × List Nat) → Exit → St → St
  | [], _, s => s
  | (n, ts, ids) :: l, ex, s => match Nat.beq n (exN ex) with
    | true => cutH ids (cutTo ts s)
    | false => cutX l ex s
theorem rs_cutX {ex : Exit} {st : St} {γ : G} {a : Act} {w : World} (h : RS V N st γ a w) : ∀ l, RS V N (cutX l ex st) γ a w
  | [] => h
  | (n, ts, ids) :: l => by
    unfold cutX
    split
    · exact rs_cutH (rs_cutTo h)
    · exact rs_cutX h l
theorem Judge.seg {R : Type} {W : R → Way} (hm : P.follows .mixedOrders = true) {tms : List (Nat × Tm)} {cx : List (Nat × List Nat × List Nat)} {c : Code} {st : St} {t : Tr W}
    (h : ∀ K : Exit → St → Prop, vc P V N tms [] c st (fun ex s => K ex (cutX cx ex s)) = t.Hold K) : Judge P V N c st t.run W := fun x hx K hk γ a w hr => by
  have h1 : vc P V N tms [] c st (fun ex s => K ex (cutX cx ex s)) := by rw [h K]; exact Tr.hold hk hx
  exact wp_mono (vc_sound hm c st _ h1 γ a w hr) fun _ _ _ ⟨s, γ', h1, h2⟩ => ⟨_, γ', rs_cutX h1 cx, h2⟩
/-- A judgement with its outcome. -/
structure JD (P : Program) (N : Nat) (c : Code) (st : St) {R : Type} (W : R → Way) where
  m : Option R
  j : ∀ V : Env, Judge P V N c st m W
def fstC : Code → Code
  | .seq a _ => a
  | c => c
def isSeq : Code → Bool
  | .seq _ _ => true
  | _ => false
def blkC : Code → Code
  | .block _ c => c
  | c => c
def blkI : Code → Nat
  | .block i _ => i
  | _ => 0
def isBlk : Code → Bool
  | .block _ _ => true
  | _ => false
def lpC : Code → Code
  | .loop c => c
  | c => c
def isLp : Code → Bool
  | .loop _ => true
  | _ => false
def thenC : Code → Code
  | .cond _ x _ => x
  | c => c
def elseC : Code → Code
  | .cond _ _ y => y
  | c => c
def condO : Code → Operand
  | .cond o _ _ => o
  | _ => .tmp 0
def isCond : Code → Bool
  | .cond _ _ _ => true
  | _ => false
/-- What comes behind the first part. -/
def onS {Y R : Type} (f : Y → Option R) : Y ⊕ R → Option R
  | .inl y => f y
  | .inr r => some r
section
variable {R Y : Type} {W : R → Way} {c : Code} {st : St}
/-- Code without loops. -/
noncomputable def JD.sg (tms : List (Nat × Tm)) (cx : List (Nat × List Nat × List Nat)) (t : Tr W) (hm : P.follows .mixedOrders = true := by refine id ?_; kernel_rfl)
    (h : ∀ (V : Env) (K : Exit → St → Prop), vc P V N tms [] c st (fun ex s => K ex (cutX cx ex s)) = t.Hold K := by intro V K; refine id ?_; kernel_rfl) : JD P N c st W := ⟨t.run, fun V => Judge.seg hm (h V)⟩
/-- The first k parts of a sequence, without loops, and what comes behind them. -/
noncomputable def JD.sq (k : Nat) (tms : List (Nat × Tm)) (cx : List (Nat × List Nat × List Nat)) (S : Y → St) (t : Tr (wy S W)) (B : ∀ y, JD P N (suf k c) (S y) W) (hm : P.follows .mixedOrders = true := by refine id ?_; kernel_rfl)
    (h : ∀ (V : Env) (K : Exit → St → Prop) (L : St → Prop), vcS P V N tms k c st (fun ex s => K ex (cutX cx ex s)) (fun s => L (cutX cx .normal s)) = t.Hold (andThen K L) := by intro V K L; refine id ?_; kernel_rfl) : JD P N c st W where
  m := t.run.bind (onS fun y => (B y).m)
  j := fun V x hx K hk => by
    obtain ⟨z, hz, hx⟩ := Option.bind_eq_some_iff.1 hx
    cases z with
    | inl y =>
      have h1 : vcS P V N tms k c st (fun ex s => K ex (cutX cx ex s)) (fun s => Weak (cutX cx .normal s) (S y)) := by
        rw [h V K fun s => Weak s (S y)]
        refine Tr.hold (fun ex s hs => ?_) hz
        obtain ⟨h1, h2⟩ := hs
        cases ex <;> first | exact h2 | cases h1
      have h2 : Tri P V N c st (fun ex s => K ex s ∨ K ex (cutX cx ex s)) := vcS_sound hm k c st _ _ _ (fun ex s hs => .inr hs) (fun s hs => fun γ a w hr => Tri.weak hs (((B y).j V x hx K hk).mono fun ex s hs => .inl hs) γ a w (rs_cutX hr cx)) h1
      refine fun γ a w hr => wp_mono (h2 γ a w hr) ?_
      rintro ex a' w' ⟨s, γ', h1, h2 | h2⟩
      · exact ⟨s, γ', h1, h2⟩
      · exact ⟨_, γ', rs_cutX h1 cx, h2⟩
    | inr r =>
      injection hx with hx
      subst hx
      have h1 : vcS P V N tms k c st (fun ex s => K ex (cutX cx ex s)) (fun _ => False) := by
        rw [h V K fun _ => False]
        refine Tr.hold (fun ex s hs => ?_) hz
        obtain ⟨h1, h2⟩ := hs
        cases ex <;> first | exact hk _ _ h2 | cases h1
      have h2 : Tri P V N c st (fun ex s => K ex (cutX cx ex s)) := vcS_sound hm k c st _ _ _ (fun ex s hs => hs) (fun s hs => hs.elim) h1
      refine fun γ a w hr => wp_mono (h2 γ a w hr) ?_
      rintro ex a' w' ⟨s, γ', h1, h2⟩
      exact ⟨_, γ', rs_cutX h1 cx, h2⟩
theorem tri_seq (hc : isSeq c = true) {K : Exit → St → Prop} (h : Tri P V N (fstC c) st fun ex s => match ex with | .normal => Tri P V N (suf 1 c) s K | ex => K ex s) : Tri P V N c st K := by
  cases c with
  | seq a b => exact Tri.seq (h.mono fun ex s hs => by cases ex <;> exact hs)
  | _ => cases hc
/-- One part, and what comes behind it. -/
noncomputable def JD.sc (S : Y → St) (A : JD P N (fstC c) st (wy S W)) (B : ∀ y, JD P N (suf 1 c) (S y) W) (hc : isSeq c = true := by refine id ?_; kernel_rfl) : JD P N c st W where
  m := A.m.bind (onS fun y => (B y).m)
  j := fun V x hx K hk => by
    obtain ⟨z, hz, hx⟩ := Option.bind_eq_some_iff.1 hx
    refine tri_seq hc (A.j V z hz _ fun ex s hs => ?_)
    cases z with
    | inl y =>
      obtain ⟨h1, h2⟩ := hs
      cases ex with
      | normal => exact Tri.weak h2 ((B y).j V x hx K hk)
      | _ => cases h1
    | inr r =>
      injection hx with hx
      subst hx
      obtain ⟨h1, h2⟩ := hs
      cases ex with
      | normal => cases h1
      | _ => exact hk _ _ h2
/-- One part, that leaves. -/
noncomputable def JD.se (A : JD P N (fstC c) st (wy (Y := Empty) (fun _ => st) W)) (hc : isSeq c = true := by refine id ?_; kernel_rfl) : JD P N c st W := JD.sc (fun _ => st) A (fun y => y.elim) hc
/-- A block. -/
def JD.bk (A : JD P N (blkC c) st (lv (blkI c) W)) (hc : isBlk c = true := by refine id ?_; kernel_rfl) : JD P N c st W where
  m := A.m
  j := fun V x hx K hk => by
    cases c with
    | block id c =>
      refine Tri.block (A.j V x hx _ fun ex s hs => ?_)
      have h2 : K (leave id ex) s := hk _ _ hs
      cases ex with
      | exit j =>
        simp only [inBlock]
        simp only [leave] at h2
        by_cases e : j = id
        · rw [if_pos e]
          have : Nat.beq j id = true := by rw [e]; exact Nat.beq_refl _
          rw [this] at h2; exact h2
        · rw [if_neg e]
          have : Nat.beq j id = false := by
            cases hb : Nat.beq j id with
            | false => rfl
            | true => exact absurd (Nat.eq_of_beq_eq_true hb) e
          rw [this] at h2; exact h2
      | _ => exact h2
    | _ => cases hc
/-- A loop. -/
noncomputable def JD.lp (H : Y → St) (y0 : Y) (w0 : Weak st (H y0)) (B : ∀ y, JD P N (lpC c) (H y) (wy H W)) (hc : isLp c = true := by refine id ?_; kernel_rfl) : JD P N c st W where
  m := loopO (fun y => (B y).m) y0
  j := fun V x hx K hk => by
    cases c with
    | loop c =>
      obtain ⟨n, hx⟩ := loopO_some hx
      refine Tri.loop (X := Nat × Y) (fun p => H p.2) (fun p => loopN (fun y => (B y).m) p.1 p.2 = some x) (fun p => p.1) (n, y0) w0 hx ?_
      rintro ⟨n, s⟩ hs
      cases n with
      | zero => cases hs
      | succ n =>
        simp only [loopN] at hs
        cases hy : (B s).m with
        | none => rw [hy] at hs; cases hs
        | some y =>
          rw [hy] at hs
          refine (B s).j V y hy _ fun ex t ht => ?_
          cases y with
          | inl s' =>
            obtain ⟨h1, h2⟩ := ht
            cases ex with
            | normal => exact ⟨(n, s'), hs, Nat.lt_succ_self n, h2⟩
            | _ => cases h1
          | inr x' =>
            simp only [Option.some.injEq] at hs
            subst hs
            obtain ⟨h1, h2⟩ := ht
            cases ex with
            | normal => cases h1
            | _ => exact hk _ _ h2
    | _ => cases hc
/-- A loop's rounds, told one by one: its body, at most n times. -/
structure JL (P : Program) (N : Nat) (n : Nat) (c : Code) (st : St) {R : Type} (W : R → Way) where
  m : Option R
  j : ∀ (V : Env) (x : R), m = some x → ∀ K : Exit → St → Prop, (∀ ex s, W x ex s → K ex s) → ∀ γ a w, RS V N st γ a w → Code.rounds P c (fun ex a' w' => ∃ s γ', RS V N s γ' a' w' ∧ K ex s) n a w
/-- One more round, and what comes behind it. -/
noncomputable def JL.r {n : Nat} (S : Y → St) (A : JD P N c st (wy S W)) (B : ∀ y, JL P N n c (S y) W) : JL P N (n + 1) c st W where
  m := A.m.bind (onS fun y => (B y).m)
  j := fun V x hx K hk γ a w hr => by
    obtain ⟨z, hz, hx⟩ := Option.bind_eq_some_iff.1 hx
    refine wp_mono (A.j V z hz (fun ex s => wy S W z ex s) (fun ex s hs => hs) γ a w hr) ?_
    rintro ex a' w' ⟨s, γ', h1, h2⟩
    cases z with
    | inl y =>
      obtain ⟨h3, h4⟩ := h2
      cases ex with
      | normal =>
        obtain ⟨γ'', h5⟩ := h4 V N γ' a' w' h1
        exact (B y).j V x hx K hk γ'' a' w' h5
      | _ => cases h3
    | inr r =>
      injection hx with hx
      subst hx
      obtain ⟨h3, h4⟩ := h2
      cases ex with
      | normal => cases h3
      | _ => exact ⟨s, γ', h1, hk _ _ h4⟩
/-- The last round: it leaves the loop. -/
noncomputable def JL.z (A : JD P N c st (wy (Y := Empty) (fun _ => st) W)) : JL P N 1 c st W := JL.r (n := 0) (fun _ => st) A fun y => y.elim
/-- A loop of so many rounds. -/
noncomputable def JD.lu (n : Nat) (B : JL P N n (lpC c) st W) (hc : isLp c = true := by refine id ?_; kernel_rfl) : JD P N c st W where
  m := B.m
  j := fun V x hx K hk γ a w hr => by
    cases c with
    | loop c => exact wp_loop_rounds n (B.j V x hx K hk γ a w hr)
    | _ => cases hc
/-- Two ways, of which the first is taken. -/
noncomputable def JD.ct (A : JD P N (thenC c) st W) (hc : isCond c = true := by refine id ?_; kernel_rfl) (hb : evS st (condO c) = .d (.bool true) := by refine id ?_; kernel_rfl) : JD P N c st W where
  m := A.m
  j := fun V r hr K hk => by
    cases c with
    | cond o x y => exact Tri.cond hb (fun h => A.j V r hr K hk) (fun h => by cases h)
    | _ => cases hc
/-- Two ways, of which the second is taken. -/
noncomputable def JD.ce (A : JD P N (elseC c) st W) (hc : isCond c = true := by refine id ?_; kernel_rfl) (hb : evS st (condO c) = .d (.bool false) := by refine id ?_; kernel_rfl) : JD P N c st W where
  m := A.m
  j := fun V r hr K hk => by
    cases c with
    | cond o x y => exact Tri.cond hb (fun h => by cases h) (fun h => A.j V r hr K hk)
    | _ => cases hc
/-- Two ways. -/
noncomputable def JD.cd (b : Bool) (A : JD P N (thenC c) st W) (B : JD P N (elseC c) st W) (hc : isCond c = true := by refine id ?_; kernel_rfl) (hb : evS st (condO c) = .d (.bool b) := by refine id ?_; kernel_rfl) : JD P N c st W where
  m := if b = true then A.m else B.m
  j := fun V r hr K hk => by
    cases c with
    | cond o x y =>
      refine Tri.cond hb (fun h => ?_) (fun h => ?_)
      · rw [if_pos h] at hr; exact A.j V r hr K hk
      · rw [if_neg (by rw [h]; decide)] at hr; exact B.j V r hr K hk
    | _ => cases hc
end
/-- A function on data. -/
abbrev JF (P : Program) (fn : Func) (ds : List D) {R : Type} (en : R → D) := JD P fn.ntmps (body fn) ⟨argFr 0 ds, [], [], 16⟩ fun x => fin P fn (en x)
theorem pure_jd {R : Type} {f : Nat} {fn : Func} {ds : List D} {en : R → D} (d : JF P fn ds en) (hf : P.funcs[f]? = some fn) {x : R} (hx : d.m = some x) (hb : fn.body = some (body fn) := by kernel_rfl) (hn : fn.name ≠ "runtime.NumGoroutine" := by decide)
    (hlen : Nat.ble ds.length fn.ntmps = true := by rfl) : PureAt P f ds (en x) :=
  pure_of hf hb hn (Nat.le_of_ble_eq_true hlen) fun V => Tri.post (d.j V x hx (fun ex s => isR ex = true ∧ ∃ s', Weak s s' ∧ resIs P fn.results.toList s' (en x)) fun ex s hs => hs) fun ex s ⟨he, s', hw, hr⟩ => ⟨s', hw, by
    cases ex <;> first | exact hr | cases he⟩
/-- Of a region: one pure call; its results. -/
def tm1 {α : Type} (t : Nat) (e : α → D) : Tm := ⟨α, fun x => [(t, e x)], fun _ => [], []⟩
/-- The state of the way that the code goes on in. -/
def Tr.nx {Y R : Type} {S : Y → St} {W : R → Way} (y : Y) : Tr (wy S W) := .ret .normal (S y) (.inl y) ⟨rfl, Weak.refl _⟩

/-! ### What judgements come to -/
theorem JD.sg_m {R : Type} {W : R → Way} {c : Code} {st : St} {tms : List (Nat × Tm)} {cx : List (Nat × List Nat × List Nat)} {t : Tr W} {hm : P.follows .mixedOrders = true} {h} : (JD.sg (P := P) (N := N) (c := c) (st := st) tms cx t hm h).m = t.run := rfl
theorem JD.sq_m {R Y : Type} {W : R → Way} {c : Code} {st : St} {k : Nat} {tms : List (Nat × Tm)} {cx : List (Nat × List Nat × List Nat)} {S : Y → St} {t : Tr (wy S W)} {B : ∀ y, JD P N (suf k c) (S y) W} {hm : P.follows .mixedOrders = true} {h} : (JD.sq (P := P) (N := N) (c := c) (st := st) k tms cx S t B hm h).m = t.run.bind (onS fun y => (B y).m) := rfl
theorem JD.sc_m {R Y : Type} {W : R → Way} {c : Code} {st : St} {S : Y → St} {A : JD P N (fstC c) st (wy S W)} {B : ∀ y, JD P N (suf 1 c) (S y) W} {hc} : (JD.sc S A B hc).m = A.m.bind (onS fun y => (B y).m) := rfl
theorem JD.bk_m {R : Type} {W : R → Way} {c : Code} {st : St} {A : JD P N (blkC c) st (lv (blkI c) W)} {hc} : (JD.bk A hc).m = A.m := rfl
theorem JD.lp_m {R Y : Type} {W : R → Way} {c : Code} {st : St} {H : Y → St} {y0 : Y} {w0 : Weak st (H y0)} {B : ∀ y, JD P N (lpC c) (H y) (wy H W)} {hc} : (JD.lp H y0 w0 B hc).m = loopO (fun y => (B y).m) y0 := rfl
theorem JD.cd_m {R : Type} {W : R → Way} {c : Code} {st : St} {b : Bool} {A : JD P N (thenC c) st W} {B : JD P N (elseC c) st W} {hc} {hb} : (JD.cd b A B hc hb).m = if b = true then A.m else B.m := rfl
theorem JD.lu_m {R : Type} {W : R → Way} {c : Code} {st : St} {n : Nat} {B : JL P N n (lpC c) st W} {hc} : (JD.lu n B hc).m = B.m := rfl
theorem JD.ct_m {R : Type} {W : R → Way} {c : Code} {st : St} {A : JD P N (thenC c) st W} {hc} {hb} : (JD.ct A hc hb).m = A.m := rfl
theorem JD.ce_m {R : Type} {W : R → Way} {c : Code} {st : St} {A : JD P N (elseC c) st W} {hc} {hb} : (JD.ce A hc hb).m = A.m := rfl
theorem JL.r_m {R Y : Type} {W : R → Way} {c : Code} {st : St} {n : Nat} {S : Y → St} {A : JD P N c st (wy S W)} {B : ∀ y, JL P N n c (S y) W} : (JL.r S A B).m = A.m.bind (onS fun y => (B y).m) := rfl
def onE {R : Type} : Empty ⊕ R → Option R
  | .inl y => y.elim
  | .inr r => some r
theorem onE_r {R : Type} {r : R} : onE (.inr r) = some r := rfl
theorem JD.se_m {R : Type} {W : R → Way} {c : Code} {st : St} {A : JD P N (fstC c) st (wy (Y := Empty) (fun _ => st) W)} {hc} : (JD.se A hc).m = A.m.bind onE := by
  unfold JD.se; rw [JD.sc_m]; congr 1; funext z; cases z with | inl y => cases y | inr r => rfl
theorem JL.z_m {R : Type} {W : R → Way} {c : Code} {st : St} {A : JD P N c st (wy (Y := Empty) (fun _ => st) W)} : (JL.z A).m = A.m.bind onE := by
  unfold JL.z; rw [JL.r_m]; congr 1; funext z; cases z with | inl y => cases y | inr r => rfl
theorem Tr.run_nd {R : Type} {W : R → Way} {p : Prop} [d : Decidable p] {k : Tr W} : (nd p k).run = if p then k.run else none := rfl
theorem Tr.run_c3 {R α : Type} {W : R → Way} {m : Option α} {p : α → Prop} {h : ∀ r, m = some r → p r} {k : α → Tr W} : (c3 h k).run = m.bind fun x => (k x).run := by
  cases m <;> rfl
theorem Tr.run_c2 {R α : Type} {W : R → Way} {m : Option α} {f : Nat} {ds ds' : List D} {e : α → D} {h : ∀ r, m = some r → PureAt P f ds (e r)} {hd : DeqL ds' ds} {k : α → Tr W} : (c2 h ds' hd k).run = m.bind fun x => (k x).run := by
  cases m <;> rfl
theorem Tr.run_nx {Y R : Type} {S : Y → St} {W : R → Way} {y : Y} : (Tr.nx y : Tr (wy S W)).run = some (.inl y) := rfl
theorem onS_l {Y R : Type} {f : Y → Option R} {y : Y} : onS f (.inl y) = f y := rfl
theorem onS_r {Y R : Type} {f : Y → Option R} {r : R} : onS f (.inr r) = some r := rfl
theorem bind_ite {α β : Type} {p : Prop} [Decidable p] {a b : Option α} {f : α → Option β} : (if p then a else b).bind f = if p then a.bind f else b.bind f := by split <;> rfl
end Go.Av
