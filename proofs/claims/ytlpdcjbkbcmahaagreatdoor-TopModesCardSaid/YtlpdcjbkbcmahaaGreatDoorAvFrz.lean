/- Own rows become data. -/
import Derived.Test.YtlpdcjbkbcmahaaGreatDoorAvFn
set_option linter.unusedVariables false
set_option linter.unusedSimpArgs false
namespace Go.Av
open Go.RowKit Go.Base
variable {P : Program} {V : Env} {N : Nat} {γ γ' : G} {w w' : World} {own : Nat → Prop}

abbrev Row := Nat × Nat × Nat × (Nat → D)
def rowsOf (fz : List Row) : List Nat := fz.map (·.1)
/-- Values, with some own rows told as data. -/
inductive Fz (fz : List Row) : List AV → List AV → Prop where
  | nil : Fz fz [] []
  | same {x : AV} {l m : List AV} : Fz fz l m → Fz fz (x :: l) (x :: m)
  | arr {a sz n k : Nat} {f : Nat → D} {y : D} {l m : List AV} : (a, sz, n, f) ∈ fz → k ≤ n → De (.sl sz k f) y → Fz fz l m → Fz fz (.arr a sz k :: l) (.d y :: m)
  | vec {a sz n k : Nat} {f : Nat → D} {y : D} {l m : List AV} : (a, sz, n, f) ∈ fz → De (.sl sz n f) y → Fz fz l m → Fz fz (.vec a sz k :: l) (.d y :: m)
  | dat {x y : D} {l m : List AV} : De x y → Fz fz l m → Fz fz (.d x :: l) (.d y :: m)
  | ap {sz n : Nat} {f : Nat → D} {r : Right} {y : D} {l m : List AV} : De (.sl sz n f) y → Fz fz l m → Fz fz (.ap sz n f r :: l) (.d y :: m)
  | agg {c c' l m : List AV} : Fz fz c c' → Fz fz l m → Fz fz (.agg c :: l) (.agg c' :: m)
  | aggD {c : List AV} {r : List D} {l m : List AV} : Fz fz c (r.map .d) → Fz fz l m → Fz fz (.agg c :: l) (.d (.agg r) :: m)
  | tup {c c' l m : List AV} : Fz fz c c' → Fz fz l m → Fz fz (.tup c :: l) (.tup c' :: m)
  | tupD {c : List AV} {r : List D} {l m : List AV} : Fz fz c (r.map .d) → Fz fz l m → Fz fz (.tup c :: l) (.d (.tup r) :: m)
  | fn {g : FuncId} {c c' l m : List AV} : Fz fz c c' → Fz fz l m → Fz fz (.fn g c :: l) (.fn g c' :: m)
theorem repL_of_map : ∀ {r : List D} {vs : List Value}, RepAL γ (r.map .d) vs → RepL γ.μ r vs
  | [], _, h => by simpa only [List.map_nil, RepAL, RepL] using h
  | x :: r, vs, h => by
    simp only [List.map_cons, RepAL] at h
    obtain ⟨v, t, rfl, h1, h2⟩ := h
    simp only [RepA] at h1
    simp only [RepL]
    exact ⟨v, t, rfl, h1, repL_of_map h2⟩
def Frozen (γ γ' : G) (a sz n : Nat) (f : Nat → D) : Prop :=
  (∀ k b c, γ.ι a = some (.blk b) → k ≤ n → k ≤ c → c ≤ maxLen → Rep γ'.μ (.sl sz k f) (.slice (some ⟨b, 0, none⟩) k c)) ∧ ∀ v e z, γ.ι a = some (.vec v e z) → Rep γ'.μ (.sl sz n f) v
def RowIs (o : Option Ob) (sz n : Nat) (f : Nat → D) : Prop := match o with
  | some (.arr s k g) => s = sz ∧ k = n ∧ g = f
  | some (.vec _ s k g) => s = sz ∧ k = n ∧ g = f
  | _ => False
theorem rowIs_arr {o : Option Ob} {sz n : Nat} {f : Nat → D} (h : o = some (.arr sz n f)) : RowIs o sz n f := by subst h; exact ⟨rfl, rfl, rfl⟩
theorem rowIs_vec {o : Option Ob} {e : TypeId} {sz n : Nat} {f : Nat → D} (h : o = some (.vec e sz n f)) : RowIs o sz n f := by subst h; exact ⟨rfl, rfl, rfl⟩
theorem Fz.rep {fz : List Row} (le : LeG γ γ') (hz : ∀ a sz n f, (a, sz, n, f) ∈ fz → Frozen γ γ' a sz n f) :
    ∀ {l m : List AV}, Fz fz l m → ∀ {vs : List Value}, RepAL γ l vs → RepAL γ' m vs := by
  intro l m h
  induction h with
  | nil => intro vs hr; simpa only [RepAL] using hr
  | same h ih => intro vs hr; simp only [RepAL] at hr ⊢; obtain ⟨v, t, rfl, h1, h2⟩ := hr; exact ⟨v, t, rfl, RepA.mono le _ _ h1, ih h2⟩
  | arr hm hk hd h ih =>
    intro vs hr
    simp only [RepAL] at hr ⊢
    obtain ⟨v, t, rfl, h1, h2⟩ := hr
    simp only [RepA] at h1 ⊢
    obtain ⟨b, c, e1, rfl, e3, e4⟩ := h1
    exact ⟨_, t, rfl, ((hz _ _ _ _ hm).1 _ b c e1 hk e3 e4).de hd, ih h2⟩
  | vec hm hd h ih =>
    intro vs hr
    simp only [RepAL] at hr ⊢
    obtain ⟨v, t, rfl, h1, h2⟩ := hr
    simp only [RepA] at h1 ⊢
    obtain ⟨e, A, c, e1, _⟩ := h1
    exact ⟨_, t, rfl, ((hz _ _ _ _ hm).2 v e _ e1).de hd, ih h2⟩
  | dat hd h ih =>
    intro vs hr
    simp only [RepAL] at hr ⊢
    obtain ⟨v, t, rfl, h1, h2⟩ := hr
    simp only [RepA] at h1 ⊢
    exact ⟨_, t, rfl, (Rep.mono le.μ _ _ h1).de hd, ih h2⟩
  | ap hd h ih =>
    intro vs hr
    simp only [RepAL] at hr ⊢
    obtain ⟨v, t, rfl, h1, h2⟩ := hr
    simp only [RepA] at h1 ⊢
    exact ⟨_, t, rfl, (Rep.mono le.μ _ _ h1.1).de hd, ih h2⟩
  | agg hc h ihc ih =>
    intro vs hr
    simp only [RepAL] at hr ⊢
    obtain ⟨v, t, rfl, h1, h2⟩ := hr
    simp only [RepA] at h1 ⊢
    obtain ⟨us, e, h3⟩ := h1
    exact ⟨_, t, rfl, ⟨us, e, ihc h3⟩, ih h2⟩
  | aggD hc h ihc ih =>
    intro vs hr
    simp only [RepAL] at hr ⊢
    obtain ⟨v, t, rfl, h1, h2⟩ := hr
    simp only [RepA, Rep] at h1 ⊢
    obtain ⟨us, e, h3⟩ := h1
    exact ⟨_, t, rfl, ⟨us, e, repL_of_map (ihc h3)⟩, ih h2⟩
  | tup hc h ihc ih =>
    intro vs hr
    simp only [RepAL] at hr ⊢
    obtain ⟨v, t, rfl, h1, h2⟩ := hr
    simp only [RepA] at h1 ⊢
    obtain ⟨us, e, h3⟩ := h1
    exact ⟨_, t, rfl, ⟨us, e, ihc h3⟩, ih h2⟩
  | tupD hc h ihc ih =>
    intro vs hr
    simp only [RepAL] at hr ⊢
    obtain ⟨v, t, rfl, h1, h2⟩ := hr
    simp only [RepA, Rep] at h1 ⊢
    obtain ⟨us, e, h3⟩ := h1
    exact ⟨_, t, rfl, ⟨us, e, repL_of_map (ihc h3)⟩, ih h2⟩
  | fn hc h ihc ih =>
    intro vs hr
    simp only [RepAL] at hr ⊢
    obtain ⟨v, t, rfl, h1, h2⟩ := hr
    simp only [RepA] at h1 ⊢
    obtain ⟨us, e, h3⟩ := h1
    exact ⟨_, t, rfl, ⟨us, e, ihc h3⟩, ih h2⟩

def dropN (ids : List Nat) (hp : Nat → Option Ob) : Nat → Option Ob := fun j => if j ∈ ids then none else hp j
theorem hp_frz1 {hp : Nat → Option Ob} {live : Nat → Prop} (H : Hp own hp live γ w) {id sz n : Nat} {f : Nat → D} (h : RowIs (hp id) sz n f) :
    ∃ γ' : G, γ'.ι = γ.ι ∧ γ'.τ = γ.τ ∧ LeM γ.μ γ'.μ ∧ (∀ c k, ¬ own c → γ'.μ c k = γ.μ c k) ∧ Hp own (dropN [id] hp) live γ' w ∧ Frozen γ γ' id sz n f := by
  cases ho : hp id with
  | none => rw [ho] at h; exact h.elim
  | some o =>
  rw [ho] at h
  have hok : o.ok = true := by cases o <;> first | rfl | exact h.elim
  obtain ⟨p, e1, e2, e3⟩ := H.obj id o ho hok
  let μ' : Nat → Nat → Option Value := fun c k => if p.block = some c then w.cell? ⟨c, k, none⟩ else γ.μ c k
  have le : LeM γ.μ μ' := fun c k v hv => by
    simp only [μ']
    split
    · rename_i hc; rw [(e3 c hc).2] at hv; cases hv
    · exact hv
  have leG : LeG γ ⟨μ', γ.ι, γ.τ⟩ := ⟨le, fun _ _ h => h, fun _ _ h => h⟩
  have hd : ∀ j o, dropN [id] hp j = some o → j ≠ id ∧ hp j = some o := fun j o hj => by
    simp only [dropN, List.mem_singleton] at hj
    split at hj
    · cases hj
    · rename_i hne; exact ⟨hne, hj⟩
  refine ⟨⟨μ', γ.ι, γ.τ⟩, rfl, rfl, le, fun c k hc => ?_, ⟨fun c k v hv => ?_, fun j oj hj hoj => ?_, fun i j oi oj pi pj hi hj h1 h2 hne hpi hpj => ?_, fun t v e z hl hq => ?_, H.tinj⟩, fun k b' c hb hkn hn hc => ?_, fun v e z hb => ?_⟩
  · simp only [μ']
    rw [if_neg (fun e => hc (e3 c e).1)]
  · simp only [μ'] at hv
    split at hv
    · exact hv
    · exact H.fz c k v hv
  · obtain ⟨hne, hj⟩ := hd j oj hj
    obtain ⟨q, g1, g2, g3⟩ := H.obj j oj hj hoj
    refine ⟨q, g1, g2.kept leG fun _ _ => rfl, fun b hb => ⟨(g3 b hb).1, fun k => ?_⟩⟩
    simp only [μ']
    rw [if_neg (fun e => ?_)]
    · exact (g3 b hb).2 k
    · rcases H.inj j id oj o q p hj ho hoj hok hne g1 e1 with h' | h'
      · rw [hb] at h'; cases h'
      · exact h' (by rw [hb, e])
  · exact H.inj i j oi oj pi pj (hd i oi hi).2 (hd j oj hj).2 h1 h2 hne hpi hpj
  · obtain ⟨m, xs, q1, q2⟩ := H.tok t v e z hl hq
    refine ⟨m, xs, q1, fun g hg => ?_⟩
    obtain ⟨r1, r2, r3⟩ := q2 g hg
    refine ⟨r1, fun k hk => ?_, fun j oj pj hj hoj hpj => r3 j oj pj (hd j oj hj).2 hoj hpj⟩
    simp only [μ']
    rw [if_neg (r3 id o p ho hok e1)]; exact r2 k hk
  · rw [e1] at hb
    injection hb with hb
    subst hb
    obtain ⟨x, hx, hr⟩ := e2
    cases o with
    | arr s k' g =>
      obtain ⟨rfl, rfl, rfl⟩ := h
      obtain ⟨vs, te, rfl, f1, f2⟩ := hr
      simp only [Rep]
      refine ⟨_, c, rfl, hn, hc, fun _ => ⟨b', 0, rfl, fun i hi => ?_⟩⟩
      obtain ⟨u, h1, h2, h3, h4⟩ := f2 i (by omega)
      refine ⟨u, Rep.mono le _ _ h1, h2, h3, fun j hj => ?_⟩
      simp only [μ', Pl.block, if_true, Nat.zero_add]
      rw [← h4 j hj]
      simp [World.cell?, hx]
    | vec => exact hr.elim
    | _ => exact h.elim
  · rw [e1] at hb
    injection hb with hb
    subst hb
    obtain ⟨n', f', xs, rfl, h0, ow, hE⟩ := e2
    obtain ⟨rfl, rfl, rfl⟩ := h
    obtain ⟨A', c', g1, g2, g3, g4⟩ := own_slice ow
    simp only [Rep]
    refine ⟨A', c', g1, g2, g3, fun hn => ?_⟩
    obtain ⟨b, hb⟩ := g4 hn
    refine ⟨b, 0, hb, fun i hi => ?_⟩
    obtain ⟨u, k1, k2, k3, k4⟩ := hE i hi
    refine ⟨u, Rep.mono le _ _ k1, k2, k3, fun j hj => ?_⟩
    have hbl : v.ownBlock = some b := by rw [g1, hb]; rfl
    simp only [μ', Pl.block, hbl, if_true, Nat.zero_add]
    have hu : j < u.cells.size := by rw [k2]; exact hj
    have h9 := k4 j hj
    rw [Array.getElem?_eq_getElem hu] at h9 ⊢
    have := ow.cells (g := b) hbl _ _ h9
    rwa [cell_mid, Nat.zero_add] at this
theorem hp_frz : ∀ (fz : List Row) {γ : G} {hp : Nat → Option Ob} {live : Nat → Prop}, Hp own hp live γ w → (rowsOf fz).Nodup → (∀ a sz n f, (a, sz, n, f) ∈ fz → RowIs (hp a) sz n f) →
    ∃ γ' : G, γ'.ι = γ.ι ∧ γ'.τ = γ.τ ∧ LeM γ.μ γ'.μ ∧ (∀ c k, ¬ own c → γ'.μ c k = γ.μ c k) ∧ Hp own (dropN (rowsOf fz) hp) live γ' w ∧
      ∀ a sz n f, (a, sz, n, f) ∈ fz → Frozen γ γ' a sz n f
  | [], γ, hp, live, H, _, _ => ⟨γ, rfl, rfl, LeM.refl _, fun _ _ _ => rfl, by
      have : dropN (rowsOf []) hp = hp := by funext j; simp [dropN, rowsOf]
      rw [this]; exact H, fun _ _ _ _ h => by cases h⟩
  | (a, sz, n, f) :: fz, γ, hp, live, H, hn, hh => by
    simp only [rowsOf, List.map_cons, List.nodup_cons] at hn
    obtain ⟨hn1, hn2⟩ := hn
    obtain ⟨γ1, i1, t1, l1, k1, H1, r1⟩ := hp_frz1 H (hh a sz n f (by simp))
    obtain ⟨γ2, i2, t2, l2, k2, H2, r2⟩ := hp_frz fz H1 hn2 fun a' sz' n' f' hm => by
      have hne : a' ≠ a := fun e => hn1 (by rw [← e]; exact List.mem_map.2 ⟨_, hm, rfl⟩)
      simp only [dropN, List.mem_singleton, if_neg hne]
      exact hh a' sz' n' f' (by simp [hm])
    refine ⟨γ2, i2.trans i1, t2.trans t1, fun b o v e => l2 b o v (l1 b o v e), fun c k hc => (k2 c k hc).trans (k1 c k hc), ?_, ?_⟩
    · have : dropN (rowsOf ((a, sz, n, f) :: fz)) hp = dropN (rowsOf fz) (dropN [a] hp) := by
        funext j
        have hc : (j ∈ rowsOf ((a, sz, n, f) :: fz)) ↔ (j = a ∨ j ∈ rowsOf fz) := by simp [rowsOf]
        simp only [dropN, List.mem_singleton]
        by_cases h2 : j ∈ rowsOf fz
        · rw [if_pos (hc.2 (.inr h2)), if_pos h2]
        · rw [if_neg h2]
          by_cases h1 : j = a
          · rw [if_pos (hc.2 (.inl h1)), if_pos h1]
          · rw [if_neg (fun h => (hc.1 h).elim h1 h2), if_neg h1]
      rw [this]; exact H2
    · intro a' sz' n' f' hm
      rcases List.mem_cons.1 hm with e | hm
      · simp only [Prod.mk.injEq] at e
        obtain ⟨rfl, rfl, rfl, rfl⟩ := e
        exact ⟨fun k b c hb hk h1 h2 => Rep.mono l2 _ _ (r1.1 k b c hb hk h1 h2), fun v e z hb => Rep.mono l2 _ _ (r1.2 v e z hb)⟩
      · have := r2 a' sz' n' f' hm
        exact ⟨fun k b c hb => this.1 k b c (by rw [i1]; exact hb), fun v e z hb => this.2 v e z (by rw [i1]; exact hb)⟩
/-- Objects: unchanged, or cells with rows told as data. -/
def FzO (fz : List Row) (hp : List (Nat × Ob)) (p : Nat × Ob) : Prop := lookO hp p.1 = some p.2 ∨ ∃ l l', lookO hp p.1 = some (.cells l) ∧ p.2 = .cells l' ∧ Fz fz l l'
theorem fz_one {fz : List Row} {x y : AV} {v : Value} {P : Prop} (h : ∀ {vs : List Value}, RepAL γ [x] vs → RepAL γ' [y] vs) (hr : RepA γ x v) : RepA γ' y v := by
  have := h (vs := [v]) (by simp only [RepAL]; exact ⟨v, [], rfl, hr, rfl⟩)
  simp only [RepAL] at this
  obtain ⟨u, t, e, h1, _⟩ := this
  injection e with e1 e2
  rw [e1]; exact h1
theorem hp_frzO {fz : List Row} {hp hp' : List (Nat × Ob)} {live : Nat → Prop} (hn : decide ((rowsOf fz).Nodup) = true) (hk : (hp'.all fun p => !(rowsOf fz).contains p.1) = true) (hz : allP (fun q : Row => RowIs (lookO hp q.1) q.2.1 q.2.2.1 q.2.2.2) fz)
    (ho : allP (FzO fz hp) hp') (H : Hp own (lookO hp) live γ w) :
    ∃ γ' : G, γ'.ι = γ.ι ∧ γ'.τ = γ.τ ∧ LeM γ.μ γ'.μ ∧ (∀ c k, ¬ own c → γ'.μ c k = γ.μ c k) ∧ Hp own (lookO hp') live γ' w ∧ (∀ {l m : List AV}, Fz fz l m → ∀ {vs : List Value}, RepAL γ l vs → RepAL γ' m vs) ∧ ∀ j o, lookO hp' j = some o → ∃ o', lookO hp j = some o' := by
  obtain ⟨γ', i1, t1, l1, k1, H1, r1⟩ := hp_frz fz H (of_decide_eq_true hn) fun a sz n f hm => allP_mem hz _ hm
  have le : LeG γ γ' := ⟨l1, fun i b h => by rw [i1]; exact h, fun i b h => by rw [t1]; exact h⟩
  have rep := fun {l m : List AV} (h : Fz fz l m) {vs : List Value} => Fz.rep le r1 h (vs := vs)
  simp only [List.all_eq_true, Bool.not_eq_true', List.contains_eq_mem, decide_eq_false_iff_not] at hk
  have old : ∀ j o, lookO hp' j = some o → ∃ o0, dropN (rowsOf fz) (lookO hp) j = some o0 ∧ lookO hp j = some o0 ∧ (o.ok = true → o0.ok = true) ∧ ∀ p, ObjAt γ w o0 p → ObjAt γ' w o p := fun j o hj => by
    have hm := mem_of_lookO hj
    have hnot := hk _ hm
    simp only at hnot
    have hd : ∀ z, lookO hp j = some z → dropN (rowsOf fz) (lookO hp) j = some z := fun z hz => by simp only [dropN, if_neg hnot]; exact hz
    rcases allP_mem ho _ hm with h | ⟨l, l', h1, h2, h3⟩
    · simp only at h
      exact ⟨o, hd _ h, h, id, fun p hp => hp.kept le fun _ _ => rfl⟩
    · simp only at h1 h2
      refine ⟨_, hd _ h1, h1, fun _ => rfl, fun p hp => ?_⟩
      subst h2
      cases p with
      | blk b =>
        obtain ⟨y, hy, vs, e, rfl, g1, g2⟩ := hp
        exact ⟨_, hy, vs, e, rfl, rep h3 g1, g2⟩
      | vec v e z => obtain ⟨n, f, xs, hc, _⟩ := hp; cases hc
  refine ⟨γ', i1, t1, l1, k1, ⟨H1.fz, fun j o hj hok => ?_, fun i j oi oj p q hi hj c1 c2 hne hp hq => ?_, fun t v e z hl hq => ?_, H1.tinj⟩, fun h => rep h, fun j o hj => let ⟨o0, _, h, _⟩ := old j o hj; ⟨o0, h⟩⟩
  · obtain ⟨o0, h1, h2, h0, h3⟩ := old j o hj
    obtain ⟨p, g1, g2, g3⟩ := H.obj j o0 h2 (h0 hok)
    obtain ⟨p', g1', g2', g3'⟩ := H1.obj j o0 h1 (h0 hok)
    rw [i1, g1] at g1'
    injection g1' with g1'
    subst g1'
    exact ⟨p, by rw [i1]; exact g1, h3 p g2, g3'⟩
  · obtain ⟨o0, h1, _, h0, _⟩ := old i oi hi
    obtain ⟨o1, h2, _, h0', _⟩ := old j oj hj
    exact H1.inj i j o0 o1 p q h1 h2 (h0 c1) (h0' c2) hne hp hq
  · obtain ⟨m, xs, q1, q2⟩ := H1.tok t v e z hl hq
    refine ⟨m, xs, q1, fun g hg => ?_⟩
    obtain ⟨s1, s2, s3⟩ := q2 g hg
    exact ⟨s1, s2, fun j o p hj hok hp => let ⟨o0, h1, _, h0, _⟩ := old j o hj; s3 j o0 p h1 (h0 hok) hp⟩
/-- Rows that are not written any more, told as data. -/
theorem weak_frz (fz : List Row) {st st' : St} (hl : st'.live = st.live) (hx : st'.nx = st.nx) (hn : decide ((rowsOf fz).Nodup) = true) (hk : (st'.hp.all fun p => !(rowsOf fz).contains p.1) = true)
    (hz : allP (fun q : Row => RowIs (lookO st.hp q.1) q.2.1 q.2.2.1 q.2.2.2) fz) (ho : allP (FzO fz st.hp) st'.hp) (hf : allP (fun p : Nat × AV => Fz fz [look st.fr p.1] [p.2]) st'.fr) : Weak st st' := fun V N γ a w ⟨R, F⟩ => by
  obtain ⟨γ', i1, t1, l1, k1, H1, rep, old⟩ := hp_frzO hn hk hz ho R.hp
  refine ⟨γ', ⟨R.defers, R.size, fun t => ?_, (fun t j want h => by cases h), by rw [hl]; exact H1, R.base, R.big, ⟨fun b o hb hno => (k1 b o hno).trans (R.mu.mu b o hb hno), fun b o v e => l1 b o v (R.mu.le b o v e), fun i b hi e => by rw [i1]; exact R.mu.pin i b hi e⟩⟩, ⟨fun id hid => ?_⟩⟩
  · show RepA _ (look st'.fr t) (a.tmps.getD t undef)
    rcases mem_of_look (l := st'.fr) (t := t) with h | h
    · rw [h]; simp only [RepA]
    · exact fz_one (fz := fz) (P := True) (fun hr => rep (allP_mem hf _ h) hr) (R.fr t)
  · obtain ⟨h1, h2, h3, h4⟩ := F.ok id (by omega)
    refine ⟨by rw [i1]; exact h1, by rw [t1]; exact h2, ?_, by rw [hl]; exact h4⟩
    cases e : lookO st'.hp id with
    | none => rfl
    | some o => obtain ⟨o', h⟩ := old id o e; rw [h] at h3; cases h3

/-! ### Nil becomes a row that may grow -/
/-- Values, with nil told as rows that may grow: at the places nm, in their order. -/
inductive Nz (nm : List (Nat × TypeId × Nat × (Nat → D))) : List AV → List AV → Prop where
  | nil : Nz nm [] []
  | same {x : AV} {l m : List AV} : Nz nm l m → Nz nm (x :: l) (x :: m)
  | vec {a : Nat} {e : TypeId} {sz z : Nat} {f g : Nat → D} {l m : List AV} : (a, e, sz, g) ∈ nm → Nz nm l m → Nz nm (.ap z 0 f .nl :: l) (.vec a sz 0 :: m)
  | agg {c c' l m : List AV} : Nz nm c c' → Nz nm l m → Nz nm (.agg c :: l) (.agg c' :: m)
theorem Nz.rep {nm : List (Nat × TypeId × Nat × (Nat → D))} (le : LeG γ γ') (hz : ∀ a e sz g, (a, e, sz, g) ∈ nm → γ'.ι a = some (.vec (.slice none 0 0) e sz)) :
    ∀ {l m : List AV}, Nz nm l m → ∀ {vs : List Value}, RepAL γ l vs → RepAL γ' m vs := by
  intro l m h
  induction h with
  | nil => intro vs hr; simpa only [RepAL] using hr
  | same h ih => intro vs hr; simp only [RepAL] at hr ⊢; obtain ⟨v, t, rfl, h1, h2⟩ := hr; exact ⟨v, t, rfl, RepA.mono le _ _ h1, ih h2⟩
  | vec hm h ih =>
    intro vs hr
    simp only [RepAL] at hr ⊢
    obtain ⟨v, t, rfl, h1, h2⟩ := hr
    simp only [RepA, RightOk] at h1 ⊢
    obtain ⟨_, rfl⟩ := h1
    exact ⟨_, t, rfl, ⟨_, none, 0, hz _ _ _ _ hm, rfl, Nat.le_refl _, Nat.zero_le _, fun h => absurd h (by omega)⟩, ih h2⟩
  | agg hc h ihc ih =>
    intro vs hr
    simp only [RepAL] at hr ⊢
    obtain ⟨v, t, rfl, h1, h2⟩ := hr
    simp only [RepA] at h1 ⊢
    obtain ⟨us, e, h3⟩ := h1
    exact ⟨_, t, rfl, ⟨us, e, ihc h3⟩, ih h2⟩
def newRows (nm : List (Nat × TypeId × Nat × (Nat → D))) : List (Nat × Ob) := nm.map fun x => (x.1, .vec x.2.1 x.2.2.1 0 x.2.2.2)
def NzO (nm : List (Nat × TypeId × Nat × (Nat → D))) (hp : List (Nat × Ob)) (p : Nat × Ob) : Prop := lookO hp p.1 = some p.2 ∨ ∃ l l', lookO hp p.1 = some (.cells l) ∧ p.2 = .cells l' ∧ Nz nm l l'
def lookV : List (Nat × TypeId × Nat × (Nat → D)) → Nat → Option (TypeId × Nat × (Nat → D))
  | [], _ => none
  | (i, v) :: l, t => if i = t then some v else lookV l t
theorem lookO_newRows : ∀ (nm : List (Nat × TypeId × Nat × (Nat → D))) (j : Nat), lookO (newRows nm) j = (lookV nm j).map fun x => .vec x.1 x.2.1 0 x.2.2
  | [], _ => rfl
  | (i, e, sz, g) :: l, j => by
    show (if i = j then some (Ob.vec e sz 0 g) else lookO (newRows l) j) = (if i = j then some (e, sz, g) else lookV l j).map _
    split
    · rfl
    · exact lookO_newRows l j
theorem lookV_mem : ∀ {nm : List (Nat × TypeId × Nat × (Nat → D))} {j : Nat} {x : TypeId × Nat × (Nat → D)}, lookV nm j = some x → (j, x) ∈ nm
  | (i, v) :: l, j, x, h => by
    simp only [lookV] at h
    split at h
    · rename_i e; injection h with h; subst e h; simp
    · exact List.mem_cons_of_mem _ (lookV_mem h)
theorem lookV_of : ∀ {nm : List (Nat × TypeId × Nat × (Nat → D))} {j : Nat} {x : TypeId × Nat × (Nat → D)}, (nm.map (·.1)).Nodup → (j, x) ∈ nm → lookV nm j = some x
  | (i, v) :: l, j, x, hn, h => by
    simp only [List.map_cons, List.nodup_cons] at hn
    simp only [lookV]
    rcases List.mem_cons.1 h with e | h
    · injection e with e1 e2; rw [if_pos e1.symm, e2]
    · split
      · rename_i e
        exact absurd (List.mem_map.2 ⟨_, h, e.symm⟩) hn.1
      · exact lookV_of hn.2 h
theorem weak_vec (nm : List (Nat × TypeId × Nat × (Nat → D))) {st st' : St} (hp' : List (Nat × Ob)) (hh : st'.hp = newRows nm ++ hp') (hl : st'.live = st.live) (hx : st.nx ≤ st'.nx) (h16 : decide (16 ≤ st.nx) = true) (hn : decide ((nm.map (·.1)).Nodup) = true) (hk : (nm.all fun p => decide (st.nx ≤ p.1) && (decide (p.1 < st'.nx) && decide (0 < p.2.2.1))) = true)
    (ho : allP (NzO nm st.hp) hp') (hf : allP (fun p : Nat × AV => Nz nm [look st.fr p.1] [p.2]) st'.fr) : Weak st st' := fun V N γ a w ⟨R, F⟩ => by
  have hn := of_decide_eq_true hn
  have h16 := of_decide_eq_true h16
  simp only [List.all_eq_true, Bool.and_eq_true, decide_eq_true_eq] at hk
  let γ' : G := ⟨γ.μ, fun j => match lookV nm j with | some x => some (.vec (.slice none 0 0) x.1 x.2.1) | none => γ.ι j, γ.τ⟩
  have hnew : ∀ {j x}, lookV nm j = some x → st.nx ≤ j ∧ j < st'.nx ∧ 0 < x.2.1 := fun h => by have := hk _ (lookV_mem h); exact this
  have hι : ∀ j x, lookV nm j = some x → γ'.ι j = some (.vec (.slice none 0 0) x.1 x.2.1) := fun j x h => by simp only [γ', h]
  have hιo : ∀ j, lookV nm j = none → γ'.ι j = γ.ι j := fun j h => by simp only [γ', h]
  have old : ∀ j, γ.ι j ≠ none → lookV nm j = none := fun j h => by
    cases hv : lookV nm j with
    | none => rfl
    | some x => exact absurd (F.ok j (hnew hv).1).1 h
  have le : LeG γ γ' := ⟨LeM.refl _, fun i b h => by rw [hιo i (old i (by rw [h]; simp))]; exact h, fun _ _ h => h⟩
  have rep := fun {l m : List AV} (h : Nz nm l m) {vs : List Value} => Nz.rep le (fun a e sz g hm => hι a (e, sz, g) (lookV_of hn hm)) h (vs := vs)
  have obs : ∀ j o, lookO st'.hp j = some o → (∃ x, lookV nm j = some x ∧ o = .vec x.1 x.2.1 0 x.2.2) ∨ (lookV nm j = none ∧ ∃ o0, lookO st.hp j = some o0 ∧ (o.ok = true → o0.ok = true) ∧ ∀ p, ObjAt γ w o0 p → ObjAt γ' w o p) := fun j o h => by
    rw [hh, lookO_app, lookO_newRows] at h
    cases hv : lookV nm j with
    | some x => rw [hv] at h; simp only [Option.map_some, Option.some.injEq] at h; exact .inl ⟨x, rfl, h.symm⟩
    | none =>
      rw [hv] at h
      simp only [Option.map_none] at h
      refine .inr ⟨rfl, ?_⟩
      rcases allP_mem ho _ (mem_of_lookO h) with h' | ⟨l, l', h1, h2, h3⟩
      · simp only at h'
        exact ⟨o, h', id, fun p hp => hp.kept le fun _ _ => rfl⟩
      · simp only at h1 h2
        refine ⟨_, h1, fun _ => rfl, fun p hp => ?_⟩
        subst h2
        cases p with
        | blk b =>
          obtain ⟨y, hy, vs, e, rfl, g1, g2⟩ := hp
          exact ⟨_, hy, vs, e, rfl, rep h3 g1, g2⟩
        | vec v e z => obtain ⟨n, f, xs, hc, _⟩ := hp; cases hc
  refine ⟨γ', ⟨R.defers, R.size, fun t => ?_, (fun t j want h => by cases h), ⟨R.hp.fz, fun j o hj hok => ?_, fun i j oi oj p q hi hj c1 c2 hne hp hq => ?_, fun t v e z hl' hq => ?_, by rw [hl]; exact R.hp.tinj⟩, R.base, R.big, ⟨R.mu.mu, R.mu.le, fun i b hi e => ?_⟩⟩, ⟨fun id hid => ?_⟩⟩
  · show RepA _ (look st'.fr t) (a.tmps.getD t undef)
    rcases mem_of_look (l := st'.fr) (t := t) with h | h
    · rw [h]; simp only [RepA]
    · exact fz_one (fz := []) (P := True) (fun hr => rep (allP_mem hf _ h) hr) (R.fr t)
  · rcases obs j o hj with ⟨x, h1, rfl⟩ | ⟨h1, o0, h2, h0, h3⟩
    · exact ⟨_, hι j x h1, ⟨0, _, [], rfl, (hnew h1).2.2, World.ownsRow_nil w 0 x.1 x.2.1, fun i hi => absurd hi (by omega)⟩, fun b hb => by cases hb⟩
    · obtain ⟨p, g1, g2, g3⟩ := R.hp.obj j o0 h2 (h0 hok)
      exact ⟨p, by rw [hιo j h1]; exact g1, h3 p g2, g3⟩
  · rcases obs i oi hi with ⟨x, h1, rfl⟩ | ⟨h1, o0, h2, h0, h3⟩
    · rw [hι i x h1] at hp; injection hp with hp; subst hp; exact .inl rfl
    · rcases obs j oj hj with ⟨x, k1, rfl⟩ | ⟨k1, o1, k2, k0, k3⟩
      · rw [hι j x k1] at hq; injection hq with hq; subst hq
        cases hb : p.block with
        | none => exact .inl rfl
        | some b => exact .inr fun e => by cases e
      · rw [hιo i h1] at hp
        rw [hιo j k1] at hq
        exact R.hp.inj i j o0 o1 p q h2 k2 (h0 c1) (k0 c2) hne hp hq
  · rw [hl] at hl'
    obtain ⟨m, xs, q1, q2⟩ := R.hp.tok t v e z hl' hq
    refine ⟨m, xs, q1, fun g hg => ?_⟩
    obtain ⟨s1, s2, s3⟩ := q2 g hg
    refine ⟨s1, s2, fun j o p hj hok hp => ?_⟩
    rcases obs j o hj with ⟨x, h1, rfl⟩ | ⟨h1, o0, h2, h0, h3⟩
    · rw [hι j x h1] at hp; injection hp with hp; subst hp; exact fun e => by cases e
    · rw [hιo j h1] at hp; exact s3 j o0 p h2 (h0 hok) hp
  · have hlow := R.mu.pin i b hi e
    rw [hιo i (old i (by rw [hlow]; simp))]; exact hlow
  · obtain ⟨h1, h2, h3, h4⟩ := F.ok id (by omega)
    have hv : lookV nm id = none := by
      cases hv : lookV nm id with
      | none => rfl
      | some x => have := (hnew hv).2.1; omega
    refine ⟨by rw [hιo id hv]; exact h1, h2, ?_, by rw [hl]; exact h4⟩
    rw [hh, lookO_app, lookO_newRows, hv]
    simp only [Option.map_none]
    cases e : lookO hp' id with
    | none => rfl
    | some o =>
      rcases allP_mem ho _ (mem_of_lookO e) with h' | ⟨l, l', h1', _⟩
      · simp only at h'; rw [h'] at h3; cases h3
      · simp only at h1'; rw [h1'] at h3; cases h3
end Go.Av
