/- Functions that are given own objects. -/
import Derived.Test.YtlpdcjbkbcmahaaGreatDoorAvTree
set_option linter.unusedVariables false
set_option linter.unusedSimpArgs false
namespace Go.Av
open Go.RowKit Go.Base
variable {P : Program} {γ γ' : G} {w w' : World} {own own' : Nat → Prop}

/-- What a function that is given own objects leaves: its result, all objects, all rights. -/
structure OF where
  r : AV
  hp : List (Nat × Ob)
  live : List Nat
/-- Function f, called on these values, with these objects (named below 16) and rights, leaves t. -/
def ObjF (P : Program) (f : FuncId) (A : List AV) (hp : List (Nat × Ob)) (live : List Nat) (t : OF) : Prop :=
  Callable P f ∧ ∀ (own : Nat → Prop) (γ : G) (w : World) (vs : List Value), Hp own (lookO hp) (· ∈ live) γ w → (∀ b, w.heap.size ≤ b → own b) → Fresh 16 (lookO hp) (· ∈ live) γ → RepAL γ A vs →
    Calls P f vs.toArray w fun e w' => ∃ v γ', e = .returned v ∧ LeM γ.μ γ'.μ ∧ (∀ i b, i < 16 → γ.ι i = some b → γ'.ι i = some b) ∧ Hp own (lookO t.hp) (· ∈ t.live) γ' w' ∧ Base own w w' ∧ RepA γ' t.r v ∧ ∀ b o, b < w.heap.size → ¬ own b → γ'.μ b o = γ.μ b o

theorem Hp.own_to {hp : Nat → Option Ob} {live : Nat → Prop} (H : Hp own hp live γ w) (h1 : ∀ id o p b, hp id = some o → o.ok = true → γ.ι id = some p → p.block = some b → own' b) (h2 : ∀ t v g, live t → γ.τ t = some v → v.1.ownBlock = some g → own' g) : Hp own' hp live γ w :=
  ⟨H.fz, fun id o h ho => let ⟨p, e1, e2, e3⟩ := H.obj id o h ho; ⟨p, e1, e2, fun b hb => ⟨h1 id o p b h ho e1 hb, (e3 b hb).2⟩⟩, H.inj,
   fun t v e sz hl hq => let ⟨n, xs, q1, q2⟩ := H.tok t v e sz hl hq; ⟨n, xs, q1, fun g hg => ⟨h2 t _ g hl hq hg, (q2 g hg).2⟩⟩, H.tinj⟩
def namesOut (rs ts rs' ts' : List (Nat × Nat)) (hp0 : List (Nat × Ob)) (live1 : List Nat) (id : Nat) (t : OT) : Bool :=
  (rs'.all fun p => (decide (id ≤ p.1) && decide (p.1 < id + 16) && decide (16 ≤ p.2)) || (decide (p.1 < id) && look2 rs p.2 == some p.1)) && decide ((rs'.map (·.2)).Nodup) &&
  (ts'.all fun p => decide (id ≤ p.1) && decide (p.1 < id + 16) && live1.contains p.2) && decide ((ts'.map (·.2)).Nodup) &&
  (t.ups.all fun p => (look2 rs' p.1).isSome) && ((rs.map (·.2)).all fun c => (t.ups.map (·.1)).contains c) &&
  (t.toks.all fun q => (look2 ts' q).isSome) && ((rs.map (·.2)).all fun c => t.ids.contains c) && ((ts.map (·.2)).all fun c => t.lv.contains c) && (t.lv.all fun c => (ts.map (·.2)).contains c) && (rs.all fun p => match lookO hp0 p.1 with | some o => o.ok | none => false)
/-- An object that is there. -/
theorem there_look {hp : Nat → Option Ob} : ∀ {l : List (Nat × Option Ob)} {i : Nat} {o : Option Ob}, There hp l → (i, o) ∈ l → hp i = o
  | (j, p) :: l, i, o, h, hm => by
    rcases List.mem_cons.1 hm with e | hm
    · injection e with e1 e2; rw [e1, e2]; exact h.1
    · exact there_look h.2 hm
def lookL : List (Nat × Option Ob) → Nat → Option Ob
  | [], _ => none
  | (i, v) :: l, t => if i = t then v else lookL l t
theorem there_lookL {hp : Nat → Option Ob} : ∀ {l : List (Nat × Option Ob)} {i : Nat} {o : Ob}, There hp l → lookL l i = some o → hp i = some o
  | (j, p) :: l, i, o, h, hm => by
    simp only [lookL] at hm
    split at hm
    · rename_i e; subst e; rw [h.1]; exact hm
    · exact there_lookL h.2 hm
/-- Told less: what a function asks, out of some of the caller's objects. -/
theorem hp_give {own : Nat → Prop} {hp : Nat → Option Ob} {live : Nat → Prop} (rs ts : List (Nat × Nat)) {hl : List (Nat × Option Ob)} {hp' : List (Nat × Ob)} {lv live' : List Nat} {nx' : Nat} (hn : namesL rs ts hp' lv live' nx' = true)
    (ho : allP (fun p : Nat × Ob => ∃ b o, look2 rs p.1 = some b ∧ lookL hl b = some o ∧ Oble rs ts o p.2) hp') (H : Hp own hp live γ w) (hth : There hp hl) (hlv : ∀ s ∈ lv, live s) :
    Hp own (lookO hp') (· ∈ live') (reG rs ts (fun _ => none) γ) w ∧ Fresh nx' (lookO hp') (· ∈ live') (reG rs ts (fun _ => none) γ) := by
  unfold namesL at hn
  simp only [Bool.and_eq_true, decide_eq_true_eq, List.all_eq_true, List.contains_eq_mem] at hn
  obtain ⟨⟨⟨⟨⟨n1, n2⟩, n3⟩, n4⟩, n5⟩, n6⟩ := hn
  have re := reG_ok rs ts (fun _ => none) γ
  have obj' : ∀ id o, lookO hp' id = some o → ∃ b o0, look2 rs id = some b ∧ hp b = some o0 ∧ Oble rs ts o0 o := fun id o h => let ⟨b, o0, e1, e2, e3⟩ := allP_mem ho _ (mem_of_lookO h); ⟨b, o0, e1, there_lookL hth e2, e3⟩
  have tok' : ∀ t v, (reG rs ts (fun _ => none) γ).τ t = some v → ∃ a, look2 ts t = some a ∧ γ.τ a = some v ∧ live a := fun t v h => by
    simp only [reG] at h
    rw [Option.bind_eq_some_iff] at h
    obtain ⟨a, h1, h2⟩ := h
    exact ⟨a, h1, h2, hlv a (n5 _ (look2_mem h1)).2⟩
  refine ⟨⟨H.fz, fun id o h ho => ?_, fun i j oi oj p q hi hj ho1 ho2 hne hp1 hp2 => ?_, fun t v e sz hl hq => ?_, fun s t v u hs ht hne hv hu => ?_⟩, ⟨fun id hid => ⟨?_, ?_, ?_, ?_⟩⟩⟩
  · obtain ⟨b, o0, h1, h2, h3⟩ := obj' id o h
    obtain ⟨p, e1, e2, e3⟩ := H.obj b o0 h2 (h3.ok ho)
    exact ⟨p, by rw [re.ι id b h1]; exact e1, e2.le re ho h3, e3⟩
  · obtain ⟨b, o0, h1, h2, h5⟩ := obj' i oi hi
    obtain ⟨c, o1, h3, h4, h6⟩ := obj' j oj hj
    rw [re.ι i b h1] at hp1
    rw [re.ι j c h3] at hp2
    exact H.inj b c o0 o1 p q h2 h4 (h5.ok ho1) (h6.ok ho2) (fun e => hne (look2_inj n1 h1 (by rw [e]; exact h3))) hp1 hp2
  · obtain ⟨c, h1, h2, h3⟩ := tok' t _ hq
    obtain ⟨n, xs, q1, q2⟩ := H.tok c v e sz h3 h2
    refine ⟨n, xs, q1, fun g hg => ?_⟩
    obtain ⟨r1, r2, r3⟩ := q2 g hg
    refine ⟨r1, r2, fun id o p h ho hp1 => ?_⟩
    obtain ⟨b, o0, h4, h5, h6⟩ := obj' id o h
    rw [re.ι id b h4] at hp1
    exact r3 b o0 p h5 (h6.ok ho) hp1
  · obtain ⟨b, h1, h2, h3⟩ := tok' s _ hv
    obtain ⟨c, h4, h5, h6⟩ := tok' t _ hu
    exact H.tinj b c v u h3 h6 (fun e => hne (look2_inj n4 h1 (by rw [e]; exact h4))) h2 h5
  · cases h : look2 rs id with
    | none => simp only [reG, h]
    | some b => have := n2 _ (look2_mem h); simp only at this; omega
  · cases h : look2 ts id with
    | none => simp only [reG, h, Option.bind_none]
    | some b => have := (n5 _ (look2_mem h)).1; simp only at this; omega
  · cases h : lookO hp' id with
    | none => rfl
    | some o =>
      obtain ⟨b, o0, h1, _⟩ := obj' id o h
      have := n2 _ (look2_mem h1); simp only at this; omega
  · intro h; have := n6 _ h; omega
/-- From a function to its call in the midst of another one. -/
theorem objL_of {f : FuncId} {A : List AV} {hp0 : List (Nat × Ob)} {live0 : List Nat} {t0 : OF} (h : ObjF P f A hp0 live0 t0) (rs ts rs' ts' : List (Nat × Nat)) {xs : List AV} {hl : List (Nat × Option Ob)} {id : Nat} {t : OT}
    (n1 : namesL rs ts hp0 t.lv live0 16 = true) (hx : AVleL rs ts xs A) (ho : allP (fun p : Nat × Ob => ∃ b o, look2 rs p.1 = some b ∧ lookL hl b = some o ∧ Oble rs ts o p.2) hp0)
    (n2 : namesOut rs ts rs' ts' hp0 t0.live id t = true) (hr : AVle rs' ts' t0.r t.r)
    (ho' : allP (fun p : Nat × Ob => ∃ b o, look2 rs' p.1 = some b ∧ lookO t0.hp b = some o ∧ Oble rs' ts' o p.2) t.ups) : ObjL P f xs hl id t := by
  obtain ⟨hcb, hf⟩ := h
  refine ⟨hcb, fun own hp live γ w vs H hth hlv big F hrep => ?_⟩
  obtain ⟨H0, F0⟩ := hp_give rs ts n1 ho H hth hlv
  have re := reG_ok rs ts (fun _ => none) γ
  generalize hγ0 : reG rs ts (fun _ => none) γ = γ0 at H0 F0 re
  have hμ0 : γ0.μ = γ.μ := re.μ
  unfold namesL at n1
  simp only [Bool.and_eq_true, decide_eq_true_eq, List.all_eq_true, List.contains_eq_mem] at n1
  obtain ⟨⟨⟨⟨⟨a1, a2⟩, a3⟩, a4⟩, a5⟩, a6⟩ := n1
  unfold namesOut at n2
  simp only [Bool.and_eq_true, decide_eq_true_eq, List.all_eq_true, List.contains_eq_mem, Bool.or_eq_true, beq_iff_eq] at n2
  obtain ⟨⟨⟨⟨⟨⟨⟨⟨⟨⟨b1, b2⟩, b3⟩, b4⟩, b5⟩, b6⟩, b7⟩, b8⟩, b9⟩, b10⟩, b11⟩ := n2
  have obj0 : ∀ j o, lookO hp0 j = some o → ∃ c oc, look2 rs j = some c ∧ hp c = some oc ∧ Oble rs ts oc o := fun j o h => let ⟨b, o0, e1, e2, e3⟩ := allP_mem ho _ (mem_of_lookO h); ⟨b, o0, e1, there_lookL hth e2, e3⟩
  have inR : ∀ {j c : Nat}, look2 rs j = some c → c ∈ rs.map (·.2) := fun h => List.mem_map.2 ⟨_, look2_mem h, rfl⟩
  have inT : ∀ {j c : Nat}, look2 ts j = some c → c ∈ ts.map (·.2) := fun h => List.mem_map.2 ⟨_, look2_mem h, rfl⟩
  have tau0 : ∀ t v, γ0.τ t = some v → ∃ a, look2 ts t = some a ∧ γ.τ a = some v ∧ live a := fun t v e => by
    subst hγ0
    simp only [reG] at e
    rw [Option.bind_eq_some_iff] at e
    obtain ⟨a, e1, e2⟩ := e
    exact ⟨a, e1, e2, hlv a (a5 _ (look2_mem e1)).2⟩
  let own0 : Nat → Prop := fun b => w.heap.size ≤ b ∨ (∃ j o p, lookO hp0 j = some o ∧ o.ok = true ∧ γ0.ι j = some p ∧ p.block = some b) ∨ ∃ t v, t ∈ live0 ∧ γ0.τ t = some v ∧ v.1.ownBlock = some b
  have own0_own : ∀ b, own0 b → own b := by
    rintro b (h1 | ⟨j, o, p, h1, h2, h3, h4⟩ | ⟨t, v, h1, h2, h3⟩)
    · exact big b h1
    · obtain ⟨c, oc, e1, e2, e3⟩ := obj0 j o h1
      rw [re.ι j c e1] at h3
      obtain ⟨p', g1, _, g4⟩ := H.obj c oc e2 (e3.ok h2)
      rw [h3] at g1; injection g1 with g1; subst g1; exact (g4 b h4).1
    · obtain ⟨a, e1, e2, e3⟩ := tau0 t v h2
      obtain ⟨n, xs, q1, q2⟩ := H.tok a v.1 v.2.1 v.2.2 e3 e2
      exact (q2 b h3).1
  have H0' : Hp own0 (lookO hp0) (· ∈ live0) γ0 w := H0.own_to (fun j o p b h1 h2 h3 h4 => .inr (.inl ⟨j, o, p, h1, h2, h3, h4⟩)) fun t v g h1 h2 h3 => .inr (.inr ⟨t, v, h1, h2, h3⟩)
  have obs : ∀ j o p b, hp j = some o → o.ok = true → j ∉ rs.map (·.2) → γ.ι j = some p → p.block = some b → ¬ own0 b := by
    rintro j o p b h1 ho h2 h3 hb (k1 | ⟨i, oi, pi, k1, ki, k2, k3⟩ | ⟨t, v, k1, k2, k3⟩)
    · obtain ⟨p', g1, g2, _⟩ := H.obj j o h1 ho
      rw [h3] at g1; injection g1 with g1; subst g1
      have := g2.lt hb
      omega
    · obtain ⟨c, oc, e1, e2, e3⟩ := obj0 i oi k1
      rw [re.ι i c e1] at k2
      rcases H.inj j c o oc p pi h1 e2 ho (e3.ok ki) (fun e => h2 (e ▸ inR e1)) h3 k2 with h | h
      · rw [hb] at h; cases h
      · exact h (by rw [hb, k3])
    · obtain ⟨a, e1, e2, e3⟩ := tau0 t v k2
      obtain ⟨n, xs, q1, q2⟩ := H.tok a v.1 v.2.1 v.2.2 e3 e2
      exact (q2 b k3).2.2 j o p h1 ho h3 hb
  have toks : ∀ t v g, live t → t ∉ ts.map (·.2) → γ.τ t = some v → v.1.ownBlock = some g → ¬ own0 g := by
    rintro t v g h1 h2 h3 h4 (k1 | ⟨i, oi, pi, k1, ki, k2, k3⟩ | ⟨t', v', k1, k2, k3⟩)
    · obtain ⟨n, xs, q1, q2⟩ := H.tok t v.1 v.2.1 v.2.2 h1 h3
      have := (q1.lt g h4).2
      omega
    · obtain ⟨c, oc, e1, e2, e3⟩ := obj0 i oi k1
      rw [re.ι i c e1] at k2
      obtain ⟨n, xs, q1, q2⟩ := H.tok t v.1 v.2.1 v.2.2 h1 h3
      exact (q2 g h4).2.2 c oc pi e2 (e3.ok ki) k2 k3
    · obtain ⟨a, e1, e2, e3⟩ := tau0 t' v' k2
      rcases H.tinj t a v v' h1 e3 (fun e => h2 (e ▸ inT e1)) h3 e2 with q | q
      · rw [h4] at q; cases q
      · rw [h4, k3] at q; exact q rfl
  refine (hf own0 γ0 w vs H0' (fun b hb => .inl hb) F0 (RepAL.le re hx hrep)).mono ?_
  rintro e w' ⟨v, γ1, rfl, le1, pins, H1, B1, R1, mu1⟩
  rw [hμ0] at le1 mu1
  let γ' : G := ⟨γ1.μ, fun j => match look2 rs' j with | some c => γ1.ι c | none => γ.ι j, fun j => match look2 ts' j with | some c => γ1.τ c | none => γ.τ j⟩
  have re' : ReG rs' ts' γ1 γ' := ⟨rfl, fun b a h => by simp only [γ', h], fun b a h => by simp only [γ', h]⟩
  have ι_old : ∀ j, look2 rs' j = none → γ'.ι j = γ.ι j := fun j h => by simp only [γ', h]
  have τ_old : ∀ j, look2 ts' j = none → γ'.τ j = γ.τ j := fun j h => by simp only [γ', h]
  have rs'_ok : ∀ j c, look2 rs' j = some c → (id ≤ j ∧ j < id + 16 ∧ 16 ≤ c) ∨ (j < id ∧ look2 rs c = some j) := fun j c h => by
    rcases b1 _ (look2_mem h) with ⟨⟨q1, q2⟩, q3⟩ | ⟨q1, q2⟩
    · exact .inl ⟨q1, q2, q3⟩
    · exact .inr ⟨q1, q2⟩
  have ts'_ok : ∀ j c, look2 ts' j = some c → id ≤ j ∧ j < id + 16 ∧ c ∈ t0.live := fun j c h => by
    obtain ⟨⟨q1, q2⟩, q3⟩ := b3 _ (look2_mem h)
    exact ⟨q1, q2, q3⟩
  have le : LeG γ γ' := ⟨le1, fun i b hi => by
    cases hl : look2 rs' i with
    | none => rw [ι_old i hl]; exact hi
    | some c =>
      rcases rs'_ok i c hl with ⟨q1, q2, _⟩ | ⟨_, q2⟩
      · rw [(F i q1 q2).1] at hi; cases hi
      · rw [re'.ι i c hl]
        exact pins c b (by have := a2 _ (look2_mem q2); exact this) (by rw [re.ι c i q2]; exact hi), fun i b hi => by
    cases hl : look2 ts' i with
    | none => rw [τ_old i hl]; exact hi
    | some c =>
      have := ts'_ok i c hl
      rw [(F i this.1 this.2.1).2.1] at hi; cases hi⟩
  have notin : ∀ j, lookO t.ups j = none → j ∉ rs.map (·.2) := fun j h hm => by
    have := b6 j hm
    rw [List.mem_map] at this
    obtain ⟨p, hp1, hp2⟩ := this
    have : ∀ l : List (Nat × Ob), p ∈ l → lookO l j ≠ none := fun l => by
      induction l with
      | nil => intro h; cases h
      | cons q l ih =>
        intro hm
        simp only [lookO]
        split
        · exact fun h => by cases h
        · rename_i hne
          rcases List.mem_cons.1 hm with e | hm
          · rw [e] at hp2; exact absurd hp2 hne
          · exact ih hm
    exact this _ hp1 h
  have objP : ∀ j o, Ups hp t.ups j = some o → (look2 rs' j = none ∧ hp j = some o ∧ j ∉ rs.map (·.2)) ∨ ∃ c oc, look2 rs' j = some c ∧ lookO t0.hp c = some oc ∧ Oble rs' ts' oc o := fun j o h => by
    unfold Ups at h
    split at h
    · rename_i o' ho1
      injection h with h
      subst h
      obtain ⟨c, oc, q1, q2, q3⟩ := allP_mem ho' _ (mem_of_lookO ho1)
      exact .inr ⟨c, oc, q1, q2, q3⟩
    · rename_i hn
      refine .inl ⟨?_, h, notin j hn⟩
      cases hl : look2 rs' j with
      | none => rfl
      | some c =>
        rcases rs'_ok j c hl with ⟨q1, q2, _⟩ | ⟨_, q2⟩
        · rw [(F j q1 q2).2.2.1] at h; cases h
        · exact absurd (inR q2) (notin j hn)
  have liveP : ∀ q, Lvs live t.lv t.toks q → (∃ c, look2 ts' q = some c ∧ c ∈ t0.live) ∨ (look2 ts' q = none ∧ live q ∧ q ∉ ts.map (·.2)) := fun q hq => by
    rcases hq with ⟨h1, h2⟩ | h
    · refine .inr ⟨?_, h1, fun hm => h2 (b9 q hm)⟩
      cases hl : look2 ts' q with
      | none => rfl
      | some c => have := ts'_ok q c hl; exact absurd h1 (F q this.1 this.2.1).2.2.2
    · have := b7 q h
      cases hl : look2 ts' q with
      | none => rw [hl] at this; cases this
      | some c => exact .inl ⟨c, rfl, (ts'_ok q c hl).2.2⟩
  have keep : ∀ b, b < w.heap.size → ¬ own0 b → w'.heap[b]? = w.heap[b]? := fun b h1 h2 => B1.block b h1 h2
  have objN : ∀ j o, Ups hp t.ups j = some o → o.ok = true → ∃ p, γ'.ι j = some p ∧ ObjAt γ' w' o p ∧ ∀ b, p.block = some b → own b ∧ ∀ k, γ'.μ b k = none := fun j o h hok => by
    rcases objP j o h with ⟨q1, q2, q3⟩ | ⟨c, oc, q1, q2, q3⟩
    · obtain ⟨p, e1, e2, e3⟩ := H.obj j o q2 hok
      have nb : ∀ b, p.block = some b → ¬ own0 b := fun b hb => obs j o p b q2 hok q3 e1 hb
      exact ⟨p, by rw [ι_old j q1]; exact e1, e2.kept le fun b hb => keep b (e2.lt hb) (nb b hb), fun b hb => ⟨(e3 b hb).1, fun k => by rw [show γ'.μ b k = γ1.μ b k from rfl, mu1 b k (e2.lt hb) (nb b hb)]; exact (e3 b hb).2 k⟩⟩
    · obtain ⟨p, e1, e2, e3⟩ := H1.obj c oc q2 (q3.ok hok)
      exact ⟨p, by rw [re'.ι j c q1]; exact e1, e2.le re' hok q3, fun b hb => ⟨own0_own b (e3 b hb).1, (e3 b hb).2⟩⟩
  have tokN : ∀ q v e sz, Lvs live t.lv t.toks q → γ'.τ q = some (v, e, sz) → (∃ n xs, w'.ownsRow 0 e sz v n xs ∧ ∀ g, v.ownBlock = some g → own g ∧ (∀ k, n * sz ≤ k → γ'.μ g k = none) ∧ (∀ j o p, Ups hp t.ups j = some o → o.ok = true → γ'.ι j = some p → p.block ≠ some g) ∧ ((look2 ts' q).isSome ↔ own0 g)) := fun q v e sz hq hv => by
    rcases liveP q hq with ⟨c, q1, q2⟩ | ⟨q1, q2, q3⟩
    · rw [re'.τ q c q1] at hv
      obtain ⟨n, xs, o1, o2⟩ := H1.tok c v e sz q2 hv
      refine ⟨n, xs, o1, fun g hg => ?_⟩
      obtain ⟨p1, p2, p3⟩ := o2 g hg
      refine ⟨own0_own g p1, p2, fun j o p hj hok hp1 => ?_, ⟨fun _ => p1, fun _ => by rw [q1]; rfl⟩⟩
      rcases objP j o hj with ⟨r1, r2, r3⟩ | ⟨c', oc, r1, r2, r4⟩
      · rw [ι_old j r1] at hp1
        exact fun e => obs j o p g r2 hok r3 hp1 e p1
      · rw [re'.ι j c' r1] at hp1; exact p3 c' oc p r2 (r4.ok hok) hp1
    · rw [τ_old q q1] at hv
      obtain ⟨n, xs, o1, o2⟩ := H.tok q v e sz q2 hv
      have ng : ∀ g, v.ownBlock = some g → ¬ own0 g := fun g hg => toks q _ g q2 q3 hv hg
      refine ⟨n, xs, own_at o1 fun g hg => keep g (o1.lt g hg).2 (ng g hg), fun g hg => ?_⟩
      obtain ⟨p1, p2, p3⟩ := o2 g hg
      refine ⟨p1, fun k hk => by rw [show γ'.μ g k = γ1.μ g k from rfl, mu1 g k (o1.lt g hg).2 (ng g hg)]; exact p2 k hk, fun j o p hj hok hp1 => ?_, ⟨fun h => by (rw [q1] at h; cases h), fun h => absurd h (ng g hg)⟩⟩
      rcases objP j o hj with ⟨r1, r2, _⟩ | ⟨c', oc, r1, r2, r4⟩
      · rw [ι_old j r1] at hp1; exact p3 j o p r2 hok hp1
      · rw [re'.ι j c' r1] at hp1
        obtain ⟨p', g1, _, g4⟩ := H1.obj c' oc r2 (r4.ok hok)
        rw [hp1] at g1; injection g1 with g1; subst g1
        exact fun e => ng g hg (g4 g e).1
  refine ⟨v, γ', rfl, ⟨le, ⟨H1.fz, objN, fun i j oi oj p q hi hj ok1 ok2 hne hpi hpj => ?_, fun q v e sz hq hv => ?_, fun s q v u hs hq hne hv hu => ?_⟩, ?_, RepA.le re' hr R1, fun j hj => ⟨?_, ?_⟩, fun b o hb hn => mu1 b o hb fun h => hn (own0_own b h)⟩⟩
  · have key : ∀ b, p.block = some b → q.block = some b → False := fun b hb hb' => by
      rcases objP i oi hi with ⟨q1, q2, q3⟩ | ⟨c, oc, q1, q2, q4⟩ <;> rcases objP j oj hj with ⟨r1, r2, r3⟩ | ⟨c', oc', r1, r2, r4⟩
      · rw [ι_old i q1] at hpi
        rw [ι_old j r1] at hpj
        rcases H.inj i j oi oj p q q2 r2 ok1 ok2 hne hpi hpj with h | h
        · rw [hb] at h; cases h
        · exact h (by rw [hb, hb'])
      · rw [ι_old i q1] at hpi
        rw [re'.ι j c' r1] at hpj
        obtain ⟨p', g1, _, g4⟩ := H1.obj c' oc' r2 (r4.ok ok2)
        rw [hpj] at g1; injection g1 with g1; subst g1
        exact obs i oi p b q2 ok1 q3 hpi hb (g4 b hb').1
      · rw [re'.ι i c q1] at hpi
        rw [ι_old j r1] at hpj
        obtain ⟨p', g1, _, g4⟩ := H1.obj c oc q2 (q4.ok ok1)
        rw [hpi] at g1; injection g1 with g1; subst g1
        exact obs j oj q b r2 ok2 r3 hpj hb' (g4 b hb).1
      · rw [re'.ι i c q1] at hpi
        rw [re'.ι j c' r1] at hpj
        rcases H1.inj c c' oc oc' p q q2 r2 (q4.ok ok1) (r4.ok ok2) (fun e => hne (look2_inj b2 q1 (by rw [e]; exact r1))) hpi hpj with h | h
        · rw [hb] at h; cases h
        · exact h (by rw [hb, hb'])
    cases hb : p.block with
    | none => exact .inl rfl
    | some b => exact .inr fun e => key b hb e.symm
  · obtain ⟨n, xs, o1, o2⟩ := tokN q v e sz hq hv
    exact ⟨n, xs, o1, fun g hg => ⟨(o2 g hg).1, (o2 g hg).2.1, (o2 g hg).2.2.1⟩⟩
  · obtain ⟨n, xs, o1, o2⟩ := tokN s v.1 v.2.1 v.2.2 hs hv
    obtain ⟨n', xs', o1', o2'⟩ := tokN q u.1 u.2.1 u.2.2 hq hu
    cases hb : v.1.ownBlock with
    | none => exact .inl rfl
    | some g =>
      refine .inr fun e => ?_
      have k1 := (o2 g hb).2.2.2
      have k2 := (o2' g e.symm).2.2.2
      rcases liveP s hs with ⟨c, q1, q2⟩ | ⟨q1, q2, q3⟩ <;> rcases liveP q hq with ⟨c', r1, r2⟩ | ⟨r1, r2, r3⟩
      · rw [re'.τ s c q1] at hv
        rw [re'.τ q c' r1] at hu
        rcases H1.tinj c c' v u q2 r2 (fun e' => hne (look2_inj b4 q1 (by rw [e']; exact r1))) hv hu with h | h
        · rw [hb] at h; cases h
        · rw [hb] at h; exact h e
      · have := k2.2 (k1.1 (by rw [q1]; rfl)); rw [r1] at this; cases this
      · have := k1.2 (k2.1 (by rw [r1]; rfl)); rw [q1] at this; cases this
      · rw [τ_old s q1] at hv
        rw [τ_old q r1] at hu
        rcases H.tinj s q v u q2 r2 hne hv hu with h | h
        · rw [hb] at h; cases h
        · rw [hb] at h; exact h e
  · exact ⟨B1.os, B1.tape, B1.output, B1.size, fun k hk hn => B1.block k hk fun h => hn (own0_own k h)⟩
  · cases hl : look2 rs' j with
    | none => exact ι_old j hl
    | some c =>
      rcases rs'_ok j c hl with ⟨q0, q2, _⟩ | ⟨q1, q2⟩
      · omega
      · obtain ⟨n1', n2'⟩ := (show c < 16 ∧ True from ⟨a2 _ (look2_mem q2), trivial⟩)
        rw [re'.ι j c hl]
        cases hi : γ.ι j with
        | some b => exact pins c b n1' (by rw [re.ι c j q2]; exact hi)
        | none =>
          -- an object that is given has a block
          have hb := b11 _ (look2_mem q2)
          simp only at hb
          cases ho0 : lookO hp0 c with
          | none => rw [ho0] at hb; cases hb
          | some o0 =>
            rw [ho0] at hb
            obtain ⟨c2, oc, e1, e2, e3⟩ := obj0 c o0 ho0
            rw [q2] at e1
            injection e1 with e1
            subst e1
            obtain ⟨p, g1, _⟩ := H.obj j oc e2 (e3.ok hb)
            rw [hi] at g1; cases g1
  · cases hl : look2 ts' j with
    | none => exact τ_old j hl
    | some c => have := ts'_ok j c hl; omega

/-! ### The function -/
def argA : Nat → List AV → List (Nat × AV)
  | _, [] => []
  | i, d :: l => (i, d) :: argA (i + 1) l
theorem look_argA : ∀ (ds : List AV) (i t : Nat), look (argA i ds) t = if i ≤ t then (match ds[t - i]? with | some d => d | none => .any) else .any
  | [], i, t => by simp [argA, look]
  | d :: l, i, t => by
    simp only [argA, look]
    by_cases h : i = t
    · subst h; simp
    · rw [if_neg h, look_argA l (i + 1) t]
      by_cases h2 : i ≤ t
      · rw [if_pos (by omega), if_pos h2]
        have : t - i = (t - (i + 1)) + 1 := by omega
        rw [this, List.getElem?_cons_succ]
      · rw [if_neg (by omega), if_neg h2]
def oneV (us : List Value) : Value := if h : us.toArray.size = 1 then us.toArray[0] else .tuple us.toArray
/-- From these objects, rights and values on, all that t tells holds. -/
def RetH (hp : List (Nat × Ob)) (live : List Nat) (nx : Nat) (l : List AV) (t : OF) : Prop := ∀ (own : Nat → Prop) (γ : G) (w : World), Hp own (lookO hp) (· ∈ live) γ w → Fresh nx (lookO hp) (· ∈ live) γ →
    ∃ γ' : G, LeM γ.μ γ'.μ ∧ (∀ c k, ¬ own c → γ'.μ c k = γ.μ c k) ∧ (∀ i b, i < 16 → γ.ι i = some b → γ'.ι i = some b) ∧ Hp own (lookO t.hp) (· ∈ t.live) γ' w ∧ ∀ us : List Value, RepAL γ l us → RepA γ' t.r (oneV us)
/-- A state in which the function returns. -/
def RetO (P : Program) (rs : List ResultVar) (st : St) (t : OF) : Prop := ∃ l, resAL P st rs = some l ∧ RetH st.hp st.live st.nx l t
def oneA : List AV → AV
  | [x] => x
  | l => .tup l
theorem retH_of (rs ts : List (Nat × Nat)) (nx' : Nat) {l : List AV} {hp : List (Nat × Ob)} {live : List Nat} {nx : Nat} {t : OF} (hn : namesL rs ts t.hp live t.live nx' = true) (hpi : pinsOk rs nx' = true) (hv : AVle rs ts (oneA l) t.r)
    (ho : allP (fun p : Nat × Ob => ∃ b o, look2 rs p.1 = some b ∧ lookO hp b = some o ∧ Oble rs ts o p.2) t.hp) : RetH hp live nx l t := fun own γ w H F => by
  obtain ⟨h1, h2⟩ := hp_weak rs ts (keepLow γ) hn ho H (keepLow_none hpi)
  refine ⟨reG rs ts (keepLow γ) γ, LeM.refl _, fun _ _ _ => rfl, fun i b hi e => keepLow_pin hpi hi e, h1, fun us hus => ?_⟩
  refine RepA.le (reG_ok rs ts _ γ) hv ?_
  unfold oneV
  match l, us, hus with
  | [v], us, h2 =>
    simp only [RepAL] at h2
    obtain ⟨u, t, rfl, h5, rfl⟩ := h2
    simpa [oneA] using h5
  | [], us, h2 =>
    simp only [RepAL] at h2
    subst h2
    simp only [oneA, RepA]
    exact ⟨[], by simp, by simp only [RepAL]⟩
  | v :: v2 :: l, us, h2 =>
    have hlen := h2.length
    rw [dif_neg (by simp at hlen ⊢; omega)]
    simp only [oneA, RepA]
    exact ⟨us, rfl, h2⟩
theorem retO_of (rs ts : List (Nat × Nat)) (nx' : Nat) {l : List AV} {rv : List ResultVar} {st : St} {t : OF} (hl : resAL P st rv = some l) (hn : namesL rs ts t.hp st.live t.live nx' = true) (hp : pinsOk rs nx' = true) (hv : AVle rs ts (oneA l) t.r)
    (ho : allP (fun p : Nat × Ob => ∃ b o, look2 rs p.1 = some b ∧ lookO st.hp b = some o ∧ Oble rs ts o p.2) t.hp) : RetO P rv st t := ⟨l, hl, retH_of rs ts nx' hn hp hv ho⟩
/-- Rows that were appended to are not there any more. -/
theorem retH_gone (gs : List Nat) {hp : List (Nat × Ob)} {live : List Nat} {nx : Nat} {l : List AV} {r : AV} {hp1 : List (Nat × Ob)} {live1 : List Nat} (h : RetH hp live nx l ⟨r, hp1, live1⟩) : RetH hp live nx l ⟨r, (gs.map fun i => (i, .gone)) ++ hp1, live1⟩ := fun own γ w H F => by
  obtain ⟨γ', k1, k0, k2, k3, k4⟩ := h own γ w H F
  have key : ∀ (gs : List Nat) j o, lookO ((gs.map fun i => (i, Ob.gone)) ++ hp1) j = some o → o.ok = true → lookO hp1 j = some o := fun gs => by
    induction gs with
    | nil => intro j o h _; exact h
    | cons g gs ih =>
      intro j o h ho
      simp only [List.map_cons, List.cons_append, lookO] at h
      split at h
      · injection h with h; subst h; cases ho
      · exact ih j o h ho
  refine ⟨γ', k1, k0, k2, ⟨k3.fz, fun j o hj ho => k3.obj j o (key gs j o hj ho) ho, fun i j oi oj p q hi hj c1 c2 => k3.inj i j oi oj p q (key gs i oi hi c1) (key gs j oj hj c2) c1 c2, fun t v e sz hl hq => ?_, k3.tinj⟩, k4⟩
  obtain ⟨n, xs, q1, q2⟩ := k3.tok t v e sz hl hq
  exact ⟨n, xs, q1, fun g hg => ⟨(q2 g hg).1, (q2 g hg).2.1, fun j o p hj ho => (q2 g hg).2.2 j o p (key gs j o hj ho) ho⟩⟩
theorem retO_gone (gs : List Nat) {P : Program} {rs : List ResultVar} {st : St} {r : AV} {hp1 : List (Nat × Ob)} {live1 : List Nat} (h : RetO P rs st ⟨r, hp1, live1⟩) : RetO P rs st ⟨r, (gs.map fun i => (i, .gone)) ++ hp1, live1⟩ :=
  let ⟨l, h1, h2⟩ := h; ⟨l, h1, retH_gone gs h2⟩
/-- Own rows become data as the function returns. -/
theorem retO_frz (fz : List Row) (hp1 : List (Nat × Ob)) {l l1 : List AV} {rv : List ResultVar} {st : St} {t : OF} (hl : resAL P st rv = some l) (hn : decide ((rowsOf fz).Nodup) = true) (hk : (hp1.all fun p => !(rowsOf fz).contains p.1) = true)
    (hz : allP (fun q : Row => RowIs (lookO st.hp q.1) q.2.1 q.2.2.1 q.2.2.2) fz) (ho : allP (FzO fz st.hp) hp1) (hf : Fz fz l l1) (h : RetH hp1 st.live st.nx l1 t) : RetO P rv st t := ⟨l, hl, fun own γ w H F => by
  obtain ⟨γ', i1, t1, l1', k1, H1, rep, old⟩ := hp_frzO hn hk hz ho H
  obtain ⟨γ2, m1, m2, m3, m4, m5⟩ := h own γ' w H1 ⟨fun id hid => by
    obtain ⟨h1, h2, h3, h4⟩ := F.ok id hid
    refine ⟨by rw [i1]; exact h1, by rw [t1]; exact h2, ?_, h4⟩
    cases e : lookO hp1 id with
    | none => rfl
    | some o => obtain ⟨o', h⟩ := old id o e; rw [h] at h3; cases h3⟩
  exact ⟨γ2, fun b o v e => m1 b o v (l1' b o v e), fun c k hc => (m2 c k hc).trans (k1 c k hc), fun i b hi e => m3 i b hi (by rw [i1]; exact e), m4, fun us hus => m5 us (rep hf hus)⟩⟩
def finO (P : Program) (fn : Func) (t : OF) : Way := fun ex s => isR ex = true ∧ RetO P fn.results.toList s t
/-- A function that is given own objects. -/
abbrev JO (P : Program) (fn : Func) (A : List AV) (hp : List (Nat × Ob)) (live : List Nat) {R : Type} (en : R → OF) := JD P fn.ntmps (body fn) ⟨argA 0 A, hp, live, 16⟩ fun x => finO P fn (en x)
theorem obj_jd {R : Type} {f : Nat} {fn : Func} {A : List AV} {hp : List (Nat × Ob)} {live : List Nat} {en : R → OF} (d : JO P fn A hp live en) (hf : P.funcs[f]? = some fn) {x : R} (hx : d.m = some x) (hb : fn.body = some (body fn) := by kernel_rfl) (hn : fn.name ≠ "runtime.NumGoroutine" := by decide)
    (hlen : Nat.ble A.length fn.ntmps = true := by rfl) : ObjF P f A hp live (en x) := by
  have hlen := Nat.le_of_ble_eq_true hlen
  refine ⟨⟨fn, hf, by rw [hb]; rfl, hn⟩, fun own γ w vs H big F hrep => ?_⟩
  refine calls_of_wp hf hb ?_
  let V : Env := ⟨own, ⟨γ, []⟩, w⟩
  have hvl := hrep.length
  have rs : RS V fn.ntmps ⟨argA 0 A, hp, live, 16⟩ γ { tmps := vs.toArray ++ Array.replicate (fn.ntmps - vs.toArray.size) undef, defers := [] } w := by
    refine ⟨⟨rfl, by simp; omega, fun t => ?_, (fun t j want h => by cases h), H, Base.refl _ _, big, Keep.refl _ _ _ _⟩, F⟩
    show RepA γ (look (argA 0 A) t) _
    rw [look_argA, if_pos (Nat.zero_le _), Nat.sub_zero]
    cases hd : A[t]? with
    | none => simp only [RepA]
    | some d =>
      obtain ⟨v, h1, h2⟩ := hrep.get t d hd
      have hlt : t < vs.length := (List.getElem?_eq_some_iff.1 h1).1
      have : (vs.toArray ++ Array.replicate (fn.ntmps - vs.toArray.size) undef).getD t undef = v := by
        rw [Array.getD_eq_getD_getElem?, Array.getElem?_append_left (by simpa using hlt)]
        simp [h1]
      rw [this]
      exact h2
  refine wp_mono (d.j V x hx (fun ex s => isR ex = true ∧ RetO P fn.results.toList s (en x)) (fun ex s hs => hs) γ _ w rs) ?_
  rintro ex a' w' ⟨st', γ', h1, hex, l, hl, hk⟩
  obtain ⟨γ2, k1, k0, k2, k3, k4⟩ := hk own γ' w' h1.1.hp h1.2
  obtain ⟨us, u1, u2⟩ := run_resAL h1 hl
  have h3 : (fn.results.mapM (resRun a'.tmps)).run P w' = .ok us.toArray w' := by
    rw [Array.mapM_eq_mapM_toList, Sem.run_map, u1]
    rfl
  have h4 : (results fn a'.tmps).run P w' = .ok (if h : us.toArray.size = 1 then us.toArray[0] else .tuple us.toArray) w' := by
    have e : results fn a'.tmps = (do let vs ← fn.results.mapM (resRun a'.tmps); pure (if h : vs.size = 1 then vs[0] else .tuple vs)) := by
      unfold results
      congr 1
    rw [e, Sem.run_bind, h3]
    rfl
  have fin_ : bodyPost P fn (fun e w' => ∃ v γ', e = .returned v ∧ LeM γ.μ γ'.μ ∧ (∀ i b, i < 16 → γ.ι i = some b → γ'.ι i = some b) ∧ Hp own (lookO (en x).hp) (· ∈ (en x).live) γ' w' ∧ Base own w w' ∧ RepA γ' (en x).r v ∧ ∀ b o, b < w.heap.size → ¬ own b → γ'.μ b o = γ.μ b o) .ret a' w' := by
    refine ⟨h1.1.defers, _, h4, _, γ2, rfl, fun b o v e => k1 b o v (h1.1.mu.le b o v e), fun i b hi e => k2 i b hi (h1.1.mu.pin i b hi e), k3, h1.1.base, k4 us u2, fun b o hb hn => (k0 b o hn).trans (h1.1.mu.mu b o hb hn)⟩
  cases ex <;> first | exact fin_ | cases hex
/-! ### The same, where all is told as it was -/
theorem wk (rs ts : List (Nat × Nat)) {st st' : St} (hn : namesOk rs ts st st' = true := by refine id ?_; kernel_rfl) (hf : allP (fun p : Nat × AV => AVle rs ts (look st.fr p.1) p.2) st'.fr := by repeat' (first | exact dr | exact rfl | exact trivial | exact de_nil | refine ⟨_, _, rfl, rfl, ?_⟩ | refine ⟨?_, ?_⟩))
    (ho : allP (fun p : Nat × Ob => ∃ b o, look2 rs p.1 = some b ∧ lookO st.hp b = some o ∧ Oble rs ts o p.2) st'.hp := by repeat' (first | exact dr | exact rfl | exact trivial | exact de_nil | refine ⟨_, _, rfl, rfl, ?_⟩ | refine ⟨?_, ?_⟩)) : Weak st st' := weak_of rs ts hn hf ho
theorem wh (rs ts : List (Nat × Nat)) {st st' : St} (hf : allP (fun p : Nat × AV => AVle rs ts (look st.fr p.1) p.2) st'.fr) (hn : namesOk rs ts st st' = true := by refine id ?_; kernel_rfl)
    (ho : allP (fun p : Nat × Ob => ∃ b o, look2 rs p.1 = some b ∧ lookO st.hp b = some o ∧ Oble rs ts o p.2) st'.hp := by repeat' (first | exact dr | exact rfl | exact trivial | exact de_nil | refine ⟨_, _, rfl, rfl, ?_⟩ | refine ⟨?_, ?_⟩)) : Weak st st' := weak_of rs ts hn hf ho
theorem ws (rs ts : List (Nat × Nat)) {st st' : St} (ho : allP (fun p : Nat × Ob => ∃ b o, look2 rs p.1 = some b ∧ lookO st.hp b = some o ∧ Oble rs ts o p.2) st'.hp) (hn : namesOk rs ts st st' = true := by refine id ?_; kernel_rfl)
    (hf : allP (fun p : Nat × AV => AVle rs ts (look st.fr p.1) p.2) st'.fr := by repeat' (first | exact dr | exact rfl | exact trivial | exact de_nil | refine ⟨_, _, rfl, rfl, ?_⟩ | refine ⟨?_, ?_⟩)) : Weak st st' := weak_of rs ts hn hf ho
theorem ok (rs ts rs' ts' : List (Nat × Nat)) {f : FuncId} {A : List AV} {hp0 : List (Nat × Ob)} {live0 : List Nat} {t0 : OF} (h : ObjF P f A hp0 live0 t0) {xs : List AV} {hl : List (Nat × Option Ob)} {id : Nat} {t : OT}
    (n1 : namesL rs ts hp0 t.lv live0 16 = true := by refine id ?_; kernel_rfl) (hx : AVleL rs ts xs A := by repeat' (first | exact dr | exact rfl | exact trivial | exact de_nil | refine ⟨_, _, rfl, rfl, ?_⟩ | refine ⟨?_, ?_⟩)) (ho : allP (fun p : Nat × Ob => ∃ b o, look2 rs p.1 = some b ∧ lookL hl b = some o ∧ Oble rs ts o p.2) hp0 := by repeat' (first | exact dr | exact rfl | exact trivial | exact de_nil | refine ⟨_, _, rfl, rfl, ?_⟩ | refine ⟨?_, ?_⟩))
    (n2 : namesOut rs ts rs' ts' hp0 t0.live id t = true := by refine id ?_; kernel_rfl) (hr : AVle rs' ts' t0.r t.r := by repeat' (first | exact dr | exact rfl | exact trivial | exact de_nil | refine ⟨_, _, rfl, rfl, ?_⟩ | refine ⟨?_, ?_⟩))
    (ho' : allP (fun p : Nat × Ob => ∃ b o, look2 rs' p.1 = some b ∧ lookO t0.hp b = some o ∧ Oble rs' ts' o p.2) t.ups := by repeat' (first | exact dr | exact rfl | exact trivial | exact de_nil | refine ⟨_, _, rfl, rfl, ?_⟩ | refine ⟨?_, ?_⟩)) : ObjL P f xs hl id t := objL_of h rs ts rs' ts' n1 hx ho n2 hr ho'
theorem rk (rs ts : List (Nat × Nat)) (nx' : Nat) {l : List AV} {rv : List ResultVar} {st : St} {t : OF} (hl : resAL P st rv = some l := by rfl) (hn : namesL rs ts t.hp st.live t.live nx' = true := by refine id ?_; kernel_rfl) (hp : pinsOk rs nx' = true := by refine id ?_; kernel_rfl) (hv : AVle rs ts (oneA l) t.r := by repeat' (first | exact dr | exact rfl | exact trivial | exact de_nil | refine ⟨_, _, rfl, rfl, ?_⟩ | refine ⟨?_, ?_⟩))
    (ho : allP (fun p : Nat × Ob => ∃ b o, look2 rs p.1 = some b ∧ lookO st.hp b = some o ∧ Oble rs ts o p.2) t.hp := by repeat' (first | exact dr | exact rfl | exact trivial | exact de_nil | refine ⟨_, _, rfl, rfl, ?_⟩ | refine ⟨?_, ?_⟩)) : RetO P rv st t := retO_of rs ts nx' hl hn hp hv ho
end Go.Av
