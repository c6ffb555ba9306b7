/- A region whose order is the text's. -/
import Derived.Test.YtlpdcjbkbcmahaaGreatDoorAvVc
set_option linter.unusedVariables false
set_option linter.unusedSimpArgs false
namespace Go.Av
open Go.RowKit Go.Base
variable {P : Program} {γ γ' : G} {w w' w0 : World} {own : Nat → Prop} {hp : Nat → Option Ob} {live : Nat → Prop} {ops : List Oper} {N : Nat} {μ0 : G0}

theorem lookE_putL (fr : List (Nat × AV)) (o : Oper) (x : LE) (lf : List (Nat × LE)) (t : Nat) : lookE fr (putL o x lf) t = if o.dst = some t then x else lookE fr lf t := by
  unfold putL
  cases o.dst with
  | none => simp
  | some d => simp [lookE]
theorem lookO_cons (i : Nat) (o : Ob) (l : List (Nat × Ob)) (j : Nat) : lookO ((i, o) :: l) j = if j = i then some o else lookO l j := by
  simp only [lookO]
  by_cases h : i = j
  · rw [if_pos h, if_pos h.symm]
  · rw [if_neg h, if_neg (Ne.symm h)]
theorem lookO_app : ∀ (l l' : List (Nat × Ob)) (j : Nat), lookO (l ++ l') j = match lookO l j with | some o => some o | none => lookO l' j
  | [], _, _ => rfl
  | (i, v) :: l, l', j => by
    simp only [List.cons_append, lookO]
    split
    · rfl
    · exact lookO_app l l' j
theorem lookO_addH (id : Nat) (q : Q) (hp : List (Nat × Ob)) : lookO (addH id q hp) = effH id q (lookO hp) := by
  funext j
  unfold addH effH addF
  cases q.mo with
  | some t =>
    show lookO (t.ups ++ hp) j = _
    exact lookO_app t.ups hp j
  | none =>
  cases q.new with
  | none => cases q.upd with
    | none => rfl
    | some x => exact lookO_cons x.1 x.2 hp j
  | some y => cases q.upd with
    | none => exact lookO_cons id y hp j
    | some x =>
      show lookO ((x.1, x.2) :: (id, y) :: hp) j = if j = x.1 then some x.2 else if j = id then some y else lookO hp j
      rw [lookO_cons, lookO_cons]
theorem mem_addT (id : Nat) (q : Q) (live : List Nat) : (fun t => t ∈ addT id q live) = effL id q (fun t => t ∈ live) := by
  funext t
  unfold addT effL
  cases hm : q.mo with
  | some m =>
    simp only [List.mem_append, List.mem_filter, eq_iff_iff]
    constructor
    · rintro (h | ⟨h1, h2⟩)
      · exact .inr h
      · exact .inl ⟨h1, by simpa using h2⟩
    · rintro (⟨h1, h2⟩ | h)
      · exact .inr ⟨h1, by simpa using h2⟩
      · exact .inl h
  | none =>
  simp only
  have key : (t ∈ killT q live) = (t ∈ live ∧ q.kill ≠ some t) := by
    unfold killT
    cases q.kill with
    | none => simp
    | some k =>
      simp only [List.mem_filter, bne_iff_ne, ne_eq, Option.some.injEq, eq_iff_iff]
      exact ⟨fun ⟨a, b⟩ => ⟨a, fun h => b h.symm⟩, fun ⟨a, b⟩ => ⟨a, fun h => b h.symm⟩⟩
  cases q.tok with
  | true =>
    simp only [if_true, List.mem_cons, true_and, eq_iff_iff]
    rw [key]
    exact ⟨fun h => h.elim .inr .inl, fun h => h.elim .inr .inl⟩
  | false =>
    simp only [Bool.false_eq_true, if_false, false_and, or_false]
    exact key
theorem lives_of {hp : Nat → Option Ob} {id : Nat} {q : Q} {live : List Nat} {id' : Nat} (h : id' ∉ live) (hne : id' < id ∨ id + 16 ≤ id') (hmo : ∀ t, q.mo = some t → okT hp id t = true) : id' ∉ addT id q live := by
  intro hm
  have : (fun t => t ∈ addT id q live) id' := hm
  rw [mem_addT] at this
  have hne' : id' ≠ id := by omega
  unfold effL at this
  cases hq : q.mo with
  | some t =>
    simp only [hq] at this
    exact lvs_none (live := fun s => s ∈ live) (hmo t hq) h hne this
  | none =>
  simp only [hq] at this
  rcases this with ⟨h2, _⟩ | ⟨_, h2⟩
  · exact h h2
  · exact hne' h2

theorem tmps_bool {tmps : Array Value} {t : Nat} {b : Bool} (h : tmps.getD t undef = .bool b) : tmps[t]? = some (.bool b) := by
  rw [Array.getD_eq_getD_getElem?] at h
  cases hh : tmps[t]? with
  | none => rw [hh] at h; cases h
  | some z => rw [hh] at h; simpa using h
theorem tmps_undef {tmps : Array Value} {t : Nat} (h : tmps.getD t undef = undef) (b : Bool) : tmps[t]? ≠ some (.bool b) := fun e => by
  rw [Array.getD_eq_getD_getElem?, e] at h; cases h
theorem yielded_eq {tmps : Array Value} {j : Nat} {o : Oper} {t : Nat} (ho : ops[j]? = some o) (ht : o.dst = some t) : (∀ b, tmps[t]? = some (.bool b) → yielded ops.toArray tmps j = some b) ∧ ((∀ b, tmps[t]? ≠ some (.bool b)) → yielded ops.toArray tmps j = none) := by
  unfold yielded
  have e : ops.toArray[j]? = some o := by simpa using ho
  rw [e, Option.bind_some, ht, Option.bind_some]
  refine ⟨fun b hb => by rw [hb], fun hb => ?_⟩
  split
  · rename_i b h; exact absurd h (hb b)
  · rfl
theorem want_val (want b G : Bool) : (some b = some want → (if want then b else !b) = true) ∧ (some b ≠ some want → (if want then b else !b) = false) := by
  cases want <;> cases b <;> simp
theorem guard_spec {a : Act} {done : Nat → Prop} {E : Nat → LE} (R : RL own μ0 w0 N ops done E hp live γ a w) {g : Nat × Bool} {G : Bool} (h : guardOf ops E g = some G) :
    (yielded ops.toArray a.tmps g.1 = some g.2 → G = true) ∧ (yielded ops.toArray a.tmps g.1 ≠ some g.2 → G = false) := by
  unfold guardOf at h
  split at h
  · rename_i o ho
    split at h
    · rename_i t ht
      have hf := R.fr t
      have hy := yielded_eq (ops := ops) (tmps := a.tmps) ho ht
      unfold guardVal at h
      unfold EOk at hf
      split at h
      · rename_i b hE
        injection h with h
        rw [hE] at hf
        simp only [RepA, Rep] at hf
        rw [hy.1 _ (tmps_bool hf), ← h]
        exact want_val g.2 b true
      · rename_i gj G' b hE
        injection h with h
        rw [hE] at hf
        obtain ⟨j, wj⟩ := gj
        simp only [RepA, Rep] at hf
        rcases hf with ⟨_, hG, hv⟩ | ⟨_, hG, hv⟩
        · rw [hy.1 _ (tmps_bool hv), ← h, hG]
          exact want_val g.2 b true
        · rw [hy.2 (tmps_undef hv), ← h, hG]
          exact ⟨(fun e => by cases e), fun _ => rfl⟩
      · cases h
    · cases h
  · cases h

def setE (o : Oper) (x : LE) (E : Nat → LE) : Nat → LE := fun t => if o.dst = some t then x else E t
theorem put_getD {a : Act} {o : Oper} {v : Value} (hd : ∀ t, o.dst = some t → t < a.tmps.size) (t : Nat) : (a.put o.dst v).tmps.getD t undef = if o.dst = some t then v else a.tmps.getD t undef := by
  cases h : o.dst with
  | none => simp [Act.put]
  | some d => rw [getD_put (hd d h)]; simp
theorem EOk.mono {γ γ' : G} (le : LeG γ γ') {tmps : Array Value} {x : LE} {t : Nat} (h : EOk ops γ tmps x t) : EOk ops γ' tmps x t := by
  unfold EOk at *
  split
  · rename_i hg; rw [hg] at h; exact h.mono le
  · rename_i j want hg; rw [hg] at h; exact h.imp (fun ⟨a, b, c⟩ => ⟨a, b, c.mono le⟩) id
/-- The state behind an operation. -/
theorem RL.put {a : Act} {done : Nat → Prop} {E : Nat → LE} (R : RL own μ0 w0 N ops done E hp live γ a w) (hr : regOk ops N = true) {i : Nat} {o : Oper} (hi : ops[i]? = some o) (hd : ¬ done i) {x : LE} {u : Value} {hp' : Nat → Option Ob} {live' : Nat → Prop}
    (le : LeG γ γ') (hH : Hp own hp' live' γ' w') (hb : Base own w w') (hmu : ∀ b o, b < w.heap.size → ¬ own b → γ'.μ b o = γ.μ b o)
    (hx : match x.g with
      | none => RepA γ' x.v u
      | some (j, want) => done j ∧ ((yielded ops.toArray a.tmps j = some want ∧ x.G = true ∧ RepA γ' x.v u) ∨ (yielded ops.toArray a.tmps j ≠ some want ∧ x.G = false ∧ u = undef))) :
    RL own μ0 w0 N ops (fun k => done k ∨ k = i) (setE o x E) hp' live' γ' (a.put o.dst u) w' := by
  obtain ⟨hn, hN⟩ := regOk_spec hr
  have hdt : ∀ t, o.dst = some t → t < a.tmps.size := fun t h => by rw [R.size]; exact hN hi h
  have hy : ∀ j, done j → yielded ops.toArray (a.put o.dst u).tmps j = yielded ops.toArray a.tmps j := fun j hj => yielded_put fun oj hoj t ht e => hd (by
    have := nodup_at hn hoj hi ht e
    exact this ▸ hj)
  have hbig : ∀ b, w.heap.size ≤ b → own b := fun b hb' => R.big b (Nat.le_trans R.base.size hb')
  refine ⟨by cases h : o.dst <;> simp [Act.put, h, R.defers], by cases h : o.dst <;> simp [Act.put, h, R.size], fun t => ?_, fun t j want h => ?_, hH, R.base.trans hbig hb, R.big, R.mu.step le fun b o hb' hn => hmu b o (Nat.lt_of_lt_of_le hb' R.base.size) hn⟩
  · unfold setE
    by_cases ht : o.dst = some t
    · rw [if_pos ht]
      unfold EOk
      rw [put_getD hdt, if_pos ht]
      split
      · rename_i hg; rw [hg] at hx; exact hx
      · rename_i j want hg
        rw [hg] at hx
        rw [hy j hx.1]
        exact hx.2
    · rw [if_neg ht]
      have := (R.fr t).mono le
      unfold EOk at *
      rw [put_getD hdt, if_neg ht]
      split
      · rename_i hg; rw [hg] at this; exact this
      · rename_i j want hg
        rw [hg] at this
        rw [hy j (R.gd t j want hg)]
        exact this
  · unfold setE at h
    split at h
    · rw [h] at hx; exact .inl hx.1
    · exact .inl (R.gd t j want h)

structure Fresh (nx : Nat) (hp : Nat → Option Ob) (live : Nat → Prop) (γ : G) : Prop where
  ok : ∀ id, nx ≤ id → γ.ι id = none ∧ γ.τ id = none ∧ hp id = none ∧ ¬ live id
theorem obs_spec : ∀ {l : List Prop} {R : Prop}, obs l R → (∀ p ∈ l, p) ∧ R
  | [], _, h => ⟨(fun p hp => by cases hp), h⟩
  | p :: l, R, h => by
    obtain ⟨h1, h2⟩ := h
    obtain ⟨h3, h4⟩ := obs_spec h2
    exact ⟨(fun q hq => by rcases List.mem_cons.1 hq with rfl | hq; exact h1; exact h3 q hq), h4⟩
theorem obsG_spec {G : Bool} : ∀ {l : List Prop} {R : Prop}, obsG G l R → (G = true → ∀ p ∈ l, p) ∧ R
  | [], _, h => ⟨(fun _ p hp => by cases hp), h⟩
  | p :: l, R, h => by
    obtain ⟨h1, h2⟩ := h
    obtain ⟨h3, h4⟩ := obsG_spec h2
    exact ⟨(fun hG q hq => by rcases List.mem_cons.1 hq with rfl | hq; exact h1 hG; exact h3 hG q hq), h4⟩
theorem killOk_spec {q : Q} {live : List Nat} (h : killOk q live = true) : ∀ tk, q.kill = some tk → tk ∈ live := fun tk hk => by
  unfold killOk at h
  rw [Bool.and_eq_true, hk] at h
  simpa using h.2
theorem killOk_mo {q : Q} {live : List Nat} (h : killOk q live = true) : ∀ t, q.mo = some t → ∀ s ∈ t.lv, s ∈ live := fun t ht s hs => by
  unfold killOk at h
  rw [Bool.and_eq_true, ht] at h
  have := h.1
  simp only [List.all_eq_true, List.contains_eq_mem, decide_eq_true_eq] at this
  exact this s hs
theorem fresh_step {nx i : Nat} {s : LS} (o : Oper) (q : Q) (g : Option (Nat × Bool)) (G' : Bool) {v : AV} {u : Value} (hf : Fresh (nx + 16 * i) (lookO s.hp) (· ∈ s.live) γ)
    (hu : ∀ d ob, q.upd = some (d, ob) → ∃ o', lookO s.hp d = some o') (hmo : ∀ t, q.mo = some t → okT (lookO s.hp) (nx + 16 * i) t = true) (hs : Stp own (lookO s.hp) (· ∈ s.live) γ w (nx + 16 * i) (effH (nx + 16 * i) q (lookO s.hp)) (effL (nx + 16 * i) q (· ∈ s.live)) v u γ' w') :
    Fresh (nx + 16 * (i + 1)) (lookO (s.step o (nx + 16 * i) q g G').hp) (· ∈ (s.step o (nx + 16 * i) q g G').live) γ' := ⟨fun id hid => by
  obtain ⟨h1, h2, h3, h4⟩ := hf.ok id (by omega)
  have hne : id ≠ nx + 16 * i := by omega
  obtain ⟨h5, h6⟩ := hs.other id (by omega)
  refine ⟨by rw [h5, h1], by rw [h6, h2], ?_, lives_of h4 (by omega) hmo⟩
  show lookO (addH (nx + 16 * i) q s.hp) id = none
  rw [lookO_addH]
  unfold effH addF
  cases hq : q.mo with
  | some t => exact ups_none (hmo t hq) h3 (by omega)
  | none =>
  simp only
  split
  · rename_i d ob hupd
    obtain ⟨o', ho'⟩ := hu d ob hupd
    rw [if_neg (fun h => by rw [h, ho'] at h3; cases h3)]
    split
    · rw [if_neg hne]; exact h3
    · exact h3
  · split
    · rw [if_neg hne]; exact h3
    · exact h3⟩

theorem optQ_upd {α : Type} {x : Option α} {f : α → Q} {r : Nat × Ob} (h : (optQ x f).upd = some r) : ∃ a, x = some a ∧ (f a).upd = some r := by
  cases x with
  | none => cases h
  | some a => exact ⟨a, rfl, h⟩
theorem upd_there {P : Program} {cs : Cs} {o : Oper} {e : Operand → AV} {hp : Nat → Option Ob} {id d : Nat} {ob : Ob} (h : (qopC P cs o e hp id).upd = some (d, ob)) : ∃ o', hp d = some o' := by
  unfold qopC at h
  split at h
  · split at h
    · split at h <;> cases h
    · split at h
      · split at h <;> cases h
      · cases h
  · split at h
    · rw [(rowQ_mo0 P id e o.op).2] at h; cases h
    split at h
    · exact (vecQC_all P hp id e o.op).2.2.2 d ob h
    have h : (qop P o.op e hp id).upd = some (d, ob) := by
      split at h
      · rwa [Q.cold_upd] at h
      · exact h
    unfold qop at h
    split at h <;> try (cases h; done)
    · split at h <;> cases h
    · rename_i t a x
      unfold storeQ at h
      split at h
      · split at h
        · rename_i d' off cs' hcs
          split at h
          · simp only [Option.some.injEq, Prod.mk.injEq] at h
            exact ⟨_, by rw [← h.1]; exact hcs⟩
          · cases h
        · cases h
      · split at h
        · rename_i d' sz i off z n f y hcs _
          split at h
          · simp only [Option.some.injEq, Prod.mk.injEq] at h
            exact ⟨_, by rw [← h.1]; exact hcs⟩
          · cases h
        · cases h
      · split at h
        · rename_i d' sz i off e' z n f y hcs _
          split at h
          · simp only [Option.some.injEq, Prod.mk.injEq] at h
            exact ⟨_, by rw [← h.1]; exact hcs⟩
          · cases h
        · cases h
      · cases h
    · unfold mapUpdateQ at h
      obtain ⟨⟨k, e⟩, _, h⟩ := optQ_upd h
      dsimp only at h
      split at h
      · split at h
        · rename_i hm
          split at h
          · simp only [Option.some.injEq, Prod.mk.injEq] at h
            exact ⟨_, by rw [← h.1]; exact hm⟩
          · cases h
        · cases h
      · cases h
    · unfold copyQ at h
      split at h
      · obtain ⟨el, _, h⟩ := optQ_upd h
        obtain ⟨⟨z, m, g⟩, _, h⟩ := optQ_upd h
        dsimp only at h
        split at h
        · split at h
          · rename_i d' sz n s' k f hcs
            split at h
            · simp only [Option.some.injEq, Prod.mk.injEq] at h
              exact ⟨_, by rw [← h.1]; exact hcs⟩
            · cases h
          · cases h
        · cases h
      · cases h
    · unfold appendQ at h
      split at h
      · split at h
        · obtain ⟨el, _, h⟩ := optQ_upd h
          obtain ⟨⟨z, m, g⟩, _, h⟩ := optQ_upd h
          dsimp only at h
          split at h
          · split at h
            · split at h
              · unfold appQ at h
                split at h
                · split at h
                  · split at h <;> cases h
                  · cases h
                · cases h
              · cases h
            · unfold appQ at h
              split at h
              · split at h
                · split at h
                  · dsimp only at h
                    split at h <;> cases h
                  · cases h
                · cases h
              · cases h
          · cases h
        · cases h
      · cases h

theorem wpList_cons {QQ : Exit → Act → World → Prop} {o : Oper} {l : List Oper} {a : Act} (h1 : Region.wanted o (yielded ops.toArray a.tmps) = true → o.wp P a w (wpList P ops.toArray QQ l) QQ)
    (h2 : Region.wanted o (yielded ops.toArray a.tmps) = false → wpList P ops.toArray QQ l (a.put o.dst undef) w) : wpList P ops.toArray QQ (o :: l) a w := by
  unfold wpList
  split
  · rename_i h; exact .inl (h1 h)
  · rename_i h; exact h2 (by simpa using h)
theorem wanted_none {o : Oper} {y : Nat → Option Bool} (h : o.guard = none) : Region.wanted o y = true := by simp [Region.wanted, h]
theorem wanted_some {o : Oper} {y : Nat → Option Bool} {g : Nat × Bool} (h : o.guard = some g) : (Region.wanted o y = true ↔ y g.1 = some g.2) := by simp [Region.wanted, h]
theorem ops_seq (hr : regOk ops N = true) {cs : Cs} {fr : List (Nat × AV)} {nx : Nat} {K : LS → Prop} {QQ : Exit → Act → World → Prop}
    (hQ : ∀ (s : LS) (γ : G) (a : Act) (w : World), K s → RL own μ0 w0 N ops (· < ops.length) (lookE fr s.lf) (lookO s.hp) (· ∈ s.live) γ a w → Fresh (nx + 16 * ops.length) (lookO s.hp) (· ∈ s.live) γ → QQ .normal a w) :
    ∀ (l : List Oper) (i : Nat) (s : LS) (γ : G) (a : Act) (w : World), i + l.length = ops.length → (∀ k, l[k]? = ops[i + k]?) → RL own μ0 w0 N ops (· < i) (lookE fr s.lf) (lookO s.hp) (· ∈ s.live) γ a w →
      Fresh (nx + 16 * i) (lookO s.hp) (· ∈ s.live) γ → vcOps P cs ops fr nx i l s K → wpList P ops.toArray QQ l a w
  | [], i, s, γ, a, w, hl, _, R, F, h => by
    simp only [List.length_nil, Nat.add_zero] at hl
    subst hl
    exact hQ s γ a w h R F
  | o :: l, i, s, γ, a, w, hl, hops, R, F, h => by
    have hi : ops[i]? = some o := by have := hops 0; simpa using this.symm
    have hnd : ¬ (i < i) := Nat.lt_irrefl i
    have hops' : ∀ k, l[k]? = ops[i + 1 + k]? := fun k => by have := hops (k + 1); rw [show i + 1 + k = i + (k + 1) by omega]; simpa using this
    have hl' : i + 1 + l.length = ops.length := by simp at hl; omega
    have hdone : (fun k => k < i ∨ k = i) = (fun k => k < i + 1) := by funext k; simp only [eq_iff_iff]; omega
    obtain ⟨f1, f2, f3, f4⟩ := F.ok (nx + 16 * i) (Nat.le_refl _)
    unfold vcOps at h
    -- it does not run
    have skip : ∀ (x : LE) (s' : LS), s'.lf = putL o x s.lf → s'.hp = s.hp → s'.live = s.live → (match x.g with
        | none => x.v = .any
        | some (j, want) => j < i ∧ yielded ops.toArray a.tmps j ≠ some want ∧ x.G = false) → vcOps P cs ops fr nx (i + 1) l s' K → wpList P ops.toArray QQ l (a.put o.dst undef) w := fun x s' h1 h2 h3 hx hrest => by
      have R' := R.put (i := i) (x := x) (u := undef) hr hi hnd (LeG.refl γ) R.hp (Base.refl own w) (fun _ _ _ _ => rfl) (by
        cases hg : x.g with
        | none => rw [hg] at hx; simp only at hx; rw [hx]; simp only [RepA]
        | some jw => obtain ⟨j, want⟩ := jw; rw [hg] at hx; exact ⟨hx.1, .inr ⟨hx.2.1, hx.2.2, rfl⟩⟩)
      rw [hdone] at R'
      refine ops_seq hr hQ l (i + 1) s' γ _ w hl' hops' ?_ ?_ hrest
      · have e1 : lookE fr s'.lf = setE o x (lookE fr s.lf) := by
          funext t; rw [h1]; exact lookE_putL fr o _ s.lf t
        rw [e1, h2, h3]
        exact R'
      · rw [h2, h3]
        exact ⟨fun id hid => F.ok id (by omega)⟩
    split at h
    · cases hg : o.guard with
      | none => rw [hg] at h; exact h.elim
      | some g =>
        rw [hg] at h
        simp only at h
        split at h
        · rename_i hgi
          split at h
          · exact h.elim
          · rename_i G' hG
            obtain ⟨gs1, gs2⟩ := guard_spec R hG
            refine wpList_cons (fun hw => (h.1 (gs1 ((wanted_some hg).1 hw))).elim) (fun hn => ?_)
            have hy : yielded ops.toArray a.tmps g.1 ≠ some g.2 := fun e => by
              rw [(wanted_some hg).2 e] at hn; cases hn
            exact skip ⟨none, true, .any⟩ (s.skip o) rfl rfl rfl rfl (h.2 (gs2 hy))
        · exact h.elim
    split at h
    · exact h.elim
    rename_i hrd
    split at h
    · exact h.elim
    rename_i hok
    split at h
    · exact h.elim
    rename_i hkl
    generalize hq : qopC P cs o (evE (lookE fr s.lf)) (lookO s.hp) (nx + 16 * i) = q at *
    have hrd' : readOk ops (lookE fr s.lf) o = true := by simpa using hrd
    have hok' : q.ok = true := by simpa using hok
    have hkl' : ∀ tk, q.kill = some tk → tk ∈ s.live := killOk_spec (by simpa using hkl)
    -- it runs, and the rest follows
    have run : ∀ (g : Option (Nat × Bool)) (G' : Bool), (∀ p ∈ q.ob, p) → (∀ g', o.guard = some g' → yielded ops.toArray a.tmps g'.1 = some g'.2) → (∀ j want, g = some (j, want) → j < i ∧ yielded ops.toArray a.tmps j = some want ∧ G' = true) →
        vcOps P cs ops fr nx (i + 1) l (s.step o (nx + 16 * i) q g G') K → o.wp P a w (wpList P ops.toArray QQ l) QQ := fun g G' hob hw hg hrest => by
      refine step_op R hrd' (cs := cs) (id := nx + 16 * i) (by rw [hq]; exact hok') (by rw [hq]; exact hob) (by rw [hq]; exact hkl') (by rw [hq]; exact killOk_mo (by simpa using hkl)) (fun j hj _ => F.ok j hj) hw ?_
      rw [hq]
      intro u w' γ' hs
      have R' := R.put (i := i) (x := ⟨g, G', q.v⟩) hr hi hnd hs.le hs.hp hs.base hs.mu (by
        cases g with
        | none => exact hs.rep
        | some jw => obtain ⟨j, want⟩ := jw; obtain ⟨g1, g2, g3⟩ := hg j want rfl; exact ⟨g1, .inl ⟨g2, g3, hs.rep⟩⟩)
      rw [hdone] at R'
      have F' := fresh_step o q g G' F (fun d ob hd => upd_there (by rw [hq]; exact hd)) (fun t ht => qopC_mo (by rw [hq]; exact hok') (by rw [hq]; exact ht)) hs
      refine ops_seq hr hQ l (i + 1) _ γ' _ w' hl' hops' ?_ F' hrest
      have e1 : lookE fr (s.step o (nx + 16 * i) q g G').lf = setE o ⟨g, G', q.v⟩ (lookE fr s.lf) := by
        funext t; exact lookE_putL fr o _ s.lf t
      have e2 : lookO (s.step o (nx + 16 * i) q g G').hp = effH (nx + 16 * i) q (lookO s.hp) := lookO_addH _ _ _
      have e3 : (fun t => t ∈ (s.step o (nx + 16 * i) q g G').live) = effL (nx + 16 * i) q (fun t => t ∈ s.live) := mem_addT _ _ _
      rw [e1, e2, e3]
      exact R'
    cases hg : o.guard with
    | none =>
      rw [hg] at h
      simp only at h
      obtain ⟨hob, hrest⟩ := obs_spec h
      refine wpList_cons (fun _ => run none true hob (fun g' hg' => by rw [hg] at hg'; cases hg') (fun j want hj => by cases hj) hrest) (fun hn => ?_)
      rw [wanted_none hg] at hn; cases hn
    | some g =>
      rw [hg] at h
      simp only at h
      split at h
      · rename_i hgi
        split at h
        · exact h.elim
        · rename_i G' hG
          obtain ⟨gs1, gs2⟩ := guard_spec R hG
          split at h
          · obtain ⟨hob, hrest⟩ := obsG_spec h
            refine wpList_cons (fun hw => ?_) (fun hn => ?_)
            · have hy := (wanted_some hg).1 hw
              have hGt := gs1 hy
              refine run (some g) G' (hob hGt) (fun g' hg' => by rw [hg] at hg'; injection hg' with hg'; rw [← hg']; exact hy) (fun j want hj => ?_) hrest
              injection hj with hj
              rw [hj] at hgi hy
              exact ⟨hgi, hy, hGt⟩
            · have hy : yielded ops.toArray a.tmps g.1 ≠ some g.2 := fun e => by
                rw [(wanted_some hg).2 e] at hn; cases hn
              rename_i hplain
              unfold Q.plain at hplain
              simp only [Bool.and_eq_true, Option.isNone_iff_eq_none, Bool.not_eq_true'] at hplain
              obtain ⟨⟨⟨⟨p1, p2⟩, p3⟩, p4⟩, p5⟩ := hplain
              refine skip ⟨some g, G', q.v⟩ _ rfl ?_ ?_ ⟨hgi, hy, gs2 hy⟩ hrest
              · show addH _ q s.hp = s.hp
                simp only [addH, p1, p3, p5]
              · show addT _ q s.live = s.live
                simp only [addT, killT, p2, p4, p5, Bool.false_eq_true, if_false]
          · obtain ⟨ht, hf⟩ := h
            refine wpList_cons (fun hw => ?_) (fun hn => ?_)
            · have hy := (wanted_some hg).1 hw
              obtain ⟨hob, hrest⟩ := obs_spec (ht (gs1 hy))
              exact run none true hob (fun g' hg' => by rw [hg] at hg'; injection hg' with hg'; rw [← hg']; exact hy) (fun j want hj => by cases hj) hrest
            · have hy : yielded ops.toArray a.tmps g.1 ≠ some g.2 := fun e => by
                rw [(wanted_some hg).2 e] at hn; cases hn
              exact skip ⟨none, true, .any⟩ (s.skip o) rfl rfl rfl rfl (hf (gs2 hy))
      · exact h.elim
end Go.Av
