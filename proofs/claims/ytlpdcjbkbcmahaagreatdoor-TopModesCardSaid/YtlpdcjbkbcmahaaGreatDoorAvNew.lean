/- Operations that make memory of their own. -/
import Derived.Test.YtlpdcjbkbcmahaaGreatDoorAvOps
import Derived.Great.BuildSlice
import Derived.Laws.MakeOwn
set_option linter.unusedVariables false
set_option linter.unusedSimpArgs false
namespace Go.Av
open Go.RowKit Go.Base
variable {P : Program} {γ γ' : G} {w w' : World} {own : Nat → Prop} {hp : Nat → Option Ob} {live : Nat → Prop} {ρ : Operand → Value}

def addF (id : Nat) (new : Option Ob) (hp : Nat → Option Ob) : Nat → Option Ob := fun j => match new with
  | some o => if j = id then some o else hp j
  | none => hp j
def addL (id : Nat) (tok : Bool) (live : Nat → Prop) : Nat → Prop := fun t => live t ∨ (tok = true ∧ t = id)

theorem fz_lt {μ : Nat → Nat → Option Value} (h : FzM μ w) {b o : Nat} {v : Value} (e : μ b o = some v) : b < w.heap.size := cell_lt (a := ⟨b, o, none⟩) (h b o v e)
theorem grownBy_ext (h : Ext w w') : w.grownBy w' none := ⟨h.os, h.tape, h.output, h.size, fun k hk _ => h.block k hk⟩
theorem le_of (H : FzM γ.μ w) {id : Nat} (hμ : ∀ b o, b < w.heap.size → γ'.μ b o = γ.μ b o) (h1 : γ.ι id = none) (h2 : γ.τ id = none) (hι : ∀ j, j ≠ id → γ'.ι j = γ.ι j) (hτ : ∀ j, j ≠ id → γ'.τ j = γ.τ j) : LeG γ γ' :=
  ⟨fun b o v e => by rw [hμ b o (fz_lt H e)]; exact e,
   fun i b e => by rw [hι i (fun h => by rw [h, h1] at e; cases e)]; exact e,
   fun i b e => by rw [hτ i (fun h => by rw [h, h2] at e; cases e)]; exact e⟩
theorem Hp.grow (H : Hp own hp live γ w) (hx : Ext w w') {id : Nat} (hμ : ∀ b o, b < w.heap.size → γ'.μ b o = γ.μ b o) (hfz : FzM γ'.μ w') (h1 : γ.ι id = none) (h2 : γ.τ id = none)
    (hι : ∀ j, j ≠ id → γ'.ι j = γ.ι j) (hτ : ∀ j, j ≠ id → γ'.τ j = γ.τ j) (hid : hp id = none) (hlv : ¬ live id) (new : Option Ob) (tok : Bool)
    (hn : ∀ o, new = some o → ∃ p, γ'.ι id = some p ∧ ObjAt γ' w' o p ∧ ∀ b, p.block = some b → w.heap.size ≤ b ∧ own b ∧ ∀ k, γ'.μ b k = none)
    (ht : tok = true → ∀ v e sz, γ'.τ id = some (v, e, sz) → ∃ n xs, w'.ownsRow 0 e sz v n xs ∧ ∀ g, v.ownBlock = some g → w.heap.size ≤ g ∧ own g ∧ (∀ k, n * sz ≤ k → γ'.μ g k = none) ∧ ∀ p, new ≠ none → γ'.ι id = some p → p.block ≠ some g) :
    Hp own (addF id new hp) (addL id tok live) γ' w' := by
  have le := le_of H.fz hμ h1 h2 hι hτ
  have old : ∀ j o, hp j = some o → j ≠ id := fun j o h e => by rw [e, hid] at h; cases h
  have oldL : ∀ j, live j → j ≠ id := fun j h e => hlv (e ▸ h)
  have cases_ : ∀ j o, addF id new hp j = some o → (j = id ∧ new = some o) ∨ (j ≠ id ∧ hp j = some o) := by
    intro j o h
    unfold addF at h
    cases new with
    | none => exact .inr ⟨old j o h, h⟩
    | some x =>
      simp only at h
      split at h
      · rename_i e; exact .inl ⟨e, h⟩
      · rename_i e; exact .inr ⟨e, h⟩
  have blk : ∀ b x, w.heap[b]? = some x → b < w.heap.size := fun b x h => (Array.getElem?_eq_some_iff.1 h).1
  have tokold : ∀ t v e sz, live t → γ'.τ t = some (v, e, sz) → ∃ n xs, w.ownsRow 0 e sz v n xs ∧ ∀ g, v.ownBlock = some g → own g ∧ (∀ k, n * sz ≤ k → γ.μ g k = none) ∧ ∀ id o p, hp id = some o → o.ok = true → γ.ι id = some p → p.block ≠ some g := fun t v e sz hl hq => by
    rw [hτ t (oldL t hl)] at hq
    exact H.tok t v e sz hl hq
  have oldlt : ∀ j o p b, hp j = some o → o.ok = true → γ.ι j = some p → p.block = some b → b < w.heap.size := fun j o p b h ho hp hb => by
    obtain ⟨p', e1, e2, _⟩ := H.obj j o h ho
    rw [hp] at e1; injection e1 with e1; subst e1
    exact e2.lt hb
  have newge : ∀ o p b, new = some o → γ'.ι id = some p → p.block = some b → w.heap.size ≤ b := fun o p b h hp hb => by
    obtain ⟨p', e1, e2, e3⟩ := hn o h
    rw [hp] at e1; injection e1 with e1; subst e1
    exact (e3 b hb).1
  refine ⟨hfz, fun j o h ho => ?_, fun i j oi oj p q hi hj hoi hoj hne hp hq => ?_, fun t v e sz hl hq => ?_, fun s t v u hs ht2 hne hv hu => ?_⟩
  · rcases cases_ j o h with ⟨rfl, h9⟩ | ⟨hj, h9⟩
    · obtain ⟨p, e1, e2, e3⟩ := hn o h9
      exact ⟨p, e1, e2, fun b hb => (e3 b hb).2⟩
    · obtain ⟨p, e1, e2, e3⟩ := H.obj j o h9 ho
      exact ⟨p, by rw [hι j hj]; exact e1, e2.kept le fun b hb => hx.block b (e2.lt hb), fun b hb => ⟨(e3 b hb).1, fun k => by rw [hμ b k (e2.lt hb)]; exact (e3 b hb).2 k⟩⟩
  · have key : ∀ b, p.block = some b → q.block = some b → False := fun b hb hb' => by
      rcases cases_ i oi hi with ⟨rfl, h⟩ | ⟨h3, h⟩
      · rcases cases_ j oj hj with ⟨rfl, _⟩ | ⟨h4, h'⟩
        · exact hne rfl
        · rw [hι j h4] at hq
          have := newge oi p b h hp hb
          have := oldlt j oj q b h' hoj hq hb'
          omega
      · rw [hι i h3] at hp
        rcases cases_ j oj hj with ⟨rfl, h'⟩ | ⟨h4, h'⟩
        · have := newge oj q b h' hq hb'
          have := oldlt i oi p b h hoi hp hb
          omega
        · rw [hι j h4] at hq
          rcases H.inj i j oi oj p q h h' hoi hoj hne hp hq with h | h
          · rw [hb] at h; cases h
          · rw [hb, hb'] at h; exact h rfl
    cases hb : p.block with
    | none => exact .inl rfl
    | some b => exact .inr fun e => key b hb e.symm
  · rcases hl with hl | ⟨h3, rfl⟩
    · obtain ⟨n, xs, o1, o2⟩ := tokold t v e sz hl hq
      refine ⟨n, xs, o1.kept (grownBy_ext hx) (by cases v.ownBlock <;> simp), fun g hg => ?_⟩
      obtain ⟨p1, p2, p3⟩ := o2 g hg
      have hlt : g < w.heap.size := (o1.lt g hg).2
      refine ⟨p1, fun k hk => by rw [hμ g k hlt]; exact p2 k hk, fun j o p hj ho hp hb => ?_⟩
      rcases cases_ j o hj with ⟨rfl, h⟩ | ⟨h4, h⟩
      · have := newge o p g h hp hb
        omega
      · rw [hι j h4] at hp; exact p3 j o p h ho hp hb
    · obtain ⟨n, xs, o1, o2⟩ := ht h3 v e sz hq
      refine ⟨n, xs, o1, fun g hg => ?_⟩
      obtain ⟨p0, p1, p2, p3⟩ := o2 g hg
      refine ⟨p1, p2, fun j o p hj ho hp hb => ?_⟩
      rcases cases_ j o hj with ⟨rfl, h⟩ | ⟨h4, h⟩
      · exact p3 p (by rw [h]; simp) hp hb
      · rw [hι j h4] at hp
        have := oldlt j o p g h ho hp hb
        omega
  · rcases hs with hs | ⟨h3, rfl⟩
    · rcases ht2 with ht2 | ⟨h4, rfl⟩
      · exact H.tinj s t v u hs ht2 hne (by rw [← hτ s (oldL s hs)]; exact hv) (by rw [← hτ t (oldL t ht2)]; exact hu)
      · obtain ⟨n, xs, o1, o2⟩ := tokold s v.1 v.2.1 v.2.2 hs hv
        obtain ⟨n', xs', o1', o2'⟩ := ht h4 u.1 u.2.1 u.2.2 hu
        cases hb : v.1.ownBlock with
        | none => exact .inl rfl
        | some g =>
          refine .inr fun e => ?_
          have := (o1.lt g hb).2
          have := (o2' g e.symm).1
          omega
    · rcases ht2 with ht2 | ⟨h4, rfl⟩
      · obtain ⟨n, xs, o1, o2⟩ := tokold t u.1 u.2.1 u.2.2 ht2 hu
        obtain ⟨n', xs', o1', o2'⟩ := ht h3 v.1 v.2.1 v.2.2 hv
        cases hb : v.1.ownBlock with
        | none => exact .inl rfl
        | some g =>
          refine .inr fun e => ?_
          have := (o1.lt g (by rw [← e])).2
          have := (o2' g hb).1
          omega
      · exact absurd rfl hne

/-- What an operation leaves. -/
structure Stp (own : Nat → Prop) (hp : Nat → Option Ob) (live : Nat → Prop) (γ : G) (w : World) (id : Nat) (hp' : Nat → Option Ob) (live' : Nat → Prop) (v : AV) (u : Value) (γ' : G) (w' : World) : Prop where
  le : LeG γ γ'
  hp : Hp own hp' live' γ' w'
  base : Base own w w'
  rep : RepA γ' v u
  other : ∀ j, (j < id ∨ id + 16 ≤ j) → γ'.ι j = γ.ι j ∧ γ'.τ j = γ.τ j
  mu : ∀ b o, b < w.heap.size → ¬ own b → γ'.μ b o = γ.μ b o

theorem Base.refl (own : Nat → Prop) (w : World) : Base own w w := ⟨rfl, rfl, rfl, Nat.le_refl _, fun _ _ _ => rfl⟩
theorem Base.trans {a b c : World} (hown : ∀ k, b.heap.size ≤ k → own k) (h : Base own a b) (k : Base own b c) : Base own a c :=
  ⟨k.os.trans h.os, k.tape.trans h.tape, k.output.trans h.output, Nat.le_trans h.size k.size, fun i hi hn => (k.block i (Nat.lt_of_lt_of_le hi h.size) hn).trans (h.block i hi hn)⟩
theorem Base.of_ext (h : Ext w w') : Base own w w' := ⟨h.os, h.tape, h.output, h.size, fun k hk _ => h.block k hk⟩
theorem addF_none (id : Nat) : addF id none hp = hp := rfl
theorem addL_false (id : Nat) : addL id false live = live := by
  funext t; simp [addL]
theorem Stp.stay (H : Hp own hp live γ w) (id : Nat) {v : AV} {u : Value} (hr : RepA γ v u) : Stp own hp live γ w id (addF id none hp) (addL id false live) v u γ w :=
  ⟨LeG.refl _, by rw [addF_none, addL_false]; exact H, Base.refl _ _, hr, fun _ _ => ⟨rfl, rfl⟩, fun _ _ _ _ => rfl⟩

theorem fz_alloc (h : FzM γ.μ w) (o : Go.Obj) : FzM γ.μ (w.alloc o) := fun b k v e => by
  have := fz_lt h e
  rw [World.cell?_of_block (w := w) (by exact Below.heap_alloc w o b this)]
  exact h b k v e
/-- A new object. -/
theorem stp_new (H : Hp own hp live γ w) {id : Nat} (h1 : γ.ι id = none) (h2 : γ.τ id = none) (hid : hp id = none) (hlv : ¬ live id) (hown : ∀ b, w.heap.size ≤ b → own b) (o : Ob) (x : Go.Obj)
    (hr : ∀ γ', LeG γ γ' → RepO γ' o x) (v : AV) (u : Value) (hv : ∀ γ' : G, γ'.ι id = some (.blk w.heap.size) → RepA γ' v u) :
    ∃ γ', Stp own hp live γ w id (addF id (some o) hp) (addL id false live) v u γ' (w.alloc x) := by
  let γ' : G := ⟨γ.μ, fun j => if j = id then some (.blk w.heap.size) else γ.ι j, γ.τ⟩
  have hι : ∀ j, j ≠ id → γ'.ι j = γ.ι j := fun j hj => if_neg hj
  have hi : γ'.ι id = some (.blk w.heap.size) := if_pos rfl
  have hx : Ext w (w.alloc x) := (Below.refl _ w).alloc (Nat.le_refl _) x
  have le : LeG γ γ' := le_of H.fz (fun _ _ _ => rfl) h1 h2 hι (fun _ _ => rfl)
  refine ⟨γ', le, ?_, Base.of_ext hx, hv γ' hi, fun j hj => ⟨hι j (by omega), rfl⟩, fun _ _ _ _ => rfl⟩
  refine H.grow (γ' := γ') hx (fun _ _ _ => rfl) (fz_alloc H.fz x) h1 h2 hι (fun _ _ => rfl) hid hlv _ _ (fun o' ho => ?_) (fun h => by cases h)
  injection ho with ho
  subst ho
  refine ⟨.blk w.heap.size, hi, ⟨x, heap_alloc_new w x, hr γ' le⟩, fun b hb => ?_⟩
  simp only [Pl.block, Option.some.injEq] at hb
  subst hb
  refine ⟨Nat.le_refl _, hown _ (Nat.le_refl _), fun k => ?_⟩
  cases hm : γ.μ w.heap.size k with
  | none => rfl
  | some v => exact absurd (fz_lt H.fz hm) (by omega)
/-- New cells that stay as they are, and may be appended to. -/
theorem stp_frozen (H : Hp own hp live γ w) {id : Nat} (h1 : γ.ι id = none) (h2 : γ.τ id = none) (hid : hp id = none) (hlv : ¬ live id) (hown : ∀ b, w.heap.size ≤ b → own b) {w' : World} (hx : Ext w w') (u : Value) (e : TypeId) (sz n : Nat) (xs : List Value)
    (hown2 : w'.ownsRow 0 e sz u n xs) (hg : ∀ g, u.ownBlock = some g → w.heap.size ≤ g) (v : AV)
    (hv : ∀ γ' : G, LeG γ γ' → γ'.τ id = some (u, e, sz) → (∀ g j, u.ownBlock = some g → j < n * sz → γ'.μ g j = w'.cell? ⟨g, j, none⟩) → RepA γ' v u) :
    ∃ γ', Stp own hp live γ w id (addF id none hp) (addL id true live) v u γ' w' := by
  let γ' : G := ⟨fun b o => if u.ownBlock = some b ∧ o < n * sz then w'.cell? ⟨b, o, none⟩ else γ.μ b o, γ.ι, fun j => if j = id then some (u, e, sz) else γ.τ j⟩
  have hτ : ∀ j, j ≠ id → γ'.τ j = γ.τ j := fun j hj => if_neg hj
  have hi : γ'.τ id = some (u, e, sz) := if_pos rfl
  have hμ : ∀ b o, b < w.heap.size → γ'.μ b o = γ.μ b o := fun b o hb => if_neg (fun h => by have := hg b h.1; omega)
  have le : LeG γ γ' := le_of H.fz hμ h1 h2 (fun _ _ => rfl) hτ
  refine ⟨γ', le, ?_, Base.of_ext hx, hv γ' le hi (fun g j h3 h4 => if_pos ⟨h3, h4⟩), fun j hj => ⟨rfl, hτ j (by omega)⟩, fun b o hb _ => hμ b o hb⟩
  refine H.grow (γ' := γ') hx hμ (fun b o v he => ?_) h1 h2 (fun _ _ => rfl) hτ hid hlv _ _ (fun o ho => by cases ho) (fun _ v' e' sz' hq => ?_)
  · by_cases hb : u.ownBlock = some b ∧ o < n * sz
    · simp only [γ', hb, and_self, if_true] at he; exact he
    · have he2 : γ.μ b o = some v := by simpa only [γ', if_neg hb] using he
      rw [World.cell?_of_block (w := w) (by exact hx.block b (fz_lt H.fz he2))]
      exact H.fz b o v he2
  · rw [hi] at hq
    injection hq with hq
    obtain ⟨rfl, hq2⟩ := Prod.mk.inj hq
    obtain ⟨rfl, rfl⟩ := Prod.mk.inj hq2
    refine ⟨n, xs, hown2, fun g hg' => ⟨hg g hg', hown g (hg g hg'), fun k hk => ?_, fun _ h => absurd rfl h⟩⟩
    show (if u.ownBlock = some g ∧ k < n * sz then _ else γ.μ g k) = none
    rw [if_neg (fun h => by omega)]
    cases hm : γ.μ g k with
    | none => rfl
    | some v => exact absurd (fz_lt H.fz hm) (by have := hg g hg'; omega)

theorem repAL_consts : ∀ l : List Value, RepAL γ (l.map constA) l
  | [] => by simp [RepAL]
  | v :: l => by simp only [List.map_cons, RepAL]; exact ⟨v, l, rfl, rep_const v, repAL_consts l⟩
theorem repAL_one : ∀ {cs : List AV} {vs : List Value}, RepAL γ cs vs → cs.all AV.one = true → ∀ x ∈ vs, x.oneCell' = true
  | [], _, h, _, x, hx => by simp only [RepAL] at h; subst h; cases hx
  | c :: cs, _, h, ho, x, hx => by
    simp only [RepAL] at h
    obtain ⟨v, t, rfl, h1, h2⟩ := h
    simp only [List.all_cons, Bool.and_eq_true] at ho
    rcases List.mem_cons.1 hx with rfl | hx
    · exact (h1.cells_one ho.1).1
    · exact repAL_one h2 ho.2 x hx
theorem zeroA_some {t : TypeId} {cs : List AV} (h : zeroA P t = some cs) : ∃ i v, P.info? t = some i ∧ i.zero = some v ∧ cs = v.cells.toList.map constA := by
  unfold zeroA at h
  split at h
  · rename_i i hi
    split at h
    · rename_i v hv; injection h with h; exact ⟨i, v, hi, hv, h.symm⟩
    · cases h
  · cases h
theorem run_zero {t : TypeId} {i : TypeInfo} {v : Value} (hi : P.info? t = some i) (hv : i.zero = some v) : (zeroValue t).run P w = .ok v w := by
  simp [zeroValue, typeInfo, hi, hv]
theorem run_newVar (t : TypeId) (v : Value) : (newVar t v).run P w = .ok ⟨w.heap.size, 0, none⟩ (w.alloc (.cells v.cells t)) := by
  simp only [newVar, newRow, newObj, Sem.run_bind, Sem.run_pure]; rfl
/-- What a quiet operation does. -/
def effH (id : Nat) (q : Q) (hp : Nat → Option Ob) : Nat → Option Ob := fun j => match q.mo with
  | some t => (match lookO t.ups j with | some o => some o | none => hp j)
  | none => match q.upd with
  | some (d, o) => if j = d then some o else addF id q.new hp j
  | none => addF id q.new hp j
def effL (id : Nat) (q : Q) (live : Nat → Prop) : Nat → Prop := fun t => match q.mo with
  | some m => (live t ∧ ¬ t ∈ m.lv) ∨ t ∈ m.toks
  | none => (live t ∧ q.kill ≠ some t) ∨ (q.tok = true ∧ t = id)
theorem effH_of {id : Nat} {q : Q} (h : q.upd = none) (hm : q.mo = none := by rfl) : effH id q hp = addF id q.new hp := by
  funext j; simp only [effH, h, hm]
theorem effL_of {id : Nat} {q : Q} (h : q.kill = none) (hm : q.mo = none := by rfl) : effL id q live = addL id q.tok live := by
  funext t; simp [effL, addL, h, hm]
/-- What an operation leaves behind: its value (none: it has no value), memory. -/
def Ran (u : Value) : Result Next → World → Prop := fun r w' => r = .ok (.value u) w' ∨ (u = undef ∧ r = .ok .skip w')
def Does (P : Program) (own : Nat → Prop) (hp : Nat → Option Ob) (live : Nat → Prop) (γ : G) (w : World) (ρ : Operand → Value) (o : Oper) (id : Nat) (q : Q) : Prop :=
  ∃ u w' γ', Ran u ((execOp ρ o).run P w) w' ∧ Stp own hp live γ w id (effH id q hp) (effL id q live) q.v u γ' w'
theorem Stay.does {o : Oper} {v : AV} (h : Stay P γ w ρ o v) (H : Hp own hp live γ w) (id : Nat) (q : Q) (h1 : q.new = none) (h2 : q.tok = false) (h3 : q.v = v) (h6 : q.upd = none) (h7 : q.kill = none) (h8 : q.mo = none := by rfl) : Does P own hp live γ w ρ o id q := by
  obtain ⟨u, h4, h5⟩ := h
  exact ⟨u, w, γ, .inl h4, by rw [effH_of h6 h8, effL_of h7 h8, h1, h2, h3]; exact Stp.stay H id h5⟩
theorem does_of {o : Oper} {id : Nat} {q : Q} (h6 : q.upd = none) (h7 : q.kill = none) (h8 : q.mo = none) (h : ∃ u w' γ', (execOp ρ o).run P w = .ok (.value u) w' ∧ Stp own hp live γ w id (addF id q.new hp) (addL id q.tok live) q.v u γ' w') : Does P own hp live γ w ρ o id q := by
  obtain ⟨u, w', γ', h1, h2⟩ := h
  exact ⟨u, w', γ', .inl h1, by rw [effH_of h6 h8, effL_of h7 h8]; exact h2⟩
theorem bldT_zero {t : TypeId} (h : bldT P t = true) : ∃ i v, P.info? t = some i ∧ i.zero = some v ∧ v.cells = #[.pointer none, .slice none 0 0] := by
  unfold bldT at h
  split at h
  · rename_i i hi
    split at h
    · rename_i v hv
      split at h
      · rename_i hc _
        exact ⟨i, v, hi, hv, Array.ext' hc⟩
      · cases h
    · cases h
  · cases h
theorem does_alloc (H : Hp own hp live γ w) {id : Nat} (h1 : γ.ι id = none) (h2 : γ.τ id = none) (hid : hp id = none) (hlv : ¬ live id) (hown : ∀ b, w.heap.size ≤ b → own b) {o : Oper} {t : TypeId} (ho : o.op = .alloc t) (hk : (allocQ P id t).quiet.ok = true) : Does P own hp live γ w ρ o id (allocQ P id t).quiet := by
  refine does_of rfl rfl rfl ?_
  unfold execOp
  simp only [ho]
  unfold allocQ at hk ⊢
  by_cases hb : bldT P t = true
  · rw [if_pos hb]
    obtain ⟨i, v, hi, hv, hc⟩ := bldT_zero hb
    obtain ⟨γ', h4⟩ := stp_new H h1 h2 hid hlv hown (.bld0 t) (.cells v.cells t) (fun γ' _ => by rw [hc]; exact rfl) (.ptr id 0) (.pointer (some ⟨w.heap.size, 0, none⟩)) (fun γ' e => by simp only [RepA]; exact ⟨_, e, rfl⟩)
    refine ⟨_, _, γ', ?_, h4⟩
    simp [Instr.alloc, run_zero hi hv, run_newVar]
  rw [if_neg hb] at hk ⊢
  obtain ⟨cs, hc, h3⟩ := optQ_ok hk
  rw [h3] at hk ⊢
  split at hk
  · rename_i hone
    simp only [hone, if_true]
    obtain ⟨i, v, hi, hv, rfl⟩ := zeroA_some hc
    have hr : ∀ γ' : G, RepAL γ' (v.cells.toList.map constA) v.cells.toList := fun γ' => repAL_consts _
    obtain ⟨γ', h4⟩ := stp_new H h1 h2 hid hlv hown (.cells (v.cells.toList.map constA)) (.cells v.cells t) (fun γ' _ => ⟨v.cells.toList, t, by simp, hr γ', repAL_one (hr γ') hone⟩) (.ptr id 0) (.pointer (some ⟨w.heap.size, 0, none⟩)) (fun γ' e => by simp only [RepA]; exact ⟨_, e, rfl⟩)
    refine ⟨_, _, γ', ?_, h4⟩
    simp [Instr.alloc, run_zero hi hv, run_newVar]
  · cases hk
theorem does_box (H : Hp own hp live γ w) {id : Nat} (h1 : γ.ι id = none) (h2 : γ.τ id = none) (hid : hp id = none) (hlv : ¬ live id) (hown : ∀ b, w.heap.size ≤ b → own b) {o : Oper} {t : TypeId} {x : Operand} (ho : o.op = .box t x) {p : AV} (hr : RepA γ p (ρ x)) (hk : (boxQ id p).quiet.ok = true) : Does P own hp live γ w ρ o id (boxQ id p).quiet := by
  refine does_of rfl rfl rfl ?_
  unfold execOp
  simp only [ho]
  unfold boxQ at hk ⊢
  split at hk
  · rename_i hone
    simp only [hone, if_true]
    obtain ⟨γ', h4⟩ := stp_new H h1 h2 hid hlv hown (.cells p.cells) (.cells (ρ x).cells t) (fun γ' le => by
      obtain ⟨a, b⟩ := repA_cells (hr.mono le) hone
      exact ⟨(ρ x).cells.toList, t, by simp, a, fun y hy => b y (by simpa using hy)⟩) (.ptr id 0) (.pointer (some ⟨w.heap.size, 0, none⟩)) (fun γ' e => by simp only [RepA]; exact ⟨_, e, rfl⟩)
    exact ⟨_, _, γ', by simp [Instr.box, run_newVar], h4⟩
  · cases hk

/-! ### Composite literals -/
theorem repAL_set : ∀ {cs : List AV} {vs : List Value} (i : Nat) {x : AV} {v : Value}, RepAL γ cs vs → RepA γ x v → RepAL γ (cs.set i x) (vs.set i v)
  | [], _, i, _, _, h, _ => by simp only [RepAL] at h; subst h; simp [RepAL]
  | c :: cs, _, 0, x, v, h, hx => by
    simp only [RepAL] at h; obtain ⟨u, t, rfl, h1, h2⟩ := h
    simp only [List.set_cons_zero, RepAL]; exact ⟨v, t, rfl, hx, h2⟩
  | c :: cs, _, i + 1, x, v, h, hx => by
    simp only [RepAL] at h; obtain ⟨u, t, rfl, h1, h2⟩ := h
    simp only [List.set_cons_succ, RepAL]; exact ⟨u, _, rfl, h1, repAL_set i h2 hx⟩
theorem repAL_fill : ∀ {xs : List AV} {us : List Value} (off : Nat) {cs : List AV} {vs : List Value}, RepAL γ xs us → RepAL γ cs vs →
    RepAL γ (fillA off xs cs) ((us.zipIdx off).foldl (fun a p => a.set p.2 p.1) vs)
  | [], _, off, cs, vs, h, hc => by simp only [RepAL] at h; subst h; simpa [fillA] using hc
  | x :: xs, _, off, cs, vs, h, hc => by
    simp only [RepAL] at h
    obtain ⟨u, t, rfl, h1, h2⟩ := h
    simp only [fillA, List.zipIdx_cons, List.foldl_cons]
    exact repAL_fill (off + 1) h2 (repAL_set off hc h1)
theorem fill_cells (off : Nat) : ∀ (us : List Value) (k : Nat) (vs : List Value), (us.zipIdx k).foldl (fun (cs : Array Value) (p : Value × Nat) => cs.setIfInBounds (off + p.2) p.1) vs.toArray = ((us.zipIdx (off + k)).foldl (fun a p => a.set p.2 p.1) vs).toArray
  | [], _, _ => rfl
  | u :: us, k, vs => by
    simp only [List.zipIdx_cons, List.foldl_cons, List.setIfInBounds_toArray]
    exact fill_cells off us (k + 1) _
theorem run_fill {places : Nat → Option (Nat × Nat)} {e : Operand → AV} : ∀ (parts : List (Nat × Operand)) {cs r : List AV} {vs : List Value}, buildA places e parts cs = some r → RepAL γ cs vs → (∀ p ∈ parts, RepA γ (e p.2) (ρ p.2)) →
    ∃ us : List Value, Instr.fill places vs.toArray (parts.map fun p => (p.1, ρ p.2)) = some us.toArray ∧ RepAL γ r us
  | [], cs, r, vs, h, hc, _ => by
    simp only [buildA, Option.some.injEq] at h
    subst h
    exact ⟨vs, rfl, hc⟩
  | (i, x) :: l, cs, r, vs, h, hc, hr => by
    simp only [buildA] at h
    simp only [List.map_cons, Instr.fill]
    split at h
    · rename_i off size hp
      simp only [hp]
      split at h
      · rename_i hs
        obtain ⟨hcells, _⟩ := repA_cells (hr (i, x) (by simp)) hs.2.2
        have hl : (ρ x).cells.size = size := by have := hcells.length; simp at this; omega
        have hc2 := hc.length
        rw [if_neg (by simp; omega)]
        have := run_fill (places := places) l h (repAL_fill off hcells hc) (fun p hp => hr p (by simp [hp]))
        obtain ⟨us, h3, h4⟩ := this
        refine ⟨us, ?_, h4⟩
        rw [← h3]
        congr 1
        have := fill_cells off (ρ x).cells.toList 0 vs
        rw [← Array.foldl_toList, Array.toList_zipIdx]
        simpa using this
      · cases h
    · cases h

theorem places_of : ∀ (fs : List Field), fs.all (fun f => (P.info? f.type).isSome) = true → fs.mapM (fun f => (P.info? f.type).map fun i => (f.offset, i.size)) = some (fs.map fun f => (f.offset, sizeT P f.type))
  | [], _ => rfl
  | f :: fs, h => by
    simp only [List.all_cons, Bool.and_eq_true] at h
    obtain ⟨i, hi⟩ := Option.isSome_iff_exists.1 h.1
    simp [List.mapM_cons, hi, places_of fs h.2, sizeT]
theorem stay_build {o : Oper} {t : TypeId} {parts : Array (Nat × Operand)} (ho : o.op = .build t parts) (e : Operand → AV) (hr : ∀ p ∈ parts.toList, RepA γ (e p.2) (ρ p.2)) (hk : (buildQ P t parts.toList e).ok = true) : Stay P γ w ρ o (buildQ P t parts.toList e).v := by
  unfold Stay execOp
  simp only [ho]
  unfold buildQ at hk ⊢
  obtain ⟨z, hz, h2⟩ := optQ_ok hk
  rw [h2] at hk ⊢
  obtain ⟨i, v, hi, hv, rfl⟩ := zeroA_some hz
  have hc : RepAL γ (v.cells.toList.map constA) v.cells.toList := repAL_consts _
  have key : ∀ (us : List Value), P.built t (parts.toList.map fun p => (p.1, ρ p.2)) = some us.toArray → (Instr.build t (parts.map fun (i, x) => (i, ρ x))).run P w = .ok (.agg us.toArray) w := fun us h => run_build w t _ _ (by simpa using h)
  split at hk
  · rename_i fs hu
    split at hk
    · rename_i ha
      simp only [ha, if_true]
      obtain ⟨r, hr1, h3⟩ := optQ_ok hk
      rw [h3]
      obtain ⟨us, h4, h5⟩ := run_fill (ρ := ρ) parts.toList hr1 hc hr
      have hb : P.built t (parts.toList.map fun p => (p.1, ρ p.2)) = some us.toArray := by
        unfold Program.built
        simp only [hi, hu, hv, places_of _ ha]
        rw [← h4]
        congr 1
        funext k
        simp [structPlaces]
      exact ⟨_, by rw [Sem.run_bind, key us hb]; rfl, rep_aggOf h5⟩
    · cases hk
  · rename_i n el hu
    split at hk
    · rename_i ha
      simp only [ha, if_true]
      obtain ⟨r, hr1, h3⟩ := optQ_ok hk
      rw [h3]
      obtain ⟨us, h4, h5⟩ := run_fill (ρ := ρ) parts.toList hr1 hc hr
      obtain ⟨ie, hie⟩ := Option.isSome_iff_exists.1 ha
      have hb : P.built t (parts.toList.map fun p => (p.1, ρ p.2)) = some us.toArray := by
        unfold Program.built
        simp only [hi, hu, hv, hie]
        rw [← h4]
        congr 1
        funext k
        simp [sizeT, hie]
      exact ⟨_, by rw [Sem.run_bind, key us hb]; rfl, rep_aggOf h5⟩
    · cases hk
  · cases hk
theorem elemT_some {t el : TypeId} (h : elemT P t = some el) : P.underlying t = some (.slice el) := by
  unfold elemT at h
  split at h
  · rename_i x hx; injection h with h; rw [hx, h]
  · cases h
theorem repAL_cold : ∀ {l : List AV} {ds : List D} {vs : List Value}, coldL l = some ds → RepAL γ l vs → RepL γ.μ ds vs
  | [], _, _, h, hr => by simp only [coldL, Option.some.injEq] at h; subst h; simpa only [RepAL, RepL] using hr
  | .d x :: l, ds, vs, h, hr => by
    simp only [coldL, Option.map_eq_some_iff] at h
    obtain ⟨r, h1, rfl⟩ := h
    simp only [RepAL, RepA] at hr
    obtain ⟨v, t, rfl, h2, h3⟩ := hr
    simp only [RepL]
    exact ⟨v, t, rfl, h2, repAL_cold h1 h3⟩
  | .ap sz n f r :: l, ds, vs, h, hr => by
    simp only [coldL, Option.map_eq_some_iff] at h
    obtain ⟨r, h1, rfl⟩ := h
    simp only [RepAL, RepA] at hr
    obtain ⟨v, t, rfl, h2, h3⟩ := hr
    simp only [RepL]
    exact ⟨v, t, rfl, h2.1, repAL_cold h1 h3⟩
  | .ptr .. :: _, _, _, h, _ => by simp [coldL] at h
  | .ep .. :: _, _, _, h, _ => by simp [coldL] at h
  | .pa .. :: _, _, _, h, _ => by simp [coldL] at h
  | .arr .. :: _, _, _, h, _ => by simp [coldL] at h
  | .mp .. :: _, _, _, h, _ => by simp [coldL] at h
  | .vec .. :: _, _, _, h, _ => by simp [coldL] at h
  | .pv .. :: _, _, _, h, _ => by simp [coldL] at h
  | .fn .. :: _, _, _, h, _ => by simp [coldL] at h
  | .agg .. :: _, _, _, h, _ => by simp [coldL] at h
  | .tup .. :: _, _, _, h, _ => by simp [coldL] at h
  | .any :: _, _, _, h, _ => by simp [coldL] at h
theorem repA_cold {x : AV} {y : D} {v : Value} (h : coldA x = some y) (hr : RepA γ x v) : Rep γ.μ y v := by
  cases x with
  | d x => simp only [coldA, Option.some.injEq] at h; subst h; simpa only [RepA] using hr
  | ap sz n f r => simp only [coldA, Option.some.injEq] at h; subst h; simp only [RepA] at hr; exact hr.1
  | agg l =>
    simp only [coldA, Option.map_eq_some_iff] at h
    obtain ⟨ds, h1, rfl⟩ := h
    simp only [RepA] at hr
    obtain ⟨vs, e, h2⟩ := hr
    simp only [Rep]
    exact ⟨vs, e, repAL_cold h1 h2⟩
  | _ => simp only [coldA] at h; cases h
theorem partsD_some {e : Operand → AV} {sz : Nat} : ∀ (parts : List (Nat × Operand)) (i : Nat) (ds : List D), partsD e sz i parts = some ds → (∀ p ∈ parts, RepA γ (e p.2) (ρ p.2)) →
    parts.map (fun p => (p.1, ρ p.2)) = ((parts.map fun p => ρ p.2).zipIdx i).map (fun x => (x.2, x.1)) ∧ ds.length = parts.length ∧
    ∀ (k : Nat) (d : D), ds[k]? = some d → ∃ u, (parts.map fun p => ρ p.2)[k]? = some u ∧ Rep γ.μ d u ∧ u.cells.size = sz ∧ ∀ x ∈ u.cells, x.oneCell' = true
  | [], i, ds, h, _ => by simp only [partsD, Option.some.injEq] at h; subst h; simp
  | (j, x) :: l, i, ds, h, hr => by
    have hx := hr (j, x) (by simp)
    simp only [partsD] at h
    split at h
    · rename_i hij
      subst hij
      have step : ∀ (y : D), ((partsD e sz (i + 1) l).map (y :: ·) = some ds) → Rep γ.μ y (ρ x) → (ρ x).cells.size = sz → (∀ z ∈ (ρ x).cells, z.oneCell' = true) →
          (((i, x) :: l).map (fun p => (p.1, ρ p.2)) = ((((i, x) :: l).map fun p => ρ p.2).zipIdx i).map (fun x => (x.2, x.1)) ∧ ds.length = ((i, x) :: l).length ∧
          ∀ (k : Nat) (d : D), ds[k]? = some d → ∃ u, (((i, x) :: l).map fun p => ρ p.2)[k]? = some u ∧ Rep γ.μ d u ∧ u.cells.size = sz ∧ ∀ x ∈ u.cells, x.oneCell' = true) := fun y hy h1 h2 h3 => by
        rw [Option.map_eq_some_iff] at hy
        obtain ⟨r, hr1, rfl⟩ := hy
        obtain ⟨a, b, c⟩ := partsD_some l (i + 1) r hr1 (fun p hp => hr p (by simp [hp]))
        refine ⟨by simp [a], by simp [b], ?_⟩
        intro k d hk
        cases k with
        | zero => simp at hk; subst hk; exact ⟨ρ x, by simp, h1, h2, h3⟩
        | succ k => simpa using c k d (by simpa using hk)
      split at h
      · rename_i y hy
        have hx := repA_cold hy hx
        split at h
        · rename_i hc
          have hcells := rep_cells hx
          refine step y h hx (by have := hcells.length; simp at this; omega) ?_
          have := repAL_one (γ := γ) (RepAL.of_map hcells) (by simpa [List.all_map, Function.comp_def, AV.one] using hc.2)
          intro z hz; exact this z (by simpa using hz)
        · cases h
      · cases h
    · cases h
theorem does_buildSlice (H : Hp own hp live γ w) {id : Nat} (h1 : γ.ι id = none) (h2 : γ.τ id = none) (hid : hp id = none) (hlv : ¬ live id) (hown : ∀ b, w.heap.size ≤ b → own b) {o : Oper} {t : TypeId} {len : Nat} {parts : Array (Nat × Operand)}
    (ho : o.op = .buildSlice t len parts) (e : Operand → AV) (hr : ∀ p ∈ parts.toList, RepA γ (e p.2) (ρ p.2)) (hk : (buildSliceQ P id t len parts.toList e).quiet.ok = true) : Does P own hp live γ w ρ o id (buildSliceQ P id t len parts.toList e).quiet := by
  refine does_of rfl rfl rfl ?_
  unfold execOp
  simp only [ho]
  unfold buildSliceQ at hk ⊢
  split at hk
  · rename_i el hel
    have hu := elemT_some hel
    obtain ⟨ds, hd, h3⟩ := optQ_ok hk
    rw [h3] at hk
    rw [h3]
    split at hk
    · rename_i hc
      obtain ⟨hlen, hsm, hpos, hzz⟩ := hc
      simp only [hlen, hsm, hpos, hzz, and_self, if_true]
      obtain ⟨cs0, hz⟩ := Option.isSome_iff_exists.1 hzz
      obtain ⟨i, z, hi, hz, _⟩ := zeroA_some hz
      have hsz : i.size = sizeT P el := by simp [sizeT, hi]
      obtain ⟨p1, p2, p3⟩ := partsD_some (γ := γ) parts.toList 0 ds hd hr
      have vsz : ∀ v ∈ parts.toList.map (fun p => ρ p.2), v.cells.size = sizeT P el := by
        intro v hv
        obtain ⟨k, hk2, rfl⟩ := List.mem_iff_getElem.1 hv
        have hk3 : k < ds.length := by rw [p2]; simpa using hk2
        obtain ⟨u, q1, q2, q3, _⟩ := p3 k ds[k] (List.getElem?_eq_getElem hk3)
        rw [List.getElem?_eq_getElem hk2] at q1
        injection q1 with q1
        rw [q1]; exact q3
      by_cases hl0 : len = 0
      · subst hl0
        have hpe : parts = #[] := by
          have : parts.toList.length = 0 := by omega
          simpa using this
        let w' := w.alloc (.cells #[] el)
        have run : (Instr.buildSlice t 0 (parts.map fun (i, x) => (i, ρ x))).run P w = .ok (.slice (some ⟨w.heap.size, 0, none⟩) 0 0) w' := by
          simp [Instr.buildSlice, und_of hu, size_of hi, hpe, Instr.fill, newRow, newObj, w', Sem.run]
          exact congrArg (fun c => w.alloc (.cells c el)) (by simp)
        obtain ⟨γ', h4⟩ := stp_frozen H h1 h2 hid hlv hown (w' := w') ((Below.refl _ w).alloc (Nat.le_refl _) _) (.slice (some ⟨w.heap.size, 0, none⟩) 0 0) el (sizeT P el) 0 []
          ⟨by simp, .inr ⟨w.heap.size, 0, #[], rfl, Nat.zero_le _, heap_alloc_new w _, Nat.le_refl _, Nat.zero_le _, by simp, by simp⟩⟩ (fun g hg => by simp [Value.ownBlock] at hg; omega)
          (.ap (sizeT P el) 0 (litF ds) (.tok id el)) (fun γ' _ hq _ => by
            simp only [RepA, Rep, RightOk]
            exact ⟨⟨some ⟨w.heap.size, 0, none⟩, 0, rfl, Nat.le_refl _, Nat.zero_le _, fun h => absurd h (by omega)⟩, .inl hq⟩)
        exact ⟨_, w', γ', by rw [Sem.run_bind, run]; rfl, h4⟩
      · obtain ⟨r, f1, f2, f3⟩ := Great.fill_dense hpos (parts.toList.map fun p => ρ p.2) 0 ((Array.range (len * i.size)).map (z.cells[· % z.cells.size]!)) vsz (by simp [hsz]; rw [show parts.size = len by rw [← hlen, p2]; simp]; exact Nat.le_refl _)
        have hlp : parts.size = len := by rw [← hlen, p2]; simp
        have f2' : r.size = len * sizeT P el := by rw [f2]; simp [hsz]
        let w' := w.alloc (.cells r el)
        have run : (Instr.buildSlice t len (parts.map fun (i, x) => (i, ρ x))).run P w = .ok (.slice (some ⟨w.heap.size, 0, none⟩) len len) w' := by
          refine run_buildSlice w t el len _ r i z hu hi hz (by rw [hsz]; omega) ?_ ?_
          · rw [hsz]; exact Nat.mul_ne_zero hl0 (by omega)
          · rw [← f1, ← p1, hsz]; simp
        have hlen63 : len ≤ maxLen := by
          have : len * 1 ≤ len * sizeT P el := Nat.mul_le_mul_left _ hpos
          unfold maxLen; omega
        obtain ⟨γ', h4⟩ := stp_frozen H h1 h2 hid hlv hown (w' := w') ((Below.refl _ w).alloc (Nat.le_refl _) _) (.slice (some ⟨w.heap.size, 0, none⟩) len len) el (sizeT P el) len r.toList
          ⟨by simp [f2'], .inr ⟨w.heap.size, len, r, rfl, Nat.zero_le _, heap_alloc_new w _, Nat.le_refl _, hlen63, f2', by rw [List.take_of_length_le (by simp [f2'])]⟩⟩ (fun g hg => by simp [Value.ownBlock] at hg; omega)
          (.ap (sizeT P el) len (litF ds) (.tok id el)) (fun γ' le hq hm => by
            simp only [RepA, Rep, RightOk]
            refine ⟨⟨some ⟨w.heap.size, 0, none⟩, len, rfl, Nat.le_refl _, hlen63, fun _ => ⟨w.heap.size, 0, rfl, fun k hk => ?_⟩⟩, .inl hq⟩
            have hk3 : k < ds.length := by omega
            obtain ⟨u, q1, q2, q3, q4⟩ := p3 k ds[k] (List.getElem?_eq_getElem hk3)
            refine ⟨u, ?_, q3, q4, fun j hj => ?_⟩
            · have : litF ds k = ds[k] := by simp [litF, hk3]
              rw [this]
              exact q2.mono le.μ
            · have hlt : k * sizeT P el + j < len * sizeT P el := by
                have : (k + 1) * sizeT P el ≤ len * sizeT P el := Nat.mul_le_mul_right _ (by omega)
                rw [Nat.add_mul] at this; omega
              rw [Nat.zero_add, hm w.heap.size _ rfl hlt]
              have : w'.cell? ⟨w.heap.size, k * sizeT P el + j, none⟩ = r[k * sizeT P el + j]? := by
                have hh := heap_alloc_new w (.cells r el)
                unfold World.cell?
                simp only [w', hh]
                rfl
              rw [this, f3, if_pos (by simp [hlp]; omega)]
              rw [Nat.mul_comm k, Nat.mul_add_div hpos, Nat.div_eq_of_lt hj, Nat.mul_add_mod, Nat.mod_eq_of_lt hj, Nat.add_zero, Nat.sub_zero, q1]
              rfl)
        exact ⟨_, w', γ', by rw [Sem.run_bind, run]; rfl, h4⟩
    · cases hk
  · cases hk

/-- The cells of a slice that is told. -/
theorem rep_rd (hf : FzM γ.μ w) {sz m size : Nat} {g : Nat → D} {v : Value} (h : Rep γ.μ (.sl sz m g) v) (hs : sz = size ∨ m = 0) (hz : 0 < size) :
    ∃ A c news, v = .slice A m c ∧ Rd w size A m c news ∧ (∀ u ∈ news, u.oneCell' = true) ∧ ∀ i, i < m → ∃ u, Rep γ.μ (g i) u ∧ u.cells.size = size ∧ (∀ x ∈ u.cells, x.oneCell' = true) ∧ ∀ j, j < size → news[i * size + j]? = u.cells[j]? := by
  simp only [Rep] at h
  obtain ⟨A, c, rfl, h1, h2, h3⟩ := h
  by_cases hm : m = 0
  · subst hm
    exact ⟨A, c, [], rfl, Rd.nil_ w size A c h2, (fun u hu => by cases hu), fun i hi => absurd hi (by omega)⟩
  · obtain rfl : sz = size := hs.resolve_right hm
    obtain ⟨b, o, rfl, h4⟩ := h3 (by omega)
    have hcell : ∀ k, k < m * sz → ∃ v, γ.μ b (o + k) = some v ∧ v.oneCell' = true := fun k hk => by
      obtain ⟨u, _, h6, h7, h8⟩ := h4 (k / sz) ((Nat.div_lt_iff_lt_mul hz).2 hk)
      have hlt : k % sz < u.cells.size := by rw [h6]; exact Nat.mod_lt _ hz
      refine ⟨u.cells[k % sz], ?_, h7 _ (Array.getElem_mem hlt)⟩
      have := h8 (k % sz) (Nat.mod_lt _ hz)
      rw [Array.getElem?_eq_getElem hlt, Nat.add_assoc, Nat.mul_comm, Nat.div_add_mod] at this
      exact this
    let news := (List.range (m * sz)).map fun k => (γ.μ b (o + k)).getD undef
    have hget : ∀ k, k < m * sz → news[k]? = γ.μ b (o + k) := fun k hk => by
      obtain ⟨v, hv, _⟩ := hcell k hk
      simp [news, hk, hv]
    have hb : b < w.heap.size := by
      obtain ⟨v, hv, _⟩ := hcell 0 (Nat.mul_pos (by omega) hz)
      exact fz_lt hf hv
    refine ⟨some ⟨b, o, none⟩, c, news, rfl, ⟨by simp [news], h1, h2, fun _ => ⟨b, o, rfl, hb, fun j u hu => ?_⟩⟩, fun u hu => ?_, fun i hi => ?_⟩
    · have hj : j < m * sz := by simpa [news] using (List.getElem?_eq_some_iff.1 hu).1
      rw [hget j hj] at hu
      exact hf _ _ _ hu
    · obtain ⟨k, hk, rfl⟩ := List.mem_iff_getElem.1 hu
      have hk2 : k < m * sz := by simpa [news] using hk
      obtain ⟨v, hv, h1⟩ := hcell k hk2
      have := hget k hk2
      rw [List.getElem?_eq_getElem hk, hv] at this
      injection this with this
      rw [this]; exact h1
    · obtain ⟨u, h5, h6, h7, h8⟩ := h4 i hi
      refine ⟨u, h5, h6, h7, fun j hj => ?_⟩
      have hlt : i * sz + j < m * sz := by
        have : (i + 1) * sz ≤ m * sz := Nat.mul_le_mul_right _ hi
        rw [Nat.add_mul] at this; omega
      rw [hget _ hlt, ← Nat.add_assoc]
      exact h8 j hj

/-- What is known of a slice that owns its row, told. -/
theorem rep_of_own {μ : Nat → Nat → Option Value} {size m : Nat} {g : Nat → D} {v : Value} {e : TypeId} {xs : List Value} (hown : w.ownsRow 0 e size v m xs)
    (hm : ∀ b j, v.ownBlock = some b → j < m * size → μ b j = w.cell? ⟨b, j, none⟩) (hr : ∀ i, i < m → ∃ u, Rep μ (g i) u ∧ u.cells.size = size ∧ (∀ x ∈ u.cells, x.oneCell' = true) ∧ ∀ j, j < size → xs[i * size + j]? = u.cells[j]?) :
    Rep μ (.sl size m g) v := by
  simp only [Rep]
  rcases hown.2 with ⟨rfl, rfl⟩ | ⟨b, cap, cur, rfl, _, hh, hc, hmx, hs, ht⟩
  · exact ⟨none, 0, rfl, Nat.le_refl _, Nat.zero_le _, fun h => absurd h (by omega)⟩
  · refine ⟨some ⟨b, 0, none⟩, cap, rfl, hc, hmx, fun _ => ⟨b, 0, rfl, fun i hi => ?_⟩⟩
    obtain ⟨u, h5, h6, h7, h8⟩ := hr i hi
    refine ⟨u, h5, h6, h7, fun j hj => ?_⟩
    have hlt : i * size + j < m * size := by
      have : (i + 1) * size ≤ m * size := Nat.mul_le_mul_right _ hi
      rw [Nat.add_mul] at this; omega
    have hlt2 : i * size + j < u.cells.size ∨ True := .inr trivial
    rw [Nat.zero_add, hm b _ rfl hlt, ← h8 j hj]
    have hu : j < u.cells.size := by rw [h6]; exact hj
    have h9 := h8 j hj
    rw [Array.getElem?_eq_getElem hu] at h9
    rw [h9]
    have := hown.cells (g := b) rfl _ _ h9
    rwa [cell_mid, Nat.zero_add] at this
theorem asSl_some {x : AV} {sz m : Nat} {g : Nat → D} {v : Value} (h : asSl x = some (sz, m, g)) (hr : RepA γ x v) : Rep γ.μ (.sl sz m g) v := by
  unfold asSl at h
  split at h
  · simp only [Option.some.injEq, Prod.mk.injEq] at h
    obtain ⟨rfl, rfl, rfl⟩ := h
    simpa only [RepA] using hr
  · simp only [Option.some.injEq, Prod.mk.injEq] at h
    obtain ⟨rfl, rfl, rfl⟩ := h
    simp only [RepA] at hr
    exact hr.1
  · cases h
theorem Hp.lives {live' : Nat → Prop} (H : Hp own hp live γ w) (h : ∀ t, live' t → live t) : Hp own hp live' γ w :=
  ⟨H.fz, H.obj, H.inj, fun t v e sz hl => H.tok t v e sz (h t hl), fun s t v u hs ht => H.tinj s t v u (h s hs) (h t ht)⟩
theorem Stp.lives {live' live'' : Nat → Prop} {id : Nat} {hp' : Nat → Option Ob} {v : AV} {u : Value} (H : Stp own hp live γ w id hp' live' v u γ' w') (h : ∀ t, live'' t → live' t) : Stp own hp live γ w id hp' live'' v u γ' w' :=
  ⟨H.le, H.hp.lives h, H.base, H.rep, H.other, H.mu⟩
/-- An append to a slice of one's own: in its place, or in a new row. -/
theorem run_append_split (t ty e : TypeId) (i : TypeInfo) (z : Value) (size bytes : Nat) (ht : P.underlying t = some (.slice e)) (hi : P.info? e = some i) (hz : i.zero = some z)
    (hsize : i.size = size) (hby : i.bytes = bytes) (hzs : z.cells.size = size) (hsz : 0 < size) (g n cap : Nat) (xs : List Value) (hown : w.ownsRow 0 e size (.slice (some ⟨g, 0, none⟩) n cap) n xs)
    (A : Option Addr) (m c : Nat) (news : List Value) (hr : Rd w size A m c news) (h1 : ∀ u ∈ news, u.oneCell' = true) (h63 : n + m ≤ maxLen) (hbytes : (n + m) * bytes ≤ 140737488355328) :
    ∃ v' w', (Builtin.append_ #[t, t] ty #[.slice (some ⟨g, 0, none⟩) n cap, .slice A m c]).run P w = .ok v' w' ∧ w'.ownsRow 0 e size v' (n + m) (xs ++ news) ∧
      ((v'.ownBlock = some g ∧ w.grownBy w' (some g)) ∨ (v'.ownBlock = some w.heap.size ∧ Ext w w')) := by
  have far (a : Addr) (j : Nat) : a.spot = none → a.add j = ⟨a.block, a.off + j, none⟩ := by
    intro h
    unfold Addr.add
    split
    · rename_i h0; subst h0; cases a; simp at h; simp [h]
    · rfl
  rcases A with _ | ad
  · have hm : m = 0 := by
      rcases Nat.eq_zero_or_pos m with h0 | h0
      · exact h0
      · obtain ⟨_, _, h, _⟩ := hr.at_ h0
        cases h
    subst hm
    have hn : news = [] := List.eq_nil_of_length_eq_zero (by simpa using hr.len)
    subst hn
    exact ⟨_, w, run_append_of_nil w 0 t ty e i size ht hi _ n xs hown c, by simpa using hown, .inl ⟨rfl, World.grownBy.refl w _⟩⟩
  · have hcells : ∀ j u, news[j]? = some u → w.cell? (ad.add j) = some u := by
      intro j u hu
      rcases Nat.eq_zero_or_pos m with h0 | h0
      · subst h0
        have hn : news = [] := List.eq_nil_of_length_eq_zero (by simpa using hr.len)
        subst hn
        simp at hu
      · obtain ⟨b, o, h, _, hc⟩ := hr.at_ h0
        injection h with h
        subst h
        rw [far _ _ rfl]
        exact hc j u hu
    subst hsize
    subst hby
    have hsmall : n + m ≤ 9223372036854775807 := by simp only [maxLen] at h63; omega
    have hl : news.length = m * i.size := hr.len
    have hlen : (xs ++ news).length = (n + m) * i.size := by rw [List.length_append, hown.1, hl, Nat.add_mul]
    rcases hown.2 with ⟨h, _⟩ | ⟨g', cap', cur, h, hbg, hg, hnc, hcm, hcs, htake⟩
    · cases h
    · injection h with h1' _ h3'
      injection h1' with h1'
      injection h1' with h1'
      subst h1' h3'
      by_cases hroom : n + m ≤ cap
      · have hfit : n * i.size + news.length ≤ cur.size := by rw [hl, hcs, ← Nat.add_mul]; exact Nat.mul_le_mul_right _ hroom
        have hrun := run_append_room (P := P) w t ty e i ht hi g n cap cur hg ad m c news hl hcells h1 hroom hfit
        refine ⟨_, _, hrun, ⟨hlen, .inr ⟨g, cap, _, rfl, hbg, setRow_heap w g cur _ e _ hg, hroom, hcm, ?_, ?_⟩⟩, .inl ⟨rfl, ⟨rfl, rfl, rfl, by simp, fun k _ hk => setRow_other w g k _ (fun e => hk (by rw [e]))⟩⟩⟩
        · simp only [List.size_toArray, List.length_append, List.length_take, List.length_drop, Array.length_toList]
          omega
        · rw [htake, ← hlen]
          exact List.take_left
      · have holds : ∀ j u, xs[j]? = some u → w.cell? ((⟨g, 0, none⟩ : Addr).add j) = some u := hown.cells (g := g) rfl
        have hrun := run_append_grow (P := P) w t ty e i z ht hi hz ⟨g, 0, none⟩ n cap xs hown.1 holds ad m c news hl hcells (by omega) (by omega) (growslice_fits (by omega) hbytes)
        have hge := grownCap_ge w (n + m) cap e
        have hcm2 : grownCap w (n + m) cap e ≤ maxLen := grownCap_le_maxLen w (n + m) cap e h63
        refine ⟨_, _, hrun, ⟨hlen, .inr ⟨w.heap.size, _, _, rfl, Nat.zero_le _, heap_alloc_new w.drew _, hge, hcm2, ?_, ?_⟩⟩, .inr ⟨rfl, ((Below.refl _ w).drew).alloc (Nat.le_refl _) _⟩⟩
        · simp only [Array.size_append, List.size_toArray, size_zeroCells, hzs, hown.1, hl, ← Nat.add_mul]
          congr 1
          omega
        · simp only [Array.toList_append, List.append_assoc]
          rw [← List.append_assoc, ← hlen]
          exact List.take_left
theorem base_grown {row : Option Nat} (h : w.grownBy w' row) (ho : ∀ g, row = some g → own g) : Base own w w' :=
  ⟨h.os, h.tape, h.output, h.size, fun k hk hn => h.block k hk (fun e => hn (ho k e.symm))⟩
/-- In its place. -/
theorem stp_inplace (H : Hp own hp live γ w) {id : Nat} (h1 : γ.ι id = none) (h2 : γ.τ id = none) (hlv : ¬ live id) {w' : World} {v v' : Value} {tk b : Nat} {e : TypeId} {sz n m : Nat} {xs news : List Value}
    (hlk : live tk) (hτ : γ.τ tk = some (v, e, sz)) (hb : v.ownBlock = some b) (hb' : v'.ownBlock = some b) (hn : ∀ n0 xs0, w.ownsRow 0 e sz v n0 xs0 → n0 = n) (hxs : w.ownsRow 0 e sz v n xs) (ho1 : w'.ownsRow 0 e sz v' (n + m) (xs ++ news)) (ho2 : w.grownBy w' (some b))
    (av : AV) (hv : ∀ γ' : G, LeG γ γ' → γ'.τ id = some (v', e, sz) → (∀ g j, v'.ownBlock = some g → j < (n + m) * sz → γ'.μ g j = w'.cell? ⟨g, j, none⟩) → RepA γ' av v') :
    ∃ γ', Stp own hp live γ w id hp (fun t => (live t ∧ some tk ≠ some t) ∨ t = id) av v' γ' w' := by
  have hlen : xs.length = n * sz := hxs.1
  have hxn : (xs ++ news).length = (n + m) * sz := ho1.1
  obtain ⟨n0, xs0, t1, t2⟩ := H.tok tk v e sz hlk hτ
  obtain rfl := hn _ _ t1
  obtain ⟨t3, t4, t5⟩ := t2 b hb
  have oldc : ∀ k, k < n0 * sz → w.cell? ⟨b, k, none⟩ = xs[k]? := fun k hk => by
    have hk2 : k < xs.length := by omega
    rw [List.getElem?_eq_getElem hk2]
    have := hxs.cells hb k _ (List.getElem?_eq_getElem hk2)
    rwa [cell_mid, Nat.zero_add] at this
  have newc : ∀ k, k < (n0 + m) * sz → w'.cell? ⟨b, k, none⟩ = (xs ++ news)[k]? := fun k hk => by
    have hk2 : k < (xs ++ news).length := by omega
    rw [List.getElem?_eq_getElem hk2]
    have := ho1.cells hb' k _ (List.getElem?_eq_getElem hk2)
    rwa [cell_mid, Nat.zero_add] at this
  let γ' : G := ⟨fun c o => if c = b ∧ o < (n0 + m) * sz then w'.cell? ⟨b, o, none⟩ else γ.μ c o, γ.ι, fun j => if j = id then some (v', e, sz) else γ.τ j⟩
  have hi : γ'.τ id = some (v', e, sz) := if_pos rfl
  have hτ' : ∀ j, j ≠ id → γ'.τ j = γ.τ j := fun j hj => if_neg hj
  have leμ : LeM γ.μ γ'.μ := fun c o x hx => by
    show (if c = b ∧ o < (n0 + m) * sz then _ else γ.μ c o) = some x
    split
    · rename_i hc
      obtain ⟨rfl, hc⟩ := hc
      have hk : o < n0 * sz := by
        rcases Nat.lt_or_ge o (n0 * sz) with h | h
        · exact h
        · rw [t4 o h] at hx; cases hx
      rw [newc o hc, List.getElem?_append_left (by omega), ← oldc o hk]
      exact H.fz c o x hx
    · exact hx
  have le : LeG γ γ' := ⟨leμ, fun _ _ h => h, fun i c h => by
    show (if i = id then _ else γ.τ i) = some c
    rw [if_neg (fun hh => by rw [hh, h2] at h; cases h)]; exact h⟩
  have blk : ∀ k, k < w.heap.size → k ≠ b → w'.heap[k]? = w.heap[k]? := fun k hk hne => ho2.block k hk (fun h => hne (by injection h))
  refine ⟨γ', le, ⟨fun c o x hx => ?_, fun j o hj hoj => ?_, H.inj, fun t u e' sz' hl hq => ?_, fun s t vs vt hs ht hne hvs hvt => ?_⟩, base_grown ho2 (fun g hg => by injection hg with hg; rw [← hg]; exact t3), hv γ' le hi (fun g j h3 h4 => ?_), fun j hj => ⟨rfl, hτ' j (by omega)⟩, fun c o _ hno => if_neg (fun h => hno (by rw [h.1]; exact t3))⟩
  · by_cases hc : c = b ∧ o < (n0 + m) * sz
    · have : γ'.μ c o = w'.cell? ⟨b, o, none⟩ := if_pos hc
      rw [hc.1, ← this]; exact hx
    · have hx2 : γ.μ c o = some x := by have : γ'.μ c o = γ.μ c o := if_neg hc; rw [← this]; exact hx
      have hcb : c ≠ b := fun h => by
        subst h
        have hk : o < n0 * sz := by
          rcases Nat.lt_or_ge o (n0 * sz) with h | h
          · exact h
          · rw [t4 o h] at hx2; cases hx2
        exact hc ⟨rfl, by rw [Nat.add_mul]; omega⟩
      rw [World.cell?_of_block (w := w) (blk c (fz_lt H.fz hx2) hcb)]
      exact H.fz c o x hx2
  · obtain ⟨p, e1, e2, e3⟩ := H.obj j o hj hoj
    have hcb : ∀ c, p.block = some c → c ≠ b := fun c hc h => t5 j o p hj hoj e1 (by rw [hc, h])
    refine ⟨p, e1, e2.kept le fun c hc => blk c (e2.lt hc) (hcb c hc), fun c hc => ⟨(e3 c hc).1, fun k => ?_⟩⟩
    show (if c = b ∧ k < (n0 + m) * sz then _ else γ.μ c k) = none
    rw [if_neg (fun h => hcb c hc h.1)]; exact (e3 c hc).2 k
  · rcases hl with ⟨hl, hne⟩ | rfl
    · have htid : t ≠ id := fun h => hlv (h ▸ hl)
      rw [hτ' t htid] at hq
      obtain ⟨n1, xs1, q1, q2⟩ := H.tok t u e' sz' hl hq
      have hob : u.ownBlock = none ∨ u.ownBlock ≠ some b := by
        have := H.tinj t tk (u, e', sz') (v, e, sz) hl hlk (fun h => hne (by rw [h])) hq hτ
        rwa [hb] at this
      refine ⟨n1, xs1, q1.kept ho2 hob, fun g hg => ?_⟩
      obtain ⟨r1, r2, r3⟩ := q2 g hg
      have hgb : g ≠ b := fun h => by rcases hob with h' | h' <;> rw [hg] at h' <;> first | cases h' | exact h' (by rw [h])
      refine ⟨r1, fun k hk => ?_, r3⟩
      show (if g = b ∧ k < (n0 + m) * sz then _ else γ.μ g k) = none
      rw [if_neg (fun h => hgb h.1)]; exact r2 k hk
    · rw [hi] at hq
      injection hq with hq
      obtain ⟨rfl, hq2⟩ := Prod.mk.inj hq
      obtain ⟨rfl, rfl⟩ := Prod.mk.inj hq2
      refine ⟨n0 + m, xs ++ news, ho1, fun g hg => ?_⟩
      rw [hb'] at hg; injection hg with hg; subst hg
      refine ⟨t3, fun k hk => ?_, t5⟩
      show (if b = b ∧ k < (n0 + m) * sz then _ else γ.μ b k) = none
      rw [if_neg (fun h => by omega)]
      exact t4 k (by rw [Nat.add_mul] at hk; omega)
  · have key : ∀ t vt, (live t ∧ some tk ≠ some t) → γ'.τ t = some vt → vt.1.ownBlock = none ∨ vt.1.ownBlock ≠ some b := fun t vt ⟨hl, hne⟩ hq => by
      have htid : t ≠ id := fun h => hlv (h ▸ hl)
      rw [hτ' t htid] at hq
      have := H.tinj t tk vt (v, e, sz) hl hlk (fun h => hne (by rw [h])) hq hτ
      rwa [hb] at this
    rcases hs with hs | rfl <;> rcases ht with ht | rfl
    · have h3 : s ≠ id := fun h => hlv (h ▸ hs.1)
      have h4 : t ≠ id := fun h => hlv (h ▸ ht.1)
      rw [hτ' s h3] at hvs
      rw [hτ' t h4] at hvt
      exact H.tinj s t vs vt hs.1 ht.1 hne hvs hvt
    · have := key s vs hs hvs
      rw [hi] at hvt; injection hvt with hvt; rw [← hvt]
      rwa [hb']
    · have := key t vt ht hvt
      rw [hi] at hvs; injection hvs with hvs; rw [← hvs]
      refine .inr fun h => ?_
      rw [hb'] at h
      rcases this with h' | h' <;> rw [← h] at h' <;> first | cases h' | exact h' rfl
    · exact absurd rfl hne
  · rw [hb'] at h3; injection h3 with h3; subst h3
    exact if_pos ⟨rfl, h4⟩
theorem does_append (H : Hp own hp live γ w) {id : Nat} (h1 : γ.ι id = none) (h2 : γ.τ id = none) (hid : hp id = none) (hlv : ¬ live id) (hown : ∀ b, w.heap.size ≤ b → own b) {o : Oper} {args : Array Operand} {ts : Array TypeId}
    (ho : o.op = .call { callee := .builtin .append, args := args, argTypes := ts }) (e : Operand → AV) (hr : ∀ y ∈ args, RepA γ (e y) (ρ y)) (hk : (appendQ P id (args.toList.map e) ts.toList).ok = true)
    (hob : ∀ z ∈ (appendQ P id (args.toList.map e) ts.toList).ob, z) (hkill : ∀ tk, (appendQ P id (args.toList.map e) ts.toList).kill = some tk → live tk) : Does P own hp live γ w ρ o id (appendQ P id (args.toList.map e) ts.toList) := by
  generalize hq : appendQ P id (args.toList.map e) ts.toList = q at *
  have hqk : q.ok = true := hk
  unfold appendQ at hq
  split at hq
  · rename_i s x t u hargs hts
    obtain ⟨a, b, rfl, ha, hb⟩ := args2 hargs
    have hr1 := hr a (by simp)
    have hr2 := hr b (by simp)
    rw [ha] at hr1
    rw [hb] at hr2
    obtain rfl : ts = #[t, u] := by cases ts; simp_all
    split at hq
    · rename_i htu
      subst htu
      rw [← hq] at hk
      obtain ⟨el, hel, h3⟩ := optQ_ok hk
      rw [h3] at hk hq
      have hu := elemT_some hel
      obtain ⟨⟨sz, m, g⟩, hx, h4⟩ := optQ_ok hk
      rw [h4] at hk hq
      simp only at hk hq
      have exec : ∀ (v' : Value) (w' : World), (Builtin.append_ #[t, t] o.type #[ρ a, ρ b]).run P w = .ok v' w' → (execOp ρ o).run P w = .ok (.value v') w' := fun v' w' h => by
        unfold execOp
        simp only [ho, resolve, invoke, builtin, Sem.run_bind, Sem.run_pure, Result.andThen_ok, List.map_toArray, List.map_cons, List.map_nil]
        rw [h]; rfl
      split at hq
      · rename_i z0 n f r
        cases r with
        | nl =>
          simp only at hq
          split at hq
          · rename_i hn0
            subst hn0
            simp only [RepA, RightOk] at hr1
            unfold appQ at hq
            split at hq
            · rename_i i hi
              split at hq
              · rename_i z hz
                split at hq
                · rename_i hc
                  obtain ⟨c1, c2, c3, c4⟩ := hc
                  subst hq
                  have hby : m * i.bytes ≤ 140737488355328 := hob _ (by simp)
                  obtain ⟨A, c, news, hv, hrd, hone, hel2⟩ := rep_rd H.fz (asSl_some hx hr2) (by omega : sz = i.size ∨ m = 0) c2
                  have hm63 : m ≤ maxLen := by
                    have := hrd.cap; have := hrd.max; omega
                  obtain ⟨v', w', hrun, ho1, ho2, ho3⟩ := run_append_any (P := P) w 0 t o.type el i z i.size i.bytes hu hi hz rfl rfl (by omega) c2 (ρ a) 0 [] (by rw [hr1.2]; exact World.ownsRow_nil w 0 el i.size) A m c news hrd hone (by omega) (by rw [Nat.zero_add]; exact hby) (Nat.zero_le _)
                  rw [hr1.2] at ho2 ho3
                  have hx2 : Ext w w' := ⟨ho2.os, ho2.tape, ho2.output, ho2.size, fun k hk => ho2.block k hk (by simp [Value.ownBlock])⟩
                  simp only [Nat.zero_add, List.nil_append] at ho1
                  obtain ⟨γ', h6⟩ := stp_frozen H h1 h2 hid hlv hown hx2 v' el i.size m news ho1 (fun g hg => by
                      rw [hg] at ho3
                      rcases ho3 with h | h
                      · cases h
                      · injection h with h; omega) (.ap i.size m g (.tok id el)) (fun γ' le hq2 hm => by
                    simp only [RepA, RightOk]
                    refine ⟨rep_of_own ho1 hm fun k hk => ?_, .inl hq2⟩
                    obtain ⟨u, q1, q2, q3, q4⟩ := hel2 k hk
                    exact ⟨u, q1.mono le.μ, q2, q3, q4⟩)
                  exact does_of rfl rfl rfl ⟨v', w', γ', exec v' w' (by rw [hv]; exact hrun), h6⟩
                · subst hq; cases hqk
              · subst hq; cases hqk
            · subst hq; cases hqk
          · subst hq; cases hqk
        | tok tk te =>
          simp only at hq
          simp only [RepA, RightOk] at hr1
          unfold appQ at hq
          split at hq
          · rename_i i hi
            split at hq
            · rename_i z hz
              split at hq
              · rename_i hc
                obtain ⟨c1, c2, c3, c4⟩ := hc
                dsimp only at hq
                split at hq
                · rename_i hte
                  obtain ⟨rfl, rfl⟩ := hte
                  subst hq
                  have hlk : live tk := hkill tk rfl
                  have hby : (n + m) * i.bytes ≤ 140737488355328 := hob _ (by simp)
                  obtain ⟨A, c, news, hv, hrd, hone, hel2⟩ := rep_rd H.fz (asSl_some hx hr2) (by omega : sz = i.size ∨ m = 0) c2
                  have hnm : n + m ≤ maxLen := by
                    have : (n + m) * 1 ≤ (n + m) * i.bytes := Nat.mul_le_mul_left _ c3
                    unfold maxLen; omega
                  obtain ⟨hd, hrt⟩ := hr1
                  have hd2 := hd
                  simp only [Rep] at hd2
                  obtain ⟨A1, cap1, hva, hcap1, _, hd3⟩ := hd2
                  -- what the result reads as
                  have result : ∀ (w' : World) (v' : Value) (xs : List Value), w'.ownsRow 0 te i.size v' (n + m) (xs ++ news) → xs.length = n * i.size →
                      (∀ k, k < n → ∃ u, Rep γ.μ (f k) u ∧ u.cells.size = i.size ∧ (∀ x ∈ u.cells, x.oneCell' = true) ∧ ∀ j, j < i.size → xs[k * i.size + j]? = u.cells[j]?) →
                      ∀ γ' : G, LeG γ γ' → γ'.τ id = some (v', te, i.size) → (∀ g j, v'.ownBlock = some g → j < (n + m) * i.size → γ'.μ g j = w'.cell? ⟨g, j, none⟩) → RepA γ' (.ap i.size (n + m) (appF n f g) (.tok id te)) v' :=
                    fun w' v' xs ho1 hxl hold γ' le hq2 hm => by
                      simp only [RepA, RightOk]
                      refine ⟨rep_of_own ho1 hm fun k hk => ?_, .inl hq2⟩
                      by_cases hkn : k < n
                      · obtain ⟨u, q1, q2, q3, q4⟩ := hold k hkn
                        refine ⟨u, by simpa only [appF, hkn, if_true] using q1.mono le.μ, q2, q3, fun j hj => ?_⟩
                        have hlt : k * i.size + j < xs.length := by
                          rw [hxl]
                          have : (k + 1) * i.size ≤ n * i.size := Nat.mul_le_mul_right _ hkn
                          rw [Nat.add_mul] at this; omega
                        rw [List.getElem?_append_left hlt]; exact q4 j hj
                      · obtain ⟨u, q1, q2, q3, q4⟩ := hel2 (k - n) (by omega)
                        refine ⟨u, by simpa only [appF, hkn, if_false] using q1.mono le.μ, q2, q3, fun j hj => ?_⟩
                        have e1 : k * i.size + j = xs.length + ((k - n) * i.size + j) := by
                          rw [hxl, ← Nat.add_assoc, ← Nat.add_mul]; congr 2; omega
                        rw [e1, List.getElem?_append_right (by omega), Nat.add_sub_cancel_left]; exact q4 j hj
                  by_cases hnil : ρ a = .slice none 0 0
                  · have hn0 : n = 0 := by rw [hnil] at hva; injection hva with _ h _; exact h.symm
                    subst hn0
                    obtain ⟨v', w', hrun, ho1, ho2, ho3⟩ := run_append_any (P := P) w 0 t o.type te i z i.size i.bytes hu hi hz rfl rfl (by omega) c2 (ρ a) 0 [] (by rw [hnil]; exact World.ownsRow_nil w 0 te i.size) A m c news hrd hone (by omega) hby (Nat.zero_le _)
                    rw [hnil] at ho2 ho3
                    have hx2 : Ext w w' := ⟨ho2.os, ho2.tape, ho2.output, ho2.size, fun k hk => ho2.block k hk (by simp [Value.ownBlock])⟩
                    obtain ⟨γ', h6⟩ := stp_frozen H h1 h2 hid hlv hown hx2 v' te i.size (0 + m) ([] ++ news) ho1 (fun g hg => by
                      rw [hg] at ho3
                      rcases ho3 with h | h
                      · cases h
                      · injection h with h; omega) _ (result w' v' [] ho1 (by simp) (fun k hk => absurd hk (by omega)))
                    refine ⟨v', w', γ', .inl (exec v' w' (by rw [hv]; exact hrun)), (show Stp own hp live γ w id _ _ _ v' γ' w' from h6).lives fun t ht => ?_⟩
                    rcases ht with ht | ht
                    · exact .inl ht.1
                    · exact .inr ht
                  · have hτ : γ.τ tk = some (ρ a, te, i.size) := hrt.resolve_right hnil
                    obtain ⟨n0, xs, ow, _⟩ := H.tok tk _ _ _ hlk hτ
                    rcases ow.2 with ⟨h, _⟩ | ⟨b0, cap, cur, hvb, _, hhb, hcc, _, hcs, htk⟩
                    · exact absurd h hnil
                    · rw [hva] at hvb
                      injection hvb with e1 e2 e3
                      subst e1 e2 e3
                      rw [hva] at ow
                      have hold : ∀ k, k < n → ∃ u, Rep γ.μ (f k) u ∧ u.cells.size = i.size ∧ (∀ x ∈ u.cells, x.oneCell' = true) ∧ ∀ j, j < i.size → xs[k * i.size + j]? = u.cells[j]? := fun k hk => by
                        obtain ⟨b1, o1, e1, h9⟩ := hd3 (by omega)
                        injection e1 with e1
                        injection e1 with e1 e2
                        subst e1 e2
                        obtain ⟨u, q1, q2, q3, q4⟩ := h9 k hk
                        refine ⟨u, q1, q2, q3, fun j hj => ?_⟩
                        have hlt : k * i.size + j < xs.length := by
                          rw [ow.1]
                          have : (k + 1) * i.size ≤ n * i.size := Nat.mul_le_mul_right _ hk
                          rw [Nat.add_mul] at this; omega
                        have hju : j < u.cells.size := by rw [q2]; exact hj
                        have c1 := q4 j hj
                        rw [Nat.zero_add, Array.getElem?_eq_getElem hju] at c1
                        have c2' := H.fz _ _ _ c1
                        have c3' := ow.cells (g := b0) rfl _ _ (List.getElem?_eq_getElem hlt)
                        rw [cell_mid, Nat.zero_add, c2'] at c3'
                        rw [List.getElem?_eq_getElem hlt, Array.getElem?_eq_getElem hju]
                        injection c3' with c3'
                        rw [c3']
                      obtain ⟨v', w', hrun, ho1, ho3⟩ := run_append_split (P := P) (w := w) t o.type te i z i.size i.bytes hu hi hz rfl rfl (by omega) c2 b0 n cap1 xs ow A m c news hrd hone hnm hby
                      have run2 := exec v' w' (by rw [hva, hv]; exact hrun)
                      rw [hva] at hτ
                      rcases ho3 with ⟨o3, o4⟩ | ⟨o3, o4⟩
                      · obtain ⟨γ', h6⟩ := stp_inplace H h1 h2 hlv hlk hτ rfl o3 (fun n1 xs1 h => by
                          rcases h.2 with ⟨h', _⟩ | ⟨_, _, _, h', _⟩
                          · cases h'
                          · injection h' with _ h' _; exact h'.symm) ow ho1 o4 _ (result w' v' xs ho1 ow.1 hold)
                        refine ⟨v', w', γ', .inl run2, (show Stp own hp live γ w id _ _ _ v' γ' w' from h6).lives fun t ht => ?_⟩
                        rcases ht with ht | ht
                        · exact .inl ht
                        · exact .inr ht.2
                      · obtain ⟨γ', h6⟩ := stp_frozen H h1 h2 hid hlv hown o4 v' te i.size (n + m) (xs ++ news) ho1 (fun g hg => by rw [o3] at hg; injection hg with hg; omega) _ (result w' v' xs ho1 ow.1 hold)
                        refine ⟨v', w', γ', .inl run2, (show Stp own hp live γ w id _ _ _ v' γ' w' from h6).lives fun t ht => ?_⟩
                        rcases ht with ht | ht
                        · exact .inl ht.1
                        · exact .inr ht
                · subst hq; cases hqk
              · subst hq; cases hqk
            · subst hq; cases hqk
          · subst hq; cases hqk
      · subst hq; cases hqk
    · subst hq; cases hk
  · subst hq; cases hk
theorem made_get (z0 : Value) (n k : Nat) (h : k < n) : (madeCells #[z0] n)[k]? = some z0 := by
  simp [madeCells, h, Nat.mod_one]
theorem does_makeSlice (H : Hp own hp live γ w) {id : Nat} (h1 : γ.ι id = none) (h2 : γ.τ id = none) (hid : hp id = none) (hlv : ¬ live id) (hown : ∀ b, w.heap.size ≤ b → own b) {o : Oper} {t : TypeId} {l c : Operand}
    (ho : o.op = .makeSlice t l c) {p q : AV} (hl : RepA γ p (ρ l)) (hc : RepA γ q (ρ c)) (hk : (makeSliceQ P id t p q).quiet.ok = true) (hob : ∀ z ∈ (makeSliceQ P id t p q).quiet.ob, z) : Does P own hp live γ w ρ o id (makeSliceQ P id t p q).quiet := by
  refine does_of rfl rfl rfl ?_
  unfold execOp
  simp only [ho]
  unfold makeSliceQ at hk hob ⊢
  obtain ⟨el, hel, h3⟩ := optQ_ok hk
  rw [h3] at hk hob ⊢
  obtain ⟨n, hn, h4⟩ := optQ_ok hk
  rw [h4] at hk hob ⊢
  obtain ⟨m, hm, h5⟩ := optQ_ok hk
  rw [h5] at hk hob ⊢
  obtain ⟨z, hz, h6⟩ := optQ_ok hk
  rw [h6] at hk hob ⊢
  obtain ⟨i, hi, h7⟩ := optQ_ok hk
  rw [h7] at hk hob ⊢
  have hu := elemT_some hel
  obtain ⟨i', zv, hi', hzv, rfl⟩ := zeroA_some hz
  obtain rfl : i' = i := by rw [hi] at hi'; injection hi' with hi'; exact hi'.symm
  obtain ⟨k1, hk1⟩ := asInt_some hn hl
  obtain ⟨k2, hk2⟩ := asInt_some hm hc
  split at hk
  · rename_i zd hzd
    split at hk
    · rename_i hc2
      obtain ⟨c1, c2⟩ := hc2
      simp only [Q.quiet, hzd, c1, c2, and_self, if_true, List.mem_cons, List.not_mem_nil, or_false, forall_eq_or_imp, forall_eq] at hob ⊢
      obtain ⟨o1, rfl, o3, o4⟩ := hob
      obtain ⟨nn, rfl⟩ := Int.eq_ofNat_of_zero_le o1
      have hcell : zv.cells.toList.map constA = [.d zd] := by have := unD_some hzd; simpa using this
      obtain ⟨z0, hz0, hzz⟩ : ∃ z0, zv.cells = #[z0] ∧ constA z0 = .d zd := by
        have hl := congrArg List.length hcell
        simp only [List.length_map, Array.length_toList, List.length_cons, List.length_nil] at hl
        refine ⟨zv.cells[0], by apply Array.ext (by simpa using hl); intro j h1 h2; simp at h2; subst h2; rfl, ?_⟩
        have := congrArg (·[0]?) hcell
        simpa [hl] using this
      have hrep : ∀ γ' : G, Rep γ'.μ zd z0 := fun γ' => by have := rep_const (γ := γ') z0; rw [hzz] at this; simpa only [RepA] using this
      have hrun := run_make w t el i' zv hu hi hzv k1 k2 (nn : Int) (nn : Int) (by omega) (by omega) (by rw [Int.mul_comm]; omega) (by omega)
      rw [c1, Nat.mul_one, Int.toNat_natCast] at hrun
      obtain ⟨γ', h8⟩ := stp_new H h1 h2 hid hlv hown (.arr 1 nn fun _ => zd) (.cells (madeCells zv.cells nn) el) (fun γ' _ => ⟨madeCells zv.cells nn, el, rfl, by rw [size_madeCells]; omega, fun k hk => ⟨z0, hrep γ', by
          obtain ⟨_, b, _⟩ := (hrep γ').cells_one c2
          rw [b]; rfl, by
          obtain ⟨a, b, _⟩ := (hrep γ').cells_one c2
          intro x hx; rw [b] at hx; simp at hx; rw [hx]; exact a, fun j hj => by
          obtain ⟨_, b, _⟩ := (hrep γ').cells_one c2
          obtain rfl : j = 0 := by omega
          rw [b, hz0, Nat.mul_one, Nat.add_zero, made_get _ _ _ hk]; rfl⟩⟩)
        (.arr id 1 nn) (.slice (some ⟨w.heap.size, 0, none⟩) nn nn) (fun γ' e => by simp only [RepA]; exact ⟨_, nn, e, rfl, Nat.le_refl _, by unfold maxLen; omega⟩)
      refine ⟨_, _, γ', ?_, by simpa using h8⟩
      rw [hk1, hk2, Sem.run_bind, hrun]; rfl
    · cases hk
  · cases hk
end Go.Av
