/- What is to be shown of a region, and of code, that it runs as told. -/
import Derived.Test.YtlpdcjbkbcmahaaGreatDoorAvReg
set_option linter.unusedVariables false
set_option linter.unusedSimpArgs false
namespace Go.Av
open Go.RowKit Go.Base

/-- What a temporary holds in the midst of a region: under a guard (operation, wanted), with the guard's truth. -/
structure LE where
  g : Option (Nat × Bool)
  G : Bool
  v : AV
def lookE (fr : List (Nat × AV)) : List (Nat × LE) → Nat → LE
  | [], t => ⟨none, true, look fr t⟩
  | (i, x) :: l, t => if i = t then x else lookE fr l t
def evE (E : Nat → LE) : Operand → AV
  | .tmp t => (E t).v
  | .const v => constA v
  | .func f => .fn f []
  | .global _ => .any
def guardVal (want : Bool) : LE → Option Bool
  | ⟨none, _, .d (.bool b)⟩ => some (if want then b else !b)
  | ⟨some _, G, .d (.bool b)⟩ => some (G && if want then b else !b)
  | _ => none
def guardOf (ops : List Oper) (E : Nat → LE) (g : Nat × Bool) : Option Bool :=
  match ops[g.1]? with
  | some o => match o.dst with
    | some t => guardVal g.2 (E t)
    | none => none
  | none => none
def readOk1 (E : Nat → LE) (g : Option (Nat × Bool)) : Operand → Bool
  | .tmp t => (E t).g == none || (E t).g == g
  | _ => true
def isDst (ops : List Oper) (j : Nat) (c : Operand) : Bool :=
  match ops[j]?, c with
  | some o, .tmp t => o.dst == some t
  | _, _ => false
def armOk (ops : List Oper) (E : Nat → LE) (g : Option (Nat × Bool)) (c : Operand) (want : Bool) (x : Operand) : Bool :=
  readOk1 E g x || match x with
  | .tmp t => (match (E t).g with | some (j, w) => w == want && isDst ops j c | none => false)
  | _ => false
def readOk (ops : List Oper) (E : Nat → LE) (o : Oper) : Bool :=
  match o.op with
  | .pick c a b => readOk1 E o.guard c && (armOk ops E o.guard c true a && armOk ops E o.guard c false b)
  | op => op.operands.toList.all (readOk1 E o.guard)
def obs : List Prop → Prop → Prop
  | [], R => R
  | p :: l, R => p ∧ obs l R
def obsG (G : Bool) : List Prop → Prop → Prop
  | [], R => R
  | p :: l, R => (G = true → p) ∧ obsG G l R
def addH (id : Nat) (q : Q) (hp : List (Nat × Ob)) : List (Nat × Ob) :=
  match q.mo with
  | some t => t.ups ++ hp
  | none =>
  let base := match q.new with | some o => (id, o) :: hp | none => hp
  match q.upd with | some (d, o) => (d, o) :: base | none => base
def killT (q : Q) (live : List Nat) : List Nat := match q.kill with | some k => live.filter (· != k) | none => live
def addT (id : Nat) (q : Q) (live : List Nat) : List Nat := match q.mo with
  | some t => t.toks ++ live.filter (fun s => !t.lv.contains s)
  | none => if q.tok then id :: killT q live else killT q live
/-- An argument as data; own rows are lent for the call. -/
def lend1 (hp : Nat → Option Ob) : AV → Option D
  | .arr id sz _ => match hp id with
    | some (.arr s k f) => if s = sz then some (.sl sz k f) else none
    | _ => none
  | .vec id sz _ => match hp id with
    | some (.vec _ s k f) => if s = sz then some (.sl sz k f) else none
    | _ => none
  | x => coldA x
def lendL (hp : Nat → Option Ob) : List AV → Option (List D)
  | [] => some []
  | x :: l => match lend1 hp x with
    | some d => (lendL hp l).map (d :: ·)
    | none => none
def lendD (hp : Nat → Option Ob) : AV → Option D
  | .agg l => (lendL hp l).map .agg
  | x => lend1 hp x
def lendOb1 (hp : Nat → Option Ob) : List AV → List Prop
  | [] => []
  | .arr id _ n :: l => match hp id with
    | some (.arr _ k _) => (n = k) :: lendOb1 hp l
    | _ => lendOb1 hp l
  | _ :: l => lendOb1 hp l
def lendOb (hp : Nat → Option Ob) : List AV → List Prop
  | [] => []
  | .agg c :: l => lendOb1 hp c ++ lendOb hp l
  | .arr id sz n :: l => lendOb1 hp [.arr id sz n] ++ lendOb hp l
  | _ :: l => lendOb hp l
def isRow : AV → Bool
  | .arr .. => true
  | .vec .. => true
  | _ => false
def isArr : AV → Bool
  | .agg l => l.any isRow
  | x => isRow x
def argsD (hp : Nat → Option Ob) : List AV → Option (List D)
  | [] => some []
  | x :: l => match lendD hp x with
    | some d => (argsD hp l).map (d :: ·)
    | none => none
mutual
def flat : D → Bool
  | .bool _ => true
  | .int .. => true
  | .str _ => true
  | .agg l => flatL l
  | .tup l => flatL l
  | _ => false
def flatL : List D → Bool
  | [] => true
  | x :: l => flat x && flatL l
end
def pureCall (e : Operand → AV) (hp : Nat → Option Ob) : Op → Option (FuncId × List D × Bool × List Prop)
  | .call { callee := .value (.func f), args, .. } => (argsD hp (args.toList.map e)).map fun ds => (f, ds, (args.toList.map e).any isArr, lendOb hp (args.toList.map e))
  | _ => none
def isCall : Op → Bool
  | .call { callee := .value _, .. } => true
  | _ => false
/-- Without the right to append. -/
def Q.cold (q : Q) : Q := match q.v with
  | .ap sz n f (.tok ..) => if q.kill.isNone then { q with v := .d (.sl sz n f), tok := false } else q
  | _ => q
def lookOT : List (Nat × OT) → Nat → Option OT
  | [], _ => none
  | (i, v) :: l, t => if i = t then some v else lookOT l t
/-- What the calls of a region leave. -/
structure Cs where
  d : List (Nat × D)
  o : List (Nat × OT)
  /-- appends that make an own row -/
  a : List Nat
def isApp : Op → Bool
  | .call { callee := .builtin .append, .. } => true
  | _ => false
def rowQ (P : Program) (id : Nat) (e : Operand → AV) : Op → Q
  | .call { callee := .builtin .append, args, argTypes } => appendRowQ P id (args.toList.map e) argTypes.toList
  | _ => .no
def vecQC (P : Program) (hp : Nat → Option Ob) (id : Nat) (e : Operand → AV) : Op → Q
  | .call { callee := .builtin .append, args, argTypes } => vecQ P hp id (args.toList.map e) argTypes.toList
  | _ => .no
def callOf (e : Operand → AV) : Op → Option (FuncId × List AV)
  | .call { callee := .value (.func f), args, .. } => some (f, args.toList.map e)
  | .call { callee := .value (.tmp t), args, .. } => match e (.tmp t) with
    | .fn f c => some (f, args.toList.map e ++ c)
    | _ => none
  | _ => none
/-- These objects, and no others. -/
def Ups (hp : Nat → Option Ob) (l : List (Nat × Ob)) : Nat → Option Ob := fun j => match lookO l j with | some o => some o | none => hp j
def Lvs (live : Nat → Prop) (lv toks : List Nat) : Nat → Prop := fun s => (live s ∧ ¬ s ∈ lv) ∨ s ∈ toks
def There (hp : Nat → Option Ob) : List (Nat × Option Ob) → Prop
  | [] => True
  | (i, o) :: l => hp i = o ∧ There hp l
/-- Function f, called on these values with these objects and rights (among others), leaves t; names from id on are new. -/
def ObjL (P : Program) (f : FuncId) (xs : List AV) (hl : List (Nat × Option Ob)) (id : Nat) (t : OT) : Prop :=
  Callable P f ∧ ∀ (own : Nat → Prop) (hp : Nat → Option Ob) (live : Nat → Prop) (γ : G) (w : World) (vs : List Value), Hp own hp live γ w → There hp hl → (∀ s ∈ t.lv, live s) → (∀ b, w.heap.size ≤ b → own b) →
    (∀ j, id ≤ j → j < id + 16 → γ.ι j = none ∧ γ.τ j = none ∧ hp j = none ∧ ¬ live j) → RepAL γ xs vs →
    Calls P f vs.toArray w fun e w' => ∃ v γ', e = .returned v ∧ Stp own hp live γ w id (Ups hp t.ups) (Lvs live t.lv t.toks) t.r v γ' w'

def okT (hp : Nat → Option Ob) (id : Nat) (t : OT) : Bool :=
  (t.ids.all fun i => (hp i).isSome) && ((t.ups.all fun p => t.ids.contains p.1 || (decide (id ≤ p.1) && decide (p.1 < id + 16))) && t.toks.all fun s => decide (id ≤ s) && decide (s < id + 16))
def qopC (P : Program) (cs : Cs) (o : Oper) (e : Operand → AV) (hp : Nat → Option Ob) (id : Nat) : Q :=
  if isCall o.op then
    match lookOT cs.o id with
    | some t => (match callOf e o.op with
      | some (f, xs) => { ok := okT hp id t, ob := [ObjL P f xs (t.ids.map fun i => (i, hp i)) id t], v := t.r, mo := some t }
      | none => .no)
    | none =>
    match pureCall e hp o.op, o.dst with
    | some (f, ds, b, ob), some t => if b && !flat (lookD cs.d t) then .no else .when (ob ++ [PureAt P f ds (lookD cs.d t)]) (.d (lookD cs.d t))
    | _, _ => .no
  else if cs.a.contains id then rowQ P id e o.op
  else if cs.a.contains (id + 1) then vecQC P hp id e o.op
  else if o.guard.isSome then (qop P o.op e hp id).cold else qop P o.op e hp id
theorem appQ_mo0 {P : Program} {el : TypeId} {sz m : Nat} {k : Nat → Nat → Q} (h : ∀ a b, (k a b).mo = none ∧ (k a b).upd = none) : (appQ P el sz m k).mo = none ∧ (appQ P el sz m k).upd = none := by
  unfold appQ
  split
  · split
    · split
      · exact h _ _
      · exact ⟨rfl, rfl⟩
    · exact ⟨rfl, rfl⟩
  · exact ⟨rfl, rfl⟩
theorem optQ_mo0 {α : Type} {x : Option α} {f : α → Q} (h : ∀ a, (f a).mo = none ∧ (f a).upd = none) : (optQ x f).mo = none ∧ (optQ x f).upd = none := by
  cases x with
  | none => exact ⟨rfl, rfl⟩
  | some a => exact h a
theorem rowQ_mo0 (P : Program) (id : Nat) (e : Operand → AV) (o : Op) : (rowQ P id e o).mo = none ∧ (rowQ P id e o).upd = none := by
  unfold rowQ
  split
  · unfold appendRowQ
    split
    · split
      · refine optQ_mo0 fun el => optQ_mo0 fun p => ?_
        obtain ⟨z, m, g⟩ := p
        dsimp only
        split
        · split
          · split
            · exact appQ_mo0 fun _ _ => ⟨rfl, rfl⟩
            · exact ⟨rfl, rfl⟩
          · split
            · refine appQ_mo0 fun _ _ => ?_
              split <;> exact ⟨rfl, rfl⟩
            · exact ⟨rfl, rfl⟩
        · exact ⟨rfl, rfl⟩
      · exact ⟨rfl, rfl⟩
    · exact ⟨rfl, rfl⟩
  · exact ⟨rfl, rfl⟩
theorem appQ_all {P : Program} {el : TypeId} {sz m : Nat} {k : Nat → Nat → Q} {p : Q → Prop} (h : ∀ a b, p (k a b)) (h0 : p .no) : p (appQ P el sz m k) := by
  unfold appQ
  split
  · split
    · split
      · exact h _ _
      · exact h0
    · exact h0
  · exact h0
theorem optQ_all {α : Type} {x : Option α} {f : α → Q} {p : Q → Prop} (h : ∀ a, p (f a)) (h0 : p .no) : p (optQ x f) := by
  cases x with
  | none => exact h0
  | some a => exact h a
theorem vecQC_all (P : Program) (hp : Nat → Option Ob) (id : Nat) (e : Operand → AV) (o : Op) : (vecQC P hp id e o).mo = none ∧ (vecQC P hp id e o).kill = none ∧ (vecQC P hp id e o).tok = false ∧ ∀ d ob, (vecQC P hp id e o).upd = some (d, ob) → ∃ o', hp d = some o' := by
  have h0 : (Q.no).mo = none ∧ (Q.no).kill = none ∧ (Q.no).tok = false ∧ ∀ d ob, (Q.no).upd = some (d, ob) → ∃ o', hp d = some o' := ⟨rfl, rfl, rfl, fun _ _ h => by cases h⟩
  unfold vecQC
  split
  · unfold vecQ
    split
    · split
      · refine optQ_all (p := fun q => q.mo = none ∧ q.kill = none ∧ q.tok = false ∧ ∀ d ob, q.upd = some (d, ob) → ∃ o', hp d = some o') (fun el => optQ_all (p := fun q => q.mo = none ∧ q.kill = none ∧ q.tok = false ∧ ∀ d ob, q.upd = some (d, ob) → ∃ o', hp d = some o') (fun p => ?_) h0) h0
        obtain ⟨z, m, g⟩ := p
        dsimp only
        split
        · split
          · split
            · exact appQ_all (p := fun q => q.mo = none ∧ q.kill = none ∧ q.tok = false ∧ ∀ d ob, q.upd = some (d, ob) → ∃ o', hp d = some o') (fun _ _ => ⟨rfl, rfl, rfl, fun _ _ h => by cases h⟩) h0
            · exact h0
          · exact h0
        · split
          · rename_i hd
            refine appQ_all (p := fun q => q.mo = none ∧ q.kill = none ∧ q.tok = false ∧ ∀ d ob, q.upd = some (d, ob) → ∃ o', hp d = some o') (fun _ _ => ?_) h0
            split
            · refine ⟨rfl, rfl, rfl, fun d ob h => ?_⟩
              simp only [Option.some.injEq, Prod.mk.injEq] at h
              exact ⟨_, by rw [← h.1]; exact hd⟩
            · exact h0
          · exact h0
        · exact h0
      · split
        · refine optQ_all (p := fun q => q.mo = none ∧ q.kill = none ∧ q.tok = false ∧ ∀ d ob, q.upd = some (d, ob) → ∃ o', hp d = some o') (fun el => ?_) h0
          split
          · unfold vecStrQ
            split
            · split
              · split
                · exact ⟨rfl, rfl, rfl, fun _ _ h => by cases h⟩
                · exact h0
              · exact h0
            · split
              · rename_i hd
                split
                · refine ⟨rfl, rfl, rfl, fun d ob h => ?_⟩
                  simp only [Option.some.injEq, Prod.mk.injEq] at h
                  exact ⟨_, by rw [← h.1]; exact hd⟩
                · exact h0
              · exact h0
            · exact h0
          · exact h0
        · exact h0
    · exact h0
  · exact h0
theorem rowQ_mo (P : Program) (id : Nat) (e : Operand → AV) (o : Op) : (rowQ P id e o).mo = none := (rowQ_mo0 P id e o).1
theorem Q.cold_mo (q : Q) : q.cold.mo = q.mo := by
  unfold Q.cold
  split
  · split <;> rfl
  · rfl
theorem optQ_mo {α : Type} {x : Option α} {f : α → Q} (h : ∀ a, (f a).mo = none) : (optQ x f).mo = none := by
  cases x with
  | none => rfl
  | some a => exact h a
theorem appQ_mo {P : Program} {el : TypeId} {sz m : Nat} {k : Nat → Nat → Q} (h : ∀ a b, (k a b).mo = none) : (appQ P el sz m k).mo = none := by
  unfold appQ
  split
  · split
    · split
      · exact h _ _
      · rfl
    · rfl
  · rfl
theorem qop_mo (P : Program) (o : Op) (e : Operand → AV) (hp : Nat → Option Ob) (id : Nat) : (qop P o e hp id).mo = none := by
  unfold qop
  split <;> try rfl
  · split <;> rfl
  · unfold storeQ
    split
    · split
      · split <;> rfl
      · rfl
    · split
      · split <;> rfl
      · rfl
    · split
      · split <;> rfl
      · rfl
    · rfl
  · unfold mapUpdateQ
    refine optQ_mo fun p => ?_
    obtain ⟨k, e⟩ := p
    dsimp only
    split
    · split
      · split <;> rfl
      · rfl
    · rfl
  · unfold copyQ
    split
    · refine optQ_mo fun el => optQ_mo fun p => ?_
      obtain ⟨z, m, g⟩ := p
      dsimp only
      split
      · split
        · split <;> rfl
        · rfl
      · rfl
    · rfl
  · unfold appendQ
    split
    · split
      · refine optQ_mo fun el => optQ_mo fun p => ?_
        obtain ⟨z, m, g⟩ := p
        dsimp only
        split
        · split
          · split
            · exact appQ_mo fun _ _ => rfl
            · rfl
          · refine appQ_mo fun _ _ => ?_
            split <;> rfl
        · rfl
      · rfl
    · rfl
theorem okT_spec {hp : Nat → Option Ob} {id : Nat} {t : OT} (h : okT hp id t = true) : (∀ i ∈ t.ids, ∃ o, hp i = some o) ∧ (∀ p ∈ t.ups, p.1 ∈ t.ids ∨ (id ≤ p.1 ∧ p.1 < id + 16)) ∧ ∀ s ∈ t.toks, id ≤ s ∧ s < id + 16 := by
  unfold okT at h
  simp only [Bool.and_eq_true, List.all_eq_true, Bool.or_eq_true, List.contains_eq_mem, decide_eq_true_eq] at h
  exact ⟨fun i hi => Option.isSome_iff_exists.1 (h.1 i hi), h.2.1, h.2.2⟩
theorem lookO_mem : ∀ {l : List (Nat × Ob)} {t : Nat} {o : Ob}, lookO l t = some o → (t, o) ∈ l
  | [], _, _, h => by cases h
  | (i, v) :: l, t, o, h => by
    simp only [lookO] at h
    split at h
    · rename_i e; injection h with h; subst e h; simp
    · exact List.mem_cons_of_mem _ (lookO_mem h)
/-- A name that is new stays new. -/
theorem ups_none {hp : Nat → Option Ob} {id j : Nat} {t : OT} (h : okT hp id t = true) (hj : hp j = none) (hne : j < id ∨ id + 16 ≤ j) : Ups hp t.ups j = none := by
  obtain ⟨h1, h2, _⟩ := okT_spec h
  unfold Ups
  cases hl : lookO t.ups j with
  | none => exact hj
  | some o =>
    rcases h2 _ (lookO_mem hl) with h | h
    · obtain ⟨o', ho⟩ := h1 _ h
      rw [hj] at ho; cases ho
    · simp only at h; omega
theorem lvs_none {live : Nat → Prop} {hp : Nat → Option Ob} {id j : Nat} {t : OT} (h : okT hp id t = true) (hj : ¬ live j) (hne : j < id ∨ id + 16 ≤ j) : ¬ Lvs live t.lv t.toks j := by
  obtain ⟨_, _, h3⟩ := okT_spec h
  rintro (⟨h, _⟩ | h)
  · exact hj h
  · have := h3 _ h; omega
theorem qopC_mo {P : Program} {cs : Cs} {o : Oper} {e : Operand → AV} {hp : Nat → Option Ob} {id : Nat} {t : OT} (hok : (qopC P cs o e hp id).ok = true) (h : (qopC P cs o e hp id).mo = some t) : okT hp id t = true := by
  unfold qopC at hok h
  split at hok
  · rename_i hc
    simp only [hc, if_true] at h
    split at hok
    · rename_i t' ht
      simp only [ht] at h
      split at hok
      · rename_i f xs hcal
        simp only [hcal, Option.some.injEq] at h
        subst h; exact hok
      · cases hok
    · rename_i ht
      simp only [ht] at h
      split at h
      · split at h <;> cases h
      · cases h
  · rename_i hc
    rw [if_neg hc] at h
    split at h
    · rw [rowQ_mo] at h; cases h
    split at h
    · rw [(vecQC_all P hp id e o.op).1] at h; cases h
    have hq : (qop P o.op e hp id).mo = some t := by
      cases hg : o.guard.isSome
      · rw [hg] at h; exact h
      · rw [hg] at h
        simp only [if_true] at h
        rwa [Q.cold_mo] at h
    rw [qop_mo] at hq; cases hq
theorem qopC_mo_kill {P : Program} {cs : Cs} {o : Oper} {e : Operand → AV} {hp : Nat → Option Ob} {id tk : Nat} {t : OT} (h : (qopC P cs o e hp id).mo = some t) : (qopC P cs o e hp id).kill ≠ some tk := by
  unfold qopC at h ⊢
  split at h
  · rename_i hc
    rw [if_pos hc]
    split at h
    · rename_i t' ht
      split at h
      · intro h; cases h
      · cases h
    · split at h
      · split at h <;> cases h
      · cases h
  · rename_i hc
    rw [if_neg hc]
    split at h
    · rw [rowQ_mo] at h; cases h
    split at h
    · rw [(vecQC_all P hp id e o.op).1] at h; cases h
    have hq : (qop P o.op e hp id).mo = some t := by
      cases hg : o.guard.isSome
      · rw [hg] at h; exact h
      · rw [hg] at h
        simp only [if_true] at h
        rwa [Q.cold_mo] at h
    rw [qop_mo] at hq; cases hq
theorem Q.cold_ok (q : Q) : q.cold.ok = q.ok := by
  unfold Q.cold
  split
  · split <;> rfl
  · rfl
theorem Q.cold_ob (q : Q) : q.cold.ob = q.ob := by
  unfold Q.cold
  split
  · split <;> rfl
  · rfl
theorem Q.cold_kill (q : Q) : q.cold.kill = q.kill := by
  unfold Q.cold
  split
  · split <;> rfl
  · rfl
theorem Q.cold_upd (q : Q) : q.cold.upd = q.upd := by
  unfold Q.cold
  split
  · split <;> rfl
  · rfl
def killOk (q : Q) (live : List Nat) : Bool := (match q.mo with | some t => t.lv.all live.contains | none => true) && match q.kill with | some k => live.contains k | none => true
def Q.plain (q : Q) : Bool := q.new.isNone && !q.tok && q.upd.isNone && q.kill.isNone && q.mo.isNone

structure LS where
  lf : List (Nat × LE)
  hp : List (Nat × Ob)
  live : List Nat
def putL (o : Oper) (x : LE) (lf : List (Nat × LE)) : List (Nat × LE) := match o.dst with | some t => (t, x) :: lf | none => lf
def LS.step (s : LS) (o : Oper) (id : Nat) (q : Q) (g : Option (Nat × Bool)) (G : Bool) : LS := ⟨putL o ⟨g, G, q.v⟩ s.lf, addH id q s.hp, addT id q s.live⟩
def LS.skip (s : LS) (o : Oper) : LS := ⟨putL o ⟨none, true, .any⟩ s.lf, s.hp, s.live⟩

/-- One operation after the other. -/
def vcOps (P : Program) (cs : Cs) (ops : List Oper) (fr : List (Nat × AV)) (nx : Nat) : Nat → List Oper → LS → (LS → Prop) → Prop
  | _, [], s, K => K s
  | i, o :: l, s, K =>
    if (readOk ops (lookE fr s.lf) o && ((qopC P cs o (evE (lookE fr s.lf)) (lookO s.hp) (nx + 16 * i)).ok && killOk (qopC P cs o (evE (lookE fr s.lf)) (lookO s.hp) (nx + 16 * i)) s.live)) = false then
      (match o.guard with
      | none => False
      | some g => if g.1 < i then
        match guardOf ops (lookE fr s.lf) g with
        | none => False
        | some G => (G = true → False) ∧ (G = false → vcOps P cs ops fr nx (i + 1) l (s.skip o) K)
        else False) else
    if readOk ops (lookE fr s.lf) o = false then False else
    if (qopC P cs o (evE (lookE fr s.lf)) (lookO s.hp) (nx + 16 * i)).ok = false then False else
    if killOk (qopC P cs o (evE (lookE fr s.lf)) (lookO s.hp) (nx + 16 * i)) s.live = false then False else
    match o.guard with
    | none => obs (qopC P cs o (evE (lookE fr s.lf)) (lookO s.hp) (nx + 16 * i)).ob
        (vcOps P cs ops fr nx (i + 1) l (s.step o (nx + 16 * i) (qopC P cs o (evE (lookE fr s.lf)) (lookO s.hp) (nx + 16 * i)) none true) K)
    | some g => if g.1 < i then
      match guardOf ops (lookE fr s.lf) g with
      | none => False
      | some G =>
        if (qopC P cs o (evE (lookE fr s.lf)) (lookO s.hp) (nx + 16 * i)).plain = true then
          obsG G (qopC P cs o (evE (lookE fr s.lf)) (lookO s.hp) (nx + 16 * i)).ob
            (vcOps P cs ops fr nx (i + 1) l (s.step o (nx + 16 * i) (qopC P cs o (evE (lookE fr s.lf)) (lookO s.hp) (nx + 16 * i)) (some g) G) K)
        else
          (G = true → obs (qopC P cs o (evE (lookE fr s.lf)) (lookO s.hp) (nx + 16 * i)).ob
            (vcOps P cs ops fr nx (i + 1) l (s.step o (nx + 16 * i) (qopC P cs o (evE (lookE fr s.lf)) (lookO s.hp) (nx + 16 * i)) none true) K)) ∧
          (G = false → vcOps P cs ops fr nx (i + 1) l (s.skip o) K)
      else False

/-! ### The state of the world in the midst of a region -/
/-- What is known at the call, and the activation's deferred calls. -/
structure G0 where
  g : G
  df : List Deferred
variable {P : Program} {γ γ' : G} {w w' w0 : World} {own : Nat → Prop} {hp : Nat → Option Ob} {live : Nat → Prop} {ops : List Oper} {N : Nat} {μ0 : G0}

def EOk (ops : List Oper) (γ : G) (tmps : Array Value) (x : LE) (t : Nat) : Prop :=
  match x.g with
  | none => RepA γ x.v (tmps.getD t undef)
  | some (j, want) => (yielded ops.toArray tmps j = some want ∧ x.G = true ∧ RepA γ x.v (tmps.getD t undef)) ∨ (yielded ops.toArray tmps j ≠ some want ∧ x.G = false ∧ tmps.getD t undef = undef)
/-- What is kept since the call: cells that no one writes, and the names of the arguments' objects (below 16). -/
structure Keep (own : Nat → Prop) (w0 : World) (g0 : G0) (γ : G) : Prop where
  mu : ∀ b o, b < w0.heap.size → ¬ own b → γ.μ b o = g0.g.μ b o
  le : LeM g0.g.μ γ.μ
  pin : ∀ i b, i < 16 → g0.g.ι i = some b → γ.ι i = some b
theorem Keep.refl (own : Nat → Prop) (w0 : World) (γ : G) (df : List Deferred) : Keep own w0 ⟨γ, df⟩ γ := ⟨fun _ _ _ _ => rfl, LeM.refl _, fun _ _ _ h => h⟩
theorem Keep.step {g0 : G0} (h : Keep own w0 g0 γ) (le : LeG γ γ') (hmu : ∀ b o, b < w0.heap.size → ¬ own b → γ'.μ b o = γ.μ b o) : Keep own w0 g0 γ' :=
  ⟨fun b o hb hn => (hmu b o hb hn).trans (h.mu b o hb hn), fun b o v e => le.μ b o v (h.le b o v e), fun i b hi e => le.ι i b (h.pin i b hi e)⟩
structure RL (own : Nat → Prop) (μ0 : G0) (w0 : World) (N : Nat) (ops : List Oper) (done : Nat → Prop) (E : Nat → LE) (hp : Nat → Option Ob) (live : Nat → Prop) (γ : G) (a : Act) (w : World) : Prop where
  defers : a.defers = μ0.df
  size : a.tmps.size = N
  fr : ∀ t, EOk ops γ a.tmps (E t) t
  gd : ∀ t j want, (E t).g = some (j, want) → done j
  hp : Hp own hp live γ w
  base : Base own w0 w
  big : ∀ b, w0.heap.size ≤ b → own b
  mu : Keep own w0 μ0 γ

def dstsL (l : List Oper) : List Tmp := l.filterMap (·.dst)
/-- No temporary is written twice, and each is there. -/
def regOk (ops : List Oper) (N : Nat) : Bool := decide ((dstsL ops).Nodup) && (dstsL ops).all (· < N)

theorem getD_put {a : Act} {d t : Nat} {v : Value} (h : d < a.tmps.size) : (a.put (some d) v).tmps.getD t undef = if d = t then v else a.tmps.getD t undef := by
  simp only [Act.put, Array.getD_eq_getD_getElem?]
  rw [Array.getElem?_setIfInBounds]
  split
  · rename_i e; subst e; simp [h]
  · rfl
theorem yielded_put {a : Act} {d : Option Nat} {v : Value} {j : Nat} (h : ∀ o, ops[j]? = some o → ∀ t, o.dst = some t → d ≠ some t) : yielded ops.toArray (a.put d v).tmps j = yielded ops.toArray a.tmps j := by
  unfold yielded
  rw [List.getElem?_toArray]
  cases ho : ops[j]? with
  | none => rfl
  | some o =>
    simp only [Option.bind_some]
    cases ht : o.dst with
    | none => rfl
    | some t =>
      simp only [Option.bind_some]
      have := h o ho t ht
      cases d with
      | none => rfl
      | some d =>
        have hne : d ≠ t := fun e => this (by rw [e])
        simp only [Act.put]
        rw [Array.getElem?_setIfInBounds_ne hne]
theorem nodup_at : ∀ {l : List Oper}, (dstsL l).Nodup → ∀ {i j : Nat} {o p : Oper} {t : Nat}, l[i]? = some o → l[j]? = some p → o.dst = some t → p.dst = some t → i = j
  | [], _, i, _, _, _, _, h, _, _, _ => by simp at h
  | x :: l, hn, i, j, o, p, t, h1, h2, d1, d2 => by
    have hn2 : (dstsL l).Nodup := by
      unfold dstsL at *
      rw [List.filterMap_cons] at hn
      split at hn
      · exact hn
      · exact (List.nodup_cons.1 hn).2
    have hx : x.dst = some t → t ∉ dstsL l := by
      intro e
      unfold dstsL at *
      rw [List.filterMap_cons, e] at hn
      exact (List.nodup_cons.1 hn).1
    have hm : ∀ (k : Nat) (q : Oper), l[k]? = some q → q.dst = some t → t ∈ dstsL l := fun k q hk e => by
      unfold dstsL
      exact List.mem_filterMap.2 ⟨q, List.mem_of_getElem? hk, e⟩
    rcases i with _ | i <;> rcases j with _ | j
    · rfl
    · simp at h1 h2; subst h1; exact absurd (hm j p h2 d2) (hx d1)
    · simp at h1 h2; subst h2; exact absurd (hm i o h1 d1) (hx d2)
    · have := nodup_at hn2 (i := i) (j := j) (by simpa using h1) (by simpa using h2) d1 d2
      omega
theorem regOk_spec (h : regOk ops N = true) : (dstsL ops).Nodup ∧ ∀ {i : Nat} {o : Oper} {t : Nat}, ops[i]? = some o → o.dst = some t → t < N := by
  unfold regOk at h
  simp only [Bool.and_eq_true, decide_eq_true_eq, List.all_eq_true] at h
  exact ⟨h.1, fun ho hd => h.2 _ (List.mem_filterMap.2 ⟨_, List.mem_of_getElem? ho, hd⟩)⟩

theorem Hp.live_le {live' : Nat → Prop} (h : Hp own hp live γ w) (hl : ∀ t, live' t → live t) : Hp own hp live' γ w := ⟨h.fz, h.obj, h.inj, fun t v e sz ht => h.tok t v e sz (hl t ht), fun s t v u hs ht => h.tinj s t v u (hl s hs) (hl t ht)⟩
theorem Does.cold {ρ : Operand → Value} {o : Oper} {id : Nat} {q : Q} (h : Does P own hp live γ w ρ o id q) : Does P own hp live γ w ρ o id q.cold := by
  unfold Q.cold
  split
  · rename_i sz n f t e hv
    split
    · rename_i hk
      obtain ⟨u, w', γ', h1, h2⟩ := h
      refine ⟨u, w', γ', h1, ⟨h2.le, ?_, h2.base, ?_, h2.other, h2.mu⟩⟩
      · refine Hp.live_le h2.hp fun t ht => ?_
        unfold effL at ht ⊢
        cases hm : q.mo with
        | some m => simp only [hm] at ht ⊢; exact ht
        | none =>
          simp only [hm] at ht ⊢
          rcases ht with ht | ht
          · exact .inl ht
          · exact absurd ht.1 (by simp)
      · have := h2.rep
        rw [hv] at this
        simp only [RepA] at this ⊢
        exact this.1
    · exact h
  · exact h
mutual
theorem Rep.flat {μ ν : Nat → Nat → Option Value} : ∀ (d : D) (v : Value), flat d = true → Rep μ d v → Rep ν d v
  | .bool b, v, _, hr => by simpa only [Rep] using hr
  | .int k n, v, _, hr => by simpa only [Rep] using hr
  | .str s, v, _, hr => by simpa only [Rep] using hr
  | .bad, v, _, hr => by simp only [Rep] at hr
  | .sl sz n f, v, h, hr => by cases h
  | .agg cs, v, h, hr => by
    simp only [Rep] at hr ⊢
    obtain ⟨vs, e, hr⟩ := hr
    exact ⟨vs, e, RepL.flat cs vs h hr⟩
  | .tup cs, v, h, hr => by
    simp only [Rep] at hr ⊢
    obtain ⟨vs, e, hr⟩ := hr
    exact ⟨vs, e, RepL.flat cs vs h hr⟩
theorem RepL.flat {μ ν : Nat → Nat → Option Value} : ∀ (d : List D) (v : List Value), flatL d = true → RepL μ d v → RepL ν d v
  | [], _, _, hr => by simpa only [RepL] using hr
  | d :: l, v, h, hr => by
    simp only [RepL] at hr ⊢
    simp only [flatL, Bool.and_eq_true] at h
    obtain ⟨x, t, e, h1, h2⟩ := hr
    exact ⟨x, t, e, Rep.flat d x h.1 h1, RepL.flat l t h.2 h2⟩
end
theorem rep_lend1 {hp : Nat → Option Ob} {x : AV} {d : D} {v : Value} (h : lend1 hp x = some d) (ha : isRow x = false) (hr : RepA γ x v) : Rep γ.μ d v := by
  cases x with
  | arr id sz n => cases ha
  | vec id sz n => cases ha
  | _ => simp only [lend1] at h; exact repA_cold h hr
theorem repL_lendL {hp : Nat → Option Ob} : ∀ {l : List AV} {ds : List D} {vs : List Value}, lendL hp l = some ds → l.any isRow = false → RepAL γ l vs → RepL γ.μ ds vs
  | [], _, _, h, _, hr => by simp only [lendL, Option.some.injEq] at h; subst h; simpa only [RepAL, RepL] using hr
  | x :: l, ds, vs, h, ha, hr => by
    simp only [lendL] at h
    split at h
    · rename_i d hd
      simp only [Option.map_eq_some_iff] at h
      obtain ⟨r, h1, rfl⟩ := h
      simp only [List.any_cons, Bool.or_eq_false_iff] at ha
      simp only [RepAL] at hr
      obtain ⟨v, t, rfl, h2, h3⟩ := hr
      simp only [RepL]
      exact ⟨v, t, rfl, rep_lend1 hd ha.1 h2, repL_lendL h1 ha.2 h3⟩
    · cases h
theorem rep_lendD {hp : Nat → Option Ob} {x : AV} {d : D} {v : Value} (h : lendD hp x = some d) (ha : isArr x = false) (hr : RepA γ x v) : Rep γ.μ d v := by
  cases x with
  | agg l =>
    simp only [lendD, Option.map_eq_some_iff] at h
    obtain ⟨ds, h1, rfl⟩ := h
    simp only [RepA] at hr
    obtain ⟨vs, e, h2⟩ := hr
    simp only [Rep]
    exact ⟨vs, e, repL_lendL h1 ha h2⟩
  | _ => simp only [lendD] at h; exact rep_lend1 h ha hr
theorem repAL_argsD {hp : Nat → Option Ob} : ∀ {l : List AV} {ds : List D} {vs : List Value}, argsD hp l = some ds → l.any isArr = false → RepAL γ l vs → RepL γ.μ ds vs
  | [], _, _, h, _, hr => by simp only [argsD, Option.some.injEq] at h; subst h; simpa only [RepAL, RepL] using hr
  | x :: l, ds, vs, h, ha, hr => by
    simp only [argsD] at h
    split at h
    · rename_i d hd
      simp only [Option.map_eq_some_iff] at h
      obtain ⟨r, h1, rfl⟩ := h
      simp only [List.any_cons, Bool.or_eq_false_iff] at ha
      simp only [RepAL] at hr
      obtain ⟨v, t, rfl, h2, h3⟩ := hr
      simp only [RepL]
      exact ⟨v, t, rfl, rep_lendD hd ha.1 h2, repAL_argsD h1 ha.2 h3⟩
    · cases h
def Ob.isRow : Ob → Bool
  | .arr .. => true
  | .vec .. => true
  | _ => false
open Classical in
/-- What is frozen while own rows are lent. -/
noncomputable def lentM (hp : Nat → Option Ob) (γ : G) (w : World) (b o : Nat) : Option Value := if ∃ id ob p, hp id = some ob ∧ ob.isRow = true ∧ γ.ι id = some p ∧ p.block = some b then w.cell? ⟨b, o, none⟩ else γ.μ b o
theorem lent_le (H : Hp own hp live γ w) : LeM γ.μ (lentM hp γ w) := fun b o v h => by
  unfold lentM
  split
  · rename_i hx
    obtain ⟨id, ob, p, h1, h2, h3, h4⟩ := hx
    obtain ⟨p', e1, _, e5⟩ := H.obj id _ h1 (by cases ob <;> first | rfl | cases h2)
    rw [h3] at e1
    injection e1 with e1
    subst e1
    rw [(e5 b h4).2 o] at h; cases h
  · exact h
theorem lent_fz (H : Hp own hp live γ w) : FzM (lentM hp γ w) w := fun b o v h => by
  unfold lentM at h
  split at h
  · exact h
  · exact H.fz b o v h
theorem rep_lent1 (H : Hp own hp live γ w) {x : AV} {d : D} {v : Value} (hd : lend1 hp x = some d) (hob : ∀ p ∈ lendOb1 hp [x], p) (h2 : RepA γ x v) : Rep (lentM hp γ w) d v := by
  cases x with
  | arr id sz n =>
    simp only [lend1] at hd
    split at hd
    · rename_i s k f ho
      split at hd
      · rename_i hsk
        subst hsk
        obtain rfl : n = k := hob _ (by simp only [lendOb1, ho]; exact List.mem_cons_self)
        simp only [Option.some.injEq] at hd
        subst hd
        simp only [RepA] at h2
        obtain ⟨b, c, e1, e2, e3, e4⟩ := h2
        obtain ⟨b', x, f1, f2, f3, _, _⟩ := H.blk ho rfl
        rw [e1] at f1
        injection f1 with f1
        injection f1 with f1
        subst f1
        obtain ⟨ws, ty, rfl, g1, g2⟩ := f3
        simp only [Rep]
        refine ⟨_, c, e2, e3, e4, fun hn => ⟨b, 0, rfl, fun i hi => ?_⟩⟩
        obtain ⟨u, k1, k2, k3, k4⟩ := g2 i hi
        refine ⟨u, Rep.mono (lent_le H) _ _ k1, k2, k3, fun j hj => ?_⟩
        unfold lentM
        rw [if_pos ⟨id, _, _, ho, rfl, e1, rfl⟩, ← k4 j hj, Nat.zero_add]
        simp [World.cell?, f2]
      · cases hd
    · cases hd
  | vec id sz n =>
    simp only [lend1] at hd
    split at hd
    · rename_i e s k f ho
      split at hd
      · rename_i hsk
        subst hsk
        simp only [Option.some.injEq] at hd
        subst hd
        simp only [RepA] at h2
        obtain ⟨e', A, c, e1, e2, e3, e4, _⟩ := h2
        obtain ⟨v', xs, f1, f0, f2, f3, _⟩ := H.vec ho
        rw [e1] at f1
        injection f1 with f1
        injection f1 with f1 f4 _
        subst f1
        simp only [Rep]
        rcases f2.2 with ⟨h1, h0⟩ | ⟨b, cap, cur, h1, _⟩
        · subst h0
          exact ⟨none, 0, h1, Nat.le_refl _, Nat.zero_le _, fun h => absurd h (by omega)⟩
        · obtain ⟨A', c', g1, g2, g3, _⟩ := own_slice f2
          refine ⟨A', c', g1, g2, g3, fun hn => ⟨b, 0, ?_, fun i hi => ?_⟩⟩
          · rw [h1] at g1; injection g1 with g1 _ _; exact g1.symm
          · obtain ⟨u, k1, k2, k3, k4⟩ := f3 i hi
            refine ⟨u, Rep.mono (lent_le H) _ _ k1, k2, k3, fun j hj => ?_⟩
            have hbl : v.ownBlock = some b := by rw [h1]; rfl
            unfold lentM
            rw [if_pos ⟨id, _, _, ho, rfl, e1, hbl⟩, Nat.zero_add]
            have hu : j < u.cells.size := by rw [k2]; exact hj
            have h9 := k4 j hj
            rw [Array.getElem?_eq_getElem hu] at h9 ⊢
            have := f2.cells (g := b) hbl _ _ h9
            rwa [cell_mid, Nat.zero_add] at this
      · cases hd
    · cases hd
  | _ => simp only [lend1] at hd; exact Rep.mono (lent_le H) _ _ (repA_cold hd h2)
theorem lendOb1_head {hp : Nat → Option Ob} {x : AV} {l : List AV} (h : ∀ p ∈ lendOb1 hp (x :: l), p) : (∀ p ∈ lendOb1 hp [x], p) ∧ ∀ p ∈ lendOb1 hp l, p := by
  cases x with
  | arr id sz n =>
    simp only [lendOb1] at h ⊢
    split at h
    · exact ⟨fun p hp => h p (by rcases List.mem_singleton.1 hp with rfl; simp), fun p hp => h p (List.mem_cons_of_mem _ hp)⟩
    · exact ⟨(fun p hp => by cases hp), h⟩
  | _ => exact ⟨(fun p hp => by cases hp), h⟩
theorem repL_lentL (H : Hp own hp live γ w) : ∀ {l : List AV} {ds : List D} {vs : List Value}, lendL hp l = some ds → (∀ p ∈ lendOb1 hp l, p) → RepAL γ l vs → RepL (lentM hp γ w) ds vs
  | [], _, _, h, _, hr => by simp only [lendL, Option.some.injEq] at h; subst h; simpa only [RepAL, RepL] using hr
  | x :: l, ds, vs, h, hob, hr => by
    simp only [lendL] at h
    split at h
    · rename_i d hd
      simp only [Option.map_eq_some_iff] at h
      obtain ⟨r, h1, rfl⟩ := h
      simp only [RepAL] at hr
      obtain ⟨v, t, rfl, h2, h3⟩ := hr
      simp only [RepL]
      obtain ⟨o1, o2⟩ := lendOb1_head hob
      exact ⟨v, t, rfl, rep_lent1 H hd o1 h2, repL_lentL H h1 o2 h3⟩
    · cases h
theorem repAL_lent (H : Hp own hp live γ w) : ∀ {l : List AV} {ds : List D} {vs : List Value}, argsD hp l = some ds → (∀ p ∈ lendOb hp l, p) → RepAL γ l vs → RepL (lentM hp γ w) ds vs
  | [], _, _, h, _, hr => by simp only [argsD, Option.some.injEq] at h; subst h; simpa only [RepAL, RepL] using hr
  | x :: l, ds, vs, h, hob, hr => by
    simp only [argsD] at h
    split at h
    · rename_i d hd
      simp only [Option.map_eq_some_iff] at h
      obtain ⟨r, h1, rfl⟩ := h
      simp only [RepAL] at hr
      obtain ⟨v, t, rfl, h2, h3⟩ := hr
      simp only [RepL]
      cases x with
      | agg c =>
        simp only [lendOb] at hob
        refine ⟨v, t, rfl, ?_, repAL_lent H h1 (fun p hp => hob p (List.mem_append_right _ hp)) h3⟩
        simp only [lendD, Option.map_eq_some_iff] at hd
        obtain ⟨ds', k1, rfl⟩ := hd
        simp only [RepA] at h2
        obtain ⟨us, e, h4⟩ := h2
        simp only [Rep]
        exact ⟨us, e, repL_lentL H k1 (fun p hp => hob p (List.mem_append_left _ hp)) h4⟩
      | arr id sz n =>
        simp only [lendOb] at hob
        simp only [lendD] at hd
        exact ⟨v, t, rfl, rep_lent1 H hd (fun p hp => hob p (List.mem_append_left _ hp)) h2, repAL_lent H h1 (fun p hp => hob p (List.mem_append_right _ hp)) h3⟩
      | _ => simp only [lendD] at hd; exact ⟨v, t, rfl, rep_lent1 H hd (fun p hp => by cases hp) h2, repAL_lent H h1 hob h3⟩
    · cases h
theorem repAL_map {e : Operand → AV} {ρ : Operand → Value} : ∀ {l : List Operand}, (∀ y ∈ l, RepA γ (e y) (ρ y)) → RepAL γ (l.map e) (l.map ρ)
  | [], _ => by simp [RepAL]
  | x :: l, h => by simp only [List.map_cons, RepAL]; exact ⟨_, _, rfl, h x (by simp), repAL_map fun y hy => h y (by simp [hy])⟩

theorem read1 {a : Act} {done : Nat → Prop} {E : Nat → LE} (R : RL own μ0 w0 N ops done E hp live γ a w) {o : Oper} (hw : ∀ g, o.guard = some g → yielded ops.toArray a.tmps g.1 = some g.2) {x : Operand} (h : readOk1 E o.guard x = true) : RepA γ (evE E x) (a.eval x) := by
  cases x with
  | const v => exact rep_const v
  | global g => simp only [evE, RepA]
  | func f => simp only [evE, RepA, Act.eval]; exact ⟨[], rfl, by simp only [RepAL]⟩
  | tmp t =>
    have hf := R.fr t
    simp only [readOk1, Bool.or_eq_true, beq_iff_eq] at h
    unfold EOk at hf
    simp only [evE, Act.eval]
    rcases h with h | h
    · rw [h] at hf; exact hf
    · cases hg : o.guard with
      | none => rw [h, hg] at hf; exact hf
      | some g =>
        rw [h, hg] at hf
        rcases hf with hf | hf
        · exact hf.2.2
        · exact absurd (hw g hg) hf.1
theorem stp_pure (H : Hp own hp live γ w) (id : Nat) (h1 : γ.ι id = none) (h2 : γ.τ id = none) (hid : hp id = none) (hlv : ¬ live id) (hx : Ext w w') {ν : Nat → Nat → Option Value} (hν : ∀ b o, b < w.heap.size → ν b o = γ.μ b o) (hf : FzM ν w') {r : D} {u : Value} (hr : Rep ν r u) :
    Stp own hp live γ w id hp live (.d r) u ⟨ν, γ.ι, γ.τ⟩ w' := by
  have le : LeG γ ⟨ν, γ.ι, γ.τ⟩ := le_of H.fz hν h1 h2 (fun _ _ => rfl) (fun _ _ => rfl)
  have := H.grow (γ' := ⟨ν, γ.ι, γ.τ⟩) hx hν hf h1 h2 (fun _ _ => rfl) (fun _ _ => rfl) hid hlv none false (fun o h => by cases h) (fun h => by cases h)
  rw [addF_none, addL_false] at this
  exact ⟨le, this, Base.of_ext hx, by simpa only [RepA] using hr, fun _ _ => ⟨rfl, rfl⟩, fun b o hb _ => hν b o hb⟩
/-- A call that is given own objects. -/
theorem step_obj {a : Act} {done : Nat → Prop} {E : Nat → LE} (R : RL own μ0 w0 N ops done E hp live γ a w) {o : Oper} {f : FuncId} {xs : List AV} {R' : Value → G → World → Prop}
    (hrd : readOk ops E o = true) (hc : callOf (evE E) o.op = some (f, xs)) (hcall : ∀ vs : List Value, RepAL γ xs vs → Calls P f vs.toArray w fun e w' => ∃ v γ', e = .returned v ∧ R' v γ' w') (hcb : Callable P f)
    (hw : ∀ g, o.guard = some g → yielded ops.toArray a.tmps g.1 = some g.2) {K : Act → World → Prop} {QQ : Exit → Act → World → Prop}
    (hK : ∀ u w' γ', R' u γ' w' → K (a.put o.dst u) w') : o.wp P a w K QQ := by
  obtain ⟨fn, hf1, hf2, hf3⟩ := hcb
  have hinv : ∀ args : Array Value, (callFunc f args).run P w = .ok (.enter f args) w := fun args => by
    simp only [callFunc, program, Sem.run_bind]
    simp [Sem.run, hf1, hf3, Option.isNone_iff_eq_none]
    intro h; rw [h] at hf2; cases hf2
  unfold callOf at hc
  split at hc
  · rename_i f' args ts hop
    simp only [Option.some.injEq, Prod.mk.injEq] at hc
    obtain ⟨rfl, rfl⟩ := hc
    have hops : ∀ y ∈ args.toList, readOk1 E o.guard y = true := by
      unfold readOk at hrd
      rw [hop] at hrd
      intro y hy
      exact List.all_eq_true.1 hrd y (by simp [Op.operands, Call.operands]; exact .inr (by simpa using hy))
    have hreps : RepAL γ (args.toList.map (evE E)) (args.toList.map a.eval) := repAL_map fun y hy => read1 R hw (hops y hy)
    have hrun := hcall _ hreps
    unfold Oper.wp execOp
    simp only [hop]
    have hres : ((resolve a.eval { callee := .value (.func f'), args := args, argTypes := ts } o.type).run P w) = .ok { target := .fn (.func f') #[], args := args.map a.eval } w := by
      simp [resolve, Act.eval, Deferred.ofValue]
    have hi : (invoke (.fn (.func f') #[]) (args.map a.eval)).run P w = .ok (.enter f' (args.map a.eval)) w := by
      have := hinv (args.map a.eval)
      simpa only [invoke, Array.append_empty] using this
    rw [Sem.run_bind, hres, Result.andThen_ok, hi]
    simp only [Oper.upon]
    have hm : (args.toList.map a.eval).toArray = args.map a.eval := by rw [← Array.toList_inj]; simp
    rw [hm] at hrun
    refine hrun.mono ?_
    rintro e w' ⟨u, γ', rfl, h1⟩
    exact hK u w' γ' h1
  · rename_i tt args ts hop
    split at hc
    · rename_i g c hg
      simp only [Option.some.injEq, Prod.mk.injEq] at hc
      obtain ⟨rfl, rfl⟩ := hc
      have hops : ∀ y, y ∈ args.toList ∨ y = .tmp tt → readOk1 E o.guard y = true := by
        unfold readOk at hrd
        rw [hop] at hrd
        intro y hy
        refine List.all_eq_true.1 hrd y ?_
        simp [Op.operands, Call.operands]
        rcases hy with hy | rfl
        · exact .inr (by simpa using hy)
        · exact .inl rfl
      have hreps : RepAL γ (args.toList.map (evE E)) (args.toList.map a.eval) := repAL_map fun y hy => read1 R hw (hops y (.inl hy))
      have hfn := read1 R hw (hops _ (.inr rfl))
      rw [hg] at hfn
      simp only [RepA] at hfn
      obtain ⟨cvs, hv, hcap⟩ := hfn
      have hrun := hcall _ (repAL_append hreps hcap)
      unfold Oper.wp execOp
      simp only [hop]
      have hres : ((resolve a.eval { callee := .value (.tmp tt), args := args, argTypes := ts } o.type).run P w) = .ok { target := .fn (.func g) cvs.toArray, args := args.map a.eval } w := by
        simp only [resolve]
        rw [hv]
        simp [Deferred.ofValue]
      have hi : (invoke (.fn (.func g) cvs.toArray) (args.map a.eval)).run P w = .ok (.enter g (args.map a.eval ++ cvs.toArray)) w := by
        have := hinv (args.map a.eval ++ cvs.toArray)
        simpa only [invoke] using this
      rw [Sem.run_bind, hres, Result.andThen_ok, hi]
      simp only [Oper.upon]
      have hm : (args.toList.map a.eval ++ cvs).toArray = args.map a.eval ++ cvs.toArray := by rw [← Array.toList_inj]; simp
      rw [hm] at hrun
      refine hrun.mono ?_
      rintro e w' ⟨u, γ', rfl, h1⟩
      exact hK u w' γ' h1
    · cases hc
  · cases hc
/-- One operation that is wanted runs. -/
theorem step_op {a : Act} {done : Nat → Prop} {E : Nat → LE} (R : RL own μ0 w0 N ops done E hp live γ a w) {cs : Cs} {o : Oper} {id : Nat} (hrd : readOk ops E o = true)
    (hok : (qopC P cs o (evE E) hp id).ok = true) (hob : ∀ p ∈ (qopC P cs o (evE E) hp id).ob, p) (hkill : ∀ tk, (qopC P cs o (evE E) hp id).kill = some tk → live tk) (hmo : ∀ t, (qopC P cs o (evE E) hp id).mo = some t → ∀ s ∈ t.lv, live s)
    (hfr : ∀ j, id ≤ j → j < id + 16 → γ.ι j = none ∧ γ.τ j = none ∧ hp j = none ∧ ¬ live j) (hw : ∀ g, o.guard = some g → yielded ops.toArray a.tmps g.1 = some g.2) {K : Act → World → Prop} {QQ : Exit → Act → World → Prop}
    (hK : ∀ u w' γ', Stp own hp live γ w id (effH id (qopC P cs o (evE E) hp id) hp) (effL id (qopC P cs o (evE E) hp id) live) (qopC P cs o (evE E) hp id).v u γ' w' → K (a.put o.dst u) w') : o.wp P a w K QQ := by
  have hown : ∀ b, w.heap.size ≤ b → own b := fun b hb => R.big b (Nat.le_trans R.base.size hb)
  obtain ⟨h1, h2, hid, hlv⟩ := hfr id (Nat.le_refl _) (by omega)
  unfold qopC at hok hob hkill hK hmo
  split at hok
  · rename_i hc
    simp only [hc, if_true] at hob hkill hK hmo
    split at hok
    · rename_i t ht
      simp only [ht] at hob hkill hK hmo
      split at hok
      · rename_i f xs hcal
        simp only [hcal] at hob hkill hK hmo
        obtain ⟨⟨fn, hf1, hf2, hf3⟩, hcall⟩ := hob _ (List.mem_singleton.2 rfl)
        have hth : ∀ l : List Nat, There hp (l.map fun i => (i, hp i)) := fun l => by
          induction l with
          | nil => trivial
          | cons i l ih => exact ⟨rfl, ih⟩
        exact step_obj R hrd hcal (fun vs hr => (hcall own hp live γ w vs R.hp (hth _) (hmo t rfl) hown hfr hr)) ⟨fn, hf1, hf2, hf3⟩ hw fun u w' γ' hs => hK u w' γ' hs
      · cases hok
    rename_i hot
    simp only [hot] at hob hkill hK hmo
    split at hok
    · rename_i f ds lb lo t hpc hd
      simp only [hpc, hd] at hob hkill hK
      split at hok
      · cases hok
      rename_i hfl
      simp only [if_neg hfl] at hob hkill hK
      have hp1 : PureAt P f ds (lookD cs.d t) := hob _ (by simp [Q.when])
      unfold pureCall at hpc
      split at hpc
      · rename_i f' args ts ho
        rw [Option.map_eq_some_iff] at hpc
        obtain ⟨ds', ha, he⟩ := hpc
        simp only [Prod.mk.injEq] at he
        obtain ⟨rfl, rfl, rfl, rfl⟩ := he
        have hops : ∀ y ∈ args.toList, readOk1 E o.guard y = true := by
          unfold readOk at hrd
          rw [ho] at hrd
          intro y hy
          have := List.all_eq_true.1 hrd y (by simp [Op.operands, Call.operands]; exact .inr (by simpa using hy))
          exact this
        have hreps : RepAL γ (args.toList.map (evE E)) (args.toList.map a.eval) := repAL_map fun y hy => read1 R hw (hops y hy)
        obtain ⟨⟨fn, hf1, hf2, hf3⟩, hcall⟩ := hp1
        have hrun : Calls P f' (args.toList.map a.eval).toArray w fun e w' => ∃ v ν, e = .returned v ∧ Ext w w' ∧ (∀ b o, b < w.heap.size → ν b o = γ.μ b o) ∧ FzM ν w' ∧ Rep ν (lookD cs.d t) v := by
          cases hb : (args.toList.map (evE E)).any isArr with
          | false => exact hcall γ.μ w _ R.hp.fz (repAL_argsD ha hb hreps)
          | true =>
            rw [hb] at hfl
            simp only [Bool.true_and, Bool.not_eq_true', Bool.not_eq_false] at hfl
            refine (hcall _ w _ (lent_fz R.hp) (repAL_lent R.hp ha (fun p hp => hob p (by simp only [Q.when]; exact List.mem_append_left _ hp)) hreps)).mono ?_
            rintro e w' ⟨v, ν, h1, h2, h3, h4, h5⟩
            refine ⟨v, fun b o => if b < w.heap.size then γ.μ b o else ν b o, h1, h2, fun b o hlt => if_pos hlt, fun b o x hx => ?_, Rep.flat _ _ hfl h5⟩
            by_cases hlt : b < w.heap.size
            · simp only [hlt, if_true] at hx
              exact h4 b o x (by rw [h3 b o hlt]; exact lent_le R.hp b o x hx)
            · simp only [hlt, if_false] at hx
              exact h4 b o x hx
        unfold Oper.wp execOp
        simp only [ho]
        have hres : ((resolve a.eval { callee := .value (.func f'), args := args, argTypes := ts } o.type).run P w) = .ok { target := .fn (.func f') #[], args := args.map a.eval } w := by
          simp [resolve, Act.eval, Deferred.ofValue]
        have hinv : (invoke (.fn (.func f') #[]) (args.map a.eval)).run P w = .ok (.enter f' (args.map a.eval)) w := by
          simp only [invoke, callFunc, program, Sem.run_bind, Array.append_empty]
          simp [Sem.run, hf1, hf3, Option.isNone_iff_eq_none]
          intro h; rw [h] at hf2; cases hf2
        rw [Sem.run_bind, hres, Result.andThen_ok, hinv]
        simp only [Oper.upon]
        have hm : (args.toList.map a.eval).toArray = args.map a.eval := by rw [← Array.toList_inj]; simp
        rw [hm] at hrun
        refine hrun.mono ?_
        rintro e w' ⟨u, ν, rfl, hx, hν, hfz, hr⟩
        show K (a.put o.dst u) w'
        rw [hd]
        exact hK u w' _ (by
          have := stp_pure R.hp id h1 h2 hid hlv hx hν hfz hr
          rw [effH_of rfl, effL_of rfl]
          show Stp own hp live γ w id (addF id none hp) (addL id false live) _ u _ w'
          rw [addF_none, addL_false]
          exact this)
      · cases hpc
    · cases hok
  · rename_i hc
    by_cases hrow : cs.a.contains id = true
    · rw [if_pos hrow] at hok
      simp only [hc, hrow, if_true, Bool.false_eq_true, if_false] at hob hkill hK
      have hdoes : Does P own hp live γ w a.eval o id (rowQ P id (evE E) o.op) := by
        have cases_ : (∃ args ts, o.op = .call { callee := .builtin .append, args := args, argTypes := ts }) ∨ rowQ P id (evE E) o.op = .no := by
          unfold rowQ
          split
          · rename_i args ts ho; exact .inl ⟨args, ts, ho⟩
          · exact .inr rfl
        rcases cases_ with ⟨args, ts, ho⟩ | hno
        · have he : rowQ P id (evE E) o.op = appendRowQ P id (args.toList.map (evE E)) ts.toList := by rw [ho]; rfl
          rw [he] at hok hob hkill ⊢
          have hops : ∀ y ∈ args, RepA γ (evE E y) (a.eval y) := fun y hy => by
            unfold readOk at hrd
            rw [ho] at hrd
            exact read1 R hw (List.all_eq_true.1 hrd y (by simp [Op.operands, Call.operands]; simpa using hy))
          exact does_appendRow R.hp h1 h2 hid hlv hown ho (evE E) hops hok hob hkill
        · rw [hno] at hok; cases hok
      obtain ⟨u, w', γ', hran, hs⟩ := hdoes
      unfold Oper.wp
      rcases hran with hran | ⟨rfl, hran⟩
      · rw [hran]; exact hK u w' γ' hs
      · rw [hran]; exact hK undef w' γ' hs
    rw [if_neg hrow] at hok
    simp only [hc, if_neg hrow] at hob hkill hK
    by_cases hvec : cs.a.contains (id + 1) = true
    · rw [if_pos hvec] at hok
      simp only [hvec, if_true, Bool.false_eq_true, if_false] at hob hkill hK
      have hdoes : Does P own hp live γ w a.eval o id (vecQC P hp id (evE E) o.op) := by
        have cases_ : (∃ args ts, o.op = .call { callee := .builtin .append, args := args, argTypes := ts }) ∨ vecQC P hp id (evE E) o.op = .no := by
          unfold vecQC
          split
          · rename_i args ts ho; exact .inl ⟨args, ts, ho⟩
          · exact .inr rfl
        rcases cases_ with ⟨args, ts, ho⟩ | hno
        · have he : vecQC P hp id (evE E) o.op = vecQ P hp id (args.toList.map (evE E)) ts.toList := by rw [ho]; rfl
          rw [he] at hok hob ⊢
          have hops : ∀ y ∈ args, RepA γ (evE E y) (a.eval y) := fun y hy => by
            unfold readOk at hrd
            rw [ho] at hrd
            exact read1 R hw (List.all_eq_true.1 hrd y (by simp [Op.operands, Call.operands]; simpa using hy))
          exact does_vec R.hp h1 h2 hid hlv hown ho (evE E) hops hok hob
        · rw [hno] at hok; cases hok
      obtain ⟨u, w', γ', hran, hs⟩ := hdoes
      unfold Oper.wp
      rcases hran with hran | ⟨rfl, hran⟩
      · rw [hran]; exact hK u w' γ' hs
      · rw [hran]; exact hK undef w' γ' hs
    rw [if_neg hvec] at hok
    simp only [if_neg hvec] at hob hkill hK
    have hok2 : (qop P o.op (evE E) hp id).ok = true := by
      split at hok
      · rwa [Q.cold_ok] at hok
      · exact hok
    have hob2 : ∀ p ∈ (qop P o.op (evE E) hp id).ob, p := by
      cases hg : o.guard.isSome with
      | true => rw [hg] at hob; simpa [Q.cold_ob] using hob
      | false => rw [hg] at hob; simpa using hob
    have hkill2 : ∀ tk, (qop P o.op (evE E) hp id).kill = some tk → live tk := by
      cases hg : o.guard.isSome with
      | true => rw [hg] at hkill; simpa [Q.cold_kill] using hkill
      | false => rw [hg] at hkill; simpa using hkill
    have hdoes := qop_does (P := P) (ρ := a.eval) R.hp h1 h2 hid hlv hown (evE E) (o := o) (fun hnp x hx => by
        unfold readOk at hrd
        split at hrd
        · rename_i c a b ho; exact absurd ho (hnp c a b)
        · exact read1 R hw (List.all_eq_true.1 hrd x (by simpa using hx)))
      (fun c b1 b2 ho => by
        unfold readOk at hrd
        rw [ho] at hrd
        simp only [Bool.and_eq_true] at hrd
        obtain ⟨r1, r2, r3⟩ := hrd
        have hc1 := read1 R hw r1
        have arm : ∀ (x : Operand) (want : Bool), armOk ops E o.guard c want x = true → ∀ y, evE E c = .d (.bool y) → y = want → RepA γ (evE E x) (a.eval x) := by
          intro x want hx y hy hyw
          simp only [armOk, Bool.or_eq_true] at hx
          rcases hx with hx | hx
          · exact read1 R hw hx
          · cases x with
            | tmp t =>
              simp only at hx
              cases hg : (E t).g with
              | none => simp only [hg] at hx; cases hx
              | some g =>
                obtain ⟨j, wj⟩ := g
                simp only [hg, Bool.and_eq_true, beq_iff_eq] at hx
                obtain ⟨rfl, hx⟩ := hx
                have hf := R.fr t
                unfold EOk at hf
                rw [hg] at hf
                rcases hf with hf | hf
                · exact hf.2.2
                · exfalso
                  apply hf.1
                  unfold isDst at hx
                  split at hx
                  · rename_i oj tc hoj
                    simp only [beq_iff_eq] at hx
                    rw [hy] at hc1
                    simp only [RepA, Rep, Act.eval] at hc1
                    unfold yielded
                    rw [List.getElem?_toArray, hoj, Option.bind_some, hx, Option.bind_some]
                    have : a.tmps[tc]? = some (.bool y) := by
                      rw [Array.getD_eq_getD_getElem?] at hc1
                      cases hh : a.tmps[tc]? with
                      | none => rw [hh] at hc1; cases hc1
                      | some z => rw [hh] at hc1; simpa using hc1
                    rw [this, hyw]
                  · cases hx
            | _ => cases hx
        exact ⟨hc1, arm b1 true r2, arm b2 false r3⟩)
      (fun _ => rfl) hok2 hob2 hkill2
    obtain ⟨u, w', γ', hran, hs⟩ : Does P own hp live γ w a.eval o id (if o.guard.isSome = true then (qop P o.op (evE E) hp id).cold else qop P o.op (evE E) hp id) := by
      split
      · exact hdoes.cold
      · exact hdoes
    unfold Oper.wp
    rcases hran with hran | ⟨rfl, hran⟩
    · rw [hran]; exact hK u w' γ' hs
    · rw [hran]; exact hK undef w' γ' hs
end Go.Av
