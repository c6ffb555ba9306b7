/- A region that draws its order: one run in the text's order, and no two operations that may come either way touch one thing. -/
import Derived.Test.YtpdncdnjkjpigaaGreatDoorAvSeq
set_option linter.unusedVariables false
set_option linter.unusedSimpArgs false
namespace Go.Av
open Go.RowKit Go.Base
variable {P : Program} {γ γ' : G} {w w' w0 : World} {own : Nat → Prop} {hp : Nat → Option Ob} {live : Nat → Prop} {ops : List Oper} {N : Nat} {μ0 : G0}

structure Rec where
  o : Oper
  id : Nat
  q : Q
  g : Option (Nat × Bool)
  gv : Bool
  rd : List Nat
def rowId : AV → List Nat
  | .arr d _ _ => [d]
  | .vec d _ _ => [d]
  | _ => []
def ptrId : AV → List Nat
  | .ptr d _ => [d]
  | .pa d _ _ _ => [d]
  | .arr d _ _ => [d]
  | .mp d => [d]
  | .vec d _ _ => [d]
  | .pv d _ _ _ => [d]
  | .agg l => l.flatMap rowId
  | _ => []
/-- The objects that an operation looks into. -/
def readIds (o : Op) (e : Operand → AV) : List Nat :=
  match o with
  | .load _ a => ptrId (e a)
  | .store _ a _ => ptrId (e a)
  | .lookup _ m _ _ => ptrId (e m)
  | .mapUpdate _ m _ _ => ptrId (e m)
  | .call { callee := .builtin .copy, args, .. } => (args.toList.map e).flatMap ptrId
  | .call { callee := .builtin .append, args, .. } => (args.toList.map e).flatMap ptrId
  | .call { callee := .value _, args, .. } => (args.toList.map e).flatMap ptrId
  | _ => []
/-- And those that a call is given. -/
def readIdsC (cs : Cs) (o : Op) (id : Nat) (e : Operand → AV) : List Nat := readIds o e ++ (if isCall o then (match lookOT cs.o id with | some t => t.ids | none => []) else [])
/-- What an operation writes: an object, a right, what it makes. -/
def Rec.wr (r : Rec) : List Nat := match r.q.mo with
  | some t => t.ups.map (·.1) ++ (t.lv ++ t.toks)
  | none =>
  (match r.q.upd with | some (d, _) => [d] | none => []) ++ ((match r.q.kill with | some k => [k] | none => []) ++ (if r.q.new.isSome || r.q.tok then [r.id] else []))
def runD (P : Program) (cs : Cs) (ops : List Oper) (fr : List (Nat × AV)) (nx : Nat) : Nat → List Oper → LS → Option (List Rec × LS)
  | _, [], s => some ([], s)
  | i, o :: l, s =>
    if readOk ops (lookE fr s.lf) o && ((qopC P cs o (evE (lookE fr s.lf)) (lookO s.hp) (nx + 16 * i)).ok && killOk (qopC P cs o (evE (lookE fr s.lf)) (lookO s.hp) (nx + 16 * i)) s.live) then
      match o.guard with
      | none => (runD P cs ops fr nx (i + 1) l (s.step o (nx + 16 * i) (qopC P cs o (evE (lookE fr s.lf)) (lookO s.hp) (nx + 16 * i)) none true)).map
          fun r => (⟨o, nx + 16 * i, qopC P cs o (evE (lookE fr s.lf)) (lookO s.hp) (nx + 16 * i), none, true, readIdsC cs o.op (nx + 16 * i) (evE (lookE fr s.lf))⟩ :: r.1, r.2)
      | some g =>
        if decide (g.1 < i) && (qopC P cs o (evE (lookE fr s.lf)) (lookO s.hp) (nx + 16 * i)).plain then
          match guardOf ops (lookE fr s.lf) g with
          | some G => (runD P cs ops fr nx (i + 1) l (s.step o (nx + 16 * i) (qopC P cs o (evE (lookE fr s.lf)) (lookO s.hp) (nx + 16 * i)) (some g) G)).map
              fun r => (⟨o, nx + 16 * i, qopC P cs o (evE (lookE fr s.lf)) (lookO s.hp) (nx + 16 * i), some g, G, readIdsC cs o.op (nx + 16 * i) (evE (lookE fr s.lf))⟩ :: r.1, r.2)
          | none => none
        else none
    else none
def obsAll : List Rec → Prop → Prop
  | [], R => R
  | r :: l, R => match r.g with
    | none => obs r.q.ob (obsAll l R)
    | some _ => obsG r.gv r.q.ob (obsAll l R)
def edgeMask (acc : List Nat) (m : Nat) (e : Edge) : Nat := if Region.binds .any e then m ||| (2 ^ e.on ||| acc.getD e.on 0) else m
/-- For each operation, a number whose bits are those that come ahead of it. -/
def masks : List Oper → List Nat → List Nat
  | [], acc => acc
  | o :: l, acc => masks l (acc ++ [o.after.toList.foldl (edgeMask acc) 0])
def looks (ops : List Oper) (o : Oper) : List Tmp := Oper.looksAt ops.toArray o
def meets (a b : List Nat) : Bool := a.any b.contains
def apart (ops : List Oper) (x y : Rec) : Bool :=
  (match x.o.dst with | some d => !(looks ops y.o).contains d | none => true) && ((match y.o.dst with | some d => !(looks ops x.o).contains d | none => true) &&
  (!meets x.wr y.wr && (!meets x.wr y.rd && !meets x.rd y.wr)))
def drawOk (ops : List Oper) (rs : List Rec) : Bool :=
  let ms := masks ops []
  (List.range ops.length).all fun j => (List.range j).all fun i => (ms.getD j 0).testBit i || match rs[i]?, rs[j]? with
    | some x, some y => apart ops x y
    | _, _ => false
/-- The edges that bind look back. -/
def backOk (ops : List Oper) : Bool := (List.range ops.length).all fun i => match ops[i]? with
  | some o => o.after.toList.all fun e => !Region.binds .any e || decide (e.on < i)
  | none => true
def vcDraw (P : Program) (cs : Cs) (ops : List Oper) (fr : List (Nat × AV)) (nx : Nat) (s : LS) (K : LS → Prop) : Prop :=
  match runD P cs ops fr nx 0 ops s with
  | some (rs, s') => if backOk ops && drawOk ops rs then obsAll rs (K s') else False
  | none => False

/-! ### What is applied -/
structure Fy where
  E : Nat → LE
  hp : Nat → Option Ob
  live : Nat → Prop
def Rec.ap (r : Rec) (F : Fy) : Fy := ⟨setE r.o ⟨r.g, r.gv, r.q.v⟩ F.E, effH r.id r.q F.hp, effL r.id r.q F.live⟩
def fsOf (fr : List (Nat × AV)) (s : LS) : Fy := ⟨lookE fr s.lf, lookO s.hp, fun t => t ∈ s.live⟩
theorem fsOf_step (fr : List (Nat × AV)) (s : LS) (r : Rec) : fsOf fr (s.step r.o r.id r.q r.g r.gv) = r.ap (fsOf fr s) := by
  unfold fsOf Rec.ap LS.step
  simp only [Fy.mk.injEq]
  refine ⟨?_, lookO_addH _ _ _, mem_addT _ _ _⟩
  funext t; exact lookE_putL fr r.o _ s.lf t
/-- The effects of those of a list that p tells, in the list's order. -/
def foldS (p : Nat → Bool) : Nat → List Rec → Fy → Fy
  | _, [], F => F
  | i, r :: l, F => foldS p (i + 1) l (if p i then r.ap F else F)

theorem effH_in (id : Nat) (q : Q) (h h' : Nat → Option Ob) (x : Nat) (e : h x = h' x) : effH id q h x = effH id q h' x := by
  unfold effH addF
  cases q.mo with
  | some t => simp only; split <;> first | rfl | exact e
  | none =>
  simp only
  cases q.upd with
  | none => cases q.new with
    | none => exact e
    | some o => simp only; split <;> first | rfl | exact e
  | some y => cases q.new with
    | none => simp only; split <;> first | rfl | exact e
    | some o => simp only; split <;> first | rfl | (split <;> first | rfl | exact e)
theorem effH_out (r : Rec) (h : Nat → Option Ob) (x : Nat) (hx : x ∉ r.wr) : effH r.id r.q h x = h x := by
  unfold Rec.wr at hx
  unfold effH addF
  cases hm : r.q.mo with
  | some t =>
    simp only [hm, List.mem_append, not_or, List.mem_map, not_exists, not_and] at hx ⊢
    cases hl : lookO t.ups x with
    | none => rfl
    | some o => exact absurd rfl (hx.1 _ (lookO_mem hl))
  | none =>
  simp only [hm, List.mem_append, not_or] at hx
  simp only
  obtain ⟨h1, h2, h3⟩ := hx
  cases hu : r.q.upd with
  | none =>
    simp only
    cases hn : r.q.new with
    | none => rfl
    | some o =>
      simp only
      rw [if_neg]
      intro e
      apply h3
      simp [hn, e]
  | some y =>
    simp only
    rw [hu] at h1
    rw [if_neg (fun e => h1 (by rw [e]; simp))]
    cases hn : r.q.new with
    | none => rfl
    | some o =>
      simp only
      rw [if_neg]
      intro e
      apply h3
      simp [hn, e]
theorem effL_out (r : Rec) (L : Nat → Prop) (x : Nat) (hx : x ∉ r.wr) : effL r.id r.q L x = L x := by
  unfold Rec.wr at hx
  unfold effL
  cases hm : r.q.mo with
  | some t =>
    simp only [hm, List.mem_append, not_or] at hx ⊢
    exact propext ⟨fun h => h.elim (fun h => h.1) (fun h => absurd h hx.2.2), fun h => .inl ⟨h, hx.2.1⟩⟩
  | none =>
  simp only [hm, List.mem_append, not_or] at hx
  simp only
  obtain ⟨h1, h2, h3⟩ := hx
  apply propext
  constructor
  · rintro (⟨h, _⟩ | ⟨h, e⟩)
    · exact h
    · exact absurd (by simp [h, e]) h3
  · intro h
    refine .inl ⟨h, fun e => ?_⟩
    rw [e] at h2
    simp at h2
theorem effL_in (id : Nat) (q : Q) (L L' : Nat → Prop) (x : Nat) (e : L x = L' x) : effL id q L x = effL id q L' x := by
  unfold effL; rw [e]
theorem meets_false {a b : List Nat} (h : meets a b = false) : ∀ x ∈ a, x ∉ b := by
  unfold meets at h
  intro x hx hb
  rw [List.any_eq_false] at h
  exact h x hx (by simpa using hb)
/-- Two that are apart may be applied either way. -/
theorem ap_comm {x y : Rec} (F : Fy) (hd : ∀ t, x.o.dst = some t → y.o.dst ≠ some t) (hw : meets x.wr y.wr = false) : x.ap (y.ap F) = y.ap (x.ap F) := by
  have m := meets_false hw
  unfold Rec.ap
  simp only [Fy.mk.injEq]
  refine ⟨?_, ?_, ?_⟩
  · funext t
    unfold setE
    by_cases h1 : x.o.dst = some t
    · rw [if_pos h1, if_neg (hd t h1), if_pos h1]
    · rw [if_neg h1]
      by_cases h2 : y.o.dst = some t
      · rw [if_pos h2, if_pos h2]
      · rw [if_neg h2, if_neg h2, if_neg h1]
  · funext t
    by_cases h1 : t ∈ x.wr
    · rw [effH_out y _ t (m t h1)]
      exact effH_in _ _ _ _ t (effH_out y _ t (m t h1))
    · rw [effH_out x _ t h1]
      exact (effH_in _ _ _ _ t (effH_out x _ t h1)).symm
  · funext t
    by_cases h1 : t ∈ x.wr
    · rw [effL_out y _ t (m t h1)]
      exact effL_in _ _ _ _ t (effL_out y _ t (m t h1))
    · rw [effL_out x _ t h1]
      exact (effL_in _ _ _ _ t (effL_out x _ t h1)).symm
/-- One more is applied. -/
theorem foldS_add : ∀ (rs : List Rec) (k : Nat) (p : Nat → Bool) (i : Nat) (r : Rec) (F : Fy), k ≤ i → rs[i - k]? = some r → p i = false →
    (∀ j y, k ≤ j → rs[j - k]? = some y → i < j → p j = true → ∀ F, y.ap (r.ap F) = r.ap (y.ap F)) →
    foldS (fun n => p n || n == i) k rs F = r.ap (foldS p k rs F)
  | [], k, p, i, r, F, _, h, _, _ => by simp at h
  | x :: l, k, p, i, r, F, hk, h, hp, hc => by
    simp only [foldS]
    by_cases hki : k = i
    · subst hki
      simp only [Nat.sub_self, List.getElem?_cons_zero, Option.some.injEq] at h
      subst h
      simp only [hp, Bool.false_or, beq_self_eq_true, if_true, Bool.false_eq_true, if_false]
      -- the rest does not see it
      have rest : ∀ (l' : List Rec) (k' : Nat) (F : Fy), k < k' → (∀ j y, k' ≤ j → l'[j - k']? = some y → p j = true → ∀ F, y.ap (x.ap F) = x.ap (y.ap F)) →
          foldS (fun n => p n || n == k) k' l' (x.ap F) = x.ap (foldS p k' l' F) := by
        intro l'
        induction l' with
        | nil => intro k' F _ _; rfl
        | cons y l' ih =>
          intro k' F hlt hc'
          simp only [foldS]
          have hne : (k' == k) = false := by simp; omega
          simp only [hne, Bool.or_false]
          cases hpk : p k'
          · simp only [Bool.false_eq_true, if_false]
            exact ih (k' + 1) F (by omega) (fun j z hj hz hpj => hc' j z (by omega) (by rw [show j - k' = (j - (k' + 1)) + 1 by omega, List.getElem?_cons_succ]; exact hz) hpj)
          · simp only [if_true]
            rw [hc' k' y (Nat.le_refl _) (by simp) hpk F]
            exact ih (k' + 1) (y.ap F) (by omega) (fun j z hj hz hpj => hc' j z (by omega) (by rw [show j - k' = (j - (k' + 1)) + 1 by omega, List.getElem?_cons_succ]; exact hz) hpj)
      exact rest l (k + 1) F (by omega) (fun j y hj hy hpj => hc j y (by omega) (by rw [show j - k = (j - (k + 1)) + 1 by omega, List.getElem?_cons_succ]; exact hy) (by omega) hpj)
    · have hne : (k == i) = false := by simpa using hki
      simp only [hne, Bool.or_false]
      exact foldS_add l (k + 1) p i r _ (by omega) (by rw [show i - k = (i - (k + 1)) + 1 by omega, List.getElem?_cons_succ] at h; exact h) hp
        (fun j y hj hy hij hpj => hc j y (by omega) (by rw [show j - k = (j - (k + 1)) + 1 by omega, List.getElem?_cons_succ]; exact hy) hij hpj)
/-- What is looked at is the same under two choices that differ in others alone. -/
theorem foldS_same (sel : Fy → Fy → Prop) (h1 : ∀ (r : Rec) (F F' : Fy), sel F F' → sel (r.ap F) (r.ap F')) : ∀ (rs : List Rec) (k : Nat) (p p' : Nat → Bool) (F F' : Fy), sel F F' →
    (∀ j y, k ≤ j → rs[j - k]? = some y → p j ≠ p' j → (∀ F F', sel F F' → sel (y.ap F) F') ∧ (∀ F F', sel F F' → sel F (y.ap F'))) → sel (foldS p k rs F) (foldS p' k rs F')
  | [], _, _, _, _, _, h, _ => h
  | x :: l, k, p, p', F, F', h, hc => by
    simp only [foldS]
    refine foldS_same sel h1 l (k + 1) p p' _ _ ?_ (fun j y hj hy hne => hc j y (by omega) (by rw [show j - k = (j - (k + 1)) + 1 by omega, List.getElem?_cons_succ]; exact hy) hne)
    cases hp : p k <;> cases hp' : p' k <;> simp only [Bool.false_eq_true, if_false, if_true]
    · exact h
    · exact (hc k x (Nat.le_refl _) (by simp) (by rw [hp, hp']; simp)).2 F F' h
    · exact (hc k x (Nat.le_refl _) (by simp) (by rw [hp, hp']; simp)).1 F F' h
    · exact h1 x F F' h
end Go.Av
