/- Code, told: what is to be shown of it. -/
import Derived.Test.YtlpdcjbkbcmahaaGreatDoorAvDraw2
set_option linter.unusedVariables false
set_option linter.unusedSimpArgs false
namespace Go.Av
open Go.RowKit Go.Base

/-- Whose memory it is, and the world at the call. -/
structure Env where
  own : Nat → Prop
  μ0 : G0
  w0 : World
def RS (V : Env) (N : Nat) (st : St) (γ : G) (a : Act) (w : World) : Prop :=
  RL V.own V.μ0 V.w0 N [] (fun _ => False) (fun t => ⟨none, true, look st.fr t⟩) (lookO st.hp) (· ∈ st.live) γ a w ∧ Fresh st.nx (lookO st.hp) (· ∈ st.live) γ
def Post (V : Env) (N : Nat) (K : Exit → St → Prop) : Exit → Act → World → Prop := fun ex a w => ∃ st γ, RS V N st γ a w ∧ K ex st
/-- Code c, from the state st on, ends in K. -/
def Tri (P : Program) (V : Env) (N : Nat) (c : Code) (st : St) (K : Exit → St → Prop) : Prop := ∀ γ a w, RS V N st γ a w → c.wp P (Post V N K) a w

def finFr : List (Nat × LE) → List (Nat × AV) → List (Nat × AV)
  | [], fr => fr
  | (t, x) :: l, fr => (t, match x.g with | none => x.v | some _ => .any) :: finFr l fr
def finS (fr : List (Nat × AV)) (nx n : Nat) (s : LS) : St := ⟨finFr s.lf fr, s.hp, s.live, nx + 16 * n⟩
def evS (st : St) : Operand → AV
  | .tmp t => look st.fr t
  | .const v => constA v
  | _ => .any
def andThen (K : Exit → St → Prop) (next : St → Prop) : Exit → St → Prop
  | .normal, st => next st
  | ex, st => K ex st
def inBlock (id : Nat) (K : Exit → St → Prop) : Exit → St → Prop
  | .exit j, st => if j = id then K .normal st else K (.exit j) st
  | ex, st => K ex st
def condK (x : AV) (a b : Prop) : Prop := match x with
  | .d (.bool c) => (c = true → a) ∧ (c = false → b)
  | _ => False

def firstReg : Code → Nat
  | .region id _ _ => id
  | .seq a b => match a with | .skip => firstReg b | .label _ => firstReg b | a => firstReg a
  | .block _ c => firstReg c
  | .loop c => firstReg c
  | .scope c => firstReg c
  | .cond _ a _ => firstReg a
  | _ => 0
/-- Only these temporaries. -/
def cutTo (ts : List Nat) (st : St) : St := { st with fr := ts.map fun t => (t, look st.fr t) }
def lookN : List (Nat × List Nat) → Nat → Option (List Nat)
  | [], _ => none
  | (i, v) :: l, t => if i = t then some v else lookN l t
def cut (lv : List (Nat × List Nat)) (c : Code) (st : St) : St := match lookN lv (firstReg c) with | some ts => cutTo ts st | none => st
/-- What the calls of a region leave: one template for the region. -/
structure Tm where
  α : Type
  f : α → List (Nat × D)
  o : α → List (Nat × OT)
  a : List Nat := []
def lookT : List (Nat × Tm) → Nat → Option Tm
  | [], _ => none
  | (i, v) :: l, t => if i = t then some v else lookT l t
def exT (o : Option Tm) (p : Cs → Prop) : Prop := match o with
  | none => p ⟨[], [], []⟩
  | some t => ∃ x : t.α, p ⟨t.f x, t.o x, t.a⟩
theorem exT_elim {o : Option Tm} {p : Cs → Prop} (h : exT o p) : ∃ cs, p cs := by
  unfold exT at h
  split at h
  · exact ⟨_, h⟩
  · obtain ⟨x, h⟩ := h; exact ⟨_, h⟩
def hasLoop : Code → Bool
  | .seq a b => hasLoop a || hasLoop b
  | .cond _ a b => hasLoop a || hasLoop b
  | .block _ c => hasLoop c
  | .loop _ => true
  | .scope c => hasLoop c
  | .rangeFunc .. => true
  | _ => false
def vc (P : Program) (V : Env) (N : Nat) (cs : List (Nat × Tm)) (lv : List (Nat × List Nat)) : Code → St → (Exit → St → Prop) → Prop
  | .skip, st, K => K .normal st
  | .label _, st, K => K .normal st
  | .seq a b, st, K => if hasLoop a = true then vc P V N cs lv a st (andThen K fun st' => Tri P V N b st' K) else vc P V N cs lv a st (andThen K fun st' => vc P V N cs lv b st' K)
  | .cond c x y, st, K => condK (evS st c) (vc P V N cs lv x st K) (vc P V N cs lv y st K)
  | .block id c, st, K => vc P V N cs lv c st (inBlock id K)
  | .exit id, st, K => K (.exit id) st
  | .ret, st, K => K .ret st
  | .region id ops false, st, K => if regOk ops.toList N = true then exT (lookT cs id) fun cs => vcOps P cs ops.toList st.fr st.nx 0 ops.toList ⟨[], st.hp, st.live⟩ (fun s => K .normal (finS st.fr st.nx ops.toList.length s)) else False
  | .region id ops true, st, K => if regOk ops.toList N = true then exT (lookT cs id) fun cs => vcDraw P cs ops.toList st.fr st.nx ⟨[], st.hp, st.live⟩ (fun s => K .normal (finS st.fr st.nx ops.toList.length s)) else False
  | .loop c, st, K => Tri P V N (.loop c) (cut lv c st) K
  | c, st, K => Tri P V N c st K

variable {P : Program} {V : Env} {N : Nat} {γ γ' : G} {w w' : World}

theorem look_finFr (fr : List (Nat × AV)) : ∀ (lf : List (Nat × LE)) (t : Nat), look (finFr lf fr) t = match (lookE fr lf t).g with | none => (lookE fr lf t).v | some _ => .any
  | [], t => rfl
  | (i, x) :: l, t => by
    simp only [finFr, look, lookE]
    split
    · rfl
    · exact look_finFr fr l t
theorem rs_fin {ops : List Oper} {fr : List (Nat × AV)} {s : LS} {nx n : Nat} {a : Act} {done : Nat → Prop} (R : RL V.own V.μ0 V.w0 N ops done (lookE fr s.lf) (lookO s.hp) (· ∈ s.live) γ a w) (F : Fresh (nx + 16 * n) (lookO s.hp) (· ∈ s.live) γ) : RS V N (finS fr nx n s) γ a w := by
  refine ⟨⟨R.defers, R.size, fun t => ?_, (fun t j want h => by cases h), R.hp, R.base, R.big, R.mu⟩, F⟩
  show RepA γ (look (finFr s.lf fr) t) (a.tmps.getD t undef)
  rw [look_finFr]
  have := R.fr t
  unfold EOk at this
  split
  · rename_i h; rw [h] at this; exact this
  · simp only [RepA]
theorem Tri.mono {c : Code} {st : St} {K K' : Exit → St → Prop} (h : Tri P V N c st K) (hk : ∀ ex st', K ex st' → K' ex st') : Tri P V N c st K' :=
  fun γ a w hr => wp_mono (h γ a w hr) fun _ _ _ ⟨st', γ', h1, h2⟩ => ⟨st', γ', h1, hk _ _ h2⟩
theorem Tri.seq {a b : Code} {st : St} {K : Exit → St → Prop} (h : Tri P V N a st (andThen K fun st' => Tri P V N b st' K)) : Tri P V N (.seq a b) st K := fun γ x w hr => by
  refine wp_seq (wp_mono (h γ x w hr) ?_)
  rintro ex a' w' ⟨st', γ', h1, h2⟩
  cases ex with
  | normal => exact h2 γ' a' w' h1
  | _ => exact ⟨st', γ', h1, h2⟩
theorem Tri.block {id : Nat} {c : Code} {st : St} {K : Exit → St → Prop} (h : Tri P V N c st (inBlock id K)) : Tri P V N (.block id c) st K := fun γ x w hr => by
  refine wp_block (wp_mono (h γ x w hr) ?_)
  rintro ex a' w' ⟨st', γ', h1, h2⟩
  cases ex with
  | exit j =>
    simp only [inBlock] at h2
    simp only [Exit.inBlock]
    split
    · rename_i hj; rw [if_pos hj] at h2; exact ⟨st', γ', h1, h2⟩
    · rename_i hj; rw [if_neg hj] at h2; exact ⟨st', γ', h1, h2⟩
  | _ => exact ⟨st', γ', h1, h2⟩
theorem Tri.cond {c : Operand} {x y : Code} {st : St} {K : Exit → St → Prop} {b : Bool} (hc : evS st c = .d (.bool b)) (h1 : b = true → Tri P V N x st K) (h2 : b = false → Tri P V N y st K) : Tri P V N (.cond c x y) st K := fun γ a w hr => by
  have hv : a.eval c = .bool b := by
    cases c with
    | tmp t =>
      have := hr.1.fr t
      simp only [evS] at hc
      simp only [EOk, hc, RepA, Rep] at this
      exact this
    | const v =>
      simp only [evS] at hc
      have := rep_const (γ := γ) v
      rw [hc] at this
      simp only [RepA, Rep] at this
      exact this
    | _ => cases hc
  exact wp_cond_split hv (fun h => h1 h γ a w hr) (fun h => h2 h γ a w hr)
theorem Tri.region {id : Nat} {ops : Array Oper} {st : St} {K : Exit → St → Prop} {cs : Cs} (hr : regOk ops.toList N = true)
    (h : vcOps P cs ops.toList st.fr st.nx 0 ops.toList ⟨[], st.hp, st.live⟩ (fun s => K .normal (finS st.fr st.nx ops.toList.length s))) : Tri P V N (.region id ops false) st K := fun γ a w hs => by
  refine wp_region_list ?_
  have := ops_seq (P := P) (QQ := Post V N K) hr (fun s γ a w hk R F => ⟨_, γ, rs_fin R F, hk⟩) ops.toList 0 ⟨[], st.hp, st.live⟩ γ a w (by simp) (by simp)
    ⟨hs.1.defers, hs.1.size, fun t => hs.1.fr t, (fun t j want h => by cases h), hs.1.hp, hs.1.base, hs.1.big, hs.1.mu⟩ hs.2 h
  simpa using this

theorem Tri.draw (hm : P.follows .mixedOrders = true) {id : Nat} {ops : Array Oper} {st : St} {K : Exit → St → Prop} {cs : Cs} (hr : regOk ops.toList N = true)
    (h : vcDraw P cs ops.toList st.fr st.nx ⟨[], st.hp, st.live⟩ (fun s => K .normal (finS st.fr st.nx ops.toList.length s))) : Tri P V N (.region id ops true) st K := fun γ a w hs => by
  refine wp_region_any hm ?_
  unfold vcDraw at h
  split at h
  · rename_i rs s' hrun
    split at h
    · rename_i hok
      simp only [Bool.and_eq_true] at hok
      obtain ⟨h1, h2, h3⟩ := runD_good ops.toList 0 ⟨[], st.hp, st.live⟩ s' rs (by simp) hrun
      obtain ⟨o1, o2⟩ := obsAll_spec h
      have R : RL V.own V.μ0 V.w0 N ops.toList (fun _ => False) (fun t => ⟨none, true, look st.fr t⟩) (lookO st.hp) (· ∈ st.live) γ a { w with drawn := w.drawn + 1 } :=
        ⟨hs.1.defers, hs.1.size, fun t => hs.1.fr t, (fun t j want h => by cases h), ⟨hs.1.hp.fz, hs.1.hp.obj, hs.1.hp.inj, hs.1.hp.tok, hs.1.hp.tinj⟩, ⟨hs.1.base.os, hs.1.base.tape, hs.1.base.output, hs.1.base.size, hs.1.base.block⟩, hs.1.big, hs.1.mu⟩
      have no : ∀ n, (Array.replicate ops.toList.length false).getD n false = false := fun n => by
        rw [Array.getD_eq_getD_getElem?, Array.getElem?_replicate]; split <;> rfl
      have e0 : foldS (fun n => (Array.replicate ops.toList.length false).getD n false) 0 rs (fsOf st.fr ⟨[], st.hp, st.live⟩) = fsOf st.fr ⟨[], st.hp, st.live⟩ := foldS_skip _ _ _ _ fun n _ => no n
      have := draw_any (γ0 := γ) (P := P) (cs := cs) (nx := st.nx) (QQ := Post V N K) (own := V.own) (μ0 := V.μ0) (w0 := V.w0) hr hok.1 hok.2 h1 (fun k r hk => by have := h2 k r hk; simpa using this) o1
        (fun γ a w _ R F => ⟨finS st.fr st.nx ops.toList.length s', γ, rs_fin (fr := st.fr) (s := s') (nx := st.nx) (n := ops.toList.length) (by rw [← h3] at R; exact R) (by rw [← h3] at F; exact F), o2⟩)
        ops.toList.length (Array.replicate ops.toList.length false) a { w with drawn := w.drawn + 1 }
        ⟨by simp, fun j hj => (by omega), fun j _ => no j, fun j o _ hl => (by rw [no] at hl; cases hl), ⟨γ, LeG.refl γ, by
          rw [e0]
          have ed : (fun k => (Array.replicate ops.toList.length false).getD k false = true) = (fun _ => False) := by funext k; rw [no]; simp
          rw [ed]; exact R, by
          rw [e0]
          intro id hid
          refine hs.2.ok id ?_
          rcases hid with ⟨j, _, _, h⟩ | h <;> omega⟩⟩ (Nat.le_trans (List.countP_le_length) (by simp))
      simpa using this
    · exact h.elim
  · exact h.elim
theorem rs_cutTo {ts : List Nat} {st : St} {a : Act} (h : RS V N st γ a w) : RS V N (cutTo ts st) γ a w := by
  refine ⟨⟨h.1.defers, h.1.size, fun t => ?_, (fun t j want h => by cases h), h.1.hp, h.1.base, h.1.big, h.1.mu⟩, h.2⟩
  show RepA γ (look (cutTo ts st).fr t) (a.tmps.getD t undef)
  have key : ∀ l : List Nat, look (l.map fun t => (t, look st.fr t)) t = .any ∨ look (l.map fun t => (t, look st.fr t)) t = look st.fr t := by
    intro l
    induction l with
    | nil => exact .inl rfl
    | cons x l ih =>
      simp only [List.map_cons, look]
      split
      · rename_i e; subst e; exact .inr rfl
      · exact ih
  rcases key ts with e | e
  · simp only [cutTo]; rw [e]; simp only [RepA]
  · simp only [cutTo]; rw [e]; exact h.1.fr t
theorem rs_cut {lv : List (Nat × List Nat)} {c : Code} {st : St} {a : Act} (h : RS V N st γ a w) : RS V N (cut lv c st) γ a w := by
  unfold cut
  split
  · exact rs_cutTo h
  · exact h

/-- The conditions imply that the code runs as told. -/
theorem vc_sound (hm : P.follows .mixedOrders = true) {cs : List (Nat × Tm)} {lv : List (Nat × List Nat)} : ∀ (c : Code) (st : St) (K : Exit → St → Prop), vc P V N cs lv c st K → Tri P V N c st K
  | .skip, st, K, h => fun γ a w hr => wp_skip ⟨st, γ, hr, h⟩
  | .label _, st, K, h => fun γ a w hr => wp_label ⟨st, γ, hr, h⟩
  | .exit id, st, K, h => fun γ a w hr => wp_exit ⟨st, γ, hr, h⟩
  | .ret, st, K, h => fun γ a w hr => wp_ret ⟨st, γ, hr, h⟩
  | .seq a b, st, K, h => by
    unfold vc at h
    split at h
    · exact Tri.seq (vc_sound hm a st _ h)
    · refine Tri.seq ((vc_sound hm a st _ h).mono fun ex st' hk => ?_)
      cases ex with
      | normal => exact vc_sound hm b st' K hk
      | _ => exact hk
  | .block id c, st, K, h => Tri.block (vc_sound hm c st _ h)
  | .cond c x y, st, K, h => by
    unfold vc condK at h
    split at h
    · rename_i b hb
      exact Tri.cond hb (fun hb => vc_sound hm x st K (h.1 hb)) (fun hb => vc_sound hm y st K (h.2 hb))
    · exact h.elim
  | .region id ops false, st, K, h => by
    unfold vc at h
    split at h
    · rename_i hr; obtain ⟨cs, h⟩ := exT_elim h; exact Tri.region hr h
    · exact h.elim
  | .region id ops true, st, K, h => by
    unfold vc at h
    split at h
    · rename_i hr; obtain ⟨cs, h⟩ := exT_elim h; exact Tri.draw hm hr h
    · exact h.elim
  | .loop c, st, K, h => fun γ a w hr => h γ a w (rs_cut hr)
  | .rangeFunc .., st, K, h => h
  | .scope _, st, K, h => h
  | .goto _, st, K, h => h
  | .refuse _, st, K, h => h
end Go.Av
