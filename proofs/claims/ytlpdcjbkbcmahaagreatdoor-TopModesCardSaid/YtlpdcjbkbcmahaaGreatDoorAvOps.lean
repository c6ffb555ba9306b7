/- Each quiet operation does in memory what the words say. -/
import Derived.Test.YtlpdcjbkbcmahaaGreatDoorAvRep
import Derived.Deep.MidRow
import Derived.Laws.Slices
import Derived.Laws.Strings
import Derived.ChangeKeysEq
import Derived.Laws.StructEq
set_option linter.unusedVariables false
set_option linter.unusedSimpArgs false
namespace Go.Av
open Go.RowKit Go.Base
variable {P : Program} {γ : G} {w : World}

/-! ### Lists of values -/
theorem RepL.length {μ : Nat → Nat → Option Value} : ∀ {ds : List D} {vs : List Value}, RepL μ ds vs → ds.length = vs.length
  | [], _, h => by simp only [RepL] at h; subst h; rfl
  | _ :: _, _, h => by simp only [RepL] at h; obtain ⟨v, t, rfl, _, h⟩ := h; simp [h.length]
theorem RepL.get {μ : Nat → Nat → Option Value} : ∀ {ds : List D} {vs : List Value}, RepL μ ds vs → ∀ (i : Nat) (d : D), ds[i]? = some d → ∃ v, vs[i]? = some v ∧ Rep μ d v
  | [], _, _, _, _, h => by simp at h
  | x :: l, _, h, i, d, hd => by
    simp only [RepL] at h
    obtain ⟨v, t, rfl, h1, h2⟩ := h
    cases i with
    | zero => simp at hd; subst hd; exact ⟨v, by simp, h1⟩
    | succ i => simpa using h2.get i d (by simpa using hd)
theorem RepL.drop {μ : Nat → Nat → Option Value} : ∀ {ds : List D} {vs : List Value} (k : Nat), RepL μ ds vs → RepL μ (ds.drop k) (vs.drop k)
  | _, _, 0, h => by simpa using h
  | [], _, k + 1, h => by simp only [RepL] at h; subst h; simp [RepL]
  | x :: l, _, k + 1, h => by simp only [RepL] at h; obtain ⟨v, t, rfl, _, h⟩ := h; simpa using h.drop k
theorem RepL.take {μ : Nat → Nat → Option Value} : ∀ {ds : List D} {vs : List Value} (k : Nat), RepL μ ds vs → RepL μ (ds.take k) (vs.take k)
  | _, _, 0, h => by simp [RepL]
  | [], _, k + 1, h => by simp only [RepL] at h; subst h; simp [RepL]
  | x :: l, _, k + 1, h => by
    simp only [RepL] at h
    obtain ⟨v, t, rfl, h1, h⟩ := h
    simp only [List.take_succ_cons, RepL]
    exact ⟨v, _, rfl, h1, h.take k⟩
theorem RepAL.length : ∀ {ds : List AV} {vs : List Value}, RepAL γ ds vs → ds.length = vs.length
  | [], _, h => by simp only [RepAL] at h; subst h; rfl
  | _ :: _, _, h => by simp only [RepAL] at h; obtain ⟨v, t, rfl, _, h⟩ := h; simp [h.length]
theorem RepAL.get : ∀ {ds : List AV} {vs : List Value}, RepAL γ ds vs → ∀ (i : Nat) (d : AV), ds[i]? = some d → ∃ v, vs[i]? = some v ∧ RepA γ d v
  | [], _, _, _, _, h => by simp at h
  | x :: l, _, h, i, d, hd => by
    simp only [RepAL] at h
    obtain ⟨v, t, rfl, h1, h2⟩ := h
    cases i with
    | zero => simp at hd; subst hd; exact ⟨v, by simp, h1⟩
    | succ i => simpa using h2.get i d (by simpa using hd)
theorem RepAL.drop : ∀ {ds : List AV} {vs : List Value} (k : Nat), RepAL γ ds vs → RepAL γ (ds.drop k) (vs.drop k)
  | _, _, 0, h => by simpa using h
  | [], _, k + 1, h => by simp only [RepAL] at h; subst h; simp [RepAL]
  | x :: l, _, k + 1, h => by simp only [RepAL] at h; obtain ⟨v, t, rfl, _, h⟩ := h; simpa using h.drop k
theorem RepAL.take : ∀ {ds : List AV} {vs : List Value} (k : Nat), RepAL γ ds vs → RepAL γ (ds.take k) (vs.take k)
  | _, _, 0, h => by simp [RepAL]
  | [], _, k + 1, h => by simp only [RepAL] at h; subst h; simp [RepAL]
  | x :: l, _, k + 1, h => by
    simp only [RepAL] at h
    obtain ⟨v, t, rfl, h1, h⟩ := h
    simp only [List.take_succ_cons, RepAL]
    exact ⟨v, _, rfl, h1, h.take k⟩
theorem RepAL.of_map : ∀ {ds : List D} {vs : List Value}, RepL γ.μ ds vs → RepAL γ (ds.map .d) vs
  | [], _, h => by simp only [RepL] at h; subst h; simp [RepAL]
  | x :: l, _, h => by
    simp only [RepL] at h
    obtain ⟨v, t, rfl, h1, h⟩ := h
    simp only [List.map_cons, RepAL, RepA]
    exact ⟨v, _, rfl, h1, RepAL.of_map h⟩
theorem RepAL.to_map : ∀ {ds : List D} {vs : List Value}, RepAL γ (ds.map .d) vs → RepL γ.μ ds vs
  | [], _, h => by simpa [RepAL, RepL] using h
  | x :: l, _, h => by
    simp only [List.map_cons, RepAL, RepA] at h
    obtain ⟨v, t, rfl, h1, h⟩ := h
    simp only [RepL]
    exact ⟨v, t, rfl, h1, RepAL.to_map h⟩
theorem unD_some : ∀ {l : List AV} {ds : List D}, unD l = some ds → l = ds.map .d
  | [], _, h => by simp [unD] at h; subst h; rfl
  | .d x :: l, ds, h => by
    simp only [unD, Option.map_eq_some_iff] at h
    obtain ⟨r, h1, rfl⟩ := h
    rw [unD_some h1]; rfl
  | .ap .. :: _, _, h => by simp [unD] at h
  | .ptr .. :: _, _, h => by simp [unD] at h
  | .ep .. :: _, _, h => by simp [unD] at h
  | .pa .. :: _, _, h => by simp [unD] at h
  | .arr .. :: _, _, h => by simp [unD] at h
  | .mp .. :: _, _, h => by simp [unD] at h
  | .vec .. :: _, _, h => by simp [unD] at h
  | .pv .. :: _, _, h => by simp [unD] at h
  | .fn .. :: _, _, h => by simp [unD] at h
  | .agg .. :: _, _, h => by simp [unD] at h
  | .tup .. :: _, _, h => by simp [unD] at h
  | .any :: _, _, h => by simp [unD] at h
theorem rep_aggOf {l : List AV} {vs : List Value} (h : RepAL γ l vs) : RepA γ (aggOf l) (.agg vs.toArray) := by
  unfold aggOf
  split
  · rename_i ds hd
    rw [unD_some hd] at h
    simp only [RepA, Rep]
    exact ⟨vs, rfl, h.to_map⟩
  · simp only [RepA]
    exact ⟨vs, rfl, h⟩
theorem Rep.cells_one {μ : Nat → Nat → Option Value} {d : D} {v : Value} (h : Rep μ d v) (ho : d.one = true) : v.oneCell' = true ∧ v.cells = #[v] ∧ d.cells = [d] := by
  cases d with
  | bool b => simp only [Rep] at h; subst h; exact ⟨rfl, rfl, rfl⟩
  | int k n => simp only [Rep] at h; subst h; exact ⟨rfl, rfl, rfl⟩
  | str s => simp only [Rep] at h; subst h; exact ⟨rfl, rfl, rfl⟩
  | sl sz n f => simp only [Rep] at h; obtain ⟨A, c, rfl, _⟩ := h; exact ⟨rfl, rfl, rfl⟩
  | agg _ => cases ho
  | tup _ => cases ho
  | bad => cases ho
theorem RepA.cells_one {d : AV} {v : Value} (h : RepA γ d v) (ho : d.one = true) : v.oneCell' = true ∧ v.cells = #[v] ∧ d.cells = [d] := by
  cases d with
  | d x =>
    simp only [RepA] at h
    obtain ⟨h1, h2, _⟩ := h.cells_one ho
    refine ⟨h1, h2, ?_⟩
    cases x <;> first | rfl | cases ho
  | ap sz n f r => simp only [RepA, Rep] at h; obtain ⟨⟨A, c, rfl, _⟩, _⟩ := h; exact ⟨rfl, rfl, rfl⟩
  | ptr id off => simp only [RepA] at h; obtain ⟨b, _, rfl⟩ := h; exact ⟨rfl, rfl, rfl⟩
  | ep x off => simp only [RepA] at h; obtain ⟨b, o, u, rfl, _⟩ := h; exact ⟨rfl, rfl, rfl⟩
  | pa id sz i off => simp only [RepA] at h; obtain ⟨b, _, rfl⟩ := h; exact ⟨rfl, rfl, rfl⟩
  | arr id sz n => simp only [RepA] at h; obtain ⟨b, c, _, rfl, _⟩ := h; exact ⟨rfl, rfl, rfl⟩
  | mp id => simp only [RepA] at h; obtain ⟨b, _, rfl⟩ := h; exact ⟨rfl, rfl, rfl⟩
  | vec id sz n => simp only [RepA] at h; obtain ⟨e, A, c, _, rfl, _⟩ := h; exact ⟨rfl, rfl, rfl⟩
  | pv id sz i off => simp only [RepA] at h; obtain ⟨u, e, b, _, _, rfl⟩ := h; exact ⟨rfl, rfl, rfl⟩
  | fn f c => simp only [RepA] at h; obtain ⟨vs, rfl, _⟩ := h; exact ⟨rfl, rfl, rfl⟩
  | nilp => simp only [RepA] at h; subst h; exact ⟨rfl, rfl, rfl⟩
  | nilf => simp only [RepA] at h; subst h; exact ⟨rfl, rfl, rfl⟩
  | agg _ => cases ho
  | tup _ => cases ho
  | any => cases ho
/-- The cells of a value. -/
theorem rep_cells {μ : Nat → Nat → Option Value} {d : D} {v : Value} (h : Rep μ d v) : RepL μ d.cells v.cells.toList := by
  by_cases ho : d.one = true
  · obtain ⟨_, h2, h3⟩ := h.cells_one ho
    rw [h2, h3]
    simp only [RepL]
    exact ⟨v, [], rfl, h, rfl⟩
  · cases d with
    | agg cs => simp only [Rep] at h; obtain ⟨vs, rfl, h⟩ := h; simpa [D.cells, Value.cells] using h
    | tup cs =>
      have hh := h
      simp only [Rep] at h
      obtain ⟨vs, rfl, _⟩ := h
      simp only [D.cells, Value.cells, RepL]
      exact ⟨_, [], rfl, hh, rfl⟩
    | bad => simp only [Rep] at h
    | _ => exact absurd rfl ho
theorem repA_cells {d : AV} {v : Value} (h : RepA γ d v) (ho : d.cells.all AV.one = true) : RepAL γ d.cells v.cells.toList ∧ ∀ x ∈ v.cells, x.oneCell' = true := by
  have key : RepAL γ d.cells v.cells.toList := by
    by_cases h1 : d.one = true
    · obtain ⟨_, h2, h3⟩ := h.cells_one h1
      rw [h2, h3]
      simp only [RepAL]
      exact ⟨v, [], rfl, h, rfl⟩
    · cases d with
      | d x =>
        simp only [RepA] at h
        have := rep_cells h
        cases x with
        | agg cs => simpa [AV.cells, D.cells] using RepAL.of_map this
        | tup cs => simp [AV.cells, AV.one, D.one] at ho
        | bad => simp [AV.cells, AV.one, D.one] at ho
        | _ => exact absurd rfl h1
      | agg cs => simp only [RepA] at h; obtain ⟨vs, rfl, h⟩ := h; simpa [AV.cells, Value.cells] using h
      | tup cs => simp [AV.cells, AV.one] at ho
      | any => simp [AV.cells, AV.one] at ho
      | _ => exact absurd rfl h1
  refine ⟨key, fun x hx => ?_⟩
  obtain ⟨i, hi, rfl⟩ := Array.mem_iff_getElem.1 hx
  have hl := key.length
  have hi2 : i < d.cells.length := by rw [hl]; simpa using hi
  obtain ⟨u, hu, hr⟩ := key.get i d.cells[i] (List.getElem?_eq_getElem hi2)
  have hu2 : v.cells[i] = u := by
    have : v.cells.toList[i]? = some v.cells[i] := by simp [hi]
    rw [this] at hu
    injection hu
  rw [hu2]
  exact (hr.cells_one (List.all_eq_true.1 ho _ (List.getElem_mem hi2))).1

theorem rep_const (v : Value) : RepA γ (constA v) v := by
  unfold constA
  split <;> simp only [RepA, Rep, RightOk]
  exact ⟨⟨none, 0, rfl, Nat.le_refl _, by unfold maxLen; omega, fun h => absurd h (by omega)⟩, trivial⟩

/-! ### The run of single steps -/
def Stay (P : Program) (γ : G) (w : World) (ρ : Operand → Value) (o : Oper) (v : AV) : Prop := ∃ u, (execOp ρ o).run P w = .ok (.value u) w ∧ RepA γ v u

theorem und_of {t : TypeId} {d : TypeDesc} (h : P.underlying t = some d) : (underlying t).run P w = .ok d w := run_underlying h w
theorem size_of {t : TypeId} {i : TypeInfo} (h : P.info? t = some i) : (sizeOf t).run P w = .ok (sizeT P t) w := by
  simp [sizeOf, typeInfo, h, sizeT]
theorem und_info {t : TypeId} {d : TypeDesc} (h : P.underlying t = some d) : ∃ i, P.info? t = some i := by
  unfold Program.underlying at h
  cases hi : P.info? t with
  | none => rw [hi] at h; cases h
  | some i => exact ⟨i, rfl⟩
theorem isAgg_of {t : TypeId} {d : TypeDesc} (h : P.underlying t = some d) : (isAgg t).run P w = .ok (isAggT P t) w := by
  unfold isAgg isAggT
  rw [Sem.run_bind, und_of h, h]
  cases d <;> simp
theorem cell_mid (b o j : Nat) : (⟨b, o, none⟩ : Addr).add j = ⟨b, o + j, none⟩ := by unfold Addr.add; split <;> simp_all

/-- The variable at a place, by its cells. -/
theorem run_loadVar_of {t : TypeId} {d : TypeDesc} (hd : P.underlying t = some d) {b o : Nat} {cs : List Value}
    (hc : ∀ j v, cs[j]? = some v → w.cell? ⟨b, o + j, none⟩ = some v) (v : Value)
    (hv : if isAggT P t then sizeT P t = cs.length ∧ v = .agg cs.toArray else cs[0]? = some v) : (loadVar t ⟨b, o, none⟩).run P w = .ok v w := by
  obtain ⟨i, hi⟩ := und_info hd
  unfold loadVar
  rw [Sem.run_bind, isAgg_of hd]
  split at hv
  · rename_i ha
    obtain ⟨h1, rfl⟩ := hv
    have := run_loadCells_list (P := P) w ⟨b, o, none⟩ cs (fun j v hv => by rw [cell_mid]; exact hc j v hv)
    rw [← h1] at this
    simp [ha, size_of hi, this]
  · rename_i ha
    have := hc 0 v hv
    simp only [Nat.add_zero] at this
    simp [ha, this]
theorem run_part_of {t : TypeId} {d : TypeDesc} (hd : P.underlying t = some d) {cs : List Value} {off : Nat} (v : Value)
    (hv : if isAggT P t then off + sizeT P t ≤ cs.length ∧ v = .agg ((cs.drop off).take (sizeT P t)).toArray else cs[off]? = some v) : (part t cs.toArray off).run P w = .ok v w := by
  obtain ⟨i, hi⟩ := und_info hd
  unfold part
  rw [Sem.run_bind, isAgg_of hd]
  split at hv
  · rename_i ha
    obtain ⟨h1, rfl⟩ := hv
    simp [ha, size_of hi]
  · rename_i ha
    simp [ha, hv]

theorem partD_some {μ : Nat → Nat → Option Value} {t : TypeId} {cs : List D} {off : Nat} {y : D} {vs : List Value} (h : partD P t cs off = some y) (hr : RepL μ cs vs) :
    ∃ v, Rep μ y v ∧ if isAggT P t then off + sizeT P t ≤ vs.length ∧ v = .agg ((vs.drop off).take (sizeT P t)).toArray else vs[off]? = some v := by
  unfold partD at h
  split at h
  · rename_i ha
    split at h
    · rename_i hl
      injection h with h
      subst h
      refine ⟨_, ?_, by rw [if_pos ha]; exact ⟨by rw [← hr.length]; exact hl, rfl⟩⟩
      simp only [Rep]
      exact ⟨_, rfl, (hr.drop off).take _⟩
    · cases h
  · rename_i ha
    obtain ⟨v, h1, h2⟩ := hr.get off y h
    exact ⟨v, h2, by rw [if_neg ha]; exact h1⟩
theorem partA_some {t : TypeId} {cs : List AV} {off : Nat} {y : AV} {vs : List Value} (h : partA P t cs off = some y) (hr : RepAL γ cs vs) :
    ∃ v, RepA γ y v ∧ if isAggT P t then off + sizeT P t ≤ vs.length ∧ v = .agg ((vs.drop off).take (sizeT P t)).toArray else vs[off]? = some v := by
  unfold partA at h
  split at h
  · rename_i ha
    split at h
    · rename_i hl
      injection h with h
      subst h
      exact ⟨_, rep_aggOf ((hr.drop off).take _), by rw [if_pos ha]; exact ⟨by rw [← hr.length]; exact hl, rfl⟩⟩
    · cases h
  · rename_i ha
    obtain ⟨v, h1, h2⟩ := hr.get off y h
    exact ⟨v, h2, by rw [if_neg ha]; exact h1⟩
/-- Cells that lie from an offset on, and a part of them. -/
theorem load_of_part {t : TypeId} {d : TypeDesc} (hd : P.underlying t = some d) {b o off : Nat} {vs : List Value} (hc : ∀ j v, vs[j]? = some v → w.cell? ⟨b, o + j, none⟩ = some v) (v : Value)
    (hv : if isAggT P t then off + sizeT P t ≤ vs.length ∧ v = .agg ((vs.drop off).take (sizeT P t)).toArray else vs[off]? = some v) : (Instr.loadAt t (.pointer (some ⟨b, o + off, none⟩))).run P w = .ok v w := by
  unfold Instr.loadAt Instr.sureAddr
  simp only [Sem.run_bind, Sem.run_pure, Result.andThen_ok]
  split at hv
  · rename_i ha
    obtain ⟨h1, rfl⟩ := hv
    refine run_loadVar_of hd (cs := (vs.drop off).take (sizeT P t)) ?_ _ (by rw [if_pos ha]; exact ⟨by simp; omega, rfl⟩)
    intro j u hu
    rw [Nat.add_assoc]
    refine hc _ _ ?_
    rw [List.getElem?_take] at hu
    split at hu
    · rw [List.getElem?_drop] at hu; exact hu
    · cases hu
  · rename_i ha
    refine run_loadVar_of hd (cs := vs.drop off) ?_ _ (by rw [if_neg ha]; simpa using hv)
    intro j u hu
    rw [Nat.add_assoc]
    refine hc _ _ ?_
    rw [List.getElem?_drop] at hu; exact hu
theorem optQ_ok {α : Type} {x : Option α} {f : α → Q} (h : (optQ x f).ok = true) : ∃ a, x = some a ∧ optQ x f = f a := by
  cases x with
  | none => cases h
  | some a => exact ⟨a, rfl, rfl⟩
theorem aggT_of {t : TypeId} (hz : ∃ d, P.underlying t = some d) : True := trivial

section
variable {own : Nat → Prop} {hp : Nat → Option Ob} {live : Nat → Prop} {ρ : Operand → Value}
theorem stay_load (H : Hp own hp live γ w) {o : Oper} {t : TypeId} {a : Operand} (ho : o.op = .load t a) {d : TypeDesc} (hd : P.underlying t = some d) (p : AV) (hr : RepA γ p (ρ a))
    (hk : (loadQ P t hp p).ok = true) (hob : ∀ x ∈ (loadQ P t hp p).ob, x) : Stay P γ w ρ o (loadQ P t hp p).v := by
  unfold Stay execOp
  simp only [ho]
  unfold loadQ at hk hob ⊢
  split at hk
  · rename_i id off
    simp only [RepA] at hr
    obtain ⟨b, hb, hv⟩ := hr
    cases hh : hp id with
    | none => simp [hh, Q.no] at hk
    | some ob =>
      cases ob with
      | cells cs =>
        simp only [hh] at hk hob ⊢
        obtain ⟨y, h1, h2⟩ := optQ_ok hk
        rw [h2]
        obtain ⟨b', x, e1, e2, e3, _⟩ := H.blk hh rfl
        obtain rfl : b' = b := by rw [hb] at e1; injection e1 with e1; injection e1 with e1; exact e1.symm
        obtain ⟨vs, el, rfl, e4, _⟩ := e3
        obtain ⟨u, h3, h4⟩ := partA_some h1 e4
        refine ⟨u, ?_, h3⟩
        rw [hv]
        have := load_of_part (P := P) (w := w) hd (b := b') (o := 0) (off := off) (vs := vs) (fun j v hj => by simp [World.cell?, e2, hj]) u h4
        rw [Nat.zero_add] at this
        simp [this]
      | arr _ _ _ => simp [hh, Q.no] at hk
      | map _ _ _ _ _ => simp [hh, Q.no] at hk
      | vec _ _ _ _ => simp [hh, Q.no] at hk
      | gone => simp [hh, Q.no] at hk
      | bld0 _ => simp [hh, Q.no] at hk
  · rename_i x off
    simp only [RepA] at hr
    obtain ⟨b, o', u, hv, h1, _, h2⟩ := hr
    obtain ⟨y, h3, h4⟩ := optQ_ok hk
    rw [h4]
    obtain ⟨z, h5, h6⟩ := partD_some h3 (rep_cells h1)
    refine ⟨z, ?_, by simpa only [Q.ret, RepA] using h5⟩
    rw [hv]
    have := load_of_part (P := P) (w := w) hd (b := b) (o := o') (off := off) (vs := u.cells.toList) (fun j v hj => by
      have hlt : j < u.cells.size := by simpa using (List.getElem?_eq_some_iff.1 hj).1
      refine H.fz _ _ _ ?_
      rw [h2 j hlt]
      simpa using hj) z h6
    simp [this]
  · rename_i id sz i off
    simp only [RepA] at hr
    obtain ⟨b, hb, hv⟩ := hr
    cases hh : hp id with
    | none => simp [hh, Q.no] at hk
    | some ob =>
      cases ob with
      | arr z n f =>
        simp only [hh] at hk hob ⊢
        split at hk
        · rename_i hz
          subst hz
          simp only [if_true] at hob ⊢
          obtain ⟨y, h1, h2⟩ := optQ_ok hk
          rw [h2] at hob ⊢
          have hi : i < n := hob _ (by simp [Q.when])
          obtain ⟨b', x, e1, e2, e3, _⟩ := H.blk hh rfl
          obtain rfl : b' = b := by rw [hb] at e1; injection e1 with e1; injection e1 with e1; exact e1.symm
          obtain ⟨vs, el, rfl, _, e4⟩ := e3
          obtain ⟨u, h3, h4, _, h5⟩ := e4 i hi
          obtain ⟨q, h6, h7⟩ := partD_some h1 (rep_cells h3)
          refine ⟨q, ?_, by simpa only [Q.when, RepA] using h6⟩
          rw [hv]
          have := load_of_part (P := P) (w := w) hd (b := b') (o := i * z) (off := off) (vs := u.cells.toList) (fun j v hj => by
            have hlt : j < z := by rw [← h4]; simpa using (List.getElem?_eq_some_iff.1 hj).1
            have h8 := h5 j hlt
            simp [World.cell?, e2, h8]
            simpa using hj) q h7
          simp [this]
        · cases hk
      | cells _ => simp [hh, Q.no] at hk
      | map _ _ _ _ _ => simp [hh, Q.no] at hk
      | vec _ _ _ _ => simp [hh, Q.no] at hk
      | gone => simp [hh, Q.no] at hk
      | bld0 _ => simp [hh, Q.no] at hk
  · rename_i id sz i off
    simp only [RepA] at hr
    obtain ⟨uv, el, b, hu, hub, hv⟩ := hr
    cases hh : hp id with
    | none => simp [hh, Q.no] at hk
    | some ob =>
      cases ob with
      | vec e z n f =>
        simp only [hh] at hk hob ⊢
        split at hk
        · rename_i hz
          subst hz
          simp only [if_true] at hob ⊢
          obtain ⟨y, h1, h2⟩ := optQ_ok hk
          rw [h2] at hob ⊢
          have hi : i < n := hob _ (by simp [Q.when])
          obtain ⟨v', xs, e1, _, e2, e3, _⟩ := H.vec hh
          rw [hu] at e1
          injection e1 with e1
          injection e1 with e1 e4 e5
          subst e1
          obtain ⟨u, h3, h4, _, h5⟩ := e3 i hi
          obtain ⟨q, h6, h7⟩ := partD_some h1 (rep_cells h3)
          refine ⟨q, ?_, by simpa only [Q.when, RepA] using h6⟩
          rw [hv]
          have := load_of_part (P := P) (w := w) hd (b := b) (o := i * z) (off := off) (vs := u.cells.toList) (fun j v hj => by
            have hlt : j < z := by rw [← h4]; simpa using (List.getElem?_eq_some_iff.1 hj).1
            have h8 := h5 j hlt
            have h9 : u.cells[j]? = some v := by simpa using hj
            rw [h9] at h8
            have := e2.cells hub _ _ h8
            rwa [cell_mid, Nat.zero_add] at this) q h7
          simp [this]
        · cases hk
      | cells _ => simp [hh, Q.no] at hk
      | arr _ _ _ => simp [hh, Q.no] at hk
      | map _ _ _ _ _ => simp [hh, Q.no] at hk
      | gone => simp [hh, Q.no] at hk
      | bld0 _ => simp [hh, Q.no] at hk
  · cases hk


theorem armF_cases (x : Bool) (a : AV) : (∃ y, a = .d (.bool y) ∧ armF x a = .ret (.d (.bool (x && y)))) ∨ armF x a = .when [x = false] (.d (.bool false)) := by
  unfold armF
  split
  · exact .inl ⟨_, rfl, rfl⟩
  · exact .inr rfl
theorem armT_cases (x : Bool) (a : AV) : (∃ y, a = .d (.bool y) ∧ armT x a = .ret (.d (.bool (x || y)))) ∨ armT x a = .when [x = true] (.d (.bool true)) := by
  unfold armT
  split
  · exact .inl ⟨_, rfl, rfl⟩
  · exact .inr rfl
theorem stay_pick {o : Oper} {c a b : Operand} (ho : o.op = .pick c a b) (e : Operand → AV) (hcst2 : ∀ v, ρ (.const v) = v)
    (hc : RepA γ (e c) (ρ c)) (ha : ∀ x, e c = .d (.bool x) → x = true → RepA γ (e a) (ρ a)) (hb : ∀ x, e c = .d (.bool x) → x = false → RepA γ (e b) (ρ b))
    (hk : (pickQ (e c) (e a) (e b) (isBool false b) (isBool true a)).ok = true) (hob : ∀ z ∈ (pickQ (e c) (e a) (e b) (isBool false b) (isBool true a)).ob, z) : Stay P γ w ρ o (pickQ (e c) (e a) (e b) (isBool false b) (isBool true a)).v := by
  unfold Stay execOp
  simp only [ho]
  generalize hx : e c = xc at *
  unfold pickQ at hk hob ⊢
  split at hk
  · rename_i x
    simp only [RepA, Rep] at hc
    simp only [hc, asBool, Sem.run_bind, Sem.run_pure, Result.andThen_ok]
    split at hk
    · rename_i hf
      have hb2 : ρ b = .bool false := by
        unfold isBool at hf
        split at hf
        · rename_i c' ; rw [hcst2]; simp at hf; rw [hf]
        · cases hf
      simp only [hf, if_true] at hob ⊢
      rcases armF_cases x (e a) with ⟨y, hy, hq⟩ | hq
      · rw [hq]
        cases x
        · exact ⟨.bool false, by simp [hb2], by simp [Q.ret, RepA, Rep]⟩
        · have := ha _ rfl rfl
          simp only [hy, RepA, Rep] at this
          exact ⟨.bool y, by simp [this], by simp [Q.ret, RepA, Rep]⟩
      · rw [hq] at hob ⊢
        have hx0 : x = false := hob _ (by simp [Q.when])
        subst hx0
        exact ⟨.bool false, by simp [hb2], by simp [Q.when, RepA, Rep]⟩
    · rename_i hf
      split at hk
      · rename_i ht
        have ha2 : ρ a = .bool true := by
          unfold isBool at ht
          split at ht
          · rename_i c' ; rw [hcst2]; simp at ht; rw [ht]
          · cases ht
        simp only [hf, ht, if_true, Bool.false_eq_true, if_false] at hob ⊢
        rcases armT_cases x (e b) with ⟨y, hy, hq⟩ | hq
        · rw [hq]
          cases x
          · have := hb _ rfl rfl
            simp only [hy, RepA, Rep] at this
            exact ⟨.bool y, by simp [this], by simp [Q.ret, RepA, Rep]⟩
          · exact ⟨.bool true, by simp [ha2], by simp [Q.ret, RepA, Rep]⟩
        · rw [hq] at hob ⊢
          have hx0 : x = true := hob _ (by simp [Q.when])
          subst hx0
          exact ⟨.bool true, by simp [ha2], by simp [Q.when, RepA, Rep]⟩
      · cases hk
  · cases hk
theorem stay_move {o : Oper} {x : Operand} (ho : o.op = .move x ∨ o.op = .assign x) {v : AV} (hr : RepA γ v (ρ x)) : Stay P γ w ρ o v := by
  unfold Stay execOp
  rcases ho with ho | ho <;> simp only [ho] <;> exact ⟨ρ x, rfl, hr⟩
theorem fieldT_some {t : TypeId} {i : Nat} {f : Field} (h : fieldT P t i = some f) : ∃ fs, P.underlying t = some (.struct fs) ∧ fs[i]? = some f := by
  unfold fieldT at h
  split at h
  · rename_i fs hu; exact ⟨fs, hu, h⟩
  · cases h
theorem sizeT_info {t : TypeId} (h : ¬ sizeT P t = 0) : ∃ i, P.info? t = some i := by
  unfold sizeT at h
  cases hi : P.info? t with
  | none => rw [hi] at h; exact absurd rfl h
  | some i => exact ⟨i, rfl⟩
theorem stay_fieldAddr {o : Oper} {t : TypeId} {x : Operand} {i : Nat} (ho : o.op = .fieldAddr t x i) {p : AV} (hr : RepA γ p (ρ x)) (hk : (fieldAddrQ P t i p).ok = true) : Stay P γ w ρ o (fieldAddrQ P t i p).v := by
  unfold Stay execOp
  simp only [ho]
  unfold fieldAddrQ at hk ⊢
  obtain ⟨f, hf, h2⟩ := optQ_ok hk
  rw [h2] at hk ⊢
  obtain ⟨fs, hu, hi⟩ := fieldT_some hf
  split at hk
  · cases hk
  · rename_i hz
    obtain ⟨fi, hfi⟩ := sizeT_info hz
    have run : ∀ b o' : Nat, (Instr.fieldAt t (.pointer (some ⟨b, o', none⟩)) i).run P w = .ok (.pointer (some ⟨b, o' + f.offset, none⟩)) w := fun b o' => by
      simp [Instr.fieldAt, und_of hu, hi, Instr.sureAddr, fieldPlace, size_of hfi, hz, cell_mid]
    simp only [hz, if_false]
    split at hk <;> try simp only [RepA] at hr
    · obtain ⟨b, hb, hv⟩ := hr
      exact ⟨_, by rw [hv]; simp [run]; rfl, by simp only [Q.ret, RepA]; exact ⟨b, hb, rfl⟩⟩
    · obtain ⟨b, o', u, hv, h1, h2⟩ := hr
      exact ⟨_, by rw [hv]; simp [run]; rfl, by simp only [Q.ret, RepA]; exact ⟨b, o', u, by rw [Nat.add_assoc], h1, h2⟩⟩
    · obtain ⟨b, hb, hv⟩ := hr
      exact ⟨_, by rw [hv]; simp [run]; rfl, by simp only [Q.ret, RepA]; exact ⟨b, hb, by rw [Nat.add_assoc]⟩⟩
    · obtain ⟨u, e, b, hu, hb, hv⟩ := hr
      exact ⟨_, by rw [hv]; simp [run]; rfl, by simp only [Q.ret, RepA]; exact ⟨u, e, b, hu, hb, by rw [Nat.add_assoc]⟩⟩
    · cases hk
theorem stay_field {o : Oper} {t : TypeId} {x : Operand} {i : Nat} (ho : o.op = .field t x i) {p : AV} (hr : RepA γ p (ρ x)) (hk : (fieldQ P t i p).ok = true) : Stay P γ w ρ o (fieldQ P t i p).v := by
  unfold Stay execOp
  simp only [ho]
  unfold fieldQ at hk ⊢
  obtain ⟨f, hf, h2⟩ := optQ_ok hk
  rw [h2] at hk ⊢
  obtain ⟨fs, hu, hi⟩ := fieldT_some hf
  split at hk
  · rename_i hs
    obtain ⟨d, hd⟩ := Option.isSome_iff_exists.1 hs
    simp only [hs, if_true]
    have run : ∀ (vs : List Value) (v : Value), (part f.type vs.toArray f.offset).run P w = .ok v w → (Instr.field t (.agg vs.toArray) i).run P w = .ok v w := fun vs v hv => by
      simp [Instr.field, und_of hu, hi, asAgg, hv]
    split at hk <;> try simp only [RepA] at hr
    · obtain ⟨y, h3, h4⟩ := optQ_ok hk
      simp only [Rep] at hr
      obtain ⟨vs, hv, hr⟩ := hr
      obtain ⟨v, h5, h6⟩ := partD_some h3 hr
      rw [h4]
      exact ⟨v, by rw [hv]; simp [run vs v (run_part_of hd v h6)], by simpa only [Q.ret, RepA] using h5⟩
    · obtain ⟨y, h3, h4⟩ := optQ_ok hk
      obtain ⟨vs, hv, hr⟩ := hr
      obtain ⟨v, h5, h6⟩ := partA_some h3 hr
      rw [h4]
      exact ⟨v, by rw [hv]; simp [run vs v (run_part_of hd v h6)], by simpa only [Q.ret] using h5⟩
    · cases hk
  · cases hk
theorem asInt_some {x : AV} {j : Int} {v : Value} (h : asInt x = some j) (hr : RepA γ x v) : ∃ k, v = .int k j := by
  unfold asInt at h
  split at h
  · rename_i k n
    injection h with h
    subst h
    simp only [RepA, Rep] at hr
    exact ⟨k, hr⟩
  · cases h
theorem rep_slice_at {μ : Nat → Nat → Option Value} {sz n : Nat} {f : Nat → D} {v : Value} (h : Rep μ (.sl sz n f) v) {j : Nat} (hj : j < n) :
    ∃ b o c u, v = .slice (some ⟨b, o, none⟩) n c ∧ Rep μ (f j) u ∧ u.cells.size = sz ∧ (∀ x ∈ u.cells, x.oneCell' = true) ∧ ∀ k, k < sz → μ b (o + j * sz + k) = u.cells[k]? := by
  simp only [Rep] at h
  obtain ⟨A, c, rfl, _, _, h3⟩ := h
  obtain ⟨b, o, rfl, h4⟩ := h3 (by omega)
  obtain ⟨u, h5⟩ := h4 j hj
  exact ⟨b, o, c, u, rfl, h5⟩
theorem stay_indexAddr {o : Oper} {t : TypeId} {x i : Operand} (ho : o.op = .indexAddr t x i) {p q : AV} (hr : RepA γ p (ρ x)) (hi : RepA γ q (ρ i)) (hk : (indexAddrQ P t p q).ok = true) (hob : ∀ z ∈ (indexAddrQ P t p q).ob, z) :
    Stay P γ w ρ o (indexAddrQ P t p q).v := by
  unfold Stay execOp
  simp only [ho]
  unfold indexAddrQ at hk hob ⊢
  obtain ⟨j, hj, h2⟩ := optQ_ok hk
  rw [h2] at hk hob ⊢
  obtain ⟨d, hd, h3⟩ := optQ_ok hk
  rw [h3] at hk hob ⊢
  obtain ⟨k, hkv⟩ := asInt_some hj hi
  rw [hkv]
  have sl : ∀ (el : TypeId) (sz n : Nat) (f : Nat → D), d = .slice el → (sizeT P el = sz ∧ 0 < sz) → (0 ≤ j ∧ j < n) → Rep γ.μ (.sl sz n f) (ρ x) → ∃ u, (Instr.indexAt t (ρ x) (.int k j)).run P w = .ok u w ∧ RepA γ (.ep (f j.toNat) 0) u := by
    rintro el sz n f rfl ⟨hz, hp⟩ ⟨h0, h1⟩ hr
    obtain ⟨jn, rfl⟩ := Int.eq_ofNat_of_zero_le h0
    obtain ⟨b, o', c, u, hv, h4, h5, h6, h7⟩ := rep_slice_at hr (j := jn) (by omega)
    obtain ⟨fi, hfi⟩ := sizeT_info (P := P) (t := el) (by omega)
    refine ⟨.pointer (some ⟨b, o' + jn * sz, none⟩), ?_, ?_⟩
    · rw [hv]
      simp [Instr.indexAt, asIntOf, und_of hd, size_of hfi, hz, cell_mid]
      omega
    · simp only [RepA]
      refine ⟨b, o' + jn * sz, u, rfl, by simpa using h4, h6, fun q hq => h7 q (by rw [← h5]; exact hq)⟩
  split at hk
  · rename_i el sz n f
    split at hk
    · rename_i hz
      simp only [hz, and_self, if_true] at hob ⊢
      simp only [RepA] at hr
      have ha := hob (0 ≤ j) (by simp [Q.when])
      have hb := hob (j < n) (by simp [Q.when])
      obtain ⟨u, h4, h5⟩ := sl el sz n f rfl hz ⟨ha, hb⟩ hr
      exact ⟨u, by simp [h4], h5⟩
    · cases hk
  · rename_i el sz n f r
    split at hk
    · rename_i hz
      simp only [hz, and_self, if_true] at hob ⊢
      simp only [RepA] at hr
      have ha := hob (0 ≤ j) (by simp [Q.when])
      have hb := hob (j < n) (by simp [Q.when])
      obtain ⟨u, h4, h5⟩ := sl el sz n f rfl hz ⟨ha, hb⟩ hr.1
      exact ⟨u, by simp [h4], h5⟩
    · cases hk
  · rename_i el id sz n
    split at hk
    · rename_i hz
      simp only [hz, and_self, if_true] at hob ⊢
      simp only [RepA] at hr
      have ha := hob (0 ≤ j) (by simp [Q.when])
      have hb := hob (j < n) (by simp [Q.when])
      obtain ⟨b, c, h4, hv, _⟩ := hr
      obtain ⟨fi, hfi⟩ := sizeT_info (P := P) (t := el) (by omega)
      refine ⟨.pointer (some ⟨b, j.toNat * sz, none⟩), ?_, ?_⟩
      · rw [hv]
        simp [Instr.indexAt, asIntOf, und_of hd, size_of hfi, hz, cell_mid, ha, hb]
      · simp only [Q.when, RepA]
        exact ⟨b, h4, rfl⟩
    · cases hk
  · rename_i el id sz n
    split at hk
    · rename_i hz
      simp only [hz, and_self, if_true] at hob ⊢
      simp only [RepA] at hr
      have ha := hob (0 ≤ j) (by simp [Q.when])
      have hb := hob (j < n) (by simp [Q.when])
      obtain ⟨e, A, c, h4, hv, hnc, hcm, hA⟩ := hr
      obtain ⟨b, rfl⟩ := hA (by omega)
      obtain ⟨fi, hfi⟩ := sizeT_info (P := P) (t := el) (by omega)
      refine ⟨.pointer (some ⟨b, j.toNat * sz, none⟩), ?_, ?_⟩
      · rw [hv]
        simp [Instr.indexAt, asIntOf, und_of hd, size_of hfi, hz, cell_mid, ha, hb]
      · simp only [Q.when, RepA]
        exact ⟨_, e, b, h4, by rw [hv]; rfl, rfl⟩
    · cases hk
  · rename_i len el id off
    split at hk
    · rename_i hz
      simp only [hz, and_self, if_true] at hob ⊢
      simp only [RepA] at hr
      obtain ⟨b, h4, hv⟩ := hr
      obtain ⟨fi, hfi⟩ := sizeT_info (P := P) (t := el) (by omega)
      refine ⟨.pointer (some ⟨b, off + j.toNat * sizeT P el, none⟩), ?_, ?_⟩
      · rw [hv]
        simp [Instr.indexAt, asIntOf, und_of hd, size_of hfi, hz, cell_mid, Instr.sureAddr]
      · simp only [Q.ret, RepA]
        exact ⟨b, h4, rfl⟩
    · cases hk
  · cases hk
theorem intsD_some {k : IntKind} : ∀ {cs : List D} {ns : List Int}, intsD cs = some (k, ns) → cs = ns.map (D.int k)
  | [], _, h => by simp [intsD] at h
  | .int k' n :: [], ns, h => by simp only [intsD, Option.some.injEq, Prod.mk.injEq] at h; obtain ⟨rfl, rfl⟩ := h; rfl
  | .int k' n :: x :: l, ns, h => by
    rw [intsD] at h
    · split at h
      · rename_i k2 ns2 e
        split at h
        · rename_i hk; injection h with h; injection h with h1 h2; subst hk h1 h2
          rw [intsD_some e]; rfl
        · cases h
      · cases h
    · intro h; cases h
  | .bool _ :: _, _, h => by simp [intsD] at h
  | .str _ :: _, _, h => by simp [intsD] at h
  | .sl .. :: _, _, h => by simp [intsD] at h
  | .agg _ :: _, _, h => by simp [intsD] at h
  | .tup _ :: _, _, h => by simp [intsD] at h
theorem run_index_array {t el : TypeId} {len : Nat} {cs : List Value} {k : IntKind} {j : Int} (hd : P.underlying t = some (.array len el)) {i : TypeDesc} (he : P.underlying el = some i) (h0 : 0 ≤ j) (h1 : j < len) (v : Value)
    (hv : (part el cs.toArray (j.toNat * sizeT P el)).run P w = .ok v w) : (Instr.index t (.agg cs.toArray) (.int k j)).run P w = .ok v w := by
  obtain ⟨fi, hfi⟩ := und_info he
  have hs : (if 0 ≤ j ∧ j < (len : Int) then True else False) := by rw [if_pos ⟨h0, h1⟩]; trivial
  simp [Instr.index, und_of hd, asIntOf, h0, h1, size_of hfi, hv]
theorem stay_index {o : Oper} {t : TypeId} {x i : Operand} (ho : o.op = .index t x i) {p q : AV} (hr : RepA γ p (ρ x)) (hi : RepA γ q (ρ i)) (hk : (indexQ P t p q).ok = true) (hob : ∀ z ∈ (indexQ P t p q).ob, z) :
    Stay P γ w ρ o (indexQ P t p q).v := by
  unfold Stay execOp
  simp only [ho]
  unfold indexQ at hk hob ⊢
  obtain ⟨j, hj, h2⟩ := optQ_ok hk
  rw [h2] at hk hob ⊢
  obtain ⟨d, hd, h3⟩ := optQ_ok hk
  rw [h3] at hk hob ⊢
  obtain ⟨k, hkv⟩ := asInt_some hj hi
  rw [hkv]
  split at hk
  · rename_i s
    simp only [RepA, Rep] at hr
    have ha := hob (0 ≤ j) (by simp [Q.when])
    have hb := hob (j < s.length) (by simp [Q.when])
    rw [hr]
    have hsz : (ByteArray.mk ⟨s⟩).size = s.length := rfl
    refine ⟨_, by simp only [Sem.run_bind, run_index_string (P := P) w t _ k j hd, hsz, ha, hb, and_self, dite_true, Result.andThen_ok, Sem.run_pure]; rfl, ?_⟩
    simp only [Q.when, RepA, bytesF, Rep]
    have hlt : j.toNat < s.length := by omega
    rw [List.getElem?_eq_getElem hlt]
    rfl
  · rename_i len el cs
    simp only [RepA, Rep] at hr
    obtain ⟨vs, hv, hr⟩ := hr
    rw [hv]
    split at hk
    · rename_i k' ns hI
      simp only [hI] at hob ⊢
      split at hk
      · rename_i hc
        rw [if_pos hc] at hob ⊢
        obtain ⟨c1, c2, c3, c4⟩ := hc
        obtain ⟨ed, hed⟩ := Option.isSome_iff_exists.1 c1
        have ha := hob (0 ≤ j) (by simp [Q.when])
        have hb := hob (j < len) (by simp [Q.when])
        have hlt : j.toNat < ns.length := by omega
        have hg : cs[j.toNat]? = some (.int k' (ns.getD j.toNat 0)) := by
          rw [intsD_some hI, List.getElem?_map, List.getD_eq_getElem?_getD, List.getElem?_eq_getElem hlt]; rfl
        obtain ⟨v, g1, g2⟩ := hr.get j.toNat _ hg
        refine ⟨v, ?_, ?_⟩
        · have hrun : (part el vs.toArray (j.toNat * sizeT P el)).run P w = .ok v w := run_part_of hed v (by rw [if_neg (by rw [c2]; decide), c3, Nat.mul_one]; exact g1)
          rw [Sem.run_bind, run_index_array hd hed ha hb v hrun]; rfl
        · simp only [Q.when, RepA]; exact g2
      · cases hk
    · rename_i hI
      simp only [hI] at hob ⊢
      split at hk
      · rename_i hc
        rw [if_pos hc] at hob ⊢
        obtain ⟨c1, c2, c3⟩ := hc
        obtain ⟨ed, hed⟩ := Option.isSome_iff_exists.1 c3
        obtain ⟨y, h3, h4⟩ := optQ_ok hk
        obtain ⟨v, h5, h6⟩ := partD_some h3 hr
        rw [h4]
        exact ⟨v, by rw [Sem.run_bind, run_index_array hd hed c1 c2 v (run_part_of hed v h6)]; rfl, by simpa only [Q.ret, RepA] using h5⟩
      · cases hk
  · rename_i len el cs
    simp only [RepA] at hr
    obtain ⟨vs, hv, hr⟩ := hr
    rw [hv]
    split at hk
    · rename_i hc
      rw [if_pos hc]
      obtain ⟨c1, c2, c3⟩ := hc
      obtain ⟨ed, hed⟩ := Option.isSome_iff_exists.1 c3
      obtain ⟨y, h3, h4⟩ := optQ_ok hk
      obtain ⟨v, h5, h6⟩ := partA_some h3 hr
      rw [h4]
      exact ⟨v, by rw [Sem.run_bind, run_index_array hd hed c1 c2 v (run_part_of hed v h6)]; rfl, by simpa only [Q.ret] using h5⟩
    · cases hk
  · cases hk
theorem stay_extract {o : Oper} {x : Operand} {i : Nat} (ho : o.op = .extract x i) {p : AV} (hr : RepA γ p (ρ x)) (hk : (extractQ i p).ok = true) : Stay P γ w ρ o (extractQ i p).v := by
  unfold Stay execOp
  simp only [ho]
  unfold extractQ at hk ⊢
  split at hk <;> try simp only [RepA] at hr
  · obtain ⟨y, h3, h4⟩ := optQ_ok hk
    simp only [Rep] at hr
    obtain ⟨vs, hv, hr⟩ := hr
    obtain ⟨v, h5, h6⟩ := hr.get i y h3
    rw [h4]
    exact ⟨v, by rw [hv]; simp [Instr.extract, h5], by simpa only [Q.ret, RepA] using h6⟩
  · obtain ⟨y, h3, h4⟩ := optQ_ok hk
    obtain ⟨vs, hv, hr⟩ := hr
    obtain ⟨v, h5, h6⟩ := hr.get i y h3
    rw [h4]
    exact ⟨v, by rw [hv]; simp [Instr.extract, h5], by simpa only [Q.ret] using h6⟩
  · cases hk
theorem stay_un {o : Oper} {op : UnOp} {t : TypeId} {x : Operand} (ho : o.op = .unOp op t x) {p : AV} (hr : RepA γ p (ρ x)) (hk : (unQ op p).ok = true) : Stay P γ w ρ o (unQ op p).v := by
  unfold Stay execOp
  simp only [ho]
  unfold unQ at hk ⊢
  split at hk
  · simp only [RepA, Rep] at hr
    exact ⟨_, by rw [hr]; simp [Op.unary]; rfl, by simp [Q.ret, RepA, Rep]⟩
  · simp only [RepA, Rep] at hr
    exact ⟨_, by rw [hr]; simp [Op.unary, Op.intArith]; rfl, by simp [Q.ret, RepA, Rep]⟩
  · simp only [RepA, Rep] at hr
    exact ⟨_, by rw [hr]; simp [Op.unary, Op.intBits]; rfl, by simp [Q.ret, RepA, Rep]⟩
  · cases hk
theorem stay_convert {o : Oper} {s t : TypeId} {x : Operand} (ho : o.op = .convert s t x) {p : AV} (hr : RepA γ p (ρ x)) (hk : (convertQ P s t p).ok = true) : Stay P γ w ρ o (convertQ P s t p).v := by
  unfold Stay execOp
  simp only [ho]
  unfold convertQ at hk ⊢
  obtain ⟨c, hc, h2⟩ := optQ_ok hk
  rw [h2] at hk ⊢
  obtain ⟨d, hd, h3⟩ := optQ_ok hk
  rw [h3] at hk ⊢
  split at hk
  · simp only [RepA, Rep] at hr
    exact ⟨_, by rw [hr]; simp [convert, und_of hc, und_of hd, Conv.intToInt]; rfl, by simp [Q.ret, RepA, Rep]⟩
  · simp only [RepA, Rep] at hr
    exact ⟨_, by rw [hr]; simp [convert, und_of hc, und_of hd]; rfl, by simp [Q.ret, RepA, Rep]⟩
  · cases hk
theorem stay_nilCheck {o : Oper} {x : Operand} (ho : o.op = .nilCheck x) {p : AV} (hr : RepA γ p (ρ x)) (hk : (nilCheckQ p).ok = true) : Stay P γ w ρ o (nilCheckQ p).v := by
  unfold Stay execOp
  simp only [ho]
  unfold nilCheckQ at hk ⊢
  split at hk
  · have h2 := hr
    simp only [RepA] at hr
    obtain ⟨b, _, hv⟩ := hr
    exact ⟨_, by rw [hv]; rfl, by rw [← hv]; exact h2⟩
  · have h2 := hr
    simp only [RepA] at hr
    obtain ⟨vs, hv, _⟩ := hr
    exact ⟨_, by rw [hv]; rfl, by rw [← hv]; exact h2⟩
  · cases hk

theorem str_size (s : List UInt8) : (ByteArray.mk ⟨s⟩).size = s.length := rfl
theorem str_toList (s : List UInt8) : (ByteArray.mk ⟨s⟩).toList = s := ByteArray.toList_mk s
theorem ba_ext {a b : ByteArray} (h : a.data.toList = b.data.toList) : a = b := by
  cases a; cases b; simp only [ByteArray.mk.injEq]; exact Array.toList_inj.1 h
theorem str_append (a b : List UInt8) : ByteArray.mk ⟨a⟩ ++ ByteArray.mk ⟨b⟩ = ByteArray.mk ⟨a ++ b⟩ := by
  apply ba_ext
  simp
theorem str_extract (s : List UInt8) (l h : Nat) : (ByteArray.mk ⟨s⟩).extract l h = ByteArray.mk ⟨(s.take h).drop l⟩ := by
  apply ba_ext
  simp [List.drop_take]
theorem optInt_some {e : Operand → AV} {x : Option Operand} {l : Option Int} (h : optInt e x = some l) (hr : ∀ y, x = some y → RepA γ (e y) (ρ y)) : (x = none ∧ l = none) ∨ ∃ y k n, x = some y ∧ l = some n ∧ ρ y = .int k n := by
  unfold optInt at h
  split at h
  · injection h with h; exact .inl ⟨rfl, h.symm⟩
  · rename_i y
    rw [Option.map_eq_some_iff] at h
    obtain ⟨n, h1, rfl⟩ := h
    obtain ⟨k, hk⟩ := asInt_some h1 (hr y rfl)
    exact .inr ⟨y, k, n, rfl, rfl, hk⟩
theorem run_slice_str {t : TypeId} (hu : P.underlying t = some .string) (s : List UInt8) (l h : Option Value) (a b : Nat) (hb : (Instr.sliceBounds false s.length s.length l h none).run P w = .ok (a, b, s.length) w) :
    (Instr.sliceAt t (.string ⟨⟨s⟩⟩) l h none).run P w = .ok (.string ⟨⟨(s.take b).drop a⟩⟩) w := by
  rw [run_sliceAt_string _ _ _ _ _ _ hu]
  simp only [Instr.slice, Sem.run_bind, und_of hu, Result.andThen_ok, Option.isSome_none, Bool.false_eq_true, if_false, str_size, hb, Sem.run_pure, str_extract]
/-- Cut out of a slice. -/
theorem rep_cut {μ : Nat → Nat → Option Value} {sz n : Nat} {f : Nat → D} {A : Option Addr} {c : Nat} (h : Rep μ (.sl sz n f) (.slice A n c)) {l k : Nat} (h1 : l ≤ k) (h2 : k ≤ n) :
    Rep μ (.sl sz (k - l) fun i => f (l + i)) (.slice (if c = l then A else A.map (·.add (l * sz))) (k - l) (c - l)) := by
  simp only [Rep] at h ⊢
  obtain ⟨A', c', hv, hc, hm, h3⟩ := h
  injection hv with e1 _ e3
  subst e1 e3
  refine ⟨_, _, rfl, by omega, by omega, fun hn => ?_⟩
  obtain ⟨b, o, rfl, h4⟩ := h3 (by omega)
  rw [if_neg (by omega)]
  refine ⟨b, o + l * sz, by simp [cell_mid], fun i hi => ?_⟩
  obtain ⟨u, h5, h6, h7, h8⟩ := h4 (l + i) (by omega)
  refine ⟨u, h5, h6, h7, fun j hj => ?_⟩
  rw [← h8 j hj, Nat.add_mul]
  congr 1; omega
theorem run_slice_sl {t el : TypeId} (hu : P.underlying t = some (.slice el)) {sz : Nat} (hz : sizeT P el = sz) (hp : 0 < sz) (A : Option Addr) (n c : Nat) (l h : Option Value) (a b : Nat) (hb : (Instr.sliceBounds true n c l h none).run P w = .ok (a, b, c) w) :
    (Instr.sliceAt t (.slice A n c) l h none).run P w = .ok (.slice (if c = a then A else A.map (·.add (a * sz))) (b - a) (c - a)) w := by
  obtain ⟨fi, hfi⟩ := sizeT_info (P := P) (t := el) (by omega)
  simp only [Instr.sliceAt, Instr.slice, Sem.run_bind, und_of hu, Result.andThen_ok, hb, size_of hfi, hz, Sem.run_pure]
theorem stay_slice {o : Oper} {t : TypeId} {x : Operand} {lo hi : Option Operand} (ho : o.op = .slice t x lo hi none) (e : Operand → AV) {p : AV} (hr : RepA γ p (ρ x)) (hl : ∀ y, lo = some y → RepA γ (e y) (ρ y)) (hh : ∀ y, hi = some y → RepA γ (e y) (ρ y))
    (hk : (sliceQ P t p (optInt e lo) (optInt e hi)).ok = true) (hob : ∀ z ∈ (sliceQ P t p (optInt e lo) (optInt e hi)).ob, z) : Stay P γ w ρ o (sliceQ P t p (optInt e lo) (optInt e hi)).v := by
  unfold Stay execOp
  simp only [ho]
  unfold sliceQ at hk hob ⊢
  obtain ⟨l, hl1, h2⟩ := optQ_ok hk
  rw [h2] at hk hob ⊢
  obtain ⟨h, hh1, h3⟩ := optQ_ok hk
  rw [h3] at hk hob ⊢
  obtain ⟨d, hd, h4⟩ := optQ_ok hk
  rw [h4] at hk hob ⊢
  have L := optInt_some hl1 hl
  have Hh := optInt_some hh1 hh
  clear h2 h3 h4 hl1 hh1 hl hh
  have sl : ∀ (el : TypeId) (sz n : Nat) (f : Nat → D), d = .slice el → (sizeT P el = sz ∧ 0 < sz) → Rep γ.μ (.sl sz n f) (ρ x) → (∀ z ∈ (sliceSl sz n f l h).ob, z) →
      ∃ u, (Instr.sliceAt t (ρ x) (lo.map ρ) (hi.map ρ) none).run P w = .ok u w ∧ RepA γ (sliceSl sz n f l h).v u := by
    rintro el sz n f rfl ⟨hz, hp⟩ hr hob
    have hr2 := hr
    simp only [Rep] at hr2
    obtain ⟨A, c, hv, hc, hm, _⟩ := hr2
    rw [hv] at hr ⊢
    rcases L with ⟨rfl, rfl⟩ | ⟨y, k, l, rfl, rfl, hy⟩ <;> rcases Hh with ⟨rfl, rfl⟩ | ⟨y2, k2, h, rfl, rfl, hy2⟩ <;> simp only [sliceSl, Q.when, Q.ret, List.mem_cons, List.not_mem_nil, or_false, forall_eq_or_imp, forall_eq, RepA] at hob ⊢
    · refine ⟨_, run_slice_sl hd hz hp A n c none none 0 n (by simp [Instr.sliceBounds]), ?_⟩
      have := rep_cut hr (l := 0) (k := n) (by omega) (by omega)
      simpa using this
    · obtain ⟨kk, rfl⟩ := Int.eq_ofNat_of_zero_le hob.1
      refine ⟨_, by rw [Option.map_none, Option.map_some, hy2]; exact run_slice_sl hd hz hp A n c none _ 0 kk (by simp [Instr.sliceBounds, run_sliceBound (P := P) w k2 kk c .sliceAcap (by omega) (by omega)]), ?_⟩
      have := rep_cut hr (l := 0) (k := kk) (by omega) (by omega)
      simpa using this
    · obtain ⟨ll, rfl⟩ := Int.eq_ofNat_of_zero_le hob.1
      refine ⟨_, by rw [Option.map_none, Option.map_some, hy]; exact run_slice_sl hd hz hp A n c _ none ll n (by simp [Instr.sliceBounds, run_sliceBound (P := P) w k ll n .sliceB (by omega) (by omega)]), ?_⟩
      have := rep_cut hr (l := ll) (k := n) (by omega) (by omega)
      simpa using this
    · obtain ⟨ll, rfl⟩ := Int.eq_ofNat_of_zero_le hob.1
      obtain ⟨kk, rfl⟩ := Int.eq_ofNat_of_zero_le (show 0 ≤ h by omega)
      refine ⟨_, by rw [Option.map_some, Option.map_some, hy, hy2]; exact run_slice_sl hd hz hp A n c _ _ ll kk (by simp [Instr.sliceBounds, run_sliceBound (P := P) w k2 kk c .sliceAcap (by omega) (by omega), run_sliceBound (P := P) w k ll kk .sliceB (by omega) (by omega)]), ?_⟩
      have := rep_cut hr (l := ll) (k := kk) (by omega) (by omega)
      simpa using this
  split at hk
  · rename_i s
    simp only [RepA, Rep] at hr
    rw [hr]
    rcases L with ⟨rfl, rfl⟩ | ⟨y, k, l, rfl, rfl, hy⟩ <;> rcases Hh with ⟨rfl, rfl⟩ | ⟨y2, k2, h, rfl, rfl, hy2⟩ <;> simp only [sliceStr, Q.when, Q.ret, List.mem_cons, List.not_mem_nil, or_false, forall_eq_or_imp, forall_eq, RepA, Rep] at hob ⊢
    · refine ⟨.string ⟨⟨s⟩⟩, ?_, rfl⟩
      have := run_slice_str (P := P) (w := w) hd s none none 0 s.length (by simp [Instr.sliceBounds])
      simp at this
      simp [this]
    · obtain ⟨kk, rfl⟩ := Int.eq_ofNat_of_zero_le hob.1
      refine ⟨.string ⟨⟨s.take kk⟩⟩, ?_, by simp⟩
      have := run_slice_str (P := P) (w := w) hd s none (some (.int k2 kk)) 0 kk (by simp [Instr.sliceBounds, run_sliceBound (P := P) w k2 kk s.length .sliceAlen (by omega) (by omega)])
      simp at this
      simp [hy2, this]
    · obtain ⟨ll, rfl⟩ := Int.eq_ofNat_of_zero_le hob.1
      refine ⟨.string ⟨⟨s.drop ll⟩⟩, ?_, by simp⟩
      have := run_slice_str (P := P) (w := w) hd s (some (.int k ll)) none ll s.length (by simp [Instr.sliceBounds, run_sliceBound (P := P) w k ll s.length .sliceB (by omega) (by omega)])
      simp at this
      simp [hy, this]
    · obtain ⟨ll, rfl⟩ := Int.eq_ofNat_of_zero_le hob.1
      obtain ⟨kk, rfl⟩ := Int.eq_ofNat_of_zero_le (show 0 ≤ h by omega)
      refine ⟨.string ⟨⟨(s.take kk).drop ll⟩⟩, ?_, by simp⟩
      have := run_slice_str (P := P) (w := w) hd s (some (.int k ll)) (some (.int k2 kk)) ll kk (by simp [Instr.sliceBounds, run_sliceBound (P := P) w k2 kk s.length .sliceAlen (by omega) (by omega), run_sliceBound (P := P) w k ll kk .sliceB (by omega) (by omega)])
      simp [hy, hy2, this]
  · rename_i el sz n f
    split at hk
    · rename_i hz
      simp only [hz, and_self, if_true] at hob ⊢
      simp only [RepA] at hr
      obtain ⟨u, h5, h6⟩ := sl el sz n f rfl hz hr hob
      exact ⟨u, by simp [h5], h6⟩
    · cases hk
  · rename_i el sz n f r
    split at hk
    · rename_i hz
      simp only [hz, and_self, if_true] at hob ⊢
      simp only [RepA] at hr
      obtain ⟨u, h5, h6⟩ := sl el sz n f rfl hz hr.1 hob
      exact ⟨u, by simp [h5], h6⟩
    · cases hk
  · rename_i el id sz n
    split at hk
    · rename_i hz
      simp only [hz, and_self, if_true] at hob ⊢
      simp only [RepA] at hr
      obtain ⟨b, c, e1, e2, e3, e4⟩ := hr
      split at hk
      · rename_i h
        rcases L with ⟨rfl, _⟩ | ⟨_, _, _, _, hc, _⟩
        · rcases Hh with ⟨_, hc⟩ | ⟨y2, k2, h', rfl, hc, hy2⟩
          · cases hc
          · injection hc with hc
            subst hc
            simp only [Q.when, List.mem_cons, List.not_mem_nil, or_false, forall_eq_or_imp, forall_eq, RepA] at hob ⊢
            obtain ⟨kk, rfl⟩ := Int.eq_ofNat_of_zero_le hob.1
            have hrun := run_slice_sl (P := P) (w := w) hd hz.1 hz.2 (some ⟨b, 0, none⟩) n c none (some (ρ y2)) 0 kk (by rw [hy2]; simp [Instr.sliceBounds, run_sliceBound (P := P) w k2 kk c .sliceAcap (by omega) (by omega)])
            refine ⟨_, by rw [e2, Option.map_none, Option.map_some]; simp only [Option.map_none, Sem.run_bind] at hrun ⊢; rw [hrun]; rfl, b, c, e1, ?_, by omega, e4⟩
            have hmin : min (kk : Int).toNat n = kk := by simp; omega
            rw [hmin]
            simp [cell_mid]
        · cases hc
      · cases hk
    · cases hk
  · cases hk
theorem stay_makeFunc {o : Oper} {fn : Fn} {first cap : Array Operand} (ho : o.op = .makeFunc fn first cap) (e : Operand → AV) (hc : ∀ y ∈ cap, RepA γ (e y) (ρ y))
    (hk : (makeFuncQ fn (first.toList.map e) (cap.toList.map e)).ok = true) : Stay P γ w ρ o (makeFuncQ fn (first.toList.map e) (cap.toList.map e)).v := by
  unfold Stay execOp
  simp only [ho]
  unfold makeFuncQ at hk ⊢
  split at hk
  · rename_i f
    split at hk
    · rename_i h0
      have hf : first = #[] := by simpa using h0
      refine ⟨.func (.func f) #[] (cap.toList.map ρ).toArray, by simp [Instr.makeFunc, hf]; rw [← Array.toList_inj]; simp, ?_⟩
      simp only [h0, if_true, Q.ret, RepA]
      refine ⟨cap.toList.map ρ, rfl, ?_⟩
      have : ∀ l : List Operand, (∀ y ∈ l, RepA γ (e y) (ρ y)) → RepAL γ (l.map e) (l.map ρ) := by
        intro l
        induction l with
        | nil => intro _; simp [RepAL]
        | cons a l ih => intro h; simp only [List.map_cons, RepAL]; exact ⟨_, _, rfl, h a (by simp), ih fun y hy => h y (by simp [hy])⟩
      simpa using this cap.toList (fun y hy => hc y (by simpa using hy))
    · cases hk
  · cases hk
theorem stay_len {o : Oper} {args : Array Operand} {ts : Array TypeId} (ho : o.op = .call { callee := .builtin .len, args := args, argTypes := ts }) (e : Operand → AV) (hr : ∀ y ∈ args, RepA γ (e y) (ρ y))
    (hk : (lenQ P (args.toList.map e) ts.toList).ok = true) : Stay P γ w ρ o (lenQ P (args.toList.map e) ts.toList).v := by
  unfold Stay execOp
  simp only [ho]
  unfold lenQ at hk ⊢
  split at hk
  · rename_i x t hx ht
    obtain ⟨y, rfl, rfl⟩ : ∃ y, args = #[y] ∧ e y = x := by
      cases args with | mk l => cases l with
        | nil => simp at hx
        | cons a l => cases l with
          | nil => simp at hx; exact ⟨a, rfl, hx⟩
          | cons b l => simp at hx
    obtain rfl : ts = #[t] := by cases ts; simp_all
    obtain ⟨d, hd, h2⟩ := optQ_ok hk
    rw [h2] at hk ⊢
    have hr1 := hr y (by simp)
    generalize hye : e y = p at *
    simp only [resolve, invoke, builtin, Builtin.len_]
    split at hk <;> try simp only [RepA, Rep] at hr1
    · rename_i s
      exact ⟨.int .i64 s.length, by simp [und_of hd, hr1, str_size, goInt], by simp [Q.ret, RepA, Rep]⟩
    · obtain ⟨A, c, hv, _⟩ := hr1
      exact ⟨_, by simp [und_of hd, hv, goInt]; rfl, by simp [Q.ret, RepA, Rep]⟩
    · obtain ⟨⟨A, c, hv, _⟩, _⟩ := hr1
      exact ⟨_, by simp [und_of hd, hv, goInt]; rfl, by simp [Q.ret, RepA, Rep]⟩
    · obtain ⟨b, c, _, hv, _⟩ := hr1
      exact ⟨_, by simp [und_of hd, hv, goInt]; rfl, by simp [Q.ret, RepA, Rep]⟩
    · obtain ⟨e, A, c, _, hv, _⟩ := hr1
      exact ⟨_, by simp [und_of hd, hv, goInt]; rfl, by simp [Q.ret, RepA, Rep]⟩
    · cases hk
  · cases hk

theorem run_eqGuard_int (op : BinOp) (t : TypeId) (x y : Operand) (k k' : IntKind) (a b : Int) : (eqGuard op t x y (.int k a) (.int k' b)).run P w = .ok () w := by
  unfold eqGuard; split <;> simp
theorem run_eqGuard_str (op : BinOp) (t : TypeId) (x y : Operand) (a b : ByteArray) : (eqGuard op t x y (.string a) (.string b)).run P w = .ok () w := by
  unfold eqGuard; split <;> simp
theorem run_eqGuard_bool (op : BinOp) (t : TypeId) (x y : Operand) (a b : Bool) : (eqGuard op t x y (.bool a) (.bool b)).run P w = .ok () w := by
  unfold eqGuard; split <;> simp
theorem run_intBin {op : BinOp} (hs : op ≠ .shl ∧ op ≠ .shr) {t : TypeId} {k : IntKind} {a b : Int} (hk : (intBin op k a b).ok = true) (hob : ∀ z ∈ (intBin op k a b).ob, z) :
    ∃ u, (binOp op t (.int k a) (.int k b)).run P w = .ok u w ∧ RepA γ (intBin op k a b).v u := by
  cases op <;> first | (exfalso; cases hk; done) | exact absurd rfl hs.1 | exact absurd rfl hs.2 | skip
  all_goals
    simp only [intBin, Q.ret, Q.when, List.mem_cons, List.not_mem_nil, or_false, forall_eq, RepA, Rep] at hob ⊢
    refine ⟨_, ?_, rfl⟩
  all_goals first
    | (simp [binOp, Op.intArith]; done)
    | (simp [binOp, Op.intDiv, hob]; done)
    | (simp [binOp, Op.intBits]; done)
    | (simp [binOp, Op.intCmp]; done)
theorem run_strBin {op : BinOp} {t : TypeId} {a b : List UInt8} (hk : (strBin op a b).ok = true) (hob : ∀ z ∈ (strBin op a b).ob, z) :
    ∃ u, (binOp op t (.string ⟨⟨a⟩⟩) (.string ⟨⟨b⟩⟩)).run P w = .ok u w ∧ RepA γ (strBin op a b).v u := by
  cases op <;> first | (exfalso; cases hk; done) | skip
  all_goals
    simp only [strBin, Q.ret, Q.when, List.mem_cons, List.not_mem_nil, or_false, forall_eq, RepA, Rep] at hob ⊢
    refine ⟨_, ?_, rfl⟩
  all_goals first
    | (simp [binOp, Op.stringOp, str_toList]; done)
    | (simp [binOp, Op.stringOp, str_toList, bne]; done)
    | (simp only [binOp, Op.stringOp, str_size, str_append]; rw [if_neg (by simp [IntKind.max, IntKind.signed, IntKind.bits]; omega)]; rfl)
theorem run_equal_bool {t : TypeId} (hu : P.underlying t = some .bool) (a b : Bool) : (Op.equal t (.bool a) (.bool b)).run P w = .ok (a == b) w := by
  have : Op.equal t (.bool a) (.bool b) = Op.equalIn (9999 + 1) t (.bool a) (.bool b) := rfl
  rw [this, Op.equalIn, Sem.run_bind, und_of hu]
  rfl
theorem run_eqF {μ : Nat → Nat → Option Value} {dd : Nat} {eq : TypeId → D → D → Option Bool} (he : ∀ {t : TypeId} {x y : D} {v : Bool} {u1 u2 : Value}, eq t x y = some v → Rep μ x u1 → Rep μ y u2 → ∀ w, (Op.equalIn dd t u1 u2).run P w = .ok v w) :
    ∀ (l : List Field) {xs ys : List D} {v : Bool} {vs1 vs2 : List Value}, eqF P eq l xs ys = some v → RepL μ xs vs1 → RepL μ ys vs2 → ∀ w, (Op.eqFields dd vs1.toArray vs2.toArray l).run P w = .ok v w
  | [], xs, ys, v, vs1, vs2, h, _, _, w => by
    simp only [eqF, Option.some.injEq] at h
    subst h
    simp [Op.eqFields]
  | f :: l, xs, ys, v, vs1, vs2, h, h1, h2, w => by
    simp only [eqF] at h
    split at h
    · cases h
    · rename_i hn
      split at h
      · rename_i a b ha hb
        split at h
        · rename_i r q hr hq
          injection h with h
          subst h
          simp only [not_or, Bool.not_eq_false] at hn
          obtain ⟨d', hd⟩ := Option.isSome_iff_exists.1 hn.2
          obtain ⟨p1, p2, p3⟩ := partD_some ha h1
          obtain ⟨q1, q2, q3⟩ := partD_some hb h2
          simp only [Op.eqFields, ne_eq, hn.1, not_false_eq_true, if_true, Sem.run_bind, run_part_of hd p1 p3, run_part_of hd q1 q3, Result.andThen_ok, he hr p2 q2 w]
          cases r
          · simp
          · simpa using run_eqF he l hq h1 h2 w
        · cases h
      · cases h
theorem run_eqD {μ : Nat → Nat → Option Value} (k : Nat) : ∀ (d : Nat) {t : TypeId} {x y : D} {v : Bool} {u1 u2 : Value}, eqD P d t x y = some v → Rep μ x u1 → Rep μ y u2 → ∀ w, (Op.equalIn (k + d) t u1 u2).run P w = .ok v w := by
  intro d
  induction d with
  | zero => intro t x y v u1 u2 h; simp [eqD] at h
  | succ d ih =>
    intro t x y v u1 u2 h h1 h2 w
    simp only [eqD] at h
    split at h
    · rename_i q kk a k' b hu
      split at h
      · rename_i hk
        injection h with h
        simp only [Rep] at h1 h2
        subst h1 h2 hk h
        exact run_equalIn_int w (k + d) t kk q a b hu
      · cases h
    · rename_i a b hu
      injection h with h
      simp only [Rep] at h1 h2
      subst h1 h2 h
      exact run_equalIn_bool' w (k + d) t a b hu
    · rename_i a b hu
      injection h with h
      simp only [Rep] at h1 h2
      subst h1 h2 h
      rw [show k + (d + 1) = (k + d) + 1 from rfl, run_equalIn_string w (k + d) t _ _ hu]
      simp only [ByteArray.toList_eq]
    · rename_i fs xs ys hu
      split at h
      · cases h
      · rename_i hs
        have hf : P.fieldsOf t = fs := by simp [Program.fieldsOf, hu]
        simp only [Rep] at h1 h2
        obtain ⟨vs1, rfl, h1⟩ := h1
        obtain ⟨vs2, rfl, h2⟩ := h2
        rw [show k + (d + 1) = (k + d) + 1 from rfl, run_equalIn_struct w (k + d) t _ _ (by rw [hf]; exact hu) (by simpa using hs), hf]
        exact run_eqF ih fs.toList h h1 h2 w
    · cases h
theorem run_eqGuard_ptr (op : BinOp) (t : TypeId) (x y : Operand) (a b : Option Addr) : (eqGuard op t x y (.pointer a) (.pointer b)).run P w = .ok () w := by
  unfold eqGuard; split <;> simp
theorem run_ptrQ {op : BinOp} {t : TypeId} {a : Option Addr} (hk : (ptrQ P op t a.isNone).ok = true) : ∃ u, (binOp op t (.pointer a) (.pointer none)).run P w = .ok u w ∧ RepA γ (ptrQ P op t a.isNone).v u := by
  unfold ptrQ at hk ⊢
  split at hk
  · rename_i e hu
    have hp : P.underlying t = some (.pointer (P.pointee t)) := by simp only [Program.pointee, hu]
    exact ⟨_, run_eql_pointer_nil w t a hp, by simp [Q.ret, RepA, Rep]⟩
  · rename_i e hu
    have hp : P.underlying t = some (.pointer (P.pointee t)) := by simp only [Program.pointee, hu]
    exact ⟨_, run_neq_pointer_nil w t a hp, by simp [Q.ret, RepA, Rep]⟩
  · cases hk
theorem stay_bin {o : Oper} {op : BinOp} {t t2 : TypeId} {x y : Operand} (ho : o.op = .binOp op t x y t2) {p q : AV} (hx : RepA γ p (ρ x)) (hy : RepA γ q (ρ y)) (hk : (binQ P op t p q).ok = true) (hob : ∀ z ∈ (binQ P op t p q).ob, z) :
    Stay P γ w ρ o (binQ P op t p q).v := by
  unfold Stay execOp
  simp only [ho]
  unfold binQ at hk hob ⊢
  split at hk <;> try simp only [RepA, Rep] at hx hy
  · rename_i k a k' b
    rw [hx, hy]
    simp only [Sem.run_bind, run_eqGuard_int, Result.andThen_ok]
    split at hk
    · simp only [Q.when, List.mem_cons, List.not_mem_nil, or_false, forall_eq, RepA, Rep] at hob ⊢
      refine ⟨_, ?_, rfl⟩
      simp [binOp, Op.shift, show ¬ b < 0 by omega]
    · simp only [Q.when, List.mem_cons, List.not_mem_nil, or_false, forall_eq, RepA, Rep] at hob ⊢
      refine ⟨_, ?_, rfl⟩
      simp [binOp, Op.shift, show ¬ b < 0 by omega]
    · rename_i h1 h2
      split at hk
      · rename_i hkk
        subst hkk
        simp only [if_true] at hob ⊢
        obtain ⟨u, h3, h4⟩ := run_intBin (P := P) (γ := γ) (w := w) (t := t) ⟨h1, h2⟩ hk hob
        exact ⟨u, by simp [h3], h4⟩
      · cases hk
  · rename_i a b
    rw [hx, hy]
    obtain ⟨u, h3, h4⟩ := run_strBin (P := P) (γ := γ) (w := w) (t := t) hk hob
    exact ⟨u, by simp [run_eqGuard_str, h3], h4⟩
  · rename_i a b
    rw [hx, hy]
    simp only [Sem.run_bind, run_eqGuard_bool, Result.andThen_ok]
    split at hk
    · rename_i hu
      exact ⟨.bool (a == b), by simp [binOp, run_equal_bool hu], by simp [Q.ret, RepA, Rep]⟩
    · rename_i hu
      exact ⟨.bool (a != b), by simp [binOp, run_equal_bool hu, bne], by simp [Q.ret, RepA, Rep]⟩
    · cases hk
  · rename_i a b
    split at hk
    · cases hk
    · rename_i hg
      obtain ⟨vs1, e1, r1⟩ := hx
      obtain ⟨vs2, e2, r2⟩ := hy
      have hg' : P.eqGuardType P.depth t = false := by simpa using hg
      simp only [hg', Bool.false_eq_true, if_false] at hk hob ⊢
      rw [e1, e2]
      simp only [Sem.run_bind, run_eqGuard_agg w _ t x y _ _ hg', Result.andThen_ok]
      split at hk
      · rename_i v hv
        have : (Op.equalIn 10000 t (.agg vs1.toArray) (.agg vs2.toArray)).run P w = .ok v w := run_eqD (P := P) (μ := γ.μ) 9980 20 hv (by simp only [Rep]; exact ⟨vs1, rfl, r1⟩) (by simp only [Rep]; exact ⟨vs2, rfl, r2⟩) w
        exact ⟨.bool v, by simp [run_eql_struct, this], by simp [Q.ret, RepA, Rep]⟩
      · rename_i v hv
        have : (Op.equalIn 10000 t (.agg vs1.toArray) (.agg vs2.toArray)).run P w = .ok v w := run_eqD (P := P) (μ := γ.μ) 9980 20 hv (by simp only [Rep]; exact ⟨vs1, rfl, r1⟩) (by simp only [Rep]; exact ⟨vs2, rfl, r2⟩) w
        exact ⟨.bool (!v), by simp [run_neq_struct, this], by simp [Q.ret, RepA, Rep]⟩
      · cases hk
  · rw [hx, hy]
    obtain ⟨u, h3, h4⟩ := run_ptrQ (P := P) (γ := γ) (w := w) (a := none) hk
    exact ⟨u, by simp [run_eqGuard_ptr, h3], h4⟩
  · rename_i id off
    obtain ⟨b, _, e⟩ := hx
    rw [e, hy]
    obtain ⟨u, h3, h4⟩ := run_ptrQ (P := P) (γ := γ) (w := w) (a := some ⟨b, off, none⟩) hk
    exact ⟨u, by simp [run_eqGuard_ptr, h3], h4⟩
  · rename_i d off
    obtain ⟨b, ob, _, e, _⟩ := hx
    rw [e, hy]
    obtain ⟨u, h3, h4⟩ := run_ptrQ (P := P) (γ := γ) (w := w) (a := some ⟨b, ob + off, none⟩) hk
    exact ⟨u, by simp [run_eqGuard_ptr, h3], h4⟩
  · cases hk
theorem args2 {args : Array Operand} {e : Operand → AV} {p q : AV} (h : args.toList.map e = [p, q]) : ∃ x y, args = #[x, y] ∧ e x = p ∧ e y = q := by
  cases args with | mk l => match l, h with | [x, y], h => simp at h; exact ⟨x, y, rfl, h.1, h.2⟩
theorem args1 {args : Array Operand} {e : Operand → AV} {p : AV} (h : args.toList.map e = [p]) : ∃ x, args = #[x] ∧ e x = p := by
  cases args with | mk l => match l, h with | [x], h => simp at h; exact ⟨x, rfl, h⟩
theorem args3 {args : Array Operand} {e : Operand → AV} {p q r : AV} (h : args.toList.map e = [p, q, r]) : ∃ x y z, args = #[x, y, z] ∧ e x = p ∧ e y = q ∧ e z = r := by
  cases args with | mk l => match l, h with | [x, y, z], h => simp at h; exact ⟨x, y, z, rfl, h.1, h.2.1, h.2.2⟩
theorem run_max2 (k k' : IntKind) (a b : Int) : (Builtin.max2 (.int k a) (.int k' b)).run P w = .ok (.int k (if a < b then b else a)) w := by simp [Builtin.max2]
theorem run_min2 (k k' : IntKind) (a b : Int) : (Builtin.min2 (.int k a) (.int k' b)).run P w = .ok (.int k (if b < a then b else a)) w := by simp [Builtin.min2]
theorem stay_minMax {o : Oper} {mx : Bool} {args : Array Operand} {ts : Array TypeId} (ho : o.op = .call { callee := .builtin (if mx then .max else .min), args := args, argTypes := ts }) (e : Operand → AV) (hr : ∀ y ∈ args, RepA γ (e y) (ρ y))
    (hk : (minMaxQ mx (args.toList.map e)).ok = true) : Stay P γ w ρ o (minMaxQ mx (args.toList.map e)).v := by
  unfold Stay execOp
  simp only [ho]
  unfold minMaxQ at hk ⊢
  obtain ⟨⟨k, n⟩, h1, h2⟩ := optQ_ok hk
  rw [h2]
  simp only [Q.ret, RepA, Rep]
  refine ⟨_, ?_, rfl⟩
  unfold minMax at h1
  split at h1
  · rename_i k' a heq
    injection h1 with h1
    obtain ⟨x, rfl, hx⟩ := args1 heq
    have hx1 := hr x (by simp)
    rw [hx] at hx1
    simp only [RepA, Rep] at hx1
    obtain ⟨rfl, rfl⟩ := Prod.mk.inj h1
    cases mx <;> simp [resolve, invoke, builtin, Builtin.max_, Builtin.min_, hx1]
  · rename_i k' a k2 b heq
    injection h1 with h1
    obtain ⟨x, y, rfl, hx, hy⟩ := args2 heq
    have hx1 := hr x (by simp)
    have hy1 := hr y (by simp)
    rw [hx] at hx1
    rw [hy] at hy1
    simp only [RepA, Rep] at hx1 hy1
    obtain ⟨rfl, rfl⟩ := Prod.mk.inj h1
    cases mx <;> simp [resolve, invoke, builtin, Builtin.max_, Builtin.min_, hx1, hy1, run_max2, run_min2]
  · rename_i k' a k2 b k3 c heq
    injection h1 with h1
    obtain ⟨x, y, z, rfl, hx, hy, hz⟩ := args3 heq
    have hx1 := hr x (by simp)
    have hy1 := hr y (by simp)
    have hz1 := hr z (by simp)
    rw [hx] at hx1
    rw [hy] at hy1
    rw [hz] at hz1
    simp only [RepA, Rep] at hx1 hy1 hz1
    obtain ⟨rfl, rfl⟩ := Prod.mk.inj h1
    cases mx <;> simp [resolve, invoke, builtin, Builtin.max_, Builtin.min_, hx1, hy1, hz1, run_max2, run_min2]
  · cases h1
end
end Go.Av
