/- From what a statement says of its arguments to typed data. -/
import Derived.Test.YtlpdcjbkbcmahaaGreatDoorAvTree
import Derived.Deep.Slices
import Derived.ProofKit
import Derived.OpenShut
set_option linter.unusedVariables false
set_option linter.unusedSimpArgs false
namespace Go.Av
open Go.RowKit Go.Base Go.ChangeShapes Go.WideShapes
variable {P : Program} {H : Type} {enc : TypeId × Value → H} {W : World} {spare : Nat → Bool}

theorem spot_none {w : World} {a : Addr} {v : Value} (h : w.cell? a = some v) : a.spot = none := by
  unfold World.cell? at h
  cases hx : a.spot with
  | none => rfl
  | some s => rw [hx] at h; simp at h; split at h <;> cases h
theorem add_plain {a : Addr} (h : a.spot = none) (j : Nat) : a.add j = ⟨a.block, a.off + j, none⟩ := by
  unfold Addr.add
  split
  · rename_i e; subst e; cases a; simp at h; simp [h]
  · rfl
/-- All of memory as it stands. -/
def allM (W : World) (b o : Nat) : Option Value := W.cell? ⟨b, o, none⟩
theorem fz_all (W : World) : FzM (allM W) W := fun _ _ _ h => h

/-- What a statement's reading says of a value of type t: it is the data of some a. -/
def Opens {α : Type} (P : Program) (W : World) (spare : Nat → Bool) (t : TypeId) (e : α → List D) (ok : α → Prop) : Prop :=
  ∀ (H : Type) (enc : TypeId × Value → H) (fuel : Nat) (cs : List Value) (x : DataW H × List MemPlace), DataW.trod enc P W 0 spare true fuel t cs = some x → ∃ a, RepL (allM W) (e a) cs ∧ ok a

theorem opens_int {t : TypeId} {k : IntKind} (ht : P.underlying t = some (.int k)) : Opens P W spare t (fun n => [.int k n]) (fun n => (Lit.int k n).wf = true) := fun H enc fuel cs x h => by
  obtain ⟨n, rfl, _, hw⟩ := DataW.trod_int ht h
  exact ⟨n, by simp [RepL, Rep], hw⟩
theorem opens_bool {t : TypeId} (ht : P.underlying t = some .bool) : Opens P W spare t (fun b => [.bool b]) (fun _ => True) := fun H enc fuel cs x h => by
  obtain ⟨b, rfl, _⟩ := DataW.trod_bool ht h
  exact ⟨b, by simp [RepL, Rep], trivial⟩
theorem opens_string {t : TypeId} (ht : P.underlying t = some .string) : Opens P W spare t (fun s => [.str s]) (fun s => s.length ≤ maxLen) := fun H enc fuel cs x h => by
  obtain ⟨s, rfl, _, hs⟩ := DataW.trod_string ht h
  obtain ⟨⟨l⟩⟩ := s
  exact ⟨l, by simp [RepL, Rep], by simpa [ByteArray.size] using hs⟩
theorem opens_mono {α : Type} {t : TypeId} {e : α → List D} {ok ok' : α → Prop} (h : Opens P W spare t e ok) (hk : ∀ a, ok a → ok' a) : Opens P W spare t e ok' := fun H enc fuel cs x hx =>
  let ⟨a, h1, h2⟩ := h H enc fuel cs x hx; ⟨a, h1, hk a h2⟩
theorem repL_one {μ : Nat → Nat → Option Value} {ds : List D} {vs : List Value} (h : RepL μ ds vs) (ho : ds.all D.one = true) : ∀ x ∈ vs, x.oneCell' = true := by
  have := repAL_one (γ := ⟨μ, fun _ => none, fun _ => none⟩) (RepAL.of_map (γ := ⟨μ, fun _ => none, fun _ => none⟩) h) (by simpa [List.all_map, Function.comp_def, AV.one] using ho)
  exact this
theorem repL_len {μ : Nat → Nat → Option Value} : ∀ {ds : List D} {vs : List Value}, RepL μ ds vs → vs.length = ds.length
  | [], _, h => by simp only [RepL] at h; subst h; rfl
  | d :: l, _, h => by
    simp only [RepL] at h
    obtain ⟨v, t, rfl, _, h⟩ := h
    simp [repL_len h]
theorem opens_slice {α : Type} [Inhabited α] {t el : TypeId} {e : α → List D} {en : α → D} {ok : α → Prop} {sz : Nat} (ht : P.underlying t = some (.slice el)) (hsz : P.cellsOf el = sz) (hp : 0 < sz) (hel : Opens P W spare el e ok)
    (hone : ∀ a, (e a).all D.one = true) (hlen : ∀ a, (e a).length = sz) (hen : ∀ a, en a = .agg (e a) ∨ (e a = [en a] ∧ sz = 1)) : Opens P W spare t (fun l => [eSl sz en l]) (fun l => l.length ≤ maxLen ∧ ∀ a ∈ l, ok a) := fun H enc fuel cs x h => by
  rcases Go.Deep.open_slice ht h with ⟨rfl, _⟩ | ⟨A, len, cap, m, n, D, Pl, rfl, _, hl, hm, hmm, _, hx⟩
  · refine ⟨[], ?_, by simp [maxLen], by simp⟩
    simp only [RepL, eSl, List.length_nil]
    refine ⟨_, [], rfl, ?_, rfl⟩
    simp only [Rep]
    exact ⟨none, 0, rfl, Nat.le_refl _, Nat.zero_le _, fun h => absurd h (by omega)⟩
  · have hle : len ≤ m := by rw [hmm]; split <;> omega
    have key : ∀ i, i < len → ∃ a : α, ok a ∧ ∃ cs', W.cells? 0 (A.add (i * sz)) sz = some cs' ∧ RepL (allM W) (e a) cs' := by
      intro i hi
      obtain ⟨cs', h1, h2⟩ := hx i (by omega)
      rw [hsz] at h1
      obtain ⟨a, h3, h4⟩ := hel H enc n cs' _ h2
      exact ⟨a, h4, cs', h1, h3⟩
    let g : Nat → α := fun i => if h : i < len then Classical.choose (key i h) else default
    have hg : ∀ i, i < len → ok (g i) ∧ ∃ cs', W.cells? 0 (A.add (i * sz)) sz = some cs' ∧ RepL (allM W) (e (g i)) cs' := fun i hi => by
      have : g i = Classical.choose (key i hi) := dif_pos hi
      rw [this]
      exact Classical.choose_spec (key i hi)
    refine ⟨(List.range len).map g, ?_, by simp; omega, fun a ha => ?_⟩
    · simp only [RepL, eSl, List.length_map, List.length_range]
      refine ⟨_, [], rfl, ?_, rfl⟩
      simp only [Rep]
      refine ⟨some A, cap, rfl, hl, hm, fun hn => ?_⟩
      obtain ⟨cs0, c1, c2⟩ := (hg 0 hn).2
      obtain ⟨_, c3, c4⟩ := World.cells?_some c1
      have hA : A.spot = none := by
        have h5 := c4 0 hp
        rw [List.getElem?_eq_getElem (by omega)] at h5
        rw [Nat.zero_mul] at h5
        simp only [Addr.add, if_true] at h5
        exact spot_none h5
      refine ⟨A.block, A.off, by cases A; simp at hA; simp [hA], fun i hi => ?_⟩
      obtain ⟨cs', d1, d2⟩ := (hg i hi).2
      obtain ⟨_, d3, d4⟩ := World.cells?_some d1
      have hce : cF en ((List.range len).map g) i = en (g i) := by
        simp only [cF, List.getD_eq_getElem?_getD, List.getElem?_map, List.getElem?_range hi, Option.map_some, Option.getD_some]
      have hcell : ∀ j, j < sz → allM W A.block (A.off + i * sz + j) = cs'[j]? := fun j hj => by
        rw [← d4 j hj, add_plain hA, add_plain rfl]
        rfl
      rw [hce]
      have h1 := repL_one d2 (hone (g i))
      rcases hen (g i) with he | ⟨he, hs1⟩
      · refine ⟨.agg cs'.toArray, ?_, ?_, ?_, fun j hj => ?_⟩
        · rw [he]; simp only [Rep]; exact ⟨cs', rfl, d2⟩
        · simp [Value.cells]; exact d3
        · intro y hy; exact h1 y (by simpa [Value.cells] using hy)
        · rw [hcell j hj]; simp [Value.cells]
      · rw [he] at d2
        simp only [RepL] at d2
        obtain ⟨v, t', rfl, d5, rfl⟩ := d2
        have ho : (en (g i)).one = true := by have := hone (g i); rw [he] at this; simpa using this
        obtain ⟨_, hc, _⟩ := Rep.cells_one d5 ho
        refine ⟨v, d5, by rw [hc, hs1]; rfl, fun y hy => ?_, fun j hj => ?_⟩
        · rw [hc] at hy; simp at hy; rw [hy]; exact h1 v (by simp)
        · rw [hcell j hj, hc]; rw [hs1] at hj; obtain rfl : j = 0 := by omega
          rfl
    · simp only [List.mem_map, List.mem_range] at ha
      obtain ⟨i, hi, rfl⟩ := ha
      exact (hg i hi).1
/-- The fields of a struct, one after the other: each with its own cells. -/
theorem repL_app {μ : Nat → Nat → Option Value} : ∀ {a b : List D} {vs ws : List Value}, RepL μ a vs → RepL μ b ws → RepL μ (a ++ b) (vs ++ ws)
  | [], _, _, _, h, k => by simp only [RepL] at h; subst h; exact k
  | d :: l, b, _, ws, h, k => by
    simp only [RepL] at h
    obtain ⟨v, t, rfl, h1, h2⟩ := h
    simp only [List.cons_append, RepL]
    exact ⟨v, _, rfl, h1, repL_app h2 k⟩
theorem split_cells {cs : List Value} {o n : Nat} (rest : o + n ≤ cs.length) : cs.drop o = (cs.drop o).take n ++ cs.drop (o + n) := by
  rw [← List.drop_drop]; exact (List.take_append_drop n _).symm
/-- A value that is one struct. -/
theorem rep_agg {μ : Nat → Nat → Option Value} {ds : List D} {cs : Array Value} (h : RepL μ ds cs.toList) : Rep μ (.agg ds) (.agg cs) := by
  simp only [Rep]; exact ⟨cs.toList, by simp, h⟩
theorem repL_nil {μ : Nat → Nat → Option Value} : RepL μ [] [] := by simp only [RepL]
theorem repL_cons {μ : Nat → Nat → Option Value} {d : D} {l : List D} {v : Value} {vs : List Value} (h : Rep μ d v) (k : RepL μ l vs) : RepL μ (d :: l) (v :: vs) := by simp only [RepL]; exact ⟨v, vs, rfl, h, k⟩
theorem okWide_arr {w : World} {r : Reach} {base : Nat} {t e : TypeId} {n : Nat} {v : Value} (ht : P.underlying t = some (.array n e)) (h : Value.okWide P w r base t v) : ∃ cs, v = .agg cs ∧ cs.size = P.cellsOf t := by
  simp only [Value.okWide, ht] at h
  obtain ⟨cs, h1, h2, _⟩ := h
  exact ⟨cs, h1, h2⟩
theorem okWide_slice {w : World} {r : Reach} {base : Nat} {t e : TypeId} {v : Value} (ht : P.underlying t = some (.slice e)) (h : Value.okWide P w r base t v) : v.cells = #[v] := by
  simp only [Value.okWide, ht] at h
  unfold Cell.okWide at h
  cases v <;> first | rfl | (simp [Cell.ok, ht] at h; done) | (simp [Cell.ok, Value.ok, ht] at h)
theorem okWide_string {w : World} {r : Reach} {base : Nat} {t : TypeId} {v : Value} (ht : P.underlying t = some .string) (h : Value.okWide P w r base t v) : v.cells = #[v] := by
  simp only [Value.okWide, ht] at h
  unfold Cell.okWide at h
  cases v <;> first | rfl | (simp [Cell.ok, ht] at h; done) | (simp [Cell.ok, Value.ok, ht] at h)
theorem rep_one {μ : Nat → Nat → Option Value} {d : D} {v : Value} (h : RepL μ [d] #[v].toList) : Rep μ d v := by
  simp only [RepL] at h
  obtain ⟨u, t, e, h1, rfl⟩ := h
  injection e with e1 _
  rw [e1]; exact h1
/-- The call of a law. -/
theorem law_call {f : Nat} {ds : List D} (h : PureAt P f ds (.bool true)) {args : Array Value} (hr : RepL (allM W) ds args.toList) : Calls P f args W fun e w' => e = .returned (.bool true) ∧ Below W.heap.size W w' := by
  have := h.2 (allM W) W args.toList (fz_all W) hr
  refine this.mono ?_
  rintro e w' ⟨v, ν, rfl, h1, _, _, h2⟩
  simp only [Rep] at h2
  exact ⟨by rw [h2], h1⟩
end Go.Av
