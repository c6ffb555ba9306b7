/- A region that draws its order and writes a variable that another of its operations reads ahead of it. -/
import Derived.Test.YtfgeoeipnidfhaaInv
namespace Go.Base
open Go.RowKit

/-- Operation j writes slot d and waits for operation k. -/
def keepB (l : List Oper) (k j d : Nat) : Bool := ((l[j]?).map fun o => (o.dst == some d) && o.after.toList.any fun e => Region.binds .any e && decide (e.on = k)).getD false
/-- What waits for operation k has not written yet. -/
def Keep (l : List Oper) (a0 : Act) (u : Nat → Value) (k : Nat) : Prop := ∀ j d, keepB l k j d = true → u j = a0.tmps.getD d undef
def StepsK (P : Program) (ops : Array Oper) (V : List (Value → World → Prop)) (w0 : World) (u : Nat → Value) (A : Act) (l0 : List Oper) (a0 : Act) : List Oper → Nat → Prop
  | [], _ => True
  | o :: l, i => (∀ w, Ext w0 w → Keep l0 a0 u i → Preds V u w o.after.toList → wpList P ops (StepQ V i o A w) [o] A w) ∧ StepsK P ops V w0 u A l0 a0 l (i + 1)
theorem stepsK_at {P : Program} {ops : Array Oper} {V : List (Value → World → Prop)} {w0 : World} {u : Nat → Value} {A : Act} {l0 : List Oper} {a0 : Act} : ∀ (l : List Oper) (i k : Nat) (o : Oper), StepsK P ops V w0 u A l0 a0 l i → l[k]? = some o →
    ∀ w, Ext w0 w → Keep l0 a0 u (i + k) → Preds V u w o.after.toList → wpList P ops (StepQ V (i + k) o A w) [o] A w
  | [], _, _, _, _, h => by simp at h
  | x :: l, i, 0, o, hs, h => by
    obtain rfl : x = o := by simpa using h
    exact hs.1
  | x :: l, i, k + 1, o, hs, h => by
    have := stepsK_at l (i + 1) k o hs.2 (by simpa using h)
    rw [show i + 1 + k = i + (k + 1) by omega] at this
    exact this
/-- The state in the midst of the region: what has been listed is as V says. -/
structure MidK (l : List Oper) (V : List (Value → World → Prop)) (a0 : Act) (w0 : World) (listed : Array Bool) (a : Act) (w : World) : Prop where
  ext : Ext w0 w
  defers : a.defers = a0.defers
  size : a.tmps.size = a0.tmps.size
  lsize : listed.size = l.length
  out : ∀ t, t ∉ dsts l → a.tmps[t]? = a0.tmps[t]?
  done : ∀ k (o : Oper), l[k]? = some o → listed.getD k false = true → nth V k (o.dst.elim undef fun d => a.tmps.getD d undef) w
  keep : ∀ j (o : Oper) d, l[j]? = some o → listed.getD j false = false → o.dst = some d → a.tmps[d]? = a0.tmps[d]?
  closed : ∀ j (o : Oper), l[j]? = some o → listed.getD j false = true → ∀ e ∈ o.after, Region.binds .any e = true → listed.getD e.on false = true

theorem midK_any {P : Program} {l : List Oper} {Q : Exit → Act → World → Prop} {V : List (Value → World → Prop)} {a0 : Act} {w0 : World}
    (hg : goodB l a0.tmps.size = true) (hV : ∀ k, Stable (nth V k)) (_hout : True)
    (step : ∀ u A, A = putFrom a0 l 0 u → StepsK P l.toArray V w0 u A l a0 l 0)
    (fin : ∀ u A w, A = putFrom a0 l 0 u → Ext w0 w → (∀ k, k < l.length → nth V k (u k) w) → Q .normal A w) :
    ∀ (fuel : Nat) (listed : Array Bool) (a : Act) (w : World), MidK l V a0 w0 listed a w → (List.range l.length).countP (fun i => !listed.getD i true) ≤ fuel → wpAny P .any l.toArray Q fuel listed a w := by
  unfold goodB at hg
  simp only [Bool.and_eq_true, decide_eq_true_eq, List.all_eq_true] at hg
  obtain ⟨⟨hn, hsz⟩, hb⟩ := hg
  have done_fin : ∀ listed a w, MidK l V a0 w0 listed a w → Region.ready .any l.toArray listed = [] → Q .normal a w := by
    intro listed a w hm hr
    refine fin (uOf l a) a w (putFrom_eq l a0 a hn hm.defers hm.size hm.out) hm.ext fun k hk => ?_
    have ho : l[k]? = some l[k] := List.getElem?_eq_getElem hk
    have := hm.done k _ ho (all_listed hb hm.lsize hr k k (Nat.le_refl _) hk)
    simpa [uOf, ho] using this
  intro fuel
  induction fuel with
  | zero =>
    intro listed a w hm hc
    have hr : Region.ready .any l.toArray listed = [] := by
      apply Classical.byContradiction
      intro hne
      obtain ⟨k, hk⟩ := List.exists_mem_of_ne_nil _ hne
      unfold Region.ready at hk
      rw [List.mem_filter] at hk
      simp only [List.size_toArray, Bool.and_eq_true] at hk
      have : 0 < (List.range l.length).countP (fun i => !listed.getD i true) := List.countP_pos_iff.2 ⟨k, hk.1, hk.2.1⟩
      omega
    exact ⟨hr, done_fin listed a w hm hr⟩
  | succ fuel ih =>
    intro listed a w hm hc
    refine ⟨done_fin listed a w hm, fun k hk => ?_⟩
    have hlt : k < l.length := by
      unfold Region.ready at hk
      rw [List.mem_filter] at hk
      simpa using hk.1
    have ho : l[k]? = some l[k] := List.getElem?_eq_getElem hlt
    obtain ⟨hun, hpre⟩ := (ready_mem hm.lsize ho).1 hk
    have hst := stepsK_at l 0 k _ (step (uOf l a) a (putFrom_eq l a0 a hn hm.defers hm.size hm.out)) ho w hm.ext
      (by
        rw [Nat.zero_add]
        intro j d hj
        unfold keepB at hj
        cases hlj : l[j]? with
        | none => rw [hlj] at hj; cases hj
        | some oj =>
          rw [hlj] at hj
          simp only [Option.map_some, Option.getD_some, Bool.and_eq_true, List.any_eq_true, decide_eq_true_eq, beq_iff_eq] at hj
          obtain ⟨hjd, e, he, hbb, hek⟩ := hj
          have hu : listed.getD j false = false := by
            cases hx : listed.getD j false
            · rfl
            · have := hm.closed j oj hlj hx e (Array.mem_toList_iff.1 he) hbb
              rw [hek, hun] at this; cases this
          have := hm.keep j oj d hlj hu hjd
          simp only [uOf, hlj, Option.bind_some, hjd, Option.elim_some, Array.getD_eq_getD_getElem?, this])
      (preds_of _ fun e he hbb => by
        have he' : e ∈ (l[k]).after := Array.mem_toList_iff.1 he
        have hb2 := back_at hb ho e he' hbb
        have hl2 := hpre e he' hbb
        have hlt2 : e.on < l.length := by omega
        have ho2 : l[e.on]? = some l[e.on] := List.getElem?_eq_getElem hlt2
        have := hm.done e.on _ ho2 hl2
        simpa [uOf, ho2] using this)
    rw [Nat.zero_add] at hst
    unfold wpOp
    rw [List.getElem?_toArray, ho]
    have key := upon_skip_or (P := P) (ops := l.toArray) (K := Q) (K' := wpAny P .any l.toArray Q fuel (listed.setIfInBounds k true)) (by rintro ⟨_, _, h⟩; exact h) hst ?_ (fun _ _ _ h => h)
    · simp only
      split
      · rename_i hw; rw [if_pos hw] at key; exact .inl key
      · rename_i hw; rw [if_neg hw] at key; exact key
    · rintro a' w' ⟨v, rfl, hv, hx⟩
      refine ih _ _ _ ⟨Ext.trans hm.ext hx, by rw [put_defers, hm.defers], by rw [put_size, hm.size], by rw [Array.size_setIfInBounds, hm.lsize], fun t ht => ?_, fun k2 o2 h2 hl2 => ?_, fun j oj d hj hl2 hd => ?_, fun j oj hj hl2 e he hbb => ?_⟩ ?_
      · have : (l[k]).dst ≠ some t := fun e => ht (by
          unfold dsts
          exact List.mem_filterMap.2 ⟨l[k], List.getElem_mem hlt, e⟩)
        rw [put_at _ _ _ _ this]
        exact hm.out t ht
      · rw [getD_set] at hl2
        by_cases hkk : k = k2
        · subst hkk
          obtain rfl : l[k] = o2 := by rw [ho] at h2; injection h2
          cases hd : (l[k]).dst with
          | none => rw [hd] at hv; exact hv
          | some d =>
            rw [hd] at hv
            have hdl : d < a.tmps.size := by
              rw [hm.size]
              exact hsz d (by unfold dsts; exact List.mem_filterMap.2 ⟨l[k], List.getElem_mem hlt, hd⟩)
            have : (a.put (some d) v).tmps.getD d undef = v := by
              rw [Array.getD_eq_getD_getElem?, put_same _ _ _ hdl]; rfl
            simp only [Option.elim_some]
            rw [this]
            exact hv
        · rw [if_neg (fun h => hkk h.1)] at hl2
          have h3 := hV k2 _ _ _ (hm.done k2 o2 h2 hl2) hx
          cases hd : o2.dst with
          | none => rw [hd] at h3; exact h3
          | some d =>
            rw [hd] at h3
            simp only [Option.elim_some] at h3 ⊢
            have hne : (l[k]).dst ≠ some d := by
              intro e
              have hk2 : k2 < l.length := (List.getElem?_eq_some_iff.1 h2).1
              have e2 : l[k2] = o2 := by rw [List.getElem?_eq_getElem hk2] at h2; injection h2
              exact hkk (nodup_dst hn hlt hk2 e (by rw [e2, hd]))
            have : (a.put (l[k]).dst v).tmps.getD d undef = a.tmps.getD d undef := by
              rw [Array.getD_eq_getD_getElem?, put_at _ _ _ _ hne, ← Array.getD_eq_getD_getElem?]
            rw [this]
            exact h3
      · rw [getD_set] at hl2
        split at hl2
        · cases hl2
        · rename_i hne
          have hjl : j < l.length := (List.getElem?_eq_some_iff.1 hj).1
          have hkj : k ≠ j := fun e => hne ⟨e, by rw [hm.lsize]; exact hjl⟩
          have : (l[k]).dst ≠ some d := by
            intro e
            have e2 : l[j] = oj := by rw [List.getElem?_eq_getElem hjl] at hj; injection hj
            exact hkj (nodup_dst hn hlt hjl e (by rw [e2, hd]))
          rw [put_at _ _ _ _ this]
          exact hm.keep j oj d hj hl2 hd
      · rw [getD_set] at hl2 ⊢
        split
        · rfl
        · split at hl2
          · rename_i hkj
            obtain rfl : k = j := hkj.1
            obtain rfl : l[k] = oj := by rw [ho] at hj; injection hj
            exact hpre e he hbb
          · exact hm.closed j oj hj hl2 e he hbb
      · have := countP_lt (p := fun i => !listed.getD i true) (q := fun i => !(listed.setIfInBounds k true).getD i true) (List.range l.length) (fun x _ hx => by
            simp only [getD_set] at hx
            split at hx
            · simp at hx
            · exact hx) ⟨k, List.mem_range.2 hlt, by
              have h1 : listed.getD k true = listed.getD k false := by simp [Array.getD, hm.lsize, hlt]
              simp [h1, hun], by simp [hm.lsize, hlt]⟩
        omega

theorem wp_region_keep {P : Program} {id : Nat} {l : List Oper} {Q : Exit → Act → World → Prop} {V : List (Value → World → Prop)} {a0 : Act} {w0 : World}
    (hm : P.follows .mixedOrders = true) (hg : goodB l a0.tmps.size = true) (hV : ∀ k, Stable (nth V k))
    (step : ∀ u A, A = putFrom a0 l 0 u → StepsK P l.toArray V w0 u A l a0 l 0)
    (fin : ∀ u A w, A = putFrom a0 l 0 u → Ext w0 w → (∀ k, k < l.length → nth V k (u k) w) → Q .normal A w) : (Code.region id l.toArray true).wp P Q a0 w0 := by
  have hg2 := hg
  unfold goodB at hg2
  simp only [Bool.and_eq_true, decide_eq_true_eq, List.all_eq_true] at hg2
  refine wp_region_any hm ?_
  have := midK_any (Q := Q) hg hV trivial step fin l.length (Array.replicate l.length false) a0 { w0 with drawn := w0.drawn + 1 }
    ⟨(Below.refl _ w0).drew, rfl, rfl, by simp, fun _ _ => rfl, fun k o hk h => by
      have hlt : k < l.length := (List.getElem?_eq_some_iff.1 hk).1
      simp [Array.getD, hlt] at h, fun _ _ _ _ _ _ => rfl, fun j o hj h => by
      have hlt : j < l.length := (List.getElem?_eq_some_iff.1 hj).1
      simp [Array.getD, hlt] at h⟩ (Nat.le_trans (List.countP_le_length) (by simp))
  simpa using this
end Go.Base
