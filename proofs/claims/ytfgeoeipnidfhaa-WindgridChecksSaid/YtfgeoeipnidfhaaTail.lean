/- A region that draws its order and ends in stores: the head by what each operation leaves, the tail in its one order. -/
import Derived.Test.YtfgeoeipnidfhaaInv
namespace Go.Base
open Go.RowKit

/-- The first of the tail waits for the whole head; each later one for the one ahead of it. -/
def tailB (pre tail : List Oper) : Bool :=
  ((tail[0]?).map fun o => (List.range pre.length).all fun j => (o.after.toList.any fun e => Region.binds .any e && decide (e.on = j)) || pre.any fun x => x.after.toList.any fun e => Region.binds .any e && decide (e.on = j)).getD true &&
  (List.range tail.length).all fun i => ((tail[i + 1]?).map fun o => o.after.toList.any fun e => Region.binds .any e && decide (e.on = pre.length + i)).getD true
def goodT (pre tail : List Oper) (size : Nat) : Bool := decide ((dsts pre).Nodup) && ((dsts pre).all fun d => decide (d < size)) && backB (pre ++ tail) && tailB pre tail

theorem tail_first {pre tail : List Oper} (h : tailB pre tail = true) (hb : backB (pre ++ tail) = true) {o : Oper} (ho : tail[0]? = some o) {listed : Array Bool}
    (hd : ∀ e ∈ o.after, Region.binds .any e = true → listed.getD e.on false = true)
    (hc : ∀ k (x : Oper), pre[k]? = some x → listed.getD k false = true → ∀ e ∈ x.after, Region.binds .any e = true → listed.getD e.on false = true) : ∀ (d j : Nat), pre.length - j ≤ d → j < pre.length → listed.getD j false = true := by
  unfold tailB at h
  rw [Bool.and_eq_true, ho] at h
  simp only [Option.map_some, Option.getD_some, List.all_eq_true, List.mem_range, List.any_eq_true, Bool.and_eq_true, Bool.or_eq_true, decide_eq_true_eq] at h
  intro d
  induction d with
  | zero => intro j h1 h2; omega
  | succ d ih =>
    intro j h1 h2
    rcases h.1 j h2 with ⟨e, he, h3, h4⟩ | ⟨x, hx, e, he, h3, h4⟩
    · rw [← h4]; exact hd e (Array.mem_toList_iff.1 he) h3
    · obtain ⟨i, hi, rfl⟩ := List.mem_iff_getElem.1 hx
      have ho2 : (pre ++ tail)[i]? = some pre[i] := by rw [List.getElem?_append_left hi]; exact List.getElem?_eq_getElem hi
      have h5 := back_at hb ho2 e (Array.mem_toList_iff.1 he) h3
      rw [← h4]
      exact hc i _ (List.getElem?_eq_getElem hi) (ih i (by omega) hi) e (Array.mem_toList_iff.1 he) h3
theorem tail_next {pre tail : List Oper} (h : tailB pre tail = true) {i : Nat} {o : Oper} (ho : tail[i + 1]? = some o) : ∃ e ∈ o.after, Region.binds .any e = true ∧ e.on = pre.length + i := by
  unfold tailB at h
  rw [Bool.and_eq_true] at h
  have h2 := h.2
  rw [List.all_eq_true] at h2
  have hi : i + 1 < tail.length := (List.getElem?_eq_some_iff.1 ho).1
  have := h2 i (List.mem_range.2 (by omega))
  rw [ho] at this
  simp only [Option.map_some, Option.getD_some, List.any_eq_true, Bool.and_eq_true, decide_eq_true_eq] at this
  obtain ⟨e, he, h1, h2⟩ := this
  exact ⟨e, Array.mem_toList_iff.1 he, h1, h2⟩

theorem countP_drop (n : Nat) : ∀ (listed : Array Bool) (k : Nat), listed.size = n → k < n → listed.getD k false = false →
    (List.range n).countP (fun i => !(listed.setIfInBounds k true).getD i true) < (List.range n).countP (fun i => !listed.getD i true) := by
  intro listed k hs hk hf
  refine countP_lt (p := fun i => !listed.getD i true) (q := fun i => !(listed.setIfInBounds k true).getD i true) (List.range n) (fun x _ hx => ?_) ⟨k, List.mem_range.2 hk, ?_, ?_⟩
  · simp only [getD_set] at hx
    split at hx
    · simp at hx
    · exact hx
  · have h1 : listed.getD k true = listed.getD k false := by simp [Array.getD, hs, hk]
    simp [h1, hf]
  · simp [hs, hk]

/-- The tail, once the head is done. -/
theorem tail_any {P : Program} {pre tail : List Oper} {Q : Exit → Act → World → Prop} (ht : tailB pre tail = true) (hb : backB (pre ++ tail) = true) :
    ∀ (fuel j : Nat) (listed : Array Bool) (a : Act) (w : World), j ≤ tail.length → listed.size = (pre ++ tail).length → (∀ k, listed.getD k false = true ↔ k < pre.length + j) →
      wpList P (pre ++ tail).toArray Q (tail.drop j) a w → (List.range (pre ++ tail).length).countP (fun i => !listed.getD i true) ≤ fuel → wpAny P .any (pre ++ tail).toArray Q fuel listed a w := by
  have hready : ∀ (j : Nat) (listed : Array Bool), listed.size = (pre ++ tail).length → (∀ k, listed.getD k false = true ↔ k < pre.length + j) → ∀ k ∈ Region.ready .any (pre ++ tail).toArray listed, k = pre.length + j ∧ j < tail.length := by
    intro j listed hs hl k hk
    have hlt : k < (pre ++ tail).length := by
      unfold Region.ready at hk
      rw [List.mem_filter] at hk
      simpa using hk.1
    have ho : (pre ++ tail)[k]? = some (pre ++ tail)[k] := List.getElem?_eq_getElem hlt
    obtain ⟨hun, hpre⟩ := (ready_mem hs ho).1 hk
    have h1 : pre.length + j ≤ k := by
      rcases Nat.lt_or_ge k (pre.length + j) with h | h
      · rw [(hl k).2 h] at hun; cases hun
      · exact h
    rw [List.length_append] at hlt
    rcases Nat.eq_or_lt_of_le h1 with h2 | h2
    · exact ⟨h2.symm, by omega⟩
    · obtain ⟨i, rfl⟩ : ∃ i, k = pre.length + (i + 1) := ⟨k - pre.length - 1, by omega⟩
      rw [List.getElem?_append_right (by omega), show pre.length + (i + 1) - pre.length = i + 1 by omega] at ho
      obtain ⟨e, he, h3, h4⟩ := tail_next ht ho
      have := hpre e he h3
      rw [h4, hl] at this
      omega
  intro fuel
  induction fuel with
  | zero =>
    intro j listed a w hj hs hl h hc
    have hr : Region.ready .any (pre ++ tail).toArray listed = [] := by
      apply Classical.byContradiction
      intro hne
      obtain ⟨k, hk⟩ := List.exists_mem_of_ne_nil _ hne
      unfold Region.ready at hk
      rw [List.mem_filter] at hk
      simp only [List.size_toArray, Bool.and_eq_true] at hk
      have : 0 < (List.range (pre ++ tail).length).countP (fun i => !listed.getD i true) := List.countP_pos_iff.2 ⟨k, hk.1, hk.2.1⟩
      omega
    refine ⟨hr, ?_⟩
    rcases Nat.lt_or_ge j tail.length with hlt | hge
    · have := all_listed hb hs hr (pre.length + j) (pre.length + j) (Nat.le_refl _) (by rw [List.length_append]; omega)
      rw [hl] at this; omega
    · rw [List.drop_of_length_le hge] at h; exact h
  | succ fuel ih =>
    intro j listed a w hj hs hl h hc
    refine ⟨fun hr => ?_, fun k hk => ?_⟩
    · rcases Nat.lt_or_ge j tail.length with hlt | hge
      · have := all_listed hb hs hr (pre.length + j) (pre.length + j) (Nat.le_refl _) (by rw [List.length_append]; omega)
        rw [hl] at this; omega
      · rw [List.drop_of_length_le hge] at h; exact h
    · obtain ⟨rfl, hlt⟩ := hready j listed hs hl k hk
      rw [List.drop_eq_getElem_cons hlt] at h
      have ho : (pre ++ tail)[pre.length + j]? = some tail[j] := by
        rw [List.getElem?_append_right (by omega), show pre.length + j - pre.length = j by omega]
        exact List.getElem?_eq_getElem hlt
      unfold wpOp
      rw [List.getElem?_toArray, ho]
      unfold wpList at h
      have hun : listed.getD (pre.length + j) false = false := by
        cases e : listed.getD (pre.length + j) false
        · rfl
        · rw [hl] at e; omega
      have step : ∀ a' w', wpList P (pre ++ tail).toArray Q (tail.drop (j + 1)) a' w' → wpAny P .any (pre ++ tail).toArray Q fuel (listed.setIfInBounds (pre.length + j) true) a' w' := by
        intro a' w' h'
        refine ih (j + 1) _ a' w' hlt (by rw [Array.size_setIfInBounds, hs]) (fun k => ?_) h' ?_
        · rw [getD_set]
          have := hl k
          split
          · rename_i hh; simp; omega
          · rename_i hh
            rw [this]
            have hsz : pre.length + j < listed.size := by rw [hs, List.length_append]; omega
            omega
        · have := countP_drop (pre ++ tail).length listed (pre.length + j) hs (by rw [List.length_append]; omega) hun
          omega
      simp only
      split
      · rename_i hw
        rw [if_pos hw] at h
        rcases h with h | h
        · exact .inl (Oper.wp_mono step h)
        · exact .inr h
      · rename_i hw
        rw [if_neg hw] at h
        exact step _ _ h

/-- As StepQ; and the operations of F each make a new block, to which they leave a pointer. -/
def StepF (F : List Nat) (V : List (Value → World → Prop)) (i : Nat) (o : Oper) (A : Act) (w : World) : Exit → Act → World → Prop
  | .normal, a', w' => ∃ v, a' = A.put o.dst v ∧ nth V i (o.dst.elim undef fun _ => v) w' ∧ Ext w w' ∧ (F.elem i = true → v = .pointer (some ⟨w.heap.size, 0, none⟩) ∧ w.heap.size < w'.heap.size)
  | _, _, _ => False
def StepsF (F : List Nat) (P : Program) (ops : Array Oper) (V : List (Value → World → Prop)) (w0 : World) (u : Nat → Value) (A : Act) : List Oper → Nat → Prop
  | [], _ => True
  | o :: l, i => (∀ w, Ext w0 w → Preds V u w o.after.toList → wpList P ops (StepF F V i o A w) [o] A w) ∧ StepsF F P ops V w0 u A l (i + 1)
theorem stepsF_at {F : List Nat} {P : Program} {ops : Array Oper} {V : List (Value → World → Prop)} {w0 : World} {u : Nat → Value} {A : Act} : ∀ (l : List Oper) (i k : Nat) (o : Oper), StepsF F P ops V w0 u A l i → l[k]? = some o →
    ∀ w, Ext w0 w → Preds V u w o.after.toList → wpList P ops (StepF F V (i + k) o A w) [o] A w
  | [], _, _, _, _, h => by simp at h
  | x :: l, i, 0, o, hs, h => by
    obtain rfl : x = o := by simpa using h
    exact hs.1
  | x :: l, i, k + 1, o, hs, h => by
    have := stepsF_at l (i + 1) k o hs.2 (by simpa using h)
    rw [show i + 1 + k = i + (k + 1) by omega] at this
    exact this
theorem uOf_put {pre : List Oper} {a : Act} {k k2 : Nat} {v : Value} (hn : (dsts pre).Nodup) (hk : k < pre.length) (hk2 : k2 < pre.length) (hne : k2 ≠ k) : uOf pre (a.put (pre[k]).dst v) k2 = uOf pre a k2 := by
  unfold uOf
  rw [List.getElem?_eq_getElem hk2]
  simp only [Option.bind_some]
  cases hd : (pre[k2]).dst with
  | none => rfl
  | some d =>
    simp only [Option.elim_some]
    have hne2 : (pre[k]).dst ≠ some d := fun e => hne (nodup_dst hn hk2 hk hd e)
    rw [Array.getD_eq_getD_getElem?, put_at _ _ _ _ hne2, ← Array.getD_eq_getD_getElem?]
theorem uOf_same {pre : List Oper} {a : Act} {k : Nat} {v : Value} (hk : k < pre.length) {d : Tmp} (hd : (pre[k]).dst = some d) (hs : d < a.tmps.size) : uOf pre (a.put (pre[k]).dst v) k = v := by
  unfold uOf
  rw [List.getElem?_eq_getElem hk]
  simp only [Option.bind_some, hd, Option.elim_some]
  rw [Array.getD_eq_getD_getElem?, put_same _ _ _ hs]; rfl

structure MidT (F : List Nat) (pre tail : List Oper) (V : List (Value → World → Prop)) (a0 : Act) (w0 : World) (listed : Array Bool) (a : Act) (w : World) : Prop where
  ext : Ext w0 w
  defers : a.defers = a0.defers
  size : a.tmps.size = a0.tmps.size
  lsize : listed.size = (pre ++ tail).length
  out : ∀ t, t ∉ dsts pre → a.tmps[t]? = a0.tmps[t]?
  done : ∀ k (o : Oper), pre[k]? = some o → listed.getD k false = true → nth V k (o.dst.elim undef fun d => a.tmps.getD d undef) w
  unl : ∀ k, pre.length ≤ k → listed.getD k false = false
  cl : ∀ k (x : Oper), pre[k]? = some x → listed.getD k false = true → ∀ e ∈ x.after, Region.binds .any e = true → listed.getD e.on false = true
  fr : ∀ i, F.elem i = true → i < pre.length → listed.getD i false = true → ∃ b, uOf pre a i = .pointer (some ⟨b, 0, none⟩) ∧ b < w.heap.size
  ds : ∀ i j, F.elem i = true → F.elem j = true → i < pre.length → j < pre.length → i ≠ j → listed.getD i false = true → listed.getD j false = true → uOf pre a i ≠ uOf pre a j

theorem midT_any {F : List Nat} {P : Program} {pre tail : List Oper} {Q : Exit → Act → World → Prop} {V : List (Value → World → Prop)} {a0 : Act} {w0 : World}
    (hg : goodT pre tail a0.tmps.size = true) (hF : ∀ (i : Nat) (o : Oper), F.elem i = true → pre[i]? = some o → o.dst.isSome = true) (hV : ∀ k, Stable (nth V k))
    (step : ∀ u A, A = putFrom a0 pre 0 u → StepsF F P (pre ++ tail).toArray V w0 u A pre 0)
    (fin : ∀ u A w, A = putFrom a0 pre 0 u → Ext w0 w → (∀ k, k < pre.length → nth V k (u k) w) → (∀ i j, F.elem i = true → F.elem j = true → i < pre.length → j < pre.length → i ≠ j → u i ≠ u j) → wpList P (pre ++ tail).toArray Q tail A w) :
    ∀ (fuel : Nat) (listed : Array Bool) (a : Act) (w : World), MidT F pre tail V a0 w0 listed a w → (List.range (pre ++ tail).length).countP (fun i => !listed.getD i true) ≤ fuel → wpAny P .any (pre ++ tail).toArray Q fuel listed a w := by
  unfold goodT at hg
  simp only [Bool.and_eq_true, decide_eq_true_eq, List.all_eq_true] at hg
  obtain ⟨⟨⟨hn, hsz⟩, hb⟩, ht⟩ := hg
  have head_done : ∀ listed a w, MidT F pre tail V a0 w0 listed a w → (∀ k, k < pre.length → listed.getD k false = true) → wpList P (pre ++ tail).toArray Q tail a w := by
    intro listed a w hm hall
    refine fin (uOf pre a) a w (putFrom_eq pre a0 a hn hm.defers hm.size hm.out) hm.ext (fun k hk => ?_) (fun i j h1 h2 h3 h4 h5 => hm.ds i j h1 h2 h3 h4 h5 (hall i h3) (hall j h4))
    have ho : pre[k]? = some pre[k] := List.getElem?_eq_getElem hk
    have := hm.done k _ ho (hall k hk)
    simpa [uOf, ho] using this
  have to_tail : ∀ fuel listed a w, MidT F pre tail V a0 w0 listed a w → (∀ k, k < pre.length → listed.getD k false = true) → (List.range (pre ++ tail).length).countP (fun i => !listed.getD i true) ≤ fuel → wpAny P .any (pre ++ tail).toArray Q fuel listed a w := by
    intro fuel listed a w hm hall hc
    refine tail_any ht hb fuel 0 listed a w (Nat.zero_le _) hm.lsize (fun k => ⟨fun h => ?_, fun h => hall k (by omega)⟩) (by rw [List.drop_zero]; exact head_done listed a w hm hall) hc
    rcases Nat.lt_or_ge k pre.length with h2 | h2
    · omega
    · rw [hm.unl k h2] at h; cases h
  intro fuel
  induction fuel with
  | zero =>
    intro listed a w hm hc
    refine to_tail 0 listed a w hm (fun k hk => ?_) hc
    cases e : listed.getD k false
    · have hkk : k < pre.length + tail.length := by omega
      have h1 : listed.getD k true = listed.getD k false := by simp [Array.getD, hm.lsize, hkk]
      have : 0 < (List.range (pre ++ tail).length).countP (fun i => !listed.getD i true) := List.countP_pos_iff.2 ⟨k, List.mem_range.2 (by rw [List.length_append]; omega), by simp [h1, e]⟩
      omega
    · rfl
  | succ fuel ih =>
    intro listed a w hm hc
    by_cases hall : ∀ k, k < pre.length → listed.getD k false = true
    · exact to_tail (fuel + 1) listed a w hm hall hc
    refine ⟨fun hr => absurd (fun k hk => all_listed hb hm.lsize hr k k (Nat.le_refl _) (by rw [List.length_append]; omega)) hall, fun k hk => ?_⟩
    have hlt0 : k < (pre ++ tail).length := by
      unfold Region.ready at hk
      rw [List.mem_filter] at hk
      simpa using hk.1
    have ho0 : (pre ++ tail)[k]? = some (pre ++ tail)[k] := List.getElem?_eq_getElem hlt0
    obtain ⟨hun, hpre⟩ := (ready_mem hm.lsize ho0).1 hk
    have hlt : k < pre.length := by
      rcases Nat.lt_or_ge k pre.length with h | h
      · exact h
      · exfalso
        rw [List.getElem?_append_right h] at ho0
        rcases Nat.eq_zero_or_pos (k - pre.length) with h0 | h0
        · rw [h0] at ho0
          exact hall fun j hj => tail_first ht hb ho0 hpre hm.cl (pre.length - j) j (Nat.le_refl _) hj
        · obtain ⟨i, hi⟩ : ∃ i, k - pre.length = i + 1 := ⟨k - pre.length - 1, by omega⟩
          rw [hi] at ho0
          obtain ⟨e, he, h1, h2⟩ := tail_next ht ho0
          have := hpre e he h1
          rw [h2, hm.unl _ (by omega)] at this
          cases this
    have hek : (pre ++ tail)[k] = pre[k] := List.getElem_append_left hlt
    rw [hek] at ho0 hpre
    have ho : pre[k]? = some pre[k] := List.getElem?_eq_getElem hlt
    have hst := stepsF_at pre 0 k _ (step (uOf pre a) a (putFrom_eq pre a0 a hn hm.defers hm.size hm.out)) ho w hm.ext
      (preds_of _ fun e he hbb => by
        have he' : e ∈ (pre[k]).after := Array.mem_toList_iff.1 he
        have hb2 := back_at hb ho0 e he' hbb
        have hl2 := hpre e he' hbb
        have hlt2 : e.on < pre.length := by omega
        have ho2 : pre[e.on]? = some pre[e.on] := List.getElem?_eq_getElem hlt2
        have := hm.done e.on _ ho2 hl2
        simpa [uOf, ho2] using this)
    rw [Nat.zero_add] at hst
    unfold wpOp
    rw [List.getElem?_toArray, ho0]
    have key := upon_skip_or (P := P) (ops := (pre ++ tail).toArray) (K := Q) (K' := wpAny P .any (pre ++ tail).toArray Q fuel (listed.setIfInBounds k true)) (by rintro ⟨_, _, h⟩; exact h) hst ?_ (fun _ _ _ h => h)
    · simp only
      split
      · rename_i hw; rw [if_pos hw] at key; exact .inl key
      · rename_i hw; rw [if_neg hw] at key; exact key
    · rintro a' w' ⟨v, rfl, hv, hx, hf⟩
      refine ih _ _ _ ⟨Ext.trans hm.ext hx, by rw [put_defers, hm.defers], by rw [put_size, hm.size], by rw [Array.size_setIfInBounds, hm.lsize], fun t ht => ?_, fun k2 o2 h2 hl2 => ?_, fun k2 h2 => ?_, fun k2 x h2 h3 e he hbb => ?_, fun i h1 h2 h3 => ?_, fun i j h1 h2 h3 h4 h5 h6 h7 => ?_⟩ ?_
      · have : (pre[k]).dst ≠ some t := fun e => ht (by
          unfold dsts
          exact List.mem_filterMap.2 ⟨pre[k], List.getElem_mem hlt, e⟩)
        rw [put_at _ _ _ _ this]
        exact hm.out t ht
      · rw [getD_set] at hl2
        by_cases hkk : k = k2
        · subst hkk
          obtain rfl : pre[k] = o2 := by rw [ho] at h2; injection h2
          cases hd : (pre[k]).dst with
          | none => rw [hd] at hv; exact hv
          | some d =>
            rw [hd] at hv
            have hdl : d < a.tmps.size := by
              rw [hm.size]
              exact hsz d (by unfold dsts; exact List.mem_filterMap.2 ⟨pre[k], List.getElem_mem hlt, hd⟩)
            have : (a.put (some d) v).tmps.getD d undef = v := by
              rw [Array.getD_eq_getD_getElem?, put_same _ _ _ hdl]; rfl
            simp only [Option.elim_some]
            rw [this]
            exact hv
        · rw [if_neg (fun h => hkk h.1)] at hl2
          have h3 := hV k2 _ _ _ (hm.done k2 o2 h2 hl2) hx
          cases hd : o2.dst with
          | none => rw [hd] at h3; exact h3
          | some d =>
            rw [hd] at h3
            simp only [Option.elim_some] at h3 ⊢
            have hne : (pre[k]).dst ≠ some d := by
              intro e
              have hk2 : k2 < pre.length := (List.getElem?_eq_some_iff.1 h2).1
              have e2 : pre[k2] = o2 := by rw [List.getElem?_eq_getElem hk2] at h2; injection h2
              exact hkk (nodup_dst hn hlt hk2 e (by rw [e2, hd]))
            have : (a.put (pre[k]).dst v).tmps.getD d undef = a.tmps.getD d undef := by
              rw [Array.getD_eq_getD_getElem?, put_at _ _ _ _ hne, ← Array.getD_eq_getD_getElem?]
            rw [this]
            exact h3
      · rw [getD_set, if_neg (by omega)]
        exact hm.unl k2 h2
      · rw [getD_set]
        split
        · rfl
        · rw [getD_set] at h3
          by_cases hkk : k = k2
          · subst hkk
            obtain rfl : pre[k] = x := by rw [ho] at h2; injection h2
            exact hpre e he hbb
          · rw [if_neg (fun h => hkk h.1)] at h3
            exact hm.cl k2 x h2 h3 e he hbb
      · by_cases hik : i = k
        · subst hik
          obtain ⟨d, hd⟩ := Option.isSome_iff_exists.1 (hF i _ h1 ho)
          rw [uOf_same hlt hd (by rw [hm.size]; exact hsz d (by unfold dsts; exact List.mem_filterMap.2 ⟨pre[i], List.getElem_mem hlt, hd⟩))]
          obtain ⟨rfl, h8⟩ := hf h1
          exact ⟨_, rfl, h8⟩
        · rw [uOf_put hn hlt h2 hik]
          rw [getD_set, if_neg (fun e => hik e.1.symm)] at h3
          obtain ⟨b, hb1, hb2⟩ := hm.fr i h1 h2 h3
          exact ⟨b, hb1, Nat.lt_of_lt_of_le hb2 hx.size⟩
      · by_cases hik : i = k
        · subst hik
          have hjk : j ≠ i := fun e => h5 e.symm
          obtain ⟨d, hd⟩ := Option.isSome_iff_exists.1 (hF i _ h1 ho)
          rw [uOf_same hlt hd (by rw [hm.size]; exact hsz d (by unfold dsts; exact List.mem_filterMap.2 ⟨pre[i], List.getElem_mem hlt, hd⟩)), uOf_put hn hlt h4 hjk]
          rw [getD_set, if_neg (fun e => hjk e.1.symm)] at h7
          obtain ⟨b, hb1, hb2⟩ := hm.fr j h2 h4 h7
          obtain ⟨rfl, -⟩ := hf h1
          rw [hb1]
          intro e
          injection e with e; injection e with e; injection e with e; omega
        · rw [getD_set, if_neg (fun e => hik e.1.symm)] at h6
          by_cases hjk : j = k
          · subst hjk
            obtain ⟨d, hd⟩ := Option.isSome_iff_exists.1 (hF j _ h2 ho)
            rw [uOf_same hlt hd (by rw [hm.size]; exact hsz d (by unfold dsts; exact List.mem_filterMap.2 ⟨pre[j], List.getElem_mem hlt, hd⟩)), uOf_put hn hlt h3 hik]
            obtain ⟨b, hb1, hb2⟩ := hm.fr i h1 h3 h6
            obtain ⟨rfl, -⟩ := hf h2
            rw [hb1]
            intro e
            injection e with e; injection e with e; injection e with e; omega
          · rw [getD_set, if_neg (fun e => hjk e.1.symm)] at h7
            rw [uOf_put hn hlt h3 hik, uOf_put hn hlt h4 hjk]
            exact hm.ds i j h1 h2 h3 h4 h5 h6 h7
      · have := countP_drop (pre ++ tail).length listed k hm.lsize hlt0 hun
        omega

theorem wp_region_tail {P : Program} {id : Nat} {l pre tail : List Oper} {Q : Exit → Act → World → Prop} {V : List (Value → World → Prop)} {a0 : Act} {w0 : World} (m : Nat) (F : List Nat)
    (hm : P.follows .mixedOrders = true) (hl : l.take m = pre) (hl2 : l.drop m = tail) (hg : goodT pre tail a0.tmps.size = true) (hF : (F.all fun i => ((pre[i]?).map fun o => o.dst.isSome).getD true) = true) (hV : ∀ k, Stable (nth V k))
    (step : ∀ u A, A = putFrom a0 pre 0 u → StepsF F P l.toArray V w0 u A pre 0)
    (fin : ∀ u A w, A = putFrom a0 pre 0 u → Ext w0 w → (∀ k, k < pre.length → nth V k (u k) w) → (∀ i j, F.elem i = true → F.elem j = true → i < pre.length → j < pre.length → i ≠ j → u i ≠ u j) → wpList P l.toArray Q tail A w) : (Code.region id l.toArray true).wp P Q a0 w0 := by
  have e : l = pre ++ tail := by rw [← hl, ← hl2, List.take_append_drop]
  subst e
  clear hl hl2
  refine wp_region_any hm ?_
  have hF' : ∀ (i : Nat) (o : Oper), F.elem i = true → pre[i]? = some o → o.dst.isSome = true := by
    intro i o h1 h2
    rw [List.all_eq_true] at hF
    have := hF i (List.mem_of_elem_eq_true h1)
    rw [h2] at this
    simpa using this
  have := midT_any (Q := Q) hg hF' hV step fin (pre ++ tail).length (Array.replicate (pre ++ tail).length false) a0 { w0 with drawn := w0.drawn + 1 }
    ⟨(Below.refl _ w0).drew, rfl, rfl, by simp, fun _ _ => rfl, fun k o hk h => by
      have hlt : k < pre.length := (List.getElem?_eq_some_iff.1 hk).1
      have h2 : k < pre.length + tail.length := by omega
      simp [Array.getD, h2] at h, fun k hk => by simp [Array.getD], fun k x hk h => by
      have hlt : k < pre.length := (List.getElem?_eq_some_iff.1 hk).1
      have h2 : k < pre.length + tail.length := by omega
      simp [Array.getD, h2] at h, fun i h1 h2 h3 => by
      have h4 : i < pre.length + tail.length := by omega
      simp [Array.getD, h4] at h3, fun i j h1 h2 h3 h4 h5 h6 h7 => by
      have h8 : i < pre.length + tail.length := by omega
      simp [Array.getD, h8] at h6⟩ (Nat.le_trans (List.countP_le_length) (by simp))
  simpa using this
end Go.Base
