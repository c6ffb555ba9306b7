/- A region that draws its order, by what each of its operations leaves: one walk an operation, whatever the order. -/
import Derived.Test.YtpdncdnjkjpigaaGreatDoorBase
import Derived.Orders
namespace Go.Base
open Go.RowKit

/-- What operation number i leaves in its temporary. -/
def nth : List (Value → World → Prop) → Nat → Value → World → Prop
  | [], _ => fun _ _ => True
  | p :: _, 0 => p
  | _ :: l, n + 1 => nth l n
def upd (u : Nat → Value) (i : Nat) (v : Value) : Nat → Value := fun j => if j = i then v else u j
/-- The frame with the region's temporaries. -/
def putFrom (a : Act) : List Oper → Nat → (Nat → Value) → Act
  | [], _, _ => a
  | o :: l, i, u => putFrom (a.put o.dst (u i)) l (i + 1) u
/-- Only the edges that bind whatever order is drawn. -/
def pick (g : Ground) (p q : Prop) : Prop := match g with | .textOnly _ => q | .gcOnly _ => q | _ => p
theorem pick_of {e : Edge} {p q : Prop} (hp : Region.binds .any e = true → p) (hq : q) (h : p → q → p) : pick e.ground p q := by
  unfold pick
  split
  · exact hq
  · exact hq
  · rename_i h1 h2
    refine hp ?_
    unfold Region.binds
    split
    · rename_i x hx; exact absurd hx (h1 x)
    · rename_i x hx; exact absurd hx (h2 x)
    · rfl
/-- What is known of the operations that come ahead of one. -/
def Preds (V : List (Value → World → Prop)) (u : Nat → Value) (w : World) : List Edge → Prop
  | [] => True
  | e :: l => pick e.ground (nth V e.on (u e.on) w ∧ Preds V u w l) (Preds V u w l)
def StepQ (V : List (Value → World → Prop)) (i : Nat) (o : Oper) (A : Act) (w : World) : Exit → Act → World → Prop
  | .normal, a', w' => ∃ v, a' = A.put o.dst v ∧ nth V i (o.dst.elim undef fun _ => v) w' ∧ Ext w w'
  | _, _, _ => False
def Steps (P : Program) (ops : Array Oper) (V : List (Value → World → Prop)) (w0 : World) (u : Nat → Value) (A : Act) : List Oper → Nat → Prop
  | [], _ => True
  | o :: l, i => (∀ w, Ext w0 w → Preds V u w o.after.toList → wpList P ops (StepQ V i o A w) [o] A w) ∧ Steps P ops V w0 u A l (i + 1)
def All (V : List (Value → World → Prop)) (u : Nat → Value) (w : World) : List (Value → World → Prop) → Nat → Prop
  | [], _ => True
  | p :: l, i => p (u i) w ∧ All V u w l (i + 1)
def Stable (p : Value → World → Prop) : Prop := ∀ v w w', p v w → Ext w w' → p v w'
theorem Stable.eq (x : Value) : Stable (fun v _ => v = x) := fun _ _ _ h _ => h
theorem Stable.true_ : Stable (fun _ _ => True) := fun _ _ _ _ _ => trivial

def StableL : List (Value → World → Prop) → Prop
  | [] => True
  | p :: l => Stable p ∧ StableL l
theorem stable_nth : ∀ {V : List (Value → World → Prop)}, StableL V → ∀ k, Stable (nth V k)
  | [], _, _ => Stable.true_
  | _ :: _, h, 0 => h.1
  | _ :: _, h, k + 1 => stable_nth h.2 k

def dsts (l : List Oper) : List Tmp := l.filterMap (·.dst)
/-- The edges look back, and no temporary is written twice. -/
def backB (l : List Oper) : Bool := (List.range l.length).all fun i => ((l[i]?).map fun o => o.after.toList.all fun e => !Region.binds .any e || decide (e.on < i)).getD true
def goodB (l : List Oper) (size : Nat) : Bool := decide ((dsts l).Nodup) && ((dsts l).all fun d => decide (d < size)) && backB l

theorem put_size (a : Act) (d : Option Tmp) (v : Value) : (a.put d v).tmps.size = a.tmps.size := by cases d <;> simp [Act.put]
theorem put_defers (a : Act) (d : Option Tmp) (v : Value) : (a.put d v).defers = a.defers := by cases d <;> rfl
theorem put_at (a : Act) (d : Option Tmp) (v : Value) (t : Tmp) (h : d ≠ some t) : (a.put d v).tmps[t]? = a.tmps[t]? := by
  cases d with
  | none => rfl
  | some d =>
    simp only [Act.put]
    rw [Array.getElem?_setIfInBounds_ne]
    intro e; subst e; exact h rfl
theorem put_same (a : Act) (d : Tmp) (v : Value) (h : d < a.tmps.size) : (a.put (some d) v).tmps[d]? = some v := by
  simp [Act.put, h]
theorem putFrom_size : ∀ (l : List Oper) (a : Act) (i : Nat) (u : Nat → Value), (putFrom a l i u).tmps.size = a.tmps.size
  | [], _, _, _ => rfl
  | o :: l, a, i, u => by rw [putFrom, putFrom_size l, put_size]
theorem putFrom_defers : ∀ (l : List Oper) (a : Act) (i : Nat) (u : Nat → Value), (putFrom a l i u).defers = a.defers
  | [], _, _, _ => rfl
  | o :: l, a, i, u => by rw [putFrom, putFrom_defers l, put_defers]
theorem putFrom_out : ∀ (l : List Oper) (a : Act) (i : Nat) (u : Nat → Value) (t : Tmp), t ∉ dsts l → (putFrom a l i u).tmps[t]? = a.tmps[t]?
  | [], _, _, _, _, _ => rfl
  | o :: l, a, i, u, t, h => by
    have h1 : o.dst ≠ some t := fun e => h (by simp [dsts, e])
    have h2 : t ∉ dsts l := fun e => h (by
      unfold dsts at *
      rw [List.filterMap_cons]
      split
      · exact e
      · exact List.mem_cons_of_mem _ e)
    rw [putFrom, putFrom_out l _ _ _ _ h2, put_at _ _ _ _ h1]
theorem putFrom_in : ∀ (l : List Oper) (a : Act) (i : Nat) (u : Nat → Value) (k : Nat) (o : Oper) (t : Tmp), (dsts l).Nodup → l[k]? = some o → o.dst = some t → t < a.tmps.size → (putFrom a l i u).tmps[t]? = some (u (i + k))
  | [], _, _, _, _, _, _, _, h, _, _ => by simp at h
  | x :: l, a, i, u, 0, o, t, hn, h, hd, ht => by
    obtain rfl : x = o := by simpa using h
    have h2 : t ∉ dsts l := by
      unfold dsts at *
      rw [List.filterMap_cons, hd] at hn
      exact (List.nodup_cons.1 hn).1
    rw [putFrom, putFrom_out l _ _ _ _ h2, hd, put_same _ _ _ ht]
    rfl
  | x :: l, a, i, u, k + 1, o, t, hn, h, hd, ht => by
    have hn2 : (dsts l).Nodup := by
      unfold dsts at *
      rw [List.filterMap_cons] at hn
      split at hn
      · exact hn
      · exact (List.nodup_cons.1 hn).2
    rw [putFrom, putFrom_in l _ _ _ k o t hn2 (by simpa using h) hd (by rw [put_size]; exact ht)]
    congr 2
    omega
theorem mem_dsts {l : List Oper} {t : Tmp} (h : t ∈ dsts l) : ∃ (k : Nat) (o : Oper), l[k]? = some o ∧ o.dst = some t := by
  unfold dsts at h
  obtain ⟨o, ho, hd⟩ := List.mem_filterMap.1 h
  obtain ⟨k, hk⟩ := List.getElem?_of_mem ho
  exact ⟨k, o, hk, hd⟩
theorem act_ext {a b : Act} (hd : a.defers = b.defers) (hs : a.tmps.size = b.tmps.size) (h : ∀ t, t < a.tmps.size → a.tmps[t]? = b.tmps[t]?) : a = b := by
  cases a; cases b
  simp only at hd hs h
  subst hd
  congr 1
  apply Array.ext hs
  intro i h1 h2
  have := h i h1
  rw [Array.getElem?_eq_getElem h1, Array.getElem?_eq_getElem h2] at this
  injection this
/-- Any frame that differs in the region's temporaries alone. -/
theorem putFrom_eq (l : List Oper) (a0 a : Act) (hn : (dsts l).Nodup) (hd : a.defers = a0.defers) (hs : a.tmps.size = a0.tmps.size)
    (hout : ∀ t, t ∉ dsts l → a.tmps[t]? = a0.tmps[t]?) : a = putFrom a0 l 0 (fun i => ((l[i]?).bind (·.dst)).elim undef fun d => a.tmps.getD d undef) := by
  refine act_ext (by rw [hd, putFrom_defers]) (by rw [hs, putFrom_size]) fun t ht => ?_
  by_cases h : t ∈ dsts l
  · obtain ⟨k, o, hk, ho⟩ := mem_dsts h
    rw [putFrom_in l a0 0 _ k o t hn hk ho (by rw [← hs]; exact ht)]
    simp only [Nat.zero_add, hk, Option.bind_some, ho, Option.elim_some]
    simp [ht]
  · rw [putFrom_out l a0 0 _ t h]; exact hout t h
theorem steps_at {P : Program} {ops : Array Oper} {V : List (Value → World → Prop)} {w0 : World} {u : Nat → Value} {A : Act} : ∀ (l : List Oper) (i k : Nat) (o : Oper), Steps P ops V w0 u A l i → l[k]? = some o →
    ∀ w, Ext w0 w → Preds V u w o.after.toList → wpList P ops (StepQ V (i + k) o A w) [o] A w
  | [], _, _, _, _, h => by simp at h
  | x :: l, i, 0, o, hs, h => by
    obtain rfl : x = o := by simpa using h
    exact hs.1
  | x :: l, i, k + 1, o, hs, h => by
    have := steps_at l (i + 1) k o hs.2 (by simpa using h)
    rw [show i + 1 + k = i + (k + 1) by omega] at this
    exact this
theorem all_of {V : List (Value → World → Prop)} {u : Nat → Value} {w : World} : ∀ (l : List (Value → World → Prop)) (i : Nat), (∀ k, k < l.length → nth l k (u (i + k)) w) → All V u w l i
  | [], _, _ => trivial
  | p :: l, i, h => ⟨h 0 (by simp), all_of l (i + 1) fun k hk => by
      have := h (k + 1) (by simpa using hk)
      rw [show i + 1 + k = i + (k + 1) by omega]
      exact this⟩
theorem preds_of {V : List (Value → World → Prop)} {u : Nat → Value} {w : World} : ∀ (l : List Edge), (∀ e ∈ l, Region.binds .any e = true → nth V e.on (u e.on) w) → Preds V u w l
  | [], _ => trivial
  | e :: l, h => pick_of (fun hb => ⟨h e (by simp) hb, preds_of l fun x hx => h x (by simp [hx])⟩) (preds_of l fun x hx => h x (by simp [hx])) (fun p _ => p)

theorem nodup_dst : ∀ {l : List Oper}, (dsts l).Nodup → ∀ {i j : Nat} {d : Tmp} (hi : i < l.length) (hj : j < l.length), (l[i]).dst = some d → (l[j]).dst = some d → i = j
  | [], _, i, j, d, hi, _, _, _ => by simp at hi
  | x :: l, hn, i, j, d, hi, hj, h1, h2 => by
    have hn2 : (dsts l).Nodup := by
      unfold dsts at *
      rw [List.filterMap_cons] at hn
      split at hn
      · exact hn
      · exact (List.nodup_cons.1 hn).2
    have hx : x.dst = some d → d ∉ dsts l := by
      intro e
      unfold dsts at *
      rw [List.filterMap_cons, e] at hn
      exact (List.nodup_cons.1 hn).1
    have hm : ∀ k (hk : k < l.length), (l[k]).dst = some d → d ∈ dsts l := fun k hk e => by
      unfold dsts
      exact List.mem_filterMap.2 ⟨l[k], List.getElem_mem hk, e⟩
    rcases i with _ | i <;> rcases j with _ | j
    · rfl
    · exact absurd (hm j (by simpa using hj) (by simpa using h2)) (hx (by simpa using h1))
    · exact absurd (hm i (by simpa using hi) (by simpa using h1)) (hx (by simpa using h2))
    · have := nodup_dst hn2 (i := i) (j := j) (d := d) (by simpa using hi) (by simpa using hj) (by simpa using h1) (by simpa using h2)
      omega

/-- The state in the midst of the region: what has been listed is as V says. -/
structure Mid (l : List Oper) (V : List (Value → World → Prop)) (a0 : Act) (w0 : World) (listed : Array Bool) (a : Act) (w : World) : Prop where
  ext : Ext w0 w
  defers : a.defers = a0.defers
  size : a.tmps.size = a0.tmps.size
  lsize : listed.size = l.length
  out : ∀ t, t ∉ dsts l → a.tmps[t]? = a0.tmps[t]?
  done : ∀ k (o : Oper), l[k]? = some o → listed.getD k false = true → nth V k (o.dst.elim undef fun d => a.tmps.getD d undef) w

def uOf (l : List Oper) (a : Act) : Nat → Value := fun i => ((l[i]?).bind (·.dst)).elim undef fun d => a.tmps.getD d undef

theorem upon_skip_or {P : Program} {ops : Array Oper} {Q K : Exit → Act → World → Prop} {o : Oper} {a : Act} {w : World} {K' : Act → World → Prop}
    (hout : ¬ LetsOut Q) (h : wpList P ops Q [o] a w) (hn : ∀ a' w', Q .normal a' w' → K' a' w') (hp : ∀ c a' w', ¬ Q (.panic c) a' w') :
    if Region.wanted o (yielded ops a.tmps) then o.wp P a w K' K else K' (a.put o.dst undef) w := by
  unfold wpList at h
  split at h
  · rename_i hw
    rw [if_pos hw]
    rcases h with h | ⟨_, h⟩
    · unfold Oper.wp at *
      generalize (execOp a.eval o).run P w = r at *
      cases r with
      | ok n w' =>
        cases n <;> simp only [Oper.upon] at h ⊢ <;>
          first
            | exact h.elim
            | exact hn _ _ h
            | exact Calls.mono h (fun e w'' he => by cases e <;> first | exact hn _ _ he | exact (hp _ _ _ he).elim | exact (hout he).elim)
            | exact Rows.mono h (fun _ _ he => hn _ _ he)
      | halt x w' => cases x <;> simp only [Oper.upon] at h ⊢ <;> first | exact h.elim | exact (hp _ _ _ h).elim
    · exact (hout h).elim
  · rename_i hw
    rw [if_neg hw]
    exact hn _ _ h

theorem countP_lt {p q : Nat → Bool} : ∀ (l : List Nat), (∀ x ∈ l, q x = true → p x = true) → (∃ x ∈ l, p x = true ∧ q x = false) → l.countP q < l.countP p
  | [], _, ⟨x, h, _⟩ => by cases h
  | y :: l, h, ⟨x, hx, hp, hq⟩ => by
    have hle : l.countP q ≤ l.countP p := List.countP_mono_left fun z hz => h z (by simp [hz])
    rw [List.countP_cons, List.countP_cons]
    rcases List.mem_cons.1 hx with rfl | hx
    · rw [hp, hq]; simp; omega
    · have := countP_lt l (fun z hz => h z (by simp [hz])) ⟨x, hx, hp, hq⟩
      have hy := h y (by simp)
      cases hqy : q y
      · simp; omega
      · rw [hy hqy]; simp; omega

theorem ready_mem {l : List Oper} {listed : Array Bool} {k : Nat} {o : Oper} (hs : listed.size = l.length) (hk : l[k]? = some o) :
    k ∈ Region.ready .any l.toArray listed ↔ listed.getD k false = false ∧ ∀ e ∈ o.after, Region.binds .any e = true → listed.getD e.on false = true := by
  have hlt : k < l.length := (List.getElem?_eq_some_iff.1 hk).1
  unfold Region.ready
  rw [List.mem_filter, List.mem_range, List.getElem?_toArray, hk]
  simp only [List.size_toArray, hlt, true_and, Option.map_some, Option.getD_some, Bool.and_eq_true, Bool.not_eq_true']
  have h1 : listed.getD k true = listed.getD k false := by simp [Array.getD, hs, hlt]
  rw [h1, Array.all_eq_true']
  constructor
  · rintro ⟨a, b⟩
    refine ⟨a, fun e he hb => ?_⟩
    have := b e he
    rw [hb] at this
    simpa using this
  · rintro ⟨a, b⟩
    refine ⟨a, fun e he => ?_⟩
    cases hb : Region.binds .any e
    · simp
    · simp [b e he hb]
theorem back_at {l : List Oper} (h : backB l = true) {k : Nat} {o : Oper} (hk : l[k]? = some o) : ∀ e ∈ o.after, Region.binds .any e = true → e.on < k := by
  have hlt : k < l.length := (List.getElem?_eq_some_iff.1 hk).1
  unfold backB at h
  rw [List.all_eq_true] at h
  have := h k (List.mem_range.2 hlt)
  rw [hk] at this
  simp only [Option.map_some, Option.getD_some, List.all_eq_true, Bool.or_eq_true, Bool.not_eq_true', decide_eq_true_eq] at this
  intro e he hb
  rcases this e (Array.mem_toList_iff.2 he) with h2 | h2
  · rw [hb] at h2; cases h2
  · exact h2
theorem all_listed {l : List Oper} {listed : Array Bool} (hb : backB l = true) (hs : listed.size = l.length) (hr : Region.ready .any l.toArray listed = []) :
    ∀ n k, k ≤ n → k < l.length → listed.getD k false = true := by
  intro n
  induction n with
  | zero =>
    intro k hk hl
    obtain rfl : k = 0 := by omega
    cases h : listed.getD 0 false
    · have ho : l[0]? = some l[0] := List.getElem?_eq_getElem hl
      have := (ready_mem hs ho).2 ⟨h, fun e he hbb => absurd (back_at hb ho e he hbb) (by omega)⟩
      rw [hr] at this
      cases this
    · rfl
  | succ n ih =>
    intro k hk hl
    cases h : listed.getD k false
    · have ho : l[k]? = some l[k] := List.getElem?_eq_getElem hl
      have := (ready_mem hs ho).2 ⟨h, fun e he hbb => ih e.on (by have := back_at hb ho e he hbb; omega) (by have := back_at hb ho e he hbb; omega)⟩
      rw [hr] at this
      cases this
    · rfl
theorem getD_set (listed : Array Bool) (i k : Nat) (b : Bool) : (listed.setIfInBounds i true).getD k b = if i = k ∧ k < listed.size then true else listed.getD k b := by
  simp only [Array.getD_eq_getD_getElem?]
  rw [Array.getElem?_setIfInBounds]
  by_cases h : i = k
  · subst h
    by_cases h2 : i < listed.size
    · simp [h2]
    · simp [h2]
  · simp [h]

theorem mid_any {P : Program} {l : List Oper} {Q : Exit → Act → World → Prop} {V : List (Value → World → Prop)} {a0 : Act} {w0 : World}
    (hg : goodB l a0.tmps.size = true) (hV : ∀ k, Stable (nth V k)) (_hout : True)
    (step : ∀ u A, A = putFrom a0 l 0 u → Steps P l.toArray V w0 u A l 0)
    (fin : ∀ u A w, A = putFrom a0 l 0 u → Ext w0 w → (∀ k, k < l.length → nth V k (u k) w) → Q .normal A w) :
    ∀ (fuel : Nat) (listed : Array Bool) (a : Act) (w : World), Mid l V a0 w0 listed a w → (List.range l.length).countP (fun i => !listed.getD i true) ≤ fuel → wpAny P .any l.toArray Q fuel listed a w := by
  unfold goodB at hg
  simp only [Bool.and_eq_true, decide_eq_true_eq, List.all_eq_true] at hg
  obtain ⟨⟨hn, hsz⟩, hb⟩ := hg
  have done_fin : ∀ listed a w, Mid l V a0 w0 listed a w → Region.ready .any l.toArray listed = [] → Q .normal a w := by
    intro listed a w hm hr
    refine fin (uOf l a) a w (putFrom_eq l a0 a hn hm.defers hm.size hm.out) hm.ext fun k hk => ?_
    have ho : l[k]? = some l[k] := List.getElem?_eq_getElem hk
    have := hm.done k _ ho (all_listed hb hm.lsize hr k k (Nat.le_refl _) hk)
    simpa [uOf, ho] using this
  intro fuel
  induction fuel with
  | zero =>
    intro listed a w hm hc
    have hr : Region.ready .any l.toArray listed = [] := by
      apply Classical.byContradiction
      intro hne
      obtain ⟨k, hk⟩ := List.exists_mem_of_ne_nil _ hne
      unfold Region.ready at hk
      rw [List.mem_filter] at hk
      simp only [List.size_toArray, Bool.and_eq_true] at hk
      have : 0 < (List.range l.length).countP (fun i => !listed.getD i true) := List.countP_pos_iff.2 ⟨k, hk.1, hk.2.1⟩
      omega
    exact ⟨hr, done_fin listed a w hm hr⟩
  | succ fuel ih =>
    intro listed a w hm hc
    refine ⟨done_fin listed a w hm, fun k hk => ?_⟩
    have hlt : k < l.length := by
      unfold Region.ready at hk
      rw [List.mem_filter] at hk
      simpa using hk.1
    have ho : l[k]? = some l[k] := List.getElem?_eq_getElem hlt
    obtain ⟨hun, hpre⟩ := (ready_mem hm.lsize ho).1 hk
    have hst := steps_at l 0 k _ (step (uOf l a) a (putFrom_eq l a0 a hn hm.defers hm.size hm.out)) ho w hm.ext
      (preds_of _ fun e he hbb => by
        have he' : e ∈ (l[k]).after := Array.mem_toList_iff.1 he
        have hb2 := back_at hb ho e he' hbb
        have hl2 := hpre e he' hbb
        have hlt2 : e.on < l.length := by omega
        have ho2 : l[e.on]? = some l[e.on] := List.getElem?_eq_getElem hlt2
        have := hm.done e.on _ ho2 hl2
        simpa [uOf, ho2] using this)
    rw [Nat.zero_add] at hst
    unfold wpOp
    rw [List.getElem?_toArray, ho]
    have key := upon_skip_or (P := P) (ops := l.toArray) (K := Q) (K' := wpAny P .any l.toArray Q fuel (listed.setIfInBounds k true)) (by rintro ⟨_, _, h⟩; exact h) hst ?_ (fun _ _ _ h => h)
    · simp only
      split
      · rename_i hw; rw [if_pos hw] at key; exact .inl key
      · rename_i hw; rw [if_neg hw] at key; exact key
    · rintro a' w' ⟨v, rfl, hv, hx⟩
      refine ih _ _ _ ⟨Ext.trans hm.ext hx, by rw [put_defers, hm.defers], by rw [put_size, hm.size], by rw [Array.size_setIfInBounds, hm.lsize], fun t ht => ?_, fun k2 o2 h2 hl2 => ?_⟩ ?_
      · have : (l[k]).dst ≠ some t := fun e => ht (by
          unfold dsts
          exact List.mem_filterMap.2 ⟨l[k], List.getElem_mem hlt, e⟩)
        rw [put_at _ _ _ _ this]
        exact hm.out t ht
      · rw [getD_set] at hl2
        by_cases hkk : k = k2
        · subst hkk
          obtain rfl : l[k] = o2 := by rw [ho] at h2; injection h2
          cases hd : (l[k]).dst with
          | none => rw [hd] at hv; exact hv
          | some d =>
            rw [hd] at hv
            have hdl : d < a.tmps.size := by
              rw [hm.size]
              exact hsz d (by unfold dsts; exact List.mem_filterMap.2 ⟨l[k], List.getElem_mem hlt, hd⟩)
            have : (a.put (some d) v).tmps.getD d undef = v := by
              rw [Array.getD_eq_getD_getElem?, put_same _ _ _ hdl]; rfl
            simp only [Option.elim_some]
            rw [this]
            exact hv
        · rw [if_neg (fun h => hkk h.1)] at hl2
          have h3 := hV k2 _ _ _ (hm.done k2 o2 h2 hl2) hx
          cases hd : o2.dst with
          | none => rw [hd] at h3; exact h3
          | some d =>
            rw [hd] at h3
            simp only [Option.elim_some] at h3 ⊢
            have hne : (l[k]).dst ≠ some d := by
              intro e
              have hk2 : k2 < l.length := (List.getElem?_eq_some_iff.1 h2).1
              have e2 : l[k2] = o2 := by rw [List.getElem?_eq_getElem hk2] at h2; injection h2
              exact hkk (nodup_dst hn hlt hk2 e (by rw [e2, hd]))
            have : (a.put (l[k]).dst v).tmps.getD d undef = a.tmps.getD d undef := by
              rw [Array.getD_eq_getD_getElem?, put_at _ _ _ _ hne, ← Array.getD_eq_getD_getElem?]
            rw [this]
            exact h3
      · have := countP_lt (p := fun i => !listed.getD i true) (q := fun i => !(listed.setIfInBounds k true).getD i true) (List.range l.length) (fun x _ hx => by
            simp only [getD_set] at hx
            split at hx
            · simp at hx
            · exact hx) ⟨k, List.mem_range.2 hlt, by
              have h1 : listed.getD k true = listed.getD k false := by simp [Array.getD, hm.lsize, hlt]
              simp [h1, hun], by simp [hm.lsize, hlt]⟩
        omega

theorem wp_region_inv {P : Program} {id : Nat} {l : List Oper} {Q : Exit → Act → World → Prop} {V : List (Value → World → Prop)} {a0 : Act} {w0 : World}
    (hm : P.follows .mixedOrders = true) (hg : goodB l a0.tmps.size = true) (hV : ∀ k, Stable (nth V k))
    (step : ∀ u A, A = putFrom a0 l 0 u → Steps P l.toArray V w0 u A l 0)
    (fin : ∀ u A w, A = putFrom a0 l 0 u → Ext w0 w → (∀ k, k < l.length → nth V k (u k) w) → Q .normal A w) : (Code.region id l.toArray true).wp P Q a0 w0 := by
  have hg2 := hg
  unfold goodB at hg2
  simp only [Bool.and_eq_true, decide_eq_true_eq, List.all_eq_true] at hg2
  refine wp_region_any hm ?_
  have := mid_any (Q := Q) hg hV trivial step fin l.length (Array.replicate l.length false) a0 { w0 with drawn := w0.drawn + 1 }
    ⟨(Below.refl _ w0).drew, rfl, rfl, by simp, fun _ _ => rfl, fun k o hk h => by
      have hlt : k < l.length := (List.getElem?_eq_some_iff.1 hk).1
      simp [Array.getD, hlt] at h⟩ (Nat.le_trans (List.countP_le_length) (by simp))
  simpa using this
end Go.Base
