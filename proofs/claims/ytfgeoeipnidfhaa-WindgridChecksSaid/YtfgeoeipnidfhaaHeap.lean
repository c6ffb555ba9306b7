/- A region that draws its order, in whose midst new variables are made and filled: what each plain operation leaves, and a word on the new blocks. -/
import Derived.Test.YtfgeoeipnidfhaaTail
namespace Go.Base
open Go.RowKit

def StableB (B : Nat) (p : Value → World → Prop) : Prop := ∀ v w w', p v w → Below B w w' → p v w'
theorem StableB.eq (B : Nat) (x : Value) : StableB B (fun v _ => v = x) := fun _ _ _ h _ => h
theorem StableB.true_ (B : Nat) : StableB B (fun _ _ => True) := fun _ _ _ _ _ => trivial
def StableBL (B : Nat) : List (Value → World → Prop) → Prop
  | [] => True
  | p :: l => StableB B p ∧ StableBL B l
theorem stableB_nth {B : Nat} : ∀ {V : List (Value → World → Prop)}, StableBL B V → ∀ k, StableB B (nth V k)
  | [], _, _ => StableB.true_ B
  | _ :: _, h, 0 => h.1
  | _ :: _, h, k + 1 => stableB_nth h.2 k

def updM (M : Nat → Option Value) (i : Nat) (v : Value) : Nat → Option Value := fun j => if j = i then some v else M j
/-- What is known of the special operations ahead of one. -/
def PredsM (S : List Nat) (M : Nat → Option Value) (u : Nat → Value) : List Edge → Prop
  | [] => True
  | e :: l => pick e.ground ((S.elem e.on = true → M e.on = some (u e.on)) ∧ PredsM S M u l) (PredsM S M u l)
theorem predsM_of {S : List Nat} {M : Nat → Option Value} {u : Nat → Value} : ∀ (l : List Edge), (∀ e ∈ l, Region.binds .any e = true → S.elem e.on = true → M e.on = some (u e.on)) → PredsM S M u l
  | [], _ => trivial
  | e :: l, h => pick_of (fun hb => ⟨h e (by simp) hb, predsM_of l fun x hx => h x (by simp [hx])⟩) (predsM_of l fun x hx => h x (by simp [hx])) (fun p _ => p)

def StepH (B : Nat) (S : List Nat) (H : (Nat → Option Value) → World → Prop) (M : Nat → Option Value) (V : List (Value → World → Prop)) (i : Nat) (o : Oper) (A : Act) (w : World) : Exit → Act → World → Prop
  | .normal, a', w' => ∃ v, a' = A.put o.dst v ∧ nth V i (o.dst.elim undef fun _ => v) w' ∧ Below B w w' ∧ (S.elem i = false → Ext w w') ∧ (S.elem i = true → H (updM M i (o.dst.elim undef fun _ => v)) w')
  | _, _, _ => False
def StepsH (B : Nat) (S : List Nat) (H : (Nat → Option Value) → World → Prop) (P : Program) (ops : Array Oper) (V : List (Value → World → Prop)) (w0 : World) (u : Nat → Value) (A : Act) : List Oper → Nat → Prop
  | [], _ => True
  | o :: l, i => (∀ w M, Below B w0 w → H M w → M i = none → Preds V u w o.after.toList → PredsM S M u o.after.toList → wpList P ops (StepH B S H M V i o A w) [o] A w) ∧ StepsH B S H P ops V w0 u A l (i + 1)
theorem stepsH_at {B : Nat} {S : List Nat} {H : (Nat → Option Value) → World → Prop} {P : Program} {ops : Array Oper} {V : List (Value → World → Prop)} {w0 : World} {u : Nat → Value} {A : Act} : ∀ (l : List Oper) (i k : Nat) (o : Oper), StepsH B S H P ops V w0 u A l i → l[k]? = some o →
    ∀ w M, Below B w0 w → H M w → M (i + k) = none → Preds V u w o.after.toList → PredsM S M u o.after.toList → wpList P ops (StepH B S H M V (i + k) o A w) [o] A w
  | [], _, _, _, _, h => by simp at h
  | x :: l, i, 0, o, hs, h => by
    obtain rfl : x = o := by simpa using h
    exact hs.1
  | x :: l, i, k + 1, o, hs, h => by
    have := stepsH_at l (i + 1) k o hs.2 (by simpa using h)
    rw [show i + 1 + k = i + (k + 1) by omega] at this
    exact this

/-- The special operations that are done, with what they left. -/
def mOf (S : List Nat) (l : List Oper) (listed : Array Bool) (a : Act) : Nat → Option Value := fun i => if S.elem i = true ∧ listed.getD i false = true ∧ i < l.length then some (uOf l a i) else none

structure MidH (B : Nat) (S : List Nat) (H : (Nat → Option Value) → World → Prop) (l : List Oper) (V : List (Value → World → Prop)) (a0 : Act) (w0 : World) (listed : Array Bool) (a : Act) (w : World) : Prop where
  ext : Below B w0 w
  defers : a.defers = a0.defers
  size : a.tmps.size = a0.tmps.size
  lsize : listed.size = l.length
  out : ∀ t, t ∉ dsts l → a.tmps[t]? = a0.tmps[t]?
  done : ∀ k (o : Oper), l[k]? = some o → listed.getD k false = true → nth V k (o.dst.elim undef fun d => a.tmps.getD d undef) w
  heap : H (mOf S l listed a) w

theorem midH_any {P : Program} {l : List Oper} {Q : Exit → Act → World → Prop} {V : List (Value → World → Prop)} {a0 : Act} {w0 : World} {B : Nat} {S : List Nat} {H : (Nat → Option Value) → World → Prop}
    (hg : goodB l a0.tmps.size = true) (hV : ∀ k, StableB B (nth V k)) (hH : ∀ M w w', H M w → Ext w w' → H M w')
    (step : ∀ u A, A = putFrom a0 l 0 u → StepsH B S H P l.toArray V w0 u A l 0)
    (fin : ∀ u A w, A = putFrom a0 l 0 u → Below B w0 w → (∀ k, k < l.length → nth V k (u k) w) → H (fun i => if S.elem i = true ∧ i < l.length then some (u i) else none) w → Q .normal A w) :
    ∀ (fuel : Nat) (listed : Array Bool) (a : Act) (w : World), MidH B S H l V a0 w0 listed a w → (List.range l.length).countP (fun i => !listed.getD i true) ≤ fuel → wpAny P .any l.toArray Q fuel listed a w := by
  unfold goodB at hg
  simp only [Bool.and_eq_true, decide_eq_true_eq, List.all_eq_true] at hg
  obtain ⟨⟨hn, hsz⟩, hb⟩ := hg
  have done_fin : ∀ listed a w, MidH B S H l V a0 w0 listed a w → Region.ready .any l.toArray listed = [] → Q .normal a w := by
    intro listed a w hm hr
    have hall : ∀ k, k < l.length → listed.getD k false = true := fun k hk => all_listed hb hm.lsize hr k k (Nat.le_refl _) hk
    refine fin (uOf l a) a w (putFrom_eq l a0 a hn hm.defers hm.size hm.out) hm.ext (fun k hk => ?_) ?_
    · have ho : l[k]? = some l[k] := List.getElem?_eq_getElem hk
      have := hm.done k _ ho (hall k hk)
      simpa [uOf, ho] using this
    · have h := hm.heap
      have e : mOf S l listed a = fun i => if S.elem i = true ∧ i < l.length then some (uOf l a i) else none := by
        funext i
        unfold mOf
        by_cases hi : S.elem i = true ∧ i < l.length
        · rw [if_pos hi, if_pos ⟨hi.1, hall i hi.2, hi.2⟩]
        · rw [if_neg hi, if_neg (fun h => hi ⟨h.1, h.2.2⟩)]
      rw [e] at h
      exact h
  intro fuel
  induction fuel with
  | zero =>
    intro listed a w hm hc
    have hr : Region.ready .any l.toArray listed = [] := by
      apply Classical.byContradiction
      intro hne
      obtain ⟨k, hk⟩ := List.exists_mem_of_ne_nil _ hne
      unfold Region.ready at hk
      rw [List.mem_filter] at hk
      simp only [List.size_toArray, Bool.and_eq_true] at hk
      have : 0 < (List.range l.length).countP (fun i => !listed.getD i true) := List.countP_pos_iff.2 ⟨k, hk.1, hk.2.1⟩
      omega
    exact ⟨hr, done_fin listed a w hm hr⟩
  | succ fuel ih =>
    intro listed a w hm hc
    refine ⟨done_fin listed a w hm, fun k hk => ?_⟩
    have hlt : k < l.length := by
      unfold Region.ready at hk
      rw [List.mem_filter] at hk
      simpa using hk.1
    have ho : l[k]? = some l[k] := List.getElem?_eq_getElem hlt
    obtain ⟨hun, hpre⟩ := (ready_mem hm.lsize ho).1 hk
    have hst := stepsH_at l 0 k _ (step (uOf l a) a (putFrom_eq l a0 a hn hm.defers hm.size hm.out)) ho w (mOf S l listed a) hm.ext hm.heap
      (by rw [Nat.zero_add]; unfold mOf; rw [if_neg (fun h => by rw [hun] at h; cases h.2.1)])
      (preds_of _ fun e he hbb => by
        have he' : e ∈ (l[k]).after := Array.mem_toList_iff.1 he
        have hb2 := back_at hb ho e he' hbb
        have hl2 := hpre e he' hbb
        have hlt2 : e.on < l.length := by omega
        have ho2 : l[e.on]? = some l[e.on] := List.getElem?_eq_getElem hlt2
        have := hm.done e.on _ ho2 hl2
        simpa [uOf, ho2] using this)
      (predsM_of _ fun e he hbb hs => by
        have he' : e ∈ (l[k]).after := Array.mem_toList_iff.1 he
        have hb2 := back_at hb ho e he' hbb
        have hl2 := hpre e he' hbb
        unfold mOf
        rw [if_pos ⟨hs, hl2, by omega⟩])
    rw [Nat.zero_add] at hst
    unfold wpOp
    rw [List.getElem?_toArray, ho]
    have key := upon_skip_or (P := P) (ops := l.toArray) (K := Q) (K' := wpAny P .any l.toArray Q fuel (listed.setIfInBounds k true)) (by rintro ⟨_, _, h⟩; exact h) hst ?_ (fun _ _ _ h => h)
    · simp only
      split
      · rename_i hw; rw [if_pos hw] at key; exact .inl key
      · rename_i hw; rw [if_neg hw] at key; exact key
    · rintro a' w' ⟨v, rfl, hv, hx, hx2, hh⟩
      refine ih _ _ _ ⟨hm.ext.trans hx, by rw [put_defers, hm.defers], by rw [put_size, hm.size], by rw [Array.size_setIfInBounds, hm.lsize], fun t ht => ?_, fun k2 o2 h2 hl2 => ?_, ?_⟩ ?_
      · have : (l[k]).dst ≠ some t := fun e => ht (by
          unfold dsts
          exact List.mem_filterMap.2 ⟨l[k], List.getElem_mem hlt, e⟩)
        rw [put_at _ _ _ _ this]
        exact hm.out t ht
      · rw [getD_set] at hl2
        by_cases hkk : k = k2
        · subst hkk
          obtain rfl : l[k] = o2 := by rw [ho] at h2; injection h2
          cases hd : (l[k]).dst with
          | none => rw [hd] at hv; exact hv
          | some d =>
            rw [hd] at hv
            have hdl : d < a.tmps.size := by
              rw [hm.size]
              exact hsz d (by unfold dsts; exact List.mem_filterMap.2 ⟨l[k], List.getElem_mem hlt, hd⟩)
            have : (a.put (some d) v).tmps.getD d undef = v := by
              rw [Array.getD_eq_getD_getElem?, put_same _ _ _ hdl]; rfl
            simp only [Option.elim_some]
            rw [this]
            exact hv
        · rw [if_neg (fun h => hkk h.1)] at hl2
          have h3 := hV k2 _ _ _ (hm.done k2 o2 h2 hl2) hx
          cases hd : o2.dst with
          | none => rw [hd] at h3; exact h3
          | some d =>
            rw [hd] at h3
            simp only [Option.elim_some] at h3 ⊢
            have hne : (l[k]).dst ≠ some d := by
              intro e
              have hk2 : k2 < l.length := (List.getElem?_eq_some_iff.1 h2).1
              have e2 : l[k2] = o2 := by rw [List.getElem?_eq_getElem hk2] at h2; injection h2
              exact hkk (nodup_dst hn hlt hk2 e (by rw [e2, hd]))
            have : (a.put (l[k]).dst v).tmps.getD d undef = a.tmps.getD d undef := by
              rw [Array.getD_eq_getD_getElem?, put_at _ _ _ _ hne, ← Array.getD_eq_getD_getElem?]
            rw [this]
            exact h3
      · by_cases hs : S.elem k = true
        · have h1 := hh hs
          have e : mOf S l (listed.setIfInBounds k true) (a.put (l[k]).dst v) = updM (mOf S l listed a) k ((l[k]).dst.elim undef fun _ => v) := by
            funext i
            unfold updM
            by_cases hik : i = k
            · subst hik
              rw [if_pos rfl]
              unfold mOf
              have hgs : (listed.setIfInBounds i true).getD i false = true := by rw [getD_set, if_pos ⟨rfl, by rw [hm.lsize]; exact hlt⟩]
              rw [if_pos ⟨hs, hgs, hlt⟩]
              congr 1
              cases hd : (l[i]).dst with
              | none => unfold uOf; rw [ho]; simp [hd]
              | some d =>
                have := uOf_same (a := a) (v := v) hlt hd (by rw [hm.size]; exact hsz d (by unfold dsts; exact List.mem_filterMap.2 ⟨l[i], List.getElem_mem hlt, hd⟩))
                rw [hd] at this
                exact this
            · rw [if_neg hik]
              have hgs : (listed.setIfInBounds k true).getD i false = listed.getD i false := by rw [getD_set, if_neg (fun h => hik h.1.symm)]
              unfold mOf
              rw [hgs]
              by_cases hi : S.elem i = true ∧ listed.getD i false = true ∧ i < l.length
              · rw [if_pos hi, if_pos hi, uOf_put hn hlt hi.2.2 hik]
              · rw [if_neg hi, if_neg hi]
          rw [e]
          exact h1
        · have hs' : S.elem k = false := by simpa using hs
          have e : mOf S l (listed.setIfInBounds k true) (a.put (l[k]).dst v) = mOf S l listed a := by
            funext i
            unfold mOf
            by_cases hik : i = k
            · subst hik
              rw [if_neg (fun h => hs h.1), if_neg (fun h => hs h.1)]
            · have hgs : (listed.setIfInBounds k true).getD i false = listed.getD i false := by rw [getD_set, if_neg (fun h => hik h.1.symm)]
              rw [hgs]
              by_cases hi : S.elem i = true ∧ listed.getD i false = true ∧ i < l.length
              · rw [if_pos hi, if_pos hi, uOf_put hn hlt hi.2.2 hik]
              · rw [if_neg hi, if_neg hi]
          rw [e]
          exact hH _ _ _ hm.heap (hx2 hs')
      · have := countP_drop l.length listed k hm.lsize hlt hun
        omega

theorem wp_region_heap {P : Program} {id : Nat} {l : List Oper} {Q : Exit → Act → World → Prop} {V : List (Value → World → Prop)} {a0 : Act} {w0 : World} (B : Nat) (S : List Nat) (H : (Nat → Option Value) → World → Prop)
    (hm : P.follows .mixedOrders = true) (hg : goodB l a0.tmps.size = true) (hV : ∀ k, StableB B (nth V k)) (hB : B ≤ w0.heap.size) (hH : ∀ M w w', H M w → Ext w w' → H M w') (h0 : ∀ w, Ext w0 w → H (fun _ => none) w)
    (step : ∀ u A, A = putFrom a0 l 0 u → StepsH B S H P l.toArray V w0 u A l 0)
    (fin : ∀ u A w, A = putFrom a0 l 0 u → Below B w0 w → (∀ k, k < l.length → nth V k (u k) w) → H (fun i => if S.elem i = true ∧ i < l.length then some (u i) else none) w → Q .normal A w) : (Code.region id l.toArray true).wp P Q a0 w0 := by
  have hg2 := hg
  unfold goodB at hg2
  simp only [Bool.and_eq_true, decide_eq_true_eq, List.all_eq_true] at hg2
  refine wp_region_any hm ?_
  have e : mOf S l (Array.replicate l.length false) a0 = fun _ => none := by
    funext i
    unfold mOf
    rw [if_neg (fun h => by
      have hlt := h.2.2
      have := h.2.1
      simp [Array.getD, hlt] at this)]
  have := midH_any (Q := Q) hg hV hH step fin l.length (Array.replicate l.length false) a0 { w0 with drawn := w0.drawn + 1 }
    ⟨(Below.refl _ w0).drew, rfl, rfl, by simp, fun _ _ => rfl, fun k o hk h => by
      have hlt : k < l.length := (List.getElem?_eq_some_iff.1 hk).1
      simp [Array.getD, hlt] at h, by rw [e]; exact h0 _ (Below.refl _ w0).drew⟩ (Nat.le_trans (List.countP_le_length) (by simp))
  simpa using this

/-! ### Variables of the call's own, and new ones that a region makes and fills -/
/-- A variable of the call's own, with its cells. -/
structure Bx (w : World) (b : Nat) (vs : List Value) : Prop where
  lt : b < w.heap.size
  at_ : ∀ j u, vs[j]? = some u → w.cell? ⟨b, j, none⟩ = some u
theorem Bx.ext {w w' : World} {b : Nat} {vs : List Value} (h : Bx w b vs) (hx : Ext w w') : Bx w' b vs :=
  ⟨Nat.lt_of_lt_of_le h.lt hx.size, fun j u hu => (hx.cell (p := ⟨b, j, none⟩) h.lt).trans (h.at_ j u hu)⟩
theorem Bx.one {w : World} {b : Nat} {v : Value} (h : Bx w b [v]) : w.cell? ⟨b, 0, none⟩ = some v := h.at_ 0 v rfl
theorem Bx.new (w : World) (v : Value) (t : TypeId) (fr : Nat × Nat) : Bx (w.alloc (.cells #[v] t fr)) w.heap.size [v] :=
  ⟨by simp, fun j u hu => by rw [World.cell?_alloc_mark]; simpa using hu⟩
theorem Bx.three {w : World} {b : Nat} {u v t : Value} (h : Bx w b [u, v, t]) : w.cell? ⟨b, 0, none⟩ = some u ∧ w.cell? ⟨b, 1, none⟩ = some v ∧ w.cell? ⟨b, 2, none⟩ = some t := ⟨h.at_ 0 _ rfl, h.at_ 1 _ rfl, h.at_ 2 _ rfl⟩
theorem Bx.two {w : World} {b : Nat} {u v : Value} (h : Bx w b [u, v]) : w.cell? ⟨b, 0, none⟩ = some u ∧ w.cell? ⟨b, 1, none⟩ = some v := ⟨h.at_ 0 _ rfl, h.at_ 1 _ rfl⟩
/-- Nothing of the block is frozen. -/
def Free (w : World) (b : Nat) : Prop := b < w.heap.size ∧ ∀ j, w.frozen? ⟨b, j, none⟩ = false
theorem Free.ext {w w' : World} {b : Nat} (h : Free w b) (hx : Ext w w') : Free w' b :=
  ⟨Nat.lt_of_lt_of_le h.1 hx.size, fun j => (hx.frozen (p := ⟨b, j, none⟩) h.1).trans (h.2 j)⟩
theorem Bx.at_new (w : World) (C : Array Value) (t : TypeId) (n : Nat) (hn : n = w.heap.size) : Bx (w.alloc (.cells C t)) n C.toList := by
  subst hn
  exact ⟨by simp, fun j u hu => by rw [World.cell?_alloc_mark]; simpa using hu⟩
theorem Free.new (w : World) (C : Array Value) (t : TypeId) (n : Nat) (hn : n = w.heap.size) : Free (w.alloc (.cells C t)) n := by
  subst hn
  exact ⟨by simp, fun j => World.frozen?_alloc_new w C t j⟩
theorem ext_new (w : World) (o : Obj) : Ext w (w.alloc o) := (Below.refl _ _).alloc (Nat.le_refl _) _

/-- Only the cells of block b have changed. -/
structure Upd (b : Nat) (w w' : World) : Prop where
  size : w'.heap.size = w.heap.size
  cell : ∀ c o, c ≠ b → w'.cell? ⟨c, o, none⟩ = w.cell? ⟨c, o, none⟩
  frozen : ∀ a, w'.frozen? a = w.frozen? a
theorem Upd.set (w : World) (b j : Nat) (v : Value) : Upd b w (w.setCell ⟨b, j, none⟩ v) :=
  ⟨by simp, fun c o h => World.cell?_setCell_other w ⟨b, j, none⟩ ⟨c, o, none⟩ v (fun e => h (by injection e with e; exact e.symm)), fun a => World.frozen?_setCell w _ _ v⟩
theorem Upd.trans {b : Nat} {w1 w2 w3 : World} (h : Upd b w1 w2) (k : Upd b w2 w3) : Upd b w1 w3 :=
  ⟨k.size.trans h.size, fun c o hc => (k.cell c o hc).trans (h.cell c o hc), fun a => (k.frozen a).trans (h.frozen a)⟩
theorem Bx.upd {b c : Nat} {w w' : World} {vs : List Value} (h : Bx w c vs) (k : Upd b w w') (hc : c ≠ b) : Bx w' c vs :=
  ⟨by rw [k.size]; exact h.lt, fun j u hu => (k.cell c j hc).trans (h.at_ j u hu)⟩
theorem Free.upd {b c : Nat} {w w' : World} (h : Free w c) (k : Upd b w w') : Free w' c := ⟨by rw [k.size]; exact h.1, fun j => (k.frozen _).trans (h.2 j)⟩
theorem Bx.set {b : Nat} {w : World} {vs : List Value} (h : Bx w b vs) (j : Nat) (v : Value) : Bx (w.setCell ⟨b, j, none⟩ v) b (vs.set j v) := by
  refine ⟨by simpa using h.lt, fun i u hu => ?_⟩
  rw [List.getElem?_set] at hu
  split at hu
  · rename_i e
    subst e
    split at hu
    · rename_i hlt
      injection hu with hu
      subst hu
      exact World.cell?_setCell_same _ _ _ (h.at_ j _ (List.getElem?_eq_getElem hlt))
    · cases hu
  · rename_i e
    rw [World.cell?_setCell_other w ⟨b, j, none⟩ ⟨b, i, none⟩ v (fun e' => e (by injection e'))]
    exact h.at_ i u hu
theorem upd_below {B b : Nat} {w w' : World} (hb : B ≤ b) (j : Nat) (v : Value) (h : Below B w w') : Below B w (w'.setCell ⟨b, j, none⟩ v) := h.setCell hb v

/-- Several variables of the call's own, all different. -/
structure MS (w0 wq : World) (L : List (Nat × List Value)) : Prop where
  at_ : ∀ e ∈ L, Bx wq e.1 e.2 ∧ Free wq e.1 ∧ w0.heap.size ≤ e.1
  nd : (L.map (·.1)).Nodup
  bel : Below w0.heap.size w0 wq
theorem MS.nil (w : World) : MS w w [] := ⟨(fun e h => by cases h), by simp, Below.refl _ _⟩
theorem MS.ext {w0 wq w' : World} {L : List (Nat × List Value)} (h : MS w0 wq L) (hx : Ext wq w') : MS w0 w' L :=
  ⟨fun e he => ⟨(h.at_ e he).1.ext hx, (h.at_ e he).2.1.ext hx, (h.at_ e he).2.2⟩, h.nd, below_ext h.bel hx h.bel.size⟩
theorem MS.new {w0 wq : World} {L : List (Nat × List Value)} (h : MS w0 wq L) (C : Array Value) (t : TypeId) (n : Nat) (hn : n = wq.heap.size) : MS w0 (wq.alloc (.cells C t)) (L ++ [(n, C.toList)]) := by
  subst hn
  refine ⟨fun e he => ?_, ?_, below_ext h.bel (ext_new _ _) h.bel.size⟩
  · rcases List.mem_append.1 he with he | he
    · exact ⟨(h.at_ e he).1.ext (ext_new _ _), (h.at_ e he).2.1.ext (ext_new _ _), (h.at_ e he).2.2⟩
    · obtain rfl := List.mem_singleton.1 he
      exact ⟨Bx.at_new _ _ _ _ rfl, Free.new _ _ _ _ rfl, h.bel.size⟩
  · rw [List.map_append, List.nodup_append]
    refine ⟨h.nd, by simp, fun a ha b hb => ?_⟩
    obtain ⟨e, he, rfl⟩ := List.mem_map.1 ha
    simp at hb
    subst hb
    exact Nat.ne_of_lt (h.at_ e he).1.lt
theorem MS.get {w0 wq : World} {L : List (Nat × List Value)} (h : MS w0 wq L) (i : Nat) {b : Nat} {vs : List Value} (hi : L[i]? = some (b, vs)) : Bx wq b vs ∧ Free wq b := by
  have := h.at_ _ (List.mem_of_getElem? hi)
  exact ⟨this.1, this.2.1⟩
theorem MS.cell {w0 wq : World} {L : List (Nat × List Value)} (h : MS w0 wq L) (i j : Nat) {b : Nat} {vs : List Value} {v : Value} (hi : L[i]? = some (b, vs)) (hj : vs[j]? = some v) : wq.cell? ⟨b, j, none⟩ = some v := (h.get i hi).1.at_ j v hj
theorem MS.free {w0 wq : World} {L : List (Nat × List Value)} (h : MS w0 wq L) (i j : Nat) {b : Nat} {vs : List Value} (hi : L[i]? = some (b, vs)) : wq.frozen? ⟨b, j, none⟩ = false := (h.get i hi).2.2 j
theorem MS.lt {w0 wq : World} {L : List (Nat × List Value)} (h : MS w0 wq L) (i : Nat) {b : Nat} {vs : List Value} (hi : L[i]? = some (b, vs)) : b < wq.heap.size := (h.get i hi).1.lt
theorem MS.set {w0 wq : World} {L : List (Nat × List Value)} (h : MS w0 wq L) (i j : Nat) (v : Value) {b : Nat} {vs : List Value} (hi : L[i]? = some (b, vs)) : MS w0 (wq.setCell ⟨b, j, none⟩ v) (L.set i (b, vs.set j v)) := by
  have hlt : i < L.length := (List.getElem?_eq_some_iff.1 hi).1
  have hb := h.at_ _ (List.mem_of_getElem? hi)
  refine ⟨fun e he => ?_, ?_, h.bel.setCell hb.2.2 _⟩
  · obtain ⟨k, hk, rfl⟩ := List.mem_iff_getElem.1 he
    rw [List.getElem_set]
    split
    · exact ⟨hb.1.set j v, hb.2.1.upd (Upd.set _ _ _ _), hb.2.2⟩
    · rename_i hne
      have hk2 : k < L.length := by simpa using hk
      have hm := h.at_ _ (List.getElem_mem hk2)
      refine ⟨hm.1.upd (Upd.set _ _ _ _) ?_, hm.2.1.upd (Upd.set _ _ _ _), hm.2.2⟩
      intro e
      have h1 : (L.map (·.1))[k]? = some (L[k]).1 := by simp [hk2]
      have h2 : (L.map (·.1))[i]? = some b := by rw [List.getElem?_map, hi]; rfl
      rw [e] at h1
      exact hne ((List.getElem?_inj (by simpa using hlt) h.nd).1 (h2.trans h1.symm))
  · have : (L.set i (b, vs.set j v)).map (·.1) = L.map (·.1) := by
      rw [List.map_set]
      apply List.ext_getElem?
      intro k
      rw [List.getElem?_set]
      split
      · rename_i e; subst e; rw [List.getElem?_map, hi]; simp [hlt]
      · rfl
    rw [this]; exact h.nd
theorem MS.add {w0 w1 wq : World} {L : List (Nat × List Value)} (h : MS w0 w1 L) (hx : Ext w1 wq) {b : Nat} {vs : List Value} (hb : w1.heap.size ≤ b) (h1 : Bx wq b vs) (h2 : Free wq b) : MS w0 wq (L ++ [(b, vs)]) := by
  refine ⟨fun e he => ?_, ?_, below_ext h.bel hx h.bel.size⟩
  · rcases List.mem_append.1 he with he | he
    · exact ⟨(h.at_ e he).1.ext hx, (h.at_ e he).2.1.ext hx, (h.at_ e he).2.2⟩
    · obtain rfl := List.mem_singleton.1 he
      exact ⟨h1, h2, Nat.le_trans h.bel.size hb⟩
  · rw [List.map_append, List.nodup_append]
    refine ⟨h.nd, by simp, fun a ha c hc => ?_⟩
    obtain ⟨e, he, rfl⟩ := List.mem_map.1 ha
    simp at hc
    subst hc
    exact Nat.ne_of_lt (Nat.lt_of_lt_of_le (h.at_ e he).1.lt hb)
theorem new_stable {w1 : World} {vs : List Value} : Stable (fun vv ww => ∃ b, vv = .pointer (some ⟨b, 0, none⟩) ∧ Bx ww b vs ∧ Free ww b ∧ w1.heap.size ≤ b) := by
  rintro v w w' ⟨b, rfl, h1, h2, h3⟩ hx
  exact ⟨b, rfl, h1.ext hx, h2.ext hx, h3⟩
theorem MS.weaken {w0 wq : World} {L : List (Nat × List Value)} (h : MS w0 wq L) (hx : Ext wq wq) : MS w0 wq L := h.ext hx

/-- A new variable: the operation that makes it, the one that fills it, its cells before and behind. -/
structure Fr where
  a : Nat
  s : Nat
  old : List Value
  new : List Value
def FreshH (B : Nat) (T : List Fr) (M : Nat → Option Value) (w : World) : Prop :=
  (∀ t ∈ T, ∀ v, M t.a = some v → ∃ b, v = .pointer (some ⟨b, 0, none⟩) ∧ B ≤ b ∧ Free w b ∧ Bx w b (if (M t.s).isSome then t.new else t.old)) ∧
  (∀ t ∈ T, ∀ t' ∈ T, t.a ≠ t'.a → ∀ v v', M t.a = some v → M t'.a = some v' → v ≠ v') ∧ (∀ t ∈ T, (M t.s).isSome = true → (M t.a).isSome = true)
theorem FreshH.ext {B : Nat} {T : List Fr} {M : Nat → Option Value} {w w' : World} (h : FreshH B T M w) (hx : Ext w w') : FreshH B T M w' := by
  refine ⟨fun t ht v hv => ?_, h.2⟩
  obtain ⟨b, e, h1, h2, h3⟩ := h.1 t ht v hv
  exact ⟨b, e, h1, h2.ext hx, h3.ext hx⟩
theorem FreshH.start (B : Nat) (T : List Fr) (w : World) : FreshH B T (fun _ => none) w := ⟨(fun t _ v h => by cases h), (fun t _ t' _ _ v v' h => by cases h), (fun t _ h => by cases h)⟩
/-- The places that make and those that fill are all different. -/
def frB (T : List Fr) : Bool := T.all fun t => T.all fun t' => decide (t.a ≠ t'.s) && (decide (t.a = t'.a) == decide (t.s = t'.s)) && (!decide (t.a = t'.a) || decide (t.old.length = t'.old.length))
theorem fr_uniq : ∀ {T : List Fr}, (T.map Fr.a).Nodup → ∀ t ∈ T, ∀ t' ∈ T, t.a = t'.a → t = t'
  | [], _, _, h, _, _, _ => by cases h
  | x :: T, hn, t, h, t', h', e => by
    rw [List.map_cons, List.nodup_cons] at hn
    rcases List.mem_cons.1 h with h1 | h1
    · rcases List.mem_cons.1 h' with h2 | h2
      · rw [h1, h2]
      · exact (hn.1 (List.mem_map.2 ⟨t', h2, by rw [← e, h1]⟩)).elim
    · rcases List.mem_cons.1 h' with h2 | h2
      · exact (hn.1 (List.mem_map.2 ⟨t, h1, by rw [e, h2]⟩)).elim
      · exact fr_uniq hn.2 t h1 t' h2 e
theorem fr_ne {T : List Fr} (h : frB T = true) {t t' : Fr} (ht : t ∈ T) (ht' : t' ∈ T) : t.a ≠ t'.s ∧ (t.a = t'.a ↔ t.s = t'.s) := by
  unfold frB at h
  simp only [List.all_eq_true, Bool.and_eq_true, decide_eq_true_eq, beq_iff_eq] at h
  have := h t ht t' ht'
  exact ⟨this.1.1, by have := this.1.2; simpa using this⟩
theorem FreshH.alloc {B : Nat} {T : List Fr} {M : Nat → Option Value} {w : World} (h : FreshH B T M w) (hT : frB T = true) (hu : ∀ t ∈ T, ∀ t' ∈ T, t.a = t'.a → t = t') {t : Fr} (ht : t ∈ T) (hM : M t.a = none) (hB : B ≤ w.heap.size) (C : Array Value) (hC : C.toList = t.old) (ty : TypeId) :
    FreshH B T (updM M t.a (.pointer (some ⟨w.heap.size, 0, none⟩))) (w.alloc (.cells C ty)) := by
  have hx : Ext w (w.alloc (.cells C ty)) := ext_new _ _
  have hs : M t.s = none := by
    cases e : M t.s
    · rfl
    · have := h.2.2 t ht (by rw [e]; rfl)
      rw [hM] at this; cases this
  refine ⟨fun t' ht' v hv => ?_, fun t1 h1 t2 h2 hne v1 v2 hv1 hv2 => ?_, fun t' ht' hs' => ?_⟩
  · have hn := (fr_ne hT ht ht').1
    have e : updM M t.a (.pointer (some ⟨w.heap.size, 0, none⟩)) t'.s = M t'.s := by unfold updM; rw [if_neg (fun e => hn e.symm)]
    rw [e]
    by_cases hq : t'.a = t.a
    · obtain rfl := hu _ ht' _ ht hq
      unfold updM at hv
      rw [if_pos rfl] at hv
      injection hv with hv
      refine ⟨_, hv.symm, hB, Free.new _ _ _ _ rfl, ?_⟩
      rw [hs, ← hC]
      exact Bx.at_new _ _ _ _ rfl
    · unfold updM at hv
      rw [if_neg hq] at hv
      obtain ⟨b, e1, e2, e3, e4⟩ := h.1 t' ht' v hv
      exact ⟨b, e1, e2, e3.ext hx, e4.ext hx⟩
  · unfold updM at hv1 hv2
    by_cases h3 : t1.a = t.a
    · rw [if_pos h3] at hv1
      have h4 : ¬ t2.a = t.a := fun e => hne (h3.trans e.symm)
      rw [if_neg h4] at hv2
      obtain ⟨b, e1, _, e3, _⟩ := h.1 t2 h2 v2 hv2
      injection hv1 with hv1
      rw [← hv1, e1]
      intro e
      injection e with e; injection e with e; injection e with e
      have := e3.1; omega
    · rw [if_neg h3] at hv1
      by_cases h4 : t2.a = t.a
      · rw [if_pos h4] at hv2
        obtain ⟨b, e1, _, e3, _⟩ := h.1 t1 h1 v1 hv1
        injection hv2 with hv2
        rw [← hv2, e1]
        intro e
        injection e with e; injection e with e; injection e with e
        have := e3.1; omega
      · rw [if_neg h4] at hv2
        exact h.2.1 t1 h1 t2 h2 hne v1 v2 hv1 hv2
  · have hn := (fr_ne hT ht ht').1
    unfold updM at hs' ⊢
    rw [if_neg (fun e => hn e.symm)] at hs'
    by_cases hq : t'.a = t.a
    · rw [if_pos hq]; rfl
    · rw [if_neg hq]; exact h.2.2 t' ht' hs'
theorem FreshH.store {B : Nat} {T : List Fr} {M : Nat → Option Value} {w w' : World} (h : FreshH B T M w) (hT : frB T = true) (hu : ∀ t ∈ T, ∀ t' ∈ T, t.a = t'.a → t = t') {t : Fr} (ht : t ∈ T) {b : Nat} (hM : M t.a = some (.pointer (some ⟨b, 0, none⟩))) (v0 : Value)
    (hw : Upd b w w') (hb : Bx w' b t.new) : FreshH B T (updM M t.s v0) w' := by
  refine ⟨fun t' ht' v hv => ?_, fun t1 h1 t2 h2 hne v1 v2 hv1 hv2 => ?_, fun t' ht' hs' => ?_⟩
  · have hn := (fr_ne hT ht' ht).1
    unfold updM at hv
    rw [if_neg hn] at hv
    obtain ⟨c, e1, e2, e3, e4⟩ := h.1 t' ht' v hv
    by_cases hq : t'.a = t.a
    · obtain rfl := hu _ ht' _ ht hq
      rw [hM] at hv
      injection hv with hv
      rw [← hv] at e1
      injection e1 with e1; injection e1 with e1; injection e1 with e1
      subst e1
      refine ⟨b, hv.symm, e2, e3.upd hw, ?_⟩
      have : (updM M t'.s v0 t'.s).isSome = true := by unfold updM; rw [if_pos rfl]; rfl
      rw [this]
      exact hb
    · have hne2 : t'.s ≠ t.s := fun e => hq ((fr_ne hT ht' ht).2.2 e)
      have hcb : c ≠ b := by
        intro e
        subst e
        exact h.2.1 t' ht' t ht hq v _ hv hM e1
      refine ⟨c, e1, e2, e3.upd hw, ?_⟩
      have : updM M t.s v0 t'.s = M t'.s := by unfold updM; rw [if_neg hne2]
      rw [this]
      exact e4.upd hw hcb
  · have n1 := (fr_ne hT h1 ht).1
    have n2 := (fr_ne hT h2 ht).1
    unfold updM at hv1 hv2
    rw [if_neg n1] at hv1
    rw [if_neg n2] at hv2
    exact h.2.1 t1 h1 t2 h2 hne v1 v2 hv1 hv2
  · have n1 := (fr_ne hT ht' ht).1
    unfold updM at hs' ⊢
    rw [if_neg n1]
    by_cases hq : t'.s = t.s
    · have := (fr_ne hT ht' ht).2.2 hq
      rw [this, hM]; rfl
    · rw [if_neg hq] at hs'; exact h.2.2 t' ht' hs'
end Go.Base
