/- Operations that write into the function's own memory. -/
import Derived.Test.YtlpdcjbkbcmahaaGreatDoorAvNew
import Derived.Laws.CopyRow
set_option linter.unusedVariables false
set_option linter.unusedSimpArgs false
namespace Go.Av
open Go.RowKit Go.Base
variable {P : Program} {γ γ' : G} {w w' : World} {own : Nat → Prop} {hp : Nat → Option Ob} {live : Nat → Prop} {ρ : Operand → Value}

theorem foldl_out : ∀ (us : List Value) (off : Nat) (vs : List Value), off + us.length ≤ vs.length → (us.zipIdx off).foldl (fun a p => a.set p.2 p.1) vs = vs.take off ++ us ++ vs.drop (off + us.length)
  | [], off, vs, _ => by simp
  | u :: us, off, vs, h => by
    simp only [List.zipIdx_cons, List.foldl_cons]
    rw [foldl_out us (off + 1) (vs.set off u) (by simp at h ⊢; omega)]
    have := list_seg_step vs off u us (by simp at h ⊢; omega)
    simpa [Nat.add_assoc] using this
theorem repAL_append : ∀ {a b : List AV} {x y : List Value}, RepAL γ a x → RepAL γ b y → RepAL γ (a ++ b) (x ++ y)
  | [], _, _, _, h, k => by simp only [RepAL] at h; subst h; simpa using k
  | c :: a, _, _, _, h, k => by
    simp only [RepAL] at h
    obtain ⟨v, t, rfl, h1, h2⟩ := h
    simp only [List.cons_append, RepAL]
    exact ⟨v, _, rfl, h1, repAL_append h2 k⟩
/-- An object of one's own is written. -/
theorem stp_writeAt (H : Hp own hp live γ w) (id : Nat) {d : Nat} {o o' : Ob} {pl : Pl} (hd : hp d = some o) (hok : o.ok = true) (hb : γ.ι d = some pl) (hg : w.grownBy w' pl.block) (hr : ObjAt γ w' o' pl) {v : AV} {u : Value} (hv : RepA γ v u) (q : Q) (h1 : q.upd = some (d, o')) (h2 : q.new = none) (h3 : q.tok = false) (h4 : q.kill = none) (hm : q.mo = none := by rfl) :
    Stp own hp live γ w id (effH id q hp) (effL id q live) v u γ w' := by
  obtain ⟨pl', e1, e2, e3⟩ := H.obj d o hd hok
  obtain rfl : pl' = pl := by rw [hb] at e1; injection e1 with e1; exact e1.symm
  have hH : ∀ j, effH id q hp j = if j = d then some o' else hp j := fun j => by simp only [effH, hm, h1, h2, addF]
  have hL : effL id q live = live := by rw [effL_of h4 hm, h3, addL_false]
  have cases_ : ∀ j oj, effH id q hp j = some oj → oj.ok = true → ∃ oj', hp j = some oj' ∧ oj'.ok = true := fun j oj h ho => by
    rw [hH] at h
    split at h
    · rename_i h'; exact ⟨o, by rw [h']; exact hd, hok⟩
    · exact ⟨oj, h, ho⟩
  refine ⟨LeG.refl _, ?_, base_grown hg (fun g hg' => (e3 g hg').1), hv, fun _ _ => ⟨rfl, rfl⟩, fun _ _ _ _ => rfl⟩
  rw [hL]
  refine ⟨fun c k y hy => ?_, fun j oj h ho => ?_, fun i j oi oj p q' hi hj ho1 ho2 hne hp1 hq1 => ?_, fun t v e sz hl hq => ?_, H.tinj⟩
  · have hc : some c ≠ pl'.block := fun h => by rw [(e3 c h.symm).2] at hy; cases hy
    rw [World.cell?_of_block (w := w) (hg.block c (fz_lt H.fz hy) hc)]
    exact H.fz c k y hy
  · rw [hH] at h
    split at h
    · rename_i hj
      subst hj
      injection h with h
      subst h
      exact ⟨pl', hb, hr, e3⟩
    · rename_i hj
      obtain ⟨p, f1, f2, f3⟩ := H.obj j oj h ho
      refine ⟨p, f1, f2.kept (LeG.refl _) fun b hpb => hg.block b (f2.lt hpb) fun h' => ?_, f3⟩
      rcases H.inj j d oj o p pl' h hd ho hok hj f1 hb with k | k
      · rw [hpb] at k; cases k
      · exact k (by rw [hpb]; exact h')
  · obtain ⟨oi', hi', ho1'⟩ := cases_ i oi hi ho1
    obtain ⟨oj', hj', ho2'⟩ := cases_ j oj hj ho2
    exact H.inj i j oi' oj' p q' hi' hj' ho1' ho2' hne hp1 hq1
  · obtain ⟨n, xs, q1, q2⟩ := H.tok t v e sz hl hq
    have hne : v.ownBlock = none ∨ v.ownBlock ≠ pl'.block := by
      cases ho : v.ownBlock with
      | none => exact .inl rfl
      | some g => exact .inr fun h => (q2 g ho).2.2 d o pl' hd hok hb h.symm
    refine ⟨n, xs, q1.kept hg hne, fun g hg' => ?_⟩
    obtain ⟨r1, r2, r3⟩ := q2 g hg'
    refine ⟨r1, r2, fun j oj p hj ho hp => ?_⟩
    obtain ⟨oj', hj', ho'⟩ := cases_ j oj hj ho
    exact r3 j oj' p hj' ho' hp
theorem stp_write (H : Hp own hp live γ w) (id : Nat) {d b : Nat} {o o' : Ob} {x' : Go.Obj} (hd : hp d = some o) (hok : o.ok = true) (hb : γ.ι d = some (.blk b)) (hg : w.grownBy w' (some b)) (hx : w'.heap[b]? = some x') (hr : RepO γ o' x') {v : AV} {u : Value} (hv : RepA γ v u) (q : Q) (h1 : q.upd = some (d, o')) (h2 : q.new = none) (h3 : q.tok = false) (h4 : q.kill = none) (hm : q.mo = none := by rfl) :
    Stp own hp live γ w id (effH id q hp) (effL id q live) v u γ w' := stp_writeAt H id hd hok hb hg ⟨x', hx, hr⟩ hv q h1 h2 h3 h4 hm
theorem grown_setRow (w : World) (g : Nat) (cs : Array Value) : w.grownBy (w.setRow g cs) (some g) :=
  ⟨rfl, rfl, rfl, by simp [World.setRow], fun k _ hk => setRow_other w g k cs (fun h => hk (by rw [h]))⟩
theorem run_store_at {t : TypeId} {g off : Nat} {e : TypeId} {cur : Array Value} (hg : w.heap[g]? = some (.cells cur e (0, 0))) (v : Value) (hs : v.cells.size = sizeT P t) (hz : 0 < sizeT P t) (hl : off + sizeT P t ≤ cur.size) (h1 : ∀ x ∈ v.cells, x.oneCell' = true) :
    (Instr.storeAt t (.pointer (some ⟨g, off, none⟩)) v).run P w = .ok () (w.setRow g (cur.toList.take off ++ v.cells.toList ++ cur.toList.drop (off + v.cells.size)).toArray) := by
  obtain ⟨i, hi⟩ := sizeT_info (P := P) (t := t) (by omega)
  have := run_storeCells_at P g off e v.cells.toList 0 cur w hg (by simp; omega) (fun x hx => h1 x (by simpa using hx))
  simp only [Nat.add_zero, Array.length_toList] at this
  simp only [Instr.storeAt, Instr.sureAddr, storeVar, Sem.run_bind, Sem.run_pure, Result.andThen_ok, size_of hi, hs, ne_eq, not_true_eq_false, if_false, this]
theorem get_splice (l U : List Value) (a : Nat) (h : a + U.length ≤ l.length) (q : Nat) : (l.take a ++ U ++ l.drop (a + U.length))[q]? = if q < a then l[q]? else if q < a + U.length then U[q - a]? else l[q]? := by
  rw [List.append_assoc]
  split
  · rename_i h1; rw [List.getElem?_append_left (by simp; omega), List.getElem?_take, if_pos h1]
  · rename_i h1
    rw [List.getElem?_append_right (by simp; omega)]
    have e1 : (l.take a).length = a := by simp; omega
    rw [e1]
    split
    · rename_i h2; rw [List.getElem?_append_left (by omega)]
    · rename_i h2
      rw [List.getElem?_append_right (by omega), List.getElem?_drop]
      congr 1; omega
theorem repL_set {μ : Nat → Nat → Option Value} : ∀ {cs : List D} {vs : List Value} (i : Nat) {x : D} {v : Value}, RepL μ cs vs → Rep μ x v → RepL μ (cs.set i x) (vs.set i v)
  | [], _, i, _, _, h, _ => by simp only [RepL] at h; subst h; simp [RepL]
  | c :: cs, _, 0, x, v, h, hx => by
    simp only [RepL] at h; obtain ⟨u, t, rfl, h1, h2⟩ := h
    simp only [List.set_cons_zero, RepL]; exact ⟨v, t, rfl, hx, h2⟩
  | c :: cs, _, i + 1, x, v, h, hx => by
    simp only [RepL] at h; obtain ⟨u, t, rfl, h1, h2⟩ := h
    simp only [List.set_cons_succ, RepL]; exact ⟨u, _, rfl, h1, repL_set i h2 hx⟩
theorem repL_fill {μ : Nat → Nat → Option Value} : ∀ {xs : List D} {us : List Value} (off : Nat) {cs : List D} {vs : List Value}, RepL μ xs us → RepL μ cs vs →
    RepL μ (fillL off xs cs) ((us.zipIdx off).foldl (fun a p => a.set p.2 p.1) vs)
  | [], _, off, cs, vs, h, hc => by simp only [RepL] at h; subst h; simpa [fillL] using hc
  | x :: xs, _, off, cs, vs, h, hc => by
    simp only [RepL] at h
    obtain ⟨u, t, rfl, h1, h2⟩ := h
    simp only [fillL, List.zipIdx_cons, List.foldl_cons]
    exact repL_fill (off + 1) h2 (repL_set off hc h1)
theorem cells_agg (l : List Value) : (Value.agg l.toArray).cells = l.toArray := rfl
/-- A part of an element is written. -/
theorem rep_setD {μ : Nat → Nat → Option Value} {y x : D} {uy ux : Value} {off : Nat} (hy : Rep μ y uy) (hx : Rep μ x ux) (h1 : off + ux.cells.size ≤ uy.cells.size) (h0 : 0 < ux.cells.size) :
    ∃ u, Rep μ (setD y off x) u ∧ u.cells.size = uy.cells.size ∧ (∀ q : Value, q ∈ u.cells → q ∈ ux.cells ∨ q ∈ uy.cells) ∧ ∀ j, j < uy.cells.size → u.cells[j]? = if j < off then uy.cells[j]? else if j < off + ux.cells.size then ux.cells[j - off]? else uy.cells[j]? := by
  unfold setD
  split
  · rename_i cs
    simp only [Rep] at hy
    obtain ⟨vs, rfl, hv⟩ := hy
    have hf := repL_fill off (rep_cells hx) hv
    simp only [cells_agg, List.size_toArray] at h1
    rw [foldl_out _ _ _ (by simpa using h1)] at hf
    refine ⟨_, by simp only [Rep]; exact ⟨_, rfl, hf⟩, ?_, fun q hq => ?_, fun j hj => ?_⟩
    · simp only [cells_agg, List.size_toArray, List.length_append, List.length_take, List.length_drop, Array.length_toList]; omega
    · simp only [cells_agg, List.mem_toArray, List.mem_append] at hq
      rcases hq with (hq | hq) | hq
      · exact .inr (by simpa [cells_agg] using List.mem_of_mem_take hq)
      · exact .inl (by simpa using hq)
      · exact .inr (by simpa [cells_agg] using List.mem_of_mem_drop hq)
    · have := get_splice vs ux.cells.toList off (by simpa using h1) j
      simp only [cells_agg, List.getElem?_toArray]
      simpa using this
  · rename_i hne
    have hone : uy.cells.size = 1 := by
      cases y with
      | agg cs => exact absurd rfl (hne cs)
      | tup cs => simp only [Rep] at hy; obtain ⟨vs, rfl, _⟩ := hy; rfl
      | bad => simp only [Rep] at hy
      | bool b => rw [(hy.cells_one rfl).2.1]; rfl
      | int k n => rw [(hy.cells_one rfl).2.1]; rfl
      | str s => rw [(hy.cells_one rfl).2.1]; rfl
      | sl sz n f => rw [(hy.cells_one rfl).2.1]; rfl
    refine ⟨ux, hx, by omega, fun q hq => .inl hq, fun j hj => ?_⟩
    obtain rfl : off = 0 := by omega
    rw [if_neg (by omega), if_pos (by omega), Nat.sub_zero]
theorem own_cur {v : Value} {e : TypeId} {sz n b : Nat} {xs : List Value} (h : w.ownsRow 0 e sz v n xs) (hb : v.ownBlock = some b) :
    ∃ cur, w.heap[b]? = some (.cells cur e (0, 0)) ∧ n * sz ≤ cur.size ∧ cur.toList.take (n * sz) = xs ∧ ∀ cur' : Array Value, cur'.size = cur.size → (w.setRow b cur').ownsRow 0 e sz v n (cur'.toList.take (n * sz)) := by
  rcases h.2 with ⟨rfl, _⟩ | ⟨b', cap, cur, rfl, h1, h2, h3, h4, h5, h6⟩
  · cases hb
  · obtain rfl : b' = b := by simpa [Value.ownBlock] using hb
    have hle : n * sz ≤ cap * sz := Nat.mul_le_mul_right _ h3
    refine ⟨cur, h2, by omega, h6, fun cur' hc => ⟨by simp; omega, .inr ⟨b', cap, cur', rfl, h1, setRow_heap w b' _ _ e _ h2, h3, h4, by omega, rfl⟩⟩⟩
theorem does_store (H : Hp own hp live γ w) (id : Nat) {o : Oper} {t : TypeId} {a x : Operand} (ho : o.op = .store t a x) {p y : AV} (hp1 : RepA γ p (ρ a)) (hy : RepA γ y (ρ x)) (hk : (storeQ P t hp p y).ok = true) (hob : ∀ z ∈ (storeQ P t hp p y).ob, z) (hd : o.dst = none ∨ True) :
    Does P own hp live γ w ρ o id (storeQ P t hp p y) := by
  unfold Does execOp
  simp only [ho]
  generalize hq : storeQ P t hp p y = q at *
  unfold storeQ at hq
  split at hq
  · rename_i d off
    split at hq
    · rename_i cs hcs
      split at hq
      · rename_i hc
        obtain ⟨hz, c1, c2, c3⟩ := hc
        subst hq
        simp only [RepA] at hp1
        obtain ⟨b, hb, hv⟩ := hp1
        obtain ⟨b', x', e1, e2, e3, e4, e5⟩ := H.blk hcs rfl
        obtain rfl : b' = b := by rw [hb] at e1; injection e1 with e1; injection e1 with e1; exact e1.symm
        obtain ⟨vs, el, rfl, f1, f2⟩ := e3
        obtain ⟨g1, g2⟩ := repA_cells hy c3
        have hl : y.cells.length = (ρ x).cells.size := by have := g1.length; simpa using this
        have hlv := f1.length
        have hrun := run_store_at (P := P) (t := t) (off := off) e2 (ρ x) (by rw [← hl]; exact c1) hz (by simp; omega) g2
        refine ⟨undef, _, γ, .inr ⟨rfl, by rw [hv, Sem.run_bind, hrun]; rfl⟩, ?_⟩
        refine stp_write H id hcs rfl hb (grown_setRow w b' _) (setRow_heap w b' _ _ el _ e2) ?_ (by simp only [RepA]) _ rfl rfl rfl rfl
        refine ⟨_, el, rfl, ?_, fun z hz => ?_⟩
        · have := repAL_fill off g1 f1
          rw [foldl_out _ _ _ (by simp; omega)] at this
          simpa using this
        · simp only [List.mem_append] at hz
          rcases hz with (hz | hz) | hz
          · exact f2 z (List.mem_of_mem_take hz)
          · exact g2 z (by simpa using hz)
          · exact f2 z (List.mem_of_mem_drop hz)
      · subst hq; cases hk
    · subst hq; cases hk
  · rename_i d sz i off
    split at hq
    · rename_i z n f y' hcs
      split at hq
      · rename_i hc
        obtain ⟨rfl, rfl, c2, c3, c4, c5⟩ := hc
        subst hq
        have hin : i < n := hob _ (by simp)
        simp only [RepA] at hp1 hy
        obtain ⟨b, hb, hv⟩ := hp1
        obtain ⟨b', x', e1, e2, e3, e4, e5⟩ := H.blk hcs rfl
        obtain rfl : b' = b := by rw [hb] at e1; injection e1 with e1; injection e1 with e1; exact e1.symm
        obtain ⟨vs, el, rfl, f1, f2⟩ := e3
        have g1 := rep_cells hy
        have hl : y'.cells.length = (ρ x).cells.size := by have := g1.length; simpa using this
        have g2 : ∀ q ∈ (ρ x).cells, q.oneCell' = true := by
          have := repAL_one (γ := γ) (RepAL.of_map g1) (by simpa [List.all_map, Function.comp_def, AV.one] using c5)
          intro q hq; exact this q (by simpa using hq)
        have hiz : i * z + z ≤ n * z := by have : (i + 1) * z ≤ n * z := Nat.mul_le_mul_right _ hin; rw [Nat.add_mul] at this; omega
        have hsz : (ρ x).cells.size = z := by omega
        have hrun := run_store_at (P := P) (t := t) (off := i * z) e2 (ρ x) (by omega) (by omega) (by omega) g2
        refine ⟨undef, _, γ, .inr ⟨rfl, by rw [hv, Sem.run_bind, Nat.add_zero, hrun]; rfl⟩, ?_⟩
        refine stp_write H id hcs rfl hb (grown_setRow w b' _) (setRow_heap w b' _ _ el _ e2) ?_ (by simp only [RepA]) _ rfl rfl rfl rfl
        refine ⟨_, el, rfl, by simp; omega, fun k hk => ?_⟩
        by_cases hki : k = i
        · subst hki
          refine ⟨ρ x, by simpa using hy, hsz, g2, fun j hj => ?_⟩
          simp only [List.getElem?_toArray]
          rw [List.append_assoc, List.getElem?_append_right (by simp; omega), List.getElem?_append_left (by simp; omega)]
          simp
          congr 1; omega
        · obtain ⟨u, q1, q2, q3, q4⟩ := f2 k hk
          refine ⟨u, by simpa [hki] using q1, q2, q3, fun j hj => ?_⟩
          rw [← q4 j hj]
          simp only [List.getElem?_toArray]
          rcases Nat.lt_or_gt_of_ne hki with h | h
          · have : (k + 1) * z ≤ i * z := Nat.mul_le_mul_right _ h
            rw [Nat.add_mul] at this
            rw [List.append_assoc, List.getElem?_append_left (by simp; omega), List.getElem?_take, if_pos (by omega)]
            simp
          · have : (i + 1) * z ≤ k * z := Nat.mul_le_mul_right _ h
            rw [Nat.add_mul] at this
            rw [List.getElem?_append_right (by simp; omega), List.getElem?_drop]
            simp
            congr 1; omega
      · subst hq; cases hk
    · subst hq; cases hk
  · rename_i d sz i off
    split at hq
    · rename_i e' z n f y' hcs hcold
      split at hq
      · rename_i hc
        obtain ⟨rfl, c1, c2, c3, c4, c5, c6⟩ := hc
        subst hq
        have hin : i < n := hob _ (by simp)
        simp only [RepA] at hp1
        have hy := repA_cold hcold hy
        obtain ⟨uv, te, b, hu, hub, hv⟩ := hp1
        obtain ⟨v', xs, e1, z0, e2, e3, e4⟩ := H.vec hcs
        rw [hu] at e1
        injection e1 with e1
        injection e1 with e1 e5 e6
        subst e1 e5
        have g1 := rep_cells hy
        have hl : y'.cells.length = (ρ x).cells.size := by have := g1.length; simpa using this
        have g2 : ∀ q ∈ (ρ x).cells, q.oneCell' = true := by
          have := repAL_one (γ := γ) (RepAL.of_map g1) (by simpa [List.all_map, Function.comp_def, AV.one] using c5)
          intro q hq; exact this q (by simpa using hq)
        have hiz : i * z + z ≤ n * z := by have : (i + 1) * z ≤ n * z := Nat.mul_le_mul_right _ hin; rw [Nat.add_mul] at this; omega
        obtain ⟨cur, k1, k2, k3, k4⟩ := own_cur e2 hub
        have hrun := run_store_at (P := P) (t := t) (off := i * z + off) k1 (ρ x) (by omega) c2 (by omega) g2
        refine ⟨undef, _, γ, .inr ⟨rfl, by rw [hv, Sem.run_bind, hrun]; rfl⟩, ?_⟩
        have hlen : (cur.toList.take (i * z + off) ++ (ρ x).cells.toList ++ cur.toList.drop (i * z + off + (ρ x).cells.size)).toArray.size = cur.size := by
          simp only [List.size_toArray, List.length_append, List.length_take, List.length_drop, Array.length_toList]; omega
        refine stp_writeAt H id hcs rfl hu (by show w.grownBy _ uv.ownBlock; rw [hub]; exact grown_setRow w b _) ⟨n, _, _, rfl, z0, k4 _ hlen, fun k hk => ?_⟩ (by simp only [RepA]) _ rfl rfl rfl rfl
        have hget : ∀ q, q < n * z → ((cur.toList.take (i * z + off) ++ (ρ x).cells.toList ++ cur.toList.drop (i * z + off + (ρ x).cells.size)).toArray.toList.take (n * z))[q]? = if q < i * z + off then xs[q]? else if q < i * z + off + (ρ x).cells.size then (ρ x).cells[q - (i * z + off)]? else xs[q]? := fun q hq => by
          have := get_splice cur.toList (ρ x).cells.toList (i * z + off) (by simp; omega) q
          rw [List.getElem?_take, if_pos hq]
          simp only [Array.length_toList] at this
          rw [this, ← k3, List.getElem?_take, if_pos hq]
          simp
        obtain ⟨u, q1, q2, q3, q4⟩ := e3 k hk
        have hkz : k * z + z ≤ n * z := by have : (k + 1) * z ≤ n * z := Nat.mul_le_mul_right _ hk; rw [Nat.add_mul] at this; omega
        by_cases hki : k = i
        · subst hki
          obtain ⟨u', r1, r2, r3, r4⟩ := rep_setD (off := off) q1 hy (by omega) (by omega)
          refine ⟨u', by simpa using r1, by omega, fun q hq => ?_, fun j hj => ?_⟩
          · rcases r3 q hq with h | h
            · exact g2 q h
            · exact q3 q h
          · rw [hget _ (by omega), r4 j (by omega)]
            by_cases h1 : j < off
            · rw [if_pos (by omega), if_pos h1]; exact q4 j hj
            · rw [if_neg (by omega), if_neg h1]
              by_cases h2 : j < off + (ρ x).cells.size
              · rw [if_pos (by omega), if_pos h2]; congr 1; omega
              · rw [if_neg (by omega), if_neg h2]; exact q4 j hj
        · refine ⟨u, by simpa [hki] using q1, q2, q3, fun j hj => ?_⟩
          rw [hget _ (by omega), ← q4 j hj]
          rcases Nat.lt_or_gt_of_ne hki with h | h
          · have : (k + 1) * z ≤ i * z := Nat.mul_le_mul_right _ h
            rw [Nat.add_mul] at this
            rw [if_pos (by omega)]
          · have : (i + 1) * z ≤ k * z := Nat.mul_le_mul_right _ h
            rw [Nat.add_mul] at this
            rw [if_neg (by omega), if_neg (by omega)]
      · subst hq; cases hk
    · subst hq; cases hk
  · subst hq; cases hk
theorem does_copy (H : Hp own hp live γ w) (id : Nat) {o : Oper} {args : Array Operand} {ts : Array TypeId} (ho : o.op = .call { callee := .builtin .copy, args := args, argTypes := ts }) (e : Operand → AV) (hr : ∀ y ∈ args, RepA γ (e y) (ρ y)) (hk : (copyQ P hp (args.toList.map e) ts.toList).ok = true) (hob : ∀ z ∈ (copyQ P hp (args.toList.map e) ts.toList).ob, z) :
    Does P own hp live γ w ρ o id (copyQ P hp (args.toList.map e) ts.toList) := by
  unfold Does
  generalize hq : copyQ P hp (args.toList.map e) ts.toList = q at *
  have hqk := hk
  unfold copyQ at hq
  split at hq
  · rename_i s x t t2 hargs hts
    obtain ⟨a, b, rfl, ha, hb⟩ := args2 hargs
    have hr1 := hr a (by simp)
    have hr2 := hr b (by simp)
    rw [ha] at hr1
    rw [hb] at hr2
    obtain rfl : ts = #[t, t2] := by cases ts; simp_all
    rw [← hq] at hk
    obtain ⟨el, hel, h3⟩ := optQ_ok hk
    rw [h3] at hk hq
    have hu := elemT_some hel
    obtain ⟨⟨z, m, g⟩, hx, h4⟩ := optQ_ok hk
    rw [h4] at hk hq
    dsimp only at hk hq
    have exec : ∀ (v' : Value) (w' : World), (Builtin.copy_ #[t, t2] o.type #[ρ a, ρ b]).run P w = .ok v' w' → (execOp ρ o).run P w = .ok (.value v') w' := fun v' w' h => by
      unfold execOp
      simp only [ho, resolve, invoke, builtin, Sem.run_bind, Sem.run_pure, Result.andThen_ok, List.map_toArray, List.map_cons, List.map_nil]
      rw [h]; rfl
    split at hq
    · rename_i d sz n
      split at hq
      · rename_i s' k f hcs
        split at hq
        · rename_i hc
          obtain ⟨rfl, hz, c2, rfl⟩ := hc
          subst hq
          obtain rfl : k = n := hob _ (by simp)
          simp only [RepA] at hr1
          obtain ⟨b0, c0, hb0, hv, hn1, hn2⟩ := hr1
          obtain ⟨b', x', e1, e2, e3, e4, e5⟩ := H.blk hcs rfl
          obtain rfl : b' = b0 := by rw [hb0] at e1; injection e1 with e1; injection e1 with e1; exact e1.symm
          obtain ⟨vs, te, rfl, f1, f2⟩ := e3
          obtain ⟨A, c, news, hvx, hrd, hone, hel2⟩ := rep_rd (size := 1) H.fz (asSl_some hx hr2) (by omega) (by omega)
          obtain ⟨i, hi⟩ := sizeT_info (P := P) (t := el) (by omega)
          have hsz : (P.info? el).map (·.size) = some 1 := by rw [hi]; simp; simpa [sizeT, hi] using c2
          have hlen : news.length = m := by simpa using hrd.len
          by_cases hmin : Nat.min m k = 0
          · have hrun := run_copy_none (P := P) w t t2 o.type el (some ⟨b', 0, none⟩) A k c0 m c hu hsz hmin
            refine ⟨_, w, γ, .inl (exec _ _ (by rw [hv, hvx]; exact hrun)), ?_⟩
            refine stp_write H id hcs rfl hb0 (World.grownBy.refl w _) e2 ?_ (by simp only [RepA, Rep, goInt]; rw [show min m k = 0 from hmin]; rfl) _ rfl rfl rfl rfl
            refine ⟨vs, te, rfl, f1, fun j hj => ?_⟩
            have : m = 0 := by simp only [Nat.min_def] at hmin; split at hmin <;> omega
            subst this
            simpa using f2 j hj
          · have hm : 0 < m := by simp only [Nat.min_def] at hmin; split at hmin <;> omega
            obtain ⟨bs, os, rfl, hbs, hcell⟩ := hrd.at_ hm
            let cs := news.take (Nat.min m k)
            have hcl : cs.length = Nat.min m k := by simp only [cs, List.length_take, hlen]; exact Nat.min_eq_left (Nat.min_le_left _ _)
            have hk' : Nat.min m k ≤ k := Nat.min_le_right _ _
            have hrun := run_copy_row (P := P) w t t2 o.type el b' 0 k c0 ⟨bs, os, none⟩ m c vs te cs hu hsz e2 hcl (fun j v hj => by
              rw [cell_mid]
              refine hcell j v ?_
              simp only [cs, List.getElem?_take] at hj
              split at hj
              · exact hj
              · cases hj) (by omega) (fun v hv => hone v (List.mem_of_mem_take hv))
            refine ⟨_, _, γ, .inl (exec _ _ (by rw [hv, hvx]; exact hrun)), ?_⟩
            refine stp_write H id hcs rfl hb0 (grown_setRow w b' _) (setRow_heap w b' _ _ te _ e2) ?_ (by simp only [RepA, Rep, goInt]; rw [hcl]) _ rfl rfl rfl rfl
            refine ⟨_, te, rfl, by simp; omega, fun j hj => ?_⟩
            by_cases hjm : j < m
            · obtain ⟨u, q1, q2, q3, q4⟩ := hel2 j hjm
              refine ⟨u, by simpa [hjm] using q1, q2, q3, fun l hl => ?_⟩
              rw [← q4 l hl]
              obtain rfl : l = 0 := by omega
              have hlt : j < Nat.min m k := Nat.lt_min.2 ⟨hjm, hj⟩
              simp [cs, List.getElem?_append, hcl, hlt, List.getElem?_take]
            · obtain ⟨u, q1, q2, q3, q4⟩ := f2 j hj
              refine ⟨u, by simpa [hjm] using q1, q2, q3, fun l hl => ?_⟩
              rw [← q4 l hl]
              obtain rfl : l = 0 := by omega
              have hlt : ¬ j < cs.length := by rw [hcl]; simp only [Nat.min_def]; split <;> omega
              simp [List.getElem?_append, hlt]
              congr 1; omega
        · subst hq; cases hqk
      · subst hq; cases hqk
    · subst hq; cases hqk
  · subst hq; cases hqk
/-- An append that makes an own row, which may be written. -/
def appendRowQ (P : Program) (id : Nat) (args : List AV) (ts : List TypeId) : Q :=
  match args, ts with
  | [s, x], [t, u] =>
    if t = u then
      optQ (elemT P t) fun el => optQ (asSl x) fun (sz, m, g) => match s with
        | .ap z n f r => (match r with
          | .nl => if n = 0 then appQ P el sz m fun b z => { ob := [0 < m, m * b ≤ 140737488355328], v := .arr id z m, new := some (.arr z m g) } else .no
          | .tok tk te => if n = 0 then appQ P el sz m fun b y => if te = el ∧ z = y then { ob := [0 < m, m * b ≤ 140737488355328], v := .arr id y m, new := some (.arr y m g), kill := some tk } else .no else .no)
        | _ => .no
    else .no
  | _, _ => .no
/-- A new object at a place that is own; an old one may go. -/
theorem stp_newAt (H : Hp own hp live γ w) {id : Nat} (h1 : γ.ι id = none) (h2 : γ.τ id = none) (hid : hp id = none) {live' : Nat → Prop} (hl : ∀ t, live' t → live t ∧ t ≠ id) (old : Option Nat) (p : Pl) (o : Ob) {v : AV} {u : Value}
    (hobj : ∀ γ', LeG γ γ' → ObjAt γ' w' o p) (hgr : w.grownBy w' p.block) (a1 : ∀ g, p.block = some g → own g) (a2 : ∀ g, p.block = some g → ∀ k, γ.μ g k = none)
    (a3 : ∀ g j oj q, p.block = some g → hp j = some oj → oj.ok = true → some j ≠ old → γ.ι j = some q → q.block ≠ some g) (a4 : ∀ g t u, p.block = some g → live' t → γ.τ t = some u → u.1.ownBlock = none ∨ u.1.ownBlock ≠ some g)
    (hv : ∀ γ' : G, γ'.ι id = some p → RepA γ' v u) :
    ∃ γ', Stp own hp live γ w id (fun j => if some j = old then some .gone else addF id (some o) hp j) live' v u γ' w' := by
  let γ' : G := ⟨γ.μ, fun j => if j = id then some p else γ.ι j, γ.τ⟩
  have hι : ∀ j, j ≠ id → γ'.ι j = γ.ι j := fun j hj => if_neg hj
  have hi : γ'.ι id = some p := if_pos rfl
  have le : LeG γ γ' := ⟨fun _ _ _ h => h, fun i b h => by rw [hι i (fun e => by rw [e, h1] at h; cases h)]; exact h, fun _ _ h => h⟩
  have hA : ∀ j oj, (if some j = old then some .gone else addF id (some o) hp j) = some oj → oj.ok = true → some j ≠ old ∧ ((j = id ∧ oj = o) ∨ (j ≠ id ∧ hp j = some oj)) := fun j oj h ho => by
    split at h
    · injection h with h; subst h; cases ho
    · rename_i hne
      refine ⟨hne, ?_⟩
      simp only [addF] at h
      split at h
      · rename_i e; injection h with h; exact .inl ⟨e, h.symm⟩
      · rename_i e; exact .inr ⟨e, h⟩
  have far : ∀ {c k : Nat} {y : Value}, γ.μ c k = some y → some c ≠ p.block := fun h e => by rw [a2 _ e.symm] at h; cases h
  refine ⟨γ', le, ⟨fun c k y hy => ?_, fun j oj hj ho => ?_, fun i j oi oj pi pj hi' hj ho1 ho2 hne hpi hpj => ?_, fun t u e' z' ht hq => ?_, fun s t vs vt hs ht => H.tinj s t vs vt (hl s hs).1 (hl t ht).1⟩, base_grown hgr a1, hv γ' hi, fun j hj => ⟨hι j (by omega), rfl⟩, fun _ _ _ _ => rfl⟩
  · rw [World.cell?_of_block (w := w) (hgr.block c (fz_lt H.fz hy) (far hy))]
    exact H.fz c k y hy
  · obtain ⟨hno, h⟩ := hA j oj hj ho
    rcases h with ⟨rfl, rfl⟩ | ⟨hne, hj⟩
    · exact ⟨p, hi, hobj γ' le, fun b hb => ⟨a1 b hb, a2 b hb⟩⟩
    · obtain ⟨q, f1, f2, f3⟩ := H.obj j oj hj ho
      exact ⟨q, by rw [hι j hne]; exact f1, f2.kept le fun b hb => hgr.block b (f2.lt hb) fun e => a3 b j oj q e.symm hj ho hno f1 hb, f3⟩
  · obtain ⟨no1, c1⟩ := hA i oi hi' ho1
    obtain ⟨no2, c2⟩ := hA j oj hj ho2
    rcases c1 with ⟨rfl, rfl⟩ | ⟨n1, k1⟩ <;> rcases c2 with ⟨rfl, rfl⟩ | ⟨n2, k2⟩
    · exact absurd rfl hne
    · rw [hi] at hpi
      injection hpi with hpi
      subst hpi
      rw [hι j n2] at hpj
      cases hb : p.block with
      | none => exact .inl rfl
      | some g => exact .inr fun e => a3 g j oj pj hb k2 ho2 no2 hpj e.symm
    · rw [hi] at hpj
      injection hpj with hpj
      subst hpj
      rw [hι i n1] at hpi
      cases hb : pi.block with
      | none => exact .inl rfl
      | some g => exact .inr fun e => a3 g i oi pi e.symm k1 ho1 no1 hpi hb
    · rw [hι i n1] at hpi
      rw [hι j n2] at hpj
      exact H.inj i j oi oj pi pj k1 k2 ho1 ho2 hne hpi hpj
  · obtain ⟨ht1, ht2⟩ := hl t ht
    obtain ⟨n, ys, q1, q2⟩ := H.tok t u e' z' ht1 hq
    have hob : u.ownBlock = none ∨ u.ownBlock ≠ p.block := by
      cases hb : u.ownBlock with
      | none => exact .inl rfl
      | some g =>
        refine .inr fun e => ?_
        rcases a4 g t _ e.symm ht hq with h | h
        · rw [hb] at h; cases h
        · exact h hb
    refine ⟨n, ys, q1.kept hgr hob, fun b hb => ?_⟩
    obtain ⟨r1, r2, r3⟩ := q2 b hb
    refine ⟨r1, r2, fun j oj pj hj ho hpj => ?_⟩
    obtain ⟨no, c⟩ := hA j oj hj ho
    rcases c with ⟨rfl, rfl⟩ | ⟨n2, k2⟩
    · rw [hi] at hpj
      injection hpj with hpj
      subst hpj
      intro e
      rcases hob with h' | h'
      · rw [hb] at h'; cases h'
      · exact h' (by rw [hb, e])
    · rw [hι j n2] at hpj; exact r3 j oj pj k2 ho hpj
theorem stp_row (H : Hp own hp live γ w) {id : Nat} (h1 : γ.ι id = none) (h2 : γ.τ id = none) (hid : hp id = none) {live' : Nat → Prop} (hl : ∀ t, live' t → live t ∧ t ≠ id) {v : Value} {e : TypeId} {sz m g : Nat} {xs : List Value} {F : Nat → D}
    (ow : w'.ownsRow 0 e sz v m xs) (hm : 0 < m) (hF : ∀ k, k < m → ∃ u, Rep γ.μ (F k) u ∧ u.cells.size = sz ∧ (∀ x ∈ u.cells, x.oneCell' = true) ∧ ∀ j, j < sz → xs[k * sz + j]? = u.cells[j]?)
    (hg : v.ownBlock = some g) (hgr : w.grownBy w' (some g)) (a1 : own g) (a2 : ∀ k, γ.μ g k = none) (a3 : ∀ j o q, hp j = some o → o.ok = true → γ.ι j = some q → q.block ≠ some g) (a4 : ∀ t u, live' t → γ.τ t = some u → u.1.ownBlock = none ∨ u.1.ownBlock ≠ some g) :
    ∃ γ', Stp own hp live γ w id (addF id (some (.arr sz m F)) hp) live' (.arr id sz m) v γ' w' := by
  rcases ow.2 with ⟨_, h0⟩ | ⟨g', cap, cur, rfl, _, hh, c1, c2, c3, c4⟩
  · omega
  obtain rfl : g' = g := by simpa [Value.ownBlock] using hg
  have key : ∀ {b : Nat}, (Pl.blk g').block = some b → b = g' := fun h => by simp only [Pl.block, Option.some.injEq] at h; exact h.symm
  have := stp_newAt H h1 h2 hid hl none (.blk g') (.arr sz m F) (v := .arr id sz m) (u := .slice (some ⟨g', 0, none⟩) m cap) (w' := w') (fun γ' le => ⟨_, hh, cur, e, rfl, by rw [c3]; exact Nat.mul_le_mul_right _ c1, fun i him => by
      obtain ⟨u, q1, q2, q3, q4⟩ := hF i him
      refine ⟨u, Rep.mono le.μ _ _ q1, q2, q3, fun j hj => ?_⟩
      rw [← q4 j hj]
      have hlt : i * sz + j < m * sz := by
        have : (i + 1) * sz ≤ m * sz := Nat.mul_le_mul_right _ him
        rw [Nat.add_mul] at this; omega
      rw [← c4, List.getElem?_take, if_pos hlt]
      simp⟩) hgr (fun b hb => by rw [key hb]; exact a1) (fun b hb => by rw [key hb]; exact a2) (fun b j oj q hb hj ho _ hq => by rw [key hb]; exact a3 j oj q hj ho hq) (fun b t u hb ht hq => by rw [key hb]; exact a4 t u ht hq)
      (fun γ' hi => by simp only [RepA]; exact ⟨g', cap, hi, rfl, c1, c2⟩)
  simpa using this
/-- A fresh row. -/
theorem stp_rowNew (H : Hp own hp live γ w) {id : Nat} (h1 : γ.ι id = none) (h2 : γ.τ id = none) (hid : hp id = none) (hown : ∀ b, w.heap.size ≤ b → own b) {live' : Nat → Prop} (hl : ∀ t, live' t → live t ∧ t ≠ id) {v : Value} {e : TypeId} {sz m : Nat} {xs : List Value} {F : Nat → D}
    (ow : w'.ownsRow 0 e sz v m xs) (hm : 0 < m) (hF : ∀ k, k < m → ∃ u, Rep γ.μ (F k) u ∧ u.cells.size = sz ∧ (∀ x ∈ u.cells, x.oneCell' = true) ∧ ∀ j, j < sz → xs[k * sz + j]? = u.cells[j]?)
    (hx : Ext w w') (hg : v.ownBlock = some w.heap.size) : ∃ γ', Stp own hp live γ w id (addF id (some (.arr sz m F)) hp) live' (.arr id sz m) v γ' w' := by
  refine stp_row H h1 h2 hid hl ow hm hF hg ⟨hx.os, hx.tape, hx.output, hx.size, fun k hk _ => hx.block k hk⟩ (hown _ (Nat.le_refl _)) (fun k => ?_) (fun j o q hj ho hq e => ?_) (fun t u ht hq => ?_)
  · cases hmu : γ.μ w.heap.size k with
    | none => rfl
    | some y => exact absurd (fz_lt H.fz hmu) (by omega)
  · obtain ⟨q', f1, f2, _⟩ := H.obj j o hj ho
    rw [hq] at f1; injection f1 with f1; subst f1
    exact absurd (f2.lt e) (by omega)
  · obtain ⟨n, ys, q1, _⟩ := H.tok t u.1 u.2.1 u.2.2 (hl t ht).1 hq
    cases hb : u.1.ownBlock with
    | none => exact .inl rfl
    | some b => exact .inr fun e => by injection e with e; have := (q1.lt b hb).2; omega
theorem does_appendRow (H : Hp own hp live γ w) {id : Nat} (h1 : γ.ι id = none) (h2 : γ.τ id = none) (hid : hp id = none) (hlv : ¬ live id) (hown : ∀ b, w.heap.size ≤ b → own b) {o : Oper} {args : Array Operand} {ts : Array TypeId}
    (ho : o.op = .call { callee := .builtin .append, args := args, argTypes := ts }) (e : Operand → AV) (hr : ∀ y ∈ args, RepA γ (e y) (ρ y)) (hk : (appendRowQ P id (args.toList.map e) ts.toList).ok = true)
    (hob : ∀ z ∈ (appendRowQ P id (args.toList.map e) ts.toList).ob, z) (hkill : ∀ tk, (appendRowQ P id (args.toList.map e) ts.toList).kill = some tk → live tk) : Does P own hp live γ w ρ o id (appendRowQ P id (args.toList.map e) ts.toList) := by
  generalize hq : appendRowQ P id (args.toList.map e) ts.toList = q at *
  have hqk : q.ok = true := hk
  unfold appendRowQ at hq
  split at hq
  · rename_i s x t u hargs hts
    obtain ⟨a, b, rfl, ha, hb⟩ := args2 hargs
    have hr1 := hr a (by simp)
    have hr2 := hr b (by simp)
    rw [ha] at hr1
    rw [hb] at hr2
    obtain rfl : ts = #[t, u] := by cases ts; simp_all
    split at hq
    · rename_i htu
      subst htu
      rw [← hq] at hk
      obtain ⟨el, hel, h3⟩ := optQ_ok hk
      rw [h3] at hk hq
      have hu := elemT_some hel
      obtain ⟨⟨sz, m, g⟩, hx, h4⟩ := optQ_ok hk
      rw [h4] at hk hq
      simp only at hk hq
      have exec : ∀ (v' : Value) (w' : World), (Builtin.append_ #[t, t] o.type #[ρ a, ρ b]).run P w = .ok v' w' → (execOp ρ o).run P w = .ok (.value v') w' := fun v' w' h => by
        unfold execOp
        simp only [ho, resolve, invoke, builtin, Sem.run_bind, Sem.run_pure, Result.andThen_ok, List.map_toArray, List.map_cons, List.map_nil]
        rw [h]; rfl
      split at hq
      · rename_i z0 n f r
        cases r with
        | nl =>
          simp only at hq
          split at hq
          · rename_i hn0
            subst hn0
            simp only [RepA, RightOk] at hr1
            unfold appQ at hq
            split at hq
            · rename_i i hi
              split at hq
              · rename_i z hz
                split at hq
                · rename_i hc
                  obtain ⟨c1, c2, c3, c4⟩ := hc
                  subst hq
                  have hm0 : 0 < m := hob _ (by simp)
                  have hby : m * i.bytes ≤ 140737488355328 := hob _ (by simp)
                  obtain ⟨A, c, news, hv, hrd, hone, hel2⟩ := rep_rd H.fz (asSl_some hx hr2) (by omega : sz = i.size ∨ m = 0) c2
                  have hm63 : m ≤ maxLen := by
                    have := hrd.cap; have := hrd.max; omega
                  obtain ⟨v', w', hrun, ho1, ho2, ho3⟩ := run_append_any (P := P) w 0 t o.type el i z i.size i.bytes hu hi hz rfl rfl (by omega) c2 (ρ a) 0 [] (by rw [hr1.2]; exact World.ownsRow_nil w 0 el i.size) A m c news hrd hone (by omega) (by rw [Nat.zero_add]; exact hby) (Nat.zero_le _)
                  rw [hr1.2] at ho2 ho3
                  have hx2 : Ext w w' := ⟨ho2.os, ho2.tape, ho2.output, ho2.size, fun k hk => ho2.block k hk (by simp [Value.ownBlock])⟩
                  simp only [Nat.zero_add, List.nil_append] at ho1
                  have hob' : v'.ownBlock = some w.heap.size := by
                    rcases ho3 with h | h
                    · rcases ho1.2 with ⟨_, h0⟩ | ⟨g', cap, cur, rfl, _⟩
                      · omega
                      · simp [Value.ownBlock] at h
                    · exact h
                  obtain ⟨γ', h6⟩ := stp_rowNew (live' := live) H h1 h2 hid hown (fun t ht => ⟨ht, fun e => hlv (e ▸ ht)⟩) ho1 hm0 (F := g) hel2 hx2 hob'
                  refine ⟨v', w', γ', .inl (exec v' w' (by rw [hv]; exact hrun)), ?_⟩
                  rw [effH_of rfl, effL_of rfl]
                  show Stp own hp live γ w id _ (addL id false live) _ v' γ' w'
                  rw [addL_false]
                  exact h6
                · subst hq; cases hqk
              · subst hq; cases hqk
            · subst hq; cases hqk
          · subst hq; cases hqk
        | tok tk te =>
          simp only at hq
          split at hq
          · rename_i hn0
            subst hn0
            simp only [RepA, RightOk] at hr1
            unfold appQ at hq
            split at hq
            · rename_i i hi
              split at hq
              · rename_i z hz
                split at hq
                · rename_i hc
                  obtain ⟨c1, c2, c3, c4⟩ := hc
                  dsimp only at hq
                  split at hq
                  · rename_i hte
                    obtain ⟨rfl, rfl⟩ := hte
                    subst hq
                    have hlk : live tk := hkill tk rfl
                    have hm0 : 0 < m := hob _ (by simp)
                    have hby : m * i.bytes ≤ 140737488355328 := hob _ (by simp)
                    obtain ⟨A, c, news, hv, hrd, hone, hel2⟩ := rep_rd H.fz (asSl_some hx hr2) (by omega : sz = i.size ∨ m = 0) c2
                    have hm63 : m ≤ maxLen := by
                      have := hrd.cap; have := hrd.max; omega
                    obtain ⟨hd, hrt⟩ := hr1
                    have hlive : ∀ t, (live t ∧ some tk ≠ some t) → live t ∧ t ≠ id := fun t ht => ⟨ht.1, fun e => hlv (e ▸ ht.1)⟩
                    have done : ∀ (v' : Value) (w' : World) (γ' : G), (execOp ρ o).run P w = .ok (.value v') w' → Stp own hp live γ w id (addF id (some (.arr i.size m g)) hp) (fun t => live t ∧ some tk ≠ some t) (.arr id i.size m) v' γ' w' →
                        Does P own hp live γ w ρ o id { ob := [0 < m, m * i.bytes ≤ 140737488355328], v := .arr id i.size m, new := some (.arr i.size m g), kill := some tk } := fun v' w' γ' k1 k2 =>
                      ⟨v', w', γ', .inl k1, (show Stp own hp live γ w id _ _ _ v' γ' w' from (by rw [effH_of rfl]; exact k2)).lives fun t ht => by
                        rcases ht with ht | ht
                        · exact ht
                        · cases ht.1⟩
                    by_cases hnil : ρ a = .slice none 0 0
                    · obtain ⟨v', w', hrun, ho1, ho2, ho3⟩ := run_append_any (P := P) w 0 t o.type te i z i.size i.bytes hu hi hz rfl rfl (by omega) c2 (ρ a) 0 [] (by rw [hnil]; exact World.ownsRow_nil w 0 te i.size) A m c news hrd hone (by omega) (by rw [Nat.zero_add]; exact hby) (Nat.zero_le _)
                      rw [hnil] at ho2 ho3
                      have hx2 : Ext w w' := ⟨ho2.os, ho2.tape, ho2.output, ho2.size, fun k hk => ho2.block k hk (by simp [Value.ownBlock])⟩
                      simp only [Nat.zero_add, List.nil_append] at ho1
                      have hob' : v'.ownBlock = some w.heap.size := by
                        rcases ho3 with h | h
                        · rcases ho1.2 with ⟨_, h0⟩ | ⟨g', cap, cur, rfl, _⟩
                          · omega
                          · simp [Value.ownBlock] at h
                        · exact h
                      obtain ⟨γ', h6⟩ := stp_rowNew H h1 h2 hid hown hlive ho1 hm0 (F := g) hel2 hx2 hob'
                      exact done v' w' γ' (exec v' w' (by rw [hv]; exact hrun)) h6
                    · have hτ : γ.τ tk = some (ρ a, te, i.size) := hrt.resolve_right hnil
                      obtain ⟨n0, xs, ow, ow2⟩ := H.tok tk _ _ _ hlk hτ
                      simp only [Rep] at hd
                      obtain ⟨A1, cap1, hva, _, _, _⟩ := hd
                      rcases ow.2 with ⟨h, _⟩ | ⟨b0, cap, cur, hvb, _, hhb, hcc, _, hcs, htk⟩
                      · exact absurd h hnil
                      · rw [hva] at hvb
                        injection hvb with e1 e2 e3
                        subst e1 e2 e3
                        rw [hva] at ow ow2
                        obtain rfl : xs = [] := List.eq_nil_of_length_eq_zero (by rw [ow.1]; omega)
                        obtain ⟨v', w', hrun, ho1, ho3⟩ := run_append_split (P := P) (w := w) t o.type te i z i.size i.bytes hu hi hz rfl rfl (by omega) c2 b0 0 cap1 [] ow A m c news hrd hone (by omega) (by rw [Nat.zero_add]; exact hby)
                        have run2 := exec v' w' (by rw [hva, hv]; exact hrun)
                        simp only [Nat.zero_add, List.nil_append] at ho1
                        rw [hva] at hτ
                        rcases ho3 with ⟨o3, o4⟩ | ⟨o3, o4⟩
                        · obtain ⟨r1, r2, r3⟩ := ow2 b0 rfl
                          obtain ⟨γ', h6⟩ := stp_row H h1 h2 hid hlive ho1 hm0 (F := g) hel2 o3 o4 r1 (fun k => r2 k (by omega)) r3 (fun t u ht hq => by
                            have := H.tinj t tk u _ ht.1 hlk (fun h => ht.2 (by rw [h])) hq hτ
                            exact this)
                          exact done v' w' γ' run2 h6
                        · obtain ⟨γ', h6⟩ := stp_rowNew H h1 h2 hid hown hlive ho1 hm0 (F := g) hel2 o4 o3
                          exact done v' w' γ' run2 h6
                  · subst hq; cases hqk
                · subst hq; cases hqk
              · subst hq; cases hqk
            · subst hq; cases hqk
          · subst hq; cases hqk
      · subst hq; cases hqk
    · subst hq; cases hk
  · subst hq; cases hk
end Go.Av
