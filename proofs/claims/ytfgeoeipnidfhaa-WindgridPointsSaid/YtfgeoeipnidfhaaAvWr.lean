/- Operations that write into the function's own memory. -/
import Derived.Test.YtfgeoeipnidfhaaAvNew
import Derived.Laws.CopyRow
namespace Go.Av
open Go.RowKit Go.Base
variable {P : Program} {γ γ' : G} {w w' : World} {own : Nat → Prop} {hp : Nat → Option Ob} {live : Nat → Prop} {ρ : Operand → Value}

theorem foldl_out : ∀ (us : List Value) (off : Nat) (vs : List Value), off + us.length ≤ vs.length → (us.zipIdx off).foldl (fun a p => a.set p.2 p.1) vs = vs.take off ++ us ++ vs.drop (off + us.length)
  | [], off, vs, _ => by simp
  | u :: us, off, vs, h => by
    simp only [List.zipIdx_cons, List.foldl_cons]
    rw [foldl_out us (off + 1) (vs.set off u) (by simp at h ⊢; omega)]
    have := list_seg_step vs off u us (by simp at h ⊢; omega)
    simpa [Nat.add_assoc] using this
theorem repAL_append : ∀ {a b : List AV} {x y : List Value}, RepAL γ a x → RepAL γ b y → RepAL γ (a ++ b) (x ++ y)
  | [], _, _, _, h, k => by simp only [RepAL] at h; subst h; simpa using k
  | c :: a, _, _, _, h, k => by
    simp only [RepAL] at h
    obtain ⟨v, t, rfl, h1, h2⟩ := h
    simp only [List.cons_append, RepAL]
    exact ⟨v, _, rfl, h1, repAL_append h2 k⟩
/-- An object of one's own is written. -/
theorem stp_write (H : Hp own hp live γ w) (id : Nat) {d b : Nat} {o o' : Ob} {x' : Go.Obj} (hd : hp d = some o) (hb : γ.ι d = some b) (hg : w.grownBy w' (some b)) (hx : w'.heap[b]? = some x') (hr : RepO γ o' x') {v : AV} {u : Value} (hv : RepA γ v u) (q : Q) (h1 : q.upd = some (d, o')) (h2 : q.new = none) (h3 : q.tok = false) (h4 : q.kill = none)  (hm : q.mo = none := by rfl) :
    Stp own hp live γ w id (effH id q hp) (effL id q live) v u γ w' := by
  obtain ⟨b', x, e1, e2, e3, e4, e5⟩ := H.obj d o hd
  obtain rfl : b' = b := by rw [hb] at e1; injection e1 with e1; exact e1.symm
  have hH : ∀ j, effH id q hp j = if j = d then some o' else hp j := fun j => by simp only [effH, hm, h1, h2, addF]
  have hL : effL id q live = live := by rw [effL_of h4 hm, h3, addL_false]
  have cases_ : ∀ j oj, effH id q hp j = some oj → ∃ oj', hp j = some oj' := fun j oj h => by
    rw [hH] at h
    split at h
    · rename_i h'; exact ⟨o, by rw [h']; exact hd⟩
    · exact ⟨oj, h⟩
  refine ⟨LeG.refl _, ?_, base_grown hg (fun g hg' => by injection hg' with hg'; rw [← hg']; exact e4), hv, fun _ _ => ⟨rfl, rfl⟩, fun _ _ _ _ => rfl⟩
  rw [hL]
  refine ⟨fun c k y hy => ?_, fun j oj h => ?_, fun i j oi oj hi hj hne => ?_, fun t v e sz hl hq => ?_, H.tinj⟩
  · have hc : c ≠ b' := fun h => by rw [h, e5] at hy; cases hy
    rw [World.cell?_of_block (w := w) (hg.block c (fz_lt H.fz hy) (fun h => hc (by injection h)))]
    exact H.fz c k y hy
  · rw [hH] at h
    split at h
    · rename_i hj
      subst hj
      injection h with h
      subst h
      exact ⟨b', x', hb, hx, hr, e4, e5⟩
    · rename_i hj
      obtain ⟨c, y, f1, f2, f3, f4, f5⟩ := H.obj j oj h
      have hc : c ≠ b' := fun h' => H.inj j d oj o h hd hj (by rw [f1, hb, h'])
      exact ⟨c, y, f1, by rw [hg.block c (Array.getElem?_eq_some_iff.1 f2).1 (fun h => hc (by injection h))]; exact f2, f3, f4, f5⟩
  · obtain ⟨oi', hi'⟩ := cases_ i oi hi
    obtain ⟨oj', hj'⟩ := cases_ j oj hj
    exact H.inj i j oi' oj' hi' hj' hne
  · obtain ⟨n, xs, q1, q2⟩ := H.tok t v e sz hl hq
    have hne : v.ownBlock = none ∨ v.ownBlock ≠ some b' := by
      cases ho : v.ownBlock with
      | none => exact .inl rfl
      | some g => exact .inr fun h => (q2 g ho).2.2 d o hd (by rw [hb, h])
    refine ⟨n, xs, q1.kept hg hne, fun g hg' => ?_⟩
    obtain ⟨r1, r2, r3⟩ := q2 g hg'
    refine ⟨r1, r2, fun j oj hj => ?_⟩
    obtain ⟨oj', hj'⟩ := cases_ j oj hj
    exact r3 j oj' hj'
theorem grown_setRow (w : World) (g : Nat) (cs : Array Value) : w.grownBy (w.setRow g cs) (some g) :=
  ⟨rfl, rfl, rfl, by simp [World.setRow], fun k _ hk => setRow_other w g k cs (fun h => hk (by rw [h]))⟩
theorem run_store_at {t : TypeId} {g off : Nat} {e : TypeId} {cur : Array Value} (hg : w.heap[g]? = some (.cells cur e (0, 0))) (v : Value) (hs : v.cells.size = sizeT P t) (hz : 0 < sizeT P t) (hl : off + sizeT P t ≤ cur.size) (h1 : ∀ x ∈ v.cells, x.oneCell' = true) :
    (Instr.storeAt t (.pointer (some ⟨g, off, none⟩)) v).run P w = .ok () (w.setRow g (cur.toList.take off ++ v.cells.toList ++ cur.toList.drop (off + v.cells.size)).toArray) := by
  obtain ⟨i, hi⟩ := sizeT_info (P := P) (t := t) (by omega)
  have := run_storeCells_at P g off e v.cells.toList 0 cur w hg (by simp; omega) (fun x hx => h1 x (by simpa using hx))
  simp only [Nat.add_zero, Array.length_toList] at this
  simp only [Instr.storeAt, Instr.sureAddr, storeVar, Sem.run_bind, Sem.run_pure, Result.andThen_ok, size_of hi, hs, ne_eq, not_true_eq_false, if_false, this]
theorem does_store (H : Hp own hp live γ w) (id : Nat) {o : Oper} {t : TypeId} {a x : Operand} (ho : o.op = .store t a x) {p y : AV} (hp1 : RepA γ p (ρ a)) (hy : RepA γ y (ρ x)) (hk : (storeQ P t hp p y).ok = true) (hob : ∀ z ∈ (storeQ P t hp p y).ob, z) (hd : o.dst = none ∨ True) :
    Does P own hp live γ w ρ o id (storeQ P t hp p y) := by
  unfold Does execOp
  simp only [ho]
  generalize hq : storeQ P t hp p y = q at *
  unfold storeQ at hq
  split at hq
  · rename_i d off
    split at hq
    · rename_i cs hcs
      split at hq
      · rename_i hc
        obtain ⟨hz, c1, c2, c3⟩ := hc
        subst hq
        simp only [RepA] at hp1
        obtain ⟨b, hb, hv⟩ := hp1
        obtain ⟨b', x', e1, e2, e3, e4, e5⟩ := H.obj d _ hcs
        obtain rfl : b' = b := by rw [hb] at e1; injection e1 with e1; exact e1.symm
        obtain ⟨vs, el, rfl, f1, f2⟩ := e3
        obtain ⟨g1, g2⟩ := repA_cells hy c3
        have hl : y.cells.length = (ρ x).cells.size := by have := g1.length; simpa using this
        have hlv := f1.length
        have hrun := run_store_at (P := P) (t := t) (off := off) e2 (ρ x) (by rw [← hl]; exact c1) hz (by simp; omega) g2
        refine ⟨undef, _, γ, .inr ⟨rfl, by rw [hv, Sem.run_bind, hrun]; rfl⟩, ?_⟩
        refine stp_write H id hcs hb (grown_setRow w b' _) (setRow_heap w b' _ _ el _ e2) ?_ (by simp only [RepA]) _ rfl rfl rfl rfl
        refine ⟨_, el, rfl, ?_, fun z hz => ?_⟩
        · have := repAL_fill off g1 f1
          rw [foldl_out _ _ _ (by simp; omega)] at this
          simpa using this
        · simp only [List.mem_append] at hz
          rcases hz with (hz | hz) | hz
          · exact f2 z (List.mem_of_mem_take hz)
          · exact g2 z (by simpa using hz)
          · exact f2 z (List.mem_of_mem_drop hz)
      · subst hq; cases hk
    · subst hq; cases hk
  · rename_i d sz i off
    split at hq
    · rename_i z n f y' hcs
      split at hq
      · rename_i hc
        obtain ⟨rfl, rfl, c2, c3, c4, c5⟩ := hc
        subst hq
        have hin : i < n := hob _ (by simp)
        simp only [RepA] at hp1 hy
        obtain ⟨b, hb, hv⟩ := hp1
        obtain ⟨b', x', e1, e2, e3, e4, e5⟩ := H.obj d _ hcs
        obtain rfl : b' = b := by rw [hb] at e1; injection e1 with e1; exact e1.symm
        obtain ⟨vs, el, rfl, f1, f2⟩ := e3
        have g1 := rep_cells hy
        have hl : y'.cells.length = (ρ x).cells.size := by have := g1.length; simpa using this
        have g2 : ∀ q ∈ (ρ x).cells, q.oneCell' = true := by
          have := repAL_one (γ := γ) (RepAL.of_map g1) (by simpa [List.all_map, Function.comp_def, AV.one] using c5)
          intro q hq; exact this q (by simpa using hq)
        have hiz : i * z + z ≤ n * z := by have : (i + 1) * z ≤ n * z := Nat.mul_le_mul_right _ hin; rw [Nat.add_mul] at this; omega
        have hsz : (ρ x).cells.size = z := by omega
        have hrun := run_store_at (P := P) (t := t) (off := i * z) e2 (ρ x) (by omega) (by omega) (by omega) g2
        refine ⟨undef, _, γ, .inr ⟨rfl, by rw [hv, Sem.run_bind, Nat.add_zero, hrun]; rfl⟩, ?_⟩
        refine stp_write H id hcs hb (grown_setRow w b' _) (setRow_heap w b' _ _ el _ e2) ?_ (by simp only [RepA]) _ rfl rfl rfl rfl
        refine ⟨_, el, rfl, by simp; omega, fun k hk => ?_⟩
        by_cases hki : k = i
        · subst hki
          refine ⟨ρ x, by simpa using hy, hsz, g2, fun j hj => ?_⟩
          simp only [List.getElem?_toArray]
          rw [List.append_assoc, List.getElem?_append_right (by simp; omega), List.getElem?_append_left (by simp; omega)]
          simp
          congr 1; omega
        · obtain ⟨u, q1, q2, q3, q4⟩ := f2 k hk
          refine ⟨u, by simpa [hki] using q1, q2, q3, fun j hj => ?_⟩
          rw [← q4 j hj]
          simp only [List.getElem?_toArray]
          rcases Nat.lt_or_gt_of_ne hki with h | h
          · have : (k + 1) * z ≤ i * z := Nat.mul_le_mul_right _ h
            rw [Nat.add_mul] at this
            rw [List.append_assoc, List.getElem?_append_left (by simp; omega), List.getElem?_take, if_pos (by omega)]
            simp
          · have : (i + 1) * z ≤ k * z := Nat.mul_le_mul_right _ h
            rw [Nat.add_mul] at this
            rw [List.getElem?_append_right (by simp; omega), List.getElem?_drop]
            simp
            congr 1; omega
      · subst hq; cases hk
    · subst hq; cases hk
  · subst hq; cases hk
theorem does_copy (H : Hp own hp live γ w) (id : Nat) {o : Oper} {args : Array Operand} {ts : Array TypeId} (ho : o.op = .call { callee := .builtin .copy, args := args, argTypes := ts }) (e : Operand → AV) (hr : ∀ y ∈ args, RepA γ (e y) (ρ y)) (hk : (copyQ P hp (args.toList.map e) ts.toList).ok = true) :
    Does P own hp live γ w ρ o id (copyQ P hp (args.toList.map e) ts.toList) := by
  unfold Does
  generalize hq : copyQ P hp (args.toList.map e) ts.toList = q at *
  have hqk := hk
  unfold copyQ at hq
  split at hq
  · rename_i s x t t2 hargs hts
    obtain ⟨a, b, rfl, ha, hb⟩ := args2 hargs
    have hr1 := hr a (by simp)
    have hr2 := hr b (by simp)
    rw [ha] at hr1
    rw [hb] at hr2
    obtain rfl : ts = #[t, t2] := by cases ts; simp_all
    rw [← hq] at hk
    obtain ⟨el, hel, h3⟩ := optQ_ok hk
    rw [h3] at hk hq
    have hu := elemT_some hel
    obtain ⟨⟨z, m, g⟩, hx, h4⟩ := optQ_ok hk
    rw [h4] at hk hq
    dsimp only at hk hq
    have exec : ∀ (v' : Value) (w' : World), (Builtin.copy_ #[t, t2] o.type #[ρ a, ρ b]).run P w = .ok v' w' → (execOp ρ o).run P w = .ok (.value v') w' := fun v' w' h => by
      unfold execOp
      simp only [ho, resolve, invoke, builtin, Sem.run_bind, Sem.run_pure, Result.andThen_ok, List.map_toArray, List.map_cons, List.map_nil]
      rw [h]; rfl
    split at hq
    · rename_i d sz n
      split at hq
      · rename_i s' k f hcs
        split at hq
        · rename_i hc
          obtain ⟨rfl, hz, rfl, c2, rfl⟩ := hc
          subst hq
          simp only [RepA] at hr1
          obtain ⟨b0, c0, hb0, hv, hn1, hn2⟩ := hr1
          obtain ⟨b', x', e1, e2, e3, e4, e5⟩ := H.obj d _ hcs
          obtain rfl : b' = b0 := by rw [hb0] at e1; injection e1 with e1; exact e1.symm
          obtain ⟨vs, te, rfl, f1, f2⟩ := e3
          obtain ⟨A, c, news, hvx, hrd, hone, hel2⟩ := rep_rd (size := 1) H.fz (asSl_some hx hr2) (by omega) (by omega)
          obtain ⟨i, hi⟩ := sizeT_info (P := P) (t := el) (by omega)
          have hsz : (P.info? el).map (·.size) = some 1 := by rw [hi]; simp; simpa [sizeT, hi] using c2
          have hlen : news.length = m := by simpa using hrd.len
          by_cases hmin : Nat.min m k = 0
          · have hrun := run_copy_none (P := P) w t t2 o.type el (some ⟨b', 0, none⟩) A k c0 m c hu hsz hmin
            refine ⟨_, w, γ, .inl (exec _ _ (by rw [hv, hvx]; exact hrun)), ?_⟩
            refine stp_write H id hcs hb0 (World.grownBy.refl w _) e2 ?_ (by simp only [RepA, Rep, goInt]; rw [show min m k = 0 from hmin]; rfl) _ rfl rfl rfl rfl
            refine ⟨vs, te, rfl, f1, fun j hj => ?_⟩
            have : m = 0 := by simp only [Nat.min_def] at hmin; split at hmin <;> omega
            subst this
            simpa using f2 j hj
          · have hm : 0 < m := by simp only [Nat.min_def] at hmin; split at hmin <;> omega
            obtain ⟨bs, os, rfl, hbs, hcell⟩ := hrd.at_ hm
            let cs := news.take (Nat.min m k)
            have hcl : cs.length = Nat.min m k := by simp only [cs, List.length_take, hlen]; exact Nat.min_eq_left (Nat.min_le_left _ _)
            have hk' : Nat.min m k ≤ k := Nat.min_le_right _ _
            have hrun := run_copy_row (P := P) w t t2 o.type el b' 0 k c0 ⟨bs, os, none⟩ m c vs te cs hu hsz e2 hcl (fun j v hj => by
              rw [cell_mid]
              refine hcell j v ?_
              simp only [cs, List.getElem?_take] at hj
              split at hj
              · exact hj
              · cases hj) (by omega) (fun v hv => hone v (List.mem_of_mem_take hv))
            refine ⟨_, _, γ, .inl (exec _ _ (by rw [hv, hvx]; exact hrun)), ?_⟩
            refine stp_write H id hcs hb0 (grown_setRow w b' _) (setRow_heap w b' _ _ te _ e2) ?_ (by simp only [RepA, Rep, goInt]; rw [hcl]) _ rfl rfl rfl rfl
            refine ⟨_, te, rfl, by simp; omega, fun j hj => ?_⟩
            by_cases hjm : j < m
            · obtain ⟨u, q1, q2, q3, q4⟩ := hel2 j hjm
              refine ⟨u, by simpa [hjm] using q1, q2, q3, fun l hl => ?_⟩
              rw [← q4 l hl]
              obtain rfl : l = 0 := by omega
              have hlt : j < Nat.min m k := Nat.lt_min.2 ⟨hjm, hj⟩
              simp [cs, List.getElem?_append, hcl, hlt, List.getElem?_take]
            · obtain ⟨u, q1, q2, q3, q4⟩ := f2 j hj
              refine ⟨u, by simpa [hjm] using q1, q2, q3, fun l hl => ?_⟩
              rw [← q4 l hl]
              obtain rfl : l = 0 := by omega
              have hlt : ¬ j < cs.length := by rw [hcl]; simp only [Nat.min_def]; split <;> omega
              simp [List.getElem?_append, hlt]
              congr 1; omega
        · subst hq; cases hqk
      · subst hq; cases hqk
    · subst hq; cases hqk
  · subst hq; cases hqk
end Go.Av
