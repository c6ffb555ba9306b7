/- A region that draws its order runs as its one run in the text's order tells. -/
import Derived.Test.YtpdncdnjkjpigaaGreatDoorAvDraw
import Derived.Test.YtpdncdnjkjpigaaGreatDoorAvI
set_option linter.unusedVariables false
set_option linter.unusedSimpArgs false
namespace Go.Av
open Go.RowKit Go.Base
variable {P : Program} {γ γ' : G} {w w' w0 : World} {own : Nat → Prop} {hp : Nat → Option Ob} {live : Nat → Prop} {ops : List Oper} {N : Nat} {μ0 : G0}

/-! ### What an operation does depends on what it looks at -/
theorem buildA_congr {places : Nat → Option (Nat × Nat)} {e e' : Operand → AV} : ∀ (l : List (Nat × Operand)) (cs : List AV), (∀ p ∈ l, e p.2 = e' p.2) → buildA places e l cs = buildA places e' l cs
  | [], _, _ => rfl
  | (i, x) :: l, cs, h => by
    simp only [buildA]
    rw [h (i, x) (by simp)]
    split
    · split
      · exact buildA_congr l _ fun p hp => h p (by simp [hp])
      · rfl
    · rfl
theorem partsD_congr {e e' : Operand → AV} {sz : Nat} : ∀ (l : List (Nat × Operand)) (i : Nat), (∀ p ∈ l, e p.2 = e' p.2) → partsD e sz i l = partsD e' sz i l
  | [], _, _ => rfl
  | (j, x) :: l, i, h => by
    simp only [partsD]
    rw [h (j, x) (by simp), partsD_congr l (i + 1) fun p hp => h p (by simp [hp])]
theorem optInt_congr {e e' : Operand → AV} {x : Option Operand} (h : ∀ y, x = some y → e y = e' y) : optInt e x = optInt e' x := by
  cases x with
  | none => rfl
  | some y => simp only [optInt, h y rfl]
theorem map_congr' {e e' : Operand → AV} {l : List Operand} (h : ∀ y ∈ l, e y = e' y) : l.map e = l.map e' := List.map_congr_left h
theorem loadQ_congr {t : TypeId} {h h' : Nat → Option Ob} {p : AV} (hh : ∀ x ∈ ptrId p, h x = h' x) : loadQ P t h p = loadQ P t h' p := by
  unfold loadQ
  split
  · rw [hh _ (by simp [ptrId])]
  · rfl
  · rw [hh _ (by simp [ptrId])]
  · rw [hh _ (by simp [ptrId])]
  · rfl
theorem storeQ_congr {t : TypeId} {h h' : Nat → Option Ob} {p x : AV} (hh : ∀ y ∈ ptrId p, h y = h' y) : storeQ P t h p x = storeQ P t h' p x := by
  unfold storeQ
  split
  · rw [hh _ (by simp [ptrId])]
  · rw [hh _ (by simp [ptrId])]
  · rw [hh _ (by simp [ptrId])]
  · rfl
theorem lookupQ_congr {t : TypeId} {h h' : Nat → Option Ob} {m x : AV} (hh : ∀ y ∈ ptrId m, h y = h' y) : lookupQ P t h m x = lookupQ P t h' m x := by
  unfold lookupQ
  congr 1
  funext p
  obtain ⟨k, e⟩ := p
  simp only
  split
  · rw [hh _ (by simp [ptrId])]
  · rfl
theorem mapUpdateQ_congr {t : TypeId} {h h' : Nat → Option Ob} {m x z : AV} (hh : ∀ y ∈ ptrId m, h y = h' y) : mapUpdateQ P t h m x z = mapUpdateQ P t h' m x z := by
  unfold mapUpdateQ
  congr 1
  funext p
  obtain ⟨k, e⟩ := p
  simp only
  split
  · rw [hh _ (by simp [ptrId])]
  · rfl
theorem copyQ_congr {h h' : Nat → Option Ob} {args : List AV} {ts : List TypeId} (hh : ∀ y ∈ args.flatMap ptrId, h y = h' y) : copyQ P h args ts = copyQ P h' args ts := by
  unfold copyQ
  split
  · congr 1
    funext el
    congr 1
    funext p
    obtain ⟨z, m, g⟩ := p
    simp only
    split
    · rw [hh _ (by simp [ptrId])]
    · rfl
  · rfl
theorem qop_congr {o : Op} {e e' : Operand → AV} {h h' : Nat → Option Ob} {id : Nat} (he : ∀ x ∈ o.operands, e x = e' x) (hh : ∀ x ∈ readIds o e, h x = h' x) : qop P o e h id = qop P o e' h' id := by
  cases o with
  | move x => simp only [qop]; rw [he x (by simp [Op.operands])]
  | assign x => simp only [qop]; rw [he x (by simp [Op.operands])]
  | pick c a b => simp only [qop]; rw [he c (by simp [Op.operands]), he a (by simp [Op.operands]), he b (by simp [Op.operands])]
  | alloc t => rfl
  | box t x => simp only [qop]; rw [he x (by simp [Op.operands])]
  | build t parts =>
    simp only [qop, buildQ]
    have hp : ∀ p ∈ parts.toList, e p.2 = e' p.2 := fun p hp => he p.2 (by simp [Op.operands]; exact ⟨p.1, by simpa using hp⟩)
    congr 2
    funext z
    split
    · split
      · rw [buildA_congr _ _ hp]
      · rfl
    · split
      · rw [buildA_congr _ _ hp]
      · rfl
    · rfl
  | buildSlice t len parts =>
    simp only [qop, buildSliceQ]
    have hp : ∀ p ∈ parts.toList, e p.2 = e' p.2 := fun p hp => he p.2 (by simp [Op.operands]; exact ⟨p.1, by simpa using hp⟩)
    split
    · rw [partsD_congr _ _ hp]
    · rfl
  | load t a =>
    simp only [qop]
    have hh' : ∀ x ∈ ptrId (e a), h x = h' x := fun x hx => hh x hx
    rw [loadQ_congr hh', he a (by simp [Op.operands])]
  | fieldAddr t x i => simp only [qop]; rw [he x (by simp [Op.operands])]
  | field t x i => simp only [qop]; rw [he x (by simp [Op.operands])]
  | indexAddr t x i => simp only [qop]; rw [he x (by simp [Op.operands]), he i (by simp [Op.operands])]
  | index t x i => simp only [qop]; rw [he x (by simp [Op.operands]), he i (by simp [Op.operands])]
  | slice t x lo hi mx =>
    cases mx with
    | none => simp only [qop]; rw [he x (by simp [Op.operands]), optInt_congr (x := lo) fun y hy => he y (by simp [Op.operands, hy]), optInt_congr (x := hi) fun y hy => he y (by simp [Op.operands, hy])]
    | some m => rfl
  | extract x i => simp only [qop]; rw [he x (by simp [Op.operands])]
  | binOp op t x y t2 => simp only [qop]; rw [he x (by simp [Op.operands]), he y (by simp [Op.operands])]
  | unOp op t x => simp only [qop]; rw [he x (by simp [Op.operands])]
  | convert s t x => simp only [qop]; rw [he x (by simp [Op.operands])]
  | makeFunc fn first cap =>
    simp only [qop]
    rw [map_congr' (l := first.toList) fun y hy => he y (by simp [Op.operands]; exact .inl (by simpa using hy)), map_congr' (l := cap.toList) fun y hy => he y (by simp [Op.operands]; exact .inr (by simpa using hy))]
  | nilCheck x => simp only [qop]; rw [he x (by simp [Op.operands])]
  | makeSlice t l c => simp only [qop]; rw [he l (by simp [Op.operands]), he c (by simp [Op.operands])]
  | makeMap t r => cases r <;> rfl
  | lookup t m x b =>
    cases b with
    | true =>
      simp only [qop]
      have hh' : ∀ y ∈ ptrId (e m), h y = h' y := fun y hy => hh y hy
      rw [lookupQ_congr hh', he m (by simp [Op.operands]), he x (by simp [Op.operands])]
    | false => rfl
  | mapUpdate t m x y =>
    simp only [qop]
    have hh' : ∀ y ∈ ptrId (e m), h y = h' y := fun y hy => hh y hy
    rw [mapUpdateQ_congr hh', he m (by simp [Op.operands]), he x (by simp [Op.operands]), he y (by simp [Op.operands])]
  | store t a x =>
    simp only [qop]
    have hh' : ∀ y ∈ ptrId (e a), h y = h' y := fun y hy => hh y hy
    rw [storeQ_congr hh', he a (by simp [Op.operands]), he x (by simp [Op.operands])]
  | call c =>
    obtain ⟨callee, args, ts⟩ := c
    cases callee with
    | builtin b =>
      have ha : args.toList.map e = args.toList.map e' := map_congr' fun y hy => he y (by simp [Op.operands, Call.operands]; simpa using hy)
      cases b <;> simp only [qop] <;> try rfl
      all_goals try rw [ha]
      have hh' : ∀ y ∈ (args.toList.map e').flatMap ptrId, h y = h' y := fun y hy => hh y (by simp only [readIds]; rw [ha]; exact hy)
      rw [copyQ_congr hh']
    | _ => rfl
  | _ => rfl

theorem mem_looks {o : Oper} {t : Nat} (h : Operand.tmp t ∈ o.op.operands) : t ∈ looks ops o := by
  unfold looks Oper.looksAt
  rw [List.mem_append]
  refine .inl (List.mem_filterMap.2 ⟨.tmp t, by simpa using h, rfl⟩)
theorem evE_congr {E E' : Nat → LE} {o : Oper} (h : ∀ t ∈ looks ops o, E t = E' t) : ∀ x ∈ o.op.operands, evE E x = evE E' x := fun x hx => by
  cases x with
  | tmp t => simp only [evE]; rw [h t (mem_looks hx)]
  | _ => rfl
theorem vecQ_congr {h h' : Nat → Option Ob} {id : Nat} {args : List AV} {ts : List TypeId} (hh : ∀ y ∈ args.flatMap ptrId, h y = h' y) : vecQ P h id args ts = vecQ P h' id args ts := by
  unfold vecQ
  split
  · rename_i s x t u
    split
    · congr 1; funext el; congr 1; funext p
      obtain ⟨z, m, g⟩ := p
      dsimp only
      cases s with
      | vec d a b => dsimp only; rw [hh d (by simp [ptrId])]
      | _ => rfl
    · split
      · congr 1; funext el
        split
        · unfold vecStrQ
          cases s with
          | vec d a b => dsimp only; rw [hh d (by simp [ptrId])]
          | _ => rfl
        · rfl
      · rfl
  · rfl
theorem lend1_congr {h h' : Nat → Option Ob} {x : AV} (hh : ∀ y ∈ rowId x, h y = h' y) : lend1 h x = lend1 h' x := by
  cases x with
  | arr id sz n => simp only [lend1]; rw [hh id (by simp [rowId])]
  | vec id sz n => simp only [lend1]; rw [hh id (by simp [rowId])]
  | _ => rfl
theorem lendL_congr {h h' : Nat → Option Ob} : ∀ {l : List AV}, (∀ y ∈ l.flatMap rowId, h y = h' y) → lendL h l = lendL h' l
  | [], _ => rfl
  | x :: l, hh => by
    simp only [lendL]
    rw [lend1_congr fun y hy => hh y (by simp only [List.flatMap_cons, List.mem_append]; exact .inl hy), lendL_congr fun y hy => hh y (by simp only [List.flatMap_cons, List.mem_append]; exact .inr hy)]
theorem lendD_congr {h h' : Nat → Option Ob} {x : AV} (hh : ∀ y ∈ ptrId x, h y = h' y) : lendD h x = lendD h' x := by
  cases x with
  | arr id sz n => simp only [lendD]; exact lend1_congr fun y hy => hh y (by simpa [ptrId, rowId] using hy)
  | vec id sz n => simp only [lendD]; exact lend1_congr fun y hy => hh y (by simpa [ptrId, rowId] using hy)
  | agg l => simp only [lendD]; rw [lendL_congr fun y hy => hh y (by simpa only [ptrId] using hy)]
  | _ => rfl
theorem lendOb1_congr {h h' : Nat → Option Ob} : ∀ {l : List AV}, (∀ y ∈ l.flatMap rowId, h y = h' y) → lendOb1 h l = lendOb1 h' l
  | [], _ => rfl
  | x :: l, hh => by
    have ih := lendOb1_congr (l := l) fun y hy => hh y (by simp only [List.flatMap_cons, List.mem_append]; exact .inr hy)
    cases x with
    | arr id sz n => simp only [lendOb1]; rw [hh id (by simp [rowId]), ih]
    | _ => exact ih
theorem lendOb_congr {h h' : Nat → Option Ob} : ∀ {l : List AV}, (∀ y ∈ l.flatMap ptrId, h y = h' y) → lendOb h l = lendOb h' l
  | [], _ => rfl
  | x :: l, hh => by
    have ih := lendOb_congr (l := l) fun y hy => hh y (by simp only [List.flatMap_cons, List.mem_append]; exact .inr hy)
    cases x with
    | arr id sz n => simp only [lendOb]; rw [lendOb1_congr (l := [.arr id sz n]) fun y hy => hh y (by simp [rowId] at hy; simp [ptrId, hy]), ih]
    | agg c => simp only [lendOb]; rw [lendOb1_congr (l := c) fun y hy => hh y (by simp only [List.flatMap_cons, List.mem_append, ptrId]; exact .inl hy), ih]
    | _ => exact ih
theorem argsD_congr {h h' : Nat → Option Ob} : ∀ {l : List AV}, (∀ y ∈ l.flatMap ptrId, h y = h' y) → argsD h l = argsD h' l
  | [], _ => rfl
  | x :: l, hh => by
    simp only [argsD]
    rw [lendD_congr fun y hy => hh y (by simp only [List.flatMap_cons, List.mem_append]; exact .inl hy), argsD_congr fun y hy => hh y (by simp only [List.flatMap_cons, List.mem_append]; exact .inr hy)]
theorem qopC_congr {cs : Cs} {o : Oper} {e e' : Operand → AV} {h h' : Nat → Option Ob} {id : Nat} (he : ∀ x ∈ o.op.operands, e x = e' x) (hh : ∀ x ∈ readIdsC cs o.op id e, h x = h' x) : qopC P cs o e h id = qopC P cs o e' h' id := by
  unfold qopC
  have hh0 : ∀ x ∈ readIds o.op e, h x = h' x := fun x hx => hh x (List.mem_append_left _ hx)
  split
  · rename_i hc
    cases ht : lookOT cs.o id with
    | some t =>
      have hh1 : ∀ x ∈ t.ids, h x = h' x := fun x hx => hh x (List.mem_append_right _ (by rw [if_pos hc, ht]; exact hx))
      have hcal : callOf e o.op = callOf e' o.op := by
        unfold callOf
        split
        · rename_i f args ts ho
          rw [ho] at he
          have hm : args.toList.map e = args.toList.map e' := map_congr' fun y hy => he y (by simp [Op.operands, Call.operands]; exact .inr (by simpa using hy))
          rw [hm]
        · rename_i tt args ts ho
          rw [ho] at he
          have hm : args.toList.map e = args.toList.map e' := map_congr' fun y hy => he y (by simp [Op.operands, Call.operands]; exact .inr (by simpa using hy))
          rw [hm, he (.tmp tt) (by simp [Op.operands, Call.operands])]
        · rfl
      have hok : okT h id t = okT h' id t := by
        unfold okT
        congr 1
        rw [Bool.eq_iff_iff, List.all_eq_true, List.all_eq_true]
        exact ⟨fun k x hx => by rw [← hh1 x hx]; exact k x hx, fun k x hx => by rw [hh1 x hx]; exact k x hx⟩
      have hids : (t.ids.map fun i => (i, h i)) = t.ids.map fun i => (i, h' i) := List.map_congr_left fun x hx => by rw [hh1 x hx]
      simp only [hcal, hok, hids]
    | none =>
    simp only
    have : pureCall e h o.op = pureCall e' h' o.op := by
      unfold pureCall
      split
      · rename_i f args ts ho
        rw [ho] at he hh0
        have hm : args.toList.map e = args.toList.map e' := map_congr' fun y hy => he y (by simp [Op.operands, Call.operands]; exact .inr (by simpa using hy))
        rw [argsD_congr (h := h) (h' := h') (fun y hy => hh0 y hy), lendOb_congr (h := h) (h' := h') (fun y hy => hh0 y hy), hm]
      · rfl
    rw [this]
  · have hrow : rowQ P id e o.op = rowQ P id e' o.op := by
      unfold rowQ
      split
      · rename_i args ts ho
        rw [ho] at he
        rw [map_congr' (e := e) (e' := e') (l := args.toList) fun y hy => he y (by simp [Op.operands, Call.operands]; simpa using hy)]
      · rfl
    have hvec : vecQC P h id e o.op = vecQC P h' id e' o.op := by
      unfold vecQC
      split
      · rename_i args ts ho
        rw [ho] at he hh0
        have hm : args.toList.map e = args.toList.map e' := map_congr' fun y hy => he y (by simp [Op.operands, Call.operands]; simpa using hy)
        rw [← hm]
        exact vecQ_congr fun y hy => hh0 y hy
      · rfl
    rw [qop_congr he hh0, hrow, hvec]
theorem readIds_congr {o : Op} {e e' : Operand → AV} (he : ∀ x ∈ o.operands, e x = e' x) : readIds o e = readIds o e' := by
  unfold readIds
  split
  · rw [he _ (by simp [Op.operands])]
  · rename_i t a x; rw [he a (by simp [Op.operands])]
  · rename_i t m x b; rw [he m (by simp [Op.operands])]
  · rename_i t m x y; rw [he m (by simp [Op.operands])]
  · rename_i args ts
    rw [map_congr' fun y hy => he y (by simp [Op.operands, Call.operands]; simpa using hy)]
  · rename_i args ts
    rw [map_congr' fun y hy => he y (by simp [Op.operands, Call.operands]; simpa using hy)]
  · rename_i c args ts
    rw [map_congr' fun y hy => he y (by simp [Op.operands, Call.operands]; exact .inr (by simpa using hy))]
  · rfl
theorem readIdsC_congr {cs : Cs} {o : Op} {id : Nat} {e e' : Operand → AV} (he : ∀ x ∈ o.operands, e x = e' x) : readIdsC cs o id e = readIdsC cs o id e' := by
  unfold readIdsC; rw [readIds_congr he]
theorem readOk1_congr {E E' : Nat → LE} {g : Option (Nat × Bool)} {x : Operand} (h : ∀ t, x = .tmp t → E t = E' t) : readOk1 E g x = readOk1 E' g x := by
  cases x with
  | tmp t => simp only [readOk1]; rw [h t rfl]
  | _ => rfl
theorem armOk_congr {E E' : Nat → LE} {g : Option (Nat × Bool)} {c : Operand} {b : Bool} {x : Operand} (h : ∀ t, x = .tmp t → E t = E' t) : armOk ops E g c b x = armOk ops E' g c b x := by
  unfold armOk
  rw [readOk1_congr h]
  cases x with
  | tmp t => simp only; rw [h t rfl]
  | _ => rfl
theorem readOk_congr {E E' : Nat → LE} {o : Oper} (h : ∀ t ∈ looks ops o, E t = E' t) : readOk ops E o = readOk ops E' o := by
  have ht : ∀ x ∈ o.op.operands, ∀ t, x = .tmp t → E t = E' t := fun x hx t e => h t (mem_looks (by rw [← e]; exact hx))
  unfold readOk
  split
  · rename_i c a b ho
    rw [ho] at ht
    rw [readOk1_congr (ht c (by simp [Op.operands])), armOk_congr (ht a (by simp [Op.operands])), armOk_congr (ht b (by simp [Op.operands]))]
  · rw [Bool.eq_iff_iff, List.all_eq_true, List.all_eq_true]
    constructor
    · intro hh x hx; rw [← readOk1_congr (ht x (by simpa using hx))]; exact hh x hx
    · intro hh x hx; rw [readOk1_congr (ht x (by simpa using hx))]; exact hh x hx
theorem guardOf_congr {E E' : Nat → LE} {o : Oper} {g : Nat × Bool} (hg : o.guard = some g) (h : ∀ t ∈ looks ops o, E t = E' t) : guardOf ops E g = guardOf ops E' g := by
  unfold guardOf
  cases ho : ops[g.1]? with
  | none => rfl
  | some oj =>
    simp only
    cases ht : oj.dst with
    | none => rfl
    | some t =>
      simp only
      rw [h t]
      unfold looks Oper.looksAt
      rw [List.mem_append]
      refine .inr ?_
      rw [hg]
      simp only
      have e : ops.toArray[g.1]? = some oj := by simpa using ho
      rw [e, Option.bind_some, ht]
      simp

/-! ### The one run -/
structure Good (P : Program) (cs : Cs) (ops : List Oper) (nx : Nat) (F : Fy) (j : Nat) (r : Rec) : Prop where
  op : ops[j]? = some r.o
  id : r.id = nx + 16 * j
  q : r.q = qopC P cs r.o (evE F.E) F.hp r.id
  rdOk : readOk ops F.E r.o = true
  ok : r.q.ok = true
  kill : ∀ tk, r.q.kill = some tk → F.live tk
  rd : r.rd = readIdsC cs r.o.op r.id (evE F.E)
  mo : ∀ t, r.q.mo = some t → ∀ s ∈ t.lv, F.live s
  g0 : r.o.guard = none → r.g = none ∧ r.gv = true
  g1 : ∀ g, r.o.guard = some g → r.g = some g ∧ g.1 < j ∧ r.q.plain = true ∧ guardOf ops F.E g = some r.gv
theorem foldS_skip (p : Nat → Bool) : ∀ (rs : List Rec) (i : Nat) (F : Fy), (∀ n, i ≤ n → p n = false) → foldS p i rs F = F
  | [], _, _, _ => rfl
  | r :: l, i, F, h => by
    simp only [foldS, h i (Nat.le_refl _), Bool.false_eq_true, if_false]
    exact foldS_skip p l (i + 1) F fun n hn => h n (by omega)
theorem foldS_congr {p p' : Nat → Bool} : ∀ (rs : List Rec) (i : Nat) (F : Fy), (∀ n, i ≤ n → n < i + rs.length → p n = p' n) → foldS p i rs F = foldS p' i rs F
  | [], _, _, _ => rfl
  | r :: l, i, F, h => by
    simp only [foldS]
    rw [h i (Nat.le_refl _) (by simp)]
    exact foldS_congr l (i + 1) _ fun n hn hl => h n (by omega) (by simp; omega)
theorem runD_good {cs : Cs} {fr : List (Nat × AV)} {nx : Nat} : ∀ (l : List Oper) (i : Nat) (s s' : LS) (rs : List Rec), (∀ k, l[k]? = ops[i + k]?) → runD P cs ops fr nx i l s = some (rs, s') →
    rs.length = l.length ∧ (∀ k r, rs[k]? = some r → Good P cs ops nx (foldS (fun n => decide (n < i + k)) i rs (fsOf fr s)) (i + k) r) ∧ fsOf fr s' = foldS (fun _ => true) i rs (fsOf fr s)
  | [], i, s, s', rs, _, h => by
    simp only [runD, Option.some.injEq, Prod.mk.injEq] at h
    obtain ⟨rfl, rfl⟩ := h
    exact ⟨rfl, fun k r hk => by simp at hk, rfl⟩
  | o :: l, i, s, s', rs, hops, h => by
    have hi : ops[i]? = some o := by have := hops 0; simpa using this.symm
    have hops' : ∀ k, l[k]? = ops[i + 1 + k]? := fun k => by have := hops (k + 1); rw [show i + 1 + k = i + (k + 1) by omega]; simpa using this
    -- one operation, then the rest
    have step : ∀ (g : Option (Nat × Bool)) (G' : Bool) (q : Q), q = qopC P cs o (evE (lookE fr s.lf)) (lookO s.hp) (nx + 16 * i) → readOk ops (lookE fr s.lf) o = true → q.ok = true → killOk q s.live = true →
        (o.guard = none → g = none ∧ G' = true) → (∀ g', o.guard = some g' → g = some g' ∧ g'.1 < i ∧ q.plain = true ∧ guardOf ops (lookE fr s.lf) g' = some G') →
        (runD P cs ops fr nx (i + 1) l (s.step o (nx + 16 * i) q g G')).map (fun r => (⟨o, nx + 16 * i, q, g, G', readIdsC cs o.op (nx + 16 * i) (evE (lookE fr s.lf))⟩ :: r.1, r.2)) = some (rs, s') →
        rs.length = (o :: l).length ∧ (∀ k r, rs[k]? = some r → Good P cs ops nx (foldS (fun n => decide (n < i + k)) i rs (fsOf fr s)) (i + k) r) ∧ fsOf fr s' = foldS (fun _ => true) i rs (fsOf fr s) := by
      intro g G' q hq h1 h2 h3 h4 h5 hm
      rw [Option.map_eq_some_iff] at hm
      obtain ⟨⟨rs', s2⟩, hr, he⟩ := hm
      simp only [Prod.mk.injEq] at he
      obtain ⟨rfl, rfl⟩ := he
      obtain ⟨a, b, c⟩ := runD_good l (i + 1) _ _ rs' hops' hr
      let r0 : Rec := ⟨o, nx + 16 * i, q, g, G', readIdsC cs o.op (nx + 16 * i) (evE (lookE fr s.lf))⟩
      have hs : fsOf fr (s.step o (nx + 16 * i) q g G') = r0.ap (fsOf fr s) := fsOf_step fr s r0
      refine ⟨by simp [a], fun k r hk => ?_, by rw [c, hs]; rfl⟩
      cases k with
      | zero =>
        simp only [List.getElem?_cons_zero, Option.some.injEq] at hk
        subst hk
        rw [foldS_skip _ _ _ _ (fun n hn => by simp; omega)]
        exact ⟨hi, rfl, hq, h1, h2, killOk_spec h3, rfl, killOk_mo h3, h4, h5⟩
      | succ k =>
        simp only [List.getElem?_cons_succ] at hk
        have := b k r hk
        rw [hs] at this
        have e : i + 1 + k = i + (k + 1) := by omega
        rw [e] at this
        have e2 : foldS (fun n => decide (n < i + (k + 1))) i (r0 :: rs') (fsOf fr s) = foldS (fun n => decide (n < i + (k + 1))) (i + 1) rs' (r0.ap (fsOf fr s)) := by
          simp only [foldS]
          rw [if_pos (by simp)]
        rw [e2]
        exact this
    unfold runD at h
    split at h
    · rename_i hc
      simp only [Bool.and_eq_true] at hc
      obtain ⟨c1, c2, c3⟩ := hc
      split at h
      · rename_i hg
        exact step none true _ rfl c1 c2 c3 (fun _ => ⟨rfl, rfl⟩) (fun g' hg' => by rw [hg] at hg'; cases hg') h
      · rename_i g hg
        split at h
        · rename_i hp
          simp only [Bool.and_eq_true, decide_eq_true_eq] at hp
          split at h
          · rename_i G' hG
            exact step (some g) G' _ rfl c1 c2 c3 (fun hn => by rw [hg] at hn; cases hn) (fun g' hg' => by rw [hg] at hg'; injection hg' with hg'; subst hg'; exact ⟨rfl, hp.1, hp.2, hG⟩) h
          · cases h
        · cases h
    · cases h
theorem obsAll_spec : ∀ {rs : List Rec} {R : Prop}, obsAll rs R → (∀ r ∈ rs, (r.g = none → ∀ p ∈ r.q.ob, p) ∧ (r.g ≠ none → r.gv = true → ∀ p ∈ r.q.ob, p)) ∧ R
  | [], _, h => ⟨(fun r hr => by cases hr), h⟩
  | r :: l, R, h => by
    unfold obsAll at h
    cases hg : r.g with
    | none =>
      rw [hg] at h
      obtain ⟨h1, h2⟩ := obs_spec h
      obtain ⟨h3, h4⟩ := obsAll_spec h2
      refine ⟨fun x hx => ?_, h4⟩
      rcases List.mem_cons.1 hx with rfl | hx
      · exact ⟨fun _ => h1, fun hn => absurd hg hn⟩
      · exact h3 x hx
    | some g =>
      rw [hg] at h
      obtain ⟨h1, h2⟩ := obsG_spec h
      obtain ⟨h3, h4⟩ := obsAll_spec h2
      refine ⟨fun x hx => ?_, h4⟩
      rcases List.mem_cons.1 hx with rfl | hx
      · exact ⟨(fun hn => by rw [hg] at hn; cases hn), fun _ => h1⟩
      · exact h3 x hx
/-! ### What comes ahead -/
theorem masks_spec : ∀ (l : List Oper) (acc : List Nat), (masks l acc).length = acc.length + l.length ∧ (∀ j, j < acc.length → (masks l acc).getD j 0 = acc.getD j 0) ∧
    ∀ k o, l[k]? = some o → (masks l acc).getD (acc.length + k) 0 = o.after.toList.foldl (edgeMask ((masks l acc).take (acc.length + k))) 0
  | [], acc => ⟨by simp [masks], fun _ _ => rfl, fun k o h => by simp at h⟩
  | o :: l, acc => by
    obtain ⟨h1, h2, h3⟩ := masks_spec l (acc ++ [o.after.toList.foldl (edgeMask acc) 0])
    simp only [masks]
    simp only [List.length_append, List.length_cons, List.length_nil] at h1 h2 h3
    refine ⟨by simp only [List.length_cons]; omega, fun j hj => ?_, fun k x hk => ?_⟩
    · rw [h2 j (by omega)]
      simp [List.getD, List.getElem?_append_left hj]
    · cases k with
      | zero =>
        simp only [List.getElem?_cons_zero, Option.some.injEq] at hk
        subst hk
        rw [Nat.add_zero, h2 acc.length (by omega)]
        have e : (masks l (acc ++ [o.after.toList.foldl (edgeMask acc) 0])).take acc.length = acc := by
          apply List.ext_getElem?
          intro j
          rw [List.getElem?_take]
          split
          · rename_i hj
            have := h2 j (by omega)
            simp only [List.getD_eq_getElem?_getD] at this
            have hl : j < (masks l (acc ++ [o.after.toList.foldl (edgeMask acc) 0])).length := by omega
            rw [List.getElem?_eq_getElem hl, List.getElem?_eq_getElem hj]
            rw [List.getElem?_eq_getElem hl, List.getElem?_append_left hj, List.getElem?_eq_getElem hj] at this
            simpa using this
          · rename_i hj; rw [List.getElem?_eq_none (by omega)]
        rw [e]
        simp [List.getD]
      | succ k =>
        have := h3 k x (by simpa using hk)
        rw [show acc.length + 1 + k = acc.length + (k + 1) by omega] at this
        exact this
theorem edge_fold {S : Nat → Prop} {acc : List Nat} (ha : ∀ j, j < acc.length → S j → ∀ i, (acc.getD j 0).testBit i = true → S i) : ∀ (l : List Edge) (m : Nat), (∀ e ∈ l, Region.binds .any e = true → S e.on) → (∀ i, m.testBit i = true → S i) → ∀ i, (l.foldl (edgeMask acc) m).testBit i = true → S i
  | [], m, _, hm, i, h => hm i h
  | e :: l, m, he, hm, i, h => by
    refine edge_fold ha l _ (fun x hx => he x (by simp [hx])) (fun k hk => ?_) i h
    unfold edgeMask at hk
    split at hk
    · rename_i hb
      have hS := he e (by simp) hb
      rw [Nat.testBit_or, Nat.testBit_or, Bool.or_eq_true, Bool.or_eq_true] at hk
      rcases hk with hk | hk | hk
      · exact hm k hk
      · rw [Nat.testBit_two_pow] at hk
        have : e.on = k := by simpa using hk
        exact this ▸ hS
      · by_cases hl : e.on < acc.length
        · exact ha e.on hl hS k hk
        · rw [List.getD_eq_getElem?_getD, List.getElem?_eq_none (by omega)] at hk
          simp at hk
    · exact hm k hk
/-- Whatever is closed towards what comes ahead holds all that a mask tells. -/
theorem mask_closed {S : Nat → Prop} (hS : ∀ j o, ops[j]? = some o → S j → ∀ e ∈ o.after.toList, Region.binds .any e = true → S e.on) : ∀ j o, ops[j]? = some o → (∀ e ∈ o.after.toList, Region.binds .any e = true → S e.on) →
    ∀ i, ((masks ops []).getD j 0).testBit i = true → S i := by
  obtain ⟨h1, _, h3⟩ := masks_spec ops []
  simp only [List.length_nil, Nat.zero_add] at h1 h3
  have all : ∀ n j, j < n → S j → ∀ i, ((masks ops []).getD j 0).testBit i = true → S i := by
    intro n
    induction n with
    | zero => intro j hj; omega
    | succ n ih =>
      intro j hj hSj i hi
      cases ho : ops[j]? with
      | none =>
        have : ops.length ≤ j := List.getElem?_eq_none_iff.1 ho
        rw [List.getD_eq_getElem?_getD, List.getElem?_eq_none (by omega)] at hi
        simp at hi
      | some o =>
        rw [h3 j o ho] at hi
        refine edge_fold (fun k hk hSk i' hi' => ?_) _ _ (hS j o ho hSj) (fun i' h => by simp at h) i hi
        have hkj : k < j := by simp at hk; omega
        have : ((masks ops []).take j).getD k 0 = (masks ops []).getD k 0 := by
          simp only [List.getD_eq_getElem?_getD, List.getElem?_take, if_pos hkj]
        rw [this] at hi'
        exact ih k (by omega) hSk i' hi'
  intro j o ho he i hi
  rw [h3 j o ho] at hi
  refine edge_fold (fun k hk hSk i' hi' => ?_) _ _ he (fun i' h => by simp at h) i hi
  have hkj : k < j := by simp at hk; omega
  have : ((masks ops []).take j).getD k 0 = (masks ops []).getD k 0 := by
    simp only [List.getD_eq_getElem?_getD, List.getElem?_take, if_pos hkj]
  rw [this] at hi'
  exact all (k + 1) k (by omega) hSk i' hi'

theorem ap_E_other {r : Rec} {F : Fy} {t : Nat} (h : r.o.dst ≠ some t) : (r.ap F).E t = F.E t := if_neg h
/-- Operations that come ahead of all from hi on. -/
def barOk (ops : List Oper) (hi : Nat) : Bool := (List.range ops.length).all fun j => decide (j < hi) || (List.range hi).all fun i => ((masks ops []).getD j 0).testBit i
def drawSeg (ops : List Oper) (rs : List Rec) (lo : Nat) : Bool :=
  let ms := masks ops []
  (List.range rs.length).all fun j => (List.range j).all fun i => (ms.getD (lo + j) 0).testBit (lo + i) || match rs[i]?, rs[j]? with
    | some x, some y => apart ops x y
    | _, _ => false
structure Mid (lo hi : Nat) (γ0 : G) (P : Program) (cs : Cs) (own : Nat → Prop) (μ0 : G0) (w0 : World) (N : Nat) (ops : List Oper) (nx : Nat) (rs : List Rec) (F0 : Fy) (listed : Array Bool) (a : Act) (w : World) : Prop where
  lsize : listed.size = ops.length
  low : ∀ j, j < lo → listed.getD j false = true
  high : ∀ j, hi ≤ j → listed.getD j false = false
  closed : ∀ j o, ops[j]? = some o → listed.getD j false = true → ∀ e ∈ o.after.toList, Region.binds .any e = true → listed.getD e.on false = true
  st : ∃ γ, LeG γ0 γ ∧ RL own μ0 w0 N ops (fun k => listed.getD k false = true) (foldS (fun n => listed.getD n false) lo rs F0).E (foldS (fun n => listed.getD n false) lo rs F0).hp (foldS (fun n => listed.getD n false) lo rs F0).live γ a w ∧
    ∀ id, ((∃ j, j < ops.length ∧ listed.getD j false = false ∧ nx + 16 * j ≤ id ∧ id < nx + 16 * j + 16) ∨ nx + 16 * ops.length ≤ id) → γ.ι id = none ∧ γ.τ id = none ∧ (foldS (fun n => listed.getD n false) lo rs F0).hp id = none ∧ ¬ (foldS (fun n => listed.getD n false) lo rs F0).live id
theorem draw_seg {lo hi : Nat} (hlo : lo ≤ hi) (hhi : hi ≤ ops.length) {γ0 : G} {cs : Cs} {nx : Nat} {rs : List Rec} {F0 : Fy} (hreg : regOk ops N = true) (hback : backOk ops = true) (hdraw : drawSeg ops rs lo = true) (hbar : barOk ops hi = true) (hlen : rs.length = hi - lo)
    (hgood : ∀ k r, rs[k]? = some r → Good P cs ops nx (foldS (fun n => decide (n < lo + k)) lo rs F0) (lo + k) r) (hobs : ∀ r ∈ rs, (r.g = none → ∀ p ∈ r.q.ob, p) ∧ (r.g ≠ none → r.gv = true → ∀ p ∈ r.q.ob, p)) {QQ : Exit → Act → World → Prop}
    (hQ : ∀ (fuel : Nat) (listed : Array Bool) (γ : G) (a : Act) (w : World), listed.size = ops.length → (∀ j, listed.getD j false = decide (j < hi)) → (List.range ops.length).countP (fun i => !listed.getD i true) ≤ fuel → LeG γ0 γ →
      RL own μ0 w0 N ops (fun k => k < hi) (foldS (fun _ => true) lo rs F0).E (foldS (fun _ => true) lo rs F0).hp (foldS (fun _ => true) lo rs F0).live γ a w →
      Fresh (nx + 16 * ops.length) (foldS (fun _ => true) lo rs F0).hp (foldS (fun _ => true) lo rs F0).live γ → wpAny P .any ops.toArray QQ fuel listed a w) :
    ∀ (fuel : Nat) (listed : Array Bool) (a : Act) (w : World), Mid lo hi γ0 P cs own μ0 w0 N ops nx rs F0 listed a w → (List.range ops.length).countP (fun i => !listed.getD i true) ≤ fuel → wpAny P .any ops.toArray QQ fuel listed a w := by
  obtain ⟨hnd, hN⟩ := regOk_spec hreg
  have hb : ∀ k (o : Oper), ops[k]? = some o → ∀ e ∈ o.after.toList, Region.binds .any e = true → e.on < k := fun k o hk e he hbd => by
    unfold backOk at hback
    rw [List.all_eq_true] at hback
    have := hback k (List.mem_range.2 (List.getElem?_eq_some_iff.1 hk).1)
    rw [hk] at this
    simp only [List.all_eq_true, Bool.or_eq_true, Bool.not_eq_true', decide_eq_true_eq] at this
    rcases this e he with h | h
    · rw [hbd] at h; cases h
    · exact h
  -- two that may come either way
  have pair : ∀ (i j : Nat) (x y : Rec), lo ≤ i → i < j → rs[i - lo]? = some x → rs[j - lo]? = some y → ((masks ops []).getD j 0).testBit i = true ∨ Av.apart ops x y = true := fun i j x y hli hij hx hy => by
    unfold drawSeg at hdraw
    simp only [List.all_eq_true, List.mem_range, Bool.or_eq_true] at hdraw
    have hj : j - lo < rs.length := (List.getElem?_eq_some_iff.1 hy).1
    have := hdraw (j - lo) hj (i - lo) (by omega)
    rw [hx, hy, show lo + (j - lo) = j by omega, show lo + (i - lo) = i by omega] at this
    exact this
  have good : ∀ (j : Nat) (r : Rec), lo ≤ j → rs[j - lo]? = some r → Good P cs ops nx (foldS (fun n => decide (n < j)) lo rs F0) j r := fun j r hl hr => by
    have := hgood (j - lo) r hr
    rw [show lo + (j - lo) = j by omega] at this
    exact this
  have recAt : ∀ (j : Nat) (o : Oper), lo ≤ j → j < hi → ops[j]? = some o → ∃ r : Rec, rs[j - lo]? = some r ∧ r.o = o := fun j o hl hh ho => by
    have hj : j - lo < rs.length := by rw [hlen]; omega
    refine ⟨rs[j - lo], List.getElem?_eq_getElem hj, ?_⟩
    have := (good j _ hl (List.getElem?_eq_getElem hj)).op
    rw [ho] at this
    injection this with this
    exact this.symm
  have backB_ : backB ops = true := by
    unfold backB
    rw [List.all_eq_true]
    intro i hi
    cases ho : ops[i]? with
    | none => rfl
    | some o =>
      simp only [Option.map_some, Option.getD_some, List.all_eq_true, Bool.or_eq_true, Bool.not_eq_true', decide_eq_true_eq]
      intro e he
      cases hbd : Region.binds .any e
      · exact .inl rfl
      · exact .inr (hb i o ho e he hbd)
  have done : ∀ fuel listed a w, Mid lo hi γ0 P cs own μ0 w0 N ops nx rs F0 listed a w → (List.range ops.length).countP (fun i => !listed.getD i true) ≤ fuel → (∀ k, k < hi → listed.getD k false = true) → wpAny P .any ops.toArray QQ fuel listed a w := by
    intro fuel listed a w hm hc hall
    have hl : ∀ j, listed.getD j false = decide (j < hi) := fun j => by
      rcases Nat.lt_or_ge j hi with h | h
      · rw [hall j h, decide_eq_true h]
      · rw [hm.high j h, decide_eq_false (by omega)]
    obtain ⟨γ, le0, R, Fr⟩ := hm.st
    have e1 : foldS (fun n => listed.getD n false) lo rs F0 = foldS (fun _ => true) lo rs F0 := foldS_congr rs lo F0 fun n _ hn => hall n (by omega)
    rw [e1] at R Fr
    refine hQ fuel listed γ a w hm.lsize hl hc le0 ⟨R.defers, R.size, R.fr, fun t j want h => ?_, R.hp, R.base, R.big, R.mu⟩ ⟨fun id hid => Fr id (.inr hid)⟩
    have := R.gd t j want h
    rw [hl] at this
    exact of_decide_eq_true this
  intro fuel
  induction fuel with
  | zero =>
    intro listed a w hm hc
    refine done 0 listed a w hm hc fun k hk => ?_
    apply Classical.byContradiction
    intro hne
    have : 0 < (List.range ops.length).countP (fun i => !listed.getD i true) := List.countP_pos_iff.2 ⟨k, List.mem_range.2 (by omega), by
      have h1 : listed.getD k true = listed.getD k false := by simp [Array.getD, hm.lsize, show k < ops.length by omega]
      rw [h1]; simpa using hne⟩
    omega
  | succ fuel ih =>
    intro listed a w hm hc
    by_cases hall : ∀ k, k < hi → listed.getD k false = true
    · exact done _ listed a w hm hc hall
    have notall : ∀ i, i ∈ Region.ready .any ops.toArray listed → lo ≤ i ∧ i < hi := fun i hir => by
      have hlt : i < ops.length := by
        unfold Region.ready at hir
        rw [List.mem_filter] at hir
        simpa using hir.1
      obtain ⟨hun, hpre⟩ := (ready_mem hm.lsize (List.getElem?_eq_getElem hlt)).1 hir
      refine ⟨?_, ?_⟩
      · rcases Nat.lt_or_ge i lo with h | h
        · rw [hm.low i h] at hun; cases hun
        · exact h
      · rcases Nat.lt_or_ge i hi with h | h
        · exact h
        · exfalso
          apply hall
          intro k hk
          have hpre' : ∀ e ∈ (ops[i]).after.toList, Region.binds .any e = true → listed.getD e.on false = true := fun e he hbd => hpre e (Array.mem_toList_iff.1 he) hbd
          refine mask_closed (S := fun j => listed.getD j false = true) hm.closed i _ (List.getElem?_eq_getElem hlt) hpre' k ?_
          unfold barOk at hbar
          simp only [List.all_eq_true, List.mem_range, Bool.or_eq_true, decide_eq_true_eq] at hbar
          rcases hbar i hlt with h2 | h2
          · omega
          · exact h2 k hk
    refine ⟨fun hr => absurd (fun k hk => all_listed backB_ hm.lsize hr k k (Nat.le_refl _) (by omega)) hall, fun i hi' => ?_⟩
    obtain ⟨hli, hih⟩ := notall i hi'
    have hlt : i < ops.length := by omega
    obtain ⟨o, ho⟩ : ∃ o, ops[i]? = some o := ⟨_, List.getElem?_eq_getElem hlt⟩
    obtain ⟨hun, hpre⟩ := (ready_mem hm.lsize ho).1 hi'
    obtain ⟨r, hri, hro⟩ := recAt i o hli hih ho
    have hg := good i r hli hri
    have hpre' : ∀ e ∈ o.after.toList, Region.binds .any e = true → listed.getD e.on false = true := fun e he hbd => hpre e (Array.mem_toList_iff.1 he) hbd
    -- what comes ahead of it has come; what comes behind it has not
    have ahead : ∀ j, ((masks ops []).getD i 0).testBit j = true → listed.getD j false = true := mask_closed (S := fun j => listed.getD j false = true) hm.closed i o ho hpre'
    have behind : ∀ (j : Nat) (oj : Oper), ops[j]? = some oj → ((masks ops []).getD j 0).testBit i = true → listed.getD j false = true → False := fun j oj hoj hbit hj => by
      have := mask_closed (S := fun j => listed.getD j false = true) hm.closed j oj hoj (hm.closed j oj hoj hj) i hbit
      rw [hun] at this; cases this
    let C := foldS (fun n => decide (n < i)) lo rs F0
    let FS_ := foldS (fun n => listed.getD n false) lo rs F0
    have hgC : Good P cs ops nx C i r := hg
    -- an operation j that touches what i touches is listed just if it comes before i
    have agree : ∀ (j : Nat) (y : Rec), lo ≤ j → rs[j - lo]? = some y → j ≠ i → (j < i → Av.apart ops y r = false) → (i < j → Av.apart ops r y = false) → decide (j < i) = listed.getD j false := fun j y hlj hy hne h1 h2 => by
      have hoj := (good j y hlj hy).op
      rcases Nat.lt_or_gt_of_ne hne with hji | hij
      · rcases pair j i y r hlj hji hy hri with h | h
        · rw [ahead j h]; simp [hji]
        · rw [h1 hji] at h; cases h
      · rcases pair i j r y hli hij hri hy with h | h
        · have : listed.getD j false = false := by
            cases hl : listed.getD j false
            · rfl
            · exact (behind j _ hoj h hl).elim
          rw [this]; simp; omega
        · rw [h2 hij] at h; cases h
    have hE : ∀ t ∈ looks ops r.o, FS_.E t = C.E t := fun t ht => by
      refine (foldS_same (fun F F' => F.E t = F'.E t) (fun r F F' h => by unfold Rec.ap setE; simp only; split <;> first | rfl | exact h) rs lo (fun n => decide (n < i)) (fun n => listed.getD n false) F0 F0 rfl ?_).symm
      intro j y hlj hy' hne
      have hdt : y.o.dst ≠ some t := fun hdt => by
        apply hne
        by_cases hji : j = i
        · subst hji
          show decide (j < j) = listed.getD j false
          rw [hun]; simp
        · refine agree j y hlj hy' hji (fun _ => ?_) (fun _ => ?_)
          · unfold Av.apart
            simp only [hdt]
            have : (looks ops r.o).contains t = true := by simpa using ht
            rw [this]; rfl
          · unfold Av.apart
            simp only [hdt]
            have : (looks ops r.o).contains t = true := by simpa using ht
            rw [this]; simp
      exact ⟨fun F F' h => by rw [ap_E_other hdt]; exact h, fun F F' h => by rw [ap_E_other hdt]; exact h⟩
    have touch : ∀ (j : Nat) (y : Rec) (x : Nat), lo ≤ j → rs[j - lo]? = some y → j ≠ i → x ∈ y.wr → (x ∈ r.rd ∨ x ∈ r.wr) → decide (j < i) = listed.getD j false := fun j y x hlj hy hne hx hxr => by
      have m : ∀ (b : List Nat), x ∈ b → meets y.wr b = true := fun b hb => by
        unfold meets; rw [List.any_eq_true]; exact ⟨x, hx, by simpa using hb⟩
      have m' : ∀ (b : List Nat), x ∈ b → meets b y.wr = true := fun b hb => by
        unfold meets; rw [List.any_eq_true]; exact ⟨x, hb, by simpa using hx⟩
      refine agree j y hlj hy hne (fun _ => ?_) (fun _ => ?_)
      · unfold Av.apart
        rcases hxr with h | h
        · rw [m _ h]; simp
        · rw [m _ h]; simp
      · unfold Av.apart
        rcases hxr with h | h
        · rw [m' _ h]; simp
        · rw [m' _ h]; simp
    have hH : ∀ x ∈ r.rd, FS_.hp x = C.hp x := fun x hx => by
      refine (foldS_same (fun F F' => F.hp x = F'.hp x) (fun r F F' h => effH_in _ _ _ _ x h) rs lo (fun n => decide (n < i)) (fun n => listed.getD n false) F0 F0 rfl ?_).symm
      intro j y hlj hy' hne
      have hxw : x ∉ y.wr := fun hxw => by
        apply hne
        by_cases hji : j = i
        · subst hji
          show decide (j < j) = listed.getD j false
          rw [hun]; simp
        · exact touch j y x hlj hy' hji hxw (.inl hx)
      exact ⟨fun F F' h => (effH_out y F.hp x hxw).trans h, fun F F' h => h.trans (effH_out y F'.hp x hxw).symm⟩
    have hL : ∀ x, x ∈ r.wr → FS_.live x = C.live x := fun x hx => by
      refine (foldS_same (fun F F' => F.live x = F'.live x) (fun r F F' h => effL_in _ _ _ _ x h) rs lo (fun n => decide (n < i)) (fun n => listed.getD n false) F0 F0 rfl ?_).symm
      intro j y hlj hy' hne
      have hxw : x ∉ y.wr := fun hxw => by
        apply hne
        by_cases hji : j = i
        · subst hji
          show decide (j < j) = listed.getD j false
          rw [hun]; simp
        · exact touch j y x hlj hy' hji hxw (.inr hx)
      exact ⟨fun F F' h => (effL_out y F.live x hxw).trans h, fun F F' h => h.trans (effL_out y F'.live x hxw).symm⟩
    have hev : ∀ x ∈ r.o.op.operands, evE FS_.E x = evE C.E x := evE_congr hE
    have hqS : qopC P cs r.o (evE FS_.E) FS_.hp r.id = r.q := by
      rw [hgC.q]
      refine qopC_congr hev fun x hx => hH x ?_
      rw [hgC.rd, ← readIdsC_congr hev]; exact hx
    have hkill : ∀ tk, r.q.kill = some tk → FS_.live tk := fun tk hk => by
      rw [hL tk (by unfold Rec.wr; cases hm_ : r.q.mo with | some t => exact absurd hk (by rw [← hqS]; exact qopC_mo_kill (by rw [hqS]; exact hm_)) | none => simp [hk])]
      exact hgC.kill tk hk
    obtain ⟨γ, le0, R, Fr⟩ := hm.st
    have hfr : ∀ j, r.id ≤ j → j < r.id + 16 → γ.ι j = none ∧ γ.τ j = none ∧ FS_.hp j = none ∧ ¬ FS_.live j := fun j h1 h2 => Fr j (.inl ⟨i, hlt, hun, by rw [hgC.id] at h1; omega, by rw [hgC.id] at h2; omega⟩)
    -- the state behind it
    have next : ∀ (u : Value) (γ' : G) (w' : World), LeG γ γ' → RL own μ0 w0 N ops (fun k => listed.getD k false = true ∨ k = i) (r.ap FS_).E (r.ap FS_).hp (r.ap FS_).live γ' (a.put o.dst u) w' →
        (∀ id, (id < r.id ∨ r.id + 16 ≤ id) → γ'.ι id = γ.ι id ∧ γ'.τ id = γ.τ id) → wpAny P .any ops.toArray QQ fuel (listed.setIfInBounds i true) (a.put o.dst u) w' := fun u γ' w' hle R' hoth => by
      have hset : ∀ k, (listed.setIfInBounds i true).getD k false = (listed.getD k false || k == i) := fun k => by
        rw [getD_set]
        by_cases hki : i = k
        · subst hki; simp [hm.lsize, hlt]
        · rw [if_neg (fun h => hki h.1)]
          have : (k == i) = false := by simpa using Ne.symm hki
          rw [this, Bool.or_false]
      have hfold : foldS (fun n => (listed.setIfInBounds i true).getD n false) lo rs F0 = r.ap FS_ := by
        have e1 : (fun n => (listed.setIfInBounds i true).getD n false) = (fun n => listed.getD n false || n == i) := funext hset
        rw [e1]
        refine foldS_add rs lo _ i r F0 hli hri hun fun j y hlj hy' hij hj F => ?_
        have hap : Av.apart ops r y = true := by
          rcases pair i j r y hli hij hri hy' with h | h
          · exact (behind j _ (good j y hlj hy').op h hj).elim
          · exact h
        unfold Av.apart at hap
        simp only [Bool.and_eq_true, Bool.not_eq_true'] at hap
        obtain ⟨_, _, h3, _, _⟩ := hap
        refine (ap_comm F (fun t ht ht' => ?_) h3).symm
        have := nodup_at hnd hgC.op (good j y hlj hy').op ht ht'
        omega
      refine ih _ _ _ ⟨by rw [Array.size_setIfInBounds, hm.lsize], fun j hj => by rw [hset, hm.low j hj]; rfl, fun j hj => by rw [hset, hm.high j hj]; simpa using (by omega : j ≠ i), fun j oj hoj hl e he hbd => ?_, ⟨γ', le0.trans hle, ?_, ?_⟩⟩ ?_
      · rw [hset] at hl ⊢
        rw [Bool.or_eq_true] at hl ⊢
        rcases hl with hl | hl
        · exact .inl (hm.closed j oj hoj hl e he hbd)
        · have hji : j = i := by simpa using hl
          subst hji
          rw [ho] at hoj; injection hoj with hoj; subst hoj
          exact .inl (hpre' e he hbd)
      · rw [hfold]
        have e2 : (fun k => (listed.setIfInBounds i true).getD k false = true) = (fun k => listed.getD k false = true ∨ k = i) := by
          funext k; rw [hset, Bool.or_eq_true]; simp
        rw [e2]; exact R'
      · rw [hfold]
        intro id hid
        have hid' : ((∃ j, j < ops.length ∧ listed.getD j false = false ∧ nx + 16 * j ≤ id ∧ id < nx + 16 * j + 16) ∨ nx + 16 * ops.length ≤ id) ∧ (id < r.id ∨ r.id + 16 ≤ id) := by
          rcases hid with ⟨j, h1, h2, h3, h3'⟩ | h
          · rw [hset, Bool.or_eq_false_iff] at h2
            refine ⟨.inl ⟨j, h1, h2.1, h3, h3'⟩, ?_⟩
            have : j ≠ i := by simpa using h2.2
            rw [hgC.id]; omega
          · exact ⟨.inr h, by rw [hgC.id]; omega⟩
        obtain ⟨g1, g2, g3, g4⟩ := Fr id hid'.1
        obtain ⟨g5, g6⟩ := hoth id hid'.2
        refine ⟨by rw [g5, g1], by rw [g6, g2], ?_, ?_⟩
        · show effH r.id r.q FS_.hp id = none
          have hne' : id ≠ r.id := by have := hid'.2; omega
          unfold effH addF
          cases hm_ : r.q.mo with
          | some t => exact ups_none (qopC_mo (by rw [hqS]; exact hgC.ok) (by rw [hqS]; exact hm_)) g3 hid'.2
          | none =>
          simp only
          split
          · rename_i d ob hupd
            obtain ⟨o', ho'⟩ := upd_there (by rw [hqS]; exact hupd)
            rw [if_neg (fun h => by rw [h] at g3; exact absurd (g3.symm.trans ho') (by simp))]
            split
            · rw [if_neg hne']; exact g3
            · exact g3
          · split
            · rw [if_neg hne']; exact g3
            · exact g3
        · show ¬ effL r.id r.q FS_.live id
          unfold effL
          cases hm_ : r.q.mo with
          | some t => exact lvs_none (qopC_mo (by rw [hqS]; exact hgC.ok) (by rw [hqS]; exact hm_)) g4 hid'.2
          | none =>
          simp only
          rintro (⟨h, _⟩ | ⟨_, h⟩)
          · exact g4 h
          · have := hid'.2; omega
      · have := countP_lt (p := fun i => !listed.getD i true) (q := fun k => !(listed.setIfInBounds i true).getD k true) (List.range ops.length) (fun x _ hx => by
            simp only [getD_set] at hx
            split at hx
            · simp at hx
            · exact hx) ⟨i, List.mem_range.2 hlt, by
              have h1 : listed.getD i true = listed.getD i false := by simp [Array.getD, hm.lsize, hlt]
              simp [h1, hun], by simp [hm.lsize, hlt]⟩
        omega
    have hnd_ : ¬ (listed.getD i false = true) := by rw [hun]; simp
    have hguard : ∀ g, o.guard = some g → listed.getD g.1 false = true := fun g hgd => by
      -- the guard's temporary is looked at: it has been written
      obtain ⟨_, q2, _, q4⟩ := hgC.g1 g (by rw [hro]; exact hgd)
      rcases Nat.lt_or_ge g.1 lo with hgl | hgl
      · exact hm.low _ hgl
      unfold guardOf at q4
      cases hoj : ops[g.1]? with
      | none => rw [hoj] at q4; cases q4
      | some oj =>
        rw [hoj] at q4
        simp only at q4
        cases hdj : oj.dst with
        | none => rw [hdj] at q4; cases q4
        | some t =>
          obtain ⟨y, hy, hyo⟩ := recAt g.1 oj hgl (by omega) hoj
          have : t ∈ looks ops r.o := by
            unfold looks Oper.looksAt
            rw [List.mem_append]
            refine .inr ?_
            rw [hro, hgd]
            simp only
            have e : ops.toArray[g.1]? = some oj := by simpa using hoj
            rw [e, Option.bind_some, hdj]
            simp
          have hag := agree g.1 y hgl hy (by omega) (fun _ => by
            unfold Av.apart
            have h1 : y.o.dst = some t := by rw [hyo]; exact hdj
            simp only [h1]
            have : (looks ops r.o).contains t = true := by simpa using this
            rw [this]; rfl) (fun h => by omega)
          rw [← hag]; simp [q2]
    unfold wpOp
    have hoA : ops.toArray[i]? = some o := by simpa using ho
    rw [hoA]
    simp only
    have stepW : ∀ (g : Option (Nat × Bool)) (G' : Bool), r.g = g → r.gv = G' → (∀ p ∈ r.q.ob, p) → (∀ g', o.guard = some g' → yielded ops.toArray a.tmps g'.1 = some g'.2) → (∀ j want, g = some (j, want) → listed.getD j false = true ∧ yielded ops.toArray a.tmps j = some want ∧ G' = true) →
        o.wp P a w (wpAny P .any ops.toArray QQ fuel (listed.setIfInBounds i true)) QQ := fun g G' hgg hgv hob hw hj => by
      rw [← hro] at hw ⊢
      refine step_op R (cs := cs) (id := r.id) (by rw [readOk_congr hE]; exact hgC.rdOk) (by rw [hqS]; exact hgC.ok) (by rw [hqS]; exact hob) (by rw [hqS]; exact hkill) (by rw [hqS]; intro t ht s hs; rw [hL s (by unfold Rec.wr; rw [ht]; simp [hs])]; exact hgC.mo t ht s hs) hfr hw ?_
      rw [hqS]
      intro u w' γ' hs
      have R' := R.put (i := i) (x := ⟨r.g, r.gv, r.q.v⟩) hreg hgC.op hnd_ hs.le hs.hp hs.base hs.mu (by
        rw [hgg, hgv]
        cases g with
        | none => exact hs.rep
        | some jw => obtain ⟨j, want⟩ := jw; obtain ⟨q1, q2, q3⟩ := hj j want rfl; exact ⟨q1, .inl ⟨q2, q3, hs.rep⟩⟩)
      rw [hro]
      refine next u γ' w' hs.le ?_ (fun id hid => hs.other id hid)
      rw [← hro]
      exact R'
    cases hgd : o.guard with
    | none =>
      obtain ⟨q1, q2⟩ := hgC.g0 (by rw [hro]; exact hgd)
      rw [if_pos (wanted_none hgd)]
      exact .inl (stepW none true q1 q2 ((hobs r (List.mem_of_getElem? hri)).1 q1) (fun g' hg' => by rw [hgd] at hg'; cases hg') (fun j want h => by cases h))
    | some g =>
      obtain ⟨q1, q2, q3, q4⟩ := hgC.g1 g (by rw [hro]; exact hgd)
      have hGS : guardOf ops FS_.E g = some r.gv := by rw [guardOf_congr (o := r.o) (by rw [hro]; exact hgd) hE]; exact q4
      obtain ⟨gs1, gs2⟩ := guard_spec R hGS
      have hgl := hguard g hgd
      by_cases hy : yielded ops.toArray a.tmps g.1 = some g.2
      · rw [if_pos ((wanted_some hgd).2 hy)]
        refine .inl (stepW (some g) r.gv q1 rfl ((hobs r (List.mem_of_getElem? hri)).2 (by rw [q1]; simp) (gs1 hy)) (fun g' hg' => by rw [hgd] at hg'; injection hg' with hg'; rw [← hg']; exact hy) (fun j want h => ?_))
        injection h with h
        rw [h] at hgl hy
        exact ⟨hgl, hy, gs1 (by rw [h]; exact hy)⟩
      · rw [if_neg (fun h => hy ((wanted_some hgd).1 h))]
        unfold Q.plain at q3
        simp only [Bool.and_eq_true, Option.isNone_iff_eq_none, Bool.not_eq_true'] at q3
        obtain ⟨⟨⟨⟨p1, p2⟩, p3⟩, p4⟩, p5⟩ := q3
        have hap : r.ap FS_ = ⟨setE r.o ⟨r.g, r.gv, r.q.v⟩ FS_.E, FS_.hp, FS_.live⟩ := by
          unfold Rec.ap
          rw [effH_of p3 p5, effL_of p4 p5, p1, p2, addF_none, addL_false]
        have R' := R.put (i := i) (x := ⟨r.g, r.gv, r.q.v⟩) (u := undef) hreg hgC.op hnd_ (LeG.refl γ) R.hp (Base.refl own w) (fun _ _ _ _ => rfl) (by
          rw [q1]
          exact ⟨hgl, .inr ⟨hy, gs2 hy, rfl⟩⟩)
        refine next undef γ w (LeG.refl γ) ?_ (fun id _ => ⟨rfl, rfl⟩)
        rw [hap, ← hro]
        exact R'
theorem drawSeg_of {rs : List Rec} (h : drawOk ops rs = true) (hl : rs.length = ops.length) : drawSeg ops rs 0 = true := by
  unfold drawOk at h
  unfold drawSeg
  simp only [Nat.zero_add, hl]
  exact h
theorem barOk_all : barOk ops ops.length = true := by
  unfold barOk
  simp only [List.all_eq_true, List.mem_range, Bool.or_eq_true, decide_eq_true_eq]
  exact fun j hj => .inl hj
theorem wpAny_all {QQ : Exit → Act → World → Prop} {fuel : Nat} {listed : Array Bool} {a : Act} (hs : listed.size = ops.length) (h : ∀ j, listed.getD j false = decide (j < ops.length)) (hq : QQ .normal a w) : wpAny P .any ops.toArray QQ fuel listed a w := by
  have hr : Region.ready .any ops.toArray listed = [] := by
    apply Classical.byContradiction
    intro hne
    obtain ⟨k, hk⟩ := List.exists_mem_of_ne_nil _ hne
    unfold Region.ready at hk
    rw [List.mem_filter] at hk
    simp only [List.size_toArray, Bool.and_eq_true, Bool.not_eq_true', List.mem_range] at hk
    have h1 : listed.getD k true = listed.getD k false := by simp [Array.getD, hs, hk.1]
    rw [h1, h, decide_eq_true hk.1] at hk
    cases hk.2.1
  cases fuel with
  | zero => exact ⟨hr, hq⟩
  | succ n => exact ⟨fun _ => hq, fun i hi => by rw [hr] at hi; cases hi⟩
theorem draw_any {γ0 : G} {cs : Cs} {nx : Nat} {rs : List Rec} {F0 : Fy} (hreg : regOk ops N = true) (hback : backOk ops = true) (hdraw : drawOk ops rs = true) (hlen : rs.length = ops.length)
    (hgood : ∀ k r, rs[k]? = some r → Good P cs ops nx (foldS (fun n => decide (n < k)) 0 rs F0) k r) (hobs : ∀ r ∈ rs, (r.g = none → ∀ p ∈ r.q.ob, p) ∧ (r.g ≠ none → r.gv = true → ∀ p ∈ r.q.ob, p)) {QQ : Exit → Act → World → Prop}
    (hQ : ∀ (γ : G) (a : Act) (w : World), LeG γ0 γ → RL own μ0 w0 N ops (fun k => k < ops.length) (foldS (fun _ => true) 0 rs F0).E (foldS (fun _ => true) 0 rs F0).hp (foldS (fun _ => true) 0 rs F0).live γ a w →
      Fresh (nx + 16 * ops.length) (foldS (fun _ => true) 0 rs F0).hp (foldS (fun _ => true) 0 rs F0).live γ → QQ .normal a w) :
    ∀ (fuel : Nat) (listed : Array Bool) (a : Act) (w : World), Mid 0 ops.length γ0 P cs own μ0 w0 N ops nx rs F0 listed a w → (List.range ops.length).countP (fun i => !listed.getD i true) ≤ fuel → wpAny P .any ops.toArray QQ fuel listed a w :=
  draw_seg (Nat.zero_le _) (Nat.le_refl _) hreg hback (drawSeg_of hdraw hlen) barOk_all (by rw [hlen, Nat.sub_zero]) (fun k r h => by rw [Nat.zero_add]; exact hgood k r h) hobs fun fuel listed γ a w h1 h2 _ le R F => wpAny_all h1 h2 (hQ γ a w le R F)
end Go.Av
