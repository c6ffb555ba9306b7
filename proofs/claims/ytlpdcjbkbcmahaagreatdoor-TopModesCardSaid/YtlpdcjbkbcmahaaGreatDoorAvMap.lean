/- Maps of one's own, from strings to integers. -/
import Derived.Test.YtlpdcjbkbcmahaaGreatDoorAvWr
import Derived.Lib.AppendStr
import Derived.StringKeys
set_option linter.unusedVariables false
set_option linter.unusedSimpArgs false
namespace Go.Av
open Go.RowKit Go.Base
variable {P : Program} {γ γ' : G} {w w' : World} {own : Nat → Prop} {hp : Nat → Option Ob} {live : Nat → Prop} {ρ : Operand → Value}

theorem mapT_some {t k e : TypeId} (h : mapT P t = some (k, e)) : P.underlying t = some (.map k e) ∧ P.underlying k = some .string ∧ P.underlying e = some (.int .i64) ∧ ∃ i, P.info? e = some i ∧ i.zero = some (.int .i64 0) := by
  unfold mapT at h
  split at h
  · rename_i k' e' hu
    split at h
    · rename_i hk he
      split at h
      · rename_i i hi
        split at h
        · rename_i z hz
          split at h
          · rename_i h0
            subst h0
            simp only [Option.some.injEq, Prod.mk.injEq] at h
            obtain ⟨rfl, rfl⟩ := h
            exact ⟨hu, hk, he, i, hi, hz⟩
          · cases h
        · cases h
      · cases h
    · cases h
  · cases h
theorem MapIs.at {k e : TypeId} {n : Nat} {f : List UInt8 → Option Int} {o : Go.Obj} (h : MapIs P k e n f o) {b : Nat} (hb : w.heap[b]? = some o) :
    ∃ D, w.ownsMap P k (plainElem (H := Unit) P e) b n D ∧ ∀ key : List UInt8, key.length ≤ maxLen → Maps.has D (.string key) = (f key).isSome ∧ D.atKey (.string key) (.lit (.int .i64 0)) = .lit (.int .i64 ((f key).getD 0)) := by
  obtain ⟨es, clock, rfl, F, h1, h2⟩ := h
  exact ⟨_, ⟨es, clock, hb, F, h1, rfl⟩, h2⟩
theorem MapIs.of {k e : TypeId} {n b : Nat} {f : List UInt8 → Option Int} {D : DataW Unit} (h : w.ownsMap P k (plainElem P e) b n D) (hf : ∀ key : List UInt8, key.length ≤ maxLen → Maps.has D (.string key) = (f key).isSome ∧ D.atKey (.string key) (.lit (.int .i64 0)) = .lit (.int .i64 ((f key).getD 0))) :
    ∃ o, w.heap[b]? = some o ∧ MapIs P k e n f o := by
  obtain ⟨es, clock, hb, F, h1, rfl⟩ := h
  exact ⟨_, hb, es, clock, rfl, F, h1, hf⟩
theorem does_makeMap (H : Hp own hp live γ w) {id : Nat} (h1 : γ.ι id = none) (h2 : γ.τ id = none) (hid : hp id = none) (hlv : ¬ live id) (hown : ∀ b, w.heap.size ≤ b → own b) {o : Oper} {t : TypeId} (ho : o.op = .makeMap t none) (hk : (makeMapQ P id t).quiet.ok = true) :
    Does P own hp live γ w ρ o id (makeMapQ P id t).quiet := by
  obtain ⟨⟨k, e⟩, hm, h3⟩ := optQ_ok hk
  unfold makeMapQ at hk ⊢
  rw [h3] at hk ⊢
  obtain ⟨hu, hk1, he, _⟩ := mapT_some hm
  have hmade : (w.alloc (.map #[] 0)).ownsMap P k (plainElem (H := Unit) P e) w.heap.size 0 (.map []) := World.ownsMap_made w P k _
  obtain ⟨x, hx, his⟩ := MapIs.of (f := fun _ => none) hmade (fun key _ => ⟨rfl, rfl⟩)
  have hx' : (w.alloc (.map #[] 0)).heap[w.heap.size]? = some (.map #[] 0) := heap_alloc_new w _
  rw [hx'] at hx
  injection hx with hx
  subst hx
  obtain ⟨γ', h6⟩ := stp_new H h1 h2 hid hlv hown (.map P k e 0 fun _ => none) (.map #[] 0) (fun _ _ => his) (.mp id) (.map (some w.heap.size)) (fun γ' hi => by simp only [RepA]; exact ⟨_, hi, rfl⟩)
  refine does_of rfl rfl rfl ⟨_, _, γ', ?_, h6⟩
  unfold execOp
  simp only [ho]
  simp [run_makeMap]
theorem stay_lookup (H : Hp own hp live γ w) {o : Oper} {t : TypeId} {m x : Operand} (ho : o.op = .lookup t m x true) {p q : AV} (hm : RepA γ p (ρ m)) (hx : RepA γ q (ρ x)) (hk : (lookupQ P t hp p q).ok = true) (hob : ∀ z ∈ (lookupQ P t hp p q).ob, z) :
    Stay P γ w ρ o (lookupQ P t hp p q).v := by
  obtain ⟨⟨k, e⟩, hT, h3⟩ := optQ_ok hk
  unfold lookupQ at hk hob ⊢
  rw [h3] at hk hob ⊢
  obtain ⟨hu, hk1, he, i, hi, hz⟩ := mapT_some hT
  simp only at hk hob ⊢
  split at hk
  · rename_i id s
    split at hk
    · rename_i P' k' e' n f hid
      split at hk
      · rename_i hc
        obtain ⟨rfl, rfl⟩ := hc
        simp only [hid, and_self, if_true, Q.when, List.mem_cons, List.not_mem_nil, or_false, forall_eq_or_imp, forall_eq] at hob ⊢
        obtain ⟨rfl, hlen⟩ := hob
        simp only [RepA, Rep] at hm hx
        obtain ⟨b, e1, e2⟩ := hm
        obtain ⟨b', o', g1, g2, g3, _⟩ := H.blk hid rfl
        simp only [RepO] at g3
        rw [e1] at g1
        injection g1 with g1
        injection g1 with g1
        subst g1
        obtain ⟨D, hD, hf⟩ := MapIs.at g3 g2
        obtain ⟨f1, f2⟩ := hf s hlen
        have hzr : (zeroValue e').run P' w = .ok (.int .i64 0) w := run_zero hi hz
        have hkey : keyOf P' k' (.string ⟨⟨s⟩⟩) = some (.string s) := Go.WideMaps.keyOf_string_mk hk1 (show (⟨⟨s⟩⟩ : ByteArray).size ≤ maxLen from hlen)
        obtain ⟨v, ps, hrun, hv⟩ := hD.look_ok (Go.Maps.string_keyed hk1) hu hzr (plainElem_int he (by decide)) hkey
        obtain ⟨c, rfl, hc, _⟩ := plainElem_int_inv he hv
        rw [f2] at hc
        injection hc with hc _
        injection hc with hc
        injection hc with _ hc
        subst hc
        rw [f1] at hrun
        refine ⟨_, ?_, by simp only [RepA, Rep]; exact ⟨[_, _], rfl, by simp only [RepL, Rep]; exact ⟨_, _, rfl, rfl, _, _, rfl, rfl, rfl⟩⟩⟩
        unfold execOp
        simp only [ho, e2, hx]
        rw [Sem.run_bind, hrun]
        rfl
      · cases hk
    · cases hk
  · cases hk
theorem does_mapUpdate (H : Hp own hp live γ w) (id : Nat) {o : Oper} {t : TypeId} {m x y : Operand} (ho : o.op = .mapUpdate t m x y) {p q r : AV} (hm : RepA γ p (ρ m)) (hx : RepA γ q (ρ x)) (hy : RepA γ r (ρ y)) (hk : (mapUpdateQ P t hp p q r).ok = true) (hob : ∀ z ∈ (mapUpdateQ P t hp p q r).ob, z) :
    Does P own hp live γ w ρ o id (mapUpdateQ P t hp p q r) := by
  obtain ⟨⟨k, e⟩, hT, h3⟩ := optQ_ok hk
  unfold mapUpdateQ at hk hob ⊢
  rw [h3] at hk hob ⊢
  obtain ⟨hu, hk1, he, _⟩ := mapT_some hT
  simp only at hk hob ⊢
  split at hk
  · rename_i mid s v
    split at hk
    · rename_i P' k' e' n f hid
      split at hk
      · rename_i hc
        obtain ⟨rfl, rfl⟩ := hc
        simp only [hid, and_self, if_true, List.mem_cons, List.not_mem_nil, or_false, forall_eq_or_imp, forall_eq] at hob ⊢
        obtain ⟨rfl, hlen, hn, hwf⟩ := hob
        simp only [RepA, Rep] at hm hx hy
        obtain ⟨b, e1, e2⟩ := hm
        obtain ⟨b', o', g1, g2, g3, _⟩ := H.blk hid rfl
        simp only [RepO] at g3
        rw [e1] at g1
        injection g1 with g1
        injection g1 with g1
        subst g1
        obtain ⟨D, hD, hf⟩ := MapIs.at g3 g2
        have hkey : keyOf P' k' (.string ⟨⟨s⟩⟩) = some (.string s) := Go.WideMaps.keyOf_string_mk hk1 (show (⟨⟨s⟩⟩ : ByteArray).size ≤ maxLen from hlen)
        have hkl : WideAt.IsKeyLit (.string s) := (Go.Maps.string_keyed hk1).key hkey
        obtain ⟨w', hrun, hD', hgr⟩ := hD.update (Go.Maps.string_keyed hk1) hu hn hkey (plainElem_int he hwf)
        obtain ⟨x', hx', his⟩ := MapIs.of (f := fun q => if q = s then some v else f q) hD' (fun key hkl' => by
          by_cases hks : key = s
          · subst hks
            rw [Maps.has_put_same hD.isMap hkl, Maps.atKey_put_same hD.isMap hkl]
            simp
          · have hne : (Lit.string key) ≠ .string s := fun h => hks (by injection h)
            rw [Maps.has_put_other hne, Maps.atKey_put_other hne]
            simpa [hks] using hf key hkl')
        refine ⟨undef, w', γ, .inr ⟨rfl, ?_⟩, stp_write H id hid rfl e1 hgr hx' (by simp only [RepO]; exact his) (by simp only [RepA]) _ rfl rfl rfl rfl⟩
        unfold execOp
        simp only [ho, e2, hx, hy]
        rw [Sem.run_bind, hrun]
        rfl
      · cases hk
    · cases hk
  · cases hk

/-! ### Rows that may grow -/
/-- An append to nil, or to a row that may grow. -/
def strT (P : Program) (u : TypeId) : Bool := match P.underlying u with
  | some .string => true
  | _ => false
/-- A type of bytes. -/
def byteT (P : Program) (t : TypeId) : Bool := match P.info? t with
  | some i => i.size == 1 && i.bytes == 1 && (match i.zero with
    | some (.int .u8 z) => z == 0
    | _ => false)
  | none => false
/-- A string's bytes, appended. -/
def vecStrQ (hp : Nat → Option Ob) (id : Nat) (el : TypeId) (s : AV) (b : List UInt8) : Q := match s with
  | .ap _ n _ r => (match r with
    | .nl => if n = 0 then { ob := [b.length ≤ 140737488355328], v := .vec id 1 b.length, new := some (.vec el 1 b.length (bytesF b)) } else .no
    | .tok _ _ => .no)
  | .vec d _ _ => (match hp d with
    | some (.vec e z n f) => if e = el ∧ z = 1 then { ob := [n + b.length ≤ 140737488355328], v := .vec id 1 (n + b.length), new := some (.vec el 1 (n + b.length) (appF n f (bytesF b))), upd := some (d, .gone) } else .no
    | _ => .no)
  | _ => .no
def vecQ (P : Program) (hp : Nat → Option Ob) (id : Nat) (args : List AV) (ts : List TypeId) : Q :=
  match args, ts with
  | [s, x], [t, u] =>
    if t = u then
      optQ (elemT P t) fun el => optQ (asSl x) fun (sz, m, g) => match s with
        | .ap _ n _ r => (match r with
          | .nl => if n = 0 then appQ P el sz m fun b z => { ob := [m * b ≤ 140737488355328], v := .vec id z m, new := some (.vec el z m g) } else .no
          | .tok _ _ => .no)
        | .vec d _ _ => (match hp d with
          | some (.vec e z n f) => appQ P el sz m fun b y => if e = el ∧ z = y then { ob := [(n + m) * b ≤ 140737488355328], v := .vec id y (n + m), new := some (.vec el y (n + m) (appF n f g)), upd := some (d, .gone) } else .no
          | _ => .no)
        | _ => .no
    else (match x with
      | .d (.str b) => optQ (elemT P t) fun el => if strT P u = true ∧ byteT P el = true then vecStrQ hp id el s b else .no
      | _ => .no)
  | _, _ => .no
theorem own_slice {v : Value} {e : TypeId} {sz n : Nat} {xs : List Value} (h : w.ownsRow 0 e sz v n xs) : ∃ A c, v = .slice A n c ∧ n ≤ c ∧ c ≤ maxLen ∧ (0 < n → ∃ b, A = some ⟨b, 0, none⟩) := by
  rcases h.2 with ⟨rfl, rfl⟩ | ⟨b, cap, cur, rfl, h1, h2, h3, h4, h5, h6⟩
  · exact ⟨none, 0, rfl, Nat.le_refl _, Nat.zero_le _, fun h => absurd h (by omega)⟩
  · exact ⟨_, cap, rfl, h3, h4, fun _ => ⟨b, rfl⟩⟩
theorem stp_vec (H : Hp own hp live γ w) {id : Nat} (h1 : γ.ι id = none) (h2 : γ.τ id = none) (hid : hp id = none) (hlv : ¬ live id) (old : Option Nat) {v : Value} {e : TypeId} {sz n : Nat} {xs : List Value} {F : Nat → D} (hz : 0 < sz)
    (ow : w'.ownsRow 0 e sz v n xs) (hF : Elems γ.μ sz n F xs) (hgr : w.grownBy w' v.ownBlock) (a1 : ∀ g, v.ownBlock = some g → own g) (a2 : ∀ g, v.ownBlock = some g → ∀ k, γ.μ g k = none)
    (a3 : ∀ g j oj q, v.ownBlock = some g → hp j = some oj → oj.ok = true → some j ≠ old → γ.ι j = some q → q.block ≠ some g) (a4 : ∀ g t u, v.ownBlock = some g → live t → γ.τ t = some u → u.1.ownBlock = none ∨ u.1.ownBlock ≠ some g) :
    ∃ γ', Stp own hp live γ w id (fun j => if some j = old then some .gone else addF id (some (.vec e sz n F)) hp j) live (.vec id sz n) v γ' w' := by
  obtain ⟨A, c, k1, k2, k3, k4⟩ := own_slice ow
  exact stp_newAt H h1 h2 hid (fun t ht => ⟨ht, fun e => hlv (e ▸ ht)⟩) old (.vec v e sz) (.vec e sz n F) (fun γ' le => ⟨n, F, xs, rfl, hz, ow, hF.mono le.μ⟩) hgr a1 a2 a3 a4
    (fun γ' hi => by simp only [RepA]; exact ⟨e, A, c, hi, k1, k2, k3, k4⟩)
theorem grown_any (h : Ext w w') (r : Option Nat) : w.grownBy w' r := ⟨h.os, h.tape, h.output, h.size, fun k hk _ => h.block k hk⟩
/-- A block that is new is no one's. -/
theorem new_free (H : Hp own hp live γ w) : (∀ k, γ.μ w.heap.size k = none) ∧ (∀ j oj q, hp j = some oj → oj.ok = true → γ.ι j = some q → q.block ≠ some w.heap.size) ∧ ∀ t u, live t → γ.τ t = some u → u.1.ownBlock = none ∨ u.1.ownBlock ≠ some w.heap.size := by
  refine ⟨fun k => ?_, fun j oj q hj ho hq e => ?_, fun t u ht hq => ?_⟩
  · cases hmu : γ.μ w.heap.size k with
    | none => rfl
    | some y => exact absurd (fz_lt H.fz hmu) (by omega)
  · obtain ⟨q', f1, f2, _⟩ := H.obj j oj hj ho
    rw [hq] at f1; injection f1 with f1; subst f1
    exact absurd (f2.lt e) (by omega)
  · obtain ⟨n, ys, q1, _⟩ := H.tok t u.1 u.2.1 u.2.2 ht hq
    cases hb : u.1.ownBlock with
    | none => exact .inl rfl
    | some b => exact .inr fun e => by injection e with e; have := (q1.lt b hb).2; omega
/-- An append of a string to bytes of one's own: in its place, or in a new row. -/
theorem run_append_str (t u ty e : TypeId) (i : TypeInfo) (ht : P.underlying t = some (.slice e)) (hu : P.underlying u = some .string) (hi : P.info? e = some i) (hz : i.zero = some (.int .u8 0)) (hsize : i.size = 1) (hby : i.bytes = 1)
    (v : Value) (n : Nat) (xs : List Value) (hown : w.ownsRow 0 e 1 v n xs) (s : ByteArray) (hbytes : n + s.size ≤ 140737488355328) :
    ∃ v' w', (Builtin.append_ #[t, u] ty #[v, .string s]).run P w = .ok v' w' ∧ w'.ownsRow 0 e 1 v' (n + s.size) (xs ++ Lib.strCells s) ∧
      ((v'.ownBlock = v.ownBlock ∧ w.grownBy w' v.ownBlock) ∨ (v'.ownBlock = some w.heap.size ∧ Ext w w')) := by
  have h63 : n + s.size ≤ maxLen := by unfold maxLen; omega
  have hxl : xs.length = n := by simpa using hown.1
  have hlen : (xs ++ Lib.strCells s).length = (n + s.size) * 1 := by rw [List.length_append, hxl, Lib.strCells_length, Nat.mul_one]
  have grown : ∀ (old : Nat), old < n + s.size →
      (w.drew.alloc (.cells (xs.toArray ++ (Lib.strCells s).toArray ++ Builtin.zeroCells (Value.int .u8 0).cells (grownCap w (n + s.size) old e - (n + s.size))) e)).ownsRow 0 e 1
        (.slice (some ⟨w.heap.size, 0, none⟩) (n + s.size) (grownCap w (n + s.size) old e)) (n + s.size) (xs ++ Lib.strCells s) ∧
      Ext w (w.drew.alloc (.cells (xs.toArray ++ (Lib.strCells s).toArray ++ Builtin.zeroCells (Value.int .u8 0).cells (grownCap w (n + s.size) old e - (n + s.size))) e)) := by
    intro old ho
    have hge := grownCap_ge w (n + s.size) old e
    have hcm : grownCap w (n + s.size) old e ≤ maxLen := grownCap_le_maxLen w (n + s.size) old e h63
    refine ⟨⟨hlen, .inr ⟨w.heap.size, _, _, rfl, Nat.zero_le _, heap_alloc_new w.drew _, hge, hcm, ?_, ?_⟩⟩, ((Below.refl _ w).drew).alloc (Nat.le_refl _) _⟩
    · have hz1 : (Value.int IntKind.u8 0).cells.size = 1 := rfl
      simp only [Array.size_append, List.size_toArray, size_zeroCells, hz1, hxl, Lib.strCells_length]
      omega
    · simp only [Array.toList_append, List.append_assoc]
      rw [← List.append_assoc, ← hlen]
      exact List.take_left
  rcases hown.2 with ⟨rfl, rfl⟩ | ⟨g, cap, cur, rfl, hbg, hg, hnc, hcm, hcs, htake⟩
  · have hx : xs = [] := List.eq_nil_of_length_eq_zero hxl
    subst hx
    by_cases hm : s.size = 0
    · have hn : Lib.strCells s = [] := List.eq_nil_of_length_eq_zero (by rw [Lib.strCells_length]; exact hm)
      refine ⟨.slice none 0 0, w, ?_, by rw [hm, hn]; exact World.ownsRow_nil w 0 e 1, .inl ⟨rfl, World.grownBy.refl w _⟩⟩
      have hf := Lib.run_firstCells_string (P := P) w 1 s
      rw [hm] at hf
      simp [Builtin.append_, run_underlying ht, run_underlying hu, sizeOf, typeInfo, hi, hsize, Builtin.lenOf, hm, hf]
    · have hr := run_append_nil_string (P := P) w t u ty e i (.int .u8 0) ht hu hi hz s (by omega) (by omega) (by rw [hby]; omega)
      have hgr := grown 0 (by omega)
      simp only [Nat.zero_add, List.nil_append, Array.empty_append] at hgr ⊢
      have e1 : (s.data.map fun b => Value.int .u8 b.toNat) = (Lib.strCells s).toArray := by
        apply Array.ext'
        simp [Lib.strCells]
      rw [e1] at hr
      exact ⟨_, _, hr, hgr.1, .inr ⟨rfl, hgr.2⟩⟩
  · by_cases hroom : n + s.size ≤ cap
    · have hcs' : cur.size = cap := by simpa using hcs
      have hr := Lib.run_append_room_string (P := P) w t u ty e i ht hu hi hsize g n cap cur hg s hroom (by omega)
      refine ⟨_, _, hr, ⟨hlen, .inr ⟨g, cap, _, rfl, hbg, setRow_heap w g cur _ e _ hg, hroom, hcm, ?_, ?_⟩⟩, .inl ⟨rfl, ⟨rfl, rfl, rfl, by simp, fun k _ hk => setRow_other w g k _ (fun e => hk (by simp [Value.ownBlock, e]))⟩⟩⟩
      · simp only [List.size_toArray, List.length_append, List.length_take, List.length_drop, Array.length_toList, Lib.strCells_length]
        omega
      · have ht' : cur.toList.take n = xs := by simpa using htake
        rw [ht', ← hlen]
        exact List.take_left
    · have holds : ∀ j u, xs[j]? = some u → w.cell? ((⟨g, 0, none⟩ : Addr).add j) = some u := hown.cells (g := g) rfl
      have hr := Lib.run_append_grow_string (P := P) w t u ty e i (.int .u8 0) ht hu hi hz ⟨g, 0, none⟩ n cap xs (by rw [hsize]; simpa using hxl) holds s (by omega) (by omega) (by rw [hby]; exact growslice_fits (by omega) (by omega))
      have hgr := grown cap (by omega)
      exact ⟨_, _, hr, hgr.1, .inr ⟨rfl, hgr.2⟩⟩
theorem elems_str (μ : Nat → Nat → Option Value) (b : List UInt8) : Elems μ 1 b.length (bytesF b) (Lib.strCells ⟨⟨b⟩⟩) := fun k hk => by
  refine ⟨.int .u8 (b[k].toNat : Int), by simp [bytesF, hk, Rep], rfl, fun x hx => ?_, fun j hj => ?_⟩
  · simp only [Value.cells, Array.mem_singleton, List.mem_toArray, List.mem_singleton] at hx
    subst hx; rfl
  · obtain rfl : j = 0 := by omega
    simp [Lib.strCells, Value.cells, hk]
theorem elems_app {μ : Nat → Nat → Option Value} {sz n m : Nat} {f g : Nat → D} {xs news : List Value} (hl : xs.length = n * sz) (hE : Elems μ sz n f xs) (hel2 : Elems μ sz m g news) : Elems μ sz (n + m) (appF n f g) (xs ++ news) := fun k hk => by
  by_cases hkn : k < n
  · obtain ⟨u, q1, q2, q3, q4⟩ := hE k hkn
    refine ⟨u, by simpa only [appF, hkn, if_true] using q1, q2, q3, fun j hj => ?_⟩
    have hlt : k * sz + j < xs.length := by
      rw [hl]
      have : (k + 1) * sz ≤ n * sz := Nat.mul_le_mul_right _ hkn
      rw [Nat.add_mul] at this; omega
    rw [List.getElem?_append_left hlt]; exact q4 j hj
  · obtain ⟨u, q1, q2, q3, q4⟩ := hel2 (k - n) (by omega)
    refine ⟨u, by simpa only [appF, hkn, if_false] using q1, q2, q3, fun j hj => ?_⟩
    have e1 : k * sz + j = xs.length + ((k - n) * sz + j) := by
      rw [hl, ← Nat.add_assoc, ← Nat.add_mul]; congr 2; omega
    rw [e1, List.getElem?_append_right (by omega), Nat.add_sub_cancel_left]; exact q4 j hj
theorem byteT_some {t : TypeId} (h : byteT P t = true) : ∃ i, P.info? t = some i ∧ i.zero = some (.int .u8 0) ∧ i.size = 1 ∧ i.bytes = 1 := by
  unfold byteT at h
  split at h
  · rename_i i hi
    simp only [Bool.and_eq_true, beq_iff_eq] at h
    obtain ⟨⟨a, b⟩, c⟩ := h
    split at c
    · rename_i z hz
      rw [beq_iff_eq] at c
      subst c
      exact ⟨i, hi, hz, a, b⟩
    · cases c
  · cases h
theorem strT_some {t : TypeId} (h : strT P t = true) : P.underlying t = some .string := by
  unfold strT at h
  split at h
  · assumption
  · cases h
theorem does_vecStr (H : Hp own hp live γ w) {id : Nat} (h1 : γ.ι id = none) (h2 : γ.τ id = none) (hid : hp id = none) (hlv : ¬ live id) (hown : ∀ b, w.heap.size ≤ b → own b) {o : Oper} {a b : Operand} {t u el : TypeId}
    (ho : o.op = .call { callee := .builtin .append, args := #[a, b], argTypes := #[t, u] }) (hu : P.underlying t = some (.slice el)) (hs : strT P u = true) (hb : byteT P el = true) {s : AV} {bs : List UInt8} (hr1 : RepA γ s (ρ a)) (hr2 : ρ b = .string ⟨⟨bs⟩⟩)
    (hqk : (vecStrQ hp id el s bs).ok = true) (hob : ∀ z ∈ (vecStrQ hp id el s bs).ob, z) : Does P own hp live γ w ρ o id (vecStrQ hp id el s bs) := by
  generalize hq : vecStrQ hp id el s bs = q at *
  obtain ⟨i, hi, hz, hsz, hby⟩ := byteT_some hb
  have hus := strT_some hs
  have exec : ∀ (v' : Value) (w' : World), (Builtin.append_ #[t, u] o.type #[ρ a, ρ b]).run P w = .ok v' w' → (execOp ρ o).run P w = .ok (.value v') w' := fun v' w' h => by
    unfold execOp
    simp only [ho, resolve, invoke, builtin, Sem.run_bind, Sem.run_pure, Result.andThen_ok, List.map_toArray, List.map_cons, List.map_nil]
    rw [h]; rfl
  obtain ⟨nf1, nf2, nf3⟩ := new_free H
  have hlb : (⟨⟨bs⟩⟩ : ByteArray).size = bs.length := rfl
  unfold vecStrQ at hq
  split at hq
  · rename_i z0 n f r
    cases r with
    | nl =>
      simp only at hq
      split at hq
      · rename_i hn0
        subst hn0
        subst hq
        simp only [RepA, RightOk] at hr1
        have hbl : bs.length ≤ 140737488355328 := hob _ (by simp)
        obtain ⟨v', w', hrun, ho1, ho3⟩ := run_append_str (P := P) (w := w) t u o.type el i hu hus hi hz hsz hby (ρ a) 0 [] (by rw [hr1.2]; exact World.ownsRow_nil w 0 el 1) ⟨⟨bs⟩⟩ (by rw [hlb]; omega)
        rw [hr1.2] at ho3
        have hx2 : Ext w w' := by
          rcases ho3 with ⟨_, h⟩ | ⟨_, h⟩
          · exact ⟨h.os, h.tape, h.output, h.size, fun k hk => h.block k hk (by simp [Value.ownBlock])⟩
          · exact h
        simp only [hlb, Nat.zero_add, List.nil_append] at ho1
        have hg : ∀ g, v'.ownBlock = some g → g = w.heap.size := fun g hg => by
          rw [hg] at ho3
          rcases ho3 with ⟨h, _⟩ | ⟨h, _⟩
          · cases h
          · injection h
        obtain ⟨γ', h6⟩ := stp_vec H h1 h2 hid hlv none (by omega) ho1 (elems_str γ.μ bs) (grown_any hx2 _) (fun g h => by rw [hg g h]; exact hown _ (Nat.le_refl _)) (fun g h => by rw [hg g h]; exact nf1)
          (fun g j oj q h hj ho _ hq => by rw [hg g h]; exact nf2 j oj q hj ho hq) (fun g t u h ht hq => by rw [hg g h]; exact nf3 t u ht hq)
        refine ⟨v', w', γ', .inl (exec v' w' (by rw [hr2]; exact hrun)), ?_⟩
        rw [effH_of rfl, effL_of rfl]
        show Stp own hp live γ w id _ (addL id false live) _ v' γ' w'
        rw [addL_false]
        simpa using h6
      · subst hq; cases hqk
    | tok tk te => subst hq; cases hqk
  · rename_i d zd nd
    split at hq
    · rename_i te z0 n f hd
      split at hq
      · rename_i hte
        obtain ⟨rfl, rfl⟩ := hte
        subst hq
        have hbl : n + bs.length ≤ 140737488355328 := hob _ (by simp)
        simp only [RepA] at hr1
        obtain ⟨e', A1, cap1, g1, g2, _⟩ := hr1
        obtain ⟨v0, xs, k1, _, ow, hE, kb⟩ := H.vec hd
        rw [g1] at k1
        injection k1 with k1
        injection k1 with k1 k1' _
        subst k1
        obtain ⟨v', w', hrun, ho1, hcase⟩ := run_append_str (P := P) (w := w) t u o.type te i hu hus hi hz hsz hby (ρ a) n xs ow ⟨⟨bs⟩⟩ hbl
        rw [hlb] at ho1
        have hgr : w.grownBy w' v'.ownBlock := by
          rcases hcase with ⟨h, k⟩ | ⟨h, k⟩
          · rw [h]; exact k
          · exact grown_any k _
        have hgs : ∀ g, v'.ownBlock = some g → (ρ a).ownBlock = some g ∨ g = w.heap.size := fun g hg => by
          rcases hcase with ⟨h, _⟩ | ⟨h, _⟩
          · exact .inl (by rw [← h]; exact hg)
          · exact .inr (by rw [hg] at h; injection h)
        obtain ⟨γ', h6⟩ := stp_vec H h1 h2 hid hlv (some d) (by omega) ho1 (elems_app ow.1 hE (elems_str γ.μ bs)) hgr
          (fun g h => by rcases hgs g h with h | h; exact (kb g h).1; rw [h]; exact hown _ (Nat.le_refl _))
          (fun g h => by rcases hgs g h with h | h; exact (kb g h).2; rw [h]; exact nf1)
          (fun g j oj q h hj hoj hne hq => by
            rcases hgs g h with h | h
            · intro e
              rcases H.inj j d oj _ q _ hj hd hoj rfl (fun e => hne (by rw [e])) hq g1 with h' | h'
              · rw [e] at h'; cases h'
              · exact h' (by rw [e]; exact h.symm)
            · rw [h]; exact nf2 j oj q hj hoj hq)
          (fun g t u h ht hq => by
            rcases hgs g h with h | h
            · obtain ⟨n1, ys, r1, r2⟩ := H.tok t u.1 u.2.1 u.2.2 ht hq
              cases hb : u.1.ownBlock with
              | none => exact .inl rfl
              | some g' =>
                exact .inr fun e => by
                  injection e with e
                  subst e
                  exact (r2 g' hb).2.2 d _ _ hd rfl g1 h
            · rw [h]; exact nf3 t u ht hq)
        refine ⟨v', w', γ', .inl (exec v' w' (by rw [hr2]; exact hrun)), ?_⟩
        have e1 : effH id { ob := [n + bs.length ≤ 140737488355328], v := AV.vec id 1 (n + bs.length), new := some (Ob.vec te 1 (n + bs.length) (appF n f (bytesF bs))), upd := some (d, Ob.gone) } hp = fun j => if some j = some d then some .gone else addF id (some (.vec te 1 (n + bs.length) (appF n f (bytesF bs)))) hp j := by
          funext j; simp only [effH, Option.some.injEq]
        rw [e1, effL_of rfl]
        show Stp own hp live γ w id _ (addL id false live) _ v' γ' w'
        rw [addL_false]
        exact h6
      · subst hq; cases hqk
    · subst hq; cases hqk
  · subst hq; cases hqk
theorem does_vec (H : Hp own hp live γ w) {id : Nat} (h1 : γ.ι id = none) (h2 : γ.τ id = none) (hid : hp id = none) (hlv : ¬ live id) (hown : ∀ b, w.heap.size ≤ b → own b) {o : Oper} {args : Array Operand} {ts : Array TypeId}
    (ho : o.op = .call { callee := .builtin .append, args := args, argTypes := ts }) (e : Operand → AV) (hr : ∀ y ∈ args, RepA γ (e y) (ρ y)) (hk : (vecQ P hp id (args.toList.map e) ts.toList).ok = true)
    (hob : ∀ z ∈ (vecQ P hp id (args.toList.map e) ts.toList).ob, z) : Does P own hp live γ w ρ o id (vecQ P hp id (args.toList.map e) ts.toList) := by
  generalize hq : vecQ P hp id (args.toList.map e) ts.toList = q at *
  have hqk : q.ok = true := hk
  unfold vecQ at hq
  split at hq
  · rename_i s x t u hargs hts
    obtain ⟨a, b, rfl, ha, hb⟩ := args2 hargs
    have hr1 := hr a (by simp)
    have hr2 := hr b (by simp)
    rw [ha] at hr1
    rw [hb] at hr2
    obtain rfl : ts = #[t, u] := by cases ts; simp_all
    split at hq
    · rename_i htu
      subst htu
      rw [← hq] at hk
      obtain ⟨el, hel, h3⟩ := optQ_ok hk
      rw [h3] at hk hq
      have hu := elemT_some hel
      obtain ⟨⟨sz, m, g⟩, hx, h4⟩ := optQ_ok hk
      rw [h4] at hk hq
      simp only at hk hq
      have exec : ∀ (v' : Value) (w' : World), (Builtin.append_ #[t, t] o.type #[ρ a, ρ b]).run P w = .ok v' w' → (execOp ρ o).run P w = .ok (.value v') w' := fun v' w' h => by
        unfold execOp
        simp only [ho, resolve, invoke, builtin, Sem.run_bind, Sem.run_pure, Result.andThen_ok, List.map_toArray, List.map_cons, List.map_nil]
        rw [h]; rfl
      obtain ⟨nf1, nf2, nf3⟩ := new_free H
      split at hq
      · rename_i z0 n f r
        cases r with
        | nl =>
          simp only at hq
          split at hq
          · rename_i hn0
            subst hn0
            simp only [RepA, RightOk] at hr1
            unfold appQ at hq
            split at hq
            · rename_i i hi
              split at hq
              · rename_i z hz
                split at hq
                · rename_i hc
                  obtain ⟨c1, c2, c3, c4⟩ := hc
                  subst hq
                  have hby : m * i.bytes ≤ 140737488355328 := hob _ (by simp)
                  obtain ⟨A, c, news, hv, hrd, hone, hel2⟩ := rep_rd H.fz (asSl_some hx hr2) (by omega : sz = i.size ∨ m = 0) c2
                  have hm63 : m ≤ maxLen := by
                    have := hrd.cap; have := hrd.max; omega
                  obtain ⟨v', w', hrun, ho1, ho2, ho3⟩ := run_append_any (P := P) w 0 t o.type el i z i.size i.bytes hu hi hz rfl rfl (by omega) c2 (ρ a) 0 [] (by rw [hr1.2]; exact World.ownsRow_nil w 0 el i.size) A m c news hrd hone (by omega) (by rw [Nat.zero_add]; exact hby) (Nat.zero_le _)
                  rw [hr1.2] at ho2 ho3
                  have hx2 : Ext w w' := ⟨ho2.os, ho2.tape, ho2.output, ho2.size, fun k hk => ho2.block k hk (by simp [Value.ownBlock])⟩
                  simp only [Nat.zero_add, List.nil_append] at ho1
                  have hg : ∀ g, v'.ownBlock = some g → g = w.heap.size := fun g hg => by
                    rw [hg] at ho3
                    rcases ho3 with h | h
                    · cases h
                    · injection h
                  obtain ⟨γ', h6⟩ := stp_vec H h1 h2 hid hlv none c2 ho1 hel2 (grown_any hx2 _) (fun g h => by rw [hg g h]; exact hown _ (Nat.le_refl _)) (fun g h => by rw [hg g h]; exact nf1)
                    (fun g j oj q h hj ho _ hq => by rw [hg g h]; exact nf2 j oj q hj ho hq) (fun g t u h ht hq => by rw [hg g h]; exact nf3 t u ht hq)
                  refine ⟨v', w', γ', .inl (exec v' w' (by rw [hv]; exact hrun)), ?_⟩
                  rw [effH_of rfl, effL_of rfl]
                  show Stp own hp live γ w id _ (addL id false live) _ v' γ' w'
                  rw [addL_false]
                  simpa using h6
                · subst hq; cases hqk
              · subst hq; cases hqk
            · subst hq; cases hqk
          · subst hq; cases hqk
        | tok tk te => subst hq; cases hqk
      · rename_i d zd nd
        split at hq
        · rename_i te z0 n f hd
          unfold appQ at hq
          split at hq
          · rename_i i hi
            split at hq
            · rename_i z hz
              split at hq
              · rename_i hc
                obtain ⟨c1, c2, c3, c4⟩ := hc
                dsimp only at hq
                split at hq
                · rename_i hte
                  obtain ⟨rfl, rfl⟩ := hte
                  subst hq
                  have hby : (n + m) * i.bytes ≤ 140737488355328 := hob _ (by simp)
                  simp only [RepA] at hr1
                  obtain ⟨e', A1, cap1, g1, g2, _⟩ := hr1
                  obtain ⟨v0, xs, k1, _, ow, hE, kb⟩ := H.vec hd
                  rw [g1] at k1
                  injection k1 with k1
                  injection k1 with k1 k1' _
                  subst k1
                  obtain ⟨A, c, news, hv, hrd, hone, hel2⟩ := rep_rd H.fz (asSl_some hx hr2) (by omega : sz = i.size ∨ m = 0) c2
                  have hnm : n + m ≤ maxLen := by
                    have : (n + m) * 1 ≤ (n + m) * i.bytes := Nat.mul_le_mul_left _ c3
                    unfold maxLen; omega
                  have elems : Elems γ.μ i.size (n + m) (appF n f g) (xs ++ news) := fun k hk => by
                    by_cases hkn : k < n
                    · obtain ⟨u, q1, q2, q3, q4⟩ := hE k hkn
                      refine ⟨u, by simpa only [appF, hkn, if_true] using q1, q2, q3, fun j hj => ?_⟩
                      have hlt : k * i.size + j < xs.length := by
                        rw [ow.1]
                        have : (k + 1) * i.size ≤ n * i.size := Nat.mul_le_mul_right _ hkn
                        rw [Nat.add_mul] at this; omega
                      rw [List.getElem?_append_left hlt]; exact q4 j hj
                    · obtain ⟨u, q1, q2, q3, q4⟩ := hel2 (k - n) (by omega)
                      refine ⟨u, by simpa only [appF, hkn, if_false] using q1, q2, q3, fun j hj => ?_⟩
                      have e1 : k * i.size + j = xs.length + ((k - n) * i.size + j) := by
                        rw [ow.1, ← Nat.add_assoc, ← Nat.add_mul]; congr 2; omega
                      rw [e1, List.getElem?_append_right (by omega), Nat.add_sub_cancel_left]; exact q4 j hj
                  have done : ∀ (v' : Value) (w' : World), (Builtin.append_ #[t, t] o.type #[ρ a, ρ b]).run P w = .ok v' w' → w'.ownsRow 0 te i.size v' (n + m) (xs ++ news) → w.grownBy w' v'.ownBlock →
                      (v'.ownBlock = (ρ a).ownBlock ∨ v'.ownBlock = some w.heap.size) →
                      Does P own hp live γ w ρ o id { ob := [(n + m) * i.bytes ≤ 140737488355328], v := .vec id i.size (n + m), new := some (.vec te i.size (n + m) (appF n f g)), upd := some (d, .gone) } := fun v' w' hrun ho1 hgr hcase => by
                    have hgs : ∀ g, v'.ownBlock = some g → (ρ a).ownBlock = some g ∨ g = w.heap.size := fun g hg => by
                      rcases hcase with h | h
                      · exact .inl (by rw [← h]; exact hg)
                      · exact .inr (by rw [hg] at h; injection h)
                    obtain ⟨γ', h6⟩ := stp_vec H h1 h2 hid hlv (some d) c2 ho1 elems hgr
                      (fun g h => by rcases hgs g h with h | h; exact (kb g h).1; rw [h]; exact hown _ (Nat.le_refl _))
                      (fun g h => by rcases hgs g h with h | h; exact (kb g h).2; rw [h]; exact nf1)
                      (fun g j oj q h hj hoj hne hq => by
                        rcases hgs g h with h | h
                        · intro e
                          rcases H.inj j d oj _ q _ hj hd hoj rfl (fun e => hne (by rw [e])) hq g1 with h' | h'
                          · rw [e] at h'; cases h'
                          · exact h' (by rw [e]; exact h.symm)
                        · rw [h]; exact nf2 j oj q hj hoj hq)
                      (fun g t u h ht hq => by
                        rcases hgs g h with h | h
                        · obtain ⟨n1, ys, r1, r2⟩ := H.tok t u.1 u.2.1 u.2.2 ht hq
                          cases hb : u.1.ownBlock with
                          | none => exact .inl rfl
                          | some g' =>
                            exact .inr fun e => by
                              injection e with e
                              subst e
                              exact (r2 g' hb).2.2 d _ _ hd rfl g1 h
                        · rw [h]; exact nf3 t u ht hq)
                    refine ⟨v', w', γ', .inl (exec v' w' hrun), ?_⟩
                    have e1 : effH id { ob := [(n + m) * i.bytes ≤ 140737488355328], v := AV.vec id i.size (n + m), new := some (Ob.vec te i.size (n + m) (appF n f g)), upd := some (d, Ob.gone) } hp = fun j => if some j = some d then some .gone else addF id (some (.vec te i.size (n + m) (appF n f g))) hp j := by
                      funext j; simp only [effH, Option.some.injEq]
                    rw [e1, effL_of rfl]
                    show Stp own hp live γ w id _ (addL id false live) _ v' γ' w'
                    rw [addL_false]
                    exact h6
                  rcases ow.2 with ⟨hnil, h0⟩ | ⟨b0, cap, cur, hvb, _⟩
                  · subst h0
                    have hxs : xs = [] := List.eq_nil_of_length_eq_zero (by rw [ow.1]; omega)
                    subst hxs
                    obtain ⟨v', w', hrun, ho1, ho2, ho3⟩ := run_append_any (P := P) w 0 t o.type te i z i.size i.bytes hu hi hz rfl rfl (by omega) c2 (ρ a) 0 [] ow A m c news hrd hone (by omega) hby (Nat.zero_le _)
                    have hx2 : Ext w w' := ⟨ho2.os, ho2.tape, ho2.output, ho2.size, fun k hk => ho2.block k hk (by rw [hnil]; simp [Value.ownBlock])⟩
                    exact done v' w' (by rw [hv]; exact hrun) ho1 (grown_any hx2 _) ho3
                  · rw [hvb] at ow done
                    obtain ⟨v', w', hrun, ho1, ho3⟩ := run_append_split (P := P) (w := w) t o.type te i z i.size i.bytes hu hi hz rfl rfl (by omega) c2 b0 n cap xs ow A m c news hrd hone hnm hby
                    rcases ho3 with ⟨o3, o4⟩ | ⟨o3, o4⟩
                    · exact done v' w' (by rw [hv]; exact hrun) ho1 (by rw [o3]; exact o4) (.inl o3)
                    · exact done v' w' (by rw [hv]; exact hrun) ho1 (grown_any o4 _) (.inr o3)
                · subst hq; cases hqk
              · subst hq; cases hqk
            · subst hq; cases hqk
          · subst hq; cases hqk
        · subst hq; cases hqk
      · subst hq; cases hqk
    · split at hq
      · rename_i bs
        rw [← hq] at hk
        obtain ⟨el, hel, h3⟩ := optQ_ok hk
        rw [h3] at hk hq
        split at hq
        · rename_i hc
          subst hq
          simp only [RepA, Rep] at hr2
          exact does_vecStr H h1 h2 hid hlv hown ho (elemT_some hel) hc.1 hc.2 hr1 hr2 hqk hob
        · subst hq; cases hqk
      · subst hq; cases hk
  · subst hq; cases hk
end Go.Av
