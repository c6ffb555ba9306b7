/- The functions of forecasts that were walked by hand, told as data. -/
import Derived.Test.YtfgeoeipnidfhaaTy
import Derived.Test.YtfgeoeipnidfhaaHullF
import Derived.Test.YtfgeoeipnidfhaaHullp
set_option linter.unusedVariables false
namespace Go.Av
open Go.RowKit Go.Base Go.Proofs Go.Proofs.Ytfgeoeipnidfhaa Wg

/-- A forecast, as the mathematics has it. -/
def toG (x : T27) : Grid := ⟨x.Corner.X, x.Corner.Y, x.Cell, x.NX, x.NY, x.Alts, x.Winds.map (fun u => (u.East, u.North)), x.Devs, x.Err⟩
def toAr (a b : T23) (v : T36) : Ar := ⟨a.X, a.Y, b.X, b.Y, v.Lo, v.Hi⟩
variable {μ : Nat → Nat → Option Value} {w : World}
theorem pvl : ∀ l : List (Int × Int), (pv l).length = l.length * 2
  | [] => rfl
  | a :: l => by
    have := pvl l
    simp only [pv, List.flatMap_cons, List.length_append, List.length_cons, List.length_nil] at this ⊢
    omega
theorem rd_of_ints (hf : FzM μ w) {l : List Int} {v : Value} (h : Rep μ (eSl 1 (D.int .i64) l) v) : ∃ A c, v = .slice A l.length c ∧ Rd w 1 A l.length c (l.map iv) := by
  unfold eSl at h
  simp only [Rep] at h
  obtain ⟨A, c, rfl, h1, h2, h3⟩ := h
  refine ⟨A, c, rfl, ⟨by simp, h1, h2, fun hn => ?_⟩⟩
  obtain ⟨b, o, e, h4⟩ := h3 hn
  have cell : ∀ i, i < l.length → w.cell? ⟨b, o + i, none⟩ = some (iv (l.getD i default)) := fun i hi => by
    obtain ⟨u, u1, u2, _, u4⟩ := h4 i hi
    simp only [cF, Rep] at u1
    subst u1
    have := u4 0 (by omega)
    rw [Nat.mul_one, Nat.add_zero] at this
    exact hf _ _ _ this
  refine ⟨b, o, e, cell_lt (a := ⟨b, o + 0, none⟩) (cell 0 hn), fun j u hu => ?_⟩
  rw [List.getElem?_map] at hu
  cases hj : l[j]? with
  | none => rw [hj] at hu; cases hu
  | some z =>
    rw [hj] at hu
    simp only [Option.map_some, Option.some.injEq] at hu
    have := cell j (List.getElem?_eq_some_iff.1 hj).1
    rw [List.getD_eq_getElem?_getD, hj, Option.getD_some] at this
    rw [this, hu]
theorem rd_of_winds (hf : FzM μ w) {l : List T30} {v : Value} (h : Rep μ (eSl 2 e30 l) v) : ∃ A c, v = .slice A l.length c ∧ Rd w 2 A l.length c (pv (l.map fun u => (u.East, u.North))) := by
  unfold eSl at h
  simp only [Rep] at h
  obtain ⟨A, c, rfl, h1, h2, h3⟩ := h
  refine ⟨A, c, rfl, ⟨by rw [pvl]; simp, h1, h2, fun hn => ?_⟩⟩
  obtain ⟨b, o, e, h4⟩ := h3 hn
  have cell : ∀ i (hi : i < l.length), w.cell? ⟨b, o + i * 2, none⟩ = some (iv (l[i]).East) ∧ w.cell? ⟨b, o + (i * 2 + 1), none⟩ = some (iv (l[i]).North) := fun i hi => by
    obtain ⟨u, u1, u2, _, u4⟩ := h4 i hi
    simp only [cF, List.getD_eq_getElem?_getD, List.getElem?_eq_getElem hi, Option.getD_some, e30, Rep, RepL] at u1
    obtain ⟨vs, rfl, z1, t1, rfl, rfl, z2, t2, rfl, rfl, rfl⟩ := u1
    have a0 := u4 0 (by omega)
    have a1 := u4 1 (by omega)
    rw [Nat.add_zero] at a0
    rw [Nat.add_assoc] at a1
    exact ⟨hf _ _ _ a0, hf _ _ _ a1⟩
  refine ⟨b, o, e, cell_lt (a := ⟨b, o + 0 * 2, none⟩) (cell 0 hn).1, fun j u hu => ?_⟩
  have hj : j < (pv (l.map fun u => (u.East, u.North))).length := (List.getElem?_eq_some_iff.1 hu).1
  rw [pvl, List.length_map] at hj
  have hk : j / 2 < l.length := by omega
  have hp := pv_at (l.map fun u => (u.East, u.North)) (j / 2) (by rw [List.length_map]; exact hk)
  rw [List.getElem_map] at hp
  rcases Nat.mod_two_eq_zero_or_one j with hm | hm
  · have ej : j = j / 2 * 2 := by omega
    rw [ej] at hu ⊢
    rw [hp.1] at hu
    injection hu with hu
    rw [(cell _ hk).1, hu]
  · have ej : j = j / 2 * 2 + 1 := by omega
    rw [ej] at hu ⊢
    rw [hp.2] at hu
    injection hu with hu
    rw [(cell _ hk).2, hu]
/-- A forecast as an argument. -/
theorem gin_of (hf : FzM μ w) {x : T27} {v : Value} (h : Rep μ (e27 x) v) : ∃ A1 c1 A2 c2 A3 c3, v = gv (toG x) A1 c1 A2 c2 A3 c3 ∧ GIn w (toG x) A1 c1 A2 c2 A3 c3 := by
  simp only [e27, Rep, RepL] at h
  obtain ⟨vs, rfl, z1, t1, rfl, rfl, z2, t2, rfl, rfl, z3, t3, rfl, rfl, z4, t4, rfl, rfl, z5, t5, rfl, rfl, z6, t6, rfl, h6, z7, t7, rfl, h7, z8, t8, rfl, h8, z9, t9, rfl, rfl, rfl⟩ := h
  obtain ⟨A1, c1, rfl, r1⟩ := rd_of_ints hf h6
  obtain ⟨A2, c2, rfl, r2⟩ := rd_of_winds hf h7
  obtain ⟨A3, c3, rfl, r3⟩ := rd_of_ints hf h8
  exact ⟨A1, c1, A2, c2, A3, c3, by simp [toG, gv], ⟨r1, by simpa [toG] using r2, r3⟩⟩
theorem pt_of {x : T23} {v : Value} (h : Rep μ (e23 x) v) : v = .agg #[.int .i64 x.X, .int .i64 x.Y] := by
  simp only [e23, Rep, RepL] at h
  obtain ⟨vs, rfl, z1, t1, rfl, rfl, z2, t2, rfl, rfl, rfl⟩ := h
  rfl
theorem wn_of {x : T36} {v : Value} (h : Rep μ (e36 x) v) : v = .agg #[.int .i64 x.Lo, .int .i64 x.Hi] := by
  simp only [e36, Rep, RepL] at h
  obtain ⟨vs, rfl, z1, t1, rfl, rfl, z2, t2, rfl, rfl, rfl⟩ := h
  rfl
/-- A function that leaves numbers alone. -/
theorem pure_flat {f : Nat} {fn : Func} {c : Code} {ds : List D} {r : D} (hf : Try.prog.funcs[f]? = some fn) (hb : fn.body = some c) (hn : fn.name ≠ "runtime.NumGoroutine")
    (h : ∀ (μ : Nat → Nat → Option Value) (w : World) (vs : List Value), FzM μ w → RepL μ ds vs → Calls Try.prog f vs.toArray w fun e w' => (∃ v, e = .returned v ∧ ∀ ν, Rep ν r v) ∧ Ext w w') : PureAt Try.prog f ds r :=
  ⟨⟨fn, hf, by rw [hb]; rfl, hn⟩, fun μ w vs hz hr => (h μ w vs hz hr).mono fun e w' ⟨⟨v, hv, hr⟩, hx⟩ => ⟨v, μ, hv, hx, fun _ _ _ => rfl, fun b o x hbx => by rw [World.cell?_of_block (w := w) (by exact hx.block b (fz_lt hz hbx))]; exact hz b o x hbx, hr μ⟩⟩
noncomputable def m10 : Option Bool := some true
theorem p10 {r : Bool} (h : m10 = some r) : PureAt Try.prog 10 [] (.bool r) := by
  simp only [m10, Option.some.injEq] at h
  subst h
  refine pure_flat Try.func10 rfl (by decide) fun μ w vs hz hr => ?_
  simp only [RepL] at hr
  subst hr
  exact (awake_any w).mono fun e w' ⟨he, hx⟩ => ⟨⟨_, he, fun ν => by simp only [Rep]⟩, hx⟩
noncomputable def m16 (g : T27) : Option Int := some (chk (toG g))
theorem p16 {g : T27} {r : Int} (h : m16 g = some r) : PureAt Try.prog 16 [(e27 g)] (.int .i64 r) := by
  simp only [m16, Option.some.injEq] at h
  subst h
  refine pure_flat Try.func16 rfl (by decide) fun μ w vs hz hr => ?_
  simp only [RepL] at hr
  obtain ⟨v, t, rfl, h1, rfl⟩ := hr
  obtain ⟨A1, c1, A2, c2, A3, c3, rfl, hg⟩ := gin_of hz h1
  exact (check_any _ A1 A2 A3 c1 c2 c3 w hg).mono fun e w' ⟨he, hx⟩ => ⟨⟨_, he, fun ν => by simp only [Rep]⟩, hx⟩
noncomputable def m20 (g : T27) : Option Int := some (chk (toG g))
theorem p20 {g : T27} {r : Int} (h : m20 g = some r) : PureAt Try.prog 20 [(e27 g)] (.int .i64 r) := by
  simp only [m20, Option.some.injEq] at h
  subst h
  refine pure_flat Try.func20 rfl (by decide) fun μ w vs hz hr => ?_
  simp only [RepL] at hr
  obtain ⟨v, t, rfl, h1, rfl⟩ := hr
  obtain ⟨A1, c1, A2, c2, A3, c3, rfl, hg⟩ := gin_of hz h1
  exact (rcheck_any _ A1 A2 A3 c1 c2 c3 w hg).mono fun e w' ⟨he, hx⟩ => ⟨⟨_, he, fun ν => by simp only [Rep]⟩, hx⟩
noncomputable def m11 (g : T27) (p : T23) (alt : Int) : Option (T30 × Int × Int) := some (⟨atP 0 (toG g) p.X p.Y alt, atP 1 (toG g) p.X p.Y alt⟩, atP 2 (toG g) p.X p.Y alt, atE (toG g) p.X p.Y alt)
theorem p11 {g : T27} {p : T23} {alt : Int} {r : T30 × Int × Int} (h : m11 g p alt = some r) : PureAt Try.prog 11 [(e27 g), (e23 p), (.int .i64 alt)] (.tup [(e30 r.1), (.int .i64 r.2.1), (.int .i64 r.2.2)]) := by
  simp only [m11, Option.some.injEq] at h
  subst h
  refine pure_flat Try.func11 rfl (by decide) fun μ w vs hz hr => ?_
  simp only [RepL] at hr
  obtain ⟨v, t, rfl, h1, v2, t2, rfl, h2, v3, t3, rfl, h3, rfl⟩ := hr
  obtain ⟨A1, c1, A2, c2, A3, c3, rfl, hg⟩ := gin_of hz h1
  obtain rfl := pt_of h2
  simp only [Rep] at h3
  subst h3
  exact (at_any _ A1 A2 A3 c1 c2 c3 p.X p.Y alt w hg).mono fun e w' ⟨he, hx⟩ => ⟨⟨_, he, fun ν => by simp only [Rep, RepL, e30]; exact ⟨_, rfl, _, _, rfl, ⟨_, rfl, _, _, rfl, rfl, _, _, rfl, rfl, rfl⟩, _, _, rfl, rfl, _, _, rfl, rfl, rfl⟩⟩, hx⟩
/-- The answer of Hull, by its parts. -/
def hullT (g : Grid) (a : Ar) : T41 × T39 × Int := if hullE g a = 0 then (⟨⟨(hullR 0 g a).1 - g.err, (hullR 0 g a).2 + g.err⟩, ⟨(hullR 1 g a).1 - g.err, (hullR 1 g a).2 + g.err⟩⟩, ⟨(hullR 2 g a).1, (hullR 2 g a).2⟩, 0) else (⟨⟨0, 0⟩, ⟨0, 0⟩⟩, ⟨0, 0⟩, hullE g a)
noncomputable def m13 (g : T27) (a b : T23) (v : T36) : Option (T41 × T39 × Int) := some (hullT (toG g) (toAr a b v))
theorem p13 {g : T27} {a b : T23} {u : T36} {r : T41 × T39 × Int} (h : m13 g a b u = some r) : PureAt Try.prog 13 [(e27 g), (e23 a), (e23 b), (e36 u)] (.tup [(e41 r.1), (e39 r.2.1), (.int .i64 r.2.2)]) := by
  simp only [m13, Option.some.injEq] at h
  subst h
  refine pure_flat Try.func13 rfl (by decide) fun μ w vs hz hr => ?_
  simp only [RepL] at hr
  obtain ⟨v, t, rfl, h1, v2, t2, rfl, h2, v3, t3, rfl, h3, v4, t4, rfl, h4, rfl⟩ := hr
  obtain ⟨A1, c1, A2, c2, A3, c3, rfl, hg⟩ := gin_of hz h1
  obtain rfl := pt_of h2
  obtain rfl := pt_of h3
  obtain rfl := wn_of h4
  refine (hullp_any _ A1 A2 A3 c1 c2 c3 (toAr a b u) w hg).mono fun e w' ⟨he, hx⟩ => ⟨?_, hx⟩
  unfold hOut at he
  unfold hullT
  split at he
  · rename_i hh
    rw [if_pos hh]
    exact ⟨_, he, fun ν => by simp only [Rep, RepL, e41, e39]; exact ⟨_, rfl, _, _, rfl, ⟨_, rfl, _, _, rfl, rfl, _, _, rfl, rfl, _, _, rfl, rfl, _, _, rfl, rfl, rfl⟩, _, _, rfl, ⟨_, rfl, _, _, rfl, rfl, _, _, rfl, rfl, rfl⟩, _, _, rfl, rfl, rfl⟩⟩
  · rename_i hh
    rw [if_neg hh]
    exact ⟨_, he, fun ν => by simp only [Rep, RepL, e41, e39]; exact ⟨_, rfl, _, _, rfl, ⟨_, rfl, _, _, rfl, rfl, _, _, rfl, rfl, _, _, rfl, rfl, _, _, rfl, rfl, rfl⟩, _, _, rfl, ⟨_, rfl, _, _, rfl, rfl, _, _, rfl, rfl, rfl⟩, _, _, rfl, rfl, rfl⟩⟩
end Go.Av
