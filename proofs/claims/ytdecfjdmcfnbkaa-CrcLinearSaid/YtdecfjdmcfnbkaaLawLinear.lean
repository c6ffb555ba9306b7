/- The walk of the statement on linearity. -/
import Derived.Test.YtdecfjdmcfnbkaaLawFlips
namespace Go.Proofs.Ytdecfjdmcfnbkaa
open Go.RowKit Go.Bv Go.Base

theorem quiet_left {P : Program} {f : FuncId} {args : Array Value} {w : World} {n : Nat} {v : Value}
    (h : Calls P f args (w.drewN n) fun e w' => e = .returned v ∧ w.drewN n = w') : Calls P f args (w.drewN n) fun e w'' => e = .returned v ∧ ∃ m, w'' = w.drewN m :=
  h.mono fun _ _ ⟨he, hm⟩ => ⟨he, n, hm.symm⟩
theorem min4 (P : Program) (ts : Array TypeId) (t : TypeId) (a b c : Nat) :
    ∃ z : Nat, z ≤ a ∧ z ≤ b ∧ z ≤ c ∧ z ≤ 500 ∧ ∀ w, (Builtin.min_ ts t #[.int .i64 a, .int .i64 b, .int .i64 c, .int .i64 500]).run P w = .ok (.int .i64 z) w := by
  refine ⟨min (min (min a b) c) 500, by omega, by omega, by omega, by omega, fun w => ?_⟩
  simp only [Builtin.min_, List.foldlM_cons, List.foldlM_nil, Builtin.min2]
  simp [Sem.run]
  repeat' split
  all_goals omega
def xor3 (p q r : List (BitVec 8)) : List (BitVec 8) := List.zipWith (· ^^^ ·) (List.zipWith (· ^^^ ·) p q) r
theorem xor3_eq {p q r lk : List (BitVec 8)} {z : Nat} (hp : z ≤ p.length) (hq : z ≤ q.length) (hr : z ≤ r.length) (hk : lk.length = z)
    (h : ∀ t (ht : t < z), lk[t]? = some (p[t] ^^^ q[t] ^^^ r[t])) : lk = xor3 (p.take z) (q.take z) (r.take z) := by
  apply List.ext_getElem?
  intro t
  by_cases ht : t < z
  · rw [h t ht, xor3, List.getElem?_zipWith, List.getElem?_zipWith, List.getElem?_take, List.getElem?_take, List.getElem?_take, if_pos ht, if_pos ht, if_pos ht,
      List.getElem?_eq_getElem (by omega : t < p.length), List.getElem?_eq_getElem (by omega : t < q.length), List.getElem?_eq_getElem (by omega : t < r.length)]
  · rw [List.getElem?_eq_none (by omega), xor3, List.getElem?_eq_none]
    simp
    omega

theorem RdB.cut_at {w : World} {A : Option Addr} {n c z : Nat} {l : List (BitVec 8)} (h : RdB w A n c l) (hz : z ≤ n) : RdB w A z c (l.take z) := by
  have h1 := RdB.cut_to h z
  rw [Nat.min_eq_right hz] at h1
  exact h1
set_option maxHeartbeats 2000000 in
theorem linear_law (A B C : Option Addr) (n c m d k f : Nat) (p q r : List (BitVec 8)) (w : World) (hp : RdB w A n c p) (hq : RdB w B m d q) (hr : RdB w C k f r) :
    Calls Try.prog 5 #[.slice A n c, .slice B m d, .slice C k f] w fun e w' => e = .returned (.bool true) ∧ Ext w w' := by
  obtain ⟨i0, hi0, hz0, hz1, hz2⟩ := info_parts byte_info
  obtain ⟨z, z1, z2, z3, z4, hmin⟩ := min4 Try.prog #[3, 3, 3, 3] 3 n m k
  have lp := RdB.length hp
  have lq := RdB.length hq
  have lr := RdB.length hr
  go_enter Try.func5, Try.ntmps5
  go_wp2_with fail
  refine (awake_any _).mono ?_
  rintro e w1 ⟨rfl, hx1⟩
  have hp1 := hp.ext hx1
  have hq1 := hq.ext hx1
  have hr1 := hr.ext hx1
  go_wp2_with (refine wpList_make_full _ rfl (.tmp 19) (.tmp 19) _ rfl w1.heap.size 5 i0 _ 1 Try.underlying22 hi0 hz0 hz1 .i64 .i64 _ _ z rfl rfl rfl rfl (by rw [hz2]; omega) (by unfold maxLen; omega) (Nat.le_refl _) ?_; intro w2 hown2 hgrow2)
  have hs2 : w2.ownsRow w1.heap.size 5 1 (.slice (some ⟨w1.heap.size, 0, none⟩) z z) z ((List.replicate z (0 : BitVec 8)).map b8) := by
    simp only [Nat.mul_one] at hown2
    rw [List.map_replicate]
    have e : (madeCells (Value.cells (.int .u8 0)) z).toList = List.replicate z (b8 0) := toList_madeCells_one _ _
    rw [e] at hown2
    exact hown2
  have hb2 : Below w1.heap.size w1 w2 := (Below.refl _ _).grown hgrow2 (Nat.le_refl _) (fun k h => by cases h)
  clear hown2 hgrow2 hmin
  go_loopw [23] (fun i wr => ∃ (j : Nat) (lk : List (BitVec 8)), j ≤ z ∧ i = .int .i64 j ∧ lk.length = z ∧ (∀ t (ht : t < j) (h1 : t < p.length) (h2 : t < q.length) (h3 : t < r.length), lk[t]? = some (p[t] ^^^ q[t] ^^^ r[t])) ∧
      wr.ownsRow w1.heap.size 5 1 (.slice (some ⟨w1.heap.size, 0, none⟩) z z) z (lk.map b8) ∧ Below w1.heap.size w1 wr) (fun i _ => z - (intOf i).toNat)
  case atStart => exact ⟨0, List.replicate z 0, by omega, rfl, by simp, fun t ht => absurd ht (by omega), hs2, hb2⟩
  case round =>
    obtain ⟨j, lk, hj, rfl, hlk, hdone, hown, hbel⟩ := hrel
    by_cases hlt : j < z
    · obtain ⟨b1, o1, rfl, hb1, hc1⟩ := (hp1.keep hbel (Nat.le_refl _)).at_ (by omega)
      obtain ⟨b2, o2, rfl, hb2, hc2⟩ := (hq1.keep hbel (Nat.le_refl _)).at_ (by omega)
      obtain ⟨b3, o3, rfl, hb3, hc3⟩ := (hr1.keep hbel (Nat.le_refl _)).at_ (by omega)
      have d1 := hc1 j (b8 (p[j]'(by omega))) (by simp [b8]; exact ⟨_, List.getElem?_eq_getElem _, rfl⟩)
      have d2 := hc2 j (b8 (q[j]'(by omega))) (by simp [b8]; exact ⟨_, List.getElem?_eq_getElem _, rfl⟩)
      have d3 := hc3 j (b8 (r[j]'(by omega))) (by simp [b8]; exact ⟨_, List.getElem?_eq_getElem _, rfl⟩)
      have hcell := hown.cellAt j (by omega)
      rw [List.getElem?_map, List.getElem?_eq_getElem (by omega)] at hcell
      have hfr := hown.frozenAt j
      simp only [b8, Option.map_some] at hcell
      unfold b8 at d1 d2 d3
      have hst := hide (hown.stored j (b8 (p[j]'(by omega) ^^^ q[j]'(by omega) ^^^ r[j]'(by omega)))).1
      have HD := hide hdone
      clear hc1 hc2 hc3 hdone
      go_wp2_with fail
      go_region
      go_wp2_with fail
      go_roundw
      case rel =>
        refine ⟨j + 1, lk.set j (p[j]'(by omega) ^^^ q[j]'(by omega) ^^^ r[j]'(by omega)), by omega, by go_num, by simp [hlk], fun t ht h1 h2 h3 => ?_, ?_, (Below.setCell hbel (p := ⟨w1.heap.size, j, none⟩) (Nat.le_refl _) _).drew⟩
        · rcases Nat.lt_or_ge t j with h | h
          · rw [List.getElem?_set_ne (by omega)]
            exact HD.out t h h1 h2 h3
          · obtain rfl : t = j := by omega
            rw [List.getElem?_set_self (by omega)]
        · rw [List.map_set]
          exact hst.out.drew
      case measure => simp [intOf]; omega
    · obtain rfl : j = z := by omega
      have hx : lk = xor3 (p.take j) (q.take j) (r.take j) := xor3_eq (by omega) (by omega) (by omega) hlk (fun t ht => hdone t ht _ _ _)
      have hs := hide (Crc.sum_xor3 (p.take j) (q.take j) (r.take j) (by simp; omega) (by simp; omega))
      have hlx : RdB wr (some ⟨w1.heap.size, 0, none⟩) j j lk := Rd.of_own hown
      have hp2 := RdB.cut_at (hp1.keep hbel (Nat.le_refl _)) z1
      have hq2 := RdB.cut_at (hq1.keep hbel (Nat.le_refl _)) z2
      have hr2 := RdB.cut_at (hr1.keep hbel (Nat.le_refl _)) z3
      have e1 := hp1.cap
      have e2 := hq1.cap
      have e3 := hr1.cap
      have HX := hide hx
      clear hx hdone
      go_wp2_with fail
      go_quiet (first
        | exact quiet_left (sum_any _ _ _ _ _ (hlx.drewN _))
        | exact quiet_left (sum_any _ _ _ _ _ (hp2.drewN _))
        | exact quiet_left (sum_any _ _ _ _ _ (hq2.drewN _))
        | exact quiet_left (sum_any _ _ _ _ _ (hr2.drewN _)))
      go_wp2_with fail
      go_ret
      refine ⟨?_, below_drewN (Ext.trans hx1 hbel) _⟩
      have e : Crc.sum lk = Crc.sum (p.take j) ^^^ Crc.sum (q.take j) ^^^ Crc.sum (r.take j) := by rw [HX.out]; exact hs.out
      simp [e]
end Go.Proofs.Ytdecfjdmcfnbkaa
