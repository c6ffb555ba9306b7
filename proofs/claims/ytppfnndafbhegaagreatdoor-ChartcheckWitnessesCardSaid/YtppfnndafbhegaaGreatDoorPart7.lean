/- A part of the proof. -/
import Derived.Test.YtppfnndafbhegaaGreatDoorPart6
set_option linter.unusedVariables false
set_option linter.unusedSimpArgs false
set_option maxRecDepth 1000000
namespace Go.Av
open Ch Go.Proofs
theorem Cc.awake_true : m13 = some true := by kernel_rfl
theorem anyR_has {l : List Int} {x : Int} : anyR (fun i => l.getD i default == x) l.length = hasK l l.length x := by
 unfold hasK
 refine anyR_congr fun i hi => ?_
 rw [Bool.eq_iff_iff, beq_iff_eq, beq_iff_eq]
 exact eq_comm
theorem M30 (a0 : T27) (a1 : Int) : m30 a0 a1 = ((Option.bind (Option.bind (Option.bind (m68 a0) fun r => some r) fun x1 => (if (x1 != 0) = true then (some (.inr (([], x1)))) else (some (.inl ())))) (onS fun (_ : Unit) => (Option.bind (Option.bind (Option.bind (Option.bind (m57 a0) fun r => some r) fun x5 => (some (.inl (x5, (x5.length : Int))))) (onS fun (y1 : (List Int) × Int) => (loopO (fun (s2 : Bool × Int) => ((if (decide (s2.2 < y1.2)) = true then (if (0 ≤ s2.2) then (if (s2.2 < (y1.1.length : Int)) then (some (.inl ((s2.1 || ((y1.1.getD s2.2.toNat default) == a1)), (IntKind.wrap .i64 (s2.2 + 1))))) else none) else none) else (some (.inr (.inl s2.1)))) : Option ((Bool × Int) ⊕ ((Bool) ⊕ ((List Int) × Int))))) (false, (0 : Int))))) (onS fun (y3 : Bool) => (Option.bind (if (!y3) = true then (some (.inr (([], (2 : Int))))) else (Option.bind (Option.bind (m45 a0) fun r => some r) fun x12 => (if (x12.2.2.2 != 0) = true then (some (.inr (([], x12.2.2.2)))) else (some (.inl (x12.1, x12.2.1, x12.2.2.1)))))) (onS fun (y4 : (List T37) × (List Int) × (List Int)) => (Option.bind (Option.bind (some (.inl ())) (onS fun (_ : Unit) => (loopO (fun (s5 : Int) => ((if (decide (s5 < (y4.1.length : Int))) = true then (if (0 ≤ s5) then (if (s5 < (y4.1.length : Int)) then (if ((y4.1.getD s5.toNat default).Leaf == a1) = true then (Option.bind (Option.bind (m69o0 y4.2.1 y4.2.2 s5) fun r => some r) fun x19 => (some (.inr (.inr ((x19, (0 : Int))))))) else (some (.inl (IntKind.wrap .i64 (s5 + 1))))) else none) else none) else (some (.inr (.inl ())))) : Option ((Int) ⊕ ((Unit) ⊕ ((List Int) × Int))))) (0 : Int)))) (onS fun (_ : Unit) => (some ([], (6 : Int))))))))))) : Option ((List Int) × Int)) := by kernel_rfl
theorem rWitness_eq {c : T27} (H : Fit c) (hn : c.Conds.length ≤ 12) (leaf : Int) : m30 c leaf = witM c leaf := by
 obtain ⟨e, he⟩ := checkM_some c
 have hst := H.states
 have hll := leaves_len (c := c)
 have q0 := rCheck_eq c H
 have q1 := rsearch_eq H hn
 have q3 := rLeaves_eq c H
 have q6 : ∀ s : SS, Inv c s → Wy c (begG c) s → ∀ k : Nat, k < s.1.length → m69o0 s.2.1 s.2.2 (k : Int) = some (wayL s k k) := fun s I W k hk => rway_eq I W hk
 unfold witM
 simp only [M30, bind_id, q0, q1, q3, he, bs]
 generalize m69o0 = F2 at q6 ⊢
 by_cases h0 : (e != 0) = true
 ·simp only [h0, if_true, bs, or_]
 ·have h0 := Bool.eq_false_iff.2 h0
  have e0 : e = 0 := by simpa using h0
  subst e0
  simp only [h0, Bool.false_eq_true, if_false, bs, ol]
  refine any_loop (leavesS c).length (fun i => (leavesS c).getD i default == leaf) (fun f i hi => ?_) (fun f => ?_) ?_
  ·have w2 : IntKind.wrap .i64 ((i : Int) + 1) = ((i + 1 : Nat) : Int) := by rw [w64 (by omega) (by omega)]; omega
   simp only [inL hi, decide_true, Int.toNat_natCast, if_true, w2]
  ·simp only [lt_irr, decide_false, Bool.false_eq_true, if_false]
  ·rw [anyR_has]
   cases hasK (leavesS c) (leavesS c).length leaf with
   | false => simp only [Bool.not_false, if_true, bs, or_]
   | true =>
    simp only [Bool.not_true, Bool.false_eq_true, if_false]
    cases hs : searchS c with
    | none => rfl
    | some s =>
     have I := searchS_inv H he hs
     have W := searchS_wy H he hs
     have b1 := I.le
     have k2 := q6 s I W
     simp only [bne_self, Bool.false_eq_true, if_false, bs, ol]
     rw [loop_ex s.1.length (fun i => if ((s.1.getD i default).Leaf == leaf) = true then some (wayL s i i, (0 : Int)) else none) ?_ ?_]
     ·rcases findR_cases (fun i => (s.1.getD i default).Leaf == leaf) s.1.length with ⟨h1, h2⟩ | ⟨k, h1, h2, h3⟩
      ·have h1 : leafI s leaf = -1 := h1
       rw [h1]
       have : firstR (fun i => if ((s.1.getD i default).Leaf == leaf) = true then some (wayL s i i, (0 : Int)) else none) s.1.length = none := by
        rw [firstR_none]
        intro i hi
        rw [if_neg]
        rw [anyR_false.1 h2 i hi]; decide
       rw [this]; rfl
      ·have h2' : leafI s leaf = (k : Int) := h2
       rw [h2']
       have d : decide ((k : Int) < 0) = false := by simp
       simp only [d, Bool.false_eq_true, if_false, Int.toNat_natCast]
       have : firstR (fun i => if ((s.1.getD i default).Leaf == leaf) = true then some (wayL s i i, (0 : Int)) else none) s.1.length = some (wayL s k k, (0 : Int)) := by
        refine firstR_at h1 (fun j hj => ?_) (by rw [if_pos h3])
        rw [if_neg]
        rw [findR_min h2 j hj]; decide
       rw [this]; rfl
     ·intro i hi
      simp only [exB_ite, exB_some, exB_none, inL hi, decide_true, Int.toNat_natCast, if_true, wr1 hi (by omega), k2 i hi, bs]
     ·simp only [lt_irr, decide_false, Bool.false_eq_true, if_false]
theorem sameV_eq (a b : List Int) (ha : a.length ≤ 1000000) : m31 a b = some (a == b) := by
 delta m31 d31
 simp only [↓JD.sg_m, ↓JD.sq_m, ↓JD.sc_m, ↓JD.bk_m, ↓JD.lp_m, ↓JD.cd_m, ↓JD.lu_m, ↓JD.ct_m, ↓JD.ce_m, ↓JL.r_m, ↓JL.z_m, ↓JD.se_m, onE_r, ↓Tr.run, ↓Tr.run_nd, ↓Tr.run_c3, ↓Tr.run_c2, ↓Tr.run_nx, ↓onS, bind_ite, Option.bind_some, Option.bind_none, obR]
 by_cases h : ((a.length : Int) != (b.length : Int)) = true
 ·simp only [h, if_true, onS_r, len_ne h]
 ·have h := Bool.eq_false_iff.2 h
  have hl := len_eq h
  simp only [h, Bool.false_eq_true, if_false, onS_l]
  rw [loop_ex a.length (fun i => if (a.getD i default != b.getD i default) = true then some false else none) ?_ ?_, orK_getD, firstR_ne hl]
  ·intro i hi
   have hi2 : i < b.length := by omega
   simp only [exB_ite, exB_some, exB_none, inL hi, inL hi2, decide_true, Int.toNat_natCast, if_true, wr1 hi (by omega)]
  ·(simp only [lt_irr, decide_false, Bool.false_eq_true, if_false]; try rfl)
theorem wit_leads {c : T27} (H : Fit c) {leaf : Int} {w : List Int} (h : witM c leaf = some (w, 0)) : w.length ≤ 400 ∧ checkM c = some 0 ∧ ∃ z, runM c w = some z ∧ z.2.2 = 0 ∧ z.1.length = w.length + 1 ∧ z.1.getD w.length default = leaf := by
 obtain ⟨e, he⟩ := checkM_some c
 unfold witM at h
 rw [he, Option.bind_some] at h
 split at h
 ·rename_i h0
  injection h with h
  injection h with h1 h2
  subst h2
  simp at h0
 ·rename_i h0
  have e0 : e = 0 := by simpa using h0
  subst e0
  split at h
  ·injection h with h; injection h with h1 h2; cases h2
  ·split at h
   ·injection h with h; injection h with h1 h2; cases h2
   ·rename_i s hs
    split at h
    ·injection h with h; injection h with h1 h2; cases h2
    ·rename_i hd
     injection h with h
     injection h with h1 h2
     have I := searchS_inv H he hs
     have W := searchS_wy H he hs
     have b1 := I.le
     rcases findR_cases (fun i => (s.1.getD i default).Leaf == leaf) s.1.length with ⟨h3, _⟩ | ⟨k, k1, k2, k3⟩
     ·exfalso
      apply hd
      show decide (leafI s leaf < 0) = true
      have : leafI s leaf = -1 := h3
      rw [this]; rfl
     ·have k2 : leafI s leaf = (k : Int) := k2
      rw [k2, Int.toNat_natCast] at h1
      have hl := wayL_len s k k
      rw [h1] at hl
      have hc := cfgR_way W k k (Nat.le_refl _) k1
      rw [h1] at hc
      obtain ⟨z, z1, z2, z3, z4⟩ := runS_cfg (ls := [(startS c).1]) (a := (startS c).2.2) hc (by simp) rfl
      refine ⟨by omega, he, z, ?_, z2, by rw [z3]; simp; omega, ?_⟩
      ·unfold runM startM
       simp only [he, Option.bind_some, bne_self, Bool.false_eq_true, if_false]
       exact z1
      ·rw [z3] at z4
       simp only [List.length_cons, List.length_nil] at z4
       rw [show 0 + 1 + w.length - 1 = w.length from by omega] at z4
       rw [z4]
       simpa using k3
theorem M7 (a0 : T27) (a1 : Int) : m7 a0 a1 = ((Option.bind (Option.bind (m13) fun r => some r) fun x1 => (if (!x1) = true then (some false) else (Option.bind (Option.bind (m14 a0) fun r => some r) fun x3 => (Option.bind (Option.bind (m21 x3 a1) fun r => some r) fun x4 => (Option.bind (Option.bind (m30 x3 a1) fun r => some r) fun x5 => (Option.bind (((if (!(x4.2 != x5.2)) = true then m31 x4.1 x5.1 else some default).bind fun r6_0 => some r6_0)) fun (x6 : (Bool)) => (if ((x4.2 != x5.2) || (!x6)) = true then (some false) else (if (x4.2 != 0) = true then (some true) else (Option.bind (Option.bind (m32 x3 x4.1) fun r => some r) fun x10 => (if ((x10.2.2 == 0) && ((x10.1.length : Int) == (IntKind.wrap .i64 ((x4.1.length : Int) + (1 : Int))))) = true → (0 ≤ (x4.1.length : Int)) then (if ((x10.2.2 == 0) && ((x10.1.length : Int) == (IntKind.wrap .i64 ((x4.1.length : Int) + (1 : Int))))) = true → ((x4.1.length : Int) < (x10.1.length : Int)) then (some (((x10.2.2 == 0) && ((x10.1.length : Int) == (IntKind.wrap .i64 ((x4.1.length : Int) + (1 : Int))))) && ((x10.1.getD (x4.1.length : Int).toNat default) == a1))) else none) else none)))))))))) : Option (Bool)) := by kernel_rfl
theorem plain7 {c : T27} {leaf : Int} (_ : ok27 c) (_ : (Lit.int .i64 leaf).wf = true) : m7 c leaf = some true := by
 have T := few8_tiny c
 have H := T.fit
 have hn : (few8 c).Conds.length ≤ 12 := by have := T.conds; omega
 have q0 := Cc.awake_true
 have q1 := few_eq8 c
 have q2 := Witness_eq H hn leaf
 have q3 := rWitness_eq H hn leaf
 have q4 := Run_eq (few8 c) H
 have q5 := sameV_eq
 obtain ⟨r, hr⟩ : ∃ r, witM (few8 c) leaf = some r := by
  obtain ⟨e, he⟩ := checkM_some (few8 c)
  unfold witM
  rw [he, Option.bind_some]
  split
  ·exact ⟨_, rfl⟩
  ·split
   ·exact ⟨_, rfl⟩
   ·split
    ·exact ⟨_, rfl⟩
    ·split <;> exact ⟨_, rfl⟩
 have hlen : r.1.length ≤ 400 := by
  obtain ⟨e, he⟩ := checkM_some (few8 c)
  have hr' := hr
  unfold witM at hr'
  rw [he, Option.bind_some] at hr'
  split at hr'
  ·injection hr' with h; subst h; simp
  ·rename_i h0
   have e0 : e = 0 := by simpa using h0
   subst e0
   split at hr'
   ·injection hr' with h; subst h; simp
   ·split at hr'
    ·injection hr' with h; subst h; simp
    ·rename_i s hs
     split at hr'
     ·injection hr' with h; subst h; simp
     ·injection hr' with h; subst h
      have I := searchS_inv H he hs
      have b1 := I.le
      have := wayL_len s (leafI s leaf).toNat (leafI s leaf).toNat
      have hf : (leafI s leaf).toNat ≤ 400 := by
       rcases findR_cases (fun i => (s.1.getD i default).Leaf == leaf) s.1.length with ⟨h3, _⟩ | ⟨k, k1, k2, k3⟩
       ·have h3 : leafI s leaf = -1 := h3
        rw [h3]; decide
       ·have k2 : leafI s leaf = (k : Int) := k2
        rw [k2]; omega
      show (wayL s (leafI s leaf).toNat (leafI s leaf).toNat).length ≤ 400
      omega
 have q5' := q5 r.1 r.1 (by omega)
 rw [show (r.1 == r.1) = true from by simp] at q5'
 have q4' := q4 r.1 (by omega)
 rw [hr] at q2 q3
 simp only [M7, bind_id, q0, q1, q2, q3, q4', q5', bs, bne_self, Bool.not_true, Bool.not_false, Bool.false_eq_true, if_false, if_true, Bool.or_false]
 by_cases h0 : (r.2 != 0) = true
 ·simp only [h0, if_true]
 ·have h0 := Bool.eq_false_iff.2 h0
  have e0 : r.2 = 0 := by simpa using h0
  have hr2 : witM (few8 c) leaf = some (r.1, 0) := by rw [hr, ← e0]
  obtain ⟨_, _, z, z1, z2, z3, z4⟩ := wit_leads H hr2
  have w1 : IntKind.wrap .i64 ((r.1.length : Int) + 1) = ((r.1.length + 1 : Nat) : Int) := by rw [w64 (by omega) (by omega)]; omega
  have c1 : ((z.1.length : Int) == ((r.1.length + 1 : Nat) : Int)) = true := by simp; omega
  have c2 : ((r.1.length : Int) < (z.1.length : Int)) = True := eq_true (by omega)
  have c3 : ((0 : Int) ≤ (r.1.length : Int)) = True := eq_true (by omega)
  simp only [h0, Bool.false_eq_true, if_false, z1, bs, z2, beq_self_eq_true, Bool.true_and, w1, c1, c2, c3, true_implies, if_true, Int.toNat_natCast, z4]
end Go.Av
