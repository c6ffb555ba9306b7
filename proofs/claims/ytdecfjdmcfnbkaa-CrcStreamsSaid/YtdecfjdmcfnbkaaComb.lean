/- Joining two checksums: squares, and the two functions. -/
import Derived.Test.YtdecfjdmcfnbkaaMat
namespace Go.Proofs.Ytdecfjdmcfnbkaa
open Go.RowKit Go.Bv Go.Base

theorem matrix_size : (Try.prog.info? 54).map (·.size) = some 32 := by kernel_rfl

set_option maxHeartbeats 1000000 in
theorem squared_any (g : Nat) (M : List (BitVec 32)) (w : World) (hM : Mat w g M) :
    Calls Try.prog 38 #[.pointer (some ⟨g, 0, none⟩)] w fun e w' => ∃ M' : List (BitVec 32), e = .returned (.agg (M'.map v32).toArray) ∧ M'.length = 32 ∧ (∀ k, k < 32 → M'.getD k 0 = Crc.lowX M (M.getD k 0) 32) ∧ Ext w w' := by
  have hM0 := hM
  obtain ⟨hl, hb⟩ := hM
  have hglt := hb.lt
  go_enter Try.func38, Try.ntmps38
  go_wp2
  have hz1 : Blk ((w.alloc (.cells ((List.replicate 32 (0 : BitVec 32)).map v32).toArray 54)).alloc (.cells ((List.replicate 32 (0 : BitVec 32)).map v32).toArray 54)) w.heap.size 54 ((List.replicate 32 (0 : BitVec 32)).map v32) := (Blk.new w _ _).alloc _
  have hz2 : Blk ((w.alloc (.cells ((List.replicate 32 (0 : BitVec 32)).map v32).toArray 54)).alloc (.cells ((List.replicate 32 (0 : BitVec 32)).map v32).toArray 54)) (w.heap.size + 1) 54 ((List.replicate 32 (0 : BitVec 32)).map v32) := by
    have := Blk.new (w.alloc (.cells ((List.replicate 32 (0 : BitVec 32)).map v32).toArray 54)) 54 ((List.replicate 32 (0 : BitVec 32)).map v32)
    simpa using this
  have hz3 : Below w.heap.size w ((w.alloc (.cells ((List.replicate 32 (0 : BitVec 32)).map v32).toArray 54)).alloc (.cells ((List.replicate 32 (0 : BitVec 32)).map v32).toArray 54)) := ((Below.refl _ _).alloc (Nat.le_refl _) _).alloc (by simp) _
  go_loopw [5] (fun i wr => ∃ (k : Nat) (Mk : List (BitVec 32)), k ≤ 32 ∧ i = .int .i64 k ∧ Mk.length = 32 ∧ (∀ t, t < k → Mk.getD t 0 = Crc.lowX M (M.getD t 0) 32) ∧ Blk wr (w.heap.size + 1) 54 (Mk.map v32) ∧
      Blk wr w.heap.size 54 ((List.replicate 32 (0 : BitVec 32)).map v32) ∧ Below w.heap.size w wr) (fun i _ => 32 - (intOf i).toNat)
  case atStart => exact ⟨0, List.replicate 32 0, by omega, rfl, by simp, fun t ht => absurd ht (by omega), hz2, hz1, hz3⟩
  case round =>
    obtain ⟨k, Mk, hk, rfl, hMk, hdone, hb1, hb0, hbel⟩ := hrel
    clear hz1 hz2 hz3
    by_cases hlt : k < 32
    · have hMw : Mat wr g M := ⟨hl, hb.below hbel hglt⟩
      have hc := hMw.2.cell k
      rw [List.getElem?_map, List.getElem?_eq_getElem (by omega)] at hc
      have hc1 := hb1.cell k
      rw [List.getElem?_map, List.getElem?_eq_getElem (by omega)] at hc1
      have hf1 := hb1.frozen k
      simp only [v32, Option.map_some] at hc hc1
      have HD := hide hdone
      have HB := hide hb1
      clear hdone hb1
      go_wp2_with (go_at_call 37; refine (apply_any _ _ _ _ hMw).mono ?_; rintro e w' ⟨rfl, rfl⟩)
      go_roundw
      case rel =>
        refine ⟨k + 1, Mk.set k (Crc.lowX M (M[k]'(by omega)) 32), by omega, by go_num, by simp [hMk], fun t ht => ?_, ?_, hb0.far (p := ⟨w.heap.size + 1, k, none⟩) (by show w.heap.size ≠ w.heap.size + 1; omega) _, Below.setCell hbel (p := ⟨w.heap.size + 1, k, none⟩) (by show w.heap.size ≤ w.heap.size + 1; omega) _⟩
        · rcases Nat.lt_or_ge t k with h | h
          · simp only [List.getD]
            rw [List.getElem?_set_ne (by omega)]
            exact HD.out t h
          · obtain rfl : t = k := by omega
            simp only [List.getD]
            rw [List.getElem?_set_self (by omega), List.getElem?_eq_getElem (by omega)]
            rfl
        · rw [List.map_set]
          exact HB.out.set_ k _
      case measure => simp [intOf]; omega
    · obtain rfl : k = 32 := by omega
      have hr := hb1.range
      have ht := hb0.there
      go_wp2_with (first
        | (refine wpList_load_mid rfl 54 (.tmp 3) rfl (w.heap.size + 1) 0 rfl (Mk.map v32) _ hr Try.underlying54 rfl (by rw [List.length_map, hMk]; exact matrix_size) ?_)
        | (refine wpList_store_mid rfl 54 (.tmp 2) (.tmp 18) rfl w.heap.size 0 (Mk.map v32).toArray rfl rfl (by simpa [hMk] using ht) (by rw [List.size_toArray, List.length_map, hMk]; exact matrix_size) (all_oneCell_toArray (by intro v hv; obtain ⟨x, _, rfl⟩ := List.mem_map.1 hv; rfl)) ?_))
      have hb3 := hb0.setCells (vs := Mk.map v32) (by simp [hMk])
      refine bodyPost_ret (v := .agg (Mk.map v32).toArray) (results_cell_mid rfl _ _ w.heap.size 0 (Mk.map v32) _ rfl hb3.range Try.underlying54 rfl (by rw [List.length_map, hMk]; exact matrix_size)) rfl ⟨Mk, rfl, hMk, hdone, below_setCells _ _ hbel (Nat.le_refl _)⟩

theorem isIter_twice {M M' : List (BitVec 32)} {n : Nat} (h : Crc.IsIter M n) (hl : M'.length = 32) (h2 : ∀ k, k < 32 → M'.getD k 0 = Crc.lowX M (M.getD k 0) 32) : Crc.IsIter M' (n + n) := by
  refine ⟨hl, fun k hk => ?_⟩
  rw [h2 k hk, Crc.apply_iter h, h.2 k hk, Crc.iter_add]

set_option maxHeartbeats 1000000 in
theorem rcombine_any (a b : BitVec 32) (n : Int) (w : World) (h0 : -9223372036854775808 ≤ n) (h1 : n ≤ 9223372036854775807) :
    Calls Try.prog 32 #[.int .u32 (n32 a), .int .u32 (n32 b), .int .i64 n] w fun e w' => e = .returned (.int .u32 (n32 (Crc.combine a b n))) ∧ w = w' := by
  by_cases hn : n < 0
  · go_enter Try.func32, Try.ntmps32
    go_wp2
    go_ret
    exact ⟨by rw [Crc.combine, if_pos hn]; rfl, rfl⟩
  · obtain ⟨m, rfl⟩ := Int.eq_ofNat_of_zero_le (by omega : 0 ≤ n)
    have HC := hide (show Crc.combine a b m = Crc.zeros m a ^^^ b by rw [Crc.combine, if_neg hn, Int.toNat_natCast])
    clear hn
    go_enter Try.func32, Try.ntmps32
    go_wp2
    go_loop [7, 8] (fun x i => ∃ k : Nat, k ≤ m ∧ i = .int .i64 k ∧ x = .int .u32 (n32 (Crc.zeros k a))) (fun _ i => m - (intOf i).toNat)
    case atStart => exact ⟨0, by omega, rfl, rfl⟩
    case round =>
      obtain ⟨k, hk, rfl, rfl⟩ := hrel
      have HS := hide (Crc.zeros_succ k a)
      by_cases hlt : k < m
      · go_wp2_with (go_at_call 34; refine (rstep_any _ 0 _).mono ?_; rintro e w' ⟨rfl, rfl⟩)
        go_round
        case rel => exact ⟨k + 1, by omega, by go_num, by rw [HS.out]; rfl⟩
        case measure => simp [intOf]; omega
      · obtain rfl : k = m := by omega
        go_wp2
        go_ret
        exact ⟨by rw [HC.out]; rfl, rfl⟩

theorem and_one_i64 (q : Nat) : (bits .and .i64 (q : Int) 1 == 1) = decide (q % 2 = 1) := by
  have h : bits .and .i64 (q : Int) 1 = ((q % 2 : Nat) : Int) := by
    show IntKind.i64.wrap ((BitVec.ofInt 64 (q : Int) &&& BitVec.ofInt 64 ((1 : Nat) : Int)).toNat : Int) = _
    rw [BitVec.ofInt_natCast, BitVec.ofInt_natCast, BitVec.toNat_and]
    simp only [BitVec.toNat_ofNat, Nat.reducePow, Nat.reduceMod, Nat.and_one_is_mod]
    rw [IntWalk.i64_in _ (by omega)]
    omega
  rw [h]
  by_cases hq : q % 2 = 1
  · simp [hq]
  · rw [decide_eq_false hq]
    exact beq_eq_false_iff_ne.2 (by omega)
theorem odd_of {q : Nat} (h : (bits .and .i64 (q : Int) 1 == 1) = true) : q % 2 = 1 := by
  rw [and_one_i64] at h
  simpa using h
theorem even_of {q : Nat} (h : (bits .and .i64 (q : Int) 1 == 1) = false) : q % 2 = 0 := by
  rw [and_one_i64] at h
  simp at h
  omega
theorem pow32 {k : Nat} (h : k < 32) : (2 : Int) ^ k % 4294967296 = n32 ((1 : BitVec 32) <<< k) := by
  unfold n32
  rw [BitVec.toNat_shiftLeft, Nat.shiftLeft_eq]
  have : (1 : BitVec 32).toNat = 1 := rfl
  have e : ((2 : Int) ^ k) = ((2 ^ k : Nat) : Int) := by simp
  rw [this, Nat.one_mul, e]
  omega
set_option maxHeartbeats 1000000 in
theorem combine_any (a b : BitVec 32) (n : Int) (w : World) (h0 : -9223372036854775808 ≤ n) (h1 : n ≤ 9223372036854775807) :
    Calls Try.prog 31 #[.int .u32 (n32 a), .int .u32 (n32 b), .int .i64 n] w fun e w' => e = .returned (.int .u32 (n32 (Crc.combine a b n))) ∧ Ext w w' := by
  by_cases hn : n < 0
  · go_enter Try.func31, Try.ntmps31
    go_wp2
    go_ret
    exact ⟨by rw [Crc.combine, if_pos hn]; rfl, Below.refl _ _⟩
  · obtain ⟨m, rfl⟩ := Int.eq_ofNat_of_zero_le (by omega : 0 ≤ n)
    have HC := hide (show Crc.combine a b m = Crc.zeros m a ^^^ b by rw [Crc.combine, if_neg hn, Int.toNat_natCast])
    have hz1 : Blk (w.alloc (.cells ((List.replicate 32 (0 : BitVec 32)).map v32).toArray 54)) w.heap.size 54 ((List.replicate 32 (0 : BitVec 32)).map v32) := Blk.new w _ _
    have hz3 : Below w.heap.size w (w.alloc (.cells ((List.replicate 32 (0 : BitVec 32)).map v32).toArray 54)) := (Below.refl _ _).alloc (Nat.le_refl _) _
    clear hn
    go_enter Try.func31, Try.ntmps31
    go_wp2
    go_loopw [11] (fun i wr => ∃ (k : Nat) (Mk : List (BitVec 32)), k ≤ 32 ∧ i = .int .i64 k ∧ Mk.length = 32 ∧ (∀ t, t < k → Mk.getD t 0 = Crc.iter Crc.bitStep 8 ((1 : BitVec 32) <<< t)) ∧ Blk wr w.heap.size 54 (Mk.map v32) ∧ Below w.heap.size w wr) (fun i _ => 32 - (intOf i).toNat)
    case atStart => exact ⟨0, List.replicate 32 0, by omega, rfl, by simp, fun t ht => absurd ht (by omega), hz1, hz3⟩
    case round =>
      obtain ⟨k, Mk, hk, rfl, hMk, hdone, hb1, hbel⟩ := hrel
      clear hz1 hz3
      by_cases hlt : k < 32
      · have hc1 := hb1.cell k
        rw [List.getElem?_map, List.getElem?_eq_getElem (by omega)] at hc1
        have hf1 := hb1.frozen k
        simp only [v32, Option.map_some] at hc1
        have HD := hide hdone
        have HB := hide hb1
        clear hdone hb1
        go_wp2_with fail
        rw [pow32 hlt]
        refine (step_any ((1 : BitVec 32) <<< k) 0 _).mono ?_
        rintro e w' ⟨rfl, rfl⟩
        go_wp2_with fail
        go_roundw
        case rel =>
          refine ⟨k + 1, Mk.set k (Crc.step ((1 : BitVec 32) <<< k) 0), by omega, by go_num, by simp [hMk], fun t ht => ?_, ?_, Below.setCell hbel (p := ⟨w.heap.size, k, none⟩) (Nat.le_refl _) _⟩
          · rcases Nat.lt_or_ge t k with h | h
            · simp only [List.getD]
              rw [List.getElem?_set_ne (by omega)]
              exact HD.out t h
            · obtain rfl : t = k := by omega
              simp only [List.getD]
              rw [List.getElem?_set_self (by omega), Option.getD_some, Crc.step_zero]
          · rw [List.map_set]
            exact HB.out.set_ k _
        case measure => simp [intOf]; omega
      · have hI : Crc.IsIter Mk 8 := ⟨hMk, fun t ht => hdone t (by omega)⟩
        clear hdone hMk
        go_wp2_with fail
        go_loopw [0, 2] (fun y i wr => ∃ (q N : Nat) (x : BitVec 32) (Mx : List (BitVec 32)), q ≤ m ∧ i = .int .i64 q ∧ y = .int .u32 (n32 x) ∧ Crc.IsIter Mx N ∧ Crc.iter Crc.bitStep (N * q) x = Crc.zeros m a ∧ Blk wr w.heap.size 54 (Mx.map v32) ∧ Below w.heap.size w wr) (fun _ i _ => (intOf i).toNat)
        case atStart => exact ⟨m, 8, a, Mk, Nat.le_refl _, rfl, rfl, hI, (Crc.zeros_eq m a).symm, hb1, hbel⟩
        case round =>
          obtain ⟨q, N, x, Mx, hq, rfl, rfl, hIx, hx, hbx, hbelx⟩ := hrel
          clear hI hb1 hbel
          have hMx : Mat _ w.heap.size Mx := ⟨hIx.1, hbx⟩
          have HX := hide hx
          have HI := hide hIx
          clear hx hIx
          by_cases hq0 : q = 0
          · subst hq0
            go_wp2_with fail
            go_ret
            exact ⟨by rw [HC.out, ← HX.out]; rfl, hbelx⟩
          · have hq1 : 0 < (q : Int) := by omega
            clear hq0
            go_wp2_with fail
            · have h2 : (bits .and .i64 (q : Int) 1 == 1) = true := by assumption
              have hodd : q % 2 = 1 := odd_of h2
              clear h2
              refine (apply_any _ _ _ _ hMx).mono ?_
              rintro e w' ⟨rfl, rfl⟩
              go_wp2_with fail
              refine (squared_any _ _ _ hMx).mono ?_
              rintro e w2 ⟨M2, rfl, hl2, hs2, hx2⟩
              have ht := (hMx.2.ext hx2).there
              have hb2 := (hMx.2.ext hx2).setCells (vs := M2.map v32) (by simp [hl2, hMx.1])
              go_wp2_with (refine wpList_store_mid rfl 54 (.tmp 7) (.tmp 29) rfl w.heap.size 0 (M2.map v32).toArray rfl rfl (by simpa [hl2, hMx.1] using ht) (by rw [List.size_toArray, List.length_map, hl2]; exact matrix_size) (all_oneCell_toArray (by intro v hv; obtain ⟨x, _, rfl⟩ := List.mem_map.1 hv; rfl)) ?_)
              go_roundw
              case rel =>
                refine ⟨q / 2, N + N, Crc.lowX Mx x 32, M2, by omega, by go_num, rfl, isIter_twice HI.out hl2 hs2, ?_, hb2, below_setCells _ _ (below_ext hbelx hx2 hbelx.size) (Nat.le_refl _)⟩
                rw [← HX.out, Crc.apply_iter HI.out, ← Crc.iter_add]
                congr 1
                obtain ⟨d, hd⟩ : ∃ d, q = 2 * d + 1 := ⟨q / 2, by omega⟩
                subst hd
                rw [show (2 * d + 1) / 2 = d by omega, Nat.add_mul, Nat.mul_add, Nat.mul_one, Nat.two_mul, Nat.mul_add]
                omega
              case measure => simp [intOf]; omega
            · have h2 : (bits .and .i64 (q : Int) 1 == 1) = false := by assumption
              have heven : q % 2 = 0 := even_of h2
              clear h2
              refine (squared_any _ _ _ hMx).mono ?_
              rintro e w2 ⟨M2, rfl, hl2, hs2, hx2⟩
              have ht := (hMx.2.ext hx2).there
              have hb2 := (hMx.2.ext hx2).setCells (vs := M2.map v32) (by simp [hl2, hMx.1])
              go_wp2_with (refine wpList_store_mid rfl 54 (.tmp 7) (.tmp 29) rfl w.heap.size 0 (M2.map v32).toArray rfl rfl (by simpa [hl2, hMx.1] using ht) (by rw [List.size_toArray, List.length_map, hl2]; exact matrix_size) (all_oneCell_toArray (by intro v hv; obtain ⟨x, _, rfl⟩ := List.mem_map.1 hv; rfl)) ?_)
              go_roundw
              case rel =>
                refine ⟨q / 2, N + N, x, M2, by omega, by go_num, rfl, isIter_twice HI.out hl2 hs2, ?_, hb2, below_setCells _ _ (below_ext hbelx hx2 hbelx.size) (Nat.le_refl _)⟩
                rw [← HX.out]
                congr 1
                obtain ⟨d, hd⟩ : ∃ d, q = 2 * d := ⟨q / 2, by omega⟩
                subst hd
                rw [show (2 * d) / 2 = d by omega, Nat.add_mul, Nat.two_mul, Nat.mul_add]
              case measure => simp [intOf]; omega
end Go.Proofs.Ytdecfjdmcfnbkaa
