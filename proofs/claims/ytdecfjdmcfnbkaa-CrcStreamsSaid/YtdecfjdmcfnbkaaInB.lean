/- A slice of slices of bytes that came in, as the walk asks it. -/
import Derived.Test.YtdecfjdmcfnbkaaIn
import Derived.Test.YtdecfjdmcfnbkaaLawStream
import Derived.Deep.Slices
import Derived.ProofKit
namespace Go.Proofs.Ytdecfjdmcfnbkaa
open Go.RowKit Go.Bv Go.Base Go.ChangeShapes Go.WideShapes

theorem spot_none {w : World} {a : Addr} {v : Value} (h : w.cell? a = some v) : a.spot = none := by
  unfold World.cell? at h
  cases hx : a.spot with
  | none => rfl
  | some s => rw [hx] at h; simp at h; split at h <;> cases h
theorem add_plain {a : Addr} (h : a.spot = none) (j : Nat) : a.add j = ⟨a.block, a.off + j, none⟩ := by
  unfold Addr.add
  split
  · rename_i e; subst e; cases a; simp at h; simp [h]
  · rfl
theorem rd_of_cells {w : World} {a : Addr} {l c : Nat} {V : Nat → Value} (hl : l ≤ c) (hm : c ≤ maxLen) (h : ∀ i, i < l → w.cell? (a.add i) = some (V i)) : Rd w 1 (some a) l c ((List.range l).map V) := by
  refine ⟨by simp, hl, hm, fun hn => ?_⟩
  have h0 := h 0 hn
  have hs : a.spot = none := by
    have e : a.add 0 = a := by simp [Addr.add]
    rw [e] at h0
    exact spot_none h0
  rw [add_plain hs] at h0
  refine ⟨a.block, a.off, by cases a; simp at hs; simp [hs], (show a.block < _ from cell_lt (a := ⟨a.block, a.off + 0, none⟩) h0), fun j u hu => ?_⟩
  rw [List.getElem?_map] at hu
  rcases Nat.lt_or_ge j l with hj | hj
  · rw [List.getElem?_range hj] at hu
    simp only [Option.map_some, Option.some.injEq] at hu
    rw [← hu, ← h j hj, add_plain hs]
  · rw [List.getElem?_eq_none (by simp; exact hj)] at hu
    cases hu
section
variable {H : Type} {enc : TypeId × Value → H} {W : World} {fuel : Nat} {a : Option Addr} {len cap : Nat} {x : DataW H × List MemPlace}
theorem rdb_trod {v : Value} (hf : DataW.trod enc Try.prog W 0 (fun _ => true) true fuel 22 [v] = some x) : ∃ a len cap l, v = .slice a len cap ∧ RdB W a len cap l := by
  rcases open_ints Try.underlying22 Try.underlying5 (by kernel_rfl) hf with ⟨hcs, _⟩ | ⟨y, l, c, zs, hcs, _, hl, hm, hz, _, hcell, hwz⟩
  · injection hcs with hv _
    subst hv
    obtain ⟨k, hk⟩ := rdb_of (w := W) (.inl ⟨rfl, rfl, rfl, (rfl : ([] : List Int) = [])⟩)
    exact ⟨_, _, _, k, rfl, hk⟩
  · injection hcs with hv _
    subst hv
    obtain ⟨k, hk⟩ := rdb_of (w := W) (.inr ⟨_, rfl, hl, hm, by simpa using hz, hcell, hwz⟩)
    exact ⟨_, _, _, k, rfl, hk⟩
theorem rdbb_trod (hf : DataW.trod enc Try.prog W 0 (fun _ => true) true fuel 39 [.slice a len cap] = some x) : RdBB W a len cap := by
  rcases Go.Deep.open_slice1 Try.underlying39 (by kernel_rfl) hf with ⟨hcs, _⟩ | ⟨ad, l, c, m, n, V, D, Pl, hcs, _, hl, hm, hmm, _, hx⟩
  · injection hcs with hv _
    injection hv with e1 e2 e3
    subst e1 e2 e3
    exact ⟨[], Rd.nil_ _ _ _ _ (Nat.zero_le _), fun v hv => by cases hv⟩
  · injection hcs with hv _
    injection hv with e1 e2 e3
    subst e1 e2 e3
    simp only [if_true] at hmm
    subst hmm
    refine ⟨(List.range len).map V, rd_of_cells hl hm fun i hi => (hx i (by omega)).1, fun v hv => ?_⟩
    obtain ⟨i, hi, rfl⟩ := List.mem_map.1 hv
    obtain ⟨B, m, d, k, e, hk⟩ := rdb_trod (hx i (by have := List.mem_range.1 hi; omega)).2
    exact ⟨B, m, d, k, e, hk⟩
end
end Go.Proofs.Ytdecfjdmcfnbkaa
