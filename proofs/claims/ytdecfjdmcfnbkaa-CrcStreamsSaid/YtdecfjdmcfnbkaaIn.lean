/- From what the statement says of its arguments to what the walks ask. -/
import Derived.Test.YtdecfjdmcfnbkaaLawFlips
import Derived.OpenShut
namespace Go.Proofs.Ytdecfjdmcfnbkaa
open Go.RowKit Go.Bv Go.Base

theorem u32_of {a : Int} (h : (Lit.int .u32 a).wf = true) : ∃ p : BitVec 32, a = n32 p := by
  have hb := bounds_u32 h
  refine ⟨BitVec.ofInt 32 a, ?_⟩
  rw [n32, BitVec.toNat_ofInt]
  omega
theorem rdb_of {w : World} {a : Option Addr} {len cap : Nat} {zs : List Int} (h : (a = none ∧ len = 0 ∧ cap = 0 ∧ zs = []) ∨
    ∃ x, a = some x ∧ len ≤ cap ∧ cap ≤ maxLen ∧ zs.length = cap ∧ (∀ i, i < zs.length → w.cell? (x.add i) = some (.int .u8 (zs.getD i 0))) ∧ ∀ n ∈ zs, (Lit.int .u8 n).wf = true) :
    ∃ l, RdB w a len cap l := by
  rcases h with ⟨rfl, rfl, rfl, rfl⟩ | ⟨x, rfl, h1, h2, h3, h4, h5⟩
  · exact ⟨[], Rd.nil_ _ _ _ _ (Nat.zero_le _)⟩
  · refine ⟨(zs.take len).map (BitVec.ofInt 8), by simp; omega, h1, h2, fun hn => ?_⟩
    have h0 := h4 0 (by omega)
    have hsp : x.spot = none := by
      have : (x.add 0) = x := by simp [Addr.add]
      rw [this] at h0
      unfold World.cell? at h0
      cases hx : x.spot with
      | none => rfl
      | some s => rw [hx] at h0; simp at h0; split at h0 <;> cases h0
    obtain ⟨b, o, sp⟩ := x
    simp only at hsp
    subst hsp
    have hadd : ∀ j, (⟨b, o, none⟩ : Addr).add j = ⟨b, o + j, none⟩ := by
      intro j; unfold Addr.add; split
      · rename_i e; subst e; rfl
      · rfl
    refine ⟨b, o, rfl, cell_lt (by rw [hadd] at h0; exact h0), fun j u hu => ?_⟩
    simp only [List.map_map, List.getElem?_map] at hu
    cases hj : (zs.take len)[j]? with
    | none => rw [hj] at hu; simp at hu
    | some z =>
      rw [hj] at hu
      rw [List.getElem?_take] at hj
      split at hj
      · have hjl : j < zs.length := (List.getElem?_eq_some_iff.1 hj).1
        have h6 := h4 j hjl
        rw [hadd] at h6
        rw [h6]
        have hz : zs.getD j 0 = z := by simp [List.getD, hj]
        rw [hz]
        have hb := bounds_u8 (h5 z (List.mem_of_getElem? hj))
        simp only [Option.map_some, Function.comp, b8, Option.some.injEq] at hu
        rw [← hu]
        congr 2
        rw [n8, BitVec.toNat_ofInt]
        omega
      · cases hj
end Go.Proofs.Ytdecfjdmcfnbkaa
