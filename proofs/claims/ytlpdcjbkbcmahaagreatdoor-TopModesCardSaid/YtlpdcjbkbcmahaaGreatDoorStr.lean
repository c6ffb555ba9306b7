/- What the library's search for a byte and its count answer. -/
import Derived.Test.YtlpdcjbkbcmahaaGreatDoorAvPlain
import Derived.Test.YtlpdcjbkbcmahaaGreatDoorProg
import Derived.WalkKit
import Derived.Lib.Walk
import Derived.Lib.Strings
import Derived.Lib.Bytealg
import Derived.BigCall
import Derived.BigGuard
import Derived.Deep.Draws
import Derived.Laws.Strings3
set_option linter.unusedVariables false
set_option linter.unusedSimpArgs false
namespace Go.Av
open Go.RowKit Go.Base Go.Proofs
noncomputable def m197 (a0 : List UInt8) (a1 : Int) : Option Int := some (Lib.indexByte a0 a1.toNat.toUInt8)
set_option maxHeartbeats 1000000 in
set_option maxRecDepth 100000 in
theorem p197 {a0 : List UInt8} {a1 r : Int} (h : m197 a0 a1 = some r) : PureAt Tryz.prog 197 [(.str a0), (.int .u8 a1)] (.int .i64 r) := by
  refine ⟨⟨_, Tryz.func197, by kernel_rfl, by decide⟩, fun μ w vs hz hr => ?_⟩
  simp only [m197, Option.some.injEq] at h
  simp only [RepL, Rep] at hr
  obtain ⟨v, t, rfl, rfl, v2, t2, rfl, rfl, rfl⟩ := hr
  subst h
  suffices hs : Calls Tryz.prog 197 #[.string ⟨⟨a0⟩⟩, .int .u8 a1] w fun e w' => e = .returned (.int .i64 (Lib.indexByte a0 a1.toNat.toUInt8)) ∧ w' = w by
    refine hs.mono ?_
    rintro e w' ⟨rfl, rfl⟩
    exact ⟨_, μ, rfl, ⟨rfl, rfl, rfl, Nat.le_refl _, fun _ _ => rfl⟩, fun _ _ _ => rfl, hz, by simp only [Rep]⟩
  go_enter Tryz.func197, Tryz.ntmps197
  go_wp2
  rw [run_callFunc_extern Tryz.func212 (by kernel_rfl) (by kernel_rfl) (by kernel_rfl) (e := Extern.BytealgIndexByte.indexByte) (by kernel_rfl), Lib.run_indexByteString]
  simp only [Result.andThen]
  rw [Oper.upon_value]
  go_wp2
  go_ret
  exact ⟨rfl, rfl⟩
noncomputable def m135 (a0 a1 : List UInt8) : Option Int := match a1 with
  | [c] => some (Lib.countByte a0 c)
  | _ => none
set_option maxHeartbeats 1000000 in
set_option maxRecDepth 100000 in
theorem p135 {a0 a1 : List UInt8} {r : Int} (h : m135 a0 a1 = some r) : PureAt Tryz.prog 135 [(.str a0), (.str a1)] (.int .i64 r) := by
  refine ⟨⟨_, Tryz.func135, by kernel_rfl, by decide⟩, fun μ w vs hz hr => ?_⟩
  unfold m135 at h
  split at h
  · rename_i c
    simp only [Option.some.injEq] at h
    simp only [RepL, Rep] at hr
    obtain ⟨v, t, rfl, rfl, v2, t2, rfl, rfl, rfl⟩ := hr
    subst h
    suffices hs : Calls Tryz.prog 135 #[.string ⟨⟨a0⟩⟩, .string ⟨#[c]⟩] w fun e w' => e = .returned (.int .i64 (Lib.countByte a0 c)) ∧ w' = w by
      refine hs.mono ?_
      rintro e w' ⟨rfl, rfl⟩
      exact ⟨_, μ, rfl, ⟨rfl, rfl, rfl, Nat.le_refl _, fun _ _ => rfl⟩, fun _ _ _ => rfl, hz, by simp only [Rep]⟩
    go_enter Tryz.func135, Tryz.ntmps135
    go_wp2
    rw [run_callFunc_extern Tryz.func184 (by kernel_rfl) (by kernel_rfl) (by kernel_rfl) (e := Extern.BytealgCount.count) (by kernel_rfl), Lib.run_countString]
    simp only [Result.andThen]
    rw [Oper.upon_value]
    go_wp2
    go_ret
    exact ⟨rfl, rfl⟩
  · cases h
noncomputable def m185 (a0 a1 : List UInt8) : Option Int := match a1 with
  | [c] => some (Lib.indexByte a0 c)
  | _ => none
set_option maxHeartbeats 1000000 in
set_option maxRecDepth 100000 in
theorem p185 {a0 a1 : List UInt8} {r : Int} (h : m185 a0 a1 = some r) : PureAt Tryz.prog 185 [(.str a0), (.str a1)] (.int .i64 r) := by
  refine ⟨⟨_, Tryz.func185, by kernel_rfl, by decide⟩, fun μ w vs hz hr => ?_⟩
  unfold m185 at h
  split at h
  · rename_i c
    simp only [Option.some.injEq] at h
    simp only [RepL, Rep] at hr
    obtain ⟨v, t, rfl, rfl, v2, t2, rfl, rfl, rfl⟩ := hr
    subst h
    suffices hs : Calls Tryz.prog 185 #[.string ⟨⟨a0⟩⟩, .string ⟨#[c]⟩] w fun e w' => e = .returned (.int .i64 (Lib.indexByte a0 c)) ∧ w' = w by
      refine hs.mono ?_
      rintro e w' ⟨rfl, rfl⟩
      exact ⟨_, μ, rfl, ⟨rfl, rfl, rfl, Nat.le_refl _, fun _ _ => rfl⟩, fun _ _ _ => rfl, hz, by simp only [Rep]⟩
    by_cases hc : [c] = a0
    · have hcb : ([c] == a0) = true := by simpa using hc
      have hi : Lib.indexByte a0 c = 0 := by rw [← hc]; simp [Lib.indexByte]
      go_enter Tryz.func185, Tryz.ntmps185
      go_wp2
      all_goals first
        | (exfalso; rename_i h0; rw [h0] at hc; cases hc; done)
        | (go_ret; exact ⟨by rw [hi]; rfl, rfl⟩)
    · have hcb : ([c] == a0) = false := by simpa using hc
      go_enter Tryz.func185, Tryz.ntmps185
      go_wp2
      rw [run_callFunc_extern Tryz.func212 (by kernel_rfl) (by kernel_rfl) (by kernel_rfl) (e := Extern.BytealgIndexByte.indexByte) (by kernel_rfl), Lib.run_indexByteString]
      simp only [Result.andThen]
      rw [Oper.upon_value]
      go_wp2
      go_ret
      exact ⟨rfl, rfl⟩
  · cases h
end Go.Av
