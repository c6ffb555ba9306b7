/- A region, told: its conditions imply that it runs as told. -/
import Derived.Test.YtlpdcjbkbcmahaaGreatDoorAvMap
import Derived.Tactics
set_option linter.unusedVariables false
set_option linter.unusedSimpArgs false
namespace Go.Av
open Go.RowKit Go.Base
variable {P : Program} {γ γ' : G} {w w' : World} {own : Nat → Prop} {hp : Nat → Option Ob} {live : Nat → Prop} {ρ : Operand → Value}

theorem qop_does (H : Hp own hp live γ w) {id : Nat} (h1 : γ.ι id = none) (h2 : γ.τ id = none) (hid : hp id = none) (hlv : ¬ live id) (hown : ∀ b, w.heap.size ≤ b → own b) {o : Oper} (e : Operand → AV)
    (hr : (∀ c a b, o.op ≠ .pick c a b) → ∀ x ∈ o.op.operands, RepA γ (e x) (ρ x)) (hpick : ∀ c a b, o.op = .pick c a b → RepA γ (e c) (ρ c) ∧ (∀ x, e c = .d (.bool x) → x = true → RepA γ (e a) (ρ a)) ∧ (∀ x, e c = .d (.bool x) → x = false → RepA γ (e b) (ρ b)))
    (hcst : ∀ v, ρ (.const v) = v) (hk : (qop P o.op e hp id).ok = true) (hob : ∀ z ∈ (qop P o.op e hp id).ob, z) (hkill : ∀ tk, (qop P o.op e hp id).kill = some tk → live tk) : Does P own hp live γ w ρ o id (qop P o.op e hp id) := by
  cases hop : o.op with
  | pick c a b =>
    rw [hop] at hr hk hob
    obtain ⟨p1, p2, p3⟩ := hpick c a b hop
    exact (stay_pick (P := P) (w := w) hop e hcst p1 p2 p3 hk hob).does H id _ rfl rfl rfl rfl rfl
  | move x => rw [hop] at hr hk hob; exact (stay_move (.inl hop) (hr (by intros; simp) x (by simp [Op.operands]))).does H id _ rfl rfl rfl rfl rfl
  | assign x => rw [hop] at hr hk hob; exact (stay_move (.inr hop) (hr (by intros; simp) x (by simp [Op.operands]))).does H id _ rfl rfl rfl rfl rfl
  | alloc t => rw [hop] at hk; exact does_alloc H h1 h2 hid hlv hown hop hk
  | box t x => rw [hop] at hr hk; exact does_box H h1 h2 hid hlv hown hop (hr (by intros; simp) x (by simp [Op.operands])) hk
  | build t parts =>
    rw [hop] at hr hk
    exact (stay_build hop e (fun p hp => hr (by intros; simp) p.2 (by simp [Op.operands]; exact ⟨p.1, by simpa using hp⟩)) hk).does H id _ rfl rfl rfl rfl rfl
  | buildSlice t len parts =>
    rw [hop] at hr hk
    exact does_buildSlice H h1 h2 hid hlv hown hop e (fun p hp => hr (by intros; simp) p.2 (by simp [Op.operands]; exact ⟨p.1, by simpa using hp⟩)) hk
  | load t a =>
    rw [hop] at hr hk hob
    simp only [qop] at hk hob ⊢
    split at hk
    · rename_i hs
      obtain ⟨d, hd⟩ := Option.isSome_iff_exists.1 hs
      simp only [hs, if_true] at hob ⊢
      exact (stay_load H hop hd (e a) (hr (by intros; simp) a (by simp [Op.operands])) hk hob).does H id _ rfl rfl rfl rfl rfl
    · cases hk
  | fieldAddr t x i => rw [hop] at hr hk; exact (stay_fieldAddr hop (hr (by intros; simp) x (by simp [Op.operands])) hk).does H id _ rfl rfl rfl rfl rfl
  | field t x i => rw [hop] at hr hk; exact (stay_field hop (hr (by intros; simp) x (by simp [Op.operands])) hk).does H id _ rfl rfl rfl rfl rfl
  | indexAddr t x i => rw [hop] at hr hk hob; exact (stay_indexAddr hop (hr (by intros; simp) x (by simp [Op.operands])) (hr (by intros; simp) i (by simp [Op.operands])) hk hob).does H id _ rfl rfl rfl rfl rfl
  | index t x i => rw [hop] at hr hk hob; exact (stay_index hop (hr (by intros; simp) x (by simp [Op.operands])) (hr (by intros; simp) i (by simp [Op.operands])) hk hob).does H id _ rfl rfl rfl rfl rfl
  | slice t x lo hi mx =>
    rw [hop] at hr hk hob
    cases mx with
    | none => exact (stay_slice hop e (hr (by intros; simp) x (by simp [Op.operands])) (fun y hy => hr (by intros; simp) y (by simp [Op.operands, hy])) (fun y hy => hr (by intros; simp) y (by simp [Op.operands, hy])) hk hob).does H id _ rfl rfl rfl rfl rfl
    | some m => cases hk
  | extract x i => rw [hop] at hr hk; exact (stay_extract hop (hr (by intros; simp) x (by simp [Op.operands])) hk).does H id _ rfl rfl rfl rfl rfl
  | binOp op t x y t2 => rw [hop] at hr hk hob; exact (stay_bin hop (hr (by intros; simp) x (by simp [Op.operands])) (hr (by intros; simp) y (by simp [Op.operands])) hk hob).does H id _ rfl rfl rfl rfl rfl
  | unOp op t x => rw [hop] at hr hk; exact (stay_un hop (hr (by intros; simp) x (by simp [Op.operands])) hk).does H id _ rfl rfl rfl rfl rfl
  | convert s t x => rw [hop] at hr hk; exact (stay_convert hop (hr (by intros; simp) x (by simp [Op.operands])) hk).does H id _ rfl rfl rfl rfl rfl
  | makeFunc fn first cap => rw [hop] at hr hk; exact (stay_makeFunc hop e (fun y hy => hr (by intros; simp) y (by simp [Op.operands, hy])) hk).does H id _ rfl rfl rfl rfl rfl
  | nilCheck x => rw [hop] at hr hk; exact (stay_nilCheck hop (hr (by intros; simp) x (by simp [Op.operands])) hk).does H id _ rfl rfl rfl rfl rfl
  | makeSlice t l c => rw [hop] at hr hk hob; exact does_makeSlice H h1 h2 hid hlv hown hop (hr (by intros; simp) l (by simp [Op.operands])) (hr (by intros; simp) c (by simp [Op.operands])) hk hob
  | makeMap t r =>
    rw [hop] at hk
    cases r with
    | none => exact does_makeMap H h1 h2 hid hlv hown hop hk
    | some r => cases hk
  | lookup t m x b =>
    rw [hop] at hr hk hob
    cases b with
    | true => exact (stay_lookup H hop (hr (by intros; simp) m (by simp [Op.operands])) (hr (by intros; simp) x (by simp [Op.operands])) hk hob).does H id _ rfl rfl rfl rfl rfl
    | false => cases hk
  | mapUpdate t m x y => rw [hop] at hr hk hob; exact does_mapUpdate H id hop (hr (by intros; simp) m (by simp [Op.operands])) (hr (by intros; simp) x (by simp [Op.operands])) (hr (by intros; simp) y (by simp [Op.operands])) hk hob
  | store t a x => rw [hop] at hr hk hob; exact does_store H id hop (hr (by intros; simp) a (by simp [Op.operands])) (hr (by intros; simp) x (by simp [Op.operands])) hk hob (.inr trivial)
  | call c =>
    rw [hop] at hr hk hob hkill
    obtain ⟨callee, args, ts⟩ := c
    cases callee with
    | builtin b =>
      have hr' : ∀ y ∈ args, RepA γ (e y) (ρ y) := fun y hy => hr (by intros; simp) y (by simp [Op.operands, Call.operands, hy])
      cases b with
      | len => exact (stay_len hop e hr' hk).does H id _ rfl rfl rfl rfl rfl
      | min => exact (stay_minMax (mx := false) hop e hr' hk).does H id _ rfl rfl rfl rfl rfl
      | max => exact (stay_minMax (mx := true) hop e hr' hk).does H id _ rfl rfl rfl rfl rfl
      | append => exact does_append H h1 h2 hid hlv hown hop e hr' hk hob hkill
      | copy => exact does_copy H id hop e hr' hk hob
      | _ => cases hk
    | _ => cases hk
  | _ => rw [hop] at hk; cases hk
end Go.Av
