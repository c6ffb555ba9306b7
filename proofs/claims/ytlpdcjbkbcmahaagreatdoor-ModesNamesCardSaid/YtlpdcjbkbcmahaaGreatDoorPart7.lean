/- A part of the proof. -/
import Derived.Test.YtlpdcjbkbcmahaaGreatDoorPart6
set_option linter.unusedVariables false
set_option linter.unusedSimpArgs false
set_option maxRecDepth 1000000
namespace Go.Av
open Ch Mo
theorem M25 (a0 : T23) : m25 a0 = ((Option.bind (Option.bind (m22 a0) fun r => some r) fun x1 => (if (!x1) = true then (some ([] : List UInt8)) else (Option.bind (((m21 (1 : Int) a0.Lateral).bind fun r3_0 => (if r3_0.length + ([32] : List UInt8).length ≤ 9223372036854775807 then ((m21 (2 : Int) a0.Vertical).bind fun r3_1 => (if (r3_0 ++ ([32] : List UInt8)).length + r3_1.length ≤ 9223372036854775807 then (if ((r3_0 ++ ([32] : List UInt8)) ++ r3_1).length + ([32] : List UInt8).length ≤ 9223372036854775807 then ((m21 (3 : Int) a0.Phase).bind fun r3_2 => (if (((r3_0 ++ ([32] : List UInt8)) ++ r3_1) ++ ([32] : List UInt8)).length + r3_2.length ≤ 9223372036854775807 then some (r3_0, r3_1, r3_2) else none)) else none) else none)) else none))) fun (x3 : ((List UInt8) × (List UInt8) × (List UInt8))) => (some ((((x3.1 ++ ([32] : List UInt8)) ++ x3.2.1) ++ ([32] : List UInt8)) ++ x3.2.2))))) : Option ((List UInt8))) := by kernel_rfl
theorem M26 (a0 : T30) : m26 a0 = ((Option.bind (Option.bind (m24 a0) fun r => some r) fun x1 => (if (!x1) = true then (some ([] : List UInt8)) else (Option.bind (((m27 (1 : Int) a0.Lateral).bind fun r3_0 => (if r3_0.length + ([32] : List UInt8).length ≤ 9223372036854775807 then ((m27 (2 : Int) a0.Vertical).bind fun r3_1 => (if (r3_0 ++ ([32] : List UInt8)).length + r3_1.length ≤ 9223372036854775807 then (if ((r3_0 ++ ([32] : List UInt8)) ++ r3_1).length + ([32] : List UInt8).length ≤ 9223372036854775807 then ((m27 (3 : Int) a0.Phase).bind fun r3_2 => (if (((r3_0 ++ ([32] : List UInt8)) ++ r3_1) ++ ([32] : List UInt8)).length + r3_2.length ≤ 9223372036854775807 then some (r3_0, r3_1, r3_2) else none)) else none) else none)) else none))) fun (x3 : ((List UInt8) × (List UInt8) × (List UInt8))) => (some ((((x3.1 ++ ([32] : List UInt8)) ++ x3.2.1) ++ ([32] : List UInt8)) ++ x3.2.2))))) : Option ((List UInt8))) := by kernel_rfl
def Mo.textN (l v p : Nat) : List UInt8 := if (!validN l v p) = true then [] else nam1.getD l [] ++ [32] ++ nam2.getD v [] ++ [32] ++ nam3.getD p []
theorem Mo.short1 : (List.range 256).all (fun n => Nat.ble (nam1.getD n []).length 100) = true := by kernel_rfl
theorem Mo.short2 : (List.range 256).all (fun n => Nat.ble (nam2.getD n []).length 100) = true := by kernel_rfl
theorem Mo.short3 : (List.range 256).all (fun n => Nat.ble (nam3.getD n []).length 100) = true := by kernel_rfl
theorem Mo.short_of {l : List (List UInt8)} (h : (List.range 256).all (fun n => Nat.ble (l.getD n []).length 100) = true) {n : Nat} (hn : n < 256) : (l.getD n []).length ≤ 100 := by
 simp only [List.all_eq_true] at h
 exact Nat.le_of_ble_eq_true (h n (List.mem_range.2 hn))
theorem Mo.texts {l v p : Nat} (hl : l < 256) (hv : v < 256) (hp : p < 256) : m25 ⟨(l : Int), (v : Int), (p : Int)⟩ = some (textN l v p) ∧ m26 ⟨(l : Int), (v : Int), (p : Int)⟩ = some (textN l v p) := by
 have s1 := short_of short1 hl
 have s2 := short_of short2 hv
 have s3 := short_of short3 hp
 have e1 := Mo.Valid_eq hl hv hp
 have e2 := rmValid_eq hl hv hp
 have a1 := mName1 hl
 have a2 := mName2 hv
 have a3 := mName3 hp
 have b1 := rName1 hl
 have b2 := rName2 hv
 have b3 := rName3 hp
 unfold textN
 generalize nam1.getD l [] = x1 at *
 generalize nam2.getD v [] = x2 at *
 generalize nam3.getD p [] = x3 at *
 generalize validN l v p = bv at *
 have c1 : (x1.length + ([32] : List UInt8).length ≤ 9223372036854775807) = True := eq_true (by simp only [List.length_append, List.length_cons, List.length_nil]; omega)
 have c2 : ((x1 ++ [32]).length + x2.length ≤ 9223372036854775807) = True := eq_true (by simp only [List.length_append, List.length_cons, List.length_nil]; omega)
 have c3 : (((x1 ++ [32]) ++ x2).length + ([32] : List UInt8).length ≤ 9223372036854775807) = True := eq_true (by simp only [List.length_append, List.length_cons, List.length_nil]; omega)
 have c4 : ((((x1 ++ [32]) ++ x2) ++ [32]).length + x3.length ≤ 9223372036854775807) = True := eq_true (by simp only [List.length_append, List.length_cons, List.length_nil]; omega)
 simp only [M25, M26, bind_id]
 generalize m22 = V1 at e1 ⊢
 generalize m24 = V2 at e2 ⊢
 generalize m21 = N1 at a1 a2 a3 ⊢
 generalize m27 = N2 at b1 b2 b3 ⊢
 cases bv with
 | false => exact ⟨by simp only [e1, bs, Bool.not_false, if_true], by simp only [e2, bs, Bool.not_false, if_true]⟩
 | true => exact ⟨by simp only [e1, a1, a2, a3, c1, c2, c3, c4, bs, Bool.not_true, Bool.false_eq_true, if_false, if_true], by simp only [e2, b1, b2, b3, c1, c2, c3, c4, bs, Bool.not_true, Bool.false_eq_true, if_false, if_true]⟩
theorem M46 (a0 : Int) : m46 a0 = ((if (a0 == 1) = true then (some ([([] : List UInt8), ([82, 79, 76, 76] : List UInt8), ([72, 69, 65, 68, 73, 78, 71] : List UInt8), ([65, 82, 77, 69, 68] : List UInt8), ([78, 65, 86] : List UInt8), ([65, 80, 80, 82, 79, 65, 67, 72] : List UInt8), ([71, 79, 65, 82, 79, 85, 78, 68] : List UInt8)] : List (List UInt8))) else (if (a0 == 2) = true then (some ([([] : List UInt8), ([72, 79, 76, 68] : List UInt8), ([67, 76, 73, 77, 66] : List UInt8), ([68, 69, 83, 67, 69, 78, 68] : List UInt8), ([83, 80, 69, 69, 68] : List UInt8), ([67, 65, 80, 84, 85, 82, 69] : List UInt8), ([80, 65, 84, 72] : List UInt8), ([71, 76, 73, 68, 69] : List UInt8), ([71, 79, 65, 82, 79, 85, 78, 68] : List UInt8)] : List (List UInt8))) else (if (a0 == 3) = true then (some ([([] : List UInt8), ([80, 82, 69, 70, 76, 84] : List UInt8), ([84, 65, 75, 69, 79, 70, 70] : List UInt8), ([67, 76, 73, 77, 66] : List UInt8), ([67, 82, 85, 73, 83, 69] : List UInt8), ([68, 69, 83, 67, 69, 78, 84] : List UInt8), ([65, 80, 80, 82, 79, 65, 67, 72] : List UInt8), ([71, 79, 65, 82, 79, 85, 78, 68] : List UInt8), ([76, 65, 78, 68, 69, 68] : List UInt8)] : List (List UInt8))) else (some [])))) : Option ((List (List UInt8)))) := by kernel_rfl
theorem Mo.names_any (a : Int) {n : Nat} (hn : n < 256) : ∃ x, m21 a (n : Int) = some x ∧ m27 a (n : Int) = some x := by
 rcases axis_cases a with h | rfl | rfl | rfl
 ·refine ⟨[], ?_, ?_⟩
  ·simp only [outB, Bool.or_eq_true, decide_eq_true_eq] at h
   have n1 : (a == (1 : Int)) = false := by rw [beq_eq_false_iff_ne]; omega
   have n2 : (a == (2 : Int)) = false := by rw [beq_eq_false_iff_ne]; omega
   have n3 : (a == (3 : Int)) = false := by rw [beq_eq_false_iff_ne]; omega
   have e : m46 a = some [] := by simp only [M46, n1, n2, n3, Bool.false_eq_true, if_false]
   have w : IntKind.wrap .i64 (n : Int) = (n : Int) := w64 (by omega) (by omega)
   have d : decide ((([] : List (List UInt8)).length : Int) ≤ (n : Int)) = true := by simp
   simp only [M21, bind_id, e, bs, w, d, if_true]
  ·have e := rChart_out h
   simp only [M27, bind_id, e, bs, show ((1 : Int) != 0) = true from rfl, if_true, or_]
 ·exact ⟨_, mName1 hn, rName1 hn⟩
 ·exact ⟨_, mName2 hn, rName2 hn⟩
 ·exact ⟨_, mName3 hn, rName3 hn⟩
def Mo.idx (l : List (List UInt8)) (w : List UInt8) : Int := findR (fun i => w == l.getD i default) l.length
theorem Mo.idx_all1 : (List.range 7).all (fun n => decide (idx nam1 (nam1.getD n []) = (n : Int)) && !(nam1.getD n []).contains 32) = true := by kernel_rfl
theorem Mo.idx_all2 : (List.range 9).all (fun n => decide (idx nam2 (nam2.getD n []) = (n : Int)) && !(nam2.getD n []).contains 32) = true := by kernel_rfl
theorem Mo.idx_all3 : (List.range 9).all (fun n => decide (idx nam3 (nam3.getD n []) = (n : Int)) && !(nam3.getD n []).contains 32) = true := by kernel_rfl
theorem Mo.idx_of {l : List (List UInt8)} {k n : Nat} (h : (List.range k).all (fun n => decide (idx l (l.getD n []) = (n : Int)) && !(l.getD n []).contains 32) = true) (hn : n < k) : idx l (l.getD n []) = (n : Int) ∧ (32 : UInt8) ∉ l.getD n [] := by
 simp only [List.all_eq_true] at h
 have := h n (List.mem_range.2 hn)
 simp only [Bool.and_eq_true, decide_eq_true_eq, Bool.not_eq_true', List.contains_eq_mem, decide_eq_false_iff_not] at this
 exact this
theorem Mo.idx_cases (l : List (List UInt8)) (w : List UInt8) : idx l w < 1 ∨ ∃ n, 1 ≤ n ∧ n < l.length ∧ w = l.getD n [] ∧ idx l w = (n : Int) := by
 unfold idx findR
 cases h : firstR (fun i => if (w == l.getD i default) = true then some (i : Int) else none) l.length with
 | none => left; decide
 | some y =>
  obtain ⟨i, hi, h⟩ := firstR_some h
  split at h
  ·rename_i he
   injection h with h; subst h
   by_cases h0 : i = 0
   ·left; subst h0; decide
   ·exact .inr ⟨i, by omega, hi, eq_of_beq he, rfl⟩
  ·cases h
def Mo.parseP (s : List UInt8) : (Int × Int × Int) × Int := match splitB 32 s with
 | [a, b, c] => if idx nam1 a < 1 then ((0, 0, 0), 4) else if idx nam2 b < 1 then ((0, 0, 0), 4) else if idx nam3 c < 1 then ((0, 0, 0), 4) else ((idx nam1 a, idx nam2 b, idx nam3 c), 0)
 | _ => ((0, 0, 0), 4)
theorem M29 (a0 : List UInt8) : m29 a0 = ((Option.bind (Option.bind (Option.bind (m49 a0 ([32] : List UInt8)) fun r => some r) fun x1 => (if ((x1.length : Int) != (3 : Int)) = true then (some (.inr (((⟨(0 : Int), (0 : Int), (0 : Int)⟩ : T23), (4 : Int))))) else (some (.inl x1)))) (onS fun (y1 : (List (List UInt8))) => (Option.bind (Option.bind (some (.inl ())) (onS fun (_ : Unit) => (Option.bind (Option.bind (some (.inl ())) (onS fun (_ : Unit) => (Option.bind (if (decide (0 < (y1.length : Int))) = true then (some (.inl ())) else (some (.inr (.inr (.inl ((0 : Int), (0 : Int), (0 : Int))))))) (onS fun (_ : Unit) => (Option.bind (Option.bind (if ((0 : Int) ≤ (0 : Int)) then (if (0 < (y1.length : Int)) then (Option.bind (((m46 (1 : Int)).bind fun r8_0 => ((m50 r8_0 (y1.getD (0 : Int).toNat default)).bind fun r8_1 => some (r8_0, r8_1)))) fun (x8 : ((List (List UInt8)) × Int)) => (some (.inl x8.2))) else none) else none) (onS fun (y2 : Int) => (Option.bind (Option.bind (some (.inl ())) (onS fun (_ : Unit) => (if (decide (y2 < 1)) = true then (some (.inr (.inr (.inr (.inr (((⟨(0 : Int), (0 : Int), (0 : Int)⟩ : T23), (4 : Int)))))))) else (some (.inl ()))))) (onS fun (_ : Unit) => (some (.inl (IntKind.wrap .u8 (y2)))))))) (onS fun (y3 : Int) => (some (.inl y3)))))))) (onS fun (y4 : Int) => (Option.bind (Option.bind (some (.inl ())) (onS fun (_ : Unit) => (Option.bind (if (decide (1 < (y1.length : Int))) = true then (some (.inl ())) else (some (.inr (.inr (.inl (y4, (0 : Int), (0 : Int))))))) (onS fun (_ : Unit) => (Option.bind (Option.bind (if ((0 : Int) ≤ (1 : Int)) then (if (1 < (y1.length : Int)) then (Option.bind (((m46 (2 : Int)).bind fun r8_0 => ((m50 r8_0 (y1.getD (1 : Int).toNat default)).bind fun r8_1 => some (r8_0, r8_1)))) fun (x8 : ((List (List UInt8)) × Int)) => (some (.inl x8.2))) else none) else none) (onS fun (y5 : Int) => (Option.bind (Option.bind (some (.inl ())) (onS fun (_ : Unit) => (if (decide (y5 < 1)) = true then (some (.inr (.inr (.inr (.inr (((⟨(0 : Int), (0 : Int), (0 : Int)⟩ : T23), (4 : Int)))))))) else (some (.inl ()))))) (onS fun (_ : Unit) => (some (.inl (IntKind.wrap .u8 (y5)))))))) (onS fun (y6 : Int) => (some (.inl y6)))))))) (onS fun (y7 : Int) => (Option.bind (Option.bind (some (.inl ())) (onS fun (_ : Unit) => (Option.bind (if (decide (2 < (y1.length : Int))) = true then (some (.inl ())) else (some (.inr (.inr (.inl (y4, y7, (0 : Int))))))) (onS fun (_ : Unit) => (Option.bind (Option.bind (if ((0 : Int) ≤ (2 : Int)) then (if (2 < (y1.length : Int)) then (Option.bind (((m46 (3 : Int)).bind fun r8_0 => ((m50 r8_0 (y1.getD (2 : Int).toNat default)).bind fun r8_1 => some (r8_0, r8_1)))) fun (x8 : ((List (List UInt8)) × Int)) => (some (.inl x8.2))) else none) else none) (onS fun (y8 : Int) => (Option.bind (Option.bind (some (.inl ())) (onS fun (_ : Unit) => (if (decide (y8 < 1)) = true then (some (.inr (.inr (.inr (.inr (((⟨(0 : Int), (0 : Int), (0 : Int)⟩ : T23), (4 : Int)))))))) else (some (.inl ()))))) (onS fun (_ : Unit) => (some (.inl (IntKind.wrap .u8 (y8)))))))) (onS fun (y9 : Int) => (some (.inl y9)))))))) (onS fun (y10 : Int) => (Option.bind (Option.bind (some (.inl ())) (onS fun (_ : Unit) => (Option.bind (if (decide (3 < (y1.length : Int))) = true then (some (.inl ())) else (some (.inr (.inr (.inl (y4, y7, y10)))))) (onS fun (_ : Unit) => (Option.bind (Option.bind (if ((0 : Int) ≤ (3 : Int)) then (if (3 < (y1.length : Int)) then (Option.bind (((m46 (4 : Int)).bind fun r8_0 => ((m50 r8_0 (y1.getD (3 : Int).toNat default)).bind fun r8_1 => some (r8_0, r8_1)))) fun (x8 : ((List (List UInt8)) × Int)) => (some (.inl x8.2))) else none) else none) (onS fun (y11 : Int) => (Option.bind (Option.bind (some (.inl ())) (onS fun (_ : Unit) => (if (decide (y11 < 1)) = true then (some (.inr (.inr (.inr (.inr (((⟨(0 : Int), (0 : Int), (0 : Int)⟩ : T23), (4 : Int)))))))) else (some (.inl ()))))) (onS fun (_ : Unit) => none)))) onE))))) onE))))))))) (onS fun (y12 : Int × Int × Int) => (some ((⟨y12.1, y12.2.1, y12.2.2⟩ : T23), (0 : Int))))))) : Option (T23 × Int)) := by kernel_rfl
theorem Mo.Parse_eqM (s : List UInt8) (hs : s.length ≤ 1000000) : m29 s = some (⟨(parseP s).1.1, (parseP s).1.2.1, (parseP s).1.2.2⟩, (parseP s).2) := by
 have e0 := Split_eq s 32 hs
 have m1 := modes1
 have m2 := modes2
 have m3 := modes3
 have i1 : ∀ w, m50 nam1 w = some (idx nam1 w) := fun w => indexS_eq nam1 w (by decide)
 have i2 : ∀ w, m50 nam2 w = some (idx nam2 w) := fun w => indexS_eq nam2 w (by decide)
 have i3 : ∀ w, m50 nam3 w = some (idx nam3 w) := fun w => indexS_eq nam3 w (by decide)
 have k1 : ∀ w, ¬ idx nam1 w < 1 → IntKind.wrap .u8 (idx nam1 w) = idx nam1 w := fun w h => by
  rcases idx_cases nam1 w with h' | ⟨n, h1, h2, _, h3⟩
  ·exact absurd h' h
  ·have : nam1.length = 7 := by decide
   exact IntWalk.u8_in _ (by omega)
 have k2 : ∀ w, ¬ idx nam2 w < 1 → IntKind.wrap .u8 (idx nam2 w) = idx nam2 w := fun w h => by
  rcases idx_cases nam2 w with h' | ⟨n, h1, h2, _, h3⟩
  ·exact absurd h' h
  ·have : nam2.length = 9 := by decide
   exact IntWalk.u8_in _ (by omega)
 have k3 : ∀ w, ¬ idx nam3 w < 1 → IntKind.wrap .u8 (idx nam3 w) = idx nam3 w := fun w h => by
  rcases idx_cases nam3 w with h' | ⟨n, h1, h2, _, h3⟩
  ·exact absurd h' h
  ·have : nam3.length = 9 := by decide
   exact IntWalk.u8_in _ (by omega)
 unfold parseP
 simp only [M29, bind_id]
 generalize splitB 32 s = l at *
 generalize m49 = S at e0 ⊢
 generalize m46 = F at m1 m2 m3 ⊢
 generalize m50 = I at i1 i2 i3 ⊢
 generalize hn1 : nam1 = n1 at *
 generalize hn2 : nam2 = n2 at *
 generalize hn3 : nam3 = n3 at *
 by_cases h3 : l.length = 3
 ·match l, h3 with
  | [a, b, c], _ =>
   have d0 : ((([a, b, c] : List (List UInt8)).length : Int) != 3) = false := rfl
   have d1 : decide (0 < (([a, b, c] : List (List UInt8)).length : Int)) = true := rfl
   have d2 : decide (1 < (([a, b, c] : List (List UInt8)).length : Int)) = true := rfl
   have d3 : decide (2 < (([a, b, c] : List (List UInt8)).length : Int)) = true := rfl
   have d4 : decide (3 < (([a, b, c] : List (List UInt8)).length : Int)) = false := rfl
   have q1 : (0 < (([a, b, c] : List (List UInt8)).length : Int)) = True := eq_true (show 0 < ((3 : Nat) : Int) by omega)
   have q2 : (1 < (([a, b, c] : List (List UInt8)).length : Int)) = True := eq_true (show 1 < ((3 : Nat) : Int) by omega)
   have q3 : (2 < (([a, b, c] : List (List UInt8)).length : Int)) = True := eq_true (show 2 < ((3 : Nat) : Int) by omega)
   have p0 : ((0 : Int) ≤ (0 : Int)) = True := eq_true (by decide)
   have p1 : ((0 : Int) ≤ (1 : Int)) = True := eq_true (by decide)
   have p2 : ((0 : Int) ≤ (2 : Int)) = True := eq_true (by decide)
   have g0 : ([a, b, c] : List (List UInt8)).getD (0 : Int).toNat default = a := rfl
   have g1 : ([a, b, c] : List (List UInt8)).getD (1 : Int).toNat default = b := rfl
   have g2 : ([a, b, c] : List (List UInt8)).getD (2 : Int).toNat default = c := rfl
   simp only [e0, bs, ol, or_, oe, d0, d1, d2, d3, d4, q1, q2, q3, p0, p1, p2, g0, g1, g2, m1, m2, m3, i1, i2, i3, Bool.false_eq_true, if_false, if_true]
   by_cases x1 : idx n1 a < 1
   ·simp only [x1, decide_true, if_true, bs, or_, oe, ol]
   ·by_cases x2 : idx n2 b < 1
    ·simp only [x1, x2, decide_true, decide_false, Bool.false_eq_true, if_false, if_true, bs, or_, oe, ol]
    ·by_cases x3 : idx n3 c < 1
     ·simp only [x1, x2, x3, decide_true, decide_false, Bool.false_eq_true, if_false, if_true, bs, or_, oe, ol]
     ·simp only [x1, x2, x3, decide_true, decide_false, Bool.false_eq_true, if_false, if_true, bs, or_, oe, ol, k1 a x1, k2 b x2, k3 c x3]
 ·have d0 : ((l.length : Int) != 3) = true := by simp; omega
  simp only [e0, bs, d0, if_true, or_]
  match l, h3 with
  | [], _ => rfl
  | [_], _ => rfl
  | [_, _], _ => rfl
  | [_, _, _], h => exact absurd rfl h
  | _ :: _ :: _ :: _ :: _, _ => rfl
theorem M51 (a0 : Int) : m51 a0 = ((Option.bind (Option.bind (Option.bind (m37 a0) fun r => some r) fun x1 => (some (.inl (x1.1.Name, x1.1.Conds, x1.1.Never, x1.1.States, x1.1.Start, x1.1.Transitions)))) (onS fun (y1 : (List UInt8) × (List (List UInt8)) × (List (List T176)) × (List T57) × Int × (List T119)) => (Option.bind (Option.bind (Option.bind (Option.bind (m48 (⟨y1.1, y1.2.1, y1.2.2.1, y1.2.2.2.1, y1.2.2.2.2.1, y1.2.2.2.2.2⟩ : T48)) fun r => some r) fun x3 => (some (.inl (x3, (x3.length : Int))))) (onS fun (y2 : (List Int) × Int) => (loopO (fun (s3 : (List (List UInt8)) × Int) => ((if (decide (s3.2 < y2.2)) = true then (if (0 ≤ s3.2) then (if (s3.2 < (y2.1.length : Int)) then (if (0 ≤ (y2.1.getD s3.2.toNat default)) then (if ((y2.1.getD s3.2.toNat default) < (y1.2.2.2.1.length : Int)) then (if ((s3.1.length + 1) * 16 ≤ 140737488355328) then (some (.inl ((s3.1 ++ ([(y1.2.2.2.1.getD (y2.1.getD s3.2.toNat default).toNat default).Name] : List (List UInt8))), (IntKind.wrap .i64 (s3.2 + 1))))) else none) else none) else none) else none) else none) else (some (.inr (.inl s3.1)))) : Option (((List (List UInt8)) × Int) ⊕ (((List (List UInt8))) ⊕ ((List (List UInt8))))))) ([], (0 : Int))))) (onS fun (y4 : (List (List UInt8))) => (some y4))))) : Option ((List (List UInt8)))) := by kernel_rfl
theorem Mo.rn1 : m51 1 = some nam1.tail := by
 have h := rread1
 simp only [M51, bind_id, h, bs, ol, etaC]
 show _ = some _
 kernel_rfl
theorem Mo.rn2 : m51 2 = some nam2.tail := by
 have h := rread2
 simp only [M51, bind_id, h, bs, ol, etaC]
 show _ = some _
 kernel_rfl
theorem Mo.rn3 : m51 3 = some nam3.tail := by
 have h := rread3
 simp only [M51, bind_id, h, bs, ol, etaC]
 show _ = some _
 kernel_rfl
theorem M30 (a0 : List UInt8) : m30 a0 = ((Option.bind (some (.inl ())) (onS fun (_ : Unit) => (Option.bind (Option.bind (Option.bind (Option.bind (m51 (1 : Int)) fun r => some r) fun x1 => (some (.inl (x1, (x1.length : Int))))) (onS fun (y1 : (List (List UInt8)) × Int) => (loopO (fun (s2 : Int) => ((Option.bind (if (decide (s2 < y1.2)) = true then (some (.inl ())) else (some (.inr (.inr (.inl ()))))) (onS fun (_ : Unit) => (Option.bind (Option.bind (if (0 ≤ s2) then (if (s2 < (y1.1.length : Int)) then (Option.bind (Option.bind (m51 (2 : Int)) fun r => some r) fun x4 => (some (.inl (x4, (x4.length : Int))))) else none) else none) (onS fun (y3 : (List (List UInt8)) × Int) => (loopO (fun (s4 : Int) => ((Option.bind (if (decide (s4 < y3.2)) = true then (some (.inl ())) else (some (.inr (.inr (.inl ()))))) (onS fun (_ : Unit) => (Option.bind (Option.bind (if (0 ≤ s4) then (if (s4 < (y3.1.length : Int)) then (Option.bind (Option.bind (m51 (3 : Int)) fun r => some r) fun x7 => (some (.inl (x7, (x7.length : Int))))) else none) else none) (onS fun (y5 : (List (List UInt8)) × Int) => (loopO (fun (s6 : Int) => ((if (decide (s6 < y5.2)) = true then (if (0 ≤ s6) then (if (s6 < (y5.1.length : Int)) then (if ((y1.1.getD s2.toNat default).length + ([32] : List UInt8).length ≤ 9223372036854775807) then (if (((y1.1.getD s2.toNat default) ++ ([32] : List UInt8)).length + (y3.1.getD s4.toNat default).length ≤ 9223372036854775807) then (if ((((y1.1.getD s2.toNat default) ++ ([32] : List UInt8)) ++ (y3.1.getD s4.toNat default)).length + ([32] : List UInt8).length ≤ 9223372036854775807) then (if (((((y1.1.getD s2.toNat default) ++ ([32] : List UInt8)) ++ (y3.1.getD s4.toNat default)) ++ ([32] : List UInt8)).length + (y5.1.getD s6.toNat default).length ≤ 9223372036854775807) then (if ((((((y1.1.getD s2.toNat default) ++ ([32] : List UInt8)) ++ (y3.1.getD s4.toNat default)) ++ ([32] : List UInt8)) ++ (y5.1.getD s6.toNat default)) == a0) = true then (some (.inr (.inr (.inr (.inr (.inr (.inr (((⟨(IntKind.wrap .u8 ((IntKind.wrap .i64 (s2 + 1)))), (IntKind.wrap .u8 ((IntKind.wrap .i64 (s4 + 1)))), (IntKind.wrap .u8 ((IntKind.wrap .i64 (s6 + 1))))⟩ : T30), (0 : Int)))))))))) else (some (.inl (IntKind.wrap .i64 (s6 + 1))))) else none) else none) else none) else none) else none) else none) else (some (.inr (.inl ())))) : Option ((Int) ⊕ ((Unit) ⊕ ((Int) ⊕ ((Unit) ⊕ ((Int) ⊕ ((Unit) ⊕ (T30 × Int))))))))) (0 : Int)))) (onS fun (_ : Unit) => (some (.inl (IntKind.wrap .i64 (s4 + 1)))))))) : Option ((Int) ⊕ ((Unit) ⊕ ((Int) ⊕ ((Unit) ⊕ (T30 × Int))))))) (0 : Int)))) (onS fun (_ : Unit) => (some (.inl (IntKind.wrap .i64 (s2 + 1)))))))) : Option ((Int) ⊕ ((Unit) ⊕ (T30 × Int))))) (0 : Int)))) (onS fun (_ : Unit) => (some ((⟨(0 : Int), (0 : Int), (0 : Int)⟩ : T30), (4 : Int))))))) : Option (T30 × Int)) := by kernel_rfl
def Mo.glue (a b c : List UInt8) : List UInt8 := a ++ [32] ++ b ++ [32] ++ c
theorem Mo.glue_iff {a b c s : List UInt8} (ha : (32 : UInt8) ∉ a) (hb : (32 : UInt8) ∉ b) (hc : (32 : UInt8) ∉ c) : glue a b c = s ↔ splitB 32 s = [a, b, c] := by
 constructor
 ·rintro rfl
  have : glue a b c = a ++ 32 :: (b ++ 32 :: c) := by simp [glue]
  rw [this, splitB_join ha, splitB_join hb, splitB_self hc]
 ·intro h
  rcases splitB_glue h with ⟨h1, _⟩ | ⟨t, h1, h2⟩
  ·cases h1
  ·rcases splitB_glue h2 with ⟨h3, _⟩ | ⟨u, h3, h4⟩
   ·cases h3
   ·rcases splitB_glue h4 with ⟨_, h5⟩ | ⟨w, h5, h6⟩
    ·rw [h1, h3, h5]; simp [glue]
    ·obtain ⟨x, y, h7⟩ := splitB_ne 32 w
     rw [h7] at h6; cases h6
def Mo.rF (s : List UInt8) (i j k : Nat) : Option (T30 × Int) := if (glue (nam1.getD (i + 1) []) (nam2.getD (j + 1) []) (nam3.getD (k + 1) []) == s) = true then some (⟨((i + 1 : Nat) : Int), ((j + 1 : Nat) : Int), ((k + 1 : Nat) : Int)⟩, 0) else none
def Mo.rR (s : List UInt8) : Option (T30 × Int) := firstR (fun i => firstR (fun j => firstR (fun k => rF s i j k) 8) 8) 6
theorem Mo.getD_tail (l : List (List UInt8)) (i : Nat) : l.tail.getD i default = l.getD (i + 1) [] := by cases l <;> rfl
theorem Mo.rmParse_loop (s : List UInt8) : m30 s = orK (rR s) (some (⟨0, 0, 0⟩, 4)) := by
 have h1 := rn1
 have h2 := rn2
 have h3 := rn3
 have l1 : nam1.tail.length = 6 := by decide
 have l2 : nam2.tail.length = 8 := by decide
 have l3 : nam3.tail.length = 8 := by decide
 have s1 : ∀ i, i < 6 → (nam1.getD (i + 1) []).length ≤ 100 := fun i hi => short_of short1 (by omega)
 have s2 : ∀ i, i < 8 → (nam2.getD (i + 1) []).length ≤ 100 := fun i hi => short_of short2 (by omega)
 have s3 : ∀ i, i < 8 → (nam3.getD (i + 1) []).length ≤ 100 := fun i hi => short_of short3 (by omega)
 have t1 := getD_tail nam1
 have t2 := getD_tail nam2
 have t3 := getD_tail nam3
 unfold rR rF
 simp only [M30, bind_id]
 generalize m51 = F at h1 h2 h3 ⊢
 generalize hn1 : nam1 = n1 at *
 generalize hn2 : nam2 = n2 at *
 generalize hn3 : nam3 = n3 at *
 simp only [h1, bs, ol, l1]
 refine loop_or 6 _ (fun i hi => ?_) (by (simp only [lt_irr, decide_false, Bool.false_eq_true, if_false]; try rfl)) rfl
 have i6 : decide ((i : Int) < ((6 : Nat) : Int)) = true := by simp; omega
 have i6' : ((i : Int) < ((6 : Nat) : Int)) = True := eq_true (by omega)
 have i0 : ((0 : Int) ≤ (i : Int)) = True := eq_true (by omega)
 have wi : IntKind.wrap .i64 ((i : Int) + 1) = ((i + 1 : Nat) : Int) := w64 (by omega) (by omega)
 simp only [i6, i6', i0, l1, if_true, bs, ol, h2, l2]
 rw [loop_ex0 8 (fun j => (firstR (fun k => if (glue (n1.getD (i + 1) []) (n2.getD (j + 1) []) (n3.getD (k + 1) []) == s) = true then some (⟨((i + 1 : Nat) : Int), ((j + 1 : Nat) : Int), ((k + 1 : Nat) : Int)⟩, 0) else none) 8).map fun r => (.inr (.inr r))) (fun j hj => ?_) (by (simp only [lt_irr, decide_false, Bool.false_eq_true, if_false]; try rfl))]
 ·have key : ∀ (f : Nat → Option (T30 × Int)) (n : Nat), firstR (fun j => (f j).map fun r => (Sum.inr (Sum.inr r) : Int ⊕ (Unit ⊕ (T30 × Int)))) n = (firstR f n).map fun r => Sum.inr (Sum.inr r) := fun f n => by
   unfold firstR
   induction List.range n with
   | nil => rfl
   | cons j l ih =>
    simp only [List.findSome?_cons]
    cases f j with
    | some y => rfl
    | none => exact ih
  rw [key]
  generalize firstR (fun j => firstR (fun k => if (glue (n1.getD (i + 1) []) (n2.getD (j + 1) []) (n3.getD (k + 1) []) == s) = true then some ((⟨((i + 1 : Nat) : Int), ((j + 1 : Nat) : Int), ((k + 1 : Nat) : Int)⟩ : T30), (0 : Int)) else none) 8) 8 = o
  cases o with
  | none => simp only [Option.map_none, bs, ol, wi]; rfl
  | some y => simp only [Option.map_some, bs, or_]; rfl
 ·have j8 : decide ((j : Int) < ((8 : Nat) : Int)) = true := by simp; omega
  have j8' : ((j : Int) < ((8 : Nat) : Int)) = True := eq_true (by omega)
  have j0 : ((0 : Int) ≤ (j : Int)) = True := eq_true (by omega)
  have wj : IntKind.wrap .i64 ((j : Int) + 1) = ((j + 1 : Nat) : Int) := w64 (by omega) (by omega)
  simp only [j8, j8', j0, l2, if_true, bs, ol, h3, l3]
  rw [loop_ex0 8 (fun k => (if (glue (n1.getD (i + 1) []) (n2.getD (j + 1) []) (n3.getD (k + 1) []) == s) = true then some ((⟨((i + 1 : Nat) : Int), ((j + 1 : Nat) : Int), ((k + 1 : Nat) : Int)⟩ : T30), (0 : Int)) else none).map fun r => (.inr (.inr (.inr (.inr r))))) (fun k hk => ?_) (by (simp only [lt_irr, decide_false, Bool.false_eq_true, if_false]; try rfl))]
  ·have key : ∀ (f : Nat → Option (T30 × Int)) (n : Nat), firstR (fun j => (f j).map fun r => (Sum.inr (Sum.inr (Sum.inr (Sum.inr r))) : Int ⊕ (Unit ⊕ (Int ⊕ (Unit ⊕ (T30 × Int)))))) n = (firstR f n).map fun r => Sum.inr (Sum.inr (Sum.inr (Sum.inr r))) := fun f n => by
    unfold firstR
    induction List.range n with
    | nil => rfl
    | cons j l ih =>
     simp only [List.findSome?_cons]
     cases f j with
     | some y => rfl
     | none => exact ih
   rw [key]
   generalize firstR (fun k => if (glue (n1.getD (i + 1) []) (n2.getD (j + 1) []) (n3.getD (k + 1) []) == s) = true then some ((⟨((i + 1 : Nat) : Int), ((j + 1 : Nat) : Int), ((k + 1 : Nat) : Int)⟩ : T30), (0 : Int)) else none) 8 = o
   cases o with
   | none => simp only [Option.map_none, bs, ol, wj]; rfl
   | some y => simp only [Option.map_some, bs, or_]; rfl
  ·have k8 : decide ((k : Int) < ((8 : Nat) : Int)) = true := by simp; omega
   have k8' : ((k : Int) < ((8 : Nat) : Int)) = True := eq_true (by omega)
   have k0 : ((0 : Int) ≤ (k : Int)) = True := eq_true (by omega)
   have wk : IntKind.wrap .i64 ((k : Int) + 1) = ((k + 1 : Nat) : Int) := w64 (by omega) (by omega)
   have u1 := s1 i hi
   have u2 := s2 j hj
   have u3 := s3 k hk
   have c1 : ((n1.getD (i + 1) []).length + ([32] : List UInt8).length ≤ 9223372036854775807) = True := eq_true (by simp only [List.length_append, List.length_cons, List.length_nil]; omega)
   have c2 : ((n1.getD (i + 1) [] ++ [32]).length + (n2.getD (j + 1) []).length ≤ 9223372036854775807) = True := eq_true (by simp only [List.length_append, List.length_cons, List.length_nil]; omega)
   have c3 : (((n1.getD (i + 1) [] ++ [32]) ++ n2.getD (j + 1) []).length + ([32] : List UInt8).length ≤ 9223372036854775807) = True := eq_true (by simp only [List.length_append, List.length_cons, List.length_nil]; omega)
   have c4 : ((((n1.getD (i + 1) [] ++ [32]) ++ n2.getD (j + 1) []) ++ [32]).length + (n3.getD (k + 1) []).length ≤ 9223372036854775807) = True := eq_true (by simp only [List.length_append, List.length_cons, List.length_nil]; omega)
   have b1 : IntKind.wrap .u8 ((i + 1 : Nat) : Int) = ((i + 1 : Nat) : Int) := IntWalk.u8_in _ (by omega)
   have b2 : IntKind.wrap .u8 ((j + 1 : Nat) : Int) = ((j + 1 : Nat) : Int) := IntWalk.u8_in _ (by omega)
   have b3 : IntKind.wrap .u8 ((k + 1 : Nat) : Int) = ((k + 1 : Nat) : Int) := IntWalk.u8_in _ (by omega)
   have hg : (n1.getD (i + 1) [] ++ [32] ++ n2.getD (j + 1) [] ++ [32] ++ n3.getD (k + 1) []) = glue (n1.getD (i + 1) []) (n2.getD (j + 1) []) (n3.getD (k + 1) []) := rfl
   simp only [k8, k8', k0, l3, if_true, Int.toNat_natCast, t1, t2, t3, c1, c2, c3, c4, wi, wj, wk, b1, b2, b3, hg]
   cases (glue (n1.getD (i + 1) []) (n2.getD (j + 1) []) (n3.getD (k + 1) []) == s) <;> rfl
theorem Mo.rmParse_eq (s : List UInt8) : m30 s = some (⟨(parseP s).1.1, (parseP s).1.2.1, (parseP s).1.2.2⟩, (parseP s).2) := by
 rw [rmParse_loop]
 have l1 : nam1.length = 7 := by decide
 have l2 : nam2.length = 9 := by decide
 have l3 : nam3.length = 9 := by decide
 have hF : ∀ {i j k : Nat}, i < 6 → j < 8 → k < 8 → (rF s i j k = some (⟨((i + 1 : Nat) : Int), ((j + 1 : Nat) : Int), ((k + 1 : Nat) : Int)⟩, 0) ∧ splitB 32 s = [nam1.getD (i + 1) [], nam2.getD (j + 1) [], nam3.getD (k + 1) []]) ∨ (rF s i j k = none ∧ splitB 32 s ≠ [nam1.getD (i + 1) [], nam2.getD (j + 1) [], nam3.getD (k + 1) []]) := fun {i j k} hi hj hk => by
  have g := glue_iff (s := s) (idx_of idx_all1 (show i + 1 < 7 by omega)).2 (idx_of idx_all2 (show j + 1 < 9 by omega)).2 (idx_of idx_all3 (show k + 1 < 9 by omega)).2
  unfold rF
  by_cases h : glue (nam1.getD (i + 1) []) (nam2.getD (j + 1) []) (nam3.getD (k + 1) []) = s
  ·exact .inl ⟨by rw [if_pos (by simpa using h)], g.1 h⟩
  ·exact .inr ⟨by rw [if_neg (by simpa using h)], fun e => h (g.2 e)⟩
 by_cases hall : ∃ i j k, i < 6 ∧ j < 8 ∧ k < 8 ∧ splitB 32 s = [nam1.getD (i + 1) [], nam2.getD (j + 1) [], nam3.getD (k + 1) []]
 ·obtain ⟨i, j, k, hi, hj, hk, he⟩ := hall
  have x1 := (idx_of idx_all1 (show i + 1 < 7 by omega)).1
  have x2 := (idx_of idx_all2 (show j + 1 < 9 by omega)).1
  have x3 := (idx_of idx_all3 (show k + 1 < 9 by omega)).1
  have uni : ∀ {a b c : Nat}, a < 6 → b < 8 → c < 8 → splitB 32 s = [nam1.getD (a + 1) [], nam2.getD (b + 1) [], nam3.getD (c + 1) []] → a = i ∧ b = j ∧ c = k := fun {a b c} ha hb hc h => by
   rw [he] at h
   simp only [List.cons.injEq, and_true] at h
   have y1 := (idx_of idx_all1 (show a + 1 < 7 by omega)).1
   have y2 := (idx_of idx_all2 (show b + 1 < 9 by omega)).1
   have y3 := (idx_of idx_all3 (show c + 1 < 9 by omega)).1
   rw [← h.1, x1] at y1
   rw [← h.2.1, x2] at y2
   rw [← h.2.2, x3] at y3
   omega
  have z3 : firstR (fun k => rF s i j k) 8 = some (⟨((i + 1 : Nat) : Int), ((j + 1 : Nat) : Int), ((k + 1 : Nat) : Int)⟩, 0) := by
   refine firstR_at hk (fun c hc => ?_) ?_
   ·rcases hF hi hj (show c < 8 by omega) with ⟨_, h⟩ | ⟨h, _⟩
    ·have := uni hi hj (by omega) h; omega
    ·exact h
   ·rcases hF hi hj hk with ⟨h, _⟩ | ⟨_, h⟩
    ·exact h
    ·exact absurd he h
  have z2 : firstR (fun j => firstR (fun k => rF s i j k) 8) 8 = some (⟨((i + 1 : Nat) : Int), ((j + 1 : Nat) : Int), ((k + 1 : Nat) : Int)⟩, 0) := by
   refine firstR_at hj (fun b hb => firstR_none.2 fun c hc => ?_) z3
   rcases hF hi (show b < 8 by omega) hc with ⟨_, h⟩ | ⟨h, _⟩
   ·have := uni hi (by omega) hc h; omega
   ·exact h
  have z1 : rR s = some (⟨((i + 1 : Nat) : Int), ((j + 1 : Nat) : Int), ((k + 1 : Nat) : Int)⟩, 0) := by
   refine firstR_at hi (fun a ha => firstR_none.2 fun b hb => firstR_none.2 fun c hc => ?_) z2
   rcases hF (show a < 6 by omega) hb hc with ⟨_, h⟩ | ⟨h, _⟩
   ·have := uni (by omega) hb hc h; omega
   ·exact h
  rw [z1, orK_some]
  unfold parseP
  rw [he]
  simp only [x1, x2, x3]
  rw [if_neg (by omega), if_neg (by omega), if_neg (by omega)]
 ·have z1 : rR s = none := firstR_none.2 fun i hi => firstR_none.2 fun j hj => firstR_none.2 fun k hk => by
   rcases hF hi hj hk with ⟨_, h⟩ | ⟨h, _⟩
   ·exact absurd ⟨i, j, k, hi, hj, hk, h⟩ hall
   ·exact h
  rw [z1, orK_none]
  have hp : parseP s = ((0, 0, 0), 4) := by
   unfold parseP
   split
   ·rename_i a b c he
    rcases idx_cases nam1 a with h | ⟨i, i1, i2, i3, _⟩
    ·rw [if_pos h]
    ·by_cases q1 : idx nam1 a < 1
     ·rw [if_pos q1]
     ·rw [if_neg q1]
      rcases idx_cases nam2 b with h | ⟨j, j1, j2, j3, _⟩
      ·rw [if_pos h]
      ·by_cases q2 : idx nam2 b < 1
       ·rw [if_pos q2]
       ·rw [if_neg q2]
        rcases idx_cases nam3 c with h | ⟨k, k1, k2, k3, _⟩
        ·rw [if_pos h]
        ·exfalso
         apply hall
         refine ⟨i - 1, j - 1, k - 1, by omega, by omega, by omega, ?_⟩
         rw [he, show i - 1 + 1 = i by omega, show j - 1 + 1 = j by omega, show k - 1 + 1 = k by omega, i3, j3, k3]
   ·rfl
  rw [hp]
theorem Mo.parse_text {l v p : Nat} (h : validN l v p = true) : parseP (textN l v p) = (((l : Int), (v : Int), (p : Int)), 0) := by
 have hv := h
 simp only [validN, Bool.and_eq_true, decide_eq_true_eq] at hv
 have x1 := idx_of idx_all1 (show l < 7 by omega)
 have x2 := idx_of idx_all2 (show v < 9 by omega)
 have x3 := idx_of idx_all3 (show p < 9 by omega)
 have e : splitB 32 (textN l v p) = [nam1.getD l [], nam2.getD v [], nam3.getD p []] := by
  refine (glue_iff x1.2 x2.2 x3.2).1 ?_
  unfold textN glue
  rw [h]; rfl
 unfold parseP
 rw [e]
 simp only [x1.1, x2.1, x3.1]
 rw [if_neg (by omega), if_neg (by omega), if_neg (by omega)]
theorem M13 (a0 : T23) : m13 a0 = ((some (⟨a0.Lateral, a0.Vertical, a0.Phase⟩ : T30)) : Option (T30)) := by kernel_rfl
theorem M14 (a0 : T30) : m14 a0 = ((some (⟨a0.Lateral, a0.Vertical, a0.Phase⟩ : T23)) : Option (T23)) := by kernel_rfl
theorem M28 : m28  = ((some (⟨(1 : Int), (1 : Int), (1 : Int)⟩ : T30)) : Option (T30)) := by kernel_rfl
theorem M6 (a0 : T23) (a1 : Int) (a2 : List UInt8) : m6 a0 a1 a2 = ((Option.bind (Option.bind (m10) fun r => some r) fun x1 => (if (!x1) = true then (some false) else (if (0 ≤ (if 60 < (a2.length : Int) then (60 : Int) else (a2.length : Int))) then (if ((if 60 < (a2.length : Int) then (60 : Int) else (a2.length : Int)) ≤ (a2.length : Int)) then (Option.bind (((m22 a0).bind fun r4_0 => ((m13 a0).bind fun r4_1 => ((m24 r4_1).bind fun r4_2 => ((if (!(r4_0 != r4_2)) = true then m25 a0 else some default).bind fun r4_3 => ((if (!(r4_0 != r4_2)) = true then m13 a0 else some default).bind fun r4_4 => ((if (!(r4_0 != r4_2)) = true then m26 r4_4 else some default).bind fun r4_5 => ((if (!((r4_0 != r4_2) || (r4_3 != r4_5))) = true then m21 a1 a0.Lateral else some default).bind fun r4_6 => ((if (!((r4_0 != r4_2) || (r4_3 != r4_5))) = true then m27 a1 a0.Lateral else some default).bind fun r4_7 => ((if (!(((r4_0 != r4_2) || (r4_3 != r4_5)) || (r4_6 != r4_7))) = true then m17  else some default).bind fun r4_8 => ((if (!(((r4_0 != r4_2) || (r4_3 != r4_5)) || (r4_6 != r4_7))) = true then m28  else some default).bind fun r4_9 => ((if (!(((r4_0 != r4_2) || (r4_3 != r4_5)) || (r4_6 != r4_7))) = true then m14 r4_9 else some default).bind fun r4_10 => some (r4_0, r4_1, r4_2, r4_3, r4_4, r4_5, r4_6, r4_7, r4_8, r4_9, r4_10))))))))))))) fun (x4 : (Bool × T30 × Bool × (List UInt8) × T30 × (List UInt8) × (List UInt8) × (List UInt8) × T23 × T30 × T23)) => (if ((((x4.1 != x4.2.2.1) || (x4.2.2.2.1 != x4.2.2.2.2.2.1)) || (x4.2.2.2.2.2.2.1 != x4.2.2.2.2.2.2.2.1)) || (!((x4.2.2.2.2.2.2.2.2.1.Lateral == x4.2.2.2.2.2.2.2.2.2.2.Lateral) && ((x4.2.2.2.2.2.2.2.2.1.Vertical == x4.2.2.2.2.2.2.2.2.2.2.Vertical) && ((x4.2.2.2.2.2.2.2.2.1.Phase == x4.2.2.2.2.2.2.2.2.2.2.Phase) && true))))) = true then (some false) else (Option.bind (Option.bind (m22 a0) fun r => some r) fun x6 => (if x6 = true then (Option.bind (((m25 a0).bind fun r7_0 => ((m29 r7_0).bind fun r7_1 => some (r7_0, r7_1)))) fun (x7 : ((List UInt8) × (T23 × Int))) => (if ((!((x7.2.1.Lateral == a0.Lateral) && ((x7.2.1.Vertical == a0.Vertical) && ((x7.2.1.Phase == a0.Phase) && true)))) || (x7.2.2 != 0)) = true then (some false) else (Option.bind (Option.bind (m29 (a2.take (if 60 < (a2.length : Int) then (60 : Int) else (a2.length : Int)).toNat)) fun r => some r) fun x10 => (Option.bind (Option.bind (m30 (a2.take (if 60 < (a2.length : Int) then (60 : Int) else (a2.length : Int)).toNat)) fun r => some r) fun x11 => (Option.bind (Option.bind (m14 x11.1) fun r => some r) fun x12 => (some (((x10.1.Lateral == x12.Lateral) && ((x10.1.Vertical == x12.Vertical) && ((x10.1.Phase == x12.Phase) && true))) && (x10.2 == x11.2)))))))) else (Option.bind (Option.bind (m29 (a2.take (if 60 < (a2.length : Int) then (60 : Int) else (a2.length : Int)).toNat)) fun r => some r) fun x10 => (Option.bind (Option.bind (m30 (a2.take (if 60 < (a2.length : Int) then (60 : Int) else (a2.length : Int)).toNat)) fun r => some r) fun x11 => (Option.bind (Option.bind (m14 x11.1) fun r => some r) fun x12 => (some (((x10.1.Lateral == x12.Lateral) && ((x10.1.Vertical == x12.Vertical) && ((x10.1.Phase == x12.Phase) && true))) && (x10.2 == x11.2)))))))))) else none) else none))) : Option (Bool)) := by kernel_rfl
theorem plain6 {s : T23} {a : Int} {t : List UInt8} (hs : ok23 s) (_ : (Lit.int .i64 a).wf = true) (ht : t.length ≤ maxLen) : m6 s a t = some true := by
 obtain ⟨l, v, p, rfl, hl, hv, hp⟩ := ok_state hs
 have hml := maxLen_le ht
 have hw := Mo.awake_true
 have e1 := Mo.Valid_eq hl hv hp
 have e2 := rmValid_eq hl hv hp
 obtain ⟨e3, e4⟩ := Mo.texts hl hv hp
 obtain ⟨x, e5, e6⟩ := Mo.names_any a hl
 have e7 := Mo.start_eq
 have htl : (textN l v p).length ≤ 1000000 := by
  have s1 := short_of short1 hl
  have s2 := short_of short2 hv
  have s3 := short_of short3 hp
  unfold textN
  split
  ·simp
  ·simp only [List.length_append, List.length_cons, List.length_nil]; omega
 have e8 := Mo.Parse_eqM (textN l v p) htl
 have e9 : ∀ k : Nat, m29 (t.take k) = some (⟨(parseP (t.take k)).1.1, (parseP (t.take k)).1.2.1, (parseP (t.take k)).1.2.2⟩, (parseP (t.take k)).2) ∨ ¬ k ≤ 60 := fun k => by
  by_cases hk : k ≤ 60
  ·exact .inl (Mo.Parse_eqM _ (by rw [List.length_take]; omega))
  ·exact .inr hk
 have e10 := fun u : List UInt8 => Mo.rmParse_eq u
 have q1 : ((0 : Int) ≤ (if (60 : Int) < (t.length : Int) then (60 : Int) else (t.length : Int))) = True := eq_true (by split <;> omega)
 have q2 : ((if (60 : Int) < (t.length : Int) then (60 : Int) else (t.length : Int)) ≤ (t.length : Int)) = True := eq_true (by split <;> omega)
 have q3 : (if (60 : Int) < (t.length : Int) then (60 : Int) else (t.length : Int)).toNat ≤ 60 := by split <;> omega
 have e9' := (e9 (if (60 : Int) < (t.length : Int) then (60 : Int) else (t.length : Int)).toNat).resolve_right (fun h => h q3)
 have pt : validN l v p = true → parseP (textN l v p) = (((l : Int), (v : Int), (p : Int)), 0) := Mo.parse_text
 simp only [M6, M13, M14, M28, bind_id]
 generalize m10 = A at hw ⊢
 generalize m22 = F1 at e1 ⊢
 generalize m24 = F2 at e2 ⊢
 generalize m25 = F3 at e3 ⊢
 generalize m26 = F4 at e4 ⊢
 generalize m21 = F5 at e5 ⊢
 generalize m27 = F6 at e6 ⊢
 generalize m17 = F7 at e7 ⊢
 generalize m29 = F8 at e8 e9' ⊢
 generalize m30 = F9 at e10 ⊢
 generalize (if (60 : Int) < (t.length : Int) then (60 : Int) else (t.length : Int)) = k at *
 have e10' := e10 (t.take k.toNat)
 have bb : ∀ (x : List UInt8), (x != x) = false := fun x => by simp
 have bc : ∀ (x : Bool), (x != x) = false := fun x => by simp
 generalize textN l v p = w at *
 generalize parseP (t.take k.toNat) = r at *
 cases hvd : validN l v p with
 | false =>
  rw [hvd] at e1 e2
  simp only [hw, bs, q1, q2, e1, e2, e3, e4, e5, e6, e7, e9', e10', bb, bc, bne_self_eq_false, beq_self_eq_true, Bool.not_true, Bool.not_false, Bool.or_self, Bool.and_self, Bool.false_eq_true, if_false, if_true]
 | true =>
  rw [hvd] at e1 e2
  rw [pt hvd] at e8
  simp only [hw, bs, q1, q2, e1, e2, e3, e4, e5, e6, e7, e8, e9', e10', bb, bc, bne_self_eq_false, beq_self_eq_true, Bool.not_true, Bool.not_false, Bool.or_self, Bool.and_self, Bool.false_eq_true, if_false, if_true]
end Go.Av
