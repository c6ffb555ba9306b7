/- Lines of a text, as the specification reads them. -/
import Derived.Test.YtlpdcjbkbcmahaaGreatDoorMoC
import Derived.Test.YtlpdcjbkbcmahaaGreatDoorBits
set_option linter.unusedVariables false
set_option linter.unusedSimpArgs false
set_option maxRecDepth 1000000
namespace Go.Av.Mo
def headS (p : List UInt8) : List (List UInt8) → List (List UInt8)
  | [] => [p]
  | l :: r => (p ++ l) :: r
def linesS : List UInt8 → List (List UInt8)
  | [] => [[]]
  | c :: s => match Nat.beq c.toNat 10 with
    | true => [] :: linesS s
    | false => headS [c] (linesS s)
theorem linesS_t {c : UInt8} {s : List UInt8} (h : Nat.beq c.toNat 10 = true) : linesS (c :: s) = [] :: linesS s := by rw [linesS, h]
theorem linesS_f {c : UInt8} {s : List UInt8} (h : Nat.beq c.toNat 10 = false) : linesS (c :: s) = headS [c] (linesS s) := by rw [linesS, h]
theorem linesS_ne : ∀ s, ∃ l r, linesS s = l :: r
  | [] => ⟨_, _, rfl⟩
  | c :: s => by
    unfold linesS
    split
    · exact ⟨_, _, rfl⟩
    · obtain ⟨l, r, h⟩ := linesS_ne s
      rw [h]; exact ⟨_, _, rfl⟩
/-- The records of a text that has no signs of its own (no comments, one space between words). -/
def splitW : List UInt8 → Int → Int → List UInt8 → List T141
  | [], _, b, cur => [⟨cur.reverse, b + 1⟩]
  | c :: s, i, b, cur => match Nat.beq c.toNat 32 with
    | true => ⟨cur.reverse, b + 1⟩ :: splitW s (i + 1) (i + 1) []
    | false => splitW s (i + 1) b (c :: cur)
def linesX : Int → List (List UInt8) → List T139
  | _, [] => []
  | n, [] :: r => linesX (n + 1) r
  | n, (c :: s) :: r => ⟨n, splitW (c :: s) 0 0 []⟩ :: linesX (n + 1) r
end Go.Av.Mo
