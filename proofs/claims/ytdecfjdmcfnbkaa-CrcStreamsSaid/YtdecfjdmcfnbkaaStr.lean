/- Bytes as a string of the program's. -/
import Derived.Test.YtdecfjdmcfnbkaaRflip
import Derived.Laws.BytesArg
namespace Go.Proofs.Ytdecfjdmcfnbkaa
open Go.RowKit Go.Bv Go.Base

/-- The string of some bytes. -/
def str (l : List (BitVec 8)) : ByteArray := ⟨(l.map UInt8.ofBitVec).toArray⟩
theorem str_toList (l : List (BitVec 8)) : (str l).toList = l.map UInt8.ofBitVec := by rw [ByteArray.toList_eq]; rfl
theorem str_inj {l m : List (BitVec 8)} (h : (str l).toList = (str m).toList) : l = m := by
  rw [str_toList, str_toList] at h
  exact List.map_inj_right (fun a b e => by injection e) |>.1 h
theorem str_beq (l m : List (BitVec 8)) : ((str l).toList == (str m).toList) = decide (l = m) := by
  by_cases h : l = m
  · subst h; simp
  · rw [decide_eq_false h]
    exact beq_eq_false_iff_ne.2 fun e => h (str_inj e)
theorem strOfNums_str (l : List (BitVec 8)) : strOfNums (l.map n8) = str l := by
  unfold strOfNums str
  rw [List.map_map]
  congr 2
  apply List.map_congr_left
  intro b _
  simp [n8]
theorem run_str {w : World} {A : Option Addr} {n c : Nat} {l : List (BitVec 8)} (hr : RdB w A n c l) :
    (convert 22 9 (.slice A n c)).run Try.prog w = .ok (.string (str l)) w := by
  have hl := hr.length
  rcases Nat.eq_zero_or_pos n with h0 | h0
  · subst h0
    obtain rfl : l = [] := List.eq_nil_of_length_eq_zero hl
    rcases A with _ | a
    · exact run_convert_bytes_nil w 22 5 Try.underlying22 Try.underlying5 0 c 9 Try.underlying9
    · rw [run_convert_bytes_string w 22 9 5 _ 0 c Try.underlying22 Try.underlying5 Try.underlying9,
        run_bytesToString w a 0 c [] (by simpa using run_loadCells_list (P := Try.prog) w a [] (fun j v hj => by simp at hj))]
      rfl
  · obtain ⟨b, o, rfl, _, hc⟩ := hr.at_ h0
    rw [run_convert_bytes_arg w 22 5 Try.underlying22 Try.underlying5 b o n c (l.map n8) (by simpa using hl) ?_ 9 Try.underlying9, strOfNums_str]
    intro i hi
    refine (hc i (b8 (l[i]'(by omega))) (by simp [b8]; exact ⟨_, List.getElem?_eq_getElem _, rfl⟩)).trans ?_
    simp [b8, List.getD, List.getElem?_eq_getElem (show i < l.length by omega)]
end Go.Proofs.Ytdecfjdmcfnbkaa
