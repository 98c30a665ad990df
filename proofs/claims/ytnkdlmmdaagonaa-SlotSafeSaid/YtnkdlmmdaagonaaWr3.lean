/- octet.Writer's Row and Bytes. -/
import Derived.Test.YtnkdlmmdaagonaaWr2
namespace Go.Proofs.Ytnkdlmmdaagonaa
open Go.RowKit

def strs (ss : List ByteArray) : List Value := ss.map Value.string
theorem strs_get {l : List ByteArray} {k : Nat} {s : ByteArray} (h : l[k]? = some s) : (strs l)[k]? = some (.string s) := by
  unfold strs; rw [List.getElem?_map, h]; rfl
theorem strs_pos {w : World} {A : Option Addr} {l : List ByteArray} {k : Nat} {s : ByteArray} (ha : RowAt w A (strs l)) (h : l[k]? = some s) : ∃ a, A = some a := by
  refine ha.some_of ?_
  have := (List.getElem?_eq_some_iff.1 h).1
  simp only [strs, List.length_map]; omega

def rowB (ss : List ByteArray) : List UInt8 := leB 2 (min ss.length 65535) ++ (ss.take 65535).flatMap textB
def sumSz (ss : List ByteArray) : Nat := (ss.map fun s => s.size + 2).sum
theorem take_snoc' {α : Type} {l : List α} {k : Nat} {x : α} (h : l[k]? = some x) : l.take (k + 1) = l.take k ++ [x] := by
  obtain ⟨hk, rfl⟩ := List.getElem?_eq_some_iff.1 h
  exact List.take_succ_eq_append_getElem hk
theorem sumSz_append (a b : List ByteArray) : sumSz (a ++ b) = sumSz a + sumSz b := by simp only [sumSz, List.map_append, List.sum_append]
theorem sumSz_take_succ {ss : List ByteArray} {k : Nat} {s : ByteArray} (h : ss[k]? = some s) : sumSz (ss.take (k + 1)) = sumSz (ss.take k) + (s.size + 2) := by
  rw [take_snoc' h, sumSz_append]; simp [sumSz]
theorem sumSz_take_le (ss : List ByteArray) (k : Nat) : sumSz (ss.take k) ≤ sumSz ss := by
  conv => rhs; rw [← List.take_append_drop k ss]
  simp only [sumSz, List.map_append, List.sum_append]; omega
theorem textB_length (s : ByteArray) : (textB s).length ≤ s.size + 2 := by
  have : s.data.toList.length = s.size := by simp
  simp only [textB, List.length_append, leB_length, List.length_take]; omega
theorem rows_length (ss : List ByteArray) : (ss.flatMap textB).length ≤ sumSz ss := by
  induction ss with
  | nil => simp [sumSz]
  | cons s ss ih =>
    have := textB_length s
    simp only [List.flatMap_cons, List.length_append, sumSz, List.map_cons, List.sum_cons] at *
    omega
theorem rows_snoc {ss : List ByteArray} {k : Nat} {s : ByteArray} (h : ss[k]? = some s) : (ss.take (k + 1)).flatMap textB = (ss.take k).flatMap textB ++ textB s := by
  rw [take_snoc' h, List.flatMap_append]; simp only [List.flatMap_cons, List.flatMap_nil, List.append_nil]
theorem mem_sumSz {ss : List ByteArray} {s : ByteArray} (h : s ∈ ss) : s.size ≤ sumSz ss := by
  induction ss with
  | nil => simp at h
  | cons a ss ih =>
    simp only [sumSz, List.map_cons, List.sum_cons] at *
    rcases List.mem_cons.1 h with rfl | h
    · omega
    · have := ih h; omega

end Go.Proofs.Ytnkdlmmdaagonaa
