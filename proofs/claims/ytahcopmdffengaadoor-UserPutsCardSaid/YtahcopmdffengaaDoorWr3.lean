/- octet.Writer's Row and Bytes. -/
import Derived.Test.YtahcopmdffengaaDoorWr2
namespace Go.Proofs.YtahcopmdffengaaDoor
open Go.RowKit

def strs (ss : List ByteArray) : List Value := ss.map Value.string
theorem strs_get {l : List ByteArray} {k : Nat} {s : ByteArray} (h : l[k]? = some s) : (strs l)[k]? = some (.string s) := by
  unfold strs; rw [List.getElem?_map, h]; rfl
theorem strs_pos {w : World} {A : Option Addr} {l : List ByteArray} {k : Nat} {s : ByteArray} (ha : RowAt w A (strs l)) (h : l[k]? = some s) : ∃ a, A = some a := by
  refine ha.some_of ?_
  have := (List.getElem?_eq_some_iff.1 h).1
  simp only [strs, List.length_map]; omega

def rowB (ss : List ByteArray) : List UInt8 := leB 2 (min ss.length 65535) ++ (ss.take 65535).flatMap textB
def sumSz (ss : List ByteArray) : Nat := (ss.map fun s => s.size + 2).sum
theorem take_snoc' {α : Type} {l : List α} {k : Nat} {x : α} (h : l[k]? = some x) : l.take (k + 1) = l.take k ++ [x] := by
  obtain ⟨hk, rfl⟩ := List.getElem?_eq_some_iff.1 h
  exact List.take_succ_eq_append_getElem hk
theorem sumSz_append (a b : List ByteArray) : sumSz (a ++ b) = sumSz a + sumSz b := by simp only [sumSz, List.map_append, List.sum_append]
theorem sumSz_take_succ {ss : List ByteArray} {k : Nat} {s : ByteArray} (h : ss[k]? = some s) : sumSz (ss.take (k + 1)) = sumSz (ss.take k) + (s.size + 2) := by
  rw [take_snoc' h, sumSz_append]; simp [sumSz]
theorem sumSz_take_le (ss : List ByteArray) (k : Nat) : sumSz (ss.take k) ≤ sumSz ss := by
  conv => rhs; rw [← List.take_append_drop k ss]
  simp only [sumSz, List.map_append, List.sum_append]; omega
theorem textB_length (s : ByteArray) : (textB s).length ≤ s.size + 2 := by
  have : s.data.toList.length = s.size := by simp
  simp only [textB, List.length_append, leB_length, List.length_take]; omega
theorem rows_length (ss : List ByteArray) : (ss.flatMap textB).length ≤ sumSz ss := by
  induction ss with
  | nil => simp [sumSz]
  | cons s ss ih =>
    have := textB_length s
    simp only [List.flatMap_cons, List.length_append, sumSz, List.map_cons, List.sum_cons] at *
    omega
theorem rows_snoc {ss : List ByteArray} {k : Nat} {s : ByteArray} (h : ss[k]? = some s) : (ss.take (k + 1)).flatMap textB = (ss.take k).flatMap textB ++ textB s := by
  rw [take_snoc' h, List.flatMap_append]; simp only [List.flatMap_cons, List.flatMap_nil, List.append_nil]
theorem mem_sumSz {ss : List ByteArray} {s : ByteArray} (h : s ∈ ss) : s.size ≤ sumSz ss := by
  induction ss with
  | nil => simp at h
  | cons a ss ih =>
    simp only [sumSz, List.map_cons, List.sum_cons] at *
    rcases List.mem_cons.1 h with rfl | h
    · omega
    · have := ih h; omega

set_option maxRecDepth 100000 in
set_option maxHeartbeats 800000 in
theorem row_calls_small (w : World) (S : Nat → Prop) (p : Nat) (bs : List UInt8) (B : Option Addr) (n cap : Nat) (ss : List ByteArray) (h : WrAt w S p bs) (hx : RowAt w B (strs ss)) (hn : ss.length = n) (hcap : n ≤ cap) (hB : 0 < n → ∀ a, B = some a → ¬ S a.block)
    (hl : bs.length + 2 + sumSz ss ≤ 1000000000000) (h16 : n ≤ 65535) :
    Calls Tryd.prog 70 #[.pointer (some ⟨p, 0, none⟩), .slice B n cap] w (WrPost w S p bs (rowB ss)) := by
  have HN := hid hn; clear hn
  go_enter Tryd.func70, Tryd.ntmps70
  go_wp2_with fail
  refine (two_calls w S p bs n h (by omega) (by omega)).mono ?_
  rintro e w1 ⟨rfl, h1, h2⟩
  go_wp2_with fail
  go_loopw [19] (fun i wr => ∃ k : Nat, k ≤ n ∧ i = .int .i64 k ∧ WrAt wr (andNew S w) p (bs ++ leB 2 n ++ (ss.take k).flatMap textB) ∧ Fr S w wr) (fun i _ => n - (intOf i).toNat)
  case atStart => exact ⟨0, Nat.zero_le _, rfl, by rw [List.take_zero, List.flatMap_nil, List.append_nil]; exact h1, h2⟩
  case round =>
    obtain ⟨k, hk, rfl, hw, hf⟩ := hrel
    by_cases hkn : k < n
    · obtain ⟨s, hs⟩ : ∃ s, ss[k]? = some s := ⟨_, List.getElem?_eq_getElem (by rw [HN.out]; exact hkn)⟩
      obtain ⟨ad, rfl⟩ := hx.some_of (by simp only [strs, List.length_map]; rw [HN.out]; omega)
      have hcx : wr.cell? (ad.add k) = some (.string s) := hf.cell (hx.cell (by rw [strs, List.getElem?_map, hs]; rfl)) (by rw [add_block]; exact hB (by omega) ad rfl)
      have HR := hid (rows_snoc hs)
      have q1 := rows_length (ss.take k)
      have q2 := sumSz_take_le ss (k + 1)
      have q3 := sumSz_take_succ hs
      have q4 : (bs ++ leB 2 n ++ (ss.take k).flatMap textB).length + 2 + s.size ≤ 1000000000000 := by
        rw [List.length_append, List.length_append, leB_length]; omega
      have q5 : s.size ≤ maxLen := by unfold maxLen; omega
      clear q1 q2 q3 hs
      go_wp2_with fail
      refine (text_calls wr (andNew S w) p _ s hw q5 q4).mono ?_
      rintro e w2 ⟨rfl, g1, g2⟩
      go_wp2_with fail
      go_roundw
      case rel =>
        refine ⟨k + 1, by omega, by go_num, ?_, hf.then g2⟩
        rw [HR.out, ← List.append_assoc]
        exact g1.mono (fun i _ hi => hi.elim id fun q => Or.inr (by have := hf.size; omega))
      case measure => simp [intOf]; omega
    · have : k = n := by omega
      subst this
      go_wp2_with fail
      go_ret
      refine ⟨rfl, ?_, hf⟩
      rw [List.take_of_length_le (by rw [HN.out]; omega)] at hw
      rw [rowB, HN.out, Nat.min_eq_left h16, List.take_of_length_le (by rw [HN.out]; exact h16), ← List.append_assoc]
      exact hw
end Go.Proofs.YtahcopmdffengaaDoor
