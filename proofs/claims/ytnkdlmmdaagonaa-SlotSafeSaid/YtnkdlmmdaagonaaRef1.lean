/- Contracts of interrexref01: numbers, truths, texts, rows. -/
import Derived.Test.YtnkdlmmdaagonaaConv
import Derived.Test.YtnkdlmmdaagonaaWr3
namespace Go.Proofs.Ytnkdlmmdaagonaa
open Go.RowKit

def StrPost (w : World) (bs : List UInt8) (e : Ending) (w' : World) : Prop := e = .returned (.string (mkS bs)) ∧ Fr noB w w'
theorem mkS_append (a b : List UInt8) : mkS a ++ mkS b = mkS (a ++ b) := by
  apply ByteArray.ext; apply Array.ext'; simp [mkS]
theorem mkS_nil : mkS [] = ⟨#[]⟩ := rfl

set_option maxRecDepth 100000 in
set_option maxHeartbeats 800000 in
theorem numR_calls (w : World) (x n : Nat) (hx : x ≤ 18446744073709551615) (hn : n ≤ 8) :
    Calls Try.prog 67 #[.int .u64 x, .int .i64 n] w (StrPost w (leB n x)) := by
  have HX := hid hx; clear hx
  go_enter Try.func67, Try.ntmps67
  go_wp2_with fail
  go_loopw [0, 5, 7] (fun y s i wr => ∃ k : Nat, k ≤ n ∧ i = .int .i64 k ∧ y = .int .u64 (x / 256 ^ k : Nat) ∧ s = .string (mkS (leB k x)) ∧ Fr noB w wr) (fun _ _ i _ => n - (intOf i).toNat)
  case atStart => exact ⟨0, Nat.zero_le _, rfl, by simp, rfl, Fr.refl _ _⟩
  case round =>
    obtain ⟨k, hk, rfl, rfl, rfl, hf⟩ := hrel
    by_cases hkn : k < n
    · obtain ⟨y, hy⟩ : ∃ y, y = x / 256 ^ k := ⟨_, rfl⟩
      have hy1 : y ≤ 18446744073709551615 := by rw [hy]; exact Nat.le_trans (Nat.div_le_self _ _) HX.out
      have HY : Hid (y / 256 = x / 256 ^ (k + 1)) := by unfold Hid; rw [hy, Nat.div_div_eq_div_mul, Nat.pow_succ]
      have HL : Hid (leB (k + 1) x = leB k x ++ [UInt8.ofNat y]) := by unfold Hid; rw [leB_snoc, hy]
      have hs : (mkS (leB k x)).size = k := by rw [mkS_size, leB_length]
      generalize hg : mkS (leB k x) = s at *
      have HG := hid hg; clear hg
      have HS := hid hs; clear hs
      rw [← hy] at *
      clear hy
      have hcv := Try.oneStr
      have hcat : s.size + (mkS [UInt8.ofNat y]).size ≤ 9223372036854775807 := by rw [HS.out, mkS_size]; simp; omega
      go_wp2_with fail
      go_roundw
      case rel => exact ⟨k + 1, by omega, by go_num, by rw [← HY.out]; go_num, by rw [HL.out, ← mkS_append, HG.out], hf.alloc _⟩
      case measure => simp [intOf]; omega
    · have : k = n := by omega
      subst this
      go_wp2_with fail
      go_ret
      exact ⟨rfl, hf⟩
/-- A text's bytes in the reference: without a cut. -/
def textR (s : ByteArray) : List UInt8 := leB 2 s.size ++ s.data.toList
theorem textR_eq {s : ByteArray} (h : s.size ≤ 65535) : textR s = textB s := by
  unfold textR textB; rw [Nat.min_eq_left h, List.take_of_length_le (by simpa using h)]
theorem textR_length (s : ByteArray) : (textR s).length = s.size + 2 := by
  have : s.data.toList.length = s.size := by simp
  simp only [textR, List.length_append, leB_length]; omega
def rowR (ss : List ByteArray) : List UInt8 := leB 2 ss.length ++ ss.flatMap textR
theorem rowR_eq {ss : List ByteArray} (h : ss.length ≤ 65535) (hs : ∀ s ∈ ss, s.size ≤ 65535) : rowR ss = rowB ss := by
  unfold rowR rowB; rw [Nat.min_eq_left h, List.take_of_length_le h]
  congr 1
  induction ss with
  | nil => rfl
  | cons s ss ih => rw [List.flatMap_cons, List.flatMap_cons, textR_eq (hs s (List.mem_cons_self ..)), ih (by simp at h; omega) (fun t ht => hs t (List.mem_cons_of_mem _ ht))]
theorem rowsR_snoc {ss : List ByteArray} {k : Nat} {s : ByteArray} (h : ss[k]? = some s) : (ss.take (k + 1)).flatMap textR = (ss.take k).flatMap textR ++ textR s := by
  rw [take_snoc' h, List.flatMap_append]; simp only [List.flatMap_cons, List.flatMap_nil, List.append_nil]
theorem rowsR_length (ss : List ByteArray) : (ss.flatMap textR).length = sumSz ss := by
  induction ss with
  | nil => simp [sumSz]
  | cons s ss ih => simp only [List.flatMap_cons, List.length_append, sumSz, List.map_cons, List.sum_cons, textR_length] at *; omega

end Go.Proofs.Ytnkdlmmdaagonaa
