/- Contracts of interrexref01: numbers, truths, texts, rows. -/
import Derived.Test.YtahcopmdffengaaDoorConv
import Derived.Test.YtahcopmdffengaaDoorWr3
namespace Go.Proofs.YtahcopmdffengaaDoor
open Go.RowKit

def StrPost (w : World) (bs : List UInt8) (e : Ending) (w' : World) : Prop := e = .returned (.string (mkS bs)) ∧ Fr noB w w'
theorem mkS_append (a b : List UInt8) : mkS a ++ mkS b = mkS (a ++ b) := by
  apply ByteArray.ext; apply Array.ext'; simp [mkS]
theorem mkS_nil : mkS [] = ⟨#[]⟩ := rfl

set_option maxRecDepth 100000 in
set_option maxHeartbeats 800000 in
theorem numR_calls (w : World) (x n : Nat) (hx : x ≤ 18446744073709551615) (hn : n ≤ 8) :
    Calls Tryd.prog 85 #[.int .u64 x, .int .i64 n] w (StrPost w (leB n x)) := by
  have HX := hid hx; clear hx
  go_enter Tryd.func85, Tryd.ntmps85
  go_wp2_with fail
  go_loopw [0, 5, 7] (fun y s i wr => ∃ k : Nat, k ≤ n ∧ i = .int .i64 k ∧ y = .int .u64 (x / 256 ^ k : Nat) ∧ s = .string (mkS (leB k x)) ∧ Fr noB w wr) (fun _ _ i _ => n - (intOf i).toNat)
  case atStart => exact ⟨0, Nat.zero_le _, rfl, by simp, rfl, Fr.refl _ _⟩
  case round =>
    obtain ⟨k, hk, rfl, rfl, rfl, hf⟩ := hrel
    by_cases hkn : k < n
    · obtain ⟨y, hy⟩ : ∃ y, y = x / 256 ^ k := ⟨_, rfl⟩
      have hy1 : y ≤ 18446744073709551615 := by rw [hy]; exact Nat.le_trans (Nat.div_le_self _ _) HX.out
      have HY : Hid (y / 256 = x / 256 ^ (k + 1)) := by unfold Hid; rw [hy, Nat.div_div_eq_div_mul, Nat.pow_succ]
      have HL : Hid (leB (k + 1) x = leB k x ++ [UInt8.ofNat y]) := by unfold Hid; rw [leB_snoc, hy]
      have hs : (mkS (leB k x)).size = k := by rw [mkS_size, leB_length]
      generalize hg : mkS (leB k x) = s at *
      have HG := hid hg; clear hg
      have HS := hid hs; clear hs
      rw [← hy] at *
      clear hy
      have hcv := Tryd.oneStr
      have hcat : s.size + (mkS [UInt8.ofNat y]).size ≤ 9223372036854775807 := by rw [HS.out, mkS_size]; simp; omega
      go_wp2_with fail
      go_roundw
      case rel => exact ⟨k + 1, by omega, by go_num, by rw [← HY.out]; go_num, by rw [HL.out, ← mkS_append, HG.out], hf.alloc _⟩
      case measure => simp [intOf]; omega
    · have : k = n := by omega
      subst this
      go_wp2_with fail
      go_ret
      exact ⟨rfl, hf⟩
theorem truthR_calls (w : World) (b : Bool) : Calls Tryd.prog 72 #[.bool b] w (StrPost w (leB 1 (if b then 1 else 0))) := by
  cases b
  all_goals
    go_enter Tryd.func72, Tryd.ntmps72
    go_wp2_with fail
    go_ret
    exact ⟨rfl, Fr.refl _ _⟩
/-- A text's bytes in the reference: without a cut. -/
def textR (s : ByteArray) : List UInt8 := leB 2 s.size ++ s.data.toList
theorem textR_eq {s : ByteArray} (h : s.size ≤ 65535) : textR s = textB s := by
  unfold textR textB; rw [Nat.min_eq_left h, List.take_of_length_le (by simpa using h)]
theorem textR_calls (w : World) (s : ByteArray) (hs : s.size ≤ 1000000000000) : Calls Tryd.prog 71 #[.string s] w (StrPost w (textR s)) := by
  have h1 : s.size ≤ 9223372036854775807 := by omega
  have hk : (mkS (leB 2 s.size)).size + s.size ≤ 9223372036854775807 := by rw [mkS_size, leB_length]; omega
  have HE : Hid (mkS (textR s) = mkS (leB 2 s.size) ++ s) := by unfold Hid textR; rw [← mkS_append, mkS_of]
  have HS := hid hs; clear hs
  go_enter Tryd.func71, Tryd.ntmps71
  go_wp2_with fail
  refine (numR_calls w s.size 2 (by have := HS.out; omega) (by omega)).mono ?_
  rintro e w1 ⟨rfl, f1⟩
  go_wp2_with fail
  go_ret
  exact ⟨by rw [HE.out]; rfl, f1⟩
theorem textR_length (s : ByteArray) : (textR s).length = s.size + 2 := by
  have : s.data.toList.length = s.size := by simp
  simp only [textR, List.length_append, leB_length]; omega
def rowR (ss : List ByteArray) : List UInt8 := leB 2 ss.length ++ ss.flatMap textR
theorem rowR_eq {ss : List ByteArray} (h : ss.length ≤ 65535) (hs : ∀ s ∈ ss, s.size ≤ 65535) : rowR ss = rowB ss := by
  unfold rowR rowB; rw [Nat.min_eq_left h, List.take_of_length_le h]
  congr 1
  induction ss with
  | nil => rfl
  | cons s ss ih => rw [List.flatMap_cons, List.flatMap_cons, textR_eq (hs s (List.mem_cons_self ..)), ih (by simp at h; omega) (fun t ht => hs t (List.mem_cons_of_mem _ ht))]
theorem rowsR_snoc {ss : List ByteArray} {k : Nat} {s : ByteArray} (h : ss[k]? = some s) : (ss.take (k + 1)).flatMap textR = (ss.take k).flatMap textR ++ textR s := by
  rw [take_snoc' h, List.flatMap_append]; simp only [List.flatMap_cons, List.flatMap_nil, List.append_nil]
theorem rowsR_length (ss : List ByteArray) : (ss.flatMap textR).length = sumSz ss := by
  induction ss with
  | nil => simp [sumSz]
  | cons s ss ih => simp only [List.flatMap_cons, List.length_append, sumSz, List.map_cons, List.sum_cons, textR_length] at *; omega

set_option maxRecDepth 100000 in
set_option maxHeartbeats 800000 in
theorem rowR_calls (w : World) (B : Option Addr) (n cap : Nat) (ss : List ByteArray) (hx : RowAt w B (strs ss)) (HN : Hid (ss.length = n)) (hl : sumSz ss ≤ 1000000000000) (hn : n ≤ 1000000000000) :
    Calls Tryd.prog 73 #[.slice B n cap] w (StrPost w (rowR ss)) := by
  have HLn := hid hl; clear hl
  have HNn := hid hn; clear hn
  have n63 : n ≤ 9223372036854775807 := by have := HNn.out; omega
  go_enter Tryd.func73, Tryd.ntmps73
  go_wp2_with fail
  refine (numR_calls w n 2 (by have := HNn.out; omega) (by omega)).mono ?_
  rintro e w1 ⟨rfl, f1⟩
  go_wp2_with fail
  go_loopw [3, 12] (fun s i wr => ∃ k : Nat, k ≤ n ∧ i = .int .i64 k ∧ s = .string (mkS (leB 2 n ++ (ss.take k).flatMap textR)) ∧ Fr noB w wr) (fun _ i _ => n - (intOf i).toNat)
  case atStart => exact ⟨0, Nat.zero_le _, rfl, by rw [List.take_zero, List.flatMap_nil, List.append_nil], f1⟩
  case round =>
    obtain ⟨k, hk, rfl, rfl, hf⟩ := hrel
    by_cases hkn : k < n
    · obtain ⟨s, hs⟩ : ∃ s, ss[k]? = some s := ⟨_, List.getElem?_eq_getElem (by rw [HN.out]; exact hkn)⟩
      obtain ⟨ad, rfl⟩ := strs_pos hx hs
      have hcx : wr.cell? (ad.add k) = some (.string s) := hf.cell (hx.cell (strs_get hs)) id
      have HR : Hid (mkS (leB 2 n ++ (ss.take (k + 1)).flatMap textR) = mkS (leB 2 n ++ (ss.take k).flatMap textR) ++ mkS (textR s)) := by
        unfold Hid; rw [mkS_append, rowsR_snoc hs, List.append_assoc]
      have hsz : (mkS (leB 2 n ++ (ss.take k).flatMap textR)).size + (mkS (textR s)).size ≤ 9223372036854775807 := by
        have q1 := sumSz_take_le ss (k + 1)
        have q2 := sumSz_take_succ hs
        have q3 := HLn.out
        rw [mkS_size, mkS_size, List.length_append, leB_length, rowsR_length, textR_length]; omega
      have hs1 : s.size ≤ 1000000000000 := by have := mem_sumSz (List.mem_of_getElem? hs); have := HLn.out; omega
      have HS1 := hid hs1; clear hs1 hs
      generalize hg : mkS (leB 2 n ++ (ss.take k).flatMap textR) = t at *
      have HG := hid hg; clear hg
      go_wp2_with fail
      refine (textR_calls wr s HS1.out).mono ?_
      rintro e w2 ⟨rfl, f2⟩
      go_wp2_with fail
      go_roundw
      case rel => exact ⟨k + 1, by omega, by go_num, by rw [HR.out], hf.then' f2⟩
      case measure => simp [intOf]; omega
    · have : k = n := by omega
      subst this
      go_wp2_with fail
      go_ret
      refine ⟨?_, hf⟩
      rw [List.take_of_length_le (by rw [HN.out]; exact Nat.le_refl _), rowR, HN.out]
      rfl
end Go.Proofs.YtahcopmdffengaaDoor
