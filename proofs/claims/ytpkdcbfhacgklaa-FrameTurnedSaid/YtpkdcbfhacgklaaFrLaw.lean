/- Frames: plain laws. -/
import Derived.Test.YtpkdcbfhacgklaaFrame2
import Derived.Test.YtpkdcbfhacgklaaTurnLaw
import Derived.Test.YtpkdcbfhacgklaaBackLaw
namespace Go.Proofs.Ytpkdcbfhacgklaa
open Go.RowKit

theorem openB_sealB (b : List UInt8) : openB (sealB b) = (b, 0) := by
  unfold openB
  rw [sealB_length, if_neg (by omega), Nat.add_sub_cancel]
  unfold sealB
  rw [List.drop_left, List.take_left, leV_leB, if_pos (Nat.mod_eq_of_lt (crcSum_lt b))]
theorem frB_eq (k : Nat) (b : List UInt8) : ∃ c0 c1 c2 c3, leB 4 b.length = [c0, c1, c2, c3] ∧ frB k b = [1, UInt8.ofNat k, c0, c1, c2, c3] ++ b := by
  have h1 : leB 1 1 = [1] := by decide
  have hk : leB 1 k = [UInt8.ofNat k] := by
    unfold leB
    simp [leB]
  have h4 := leB_length 4 b.length
  unfold frB
  rw [h1, hk]
  match h : leB 4 b.length, h4 with
  | [c0, c1, c2, c3], _ => exact ⟨c0, c1, c2, c3, rfl, rfl⟩
theorem sizeV_frame {k : Nat} {b : List UInt8} (hb : b.length < 4294967296) : sizeV (frameB k b) = (b.length + 10, 0) := by
  obtain ⟨c0, c1, c2, c3, h1, h2⟩ := frB_eq k b
  have hl := frameB_length k b
  unfold sizeV
  rw [if_neg (by omega)]
  unfold frameB sealB
  rw [h2]
  simp only [List.cons_append, List.headD_cons, ne_eq, not_true, if_false]
  have hv := leV_leB 4 b.length
  rw [h1, Nat.mod_eq_of_lt (by simpa using hb)] at hv
  exact congrArg (fun x => (x + 10, 0)) hv
theorem frGet_frame {k : Nat} {b : List UInt8} (hk : k < 256) (hb : b.length ≤ 65526) : frGet (frameB k b) = ((k, b), 0) := by
  obtain ⟨c0, c1, c2, c3, h1, h2⟩ := frB_eq k b
  have hl := frameB_length k b
  have hs := sizeV_frame (k := k) (b := b) (by omega)
  unfold frGet
  rw [if_neg (by omega), hs, hl, if_neg (by simp), if_neg (by simp), if_neg (by simp)]
  unfold frameB
  rw [openB_sealB, if_neg (by simp), h2]
  simp [Nat.mod_eq_of_lt hk]
theorem frGet_bad {l : List UInt8} (h : (openB l).2 ≠ 0) : ∃ e, frGet l = ((0, []), e) ∧ e ≠ 0 := by
  unfold frGet
  by_cases h1 : 65536 < l.length
  · rw [if_pos h1]; exact ⟨3, rfl, by decide⟩
  · rw [if_neg h1]
    by_cases h2 : (sizeV l).2 ≠ 0
    · rw [if_pos h2]; exact ⟨_, rfl, h2⟩
    · rw [if_neg h2]
      by_cases h3 : l.length < (sizeV l).1
      · rw [if_pos h3]; exact ⟨2, rfl, by decide⟩
      · rw [if_neg h3]
        by_cases h4 : (sizeV l).1 < l.length
        · rw [if_pos h4]; exact ⟨3, rfl, by decide⟩
        · rw [if_neg h4, if_pos h]; exact ⟨_, rfl, h⟩
theorem frGet_turned {k : Nat} {b l : List UInt8} {a t : Nat} (hl : l.length = b.length + 10) (hv : leV l = leV (frameB k b) ^^^ (2 ^ a * t)) (ht : t ≠ 0) (ht2 : t < 4294967296) (ha : a ≤ 8 * l.length) : ∃ e, frGet l = ((0, []), e) ∧ e ≠ 0 := by
  refine frGet_bad ?_
  have := turned_told (b := frB k b) (l := l) (a := a) (t := t) (by rw [hl]; exact (frameB_length k b).symm) hv ht ht2 ha
  rw [this]; decide
end Go.Proofs.Ytpkdcbfhacgklaa
