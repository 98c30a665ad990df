/- interrexref02.Open; interrexlaw02.CrcOpens: the walk. -/
import Derived.Test.YtnkdlmmdaagonaaOpenT
import Derived.Test.YtnkdlmmdaagonaaOpenBytes
namespace Go.Proofs.Ytnkdlmmdaagonaa
open Go.RowKit

theorem leB_leV (xs : List UInt8) : leB xs.length (leV xs) = xs := by
  induction xs with
  | nil => rfl
  | cons b xs ih =>
    have h := b.toNat_lt
    rw [leV, List.length_cons, leB]
    have e1 : UInt8.ofNat (b.toNat + 256 * leV xs) = b := by
      apply UInt8.toNat_inj.1
      rw [UInt8.toNat_ofNat']
      omega
    have e2 : (b.toNat + 256 * leV xs) / 256 = leV xs := by omega
    rw [e1, e2, ih]
theorem seal_eq {b : List UInt8} {k : Nat} (hb : b.length = k + 4) : (sealB (b.take k) = b) ↔ leV (b.drop k) = crcSum (b.take k) := by
  have hl : (b.drop k).length = 4 := by rw [List.length_drop, hb]; omega
  unfold sealB
  have hs := crcSum_lt (b.take k)
  generalize crcSum (b.take k) = sm at *
  constructor
  · intro h
    have h2 : b.take k ++ leB 4 sm = b.take k ++ b.drop k := by rw [h, List.take_append_drop]
    have h3 := List.append_cancel_left h2
    rw [← h3, leV_leB]
    exact Nat.mod_eq_of_lt hs
  · intro h
    rw [← h, ← hl, leB_leV, List.take_append_drop]
theorem openR_calls (w : World) (s : ByteArray) (hs : s.size ≤ 100000000000) :
    Calls Try.prog 69 #[.string s] w (fun e w' => e = .returned (.tuple #[.string (mkS (openB s.data.toList).1), .int .i64 ((openB s.data.toList).2 : Nat)]) ∧ Fr noB w w') := by
  have hsz : s.data.toList.length = s.size := by simp
  by_cases h4 : s.size < 4
  · have HO : Hid (openB s.data.toList = ([], 2)) := by unfold Hid openB; rw [if_pos (by rw [hsz]; exact h4)]
    rw [HO.out]
    have t4 : decide ((s.size : Int) - 4 < 0) = true := by simp; omega
    have hm4 : (s.size : Int) - 4 < 0 := by omega
    go_enter Try.func69, Try.ntmps69
    go_wp2_with fail
    go_ret2
    exact ⟨rfl, Fr.refl _ _⟩
  · obtain ⟨k, hk⟩ : ∃ k, s.size = k + 4 := ⟨s.size - 4, by omega⟩
    have hm4 : ((s.size : Nat) : Int) - 4 = (k : Int) := by omega
    have hex : (s.extract 0 k).data.toList = s.data.toList.take k := extract_take s k
    have hsl := fun W => sealR_calls W (s.extract 0 k) (by rw [ByteArray.size_extract]; omega)
    rw [hex] at hsl
    have hiff := seal_eq (b := s.data.toList) (k := k) (by rw [hsz, hk])
    have HO : Hid (openB s.data.toList = if leV (s.data.toList.drop k) = crcSum (s.data.toList.take k) then (s.data.toList.take k, 0) else ([], 5)) := by
      unfold Hid openB; rw [if_neg (by rw [hsz]; omega), hsz, hk, show k + 4 - 4 = k by omega]
    have HK : Hid (mkS (s.data.toList.take k) = s.extract 0 k) := by unfold Hid; rw [← hex, mkS_of]
    have hks : k ≤ s.size := by omega
    have hz : s.size ≤ 100000000000 := hs
    generalize openB s.data.toList = ob at *
    by_cases hls : leV (s.data.toList.drop k) = crcSum (s.data.toList.take k)
    · rw [if_pos hls] at HO
      have hse := hiff.2 hls
      rw [hse] at hsl
      unfold StrPost at hsl
      rw [mkS_of] at hsl
      have hself : (s.toList == s.toList) = true := by simp
      have HH := hid (And.intro hk (And.intro hls hse))
      clear hk hls hse hiff hex h4
      go_enter Try.func69, Try.ntmps69
      go_wp2_with fail
      refine (hsl _).mono ?_
      rintro e w1 ⟨rfl, f1⟩
      go_wp2_with fail
      go_ret2
      rw [HO.out]
      exact ⟨by rw [HK.out]; rfl, f1⟩
    · rw [if_neg hls] at HO
      have hne : ((mkS (sealB (s.data.toList.take k))).toList == s.toList) = false := by
        rw [mkS_toList, beq_eq_false_iff_ne]
        intro e
        exact hls (hiff.1 (by rw [e, ByteArray.toList_eq]))
      have HH := hid (And.intro hk hls)
      unfold StrPost at hsl
      generalize mkS (sealB (s.data.toList.take k)) = T at *
      clear hk hls hiff hex h4
      go_enter Try.func69, Try.ntmps69
      go_wp2_with fail
      refine (hsl _).mono ?_
      rintro e w1 ⟨rfl, f1⟩
      go_wp2_with fail
      go_ret2
      rw [HO.out]
      exact ⟨rfl, f1⟩
end Go.Proofs.Ytnkdlmmdaagonaa
