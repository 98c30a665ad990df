/- interrexlaw05.NameParts: the walk. -/
import Derived.Test.YtahcopmdffengaaDoorNm9
namespace Go.Proofs.YtahcopmdffengaaDoor
open Go.RowKit
theorem nameS_parts {s : ByteArray} (h : nameS s = true) : 1 ≤ s.size ∧ s.size ≤ 12 ∧ letterB (s.data.toList.getD 0 0).toNat = true ∧ (s.data.toList.all fun b => signB b.toNat) = true := by
  unfold nameS allS at h
  simp only [Bool.and_eq_true, decide_eq_true_eq] at h
  exact ⟨h.1.1.1.1, h.1.1.1.2, h.1.1.2, h.1.2⟩
theorem take_signs {l : List UInt8} (h : (l.all fun b => signB b.toNat) = true) (k : Nat) : ((l.take k).all fun b => signB b.toNat) = true := by
  rw [List.all_eq_true] at h ⊢
  exact fun b hb => h b (List.mem_of_mem_take hb)
theorem nameS_pref {s : ByteArray} (h : nameS s = true) (k : Nat) : prefS (mkS (s.data.toList.take k)) = true := by
  obtain ⟨h1, h2, h3, h4⟩ := nameS_parts h
  unfold prefS
  rw [allS_mk, take_signs h4, mkS_size, List.length_take, Bool.and_true, decide_eq_true_eq]
  have : s.data.toList.length = s.size := by simp
  omega
theorem nameS_part {s : ByteArray} (h : nameS s = true) {k : Nat} (hk : k < s.size) (h45 : (s.data.toList.getD k 0).toNat ≠ 45) (h46 : (s.data.toList.getD k 0).toNat ≠ 46) : nameS (mkS (s.data.toList.take (k + 1))) = true := by
  obtain ⟨h1, h2, h3, h4⟩ := nameS_parts h
  have hl : s.data.toList.length = s.size := by simp
  have hsg : signB (s.data.toList.getD k 0).toNat = true := by
    rw [List.getD_eq_getElem?_getD, List.getElem?_eq_getElem (by omega)]
    rw [List.all_eq_true] at h4
    exact h4 _ (List.getElem_mem _)
  unfold nameS
  rw [mkS_size, allS_mk, take_signs h4, mkS_data, List.length_take]
  have e1 : min (k + 1) s.data.toList.length = k + 1 := by omega
  have e2 : (s.data.toList.take (k + 1)).getD 0 0 = s.data.toList.getD 0 0 := by
    rw [List.getD_eq_getElem?_getD, List.getD_eq_getElem?_getD, List.getElem?_take_of_lt (by omega)]
  have e3 : (s.data.toList.take (k + 1)).getD k 0 = s.data.toList.getD k 0 := by
    rw [List.getD_eq_getElem?_getD, List.getD_eq_getElem?_getD, List.getElem?_take_of_lt (by omega)]
  rw [e1, e2, h3, show k + 1 - 1 = k by omega, e3]
  have hm : mailB (s.data.toList.getD k 0).toNat = true := by
    unfold signB at hsg
    simp only [Bool.or_eq_true, decide_eq_true_eq] at hsg
    unfold mailB
    rcases hsg with (h5 | h5) | h5
    · rw [Bool.or_eq_true]; exact h5
    · exact absurd h5 h45
    · exact absurd h5 h46
  rw [hm]
  simp; omega
set_option maxRecDepth 100000 in
set_option maxHeartbeats 800000 in
theorem parts_walk (w : World) (s : ByteArray) : Calls Tryd.prog 4 #[.string s] w (BoolPost w true) := by
  obtain ⟨b0, hb0⟩ : ∃ b, decide ((100 : Int) < s.size) = b := ⟨_, rfl⟩
  cases b0
  · have hs : s.size ≤ 1000000 := by have := of_decide_eq_false hb0; omega
    have hl := fun W => lives05_calls W
    have h1 := fun W => name_calls05 W s hs
    obtain ⟨v1, hv1⟩ : ∃ v, nameS s = v := ⟨_, rfl⟩
    rw [hv1] at h1
    cases v1
    · simp only [errN, Bool.false_eq_true, if_false] at h1
      go_enter Tryd.func4, Tryd.ntmps4
      go_wp2_with fail
      refine (hl w).mono ?_
      rintro e w1 ⟨rfl, f1⟩
      go_wp2_with (refine (h1 _).mono ?_; rintro e w' ⟨rfl, rfl⟩)
      go_ret
      exact ⟨rfl, f1⟩
    · simp only [errN, if_true] at h1
      have HP := hid (fun k => nameS_pref hv1 k)
      have HQ := hid (fun k => nameS_part (k := k) hv1)
      have HX := hid (str_at s)
      have HE := hid (fun k => ext_take s k)
      have hlen : s.data.toList.length = s.size := by simp
      have HL := hid hlen
      clear hv1 hlen
      go_enter Tryd.func4, Tryd.ntmps4
      go_wp2_with fail
      refine (hl w).mono ?_
      rintro e w1 ⟨rfl, f1⟩
      go_wp2_with (refine (h1 _).mono ?_; rintro e w' ⟨rfl, rfl⟩)
      go_loop [18] (fun i => ∃ k : Nat, k ≤ s.size + 1 ∧ i = .int .i64 k) (fun i => s.size + 1 - (intOf i).toNat)
      case atStart => exact ⟨0, Nat.zero_le _, rfl⟩
      case round =>
        obtain ⟨k, hk, rfl⟩ := hrel
        by_cases hks : k < s.size + 1
        · have hex := HE.out k
          have hpx := fun W => prefix_calls05 W (mkS (s.data.toList.take k)) (by rw [mkS_size, List.length_take, HL.out]; omega)
          rw [HP.out k] at hpx
          simp only [errN, if_true] at hpx
          have hkb : (k : Int) ≤ s.size := by omega
          have tks : decide ((k : Int) < (s.size : Int) + 1) = true := decide_eq_true (by omega)
          cases k with
          | zero =>
            replace hpx : ∀ W, Calls Tryd.prog 17 #[.string ByteArray.empty] W (IQ W 0) := hpx
            go_wp2_with (refine (hpx _).mono ?_; rintro e w' ⟨rfl, rfl⟩)
            go_round
            case rel => exact ⟨1, by omega, by go_num⟩
            case measure => simp [intOf]
          | succ m =>
            have hms : m < s.size := by omega
            obtain ⟨c, hc⟩ : ∃ c, (s.data.toList.getD m 0).toNat = c := ⟨_, rfl⟩
            have hx0 : ∀ h : m < s.size, (s[m]'h).toNat = c := fun h => by rw [HX.out m h, hc]
            have hnm := fun W => name_calls05 W (mkS (s.data.toList.take (m + 1))) (by rw [mkS_size, List.length_take, HL.out]; omega)
            have HR := hid (fun h45 h46 => HQ.out m hms (by rw [hc]; exact h45) (by rw [hc]; exact h46))
            generalize mkS (s.data.toList.take (m + 1)) = t at *
            obtain ⟨v4, h4⟩ : ∃ v, ((c : Int) != 45) = v := ⟨_, rfl⟩
            obtain ⟨v5, h5⟩ : ∃ v, ((c : Int) != 46) = v := ⟨_, rfl⟩
            have hsub : ((m + 1 : Nat) : Int) - 1 = (m : Int) := by omega
            have hmb : (m : Int) < s.size := by omega
            clear hc
            cases v4
            · go_wp2_with (first | (go_at_call 17; refine (hpx _).mono ?_; rintro e w' ⟨rfl, rfl⟩) | (go_at_call 16; refine (hnm _).mono ?_; rintro e w' ⟨rfl, rfl⟩))
              go_round
              case rel => exact ⟨m + 1 + 1, by omega, by go_num⟩
              case measure => simp [intOf]; omega
            · cases v5
              · go_wp2_with (first | (go_at_call 17; refine (hpx _).mono ?_; rintro e w' ⟨rfl, rfl⟩) | (go_at_call 16; refine (hnm _).mono ?_; rintro e w' ⟨rfl, rfl⟩))
                go_round
                case rel => exact ⟨m + 1 + 1, by omega, by go_num⟩
                case measure => simp [intOf]; omega
              · have hn1 := HR.out (fun h => by rw [h] at h4; revert h4; decide) (fun h => by rw [h] at h5; revert h5; decide)
                rw [hn1] at hnm
                simp only [errN, if_true] at hnm
                clear hn1
                go_wp2_with (first | (go_at_call 17; refine (hpx _).mono ?_; rintro e w' ⟨rfl, rfl⟩) | (go_at_call 16; refine (hnm _).mono ?_; rintro e w' ⟨rfl, rfl⟩))
                go_round
                case rel => exact ⟨m + 1 + 1, by omega, by go_num⟩
                case measure => simp [intOf]; omega
        · obtain rfl : k = s.size + 1 := by omega
          go_wp2_with fail
          go_ret
          exact ⟨rfl, f1⟩
  · exact partsN_long w s hb0
end Go.Proofs.YtahcopmdffengaaDoor
