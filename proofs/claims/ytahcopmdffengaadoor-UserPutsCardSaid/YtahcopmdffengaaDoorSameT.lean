/- interrexlaw07.SameTexts, slices.Equal over texts: as interrexlaw01.same. -/
import Derived.Test.YtahcopmdffengaaDoorSame
namespace Go.Proofs.YtahcopmdffengaaDoor
open Go.RowKit
set_option maxHeartbeats 1600000 in
theorem equalS_calls (w : World) (A B : Option Addr) (c d n n' : Nat) (l m : List ByteArray) (ha : RowAt w A (strs l)) (hb : RowAt w B (strs m)) (HN : Hid (l.length = n)) (HN' : Hid (m.length = n')) (hl : n ≤ 9223372036854775807) :
    Calls Tryd.prog 58 #[.slice A n c, .slice B n' d] w (BoolPost w (decide (l = m))) := by
  by_cases hnm : n = n'
  · subst hnm
    have h1 : ((n : Int) != (n : Int)) = false := by simp
    go_enter Tryd.func58, Tryd.ntmps58
    go_wp2_with fail
    go_loopw [13] (fun i wr => ∃ k : Nat, k ≤ n ∧ i = .int .i64 k ∧ l.take k = m.take k ∧ Fr noB w wr) (fun i _ => n - (intOf i).toNat)
    case atStart => exact ⟨0, Nat.zero_le _, rfl, rfl, Fr.refl _ _⟩
    case round =>
      obtain ⟨k, hk, rfl, he, hf⟩ := hrel
      by_cases hkn : k < n
      · obtain ⟨s, hs⟩ : ∃ s, l[k]? = some s := ⟨_, List.getElem?_eq_getElem (by rw [HN.out]; exact hkn)⟩
        obtain ⟨t, ht⟩ : ∃ s, m[k]? = some s := ⟨_, List.getElem?_eq_getElem (by rw [HN'.out]; exact hkn)⟩
        obtain ⟨a, rfl⟩ := strs_pos ha hs
        obtain ⟨b, rfl⟩ := strs_pos hb ht
        have ca : wr.cell? (a.add k) = some (.string s) := hf.cell (ha.cell (strs_get hs)) id
        have cb : wr.cell? (b.add k) = some (.string t) := hf.cell (hb.cell (strs_get ht)) id
        have HE := hid he; clear he
        have HS := hid hs; clear hs
        have HT := hid ht; clear ht
        by_cases hst : s = t
        · subst hst
          go_wp2_with fail
          go_quiet (fail)
          go_wp2_with fail
          go_roundw
          case rel => exact ⟨k + 1, by omega, by go_num, by rw [take_snoc' HS.out, take_snoc' HT.out, HE.out], hf.drewN _⟩
          case measure => simp [intOf]; omega
        · have h2 : (s.toList == t.toList) = false := by rw [str_eq]; exact decide_eq_false hst
          have HST := hid hst; clear hst
          go_wp2_with fail
          go_quiet (fail)
          go_wp2_with fail
          go_ret
          refine BoolPost.mk' ?_ (hf.drewN _)
          symm; rw [decide_eq_false_iff_not]; rintro rfl
          have := HS.out.symm.trans HT.out
          exact HST.out (by simpa using this)
      · have : k = n := by omega
        subst this
        have HE := hid he; clear he
        go_wp2_with fail
        go_ret
        refine BoolPost.mk' ?_ hf
        symm; rw [decide_eq_true_iff]
        have := HE.out
        rw [List.take_of_length_le (by rw [HN.out]; exact Nat.le_refl _), List.take_of_length_le (by rw [HN'.out]; exact Nat.le_refl _)] at this
        exact this
  · have h1 : ((n : Int) != (n' : Int)) = true := by simp; omega
    go_enter Tryd.func58, Tryd.ntmps58
    go_wp2_with fail
    go_ret
    refine BoolPost.mk' ?_ (Fr.refl _ _)
    symm; rw [decide_eq_false_iff_not]; rintro rfl; exact hnm (HN.out.symm.trans HN'.out)

end Go.Proofs.YtahcopmdffengaaDoor
