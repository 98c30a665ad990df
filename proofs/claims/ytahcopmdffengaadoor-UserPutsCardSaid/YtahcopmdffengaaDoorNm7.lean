/- name.Mail. -/
import Derived.Test.YtahcopmdffengaaDoorNm6
namespace Go.Proofs.YtahcopmdffengaaDoor
open Go.RowKit
/-- A label: not empty, and of letters and digits. -/
def labelB (p : List UInt8) : Bool := decide (p ≠ []) && p.all fun b => mailB b.toNat
/-- A folded text: is it an address? -/
def mailOK (l : List UInt8) : Bool := decide (atB 64 l < l.length) && nameS (mkS (l.take (atB 64 l))) && (decide (2 ≤ (splitL 46 (l.drop (atB 64 l + 1))).length) && (splitL 46 (l.drop (atB 64 l + 1))).all labelB)
def mailV (s : ByteArray) : Bool := decide (s.size ≤ 20) && mailOK (foldL s.data.toList)
def mailT (s : ByteArray) : ByteArray := if mailV s then mkS (foldL s.data.toList) else ⟨#[]⟩
theorem split_small (c : UInt8) : ∀ (l p : List UInt8), p ∈ splitL c l → p.length ≤ l.length
  | [], p, h => by simp [splitL] at h; subst h; exact Nat.le_refl _
  | b :: l, p, h => by
    unfold splitL at h
    by_cases hb : b = c
    · rw [if_pos hb] at h
      rcases List.mem_cons.1 h with rfl | h
      · simp
      · have := split_small c l p h; simp; omega
    · rw [if_neg hb] at h
      cases hs : splitL c l with
      | nil => rw [hs] at h; simp at h; subst h; simp
      | cons q qs =>
        rw [hs] at h
        have ih := fun x hx => split_small c l x (by rw [hs]; exact hx)
        rcases List.mem_cons.1 h with rfl | h
        · have := ih q (List.mem_cons_self ..); simp; omega
        · have := ih p (List.mem_cons_of_mem _ h); simp; omega
theorem allS_mk (is : Nat → Bool) (p : List UInt8) : allS is (mkS p) = p.all fun b => is b.toNat := rfl
set_option maxRecDepth 100000 in
set_option maxHeartbeats 800000 in
theorem mail_calls (w : World) (s : ByteArray) (hs : s.size ≤ 1000000) : Calls Tryd.prog 12 #[.string s] w (fun e w' => e = .returned (.tuple #[.string (mailT s), .int .i64 (errN (mailV s) 11)]) ∧ Fr noB w w') := by
  obtain ⟨b0, hb0⟩ : ∃ b, decide ((20 : Int) < s.size) = b := ⟨_, rfl⟩
  cases b0
  · have hle : s.size ≤ 20 := by have := of_decide_eq_false hb0; omega
    have HV : Hid (mailV s = mailOK (foldL s.data.toList)) := by unfold Hid mailV; rw [decide_eq_true hle, Bool.true_and]
    have HT : Hid (mailT s = if mailOK (foldL s.data.toList) then mkS (foldL s.data.toList) else ⟨#[]⟩) := by unfold Hid mailT; rw [HV.out]
    have hfo := fold_calls w s hs
    have hfl : (foldL s.data.toList).length ≤ 20 := by unfold foldL; rw [List.length_map]; simpa using hle
    generalize foldL s.data.toList = l at *
    have hcu := fun W => cutS_calls W (mkS l) 64 (by rw [mkS_size]; omega)
    rw [mkS_data] at hcu
    clear hle
    go_enter Tryd.func12, Tryd.ntmps12
    go_wp2_with fail
    refine hfo.mono ?_
    rintro e w1 ⟨rfl, f1⟩
    by_cases hat : atB 64 l < l.length
    · have hcu1 := hcu w1
      rw [if_pos hat] at hcu1
      have hdl : (l.drop (atB 64 l + 1)).length ≤ 20 := by rw [List.length_drop]; omega
      have htl : (l.take (atB 64 l)).length ≤ 20 := by rw [List.length_take]; omega
      have HOK : Hid (mailOK l = (nameS (mkS (l.take (atB 64 l))) && (decide (2 ≤ (splitL 46 (l.drop (atB 64 l + 1))).length) && (splitL 46 (l.drop (atB 64 l + 1))).all labelB))) := by
        unfold Hid mailOK; rw [decide_eq_true hat, Bool.true_and]
      generalize l.take (atB 64 l) = p at *
      generalize l.drop (atB 64 l + 1) = r at *
      have hsp := fun W => split_calls W (mkS r) (by rw [mkS_size]; omega)
      have hna := fun W => isName_calls W (mkS p) (by rw [mkS_size]; omega)
      rw [mkS_data] at hsp
      clear hcu hat
      go_wp2_with fail
      refine hcu1.mono ?_
      rintro e w2 ⟨rfl, f2⟩
      go_wp2_with fail
      refine (hsp w2).mono ?_
      rintro e w3 ⟨A, n, c, rfl, hln, hrow, hn, f3⟩
      have F3 := (f1.then' f2).then' f3
      have hna3 := hna w3
      have hsm := fun q hq => split_small 46 r q hq
      generalize splitL 46 r = ps at *
      have HLN := hid hln
      obtain ⟨b2, hb2⟩ : ∃ b, decide ((n : Int) < 2) = b := ⟨_, rfl⟩
      have hb2' : decide (2 ≤ ps.length) = !b2 := by rw [hln, ← hb2, Bool.eq_iff_iff]; simp; omega
      have hb3 : decide (n < 2) = b2 := by rw [← hb2]; exact decide_eq_decide.2 (by omega)
      rw [hb2'] at HOK
      have hl3 : ∀ (k : Nat) (q : List UInt8), ps[k]? = some q → ∃ ad, A = some ad ∧ w3.cell? (ad.add k) = some (.string (mkS q)) := fun k q hq => by
        obtain ⟨ad, e, hc⟩ := hrow k (.string (mkS q)) (by rw [List.getElem?_map, hq]; rfl)
        exact ⟨ad, e, hc⟩
      have hres : Hid (Tryd.f12.results = #[.tmp 2, .tmp 3]) := by unfold Hid; kernel_rfl
      clear hna hrow hsp hln hb2' hcu1 f1 f2 f3 hfo
      generalize nameS (mkS p) = b1 at *
      cases b1
      · have hm : mailOK l = false := by rw [HOK.out]; rfl
        rw [hm] at HV HT
        have HM := hid hm
        clear hm hl3 hsm hb2 hb3
        go_wp2_with (go_at_call 43; refine hna3.mono ?_; rintro e w' ⟨rfl, rfl⟩)
        go_ret2
        exact ⟨by rw [HV.out, HT.out]; rfl, F3⟩
      · cases b2
        · go_wp2_with (go_at_call 43; refine hna3.mono ?_; rintro e w' ⟨rfl, rfl⟩)
          go_loopw [37] (fun i wr => ∃ k : Nat, k ≤ n ∧ i = .int .i64 k ∧ (ps.take k).all labelB = true ∧ Fr noB w3 wr) (fun i _ => n - (intOf i).toNat)
          case atStart => exact ⟨0, Nat.zero_le _, rfl, by simp, Fr.refl _ _⟩
          case round =>
            obtain ⟨k, hk, rfl, hall, hf⟩ := hrel
            by_cases hkn : k < n
            · obtain ⟨q, hq⟩ : ∃ q, ps[k]? = some q := ⟨_, List.getElem?_eq_getElem (by rw [HLN.out]; exact hkn)⟩
              obtain ⟨ad, rfl, hc⟩ := hl3 k q hq
              have hc' := hf.cell hc id
              have hq20 := hsm q (List.mem_of_getElem? hq)
              have HSN : Hid ((ps.take (k + 1)).all labelB = ((ps.take k).all labelB && labelB q)) := by
                unfold Hid; rw [take_snoc' hq, List.all_append]; simp
              have HNO : Hid (labelB q = false → ps.all labelB = false) := by
                intro h
                rw [List.all_eq_false]
                exact ⟨q, List.mem_of_getElem? hq, by simp [h]⟩
              have hal := all_mailS wr (mkS q) (by rw [mkS_size]; omega)
              rw [allS_mk] at hal
              have HLB : Hid (labelB q = (decide (q ≠ []) && q.all fun b => mailB b.toNat)) := rfl
              have HALL := hid hall
              clear hl3 hc hq hall
              by_cases hq0 : q = []
              · subst hq0
                have hm : mailOK l = false := by rw [HOK.out, HNO.out rfl]; rfl
                rw [hm] at HV HT
                have HM := hid hm
                have hz0 : mkS [] = ⟨#[]⟩ := rfl
                rw [hz0] at hc'
                clear hm hal hz0
                go_wp2_with fail
                go_ret2
                exact ⟨by rw [HV.out, HT.out]; rfl, F3.then' hf⟩
              · have hie := isEmpty_of (s := mkS q) (by rw [mkS_size]; have := List.length_pos_iff.2 hq0; omega)
                rw [decide_eq_true hq0, Bool.true_and] at HLB
                generalize (q.all fun b => mailB b.toNat) = bq at *
                have HLB2 := HLB
                clear hq0
                cases bq
                · have hm : mailOK l = false := by rw [HOK.out, HNO.out HLB.out]; rfl
                  rw [hm] at HV HT
                  have HM := hid hm
                  clear hm
                  go_wp2_with (refine hal.mono ?_; rintro e w' ⟨rfl, rfl⟩)
                  go_ret2
                  exact ⟨by rw [HV.out, HT.out]; rfl, F3.then' hf⟩
                · go_wp2_with (refine hal.mono ?_; rintro e w' ⟨rfl, rfl⟩)
                  go_roundw
                  case rel => exact ⟨k + 1, by omega, by go_num, by rw [HSN.out, HALL.out, HLB.out]; rfl, hf⟩
                  case measure => simp [intOf]; omega
            · obtain rfl : k = n := by omega
              rw [List.take_of_length_le (by rw [HLN.out]; exact Nat.le_refl _)] at hall
              have hm : mailOK l = true := by rw [HOK.out, hall]; rfl
              rw [hm] at HV HT
              have HM := hid hm
              clear hm hall
              go_wp2_with fail
              go_ret2
              exact ⟨by rw [HV.out, HT.out]; rfl, F3.then' hf⟩
        · have hm : mailOK l = false := by rw [HOK.out]; rfl
          rw [hm] at HV HT
          have HM := hid hm
          clear hm hl3 hsm
          go_wp2_with (go_at_call 43; refine hna3.mono ?_; rintro e w' ⟨rfl, rfl⟩)
          go_ret2
          exact ⟨by rw [HV.out, HT.out]; rfl, F3⟩
    · have hcu1 := hcu w1
      rw [if_neg hat] at hcu1
      have hm : mailOK l = false := by unfold mailOK; rw [decide_eq_false hat]; rfl
      rw [hm] at HV HT
      have hsp := fun W => split_calls W ⟨#[]⟩ (by decide)
      have HM := hid hm
      clear hcu hat hm
      go_wp2_with fail
      refine hcu1.mono ?_
      rintro e w2 ⟨rfl, f2⟩
      go_wp2_with fail
      refine (hsp w2).mono ?_
      rintro e w3 ⟨A, n, c, rfl, hln, hrow, hn, f3⟩
      have F3 := (f1.then' f2).then' f3
      clear hln hrow f1 f2 f3 hsp
      go_wp2_with fail
      go_ret2
      exact ⟨by rw [HV.out, HT.out]; rfl, F3⟩
  · have HV : Hid (mailV s = false) := by unfold Hid mailV; rw [decide_eq_false (by have := of_decide_eq_true hb0; omega)]; rfl
    have HT : Hid (mailT s = ⟨#[]⟩) := by unfold Hid mailT; rw [HV.out]; rfl
    go_enter Tryd.func12, Tryd.ntmps12
    go_wp2_with fail
    go_ret2
    exact ⟨by rw [HV.out, HT.out]; rfl, Fr.refl _ _⟩
end Go.Proofs.YtahcopmdffengaaDoor
