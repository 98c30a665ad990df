/- user.first, groups, mail. -/
import Derived.Test.YtahcopmdffengaaDoorUs1
import Derived.Test.YtahcopmdffengaaDoorUs0
import Derived.Test.YtahcopmdffengaaDoorNm11
import Derived.Test.YtahcopmdffengaaDoorBlk
import Derived.Test.YtahcopmdffengaaDoorCalmH
namespace Go.Proofs.YtahcopmdffengaaDoor
open Go.RowKit
/-- The first error of two. -/
def firstE (x y : Nat) : Nat := if x = 0 then y else x
theorem row2_of {w : World} {B : Nat} {T : TypeId} {x y : Value} (h : BlkAt w B T #[x, y]) : RowAt w (some ⟨B, 0, none⟩) [x, y] := fun j u hu => by
  refine ⟨_, rfl, ?_⟩
  match j, hu with
  | 0, hu => simp at hu; subst hu; exact h.cell rfl
  | 1, hu => simp at hu; subst hu; exact h.cell rfl
  | j + 2, hu => simp at hu
set_option maxRecDepth 100000 in
set_option maxHeartbeats 800000 in
theorem firstE_calls (w : World) (B : Nat) (T : TypeId) (x y : Nat) (h : BlkAt w B T #[.int .i64 x, .int .i64 y]) : Calls Tryd.prog 54 #[.slice (some ⟨B, 0, none⟩) 2 2] w (fun e w' => e = .returned (.int .i64 (firstE x y : Nat)) ∧ w = w') := by
  obtain ⟨x0, x1, xf⟩ := BlkAt.c2 h
  have HV : Hid (∀ z, (x ≠ 0 → x = z → firstE x y = z) ∧ (x = 0 → y = z → firstE x y = z)) := fun z => by
    unfold firstE
    exact ⟨fun h1 h2 => by rw [if_neg h1]; exact h2, fun h1 h2 => by rw [if_pos h1]; exact h2⟩
  go_enter Tryd.func54, Tryd.ntmps54
  go_wp2_with fail
  go_loop [7] (fun i => ∃ k : Nat, k ≤ 2 ∧ i = .int .i64 k ∧ Hid ((1 ≤ k → x = 0) ∧ (2 ≤ k → y = 0))) (fun i => 2 - (intOf i).toNat)
  case atStart => exact ⟨0, by omega, rfl, fun h => absurd h (by omega), fun h => absurd h (by omega)⟩
  case round =>
    obtain ⟨k, hk, rfl, HK⟩ := hrel
    match k, hk with
    | 0, _ =>
      obtain ⟨b, hb⟩ : ∃ b, ((x : Int) != 0) = b := ⟨_, rfl⟩
      cases b
      · have HX := hid (show x = 0 by have := bne_eq_false_iff_eq.mp hb; omega)
        go_wp2_with fail
        go_round
        case rel => exact ⟨1, by omega, by go_num, fun _ => HX.out, fun h => absurd h (by omega)⟩
        case measure => simp [intOf]
      · have HX := hid (show x ≠ 0 by have := bne_iff_ne.mp hb; omega)
        go_wp2_with fail
        go_ret
        exact ⟨by rw [(HV.out x).1 HX.out rfl]; rfl, rfl⟩
    | 1, _ =>
      obtain ⟨b, hb⟩ : ∃ b, ((y : Int) != 0) = b := ⟨_, rfl⟩
      have HX := hid (HK.out.1 (by omega))
      cases b
      · have HY := hid (show y = 0 by have := bne_eq_false_iff_eq.mp hb; omega)
        go_wp2_with fail
        go_round
        case rel => exact ⟨2, by omega, by go_num, fun _ => HX.out, fun _ => HY.out⟩
        case measure => simp [intOf]
      · go_wp2_with fail
        go_ret
        exact ⟨by rw [(HV.out y).2 HX.out rfl]; rfl, rfl⟩
    | 2, _ =>
      have HX := hid (HK.out.1 (by omega))
      have HY := hid (HK.out.2 (by omega))
      go_wp2_with fail
      go_ret
      exact ⟨by rw [(HV.out 0).2 HX.out HY.out]; rfl, rfl⟩
theorem groupsE_over {l : List ByteArray} (h : 6 < l.length) : groupsE l = 7 := by unfold groupsE; rw [if_pos h]
theorem groupsE_name {l : List ByteArray} {j : Nat} {g : ByteArray} (h : ¬ 6 < l.length) (hg : l[j]? = some g) (hn : nameS g = false) : groupsE l = 10 := by
  unfold groupsE
  rw [if_neg h, if_neg]
  intro h2
  rw [List.all_eq_true] at h2
  have := h2 g (List.mem_of_getElem? hg)
  rw [hn] at this; exact absurd this (by decide)
theorem groupsE_rise {l : List ByteArray} {b : Bool} (h : ¬ 6 < l.length) (hn : l.all nameS = true) (hr : risesS l = b) : groupsE l = if b then 0 else 9 := by
  unfold groupsE
  rw [if_neg h, if_pos hn, hr]
theorem risesS_no {l : List ByteArray} {i : Nat} {s t : ByteArray} (h1 : l[i]? = some s) (h2 : l[i + 1]? = some t) (hc : ¬ cmpS s t < 0) : risesS l = false := by
  rw [Bool.eq_false_iff]
  intro h
  obtain ⟨h3, e3⟩ := List.getElem?_eq_some_iff.mp h1
  obtain ⟨h4, e4⟩ := List.getElem?_eq_some_iff.mp h2
  have := (risesS_get l).mp h i h4
  rw [e3, e4] at this
  exact hc this
theorem risesS_yes {l : List ByteArray} (h : ∀ i s t, l[i]? = some s → l[i + 1]? = some t → cmpS s t < 0) : risesS l = true :=
  (risesS_get l).mpr fun i hi => h i _ _ (List.getElem?_eq_getElem (by omega)) (List.getElem?_eq_getElem hi)
set_option maxRecDepth 100000 in
set_option maxHeartbeats 1600000 in
theorem groups_calls (w : World) (A : Option Addr) (n c : Nat) (l : List ByteArray) (hx : RowAt w A (strs l)) (HN : Hid (l.length = n)) :
    Calls Tryd.prog 56 #[.slice A n c] w (fun e w' => e = .returned (.int .i64 (groupsE l : Nat)) ∧ Fr noB w w') := by
  obtain ⟨b0, hb0⟩ : ∃ b, decide ((6 : Int) < n) = b := ⟨_, rfl⟩
  cases b0
  · have H6 := hid (show ¬ 6 < l.length by have := of_decide_eq_false hb0; rw [HN.out]; omega)
    have hn : n ≤ 6 := by have := of_decide_eq_false hb0; omega
    go_enter Tryd.func56, Tryd.ntmps56
    go_wp2_with fail
    go_loop [12] (fun i => ∃ k : Nat, k ≤ n ∧ i = .int .i64 k ∧ Hid (∀ s ∈ l.take k, nameS s = true)) (fun i => n - (intOf i).toNat)
    case atStart => exact ⟨0, by omega, rfl, fun s h => by simp at h⟩
    case round =>
      obtain ⟨k, hk, rfl, HK⟩ := hrel
      by_cases hkn : k < n
      · obtain ⟨s, hs⟩ : ∃ s, l[k]? = some s := ⟨_, List.getElem?_eq_getElem (by rw [HN.out]; exact hkn)⟩
        obtain ⟨a, rfl⟩ := strs_pos hx hs
        have ca : w.cell? (a.add k) = some (.string s) := hx.cell (strs_get hs)
        have hnm := fun W => name_any W s
        have HG := hid hs; clear hs
        obtain ⟨v, hv⟩ : ∃ v, nameS s = v := ⟨_, rfl⟩
        rw [hv] at hnm
        cases v
        · simp only [errN, Bool.false_eq_true, if_false] at hnm
          have HV := hid (groupsE_name H6.out HG.out hv)
          clear hv
          go_wp2_with (refine (hnm _).mono ?_; rintro e w' ⟨rfl, rfl⟩)
          go_ret
          exact ⟨by rw [HV.out]; rfl, Fr.refl _ _⟩
        · simp only [errN, if_true] at hnm
          have HV := hid hv
          clear hv
          go_wp2_with (refine (hnm _).mono ?_; rintro e w' ⟨rfl, rfl⟩)
          go_round
          case rel => exact ⟨k + 1, by omega, by go_num, fun s' h' => by
            rw [take_snoc' HG.out, List.mem_append] at h'
            rcases h' with h' | h'
            · exact HK.out s' h'
            · rw [List.mem_singleton] at h'; subst h'; exact HV.out⟩
          case measure => simp [intOf]; omega
      · obtain rfl : k = n := by omega
        have HA : Hid (l.all nameS = true) := by
          unfold Hid
          rw [List.all_eq_true]
          intro s hs
          exact HK.out s (by rw [List.take_of_length_le (by rw [HN.out]; exact Nat.le_refl _)]; exact hs)
        clear HK
        go_wp2_with fail
        go_loopw [6] (fun i wr => Fr noB w wr ∧ ∃ j : Nat, 1 ≤ j ∧ (j ≤ k ∨ j = 1) ∧ i = .int .i64 j ∧ Hid (∀ i s t, i + 1 < j → l[i]? = some s → l[i + 1]? = some t → cmpS s t < 0)) (fun i _ => k - (intOf i).toNat)
        case atStart => exact ⟨Fr.refl _ _, 1, by omega, Or.inr rfl, rfl, fun i s t h => absurd h (by omega)⟩
        case round =>
          obtain ⟨fr, j, hj1, hj2, rfl, HJ⟩ := hrel
          by_cases hjk : j < k
          · obtain ⟨m, hm⟩ : ∃ m, j = m + 1 := ⟨j - 1, by omega⟩
            obtain ⟨s, hs⟩ : ∃ s, l[m]? = some s := ⟨_, List.getElem?_eq_getElem (by rw [HN.out]; omega)⟩
            obtain ⟨t, ht⟩ : ∃ s, l[j]? = some s := ⟨_, List.getElem?_eq_getElem (by rw [HN.out]; exact hjk)⟩
            obtain ⟨a, rfl⟩ := strs_pos hx hs
            have ca : wr.cell? (a.add m) = some (.string s) := fr.cell (hx.cell (strs_get hs)) id
            have cb : wr.cell? (a.add j) = some (.string t) := fr.cell (hx.cell (strs_get ht)) id
            have hsub : (j : Int) - 1 = m := by omega
            have hmk : m < k := by omega
            have HT := hid ht; clear ht
            have HG := hid hs; clear hs
            have HM := hid hm; clear hm
            rcases cmpS_cases s t with ⟨h1, h2⟩ | ⟨h1, h3, h2⟩ | ⟨h1, h3, h2⟩
            · have HC := hid h2; clear h2
              go_wp2_with fail
              go_quiet (fail)
              go_wp2_with fail
              go_roundw
              case rel => exact ⟨fr.drewN _, j + 1, by omega, Or.inl (by omega), by go_num, fun i s' t' h1 h2 h3 => by
                have hm := HM.out
                by_cases he : i + 1 < j
                · exact HJ.out i s' t' he h2 h3
                · obtain rfl : i = m := by omega
                  rw [← hm] at h3
                  have e1 := Option.some.inj (h2.symm.trans HG.out)
                  have e2 := Option.some.inj (h3.symm.trans HT.out)
                  subst e1; subst e2; rw [HC.out]; decide⟩
              case measure => simp [intOf]; omega
            all_goals
              have HC := hid h2; clear h2
              go_wp2_with fail
              go_quiet (fail)
              go_wp2_with fail
              go_ret
              have hr := risesS_no HG.out (HM.out ▸ HT.out) (by rw [HC.out]; decide)
              exact ⟨by rw [groupsE_rise H6.out HA.out hr]; rfl, fr.drewN _⟩
          · have HJK := hid (show k ≤ j ∧ (j ≤ k ∨ k ≤ 1) by omega)
            go_wp2_with fail
            go_ret
            have hr : risesS l = true := risesS_yes fun i s t h1 h2 => by
              have hi : i + 1 < l.length := (List.getElem?_eq_some_iff.mp h2).1
              rw [HN.out] at hi
              exact HJ.out i s t (by have := HJK.out; omega) h1 h2
            exact ⟨by rw [groupsE_rise H6.out HA.out hr]; rfl, fr⟩
  · have HV := hid (groupsE_over (l := l) (by have := of_decide_eq_true hb0; rw [HN.out]; omega))
    go_enter Tryd.func56, Tryd.ntmps56
    go_wp2_with fail
    go_ret
    exact ⟨by rw [HV.out]; rfl, Fr.refl _ _⟩
set_option maxRecDepth 100000 in
set_option maxHeartbeats 800000 in
theorem mailU_calls (w : World) (s : ByteArray) : Calls Tryd.prog 55 #[.string s] w (fun e w' => e = .returned (.int .i64 (errN (mailOk s) 11 : Nat)) ∧ Fr noB w w') := by
  have hm := mail_any w s
  by_cases h0 : s.size = 0
  · have HV : Hid (mailOk s = true) := by unfold Hid mailOk; simp [h0]
    have he : s = ⟨#[]⟩ := by
      have : s.data.size = 0 := h0
      cases s; rename_i d; simp at this; simp [this]
    subst he
    clear hm h0
    go_enter Tryd.func55, Tryd.ntmps55
    go_wp2_with fail
    go_ret
    exact ⟨by rw [HV.out]; rfl, Fr.refl _ _⟩
  · have hie : s.toList.isEmpty = false := by
      cases h : s.toList with
      | nil =>
        have : s.toList.length = s.size := by rw [ByteArray.toList_eq]; simp
        rw [h] at this; simp at this; omega
      | cons a l => rfl
    obtain ⟨v, hv⟩ : ∃ v, mailV s = v := ⟨_, rfl⟩
    obtain ⟨d, hd⟩ : ∃ d, (mailT s).toList = s.toList ∧ d = true ∨ ¬ (mailT s).toList = s.toList ∧ d = false := by
      by_cases h : (mailT s).toList = s.toList
      · exact ⟨true, Or.inl ⟨h, rfl⟩⟩
      · exact ⟨false, Or.inr ⟨h, rfl⟩⟩
    have hd2 : ((mailT s).toList == s.toList) = d := by
      rcases hd with ⟨h, rfl⟩ | ⟨h, rfl⟩
      · rw [h]; simp
      · rw [beq_eq_false_iff_ne]; exact h
    have hd3 : decide (mailT s = s) = d := by
      rw [← hd2, str_eq]
    have HV : Hid (mailOk s = (v && d)) := by unfold Hid mailOk; rw [hv, hd3]; simp [h0]
    rw [hv] at hm
    clear hd hd3 hv h0
    generalize mailT s = t at *
    cases v <;> cases d
    all_goals
      simp only [errN, if_true, Bool.false_eq_true, if_false] at hm
      go_enter Tryd.func55, Tryd.ntmps55
      go_wp2_with fail
      refine hm.mono ?_
      rintro e w' ⟨rfl, f1⟩
      go_wp2_with fail
      go_ret
      exact ⟨by rw [HV.out]; rfl, f1⟩
end Go.Proofs.YtahcopmdffengaaDoor
