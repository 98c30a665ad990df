/- interrexref14.Get. -/
import Derived.Test.YtcaihinenfnekaaDoorOpRefP
import Derived.Deep.Cut
namespace Go.Proofs.YtcaihinenfnekaaDoor
open Go.RowKit

def RepRPost (w : World) (q : (Nat × List ByteArray) × Nat) (e : Ending) (w' : World) : Prop :=
  ∃ A n c, e = .returned (.tuple #[.agg #[.int .i64 (q.1.1 : Nat), .slice A n c], .int .i64 (q.2 : Nat)]) ∧ Hid (q.1.2.length = n) ∧ RowAt w' A (strs q.1.2) ∧ (∀ ad, A = some ad → w.heap.size ≤ ad.block) ∧ Fr noB w w'
theorem repGet_18 {bs : List UInt8} (h : 18 < (rNum ⟨bs, 0⟩ 1).2) : repGet bs = ((0, []), 4) := by
  have h1 : repR1 bs = ⟨[], 4⟩ := by
    unfold repR1; rw [if_pos h]
    unfold rFail; rw [if_pos ⟨rNum_pos (fun h => absurd rfl h) (by omega), by decide⟩]
  have h2 : rRow ⟨[], 4⟩ 400 400 = (⟨[], 4⟩, []) := rfl
  have h3 : repR3 bs = ⟨[], 4⟩ := by
    unfold repR3; rw [h1, h2, if_neg (by simp)]
  unfold repGet
  rw [h3, if_neg (by decide)]; rfl
theorem rRow_inv {r : Rd} (hi : r.inv) (m l : Int) : (rRow r m l).1.inv := by
  have : (rCount r m).1.inv := by
    unfold rCount; split
    · exact rFail_inv _ (rNum_inv 2 hi)
    · exact rNum_inv 2 hi
  exact rTexts_inv this l _
theorem rRow_left (r : Rd) (m l : Int) : (rRow r m l).1.bs.length ≤ r.bs.length := Nat.le_trans (rTexts_left _ _ _) (rCount_left r m)
theorem fr_s2 (w : World) (b : Nat) (u0 u1 : Value) : Fr (eqB b) w ((w.setCell ⟨b, 0, none⟩ u0).setCell ⟨b, 1, none⟩ u1) := (fr_set1 w b 0 u0).then' (fr_set1 _ b 1 u1)

set_option maxRecDepth 100000 in
set_option maxHeartbeats 3200000 in
theorem opGetR_calls (w : World) (bs : List UInt8) (hl : bs.length ≤ 1000000000000) :
    Calls Tryd.prog 58 #[.string (mkS bs)] w (RepRPost w (repGet bs)) := by
  have hb0 : BlkAt (w.alloc (.cells #[.int .i64 0, .slice none 0 0] 103)) w.heap.size 103 #[.int .i64 0, .slice none 0 0] := BlkAt.new _ _ _
  have f0 : Fr noB w (w.alloc (.cells #[.int .i64 0, .slice none 0 0] 103)) := (Fr.refl noB w).alloc _
  have hz0 := al_size w (.cells #[.int .i64 0, .slice none 0 0] 103)
  have hr : Hid (Tryd.f58.results = #[.cell 2 103, .tmp 3]) := by unfold Hid; kernel_rfl
  have hg := fun W => getR_calls W ⟨bs, 0⟩ 1 (fun h => absurd rfl h) hl (by decide)
  have H18 := @repGet_18 bs
  have HV : Hid (repGet bs = if rEnd (repR3 bs) = 0 then (((rNum ⟨bs, 0⟩ 1).2, (rRow (repR1 bs) 400 400).2), 0) else ((0, []), rEnd (repR3 bs))) := rfl
  have H3 : Hid (repR3 bs = if (rNum ⟨bs, 0⟩ 1).2 ≠ 0 ∧ 0 < (rRow (repR1 bs) 400 400).2.length then rFail (rRow (repR1 bs) 400 400).1 4 else (rRow (repR1 bs) 400 400).1) := rfl
  have H1 : Hid (repR1 bs = if 18 < (rNum ⟨bs, 0⟩ 1).2 then rFail (rNum ⟨bs, 0⟩ 1).1 4 else (rNum ⟨bs, 0⟩ 1).1) := rfl
  have hi1 := rNum_inv (r := ⟨bs, 0⟩) 1 (fun h => absurd rfl h)
  have hl1 : (rNum ⟨bs, 0⟩ 1).1.bs.length ≤ bs.length := rTake_left ⟨bs, 0⟩ 1
  have hk := rNum_lt ⟨bs, 0⟩ 1
  generalize repGet bs = res at *
  generalize repR3 bs = r3 at *
  generalize repR1 bs = r1 at *
  generalize rNum ⟨bs, 0⟩ 1 = q1 at *
  obtain ⟨⟨b1, e1⟩, k⟩ := q1
  simp only [Rd.val] at *
  have hk256 := hid hk
  clear hk
  go_enter Tryd.func58, Tryd.ntmps58
  go_wp2_with fail
  generalize (w.alloc (.cells #[.int .i64 0, .slice none 0 0] 103)) = wa at *
  refine (hg wa).mono ?_
  rintro e w2 ⟨rfl, f2⟩
  replace hb0 := (hb0.fr f2 id).al (.cells #[.string (mkS b1), .int .i64 e1] 138)
  replace f0 := (f0.then' f2).alloc (.cells #[.string (mkS b1), .int .i64 e1] 138)
  have hbr : BlkAt (w2.alloc (.cells #[.string (mkS b1), .int .i64 e1] 138)) w2.heap.size 138 #[.string (mkS b1), .int .i64 e1] := BlkAt.new _ _ _
  have hpr : w.heap.size < w2.heap.size := by have := f2.size; omega
  clear f2 hg
  go_upto_region 2 with fail
  generalize hpre : w2.heap.size = pr at *
  generalize (w2.alloc (.cells #[.string (mkS b1), .int .i64 e1] 138)) = w3 at *
  have hlt3 := hbr.lt
  by_cases h18 : 18 < k
  · have d1 : decide ((18 : Int) < k) = true := decide_eq_true (by omega)
    have HR := hid (H18 h18)
    obtain ⟨y0, y1, yf⟩ := BlkAt.c2 hb0
    have FF := f0.trans (fr_s2 _ w.heap.size (.int .i64 0) (.slice none 0 0)) (fun i hi h => by unfold eqB at h; omega)
    clear h18 H18 HV H3 H1
    go_wp2_with fail
    have hr := hr.out
    exact bodyPost_ret (v := .tuple #[.agg #[.int .i64 0, .slice none 0 0], .int .i64 4]) (by simp [results, hr, go_sem, y0, y1]) rfl (by rw [HR.out]; exact ⟨none, 0, 0, rfl, rfl, RowAt.nil _ _, fun ad e => (by cases e), FF⟩)
  · have d1 : decide ((18 : Int) < k) = false := decide_eq_false (by omega)
    rw [if_neg h18] at H1
    have h1 : r1 = ⟨b1, e1⟩ := H1.out
    subst h1
    clear h18 H18 H1
    have hg := fun W => rowGetR_calls W ⟨b1, e1⟩ 400 400 hi1 (by simp only [] at *; omega) (by decide) (by decide) (by decide) (by decide)
    have hi2 := rRow_inv hi1 400 400
    generalize rRow ⟨b1, e1⟩ 400 400 = q2 at *
    obtain ⟨⟨b2, e2⟩, l2⟩ := q2
    unfold RowRPost at hg
    simp only [Rd.val] at hg
    simp only [] at *
    obtain ⟨y0, y1, yf⟩ := BlkAt.c2 hbr
    go_wp2_with fail
    refine (hg w3).mono ?_
    rintro e w4 ⟨A1, n1, c1', rfl, HN1, _, hro, hA1, f4⟩
    replace hb0 := hb0.fr f4 id
    replace hbr := hbr.fr f4 id
    have hs3 := f0.size
    have hA2 : ∀ ad, A1 = some ad → w.heap.size < ad.block ∧ pr < ad.block := fun ad e => by have := hA1 ad e; omega
    replace f0 := f0.then' f4
    clear f4 hg y0 y1 yf hA1
    obtain ⟨y0, y1, yf⟩ := BlkAt.c2 hbr
    have hne : ((k : Int) != 0) = decide (k ≠ 0) := by by_cases h : k = 0 <;> simp [h]
    obtain ⟨c1, hc1⟩ : ∃ c, ((k : Int) != 0) = c := ⟨_, rfl⟩
    have HC1 : Hid (c1 = true ↔ k ≠ 0) := by unfold Hid; rw [← hc1, hne, decide_eq_true_eq]
    obtain ⟨c2, hc2⟩ : ∃ c, decide (0 < n1) = c := ⟨_, rfl⟩
    have HC2 : Hid (c2 = true ↔ 0 < l2.length) := by unfold Hid; rw [← hc2, decide_eq_true_eq, HN1.out]
    have hkw : IntKind.i64.wrap (k : Int) = k := by have := hk256.out; rw [IntKind.wrap_i64]; omega
    clear hne
    go_upto_region 5 with fail
    replace hb0 : BlkAt ((w4.setCell ⟨pr, 0, none⟩ (.string (mkS b2))).setCell ⟨pr, 1, none⟩ (.int .i64 e2)) (w.heap.size) 103 #[.int .i64 0, .slice none 0 0] := ((hb0).fr (fr_set1 _ (pr) 0 (.string (mkS b2))) (by unfold eqB; omega)).fr (fr_set1 _ (pr) 1 (.int .i64 e2)) (by unfold eqB; omega)
    replace hbr : BlkAt ((w4.setCell ⟨pr, 0, none⟩ (.string (mkS b2))).setCell ⟨pr, 1, none⟩ (.int .i64 e2)) (pr) 138 #[.string (mkS b2), .int .i64 e2] := ((hbr).set 0 (.string (mkS b2))).set 1 (.int .i64 e2)
    replace f0 := ((f0).trans (fr_set1 _ (pr) 0 (.string (mkS b2))) (fun i hi h => by unfold eqB at h; omega)).trans (fr_set1 _ (pr) 1 (.int .i64 e2)) (fun i hi h => by unfold eqB at h; omega)
    replace hro := ((hro).fr (fr_set1 _ (pr) 0 (.string (mkS b2))) (fun ad e _ _ h => by have := hA2 ad e; unfold eqB at h; omega)).fr (fr_set1 _ (pr) 1 (.int .i64 e2)) (fun ad e _ _ h => by have := hA2 ad e; unfold eqB at h; omega)
    generalize ((w4.setCell ⟨pr, 0, none⟩ (.string (mkS b2))).setCell ⟨pr, 1, none⟩ (.int .i64 e2)) = w5 at *
    clear y0 y1 yf
    obtain ⟨y0, y1, yf⟩ := BlkAt.c2 hbr
    by_cases hb : c1 = true ∧ c2 = true
    · obtain ⟨rfl, rfl⟩ := hb
      rw [if_pos ⟨HC1.out.1 rfl, HC2.out.1 rfl⟩] at H3
      rw [H3.out] at HV
      clear H3
      have hf := failR_calls w5 ⟨b2, e2⟩ 4
      generalize rFail ⟨b2, e2⟩ 4 = q3 at *
      obtain ⟨b3, e3⟩ := q3
      simp only [Rd.val] at hf
      go_wp2_with fail
      refine hf.mono ?_
      rintro e w6 ⟨rfl, f6⟩
      replace hb0 := hb0.fr f6 id
      replace hbr := hbr.fr f6 id
      replace hro := hro.fr0 f6
      replace f0 := f0.then' f6
      clear f6 hf y0 y1 yf
      obtain ⟨y0, y1, yf⟩ := BlkAt.c2 hbr
      go_upto_region 7 with fail
      replace hb0 : BlkAt ((w6.setCell ⟨pr, 0, none⟩ (.string (mkS b3))).setCell ⟨pr, 1, none⟩ (.int .i64 e3)) (w.heap.size) 103 #[.int .i64 0, .slice none 0 0] := ((hb0).fr (fr_set1 _ (pr) 0 (.string (mkS b3))) (by unfold eqB; omega)).fr (fr_set1 _ (pr) 1 (.int .i64 e3)) (by unfold eqB; omega)
      replace hbr : BlkAt ((w6.setCell ⟨pr, 0, none⟩ (.string (mkS b3))).setCell ⟨pr, 1, none⟩ (.int .i64 e3)) (pr) 138 #[.string (mkS b3), .int .i64 e3] := ((hbr).set 0 (.string (mkS b3))).set 1 (.int .i64 e3)
      replace f0 := ((f0).trans (fr_set1 _ (pr) 0 (.string (mkS b3))) (fun i hi h => by unfold eqB at h; omega)).trans (fr_set1 _ (pr) 1 (.int .i64 e3)) (fun i hi h => by unfold eqB at h; omega)
      replace hro := ((hro).fr (fr_set1 _ (pr) 0 (.string (mkS b3))) (fun ad e _ _ h => by have := hA2 ad e; unfold eqB at h; omega)).fr (fr_set1 _ (pr) 1 (.int .i64 e3)) (fun ad e _ _ h => by have := hA2 ad e; unfold eqB at h; omega)
      generalize ((w6.setCell ⟨pr, 0, none⟩ (.string (mkS b3))).setCell ⟨pr, 1, none⟩ (.int .i64 e3)) = w7 at *
      clear y0 y1 yf
      obtain ⟨r0, r1, rf⟩ := BlkAt.c2 hbr
      by_cases he : e3 = 0
      · have t1 : ((e3 : Int) == 0) = true := by rw [beq_iff_eq]; omega
        have t2 : ((e3 : Int) != 0) = false := by rw [bne_eq_false_iff_eq]; omega
        by_cases hbn : b3 = []
        · have t3 : (mkS b3).toList.isEmpty = true := by rw [hbn, mkS_toList]; rfl
          have he0 : rEnd ⟨b3, e3⟩ = 0 := by rw [he, hbn]; rfl
          rw [he0] at HV
          obtain ⟨y0, y1, yf⟩ := BlkAt.c2 hb0
          have FF := f0.trans (fr_s2 w7 w.heap.size (.int .i64 k) (.slice A1 n1 c1')) (fun i hi h => by unfold eqB at h; omega)
          have hro' := hro.fr (fr_s2 w7 w.heap.size (.int .i64 k) (.slice A1 n1 c1')) (fun ad e _ _ h => by have := hA2 ad e; unfold eqB at h; omega)
          clear he0 he hbn
          go_wp2_with fail
          have hr := hr.out
          exact bodyPost_ret (v := .tuple #[.agg #[.int .i64 k, .slice A1 n1 c1'], .int .i64 0]) (by simp [results, hr, go_sem, y0, y1]) rfl (by rw [HV.out]; exact ⟨A1, n1, c1', rfl, HN1, hro', fun ad e => by have := (hA2 ad e).1; omega, FF⟩)
        · have t3 : (mkS b3).toList.isEmpty = false := by rw [mkS_toList]; cases hh : b3 <;> first | rfl | exact absurd hh hbn
          have he0 : rEnd ⟨b3, e3⟩ = 3 := by unfold rEnd; rw [if_pos ⟨he, List.length_pos_iff.2 hbn⟩]
          rw [he0] at HV
          clear he0 he hbn t2
          replace hb0 : BlkAt (w7.setCell ⟨pr, 1, none⟩ (.int .i64 3)) (w.heap.size) 103 #[.int .i64 0, .slice none 0 0] := (hb0).fr (fr_set1 _ (pr) 1 (.int .i64 3)) (by unfold eqB; omega)
          replace hbr : BlkAt (w7.setCell ⟨pr, 1, none⟩ (.int .i64 3)) (pr) 138 #[.string (mkS b3), .int .i64 3] := (hbr).set 1 (.int .i64 3)
          replace f0 := (f0).trans (fr_set1 _ (pr) 1 (.int .i64 3)) (fun i hi h => by unfold eqB at h; omega)
          generalize hw7t : (w7.setCell ⟨pr, 1, none⟩ (.int .i64 3)) = w7t at hb0 hbr f0
          obtain ⟨s0, s1, sf⟩ := BlkAt.c2 hbr
          go_wp2_with fail
          apply wp_region_calm (R := Fr (eqB (w.heap.size))) (C := fun q W => Fr (eqB (w.heap.size)) w7t W ∧ BlkAt W (pr) 138 #[.string (mkS b3), .int .i64 3] ∧ BlkAt W (w.heap.size) 103 (if q = 0 then #[.int .i64 0, .slice none 0 0] else #[.int .i64 0, .slice none 0 0])) [false, false, false, true, false]
            [eqv _, eqv _, eqv _, anyv, eqv _]
            (by kernel_rfl) (by kernel_rfl) (fun _ _ _ h1 h2 => h1.then' h2) ((Fr.refl _ _).drew) ⟨(Fr.refl _ _).drew, hbr, hb0⟩ (by kernel_rfl)
          · refine ⟨?_, ?_, ?_, ?_, ?_, trivial⟩
            · rw [if_neg (by decide)]; intro kq
              intro a W K hC hd hK
              refine wpOp_plain rfl rfl ?_
              go_wp2_with fail
              exact hK _ _ (Fr.refl _ _) hC rfl
            · rw [if_neg (by decide)]; intro kq
              intro a W K hC hd hK
              have d4 : a.tmps[4]?.getD undef = .pointer (some ⟨pr, 0, none⟩) := hd 4 (by decide)
              refine wpOp_plain rfl rfl ?_
              obtain ⟨x0_0, x0_1, z0⟩ := BlkAt.c2 (hC.2.1)
              go_wp2_with fail
              exact hK _ _ (Fr.refl _ _) hC rfl
            · rw [if_neg (by decide)]; intro kq
              intro a W K hC hd hK
              have d43 : _ = _ := hd 43 (by decide)
              refine wpOp_plain rfl rfl ?_
              obtain ⟨x0_0, x0_1, z0⟩ := BlkAt.c2 (hC.2.1)
              go_wp2_with fail
              exact hK _ _ (Fr.refl _ _) hC rfl
            · rw [if_pos (by decide)]
              intro a W K hC hd hK
              replace hC : (fun q W => Fr (eqB (w.heap.size)) w7t W ∧ BlkAt W (pr) 138 #[.string (mkS b3), .int .i64 3] ∧ BlkAt W (w.heap.size) 103 (if q = 0 then #[.int .i64 0, .slice none 0 0] else #[.int .i64 0, .slice none 0 0])) 0 W := hC
              have d2 : a.tmps[2]?.getD undef = .pointer (some ⟨w.heap.size, 0, none⟩) := hd 2 (by decide)
              have d42 : _ = _ := hd 42 (by decide)
              refine wpOp_plain rfl rfl ?_
              obtain ⟨x0_0, x0_1, z0⟩ := BlkAt.c2 (hC.2.1)
              have hz0 : BlkAt W (w.heap.size) 103 #[.int .i64 0, .slice none 0 0] := hC.2.2
              obtain ⟨b0_0, b0_1, zz0⟩ := BlkAt.c2 hz0
              have fs : Fr (eqB (w.heap.size)) W ((W.setCell ⟨w.heap.size, 0, none⟩ (.int .i64 0)).setCell ⟨w.heap.size, 1, none⟩ (.slice none 0 0)) := (((Fr.refl (eqB (w.heap.size)) W)).setCell (p := ⟨w.heap.size, 0, none⟩) (Or.inl rfl) (.int .i64 0)).setCell (p := ⟨w.heap.size, 1, none⟩) (Or.inl rfl) (.slice none 0 0)
              have hn0 : BlkAt ((W.setCell ⟨w.heap.size, 0, none⟩ (.int .i64 0)).setCell ⟨w.heap.size, 1, none⟩ (.slice none 0 0)) (w.heap.size) 103 #[.int .i64 0, .slice none 0 0] := ((hz0).set 0 (.int .i64 0)).set 1 (.slice none 0 0)
              go_wp2_with fail
              exact hK undef _ fs ⟨hC.1.then' fs, (hC.2.1).fr fs (by unfold eqB; omega), hn0⟩ trivial
            · rw [if_neg (by decide)]; intro kq
              exact calm_mv 44 rfl rfl (Or.inr rfl) (Fr.refl _) (by decide) fun v w hd => hd
          · intro vs w7td fw7td cw7td hV
            have v42 : vs 0 = _ := hV 0 _ _ rfl rfl (by decide)
            have v43 : vs 1 = _ := hV 1 _ _ rfl rfl (by decide)
            have v44 : vs 2 = _ := hV 2 _ _ rfl rfl (by decide)
            have v3 : vs 4 = _ := hV 4 _ _ rfl rfl (by decide)
            clear hV
            replace hbr : BlkAt w7td (pr) 138 #[.string (mkS b3), .int .i64 3] := cw7td.2.1
            replace hb0 : BlkAt w7td (w.heap.size) 103 #[.int .i64 0, .slice none 0 0] := cw7td.2.2
            replace f0 := f0.trans fw7td (fun i hi h => by unfold eqB at h; omega)
            clear cw7td
            simp only [putL, Act.put, Nat.reduceAdd, List.setIfInBounds_toArray, List.set_cons_zero, List.set_cons_succ, v42, v43, v44, v3]
            obtain ⟨y0, y1, yf⟩ := BlkAt.c2 hb0
            go_wp2_with fail
            have hr := hr.out
            exact bodyPost_ret (v := .tuple #[.agg #[.int .i64 0, .slice none 0 0], .int .i64 3]) (by simp [results, hr, go_sem, y0, y1]) rfl (by rw [HV.out]; exact ⟨none, 0, 0, rfl, rfl, RowAt.nil _ _, fun ad e => (by cases e), f0⟩)
      · have t1 : ((e3 : Int) == 0) = false := by rw [beq_eq_false_iff_ne]; omega
        have t2 : ((e3 : Int) != 0) = true := by rw [bne_iff_ne]; omega
        have he0 : rEnd ⟨b3, e3⟩ = e3 := by unfold rEnd; rw [if_neg (fun h => he h.1)]
        rw [he0, if_neg he] at HV
        clear he0 he
        go_wp2_with fail
        apply wp_region_calm (R := Fr (eqB (w.heap.size))) (C := fun q W => Fr (eqB (w.heap.size)) w7 W ∧ BlkAt W (pr) 138 #[.string (mkS b3), .int .i64 e3] ∧ BlkAt W (w.heap.size) 103 (if q = 0 then #[.int .i64 0, .slice none 0 0] else #[.int .i64 0, .slice none 0 0])) [false, false, false, true, false]
          [eqv _, eqv _, eqv _, anyv, eqv _]
          (by kernel_rfl) (by kernel_rfl) (fun _ _ _ h1 h2 => h1.then' h2) ((Fr.refl _ _).drew) ⟨(Fr.refl _ _).drew, hbr, hb0⟩ (by kernel_rfl)
        · refine ⟨?_, ?_, ?_, ?_, ?_, trivial⟩
          · rw [if_neg (by decide)]; intro kq
            intro a W K hC hd hK
            refine wpOp_plain rfl rfl ?_
            go_wp2_with fail
            exact hK _ _ (Fr.refl _ _) hC rfl
          · rw [if_neg (by decide)]; intro kq
            intro a W K hC hd hK
            have d4 : a.tmps[4]?.getD undef = .pointer (some ⟨pr, 0, none⟩) := hd 4 (by decide)
            refine wpOp_plain rfl rfl ?_
            obtain ⟨x0_0, x0_1, z0⟩ := BlkAt.c2 (hC.2.1)
            go_wp2_with fail
            exact hK _ _ (Fr.refl _ _) hC rfl
          · rw [if_neg (by decide)]; intro kq
            intro a W K hC hd hK
            have d43 : _ = _ := hd 43 (by decide)
            refine wpOp_plain rfl rfl ?_
            obtain ⟨x0_0, x0_1, z0⟩ := BlkAt.c2 (hC.2.1)
            go_wp2_with fail
            exact hK _ _ (Fr.refl _ _) hC rfl
          · rw [if_pos (by decide)]
            intro a W K hC hd hK
            replace hC : (fun q W => Fr (eqB (w.heap.size)) w7 W ∧ BlkAt W (pr) 138 #[.string (mkS b3), .int .i64 e3] ∧ BlkAt W (w.heap.size) 103 (if q = 0 then #[.int .i64 0, .slice none 0 0] else #[.int .i64 0, .slice none 0 0])) 0 W := hC
            have d2 : a.tmps[2]?.getD undef = .pointer (some ⟨w.heap.size, 0, none⟩) := hd 2 (by decide)
            have d42 : _ = _ := hd 42 (by decide)
            refine wpOp_plain rfl rfl ?_
            obtain ⟨x0_0, x0_1, z0⟩ := BlkAt.c2 (hC.2.1)
            have hz0 : BlkAt W (w.heap.size) 103 #[.int .i64 0, .slice none 0 0] := hC.2.2
            obtain ⟨b0_0, b0_1, zz0⟩ := BlkAt.c2 hz0
            have fs : Fr (eqB (w.heap.size)) W ((W.setCell ⟨w.heap.size, 0, none⟩ (.int .i64 0)).setCell ⟨w.heap.size, 1, none⟩ (.slice none 0 0)) := (((Fr.refl (eqB (w.heap.size)) W)).setCell (p := ⟨w.heap.size, 0, none⟩) (Or.inl rfl) (.int .i64 0)).setCell (p := ⟨w.heap.size, 1, none⟩) (Or.inl rfl) (.slice none 0 0)
            have hn0 : BlkAt ((W.setCell ⟨w.heap.size, 0, none⟩ (.int .i64 0)).setCell ⟨w.heap.size, 1, none⟩ (.slice none 0 0)) (w.heap.size) 103 #[.int .i64 0, .slice none 0 0] := ((hz0).set 0 (.int .i64 0)).set 1 (.slice none 0 0)
            go_wp2_with fail
            exact hK undef _ fs ⟨hC.1.then' fs, (hC.2.1).fr fs (by unfold eqB; omega), hn0⟩ trivial
          · rw [if_neg (by decide)]; intro kq
            exact calm_mv 44 rfl rfl (Or.inr rfl) (Fr.refl _) (by decide) fun v w hd => hd
        · intro vs w7d fw7d cw7d hV
          have v42 : vs 0 = _ := hV 0 _ _ rfl rfl (by decide)
          have v43 : vs 1 = _ := hV 1 _ _ rfl rfl (by decide)
          have v44 : vs 2 = _ := hV 2 _ _ rfl rfl (by decide)
          have v3 : vs 4 = _ := hV 4 _ _ rfl rfl (by decide)
          clear hV
          replace hbr : BlkAt w7d (pr) 138 #[.string (mkS b3), .int .i64 e3] := cw7d.2.1
          replace hb0 : BlkAt w7d (w.heap.size) 103 #[.int .i64 0, .slice none 0 0] := cw7d.2.2
          replace f0 := f0.trans fw7d (fun i hi h => by unfold eqB at h; omega)
          clear cw7d
          simp only [putL, Act.put, Nat.reduceAdd, List.setIfInBounds_toArray, List.set_cons_zero, List.set_cons_succ, v42, v43, v44, v3]
          obtain ⟨y0, y1, yf⟩ := BlkAt.c2 hb0
          go_wp2_with fail
          have hr := hr.out
          exact bodyPost_ret (v := .tuple #[.agg #[.int .i64 0, .slice none 0 0], .int .i64 e3]) (by simp [results, hr, go_sem, y0, y1]) rfl (by rw [HV.out]; exact ⟨none, 0, 0, rfl, rfl, RowAt.nil _ _, fun ad e => (by cases e), f0⟩)
    · rw [if_neg (fun h => hb ⟨HC1.out.2 h.1, HC2.out.2 h.2⟩)] at H3
      rw [H3.out] at HV
      clear H3 y0 y1 yf
      have hb' : c1 = false ∨ c1 = true ∧ c2 = false := by
        cases c1
        · exact Or.inl rfl
        · cases c2
          · exact Or.inr ⟨rfl, rfl⟩
          · exact absurd ⟨rfl, rfl⟩ hb
      clear hb
      rcases hb' with rfl | ⟨rfl, rfl⟩
      all_goals
        go_upto_region 7 with fail
        obtain ⟨r0, r1, rf⟩ := BlkAt.c2 hbr
        by_cases he : e2 = 0
        · have t1 : ((e2 : Int) == 0) = true := by rw [beq_iff_eq]; omega
          have t2 : ((e2 : Int) != 0) = false := by rw [bne_eq_false_iff_eq]; omega
          by_cases hbn : b2 = []
          · have t3 : (mkS b2).toList.isEmpty = true := by rw [hbn, mkS_toList]; rfl
            have he0 : rEnd ⟨b2, e2⟩ = 0 := by rw [he, hbn]; rfl
            rw [he0] at HV
            obtain ⟨y0, y1, yf⟩ := BlkAt.c2 hb0
            have FF := f0.trans (fr_s2 w5 w.heap.size (.int .i64 k) (.slice A1 n1 c1')) (fun i hi h => by unfold eqB at h; omega)
            have hro' := hro.fr (fr_s2 w5 w.heap.size (.int .i64 k) (.slice A1 n1 c1')) (fun ad e _ _ h => by have := hA2 ad e; unfold eqB at h; omega)
            clear he0 he hbn
            go_wp2_with fail
            have hr := hr.out
            exact bodyPost_ret (v := .tuple #[.agg #[.int .i64 k, .slice A1 n1 c1'], .int .i64 0]) (by simp [results, hr, go_sem, y0, y1]) rfl (by rw [HV.out]; exact ⟨A1, n1, c1', rfl, HN1, hro', fun ad e => by have := (hA2 ad e).1; omega, FF⟩)
          · have t3 : (mkS b2).toList.isEmpty = false := by rw [mkS_toList]; cases hh : b2 <;> first | rfl | exact absurd hh hbn
            have he0 : rEnd ⟨b2, e2⟩ = 3 := by unfold rEnd; rw [if_pos ⟨he, List.length_pos_iff.2 hbn⟩]
            rw [he0] at HV
            clear he0 he hbn t2
            replace hb0 : BlkAt (w5.setCell ⟨pr, 1, none⟩ (.int .i64 3)) (w.heap.size) 103 #[.int .i64 0, .slice none 0 0] := (hb0).fr (fr_set1 _ (pr) 1 (.int .i64 3)) (by unfold eqB; omega)
            replace hbr : BlkAt (w5.setCell ⟨pr, 1, none⟩ (.int .i64 3)) (pr) 138 #[.string (mkS b2), .int .i64 3] := (hbr).set 1 (.int .i64 3)
            replace f0 := (f0).trans (fr_set1 _ (pr) 1 (.int .i64 3)) (fun i hi h => by unfold eqB at h; omega)
            generalize hw5t : (w5.setCell ⟨pr, 1, none⟩ (.int .i64 3)) = w5t at hb0 hbr f0
            obtain ⟨s0, s1, sf⟩ := BlkAt.c2 hbr
            go_wp2_with fail
            apply wp_region_calm (R := Fr (eqB (w.heap.size))) (C := fun q W => Fr (eqB (w.heap.size)) w5t W ∧ BlkAt W (pr) 138 #[.string (mkS b2), .int .i64 3] ∧ BlkAt W (w.heap.size) 103 (if q = 0 then #[.int .i64 0, .slice none 0 0] else #[.int .i64 0, .slice none 0 0])) [false, false, false, true, false]
              [eqv _, eqv _, eqv _, anyv, eqv _]
              (by kernel_rfl) (by kernel_rfl) (fun _ _ _ h1 h2 => h1.then' h2) ((Fr.refl _ _).drew) ⟨(Fr.refl _ _).drew, hbr, hb0⟩ (by kernel_rfl)
            · refine ⟨?_, ?_, ?_, ?_, ?_, trivial⟩
              · rw [if_neg (by decide)]; intro kq
                intro a W K hC hd hK
                refine wpOp_plain rfl rfl ?_
                go_wp2_with fail
                exact hK _ _ (Fr.refl _ _) hC rfl
              · rw [if_neg (by decide)]; intro kq
                intro a W K hC hd hK
                have d4 : a.tmps[4]?.getD undef = .pointer (some ⟨pr, 0, none⟩) := hd 4 (by decide)
                refine wpOp_plain rfl rfl ?_
                obtain ⟨x0_0, x0_1, z0⟩ := BlkAt.c2 (hC.2.1)
                go_wp2_with fail
                exact hK _ _ (Fr.refl _ _) hC rfl
              · rw [if_neg (by decide)]; intro kq
                intro a W K hC hd hK
                have d43 : _ = _ := hd 43 (by decide)
                refine wpOp_plain rfl rfl ?_
                obtain ⟨x0_0, x0_1, z0⟩ := BlkAt.c2 (hC.2.1)
                go_wp2_with fail
                exact hK _ _ (Fr.refl _ _) hC rfl
              · rw [if_pos (by decide)]
                intro a W K hC hd hK
                replace hC : (fun q W => Fr (eqB (w.heap.size)) w5t W ∧ BlkAt W (pr) 138 #[.string (mkS b2), .int .i64 3] ∧ BlkAt W (w.heap.size) 103 (if q = 0 then #[.int .i64 0, .slice none 0 0] else #[.int .i64 0, .slice none 0 0])) 0 W := hC
                have d2 : a.tmps[2]?.getD undef = .pointer (some ⟨w.heap.size, 0, none⟩) := hd 2 (by decide)
                have d42 : _ = _ := hd 42 (by decide)
                refine wpOp_plain rfl rfl ?_
                obtain ⟨x0_0, x0_1, z0⟩ := BlkAt.c2 (hC.2.1)
                have hz0 : BlkAt W (w.heap.size) 103 #[.int .i64 0, .slice none 0 0] := hC.2.2
                obtain ⟨b0_0, b0_1, zz0⟩ := BlkAt.c2 hz0
                have fs : Fr (eqB (w.heap.size)) W ((W.setCell ⟨w.heap.size, 0, none⟩ (.int .i64 0)).setCell ⟨w.heap.size, 1, none⟩ (.slice none 0 0)) := (((Fr.refl (eqB (w.heap.size)) W)).setCell (p := ⟨w.heap.size, 0, none⟩) (Or.inl rfl) (.int .i64 0)).setCell (p := ⟨w.heap.size, 1, none⟩) (Or.inl rfl) (.slice none 0 0)
                have hn0 : BlkAt ((W.setCell ⟨w.heap.size, 0, none⟩ (.int .i64 0)).setCell ⟨w.heap.size, 1, none⟩ (.slice none 0 0)) (w.heap.size) 103 #[.int .i64 0, .slice none 0 0] := ((hz0).set 0 (.int .i64 0)).set 1 (.slice none 0 0)
                go_wp2_with fail
                exact hK undef _ fs ⟨hC.1.then' fs, (hC.2.1).fr fs (by unfold eqB; omega), hn0⟩ trivial
              · rw [if_neg (by decide)]; intro kq
                exact calm_mv 44 rfl rfl (Or.inr rfl) (Fr.refl _) (by decide) fun v w hd => hd
            · intro vs w5td fw5td cw5td hV
              have v42 : vs 0 = _ := hV 0 _ _ rfl rfl (by decide)
              have v43 : vs 1 = _ := hV 1 _ _ rfl rfl (by decide)
              have v44 : vs 2 = _ := hV 2 _ _ rfl rfl (by decide)
              have v3 : vs 4 = _ := hV 4 _ _ rfl rfl (by decide)
              clear hV
              replace hbr : BlkAt w5td (pr) 138 #[.string (mkS b2), .int .i64 3] := cw5td.2.1
              replace hb0 : BlkAt w5td (w.heap.size) 103 #[.int .i64 0, .slice none 0 0] := cw5td.2.2
              replace f0 := f0.trans fw5td (fun i hi h => by unfold eqB at h; omega)
              clear cw5td
              simp only [putL, Act.put, Nat.reduceAdd, List.setIfInBounds_toArray, List.set_cons_zero, List.set_cons_succ, v42, v43, v44, v3]
              obtain ⟨y0, y1, yf⟩ := BlkAt.c2 hb0
              go_wp2_with fail
              have hr := hr.out
              exact bodyPost_ret (v := .tuple #[.agg #[.int .i64 0, .slice none 0 0], .int .i64 3]) (by simp [results, hr, go_sem, y0, y1]) rfl (by rw [HV.out]; exact ⟨none, 0, 0, rfl, rfl, RowAt.nil _ _, fun ad e => (by cases e), f0⟩)
        · have t1 : ((e2 : Int) == 0) = false := by rw [beq_eq_false_iff_ne]; omega
          have t2 : ((e2 : Int) != 0) = true := by rw [bne_iff_ne]; omega
          have he0 : rEnd ⟨b2, e2⟩ = e2 := by unfold rEnd; rw [if_neg (fun h => he h.1)]
          rw [he0, if_neg he] at HV
          clear he0 he
          go_wp2_with fail
          apply wp_region_calm (R := Fr (eqB (w.heap.size))) (C := fun q W => Fr (eqB (w.heap.size)) w5 W ∧ BlkAt W (pr) 138 #[.string (mkS b2), .int .i64 e2] ∧ BlkAt W (w.heap.size) 103 (if q = 0 then #[.int .i64 0, .slice none 0 0] else #[.int .i64 0, .slice none 0 0])) [false, false, false, true, false]
            [eqv _, eqv _, eqv _, anyv, eqv _]
            (by kernel_rfl) (by kernel_rfl) (fun _ _ _ h1 h2 => h1.then' h2) ((Fr.refl _ _).drew) ⟨(Fr.refl _ _).drew, hbr, hb0⟩ (by kernel_rfl)
          · refine ⟨?_, ?_, ?_, ?_, ?_, trivial⟩
            · rw [if_neg (by decide)]; intro kq
              intro a W K hC hd hK
              refine wpOp_plain rfl rfl ?_
              go_wp2_with fail
              exact hK _ _ (Fr.refl _ _) hC rfl
            · rw [if_neg (by decide)]; intro kq
              intro a W K hC hd hK
              have d4 : a.tmps[4]?.getD undef = .pointer (some ⟨pr, 0, none⟩) := hd 4 (by decide)
              refine wpOp_plain rfl rfl ?_
              obtain ⟨x0_0, x0_1, z0⟩ := BlkAt.c2 (hC.2.1)
              go_wp2_with fail
              exact hK _ _ (Fr.refl _ _) hC rfl
            · rw [if_neg (by decide)]; intro kq
              intro a W K hC hd hK
              have d43 : _ = _ := hd 43 (by decide)
              refine wpOp_plain rfl rfl ?_
              obtain ⟨x0_0, x0_1, z0⟩ := BlkAt.c2 (hC.2.1)
              go_wp2_with fail
              exact hK _ _ (Fr.refl _ _) hC rfl
            · rw [if_pos (by decide)]
              intro a W K hC hd hK
              replace hC : (fun q W => Fr (eqB (w.heap.size)) w5 W ∧ BlkAt W (pr) 138 #[.string (mkS b2), .int .i64 e2] ∧ BlkAt W (w.heap.size) 103 (if q = 0 then #[.int .i64 0, .slice none 0 0] else #[.int .i64 0, .slice none 0 0])) 0 W := hC
              have d2 : a.tmps[2]?.getD undef = .pointer (some ⟨w.heap.size, 0, none⟩) := hd 2 (by decide)
              have d42 : _ = _ := hd 42 (by decide)
              refine wpOp_plain rfl rfl ?_
              obtain ⟨x0_0, x0_1, z0⟩ := BlkAt.c2 (hC.2.1)
              have hz0 : BlkAt W (w.heap.size) 103 #[.int .i64 0, .slice none 0 0] := hC.2.2
              obtain ⟨b0_0, b0_1, zz0⟩ := BlkAt.c2 hz0
              have fs : Fr (eqB (w.heap.size)) W ((W.setCell ⟨w.heap.size, 0, none⟩ (.int .i64 0)).setCell ⟨w.heap.size, 1, none⟩ (.slice none 0 0)) := (((Fr.refl (eqB (w.heap.size)) W)).setCell (p := ⟨w.heap.size, 0, none⟩) (Or.inl rfl) (.int .i64 0)).setCell (p := ⟨w.heap.size, 1, none⟩) (Or.inl rfl) (.slice none 0 0)
              have hn0 : BlkAt ((W.setCell ⟨w.heap.size, 0, none⟩ (.int .i64 0)).setCell ⟨w.heap.size, 1, none⟩ (.slice none 0 0)) (w.heap.size) 103 #[.int .i64 0, .slice none 0 0] := ((hz0).set 0 (.int .i64 0)).set 1 (.slice none 0 0)
              go_wp2_with fail
              exact hK undef _ fs ⟨hC.1.then' fs, (hC.2.1).fr fs (by unfold eqB; omega), hn0⟩ trivial
            · rw [if_neg (by decide)]; intro kq
              exact calm_mv 44 rfl rfl (Or.inr rfl) (Fr.refl _) (by decide) fun v w hd => hd
          · intro vs w5d fw5d cw5d hV
            have v42 : vs 0 = _ := hV 0 _ _ rfl rfl (by decide)
            have v43 : vs 1 = _ := hV 1 _ _ rfl rfl (by decide)
            have v44 : vs 2 = _ := hV 2 _ _ rfl rfl (by decide)
            have v3 : vs 4 = _ := hV 4 _ _ rfl rfl (by decide)
            clear hV
            replace hbr : BlkAt w5d (pr) 138 #[.string (mkS b2), .int .i64 e2] := cw5d.2.1
            replace hb0 : BlkAt w5d (w.heap.size) 103 #[.int .i64 0, .slice none 0 0] := cw5d.2.2
            replace f0 := f0.trans fw5d (fun i hi h => by unfold eqB at h; omega)
            clear cw5d
            simp only [putL, Act.put, Nat.reduceAdd, List.setIfInBounds_toArray, List.set_cons_zero, List.set_cons_succ, v42, v43, v44, v3]
            obtain ⟨y0, y1, yf⟩ := BlkAt.c2 hb0
            go_wp2_with fail
            have hr := hr.out
            exact bodyPost_ret (v := .tuple #[.agg #[.int .i64 0, .slice none 0 0], .int .i64 e2]) (by simp [results, hr, go_sem, y0, y1]) rfl (by rw [HV.out]; exact ⟨none, 0, 0, rfl, rfl, RowAt.nil _ _, fun ad e => (by cases e), f0⟩)
end Go.Proofs.YtcaihinenfnekaaDoor
