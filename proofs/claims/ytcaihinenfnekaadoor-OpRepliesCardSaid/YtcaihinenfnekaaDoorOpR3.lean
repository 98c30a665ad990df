/- interrexref14.Read. -/
import Derived.Test.YtcaihinenfnekaaDoorOpR2
import Derived.Test.YtcaihinenfnekaaDoorOp9
import Derived.Test.YtcaihinenfnekaaDoorRef5
namespace Go.Proofs.YtcaihinenfnekaaDoor
open Go.RowKit

theorem opRead_long {bs : List UInt8} (h : 64 < bs.length) : opRead bs = (zeroOp, 3) := by unfold opRead; rw [if_pos h]
theorem opRead_nil : opRead [] = (zeroOp, 2) := by
  have h : opRd [] = (⟨[], 2⟩, 0) := rfl
  have h2 : opIn [] = (zeroOp, ⟨[], 2⟩) := by unfold opIn; rw [h]; rfl
  unfold opRead
  rw [h, h2]; rfl
theorem opRd_cons (c : UInt8) (t : List UInt8) : opRd (c :: t) = (⟨t, 0⟩, c.toNat) := by
  unfold opRd rNum rTake
  simp [leV]
theorem opRead_kind {c : UInt8} {t : List UInt8} (h : ¬ 64 < (c :: t).length) (h2 : 17 ≤ c.toNat) : opRead (c :: t) = (zeroOp, 4) := by
  unfold opRead; rw [if_neg h, opRd_cons, if_pos h2]
theorem opRead_cons {c : UInt8} {t : List UInt8} {z : List UInt8} (h : ¬ 64 < (c :: t).length) (hz : signsL[c.toNat]? = some z) :
    opRead (c :: t) = if rEnd (z.foldl rdSign (⟨c.toNat, ⟨#[]⟩, ⟨#[]⟩, 0, 0⟩, ⟨t, 0⟩)).2 = 0 then ((z.foldl rdSign (⟨c.toNat, ⟨#[]⟩, ⟨#[]⟩, 0, 0⟩, ⟨t, 0⟩)).1, 0) else (zeroOp, rEnd (z.foldl rdSign (⟨c.toNat, ⟨#[]⟩, ⟨#[]⟩, 0, 0⟩, ⟨t, 0⟩)).2) := by
  have h2 : ¬ 17 ≤ c.toNat := by have := (List.getElem?_eq_some_iff.1 hz).1; simp [signsL] at this; omega
  unfold opRead
  rw [if_neg h, opRd_cons, if_neg h2]
  have : opIn (c :: t) = z.foldl rdSign (⟨c.toNat, ⟨#[]⟩, ⟨#[]⟩, 0, 0⟩, ⟨t, 0⟩) := by
    unfold opIn; rw [opRd_cons, if_pos rfl, List.getD_eq_getElem?_getD, hz]; rfl
  rw [this]
theorem parts_signs {k : Nat} {z : List UInt8} (hz : signsL[k]? = some z) : (partsV k = 2 ∧ z = [97, 98]) ∨ (partsV k = 1 ∧ z = [97]) ∨ (partsV k = 0 ∧ z = []) ∨ (partsV k = -1 ∧ z = [110, 114]) := by
  have hk : k < 17 := (List.getElem?_eq_some_iff.1 hz).1
  have : ∀ k : Fin 17, let z := signsL.getD k.val []; let P := partsV k.val; (P = 2 ∧ z = [97, 98]) ∨ (P = 1 ∧ z = [97]) ∨ (P = 0 ∧ z = []) ∨ (P = -1 ∧ z = [110, 114]) := by decide
  have h := this ⟨k, hk⟩
  simp only [List.getD_eq_getElem?_getD, hz, Option.getD_some] at h
  exact h

theorem right114_false {k : Nat} {a b : ByteArray} {n r : Nat} (h : ¬ (1 ≤ r ∧ r ≤ 3)) : rightV ⟨k, a, b, n, r⟩ 114 = false := by
  unfold rightV; rw [if_neg (by decide), if_pos rfl]
  simp only [Bool.and_eq_false_iff, decide_eq_false_iff_not]
  omega
set_option maxRecDepth 100000 in
set_option maxHeartbeats 3200000 in
theorem opReadR_calls (w : World) (bs : List UInt8) (hl : bs.length ≤ 1000000000000) : Calls Tryd.prog 44 #[.string (mkS bs)] w (OpEPost w (opRead bs)) := by
  have hsz : (mkS bs).size = bs.length := mkS_size _
  have hr : Hid (Tryd.f44.results = #[.cell 2 69, .tmp 3]) := by unfold Hid; kernel_rfl
  have hb0 : BlkAt (w.alloc (.cells #[.int .u8 0, .string ⟨#[]⟩, .string ⟨#[]⟩, .int .u8 0, .int .u8 0] 69)) w.heap.size 69 zeroOp.C := BlkAt.new _ _ _
  have f0 : Fr noB w (w.alloc (.cells #[.int .u8 0, .string ⟨#[]⟩, .string ⟨#[]⟩, .int .u8 0, .int .u8 0] 69)) := (Fr.refl noB w).alloc _
  by_cases h64 : 64 < bs.length
  · have d1 : decide ((64 : Int) < (mkS bs).size) = true := decide_eq_true (by omega)
    have HV := hid (opRead_long h64)
    generalize mkS bs = s at *
    clear hsz h64 hl
    go_enter Tryd.func44, Tryd.ntmps44
    go_wp2_with fail
    have hr := hr.out
    exact bodyPost_ret (v := .tuple #[zeroOp.v, .int .i64 3]) (by simp [results, hr, go_sem, zeroOp, OpV.v]) rfl ⟨by rw [HV.out]; rfl, f0⟩
  · have d1 : decide ((64 : Int) < (mkS bs).size) = false := decide_eq_false (by omega)
    have hsl : (mkS bs).toList = bs := mkS_toList bs
    cases bs with
    | nil =>
      have HV := hid opRead_nil
      generalize mkS [] = s at *
      clear hsz h64 hl
      go_enter Tryd.func44, Tryd.ntmps44
      go_wp2_with fail
      have hr := hr.out
      exact bodyPost_ret (v := .tuple #[zeroOp.v, .int .i64 2]) (by simp [results, hr, go_sem, zeroOp, OpV.v]) rfl ⟨by rw [HV.out]; rfl, f0⟩
    | cons c t =>
      have hx : ∀ h : 0 < (mkS (c :: t)).size, ((mkS (c :: t))[0]'h) = c := fun h => by simp [mkS]; rfl
      have hex : (mkS (c :: t)).extract 1 (mkS (c :: t)).size = mkS t := by rw [hsz]; exact mkS_from (c :: t) 1
      have hs0 : 0 < (mkS (c :: t)).size := by rw [hsz]; simp
      have hs1 : 1 ≤ (mkS (c :: t)).size := hs0
      have hs2 : (mkS (c :: t)).size ≤ 64 := by omega
      have hsl' : (mkS (c :: t)).toList.isEmpty = false := by rw [hsl]; rfl
      have HK := fun h => opRead_kind (c := c) (t := t) h64 h
      have HC := fun (z : List UInt8) hz => opRead_cons (c := c) (t := t) (z := z) h64 hz
      have HKH := hid HK
      have HCH := hid HC
      have htl : t.length ≤ 64 := by simp at h64; omega
      have HTL := hid htl
      clear HK HC h64 hl hsz hsl htl
      generalize opRead (c :: t) = res at *
      generalize mkS (c :: t) = s at *
      go_enter Tryd.func44, Tryd.ntmps44
      go_wp2_with fail
      have hbo : BlkAt ((w.alloc (.cells #[.int .u8 0, .string ⟨#[]⟩, .string ⟨#[]⟩, .int .u8 0, .int .u8 0] 69)).alloc (.cells #[.int .u8 c.toNat, .string ⟨#[]⟩, .string ⟨#[]⟩, .int .u8 0, .int .u8 0] 69)) (w.heap.size + 1) 69 #[.int .u8 c.toNat, .string ⟨#[]⟩, .string ⟨#[]⟩, .int .u8 0, .int .u8 0] := by
        have := BlkAt.new (w.alloc (.cells #[.int .u8 0, .string ⟨#[]⟩, .string ⟨#[]⟩, .int .u8 0, .int .u8 0] 69)) #[.int .u8 c.toNat, .string ⟨#[]⟩, .string ⟨#[]⟩, .int .u8 0, .int .u8 0] 69
        rwa [al_size] at this
      replace hb0 := hb0.al (.cells #[.int .u8 c.toNat, .string ⟨#[]⟩, .string ⟨#[]⟩, .int .u8 0, .int .u8 0] 69)
      replace f0 := f0.alloc (.cells #[.int .u8 c.toNat, .string ⟨#[]⟩, .string ⟨#[]⟩, .int .u8 0, .int .u8 0] 69)
      have hs : ((w.alloc (.cells #[.int .u8 0, .string ⟨#[]⟩, .string ⟨#[]⟩, .int .u8 0, .int .u8 0] 69)).alloc (.cells #[.int .u8 c.toNat, .string ⟨#[]⟩, .string ⟨#[]⟩, .int .u8 0, .int .u8 0] 69)).heap.size = w.heap.size + 2 := by simp only [al_size]
      generalize (w.alloc (.cells #[.int .u8 0, .string ⟨#[]⟩, .string ⟨#[]⟩, .int .u8 0, .int .u8 0] 69)).alloc (.cells #[.int .u8 c.toNat, .string ⟨#[]⟩, .string ⟨#[]⟩, .int .u8 0, .int .u8 0] 69) = wa at *
      refine (parts_calls wa c.toNat).mono ?_
      rintro e w1 ⟨rfl, rfl⟩
      by_cases h17 : ¬ c.toNat < 17
      · have HV := hid (HKH.out (by omega))
        rw [decide_eq_false h17]
        obtain ⟨y0, y1, y2, y3, y4, yf⟩ := BlkAt.c5 hb0
        have FF := f0.trans (fr_set5 w1 w.heap.size (.int .u8 0) (.string ⟨#[]⟩) (.string ⟨#[]⟩) (.int .u8 0) (.int .u8 0)) (fun i hi h => by unfold eqB at h; omega)
        go_wp2_with fail
        have hr := hr.out
        exact bodyPost_ret (v := .tuple #[zeroOp.v, .int .i64 4]) (by simp [results, hr, go_sem, zeroOp, OpV.v, y0, y1, y2, y3, y4]) rfl ⟨by rw [HV.out] <;> rfl, FF⟩
      · replace h17 := Classical.not_not.1 h17
        obtain ⟨z, hz⟩ : ∃ z, signsL[c.toNat]? = some z := ⟨_, List.getElem?_eq_getElem (by simp [signsL]; omega)⟩
        have hp := parts_signs hz
        have HV := hid (HCH.out z hz)
        rw [decide_eq_true h17]
        have hbr : BlkAt (w1.alloc (.cells #[.string (mkS t), .int .i64 0] 138)) (w.heap.size + 2) 138 #[.string (mkS t), .int .i64 0] := by
          have := BlkAt.new w1 #[.string (mkS t), .int .i64 0] 138
          rwa [hs] at this
        replace hb0 := hb0.al (.cells #[.string (mkS t), .int .i64 0] 138)
        replace hbo := hbo.al (.cells #[.string (mkS t), .int .i64 0] 138)
        replace f0 := f0.alloc (.cells #[.string (mkS t), .int .i64 0] 138)
        have hs1' : (w1.alloc (.cells #[.string (mkS t), .int .i64 0] 138)).heap.size = w.heap.size + 3 := by rw [al_size, hs]
        clear h17 hz HKH HCH
        generalize hP : partsV c.toNat = P at *
        clear hP
        rcases hp with ⟨rfl, rfl⟩ | ⟨rfl, rfl⟩ | ⟨rfl, rfl⟩ | ⟨rfl, rfl⟩
        · obtain ⟨y0, y1, yf⟩ := BlkAt.c2 hbr
          go_wp2_with fail
          generalize (w1.alloc (.cells #[.string (mkS t), .int .i64 0] 138)) = wb at *
          have hg := textGetR_calls wb ⟨t, 0⟩ 65535 (fun h => absurd rfl h) (by have := HTL.out; simp only []; omega) (by decide) (by decide)
          have hi1 := rText_inv (r := ⟨t, 0⟩) (fun h => absurd rfl h) 65535
          have hl1 := rText_left ⟨t, 0⟩ 65535
          generalize hq : rText ⟨t, 0⟩ 65535 = q1 at hg hi1 hl1
          have HQ := hid hq
          clear hq
          obtain ⟨⟨b1, e1⟩, x1⟩ := q1
          simp only [Rd.val] at hg hi1 hl1
          refine hg.mono ?_
          rintro e w2 ⟨rfl, f2⟩
          clear hg y0 y1 yf
          simp only [Rd.val]
          replace hb0 := hb0.fr f2 id
          replace hbo := hbo.fr f2 id
          replace hbr := hbr.fr f2 id
          replace f0 := f0.then' f2
          clear f2
          obtain ⟨y0, y1, yf⟩ := BlkAt.c2 hbr
          obtain ⟨p0, p1, p2, p3, p4, pf⟩ := BlkAt.c5 hbo
          replace hb0 : BlkAt (((w2.setCell ⟨w.heap.size + 2, 0, none⟩ (.string (mkS b1))).setCell ⟨w.heap.size + 2, 1, none⟩ (.int .i64 e1)).setCell ⟨w.heap.size + 1, 1, none⟩ (.string (mkS x1))) (w.heap.size) 69 #[.int .u8 0, .string ⟨#[]⟩, .string ⟨#[]⟩, .int .u8 0, .int .u8 0] := (((hb0).fr (fr_set1 _ (w.heap.size + 2) 0 (.string (mkS b1))) (by unfold eqB; omega)).fr (fr_set1 _ (w.heap.size + 2) 1 (.int .i64 e1)) (by unfold eqB; omega)).fr (fr_set1 _ (w.heap.size + 1) 1 (.string (mkS x1))) (by unfold eqB; omega)
          replace hbr : BlkAt (((w2.setCell ⟨w.heap.size + 2, 0, none⟩ (.string (mkS b1))).setCell ⟨w.heap.size + 2, 1, none⟩ (.int .i64 e1)).setCell ⟨w.heap.size + 1, 1, none⟩ (.string (mkS x1))) (w.heap.size + 2) 138 #[.string (mkS b1), .int .i64 e1] := (((hbr).set 0 (.string (mkS b1))).set 1 (.int .i64 e1)).fr (fr_set1 _ (w.heap.size + 1) 1 (.string (mkS x1))) (by unfold eqB; omega)
          replace hbo : BlkAt (((w2.setCell ⟨w.heap.size + 2, 0, none⟩ (.string (mkS b1))).setCell ⟨w.heap.size + 2, 1, none⟩ (.int .i64 e1)).setCell ⟨w.heap.size + 1, 1, none⟩ (.string (mkS x1))) (w.heap.size + 1) 69 #[.int .u8 c.toNat, .string (mkS x1), .string ⟨#[]⟩, .int .u8 0, .int .u8 0] := (((hbo).fr (fr_set1 _ (w.heap.size + 2) 0 (.string (mkS b1))) (by unfold eqB; omega)).fr (fr_set1 _ (w.heap.size + 2) 1 (.int .i64 e1)) (by unfold eqB; omega)).set 1 (.string (mkS x1))
          replace f0 := (((f0).trans (fr_set1 _ (w.heap.size + 2) 0 (.string (mkS b1))) (fun i hi h => by unfold eqB at h; omega)).trans (fr_set1 _ (w.heap.size + 2) 1 (.int .i64 e1)) (fun i hi h => by unfold eqB at h; omega)).trans (fr_set1 _ (w.heap.size + 1) 1 (.string (mkS x1))) (fun i hi h => by unfold eqB at h; omega)
          go_wp2_with fail
          generalize (((w2.setCell ⟨w.heap.size + 2, 0, none⟩ (.string (mkS b1))).setCell ⟨w.heap.size + 2, 1, none⟩ (.int .i64 e1)).setCell ⟨w.heap.size + 1, 1, none⟩ (.string (mkS x1))) = w3 at *
          have hg := textGetR_calls w3 ⟨b1, e1⟩ 65535 hi1 (by have := HTL.out; simp only []; omega) (by decide) (by decide)
          generalize hq : rText ⟨b1, e1⟩ 65535 = q2 at hg
          have HQ2 := hid hq
          clear hq hi1
          obtain ⟨⟨b2, e2⟩, x2⟩ := q2
          simp only [Rd.val] at hg
          refine hg.mono ?_
          rintro e w4 ⟨rfl, f4⟩
          clear hg y0 y1 yf p0 p1 p2 p3 p4 pf
          simp only [Rd.val]
          replace hb0 := hb0.fr f4 id
          replace hbo := hbo.fr f4 id
          replace hbr := hbr.fr f4 id
          replace f0 := f0.then' f4
          clear f4
          obtain ⟨y0, y1, yf⟩ := BlkAt.c2 hbr
          obtain ⟨p0, p1, p2, p3, p4, pf⟩ := BlkAt.c5 hbo
          have HF : List.foldl rdSign (⟨c.toNat, ⟨#[]⟩, ⟨#[]⟩, 0, 0⟩, ⟨t, 0⟩) [97, 98] = (⟨c.toNat, mkS x1, mkS x2, 0, 0⟩, ⟨b2, e2⟩) := by
            have h1 : rdSign (⟨c.toNat, ⟨#[]⟩, ⟨#[]⟩, 0, 0⟩, ⟨t, 0⟩) 97 = (⟨c.toNat, mkS x1, ⟨#[]⟩, 0, 0⟩, ⟨b1, e1⟩) := rdSign_keep (by unfold rdPart; rw [if_pos rfl, HQ.out]) (Or.inr rfl)
            have h2 : rdSign (⟨c.toNat, mkS x1, ⟨#[]⟩, 0, 0⟩, ⟨b1, e1⟩) 98 = (⟨c.toNat, mkS x1, mkS x2, 0, 0⟩, ⟨b2, e2⟩) := rdSign_keep (by unfold rdPart; rw [if_neg (by decide), if_pos rfl, HQ2.out]) (Or.inr rfl)
            rw [List.foldl_cons, h1, List.foldl_cons, h2]; rfl
          rw [HF] at HV
          simp only [] at HV
          clear HF HQ HQ2
          replace hb0 : BlkAt (((w4.setCell ⟨w.heap.size + 2, 0, none⟩ (.string (mkS b2))).setCell ⟨w.heap.size + 2, 1, none⟩ (.int .i64 e2)).setCell ⟨w.heap.size + 1, 2, none⟩ (.string (mkS x2))) (w.heap.size) 69 #[.int .u8 0, .string ⟨#[]⟩, .string ⟨#[]⟩, .int .u8 0, .int .u8 0] := (((hb0).fr (fr_set1 _ (w.heap.size + 2) 0 (.string (mkS b2))) (by unfold eqB; omega)).fr (fr_set1 _ (w.heap.size + 2) 1 (.int .i64 e2)) (by unfold eqB; omega)).fr (fr_set1 _ (w.heap.size + 1) 2 (.string (mkS x2))) (by unfold eqB; omega)
          replace hbr : BlkAt (((w4.setCell ⟨w.heap.size + 2, 0, none⟩ (.string (mkS b2))).setCell ⟨w.heap.size + 2, 1, none⟩ (.int .i64 e2)).setCell ⟨w.heap.size + 1, 2, none⟩ (.string (mkS x2))) (w.heap.size + 2) 138 #[.string (mkS b2), .int .i64 e2] := (((hbr).set 0 (.string (mkS b2))).set 1 (.int .i64 e2)).fr (fr_set1 _ (w.heap.size + 1) 2 (.string (mkS x2))) (by unfold eqB; omega)
          replace hbo : BlkAt (((w4.setCell ⟨w.heap.size + 2, 0, none⟩ (.string (mkS b2))).setCell ⟨w.heap.size + 2, 1, none⟩ (.int .i64 e2)).setCell ⟨w.heap.size + 1, 2, none⟩ (.string (mkS x2))) (w.heap.size + 1) 69 #[.int .u8 c.toNat, .string (mkS x1), .string (mkS x2), .int .u8 0, .int .u8 0] := (((hbo).fr (fr_set1 _ (w.heap.size + 2) 0 (.string (mkS b2))) (by unfold eqB; omega)).fr (fr_set1 _ (w.heap.size + 2) 1 (.int .i64 e2)) (by unfold eqB; omega)).set 2 (.string (mkS x2))
          replace f0 := (((f0).trans (fr_set1 _ (w.heap.size + 2) 0 (.string (mkS b2))) (fun i hi h => by unfold eqB at h; omega)).trans (fr_set1 _ (w.heap.size + 2) 1 (.int .i64 e2)) (fun i hi h => by unfold eqB at h; omega)).trans (fr_set1 _ (w.heap.size + 1) 2 (.string (mkS x2))) (fun i hi h => by unfold eqB at h; omega)
          generalize hw5 : (((w4.setCell ⟨w.heap.size + 2, 0, none⟩ (.string (mkS b2))).setCell ⟨w.heap.size + 2, 1, none⟩ (.int .i64 e2)).setCell ⟨w.heap.size + 1, 2, none⟩ (.string (mkS x2))) = w5 at hb0 hbr hbo f0
          obtain ⟨r0, r1, rf⟩ := BlkAt.c2 hbr
          by_cases he : e2 = 0
          · have t1 : ((e2 : Int) == 0) = true := by rw [beq_iff_eq]; omega
            have t2 : ((e2 : Int) != 0) = false := by rw [bne_eq_false_iff_eq]; omega
            by_cases hbn : b2 = []
            · have t3 : (mkS b2).toList.isEmpty = true := by rw [hbn, mkS_toList]; rfl
              have he0 : rEnd ⟨b2, e2⟩ = 0 := by rw [he, hbn]; rfl
              rw [he0] at HV
              obtain ⟨q0, q1, q2, q3, q4, qf⟩ := BlkAt.c5 hbo
              obtain ⟨y0, y1, y2, y3, y4, yf⟩ := BlkAt.c5 hb0
              have FF := f0.trans (fr_set5 w5 w.heap.size (.int .u8 c.toNat) (.string (mkS x1)) (.string (mkS x2)) (.int .u8 0) (.int .u8 0)) (fun i hi h => by unfold eqB at h; omega)
              clear he0 he hbn
              go_wp2_with fail
              have hr := hr.out
              exact bodyPost_ret (v := .tuple #[(⟨c.toNat, mkS x1, mkS x2, 0, 0⟩ : OpV).v, .int .i64 0]) (by simp [results, hr, go_sem, OpV.v, y0, y1, y2, y3, y4]) rfl ⟨by rw [HV.out] <;> rfl, FF⟩
            · have t3 : (mkS b2).toList.isEmpty = false := by rw [mkS_toList]; cases hh : b2 <;> first | rfl | exact absurd hh hbn
              have he0 : rEnd ⟨b2, e2⟩ = 3 := by unfold rEnd; rw [if_pos ⟨he, List.length_pos_iff.2 hbn⟩]
              rw [he0] at HV
              clear he0 he hbn
    
              replace hb0 : BlkAt (w5.setCell ⟨w.heap.size + 2, 1, none⟩ (.int .i64 3)) (w.heap.size) 69 #[.int .u8 0, .string ⟨#[]⟩, .string ⟨#[]⟩, .int .u8 0, .int .u8 0] := (hb0).fr (fr_set1 _ (w.heap.size + 2) 1 (.int .i64 3)) (by unfold eqB; omega)
              replace hbr : BlkAt (w5.setCell ⟨w.heap.size + 2, 1, none⟩ (.int .i64 3)) (w.heap.size + 2) 138 #[.string (mkS b2), .int .i64 3] := (hbr).set 1 (.int .i64 3)
              replace f0 := (f0).trans (fr_set1 _ (w.heap.size + 2) 1 (.int .i64 3)) (fun i hi h => by unfold eqB at h; omega)
              clear hbo t2
              generalize hw5t : (w5.setCell ⟨w.heap.size + 2, 1, none⟩ (.int .i64 3)) = w5t at hb0 hbr f0
              obtain ⟨s0, s1, sf⟩ := BlkAt.c2 hbr
              go_wp2_with fail
              apply wp_region_calm (R := Fr (eqB (w.heap.size))) (C := fun q W => Fr (eqB (w.heap.size)) w5t W ∧ BlkAt W (w.heap.size + 2) 138 #[.string (mkS b2), .int .i64 3] ∧ BlkAt W (w.heap.size) 69 (if q = 0 then #[.int .u8 0, .string ⟨#[]⟩, .string ⟨#[]⟩, .int .u8 0, .int .u8 0] else #[.int .u8 0, .string ⟨#[]⟩, .string ⟨#[]⟩, .int .u8 0, .int .u8 0])) [false, false, false, true, false]
                [eqv _, eqv _, eqv _, anyv, eqv _]
                (by kernel_rfl) (by kernel_rfl) (fun _ _ _ h1 h2 => h1.then' h2) ((Fr.refl _ _).drew) ⟨(Fr.refl _ _).drew, hbr, hb0⟩ (by kernel_rfl)
              · refine ⟨?_, ?_, ?_, ?_, ?_, trivial⟩
                · rw [if_neg (by decide)]; intro kq
                  intro a W K hC hd hK
                  refine wpOp_plain rfl rfl ?_
                  go_wp2_with fail
                  exact hK _ _ (Fr.refl _ _) hC rfl
                · rw [if_neg (by decide)]; intro kq
                  intro a W K hC hd hK
                  have d7 : a.tmps[7]?.getD undef = .pointer (some ⟨w.heap.size + 2, 0, none⟩) := hd 7 (by decide)
                  refine wpOp_plain rfl rfl ?_
                  obtain ⟨x0_0, x0_1, z0⟩ := BlkAt.c2 (hC.2.1)
                  go_wp2_with fail
                  exact hK _ _ (Fr.refl _ _) hC rfl
                · rw [if_neg (by decide)]; intro kq
                  intro a W K hC hd hK
                  have d105 : _ = _ := hd 105 (by decide)
                  refine wpOp_plain rfl rfl ?_
                  obtain ⟨x0_0, x0_1, z0⟩ := BlkAt.c2 (hC.2.1)
                  go_wp2_with fail
                  exact hK _ _ (Fr.refl _ _) hC rfl
                · rw [if_pos (by decide)]
                  intro a W K hC hd hK
                  replace hC : (fun q W => Fr (eqB (w.heap.size)) w5t W ∧ BlkAt W (w.heap.size + 2) 138 #[.string (mkS b2), .int .i64 3] ∧ BlkAt W (w.heap.size) 69 (if q = 0 then #[.int .u8 0, .string ⟨#[]⟩, .string ⟨#[]⟩, .int .u8 0, .int .u8 0] else #[.int .u8 0, .string ⟨#[]⟩, .string ⟨#[]⟩, .int .u8 0, .int .u8 0])) 0 W := hC
                  have d2 : a.tmps[2]?.getD undef = .pointer (some ⟨w.heap.size, 0, none⟩) := hd 2 (by decide)
                  have d104 : _ = _ := hd 104 (by decide)
                  refine wpOp_plain rfl rfl ?_
                  obtain ⟨x0_0, x0_1, z0⟩ := BlkAt.c2 (hC.2.1)
                  have hz0 : BlkAt W (w.heap.size) 69 #[.int .u8 0, .string ⟨#[]⟩, .string ⟨#[]⟩, .int .u8 0, .int .u8 0] := hC.2.2
                  obtain ⟨b0_0, b0_1, b0_2, b0_3, b0_4, zz0⟩ := BlkAt.c5 hz0
                  have fs : Fr (eqB (w.heap.size)) W (((((W.setCell ⟨w.heap.size, 0, none⟩ (.int .u8 0)).setCell ⟨w.heap.size, 1, none⟩ (.string ⟨#[]⟩)).setCell ⟨w.heap.size, 2, none⟩ (.string ⟨#[]⟩)).setCell ⟨w.heap.size, 3, none⟩ (.int .u8 0)).setCell ⟨w.heap.size, 4, none⟩ (.int .u8 0)) := ((((((Fr.refl (eqB (w.heap.size)) W)).setCell (p := ⟨w.heap.size, 0, none⟩) (Or.inl rfl) (.int .u8 0)).setCell (p := ⟨w.heap.size, 1, none⟩) (Or.inl rfl) (.string ⟨#[]⟩)).setCell (p := ⟨w.heap.size, 2, none⟩) (Or.inl rfl) (.string ⟨#[]⟩)).setCell (p := ⟨w.heap.size, 3, none⟩) (Or.inl rfl) (.int .u8 0)).setCell (p := ⟨w.heap.size, 4, none⟩) (Or.inl rfl) (.int .u8 0)
                  have hn0 : BlkAt (((((W.setCell ⟨w.heap.size, 0, none⟩ (.int .u8 0)).setCell ⟨w.heap.size, 1, none⟩ (.string ⟨#[]⟩)).setCell ⟨w.heap.size, 2, none⟩ (.string ⟨#[]⟩)).setCell ⟨w.heap.size, 3, none⟩ (.int .u8 0)).setCell ⟨w.heap.size, 4, none⟩ (.int .u8 0)) (w.heap.size) 69 #[.int .u8 0, .string ⟨#[]⟩, .string ⟨#[]⟩, .int .u8 0, .int .u8 0] := (((((hz0).set 0 (.int .u8 0)).set 1 (.string ⟨#[]⟩)).set 2 (.string ⟨#[]⟩)).set 3 (.int .u8 0)).set 4 (.int .u8 0)
                  go_wp2_with fail
                  exact hK undef _ fs ⟨hC.1.then' fs, (hC.2.1).fr fs (by unfold eqB; omega), hn0⟩ trivial
                · rw [if_neg (by decide)]; intro kq
                  exact calm_mv 106 rfl rfl (Or.inr rfl) (Fr.refl _) (by decide) fun v w hd => hd
              · intro vs w5td fw5td cw5td hV
                have v104 : vs 0 = _ := hV 0 _ _ rfl rfl (by decide)
                have v105 : vs 1 = _ := hV 1 _ _ rfl rfl (by decide)
                have v106 : vs 2 = _ := hV 2 _ _ rfl rfl (by decide)
                have v3 : vs 4 = _ := hV 4 _ _ rfl rfl (by decide)
                clear hV
                replace hbr : BlkAt w5td (w.heap.size + 2) 138 #[.string (mkS b2), .int .i64 3] := cw5td.2.1
                replace hb0 : BlkAt w5td (w.heap.size) 69 #[.int .u8 0, .string ⟨#[]⟩, .string ⟨#[]⟩, .int .u8 0, .int .u8 0] := cw5td.2.2
                replace f0 := f0.trans fw5td (fun i hi h => by unfold eqB at h; omega)
                clear cw5td
                simp only [putL, Act.put, Nat.reduceAdd, List.setIfInBounds_toArray, List.set_cons_zero, List.set_cons_succ, v104, v105, v106, v3]
                obtain ⟨y0, y1, y2, y3, y4, yf⟩ := BlkAt.c5 hb0
                go_wp2_with fail
                have hr := hr.out
                exact bodyPost_ret (v := .tuple #[zeroOp.v, .int .i64 3]) (by simp [results, hr, go_sem, zeroOp, OpV.v, y0, y1, y2, y3, y4]) rfl ⟨by rw [HV.out] <;> rfl, f0⟩
          · have t1 : ((e2 : Int) == 0) = false := by rw [beq_eq_false_iff_ne]; omega
            have t2 : ((e2 : Int) != 0) = true := by rw [bne_iff_ne]; omega
            have he0 : rEnd ⟨b2, e2⟩ = e2 := by unfold rEnd; rw [if_neg (fun h => he h.1)]
            rw [he0, if_neg he] at HV
            clear he0 he hbo
            obtain ⟨s0, s1, sf⟩ := BlkAt.c2 hbr
            go_wp2_with fail
            apply wp_region_calm (R := Fr (eqB (w.heap.size))) (C := fun q W => Fr (eqB (w.heap.size)) w5 W ∧ BlkAt W (w.heap.size + 2) 138 #[.string (mkS b2), .int .i64 e2] ∧ BlkAt W (w.heap.size) 69 (if q = 0 then #[.int .u8 0, .string ⟨#[]⟩, .string ⟨#[]⟩, .int .u8 0, .int .u8 0] else #[.int .u8 0, .string ⟨#[]⟩, .string ⟨#[]⟩, .int .u8 0, .int .u8 0])) [false, false, false, true, false]
              [eqv _, eqv _, eqv _, anyv, eqv _]
              (by kernel_rfl) (by kernel_rfl) (fun _ _ _ h1 h2 => h1.then' h2) ((Fr.refl _ _).drew) ⟨(Fr.refl _ _).drew, hbr, hb0⟩ (by kernel_rfl)
            · refine ⟨?_, ?_, ?_, ?_, ?_, trivial⟩
              · rw [if_neg (by decide)]; intro kq
                intro a W K hC hd hK
                refine wpOp_plain rfl rfl ?_
                go_wp2_with fail
                exact hK _ _ (Fr.refl _ _) hC rfl
              · rw [if_neg (by decide)]; intro kq
                intro a W K hC hd hK
                have d7 : a.tmps[7]?.getD undef = .pointer (some ⟨w.heap.size + 2, 0, none⟩) := hd 7 (by decide)
                refine wpOp_plain rfl rfl ?_
                obtain ⟨x0_0, x0_1, z0⟩ := BlkAt.c2 (hC.2.1)
                go_wp2_with fail
                exact hK _ _ (Fr.refl _ _) hC rfl
              · rw [if_neg (by decide)]; intro kq
                intro a W K hC hd hK
                have d105 : _ = _ := hd 105 (by decide)
                refine wpOp_plain rfl rfl ?_
                obtain ⟨x0_0, x0_1, z0⟩ := BlkAt.c2 (hC.2.1)
                go_wp2_with fail
                exact hK _ _ (Fr.refl _ _) hC rfl
              · rw [if_pos (by decide)]
                intro a W K hC hd hK
                replace hC : (fun q W => Fr (eqB (w.heap.size)) w5 W ∧ BlkAt W (w.heap.size + 2) 138 #[.string (mkS b2), .int .i64 e2] ∧ BlkAt W (w.heap.size) 69 (if q = 0 then #[.int .u8 0, .string ⟨#[]⟩, .string ⟨#[]⟩, .int .u8 0, .int .u8 0] else #[.int .u8 0, .string ⟨#[]⟩, .string ⟨#[]⟩, .int .u8 0, .int .u8 0])) 0 W := hC
                have d2 : a.tmps[2]?.getD undef = .pointer (some ⟨w.heap.size, 0, none⟩) := hd 2 (by decide)
                have d104 : _ = _ := hd 104 (by decide)
                refine wpOp_plain rfl rfl ?_
                obtain ⟨x0_0, x0_1, z0⟩ := BlkAt.c2 (hC.2.1)
                have hz0 : BlkAt W (w.heap.size) 69 #[.int .u8 0, .string ⟨#[]⟩, .string ⟨#[]⟩, .int .u8 0, .int .u8 0] := hC.2.2
                obtain ⟨b0_0, b0_1, b0_2, b0_3, b0_4, zz0⟩ := BlkAt.c5 hz0
                have fs : Fr (eqB (w.heap.size)) W (((((W.setCell ⟨w.heap.size, 0, none⟩ (.int .u8 0)).setCell ⟨w.heap.size, 1, none⟩ (.string ⟨#[]⟩)).setCell ⟨w.heap.size, 2, none⟩ (.string ⟨#[]⟩)).setCell ⟨w.heap.size, 3, none⟩ (.int .u8 0)).setCell ⟨w.heap.size, 4, none⟩ (.int .u8 0)) := ((((((Fr.refl (eqB (w.heap.size)) W)).setCell (p := ⟨w.heap.size, 0, none⟩) (Or.inl rfl) (.int .u8 0)).setCell (p := ⟨w.heap.size, 1, none⟩) (Or.inl rfl) (.string ⟨#[]⟩)).setCell (p := ⟨w.heap.size, 2, none⟩) (Or.inl rfl) (.string ⟨#[]⟩)).setCell (p := ⟨w.heap.size, 3, none⟩) (Or.inl rfl) (.int .u8 0)).setCell (p := ⟨w.heap.size, 4, none⟩) (Or.inl rfl) (.int .u8 0)
                have hn0 : BlkAt (((((W.setCell ⟨w.heap.size, 0, none⟩ (.int .u8 0)).setCell ⟨w.heap.size, 1, none⟩ (.string ⟨#[]⟩)).setCell ⟨w.heap.size, 2, none⟩ (.string ⟨#[]⟩)).setCell ⟨w.heap.size, 3, none⟩ (.int .u8 0)).setCell ⟨w.heap.size, 4, none⟩ (.int .u8 0)) (w.heap.size) 69 #[.int .u8 0, .string ⟨#[]⟩, .string ⟨#[]⟩, .int .u8 0, .int .u8 0] := (((((hz0).set 0 (.int .u8 0)).set 1 (.string ⟨#[]⟩)).set 2 (.string ⟨#[]⟩)).set 3 (.int .u8 0)).set 4 (.int .u8 0)
                go_wp2_with fail
                exact hK undef _ fs ⟨hC.1.then' fs, (hC.2.1).fr fs (by unfold eqB; omega), hn0⟩ trivial
              · rw [if_neg (by decide)]; intro kq
                exact calm_mv 106 rfl rfl (Or.inr rfl) (Fr.refl _) (by decide) fun v w hd => hd
            · intro vs w5d fw5d cw5d hV
              have v104 : vs 0 = _ := hV 0 _ _ rfl rfl (by decide)
              have v105 : vs 1 = _ := hV 1 _ _ rfl rfl (by decide)
              have v106 : vs 2 = _ := hV 2 _ _ rfl rfl (by decide)
              have v3 : vs 4 = _ := hV 4 _ _ rfl rfl (by decide)
              clear hV
              replace hbr : BlkAt w5d (w.heap.size + 2) 138 #[.string (mkS b2), .int .i64 e2] := cw5d.2.1
              replace hb0 : BlkAt w5d (w.heap.size) 69 #[.int .u8 0, .string ⟨#[]⟩, .string ⟨#[]⟩, .int .u8 0, .int .u8 0] := cw5d.2.2
              replace f0 := f0.trans fw5d (fun i hi h => by unfold eqB at h; omega)
              clear cw5d
              simp only [putL, Act.put, Nat.reduceAdd, List.setIfInBounds_toArray, List.set_cons_zero, List.set_cons_succ, v104, v105, v106, v3]
              obtain ⟨y0, y1, y2, y3, y4, yf⟩ := BlkAt.c5 hb0
              go_wp2_with fail
              have hr := hr.out
              exact bodyPost_ret (v := .tuple #[zeroOp.v, .int .i64 e2]) (by simp [results, hr, go_sem, zeroOp, OpV.v, y0, y1, y2, y3, y4]) rfl ⟨by rw [HV.out] <;> rfl, f0⟩
        · obtain ⟨y0, y1, yf⟩ := BlkAt.c2 hbr
          go_wp2_with fail
          generalize (w1.alloc (.cells #[.string (mkS t), .int .i64 0] 138)) = wb at *
          have hg := textGetR_calls wb ⟨t, 0⟩ 65535 (fun h => absurd rfl h) (by have := HTL.out; simp only []; omega) (by decide) (by decide)
          have hi1 := rText_inv (r := ⟨t, 0⟩) (fun h => absurd rfl h) 65535
          have hl1 := rText_left ⟨t, 0⟩ 65535
          generalize hq : rText ⟨t, 0⟩ 65535 = q1 at hg hi1 hl1
          have HQ := hid hq
          clear hq
          obtain ⟨⟨b1, e1⟩, x1⟩ := q1
          simp only [Rd.val] at hg hi1 hl1
          refine hg.mono ?_
          rintro e w2 ⟨rfl, f2⟩
          clear hg y0 y1 yf
          simp only [Rd.val]
          replace hb0 := hb0.fr f2 id
          replace hbo := hbo.fr f2 id
          replace hbr := hbr.fr f2 id
          replace f0 := f0.then' f2
          clear f2
          obtain ⟨y0, y1, yf⟩ := BlkAt.c2 hbr
          obtain ⟨p0, p1, p2, p3, p4, pf⟩ := BlkAt.c5 hbo
          have HF : List.foldl rdSign (⟨c.toNat, ⟨#[]⟩, ⟨#[]⟩, 0, 0⟩, ⟨t, 0⟩) [97] = (⟨c.toNat, mkS x1, ⟨#[]⟩, 0, 0⟩, ⟨b1, e1⟩) := by
            have h1 : rdSign (⟨c.toNat, ⟨#[]⟩, ⟨#[]⟩, 0, 0⟩, ⟨t, 0⟩) 97 = (⟨c.toNat, mkS x1, ⟨#[]⟩, 0, 0⟩, ⟨b1, e1⟩) := rdSign_keep (by unfold rdPart; rw [if_pos rfl, HQ.out]) (Or.inr rfl)
            rw [List.foldl_cons, h1]; rfl
          rw [HF] at HV
          simp only [] at HV
          clear HF HQ
          replace hb0 : BlkAt (((w2.setCell ⟨w.heap.size + 2, 0, none⟩ (.string (mkS b1))).setCell ⟨w.heap.size + 2, 1, none⟩ (.int .i64 e1)).setCell ⟨w.heap.size + 1, 1, none⟩ (.string (mkS x1))) (w.heap.size) 69 #[.int .u8 0, .string ⟨#[]⟩, .string ⟨#[]⟩, .int .u8 0, .int .u8 0] := (((hb0).fr (fr_set1 _ (w.heap.size + 2) 0 (.string (mkS b1))) (by unfold eqB; omega)).fr (fr_set1 _ (w.heap.size + 2) 1 (.int .i64 e1)) (by unfold eqB; omega)).fr (fr_set1 _ (w.heap.size + 1) 1 (.string (mkS x1))) (by unfold eqB; omega)
          replace hbr : BlkAt (((w2.setCell ⟨w.heap.size + 2, 0, none⟩ (.string (mkS b1))).setCell ⟨w.heap.size + 2, 1, none⟩ (.int .i64 e1)).setCell ⟨w.heap.size + 1, 1, none⟩ (.string (mkS x1))) (w.heap.size + 2) 138 #[.string (mkS b1), .int .i64 e1] := (((hbr).set 0 (.string (mkS b1))).set 1 (.int .i64 e1)).fr (fr_set1 _ (w.heap.size + 1) 1 (.string (mkS x1))) (by unfold eqB; omega)
          replace hbo : BlkAt (((w2.setCell ⟨w.heap.size + 2, 0, none⟩ (.string (mkS b1))).setCell ⟨w.heap.size + 2, 1, none⟩ (.int .i64 e1)).setCell ⟨w.heap.size + 1, 1, none⟩ (.string (mkS x1))) (w.heap.size + 1) 69 #[.int .u8 c.toNat, .string (mkS x1), .string ⟨#[]⟩, .int .u8 0, .int .u8 0] := (((hbo).fr (fr_set1 _ (w.heap.size + 2) 0 (.string (mkS b1))) (by unfold eqB; omega)).fr (fr_set1 _ (w.heap.size + 2) 1 (.int .i64 e1)) (by unfold eqB; omega)).set 1 (.string (mkS x1))
          replace f0 := (((f0).trans (fr_set1 _ (w.heap.size + 2) 0 (.string (mkS b1))) (fun i hi h => by unfold eqB at h; omega)).trans (fr_set1 _ (w.heap.size + 2) 1 (.int .i64 e1)) (fun i hi h => by unfold eqB at h; omega)).trans (fr_set1 _ (w.heap.size + 1) 1 (.string (mkS x1))) (fun i hi h => by unfold eqB at h; omega)
          generalize hw3 : (((w2.setCell ⟨w.heap.size + 2, 0, none⟩ (.string (mkS b1))).setCell ⟨w.heap.size + 2, 1, none⟩ (.int .i64 e1)).setCell ⟨w.heap.size + 1, 1, none⟩ (.string (mkS x1))) = w3 at hb0 hbr hbo f0
          obtain ⟨r0, r1, rf⟩ := BlkAt.c2 hbr
          by_cases he : e1 = 0
          · have t1 : ((e1 : Int) == 0) = true := by rw [beq_iff_eq]; omega
            have t2 : ((e1 : Int) != 0) = false := by rw [bne_eq_false_iff_eq]; omega
            by_cases hbn : b1 = []
            · have t3 : (mkS b1).toList.isEmpty = true := by rw [hbn, mkS_toList]; rfl
              have he0 : rEnd ⟨b1, e1⟩ = 0 := by rw [he, hbn]; rfl
              rw [he0] at HV
              obtain ⟨q0, q1, q2, q3, q4, qf⟩ := BlkAt.c5 hbo
              obtain ⟨y0, y1, y2, y3, y4, yf⟩ := BlkAt.c5 hb0
              have FF := f0.trans (fr_set5 w3 w.heap.size (.int .u8 c.toNat) (.string (mkS x1)) (.string ⟨#[]⟩) (.int .u8 0) (.int .u8 0)) (fun i hi h => by unfold eqB at h; omega)
              clear he0 he hbn
              go_wp2_with fail
              have hr := hr.out
              exact bodyPost_ret (v := .tuple #[(⟨c.toNat, mkS x1, ⟨#[]⟩, 0, 0⟩ : OpV).v, .int .i64 0]) (by simp [results, hr, go_sem, OpV.v, y0, y1, y2, y3, y4]) rfl ⟨by rw [HV.out] <;> rfl, FF⟩
            · have t3 : (mkS b1).toList.isEmpty = false := by rw [mkS_toList]; cases hh : b1 <;> first | rfl | exact absurd hh hbn
              have he0 : rEnd ⟨b1, e1⟩ = 3 := by unfold rEnd; rw [if_pos ⟨he, List.length_pos_iff.2 hbn⟩]
              rw [he0] at HV
              clear he0 he hbn
    
              replace hb0 : BlkAt (w3.setCell ⟨w.heap.size + 2, 1, none⟩ (.int .i64 3)) (w.heap.size) 69 #[.int .u8 0, .string ⟨#[]⟩, .string ⟨#[]⟩, .int .u8 0, .int .u8 0] := (hb0).fr (fr_set1 _ (w.heap.size + 2) 1 (.int .i64 3)) (by unfold eqB; omega)
              replace hbr : BlkAt (w3.setCell ⟨w.heap.size + 2, 1, none⟩ (.int .i64 3)) (w.heap.size + 2) 138 #[.string (mkS b1), .int .i64 3] := (hbr).set 1 (.int .i64 3)
              replace f0 := (f0).trans (fr_set1 _ (w.heap.size + 2) 1 (.int .i64 3)) (fun i hi h => by unfold eqB at h; omega)
              clear hbo t2
              generalize hw3t : (w3.setCell ⟨w.heap.size + 2, 1, none⟩ (.int .i64 3)) = w3t at hb0 hbr f0
              obtain ⟨s0, s1, sf⟩ := BlkAt.c2 hbr
              go_wp2_with fail
              apply wp_region_calm (R := Fr (eqB (w.heap.size))) (C := fun q W => Fr (eqB (w.heap.size)) w3t W ∧ BlkAt W (w.heap.size + 2) 138 #[.string (mkS b1), .int .i64 3] ∧ BlkAt W (w.heap.size) 69 (if q = 0 then #[.int .u8 0, .string ⟨#[]⟩, .string ⟨#[]⟩, .int .u8 0, .int .u8 0] else #[.int .u8 0, .string ⟨#[]⟩, .string ⟨#[]⟩, .int .u8 0, .int .u8 0])) [false, false, false, true, false]
                [eqv _, eqv _, eqv _, anyv, eqv _]
                (by kernel_rfl) (by kernel_rfl) (fun _ _ _ h1 h2 => h1.then' h2) ((Fr.refl _ _).drew) ⟨(Fr.refl _ _).drew, hbr, hb0⟩ (by kernel_rfl)
              · refine ⟨?_, ?_, ?_, ?_, ?_, trivial⟩
                · rw [if_neg (by decide)]; intro kq
                  intro a W K hC hd hK
                  refine wpOp_plain rfl rfl ?_
                  go_wp2_with fail
                  exact hK _ _ (Fr.refl _ _) hC rfl
                · rw [if_neg (by decide)]; intro kq
                  intro a W K hC hd hK
                  have d7 : a.tmps[7]?.getD undef = .pointer (some ⟨w.heap.size + 2, 0, none⟩) := hd 7 (by decide)
                  refine wpOp_plain rfl rfl ?_
                  obtain ⟨x0_0, x0_1, z0⟩ := BlkAt.c2 (hC.2.1)
                  go_wp2_with fail
                  exact hK _ _ (Fr.refl _ _) hC rfl
                · rw [if_neg (by decide)]; intro kq
                  intro a W K hC hd hK
                  have d105 : _ = _ := hd 105 (by decide)
                  refine wpOp_plain rfl rfl ?_
                  obtain ⟨x0_0, x0_1, z0⟩ := BlkAt.c2 (hC.2.1)
                  go_wp2_with fail
                  exact hK _ _ (Fr.refl _ _) hC rfl
                · rw [if_pos (by decide)]
                  intro a W K hC hd hK
                  replace hC : (fun q W => Fr (eqB (w.heap.size)) w3t W ∧ BlkAt W (w.heap.size + 2) 138 #[.string (mkS b1), .int .i64 3] ∧ BlkAt W (w.heap.size) 69 (if q = 0 then #[.int .u8 0, .string ⟨#[]⟩, .string ⟨#[]⟩, .int .u8 0, .int .u8 0] else #[.int .u8 0, .string ⟨#[]⟩, .string ⟨#[]⟩, .int .u8 0, .int .u8 0])) 0 W := hC
                  have d2 : a.tmps[2]?.getD undef = .pointer (some ⟨w.heap.size, 0, none⟩) := hd 2 (by decide)
                  have d104 : _ = _ := hd 104 (by decide)
                  refine wpOp_plain rfl rfl ?_
                  obtain ⟨x0_0, x0_1, z0⟩ := BlkAt.c2 (hC.2.1)
                  have hz0 : BlkAt W (w.heap.size) 69 #[.int .u8 0, .string ⟨#[]⟩, .string ⟨#[]⟩, .int .u8 0, .int .u8 0] := hC.2.2
                  obtain ⟨b0_0, b0_1, b0_2, b0_3, b0_4, zz0⟩ := BlkAt.c5 hz0
                  have fs : Fr (eqB (w.heap.size)) W (((((W.setCell ⟨w.heap.size, 0, none⟩ (.int .u8 0)).setCell ⟨w.heap.size, 1, none⟩ (.string ⟨#[]⟩)).setCell ⟨w.heap.size, 2, none⟩ (.string ⟨#[]⟩)).setCell ⟨w.heap.size, 3, none⟩ (.int .u8 0)).setCell ⟨w.heap.size, 4, none⟩ (.int .u8 0)) := ((((((Fr.refl (eqB (w.heap.size)) W)).setCell (p := ⟨w.heap.size, 0, none⟩) (Or.inl rfl) (.int .u8 0)).setCell (p := ⟨w.heap.size, 1, none⟩) (Or.inl rfl) (.string ⟨#[]⟩)).setCell (p := ⟨w.heap.size, 2, none⟩) (Or.inl rfl) (.string ⟨#[]⟩)).setCell (p := ⟨w.heap.size, 3, none⟩) (Or.inl rfl) (.int .u8 0)).setCell (p := ⟨w.heap.size, 4, none⟩) (Or.inl rfl) (.int .u8 0)
                  have hn0 : BlkAt (((((W.setCell ⟨w.heap.size, 0, none⟩ (.int .u8 0)).setCell ⟨w.heap.size, 1, none⟩ (.string ⟨#[]⟩)).setCell ⟨w.heap.size, 2, none⟩ (.string ⟨#[]⟩)).setCell ⟨w.heap.size, 3, none⟩ (.int .u8 0)).setCell ⟨w.heap.size, 4, none⟩ (.int .u8 0)) (w.heap.size) 69 #[.int .u8 0, .string ⟨#[]⟩, .string ⟨#[]⟩, .int .u8 0, .int .u8 0] := (((((hz0).set 0 (.int .u8 0)).set 1 (.string ⟨#[]⟩)).set 2 (.string ⟨#[]⟩)).set 3 (.int .u8 0)).set 4 (.int .u8 0)
                  go_wp2_with fail
                  exact hK undef _ fs ⟨hC.1.then' fs, (hC.2.1).fr fs (by unfold eqB; omega), hn0⟩ trivial
                · rw [if_neg (by decide)]; intro kq
                  exact calm_mv 106 rfl rfl (Or.inr rfl) (Fr.refl _) (by decide) fun v w hd => hd
              · intro vs w3td fw3td cw3td hV
                have v104 : vs 0 = _ := hV 0 _ _ rfl rfl (by decide)
                have v105 : vs 1 = _ := hV 1 _ _ rfl rfl (by decide)
                have v106 : vs 2 = _ := hV 2 _ _ rfl rfl (by decide)
                have v3 : vs 4 = _ := hV 4 _ _ rfl rfl (by decide)
                clear hV
                replace hbr : BlkAt w3td (w.heap.size + 2) 138 #[.string (mkS b1), .int .i64 3] := cw3td.2.1
                replace hb0 : BlkAt w3td (w.heap.size) 69 #[.int .u8 0, .string ⟨#[]⟩, .string ⟨#[]⟩, .int .u8 0, .int .u8 0] := cw3td.2.2
                replace f0 := f0.trans fw3td (fun i hi h => by unfold eqB at h; omega)
                clear cw3td
                simp only [putL, Act.put, Nat.reduceAdd, List.setIfInBounds_toArray, List.set_cons_zero, List.set_cons_succ, v104, v105, v106, v3]
                obtain ⟨y0, y1, y2, y3, y4, yf⟩ := BlkAt.c5 hb0
                go_wp2_with fail
                have hr := hr.out
                exact bodyPost_ret (v := .tuple #[zeroOp.v, .int .i64 3]) (by simp [results, hr, go_sem, zeroOp, OpV.v, y0, y1, y2, y3, y4]) rfl ⟨by rw [HV.out] <;> rfl, f0⟩
          · have t1 : ((e1 : Int) == 0) = false := by rw [beq_eq_false_iff_ne]; omega
            have t2 : ((e1 : Int) != 0) = true := by rw [bne_iff_ne]; omega
            have he0 : rEnd ⟨b1, e1⟩ = e1 := by unfold rEnd; rw [if_neg (fun h => he h.1)]
            rw [he0, if_neg he] at HV
            clear he0 he hbo
            obtain ⟨s0, s1, sf⟩ := BlkAt.c2 hbr
            go_wp2_with fail
            apply wp_region_calm (R := Fr (eqB (w.heap.size))) (C := fun q W => Fr (eqB (w.heap.size)) w3 W ∧ BlkAt W (w.heap.size + 2) 138 #[.string (mkS b1), .int .i64 e1] ∧ BlkAt W (w.heap.size) 69 (if q = 0 then #[.int .u8 0, .string ⟨#[]⟩, .string ⟨#[]⟩, .int .u8 0, .int .u8 0] else #[.int .u8 0, .string ⟨#[]⟩, .string ⟨#[]⟩, .int .u8 0, .int .u8 0])) [false, false, false, true, false]
              [eqv _, eqv _, eqv _, anyv, eqv _]
              (by kernel_rfl) (by kernel_rfl) (fun _ _ _ h1 h2 => h1.then' h2) ((Fr.refl _ _).drew) ⟨(Fr.refl _ _).drew, hbr, hb0⟩ (by kernel_rfl)
            · refine ⟨?_, ?_, ?_, ?_, ?_, trivial⟩
              · rw [if_neg (by decide)]; intro kq
                intro a W K hC hd hK
                refine wpOp_plain rfl rfl ?_
                go_wp2_with fail
                exact hK _ _ (Fr.refl _ _) hC rfl
              · rw [if_neg (by decide)]; intro kq
                intro a W K hC hd hK
                have d7 : a.tmps[7]?.getD undef = .pointer (some ⟨w.heap.size + 2, 0, none⟩) := hd 7 (by decide)
                refine wpOp_plain rfl rfl ?_
                obtain ⟨x0_0, x0_1, z0⟩ := BlkAt.c2 (hC.2.1)
                go_wp2_with fail
                exact hK _ _ (Fr.refl _ _) hC rfl
              · rw [if_neg (by decide)]; intro kq
                intro a W K hC hd hK
                have d105 : _ = _ := hd 105 (by decide)
                refine wpOp_plain rfl rfl ?_
                obtain ⟨x0_0, x0_1, z0⟩ := BlkAt.c2 (hC.2.1)
                go_wp2_with fail
                exact hK _ _ (Fr.refl _ _) hC rfl
              · rw [if_pos (by decide)]
                intro a W K hC hd hK
                replace hC : (fun q W => Fr (eqB (w.heap.size)) w3 W ∧ BlkAt W (w.heap.size + 2) 138 #[.string (mkS b1), .int .i64 e1] ∧ BlkAt W (w.heap.size) 69 (if q = 0 then #[.int .u8 0, .string ⟨#[]⟩, .string ⟨#[]⟩, .int .u8 0, .int .u8 0] else #[.int .u8 0, .string ⟨#[]⟩, .string ⟨#[]⟩, .int .u8 0, .int .u8 0])) 0 W := hC
                have d2 : a.tmps[2]?.getD undef = .pointer (some ⟨w.heap.size, 0, none⟩) := hd 2 (by decide)
                have d104 : _ = _ := hd 104 (by decide)
                refine wpOp_plain rfl rfl ?_
                obtain ⟨x0_0, x0_1, z0⟩ := BlkAt.c2 (hC.2.1)
                have hz0 : BlkAt W (w.heap.size) 69 #[.int .u8 0, .string ⟨#[]⟩, .string ⟨#[]⟩, .int .u8 0, .int .u8 0] := hC.2.2
                obtain ⟨b0_0, b0_1, b0_2, b0_3, b0_4, zz0⟩ := BlkAt.c5 hz0
                have fs : Fr (eqB (w.heap.size)) W (((((W.setCell ⟨w.heap.size, 0, none⟩ (.int .u8 0)).setCell ⟨w.heap.size, 1, none⟩ (.string ⟨#[]⟩)).setCell ⟨w.heap.size, 2, none⟩ (.string ⟨#[]⟩)).setCell ⟨w.heap.size, 3, none⟩ (.int .u8 0)).setCell ⟨w.heap.size, 4, none⟩ (.int .u8 0)) := ((((((Fr.refl (eqB (w.heap.size)) W)).setCell (p := ⟨w.heap.size, 0, none⟩) (Or.inl rfl) (.int .u8 0)).setCell (p := ⟨w.heap.size, 1, none⟩) (Or.inl rfl) (.string ⟨#[]⟩)).setCell (p := ⟨w.heap.size, 2, none⟩) (Or.inl rfl) (.string ⟨#[]⟩)).setCell (p := ⟨w.heap.size, 3, none⟩) (Or.inl rfl) (.int .u8 0)).setCell (p := ⟨w.heap.size, 4, none⟩) (Or.inl rfl) (.int .u8 0)
                have hn0 : BlkAt (((((W.setCell ⟨w.heap.size, 0, none⟩ (.int .u8 0)).setCell ⟨w.heap.size, 1, none⟩ (.string ⟨#[]⟩)).setCell ⟨w.heap.size, 2, none⟩ (.string ⟨#[]⟩)).setCell ⟨w.heap.size, 3, none⟩ (.int .u8 0)).setCell ⟨w.heap.size, 4, none⟩ (.int .u8 0)) (w.heap.size) 69 #[.int .u8 0, .string ⟨#[]⟩, .string ⟨#[]⟩, .int .u8 0, .int .u8 0] := (((((hz0).set 0 (.int .u8 0)).set 1 (.string ⟨#[]⟩)).set 2 (.string ⟨#[]⟩)).set 3 (.int .u8 0)).set 4 (.int .u8 0)
                go_wp2_with fail
                exact hK undef _ fs ⟨hC.1.then' fs, (hC.2.1).fr fs (by unfold eqB; omega), hn0⟩ trivial
              · rw [if_neg (by decide)]; intro kq
                exact calm_mv 106 rfl rfl (Or.inr rfl) (Fr.refl _) (by decide) fun v w hd => hd
            · intro vs w3d fw3d cw3d hV
              have v104 : vs 0 = _ := hV 0 _ _ rfl rfl (by decide)
              have v105 : vs 1 = _ := hV 1 _ _ rfl rfl (by decide)
              have v106 : vs 2 = _ := hV 2 _ _ rfl rfl (by decide)
              have v3 : vs 4 = _ := hV 4 _ _ rfl rfl (by decide)
              clear hV
              replace hbr : BlkAt w3d (w.heap.size + 2) 138 #[.string (mkS b1), .int .i64 e1] := cw3d.2.1
              replace hb0 : BlkAt w3d (w.heap.size) 69 #[.int .u8 0, .string ⟨#[]⟩, .string ⟨#[]⟩, .int .u8 0, .int .u8 0] := cw3d.2.2
              replace f0 := f0.trans fw3d (fun i hi h => by unfold eqB at h; omega)
              clear cw3d
              simp only [putL, Act.put, Nat.reduceAdd, List.setIfInBounds_toArray, List.set_cons_zero, List.set_cons_succ, v104, v105, v106, v3]
              obtain ⟨y0, y1, y2, y3, y4, yf⟩ := BlkAt.c5 hb0
              go_wp2_with fail
              have hr := hr.out
              exact bodyPost_ret (v := .tuple #[zeroOp.v, .int .i64 e1]) (by simp [results, hr, go_sem, zeroOp, OpV.v, y0, y1, y2, y3, y4]) rfl ⟨by rw [HV.out] <;> rfl, f0⟩
        · obtain ⟨y0, y1, yf⟩ := BlkAt.c2 hbr
          go_upto_region 25 with fail
          generalize (w1.alloc (.cells #[.string (mkS t), .int .i64 0] 138)) = wb at *
          have HF : List.foldl rdSign (⟨c.toNat, ⟨#[]⟩, ⟨#[]⟩, 0, 0⟩, ⟨t, 0⟩) [] = (⟨c.toNat, ⟨#[]⟩, ⟨#[]⟩, 0, 0⟩, ⟨t, 0⟩) := rfl
          rw [HF] at HV
          simp only [] at HV
          clear HF y0 y1 yf
          obtain ⟨r0, r1, rf⟩ := BlkAt.c2 hbr
          by_cases hbn : t = []
          · have t3 : (mkS t).toList.isEmpty = true := by rw [hbn, mkS_toList]; rfl
            have he0 : rEnd ⟨t, 0⟩ = 0 := by rw [hbn]; rfl
            rw [he0] at HV
            obtain ⟨q0, q1, q2, q3, q4, qf⟩ := BlkAt.c5 hbo
            obtain ⟨y0, y1, y2, y3, y4, yf⟩ := BlkAt.c5 hb0
            have FF := f0.trans (fr_set5 wb w.heap.size (.int .u8 c.toNat) (.string ⟨#[]⟩) (.string ⟨#[]⟩) (.int .u8 0) (.int .u8 0)) (fun i hi h => by unfold eqB at h; omega)
            clear he0 hbn
            go_wp2_with fail
            have hr := hr.out
            exact bodyPost_ret (v := .tuple #[(⟨c.toNat, ⟨#[]⟩, ⟨#[]⟩, 0, 0⟩ : OpV).v, .int .i64 0]) (by simp [results, hr, go_sem, OpV.v, y0, y1, y2, y3, y4]) rfl ⟨by rw [HV.out] <;> rfl, FF⟩
          · have t3 : (mkS t).toList.isEmpty = false := by rw [mkS_toList]; cases hh : t <;> first | rfl | exact absurd hh hbn
            have he0 : rEnd ⟨t, 0⟩ = 3 := by unfold rEnd; rw [if_pos ⟨rfl, List.length_pos_iff.2 hbn⟩]
            rw [he0] at HV
            clear he0 hbn
            replace hb0 : BlkAt (wb.setCell ⟨w.heap.size + 2, 1, none⟩ (.int .i64 3)) (w.heap.size) 69 #[.int .u8 0, .string ⟨#[]⟩, .string ⟨#[]⟩, .int .u8 0, .int .u8 0] := (hb0).fr (fr_set1 _ (w.heap.size + 2) 1 (.int .i64 3)) (by unfold eqB; omega)
            replace hbr : BlkAt (wb.setCell ⟨w.heap.size + 2, 1, none⟩ (.int .i64 3)) (w.heap.size + 2) 138 #[.string (mkS t), .int .i64 3] := (hbr).set 1 (.int .i64 3)
            replace f0 := (f0).trans (fr_set1 _ (w.heap.size + 2) 1 (.int .i64 3)) (fun i hi h => by unfold eqB at h; omega)
            clear hbo
            generalize hwbt : (wb.setCell ⟨w.heap.size + 2, 1, none⟩ (.int .i64 3)) = wbt at hb0 hbr f0
            obtain ⟨s0, s1, sf⟩ := BlkAt.c2 hbr
            go_wp2_with fail
            apply wp_region_calm (R := Fr (eqB (w.heap.size))) (C := fun q W => Fr (eqB (w.heap.size)) wbt W ∧ BlkAt W (w.heap.size + 2) 138 #[.string (mkS t), .int .i64 3] ∧ BlkAt W (w.heap.size) 69 (if q = 0 then #[.int .u8 0, .string ⟨#[]⟩, .string ⟨#[]⟩, .int .u8 0, .int .u8 0] else #[.int .u8 0, .string ⟨#[]⟩, .string ⟨#[]⟩, .int .u8 0, .int .u8 0])) [false, false, false, true, false]
              [eqv _, eqv _, eqv _, anyv, eqv _]
              (by kernel_rfl) (by kernel_rfl) (fun _ _ _ h1 h2 => h1.then' h2) ((Fr.refl _ _).drew) ⟨(Fr.refl _ _).drew, hbr, hb0⟩ (by kernel_rfl)
            · refine ⟨?_, ?_, ?_, ?_, ?_, trivial⟩
              · rw [if_neg (by decide)]; intro kq
                intro a W K hC hd hK
                refine wpOp_plain rfl rfl ?_
                go_wp2_with fail
                exact hK _ _ (Fr.refl _ _) hC rfl
              · rw [if_neg (by decide)]; intro kq
                intro a W K hC hd hK
                have d7 : a.tmps[7]?.getD undef = .pointer (some ⟨w.heap.size + 2, 0, none⟩) := hd 7 (by decide)
                refine wpOp_plain rfl rfl ?_
                obtain ⟨x0_0, x0_1, z0⟩ := BlkAt.c2 (hC.2.1)
                go_wp2_with fail
                exact hK _ _ (Fr.refl _ _) hC rfl
              · rw [if_neg (by decide)]; intro kq
                intro a W K hC hd hK
                have d105 : _ = _ := hd 105 (by decide)
                refine wpOp_plain rfl rfl ?_
                obtain ⟨x0_0, x0_1, z0⟩ := BlkAt.c2 (hC.2.1)
                go_wp2_with fail
                exact hK _ _ (Fr.refl _ _) hC rfl
              · rw [if_pos (by decide)]
                intro a W K hC hd hK
                replace hC : (fun q W => Fr (eqB (w.heap.size)) wbt W ∧ BlkAt W (w.heap.size + 2) 138 #[.string (mkS t), .int .i64 3] ∧ BlkAt W (w.heap.size) 69 (if q = 0 then #[.int .u8 0, .string ⟨#[]⟩, .string ⟨#[]⟩, .int .u8 0, .int .u8 0] else #[.int .u8 0, .string ⟨#[]⟩, .string ⟨#[]⟩, .int .u8 0, .int .u8 0])) 0 W := hC
                have d2 : a.tmps[2]?.getD undef = .pointer (some ⟨w.heap.size, 0, none⟩) := hd 2 (by decide)
                have d104 : _ = _ := hd 104 (by decide)
                refine wpOp_plain rfl rfl ?_
                obtain ⟨x0_0, x0_1, z0⟩ := BlkAt.c2 (hC.2.1)
                have hz0 : BlkAt W (w.heap.size) 69 #[.int .u8 0, .string ⟨#[]⟩, .string ⟨#[]⟩, .int .u8 0, .int .u8 0] := hC.2.2
                obtain ⟨b0_0, b0_1, b0_2, b0_3, b0_4, zz0⟩ := BlkAt.c5 hz0
                have fs : Fr (eqB (w.heap.size)) W (((((W.setCell ⟨w.heap.size, 0, none⟩ (.int .u8 0)).setCell ⟨w.heap.size, 1, none⟩ (.string ⟨#[]⟩)).setCell ⟨w.heap.size, 2, none⟩ (.string ⟨#[]⟩)).setCell ⟨w.heap.size, 3, none⟩ (.int .u8 0)).setCell ⟨w.heap.size, 4, none⟩ (.int .u8 0)) := ((((((Fr.refl (eqB (w.heap.size)) W)).setCell (p := ⟨w.heap.size, 0, none⟩) (Or.inl rfl) (.int .u8 0)).setCell (p := ⟨w.heap.size, 1, none⟩) (Or.inl rfl) (.string ⟨#[]⟩)).setCell (p := ⟨w.heap.size, 2, none⟩) (Or.inl rfl) (.string ⟨#[]⟩)).setCell (p := ⟨w.heap.size, 3, none⟩) (Or.inl rfl) (.int .u8 0)).setCell (p := ⟨w.heap.size, 4, none⟩) (Or.inl rfl) (.int .u8 0)
                have hn0 : BlkAt (((((W.setCell ⟨w.heap.size, 0, none⟩ (.int .u8 0)).setCell ⟨w.heap.size, 1, none⟩ (.string ⟨#[]⟩)).setCell ⟨w.heap.size, 2, none⟩ (.string ⟨#[]⟩)).setCell ⟨w.heap.size, 3, none⟩ (.int .u8 0)).setCell ⟨w.heap.size, 4, none⟩ (.int .u8 0)) (w.heap.size) 69 #[.int .u8 0, .string ⟨#[]⟩, .string ⟨#[]⟩, .int .u8 0, .int .u8 0] := (((((hz0).set 0 (.int .u8 0)).set 1 (.string ⟨#[]⟩)).set 2 (.string ⟨#[]⟩)).set 3 (.int .u8 0)).set 4 (.int .u8 0)
                go_wp2_with fail
                exact hK undef _ fs ⟨hC.1.then' fs, (hC.2.1).fr fs (by unfold eqB; omega), hn0⟩ trivial
              · rw [if_neg (by decide)]; intro kq
                exact calm_mv 106 rfl rfl (Or.inr rfl) (Fr.refl _) (by decide) fun v w hd => hd
            · intro vs wbtd fwbtd cwbtd hV
              have v104 : vs 0 = _ := hV 0 _ _ rfl rfl (by decide)
              have v105 : vs 1 = _ := hV 1 _ _ rfl rfl (by decide)
              have v106 : vs 2 = _ := hV 2 _ _ rfl rfl (by decide)
              have v3 : vs 4 = _ := hV 4 _ _ rfl rfl (by decide)
              clear hV
              replace hbr : BlkAt wbtd (w.heap.size + 2) 138 #[.string (mkS t), .int .i64 3] := cwbtd.2.1
              replace hb0 : BlkAt wbtd (w.heap.size) 69 #[.int .u8 0, .string ⟨#[]⟩, .string ⟨#[]⟩, .int .u8 0, .int .u8 0] := cwbtd.2.2
              replace f0 := f0.trans fwbtd (fun i hi h => by unfold eqB at h; omega)
              clear cwbtd
              simp only [putL, Act.put, Nat.reduceAdd, List.setIfInBounds_toArray, List.set_cons_zero, List.set_cons_succ, v104, v105, v106, v3]
              obtain ⟨y0, y1, y2, y3, y4, yf⟩ := BlkAt.c5 hb0
              go_wp2_with fail
              have hr := hr.out
              exact bodyPost_ret (v := .tuple #[zeroOp.v, .int .i64 3]) (by simp [results, hr, go_sem, zeroOp, OpV.v, y0, y1, y2, y3, y4]) rfl ⟨by rw [HV.out] <;> rfl, f0⟩
        · obtain ⟨y0, y1, yf⟩ := BlkAt.c2 hbr
          go_wp2_with fail
          generalize (w1.alloc (.cells #[.string (mkS t), .int .i64 0] 138)) = wb at *
          have hg := getR_calls wb ⟨t, 0⟩ 1 (fun h => absurd rfl h) (by have := HTL.out; simp only []; omega) (by decide)
          have hi1 := rNum_inv (r := ⟨t, 0⟩) 1 (fun h => absurd rfl h)
          have hl1 := rTake_left ⟨t, 0⟩ 1
          have hl1' : (rNum ⟨t, 0⟩ 1).1.bs.length ≤ t.length := hl1
          have hps := @rNum_pos ⟨t, 0⟩ 1 (fun h => absurd rfl h)
          have hx256 := rNum_lt ⟨t, 0⟩ 1
          generalize hq : rNum ⟨t, 0⟩ 1 = q1 at hg hi1 hl1' hps hx256
          have HQ := hid hq
          clear hq hl1
          obtain ⟨⟨b1, e1⟩, x1⟩ := q1
          simp only [Rd.val] at hg hi1 hl1' hps hx256
          refine hg.mono ?_
          rintro e w2 ⟨rfl, f2⟩
          clear hg y0 y1 yf
          simp only [Rd.val]
          replace hb0 := (hb0.fr f2 id).al (.cells #[.string (mkS b1), .int .i64 e1] 138)
          replace hbo := (hbo.fr f2 id).al (.cells #[.string (mkS b1), .int .i64 e1] 138)
          replace hbr := (hbr.fr f2 id).al (.cells #[.string (mkS b1), .int .i64 e1] 138)
          replace f0 := (f0.then' f2).alloc (.cells #[.string (mkS b1), .int .i64 e1] 138)
          have hbq : BlkAt (w2.alloc (.cells #[.string (mkS b1), .int .i64 e1] 138)) w2.heap.size 138 #[.string (mkS b1), .int .i64 e1] := BlkAt.new _ _ _
          have hpq : w.heap.size + 3 ≤ w2.heap.size := by have := f2.size; omega
          have hxw : IntKind.u8.wrap (x1 : Int) = x1 := by rw [IntKind.wrap_u8]; omega
          clear f2
          generalize hpqe : w2.heap.size = pq at hbq hpq
          by_cases h6 : 6 < x1
          · have d6 : decide ((6 : Int) < (x1 : Int)) = true := decide_eq_true (by omega)
            have he1 : e1 = 0 := hps (by omega)
            have HF : Hid (List.foldl rdSign (⟨c.toNat, ⟨#[]⟩, ⟨#[]⟩, 0, 0⟩, ⟨t, 0⟩) [110, 114] = (⟨c.toNat, ⟨#[]⟩, ⟨#[]⟩, x1, 0⟩, ⟨[], 4⟩)) := by
              have h1 : rdSign (⟨c.toNat, ⟨#[]⟩, ⟨#[]⟩, 0, 0⟩, ⟨t, 0⟩) 110 = (⟨c.toNat, ⟨#[]⟩, ⟨#[]⟩, x1, 0⟩, rFail ⟨b1, e1⟩ 4) := rdSign_fail (by unfold rdPart; rw [if_neg (by decide), if_neg (by decide), if_pos rfl, HQ.out]) he1 (by unfold rightV; rw [if_pos rfl]; exact decide_eq_false (by simp only []; omega))
              have h2 : rFail ⟨b1, e1⟩ 4 = ⟨[], 4⟩ := by unfold rFail; rw [if_pos ⟨he1, by decide⟩]
              have h3 : rdSign (⟨c.toNat, ⟨#[]⟩, ⟨#[]⟩, x1, 0⟩, ⟨[], 4⟩) 114 = (⟨c.toNat, ⟨#[]⟩, ⟨#[]⟩, x1, 0⟩, ⟨[], 4⟩) := rdSign_keep (by unfold rdPart; rw [if_neg (by decide), if_neg (by decide), if_neg (by decide), if_pos rfl]; rfl) (Or.inl (by decide))
              unfold Hid
              rw [List.foldl_cons, h1, h2, List.foldl_cons, h3]; rfl
            rw [HF.out] at HV
            simp only [] at HV
            rw [show rEnd ⟨[], 4⟩ = 4 from rfl, if_neg (by decide)] at HV
            have hf := failR_calls (w2.alloc (.cells #[.string (mkS b1), .int .i64 e1] 138)) ⟨b1, e1⟩ 4
            have h2 : rFail ⟨b1, e1⟩ 4 = ⟨[], 4⟩ := by unfold rFail; rw [if_pos ⟨he1, by decide⟩]
            rw [h2] at hf
            obtain ⟨y0, y1, yf⟩ := BlkAt.c2 hbq
            simp only [Rd.val] at hf
            have HE1 := hid he1
            have HX := hid hx256
            clear he1 h6 hps hi1 h2 HF hx256
            go_wp2_with fail
            rw [hpqe] at *
            generalize (w2.alloc (.cells #[.string (mkS b1), .int .i64 e1] 138)) = w3 at *
            refine hf.mono ?_
            rintro e w4 ⟨rfl, f4⟩
            replace hb0 := hb0.fr f4 id
            replace hbo := hbo.fr f4 id
            replace hbr := hbr.fr f4 id
            replace hbq := hbq.fr f4 id
            replace f0 := f0.then' f4
            clear f4 hf y0 y1 yf
            obtain ⟨y0, y1, yf⟩ := BlkAt.c2 hbq
            go_wp2_with fail
            replace hb0 : BlkAt ((w4.setCell ⟨pq, 0, none⟩ (.string (mkS []))).setCell ⟨pq, 1, none⟩ (.int .i64 4)) (w.heap.size) 69 #[.int .u8 0, .string ⟨#[]⟩, .string ⟨#[]⟩, .int .u8 0, .int .u8 0] := ((hb0).fr (fr_set1 _ (pq) 0 (.string (mkS []))) (by unfold eqB; omega)).fr (fr_set1 _ (pq) 1 (.int .i64 4)) (by unfold eqB; omega)
            replace hbr : BlkAt ((w4.setCell ⟨pq, 0, none⟩ (.string (mkS []))).setCell ⟨pq, 1, none⟩ (.int .i64 4)) (w.heap.size + 2) 138 #[.string (mkS t), .int .i64 0] := ((hbr).fr (fr_set1 _ (pq) 0 (.string (mkS []))) (by unfold eqB; omega)).fr (fr_set1 _ (pq) 1 (.int .i64 4)) (by unfold eqB; omega)
            replace hbo : BlkAt ((w4.setCell ⟨pq, 0, none⟩ (.string (mkS []))).setCell ⟨pq, 1, none⟩ (.int .i64 4)) (w.heap.size + 1) 69 #[.int .u8 c.toNat, .string ⟨#[]⟩, .string ⟨#[]⟩, .int .u8 0, .int .u8 0] := ((hbo).fr (fr_set1 _ (pq) 0 (.string (mkS []))) (by unfold eqB; omega)).fr (fr_set1 _ (pq) 1 (.int .i64 4)) (by unfold eqB; omega)
            replace hbq : BlkAt ((w4.setCell ⟨pq, 0, none⟩ (.string (mkS []))).setCell ⟨pq, 1, none⟩ (.int .i64 4)) (pq) 138 #[.string (mkS []), .int .i64 4] := ((hbq).set 0 (.string (mkS []))).set 1 (.int .i64 4)
            replace f0 := ((f0).trans (fr_set1 _ (pq) 0 (.string (mkS []))) (fun i hi h => by unfold eqB at h; omega)).trans (fr_set1 _ (pq) 1 (.int .i64 4)) (fun i hi h => by unfold eqB at h; omega)
            generalize ((w4.setCell ⟨pq, 0, none⟩ (.string (mkS []))).setCell ⟨pq, 1, none⟩ (.int .i64 4)) = w5 at *
            clear y0 y1 yf
            have hg := getR_calls w5 ⟨[], 4⟩ 1 (fun _ => rfl) (by simp) (by decide)
            rw [show rNum ⟨[], 4⟩ 1 = (⟨[], 4⟩, 0) from rfl] at hg
            simp only [Rd.val] at hg
            refine hg.mono ?_
            rintro e w6 ⟨rfl, f6⟩
            replace hb0 := hb0.fr f6 id
            replace hbo := hbo.fr f6 id
            replace hbr := hbr.fr f6 id
            replace hbq := hbq.fr f6 id
            replace f0 := f0.then' f6
            clear f6 hg
            obtain ⟨y0, y1, yf⟩ := BlkAt.c2 hbq
            obtain ⟨r0, r1, rf⟩ := BlkAt.c2 hbr
            obtain ⟨p0, p1, p2, p3, p4, pf⟩ := BlkAt.c5 hbo
            go_upto_region 22 with fail
            replace hb0 : BlkAt ((w6.setCell ⟨pq, 0, none⟩ (.string (mkS []))).setCell ⟨pq, 1, none⟩ (.int .i64 4)) (w.heap.size) 69 #[.int .u8 0, .string ⟨#[]⟩, .string ⟨#[]⟩, .int .u8 0, .int .u8 0] := ((hb0).fr (fr_set1 _ (pq) 0 (.string (mkS []))) (by unfold eqB; omega)).fr (fr_set1 _ (pq) 1 (.int .i64 4)) (by unfold eqB; omega)
            replace hbr : BlkAt ((w6.setCell ⟨pq, 0, none⟩ (.string (mkS []))).setCell ⟨pq, 1, none⟩ (.int .i64 4)) (w.heap.size + 2) 138 #[.string (mkS t), .int .i64 0] := ((hbr).fr (fr_set1 _ (pq) 0 (.string (mkS []))) (by unfold eqB; omega)).fr (fr_set1 _ (pq) 1 (.int .i64 4)) (by unfold eqB; omega)
            replace hbo : BlkAt ((w6.setCell ⟨pq, 0, none⟩ (.string (mkS []))).setCell ⟨pq, 1, none⟩ (.int .i64 4)) (w.heap.size + 1) 69 #[.int .u8 c.toNat, .string ⟨#[]⟩, .string ⟨#[]⟩, .int .u8 0, .int .u8 0] := ((hbo).fr (fr_set1 _ (pq) 0 (.string (mkS []))) (by unfold eqB; omega)).fr (fr_set1 _ (pq) 1 (.int .i64 4)) (by unfold eqB; omega)
            replace hbq : BlkAt ((w6.setCell ⟨pq, 0, none⟩ (.string (mkS []))).setCell ⟨pq, 1, none⟩ (.int .i64 4)) (pq) 138 #[.string (mkS []), .int .i64 4] := ((hbq).set 0 (.string (mkS []))).set 1 (.int .i64 4)
            replace f0 := ((f0).trans (fr_set1 _ (pq) 0 (.string (mkS []))) (fun i hi h => by unfold eqB at h; omega)).trans (fr_set1 _ (pq) 1 (.int .i64 4)) (fun i hi h => by unfold eqB at h; omega)
            generalize ((w6.setCell ⟨pq, 0, none⟩ (.string (mkS []))).setCell ⟨pq, 1, none⟩ (.int .i64 4)) = w7 at *
            clear y0 y1 yf r0 r1 rf p0 p1 p2 p3 p4 pf
            obtain ⟨y0, y1, yf⟩ := BlkAt.c2 hbq
            obtain ⟨r0, r1, rf⟩ := BlkAt.c2 hbr
            obtain ⟨p0, p1, p2, p3, p4, pf⟩ := BlkAt.c5 hbo
            replace hb0 : BlkAt ((((w7.setCell ⟨w.heap.size + 2, 0, none⟩ (.string (mkS []))).setCell ⟨w.heap.size + 2, 1, none⟩ (.int .i64 4)).setCell ⟨w.heap.size + 1, 3, none⟩ (.int .u8 x1)).setCell ⟨w.heap.size + 1, 4, none⟩ (.int .u8 0)) (w.heap.size) 69 #[.int .u8 0, .string ⟨#[]⟩, .string ⟨#[]⟩, .int .u8 0, .int .u8 0] := ((((hb0).fr (fr_set1 _ (w.heap.size + 2) 0 (.string (mkS []))) (by unfold eqB; omega)).fr (fr_set1 _ (w.heap.size + 2) 1 (.int .i64 4)) (by unfold eqB; omega)).fr (fr_set1 _ (w.heap.size + 1) 3 (.int .u8 x1)) (by unfold eqB; omega)).fr (fr_set1 _ (w.heap.size + 1) 4 (.int .u8 0)) (by unfold eqB; omega)
            replace hbr : BlkAt ((((w7.setCell ⟨w.heap.size + 2, 0, none⟩ (.string (mkS []))).setCell ⟨w.heap.size + 2, 1, none⟩ (.int .i64 4)).setCell ⟨w.heap.size + 1, 3, none⟩ (.int .u8 x1)).setCell ⟨w.heap.size + 1, 4, none⟩ (.int .u8 0)) (w.heap.size + 2) 138 #[.string (mkS []), .int .i64 4] := ((((hbr).set 0 (.string (mkS []))).set 1 (.int .i64 4)).fr (fr_set1 _ (w.heap.size + 1) 3 (.int .u8 x1)) (by unfold eqB; omega)).fr (fr_set1 _ (w.heap.size + 1) 4 (.int .u8 0)) (by unfold eqB; omega)
            replace hbo : BlkAt ((((w7.setCell ⟨w.heap.size + 2, 0, none⟩ (.string (mkS []))).setCell ⟨w.heap.size + 2, 1, none⟩ (.int .i64 4)).setCell ⟨w.heap.size + 1, 3, none⟩ (.int .u8 x1)).setCell ⟨w.heap.size + 1, 4, none⟩ (.int .u8 0)) (w.heap.size + 1) 69 #[.int .u8 c.toNat, .string ⟨#[]⟩, .string ⟨#[]⟩, .int .u8 x1, .int .u8 0] := ((((hbo).fr (fr_set1 _ (w.heap.size + 2) 0 (.string (mkS []))) (by unfold eqB; omega)).fr (fr_set1 _ (w.heap.size + 2) 1 (.int .i64 4)) (by unfold eqB; omega)).set 3 (.int .u8 x1)).set 4 (.int .u8 0)
            replace f0 := ((((f0).trans (fr_set1 _ (w.heap.size + 2) 0 (.string (mkS []))) (fun i hi h => by unfold eqB at h; omega)).trans (fr_set1 _ (w.heap.size + 2) 1 (.int .i64 4)) (fun i hi h => by unfold eqB at h; omega)).trans (fr_set1 _ (w.heap.size + 1) 3 (.int .u8 x1)) (fun i hi h => by unfold eqB at h; omega)).trans (fr_set1 _ (w.heap.size + 1) 4 (.int .u8 0)) (fun i hi h => by unfold eqB at h; omega)
            generalize hw7z : ((((w7.setCell ⟨w.heap.size + 2, 0, none⟩ (.string (mkS []))).setCell ⟨w.heap.size + 2, 1, none⟩ (.int .i64 4)).setCell ⟨w.heap.size + 1, 3, none⟩ (.int .u8 x1)).setCell ⟨w.heap.size + 1, 4, none⟩ (.int .u8 0)) = w7z at hb0 hbr hbo f0
            clear hbo
            obtain ⟨s0, s1, sf⟩ := BlkAt.c2 hbr
            go_wp2_with fail
            apply wp_region_calm (R := Fr (eqB (w.heap.size))) (C := fun q W => Fr (eqB (w.heap.size)) w7z W ∧ BlkAt W (w.heap.size + 2) 138 #[.string (mkS []), .int .i64 4] ∧ BlkAt W (w.heap.size) 69 (if q = 0 then #[.int .u8 0, .string ⟨#[]⟩, .string ⟨#[]⟩, .int .u8 0, .int .u8 0] else #[.int .u8 0, .string ⟨#[]⟩, .string ⟨#[]⟩, .int .u8 0, .int .u8 0])) [false, false, false, true, false]
              [eqv _, eqv _, eqv _, anyv, eqv _]
              (by kernel_rfl) (by kernel_rfl) (fun _ _ _ h1 h2 => h1.then' h2) ((Fr.refl _ _).drew) ⟨(Fr.refl _ _).drew, hbr, hb0⟩ (by kernel_rfl)
            · refine ⟨?_, ?_, ?_, ?_, ?_, trivial⟩
              · rw [if_neg (by decide)]; intro kq
                intro a W K hC hd hK
                refine wpOp_plain rfl rfl ?_
                go_wp2_with fail
                exact hK _ _ (Fr.refl _ _) hC rfl
              · rw [if_neg (by decide)]; intro kq
                intro a W K hC hd hK
                have d7 : a.tmps[7]?.getD undef = .pointer (some ⟨w.heap.size + 2, 0, none⟩) := hd 7 (by decide)
                refine wpOp_plain rfl rfl ?_
                obtain ⟨x0_0, x0_1, z0⟩ := BlkAt.c2 (hC.2.1)
                go_wp2_with fail
                exact hK _ _ (Fr.refl _ _) hC rfl
              · rw [if_neg (by decide)]; intro kq
                intro a W K hC hd hK
                have d105 : _ = _ := hd 105 (by decide)
                refine wpOp_plain rfl rfl ?_
                obtain ⟨x0_0, x0_1, z0⟩ := BlkAt.c2 (hC.2.1)
                go_wp2_with fail
                exact hK _ _ (Fr.refl _ _) hC rfl
              · rw [if_pos (by decide)]
                intro a W K hC hd hK
                replace hC : (fun q W => Fr (eqB (w.heap.size)) w7z W ∧ BlkAt W (w.heap.size + 2) 138 #[.string (mkS []), .int .i64 4] ∧ BlkAt W (w.heap.size) 69 (if q = 0 then #[.int .u8 0, .string ⟨#[]⟩, .string ⟨#[]⟩, .int .u8 0, .int .u8 0] else #[.int .u8 0, .string ⟨#[]⟩, .string ⟨#[]⟩, .int .u8 0, .int .u8 0])) 0 W := hC
                have d2 : a.tmps[2]?.getD undef = .pointer (some ⟨w.heap.size, 0, none⟩) := hd 2 (by decide)
                have d104 : _ = _ := hd 104 (by decide)
                refine wpOp_plain rfl rfl ?_
                obtain ⟨x0_0, x0_1, z0⟩ := BlkAt.c2 (hC.2.1)
                have hz0 : BlkAt W (w.heap.size) 69 #[.int .u8 0, .string ⟨#[]⟩, .string ⟨#[]⟩, .int .u8 0, .int .u8 0] := hC.2.2
                obtain ⟨b0_0, b0_1, b0_2, b0_3, b0_4, zz0⟩ := BlkAt.c5 hz0
                have fs : Fr (eqB (w.heap.size)) W (((((W.setCell ⟨w.heap.size, 0, none⟩ (.int .u8 0)).setCell ⟨w.heap.size, 1, none⟩ (.string ⟨#[]⟩)).setCell ⟨w.heap.size, 2, none⟩ (.string ⟨#[]⟩)).setCell ⟨w.heap.size, 3, none⟩ (.int .u8 0)).setCell ⟨w.heap.size, 4, none⟩ (.int .u8 0)) := ((((((Fr.refl (eqB (w.heap.size)) W)).setCell (p := ⟨w.heap.size, 0, none⟩) (Or.inl rfl) (.int .u8 0)).setCell (p := ⟨w.heap.size, 1, none⟩) (Or.inl rfl) (.string ⟨#[]⟩)).setCell (p := ⟨w.heap.size, 2, none⟩) (Or.inl rfl) (.string ⟨#[]⟩)).setCell (p := ⟨w.heap.size, 3, none⟩) (Or.inl rfl) (.int .u8 0)).setCell (p := ⟨w.heap.size, 4, none⟩) (Or.inl rfl) (.int .u8 0)
                have hn0 : BlkAt (((((W.setCell ⟨w.heap.size, 0, none⟩ (.int .u8 0)).setCell ⟨w.heap.size, 1, none⟩ (.string ⟨#[]⟩)).setCell ⟨w.heap.size, 2, none⟩ (.string ⟨#[]⟩)).setCell ⟨w.heap.size, 3, none⟩ (.int .u8 0)).setCell ⟨w.heap.size, 4, none⟩ (.int .u8 0)) (w.heap.size) 69 #[.int .u8 0, .string ⟨#[]⟩, .string ⟨#[]⟩, .int .u8 0, .int .u8 0] := (((((hz0).set 0 (.int .u8 0)).set 1 (.string ⟨#[]⟩)).set 2 (.string ⟨#[]⟩)).set 3 (.int .u8 0)).set 4 (.int .u8 0)
                go_wp2_with fail
                exact hK undef _ fs ⟨hC.1.then' fs, (hC.2.1).fr fs (by unfold eqB; omega), hn0⟩ trivial
              · rw [if_neg (by decide)]; intro kq
                exact calm_mv 106 rfl rfl (Or.inr rfl) (Fr.refl _) (by decide) fun v w hd => hd
            · intro vs w7zd fw7zd cw7zd hV
              have v104 : vs 0 = _ := hV 0 _ _ rfl rfl (by decide)
              have v105 : vs 1 = _ := hV 1 _ _ rfl rfl (by decide)
              have v106 : vs 2 = _ := hV 2 _ _ rfl rfl (by decide)
              have v3 : vs 4 = _ := hV 4 _ _ rfl rfl (by decide)
              clear hV
              replace hbr : BlkAt w7zd (w.heap.size + 2) 138 #[.string (mkS []), .int .i64 4] := cw7zd.2.1
              replace hb0 : BlkAt w7zd (w.heap.size) 69 #[.int .u8 0, .string ⟨#[]⟩, .string ⟨#[]⟩, .int .u8 0, .int .u8 0] := cw7zd.2.2
              replace f0 := f0.trans fw7zd (fun i hi h => by unfold eqB at h; omega)
              clear cw7zd
              simp only [putL, Act.put, Nat.reduceAdd, List.setIfInBounds_toArray, List.set_cons_zero, List.set_cons_succ, v104, v105, v106, v3]
              obtain ⟨y0, y1, y2, y3, y4, yf⟩ := BlkAt.c5 hb0
              go_wp2_with fail
              have hr := hr.out
              exact bodyPost_ret (v := .tuple #[zeroOp.v, .int .i64 4]) (by simp [results, hr, go_sem, zeroOp, OpV.v, y0, y1, y2, y3, y4]) rfl ⟨by rw [HV.out] <;> rfl, f0⟩
          · have d6 : decide ((6 : Int) < (x1 : Int)) = false := decide_eq_false (by omega)
            have HS1 : Hid (rdSign (⟨c.toNat, ⟨#[]⟩, ⟨#[]⟩, 0, 0⟩, ⟨t, 0⟩) 110 = (⟨c.toNat, ⟨#[]⟩, ⟨#[]⟩, x1, 0⟩, ⟨b1, e1⟩)) := rdSign_keep (by unfold rdPart; rw [if_neg (by decide), if_neg (by decide), if_pos rfl, HQ.out]) (Or.inr (by unfold rightV; rw [if_pos rfl]; exact decide_eq_true (by simp only []; omega)))
            have hi2 := hid hi1
            obtain ⟨y0, y1, yf⟩ := BlkAt.c2 hbq
            obtain ⟨c1, hc1⟩ : ∃ c, ((e1 : Int) == 0) = c := ⟨_, rfl⟩
            have HC1 : Hid (c1 = true ↔ e1 = 0) := by rw [← hc1]; unfold Hid; rw [beq_iff_eq]; omega
            have HX := hid hx256
            clear h6 hps hi1 HQ hx256
            go_wp2_with fail
            rw [hpqe] at *
            generalize (w2.alloc (.cells #[.string (mkS b1), .int .i64 e1] 138)) = w3 at *
            have hg := getR_calls w3 ⟨b1, e1⟩ 1 hi2.out (by have := HTL.out; simp only []; omega) (by decide)
            have hy256 := rNum_lt ⟨b1, e1⟩ 1
            have hke : e1 ≠ 0 → (rNum ⟨b1, e1⟩ 1).1.e ≠ 0 := fun h => by
              have hb : b1 = [] := hi2.out h
              subst hb
              unfold rNum rTake rFail
              simp [h]
            generalize hq : rNum ⟨b1, e1⟩ 1 = q2 at hg hy256 hke
            have HQ2 := hid hq
            clear hq hi2
            obtain ⟨⟨b2, e2⟩, x2⟩ := q2
            simp only [Rd.val] at hg hy256 hke
            have hP2 : rdPart ⟨c.toNat, ⟨#[]⟩, ⟨#[]⟩, x1, 0⟩ ⟨b1, e1⟩ 114 = (⟨c.toNat, ⟨#[]⟩, ⟨#[]⟩, x1, x2⟩, ⟨b2, e2⟩) := by unfold rdPart; rw [if_neg (by decide), if_neg (by decide), if_neg (by decide), if_pos rfl, HQ2.out]
            have hxw2 : IntKind.u8.wrap (x2 : Int) = x2 := by rw [IntKind.wrap_u8]; omega
            refine hg.mono ?_
            rintro e w4 ⟨rfl, f4⟩
            replace hb0 := hb0.fr f4 id
            replace hbo := hbo.fr f4 id
            replace hbr := hbr.fr f4 id
            replace hbq := hbq.fr f4 id
            replace f0 := f0.then' f4
            clear f4 hg y0 y1 yf HQ2 hy256
            obtain ⟨y0, y1, yf⟩ := BlkAt.c2 hbq
            replace hb0 : BlkAt ((w4.setCell ⟨pq, 0, none⟩ (.string (mkS b2))).setCell ⟨pq, 1, none⟩ (.int .i64 e2)) (w.heap.size) 69 #[.int .u8 0, .string ⟨#[]⟩, .string ⟨#[]⟩, .int .u8 0, .int .u8 0] := ((hb0).fr (fr_set1 _ (pq) 0 (.string (mkS b2))) (by unfold eqB; omega)).fr (fr_set1 _ (pq) 1 (.int .i64 e2)) (by unfold eqB; omega)
            replace hbr : BlkAt ((w4.setCell ⟨pq, 0, none⟩ (.string (mkS b2))).setCell ⟨pq, 1, none⟩ (.int .i64 e2)) (w.heap.size + 2) 138 #[.string (mkS t), .int .i64 0] := ((hbr).fr (fr_set1 _ (pq) 0 (.string (mkS b2))) (by unfold eqB; omega)).fr (fr_set1 _ (pq) 1 (.int .i64 e2)) (by unfold eqB; omega)
            replace hbo : BlkAt ((w4.setCell ⟨pq, 0, none⟩ (.string (mkS b2))).setCell ⟨pq, 1, none⟩ (.int .i64 e2)) (w.heap.size + 1) 69 #[.int .u8 c.toNat, .string ⟨#[]⟩, .string ⟨#[]⟩, .int .u8 0, .int .u8 0] := ((hbo).fr (fr_set1 _ (pq) 0 (.string (mkS b2))) (by unfold eqB; omega)).fr (fr_set1 _ (pq) 1 (.int .i64 e2)) (by unfold eqB; omega)
            replace hbq : BlkAt ((w4.setCell ⟨pq, 0, none⟩ (.string (mkS b2))).setCell ⟨pq, 1, none⟩ (.int .i64 e2)) (pq) 138 #[.string (mkS b2), .int .i64 e2] := ((hbq).set 0 (.string (mkS b2))).set 1 (.int .i64 e2)
            replace f0 := ((f0).trans (fr_set1 _ (pq) 0 (.string (mkS b2))) (fun i hi h => by unfold eqB at h; omega)).trans (fr_set1 _ (pq) 1 (.int .i64 e2)) (fun i hi h => by unfold eqB at h; omega)
            generalize hw5 : ((w4.setCell ⟨pq, 0, none⟩ (.string (mkS b2))).setCell ⟨pq, 1, none⟩ (.int .i64 e2)) = w5 at hb0 hbr hbo hbq f0
            by_cases he2 : e2 = 0
            · have t2 : ((e2 : Int) == 0) = true := by rw [beq_iff_eq]; omega
              have he1 : e1 = 0 := by by_cases h : e1 = 0; exact h; exact absurd he2 (hke h)
              obtain rfl : c1 = true := HC1.out.2 he1
              by_cases hy : 1 ≤ x2 ∧ x2 ≤ 3
              · have d7 : decide ((x2 : Int) < 1) = false := decide_eq_false (by omega)
                have d8 : decide ((3 : Int) < (x2 : Int)) = false := decide_eq_false (by omega)
                have HS2 := hid (rdSign_keep hP2 (Or.inr (by unfold rightV; rw [if_neg (by decide), if_pos rfl, decide_eq_true hy.1, decide_eq_true hy.2]; rfl)))
                have HF : Hid (List.foldl rdSign (⟨c.toNat, ⟨#[]⟩, ⟨#[]⟩, 0, 0⟩, ⟨t, 0⟩) [110, 114] = (⟨c.toNat, ⟨#[]⟩, ⟨#[]⟩, x1, x2⟩, ⟨b2, e2⟩)) := by
                  unfold Hid; rw [List.foldl_cons, HS1.out, List.foldl_cons, HS2.out]; rfl
                rw [HF.out] at HV
                simp only [] at HV
                have HE2 := hid he2
                have HE1 := hid he1
                clear hy hP2 he2 he1 hke HS1 HS2 HF
                obtain ⟨s0, s1, sf⟩ := BlkAt.c2 hbq
                obtain ⟨r0, r1, rf⟩ := BlkAt.c2 hbr
                obtain ⟨p0, p1, p2, p3, p4, pf⟩ := BlkAt.c5 hbo
                go_upto_region 22 with fail
                replace hw5 := hid hw5

                replace hb0 : BlkAt ((((w5.setCell ⟨w.heap.size + 2, 0, none⟩ (.string (mkS b2))).setCell ⟨w.heap.size + 2, 1, none⟩ (.int .i64 e2)).setCell ⟨w.heap.size + 1, 3, none⟩ (.int .u8 x1)).setCell ⟨w.heap.size + 1, 4, none⟩ (.int .u8 x2)) (w.heap.size) 69 #[.int .u8 0, .string ⟨#[]⟩, .string ⟨#[]⟩, .int .u8 0, .int .u8 0] := ((((hb0).fr (fr_set1 _ (w.heap.size + 2) 0 (.string (mkS b2))) (by unfold eqB; omega)).fr (fr_set1 _ (w.heap.size + 2) 1 (.int .i64 e2)) (by unfold eqB; omega)).fr (fr_set1 _ (w.heap.size + 1) 3 (.int .u8 x1)) (by unfold eqB; omega)).fr (fr_set1 _ (w.heap.size + 1) 4 (.int .u8 x2)) (by unfold eqB; omega)
                replace hbr : BlkAt ((((w5.setCell ⟨w.heap.size + 2, 0, none⟩ (.string (mkS b2))).setCell ⟨w.heap.size + 2, 1, none⟩ (.int .i64 e2)).setCell ⟨w.heap.size + 1, 3, none⟩ (.int .u8 x1)).setCell ⟨w.heap.size + 1, 4, none⟩ (.int .u8 x2)) (w.heap.size + 2) 138 #[.string (mkS b2), .int .i64 e2] := ((((hbr).set 0 (.string (mkS b2))).set 1 (.int .i64 e2)).fr (fr_set1 _ (w.heap.size + 1) 3 (.int .u8 x1)) (by unfold eqB; omega)).fr (fr_set1 _ (w.heap.size + 1) 4 (.int .u8 x2)) (by unfold eqB; omega)
                replace hbo : BlkAt ((((w5.setCell ⟨w.heap.size + 2, 0, none⟩ (.string (mkS b2))).setCell ⟨w.heap.size + 2, 1, none⟩ (.int .i64 e2)).setCell ⟨w.heap.size + 1, 3, none⟩ (.int .u8 x1)).setCell ⟨w.heap.size + 1, 4, none⟩ (.int .u8 x2)) (w.heap.size + 1) 69 #[.int .u8 c.toNat, .string ⟨#[]⟩, .string ⟨#[]⟩, .int .u8 x1, .int .u8 x2] := ((((hbo).fr (fr_set1 _ (w.heap.size + 2) 0 (.string (mkS b2))) (by unfold eqB; omega)).fr (fr_set1 _ (w.heap.size + 2) 1 (.int .i64 e2)) (by unfold eqB; omega)).set 3 (.int .u8 x1)).set 4 (.int .u8 x2)
                replace f0 := ((((f0).trans (fr_set1 _ (w.heap.size + 2) 0 (.string (mkS b2))) (fun i hi h => by unfold eqB at h; omega)).trans (fr_set1 _ (w.heap.size + 2) 1 (.int .i64 e2)) (fun i hi h => by unfold eqB at h; omega)).trans (fr_set1 _ (w.heap.size + 1) 3 (.int .u8 x1)) (fun i hi h => by unfold eqB at h; omega)).trans (fr_set1 _ (w.heap.size + 1) 4 (.int .u8 x2)) (fun i hi h => by unfold eqB at h; omega)
                generalize hw5z : ((((w5.setCell ⟨w.heap.size + 2, 0, none⟩ (.string (mkS b2))).setCell ⟨w.heap.size + 2, 1, none⟩ (.int .i64 e2)).setCell ⟨w.heap.size + 1, 3, none⟩ (.int .u8 x1)).setCell ⟨w.heap.size + 1, 4, none⟩ (.int .u8 x2)) = w5z at hb0 hbr hbo f0
                obtain ⟨r0, r1, rf⟩ := BlkAt.c2 hbr
                by_cases he : e2 = 0
                · have t1 : ((e2 : Int) == 0) = true := by rw [beq_iff_eq]; omega
                  have t2 : ((e2 : Int) != 0) = false := by rw [bne_eq_false_iff_eq]; omega
                  by_cases hbn : b2 = []
                  · have t3 : (mkS b2).toList.isEmpty = true := by rw [hbn, mkS_toList]; rfl
                    have he0 : rEnd ⟨b2, e2⟩ = 0 := by rw [he, hbn]; rfl
                    rw [he0] at HV
                    obtain ⟨q0, q1, q2, q3, q4, qf⟩ := BlkAt.c5 hbo
                    obtain ⟨y0, y1, y2, y3, y4, yf⟩ := BlkAt.c5 hb0
                    have FF := f0.trans (fr_set5 w5z w.heap.size (.int .u8 c.toNat) (.string ⟨#[]⟩) (.string ⟨#[]⟩) (.int .u8 x1) (.int .u8 x2)) (fun i hi h => by unfold eqB at h; omega)
                    clear he0 he hbn
                    go_wp2_with fail
                    have hr := hr.out
                    exact bodyPost_ret (v := .tuple #[(⟨c.toNat, ⟨#[]⟩, ⟨#[]⟩, x1, x2⟩ : OpV).v, .int .i64 0]) (by simp [results, hr, go_sem, OpV.v, y0, y1, y2, y3, y4]) rfl ⟨by rw [HV.out] <;> rfl, FF⟩
                  · have t3 : (mkS b2).toList.isEmpty = false := by rw [mkS_toList]; cases hh : b2 <;> first | rfl | exact absurd hh hbn
                    have he0 : rEnd ⟨b2, e2⟩ = 3 := by unfold rEnd; rw [if_pos ⟨he, List.length_pos_iff.2 hbn⟩]
                    rw [he0] at HV
                    clear he0 he hbn
    
                    replace hb0 : BlkAt (w5z.setCell ⟨w.heap.size + 2, 1, none⟩ (.int .i64 3)) (w.heap.size) 69 #[.int .u8 0, .string ⟨#[]⟩, .string ⟨#[]⟩, .int .u8 0, .int .u8 0] := (hb0).fr (fr_set1 _ (w.heap.size + 2) 1 (.int .i64 3)) (by unfold eqB; omega)
                    replace hbr : BlkAt (w5z.setCell ⟨w.heap.size + 2, 1, none⟩ (.int .i64 3)) (w.heap.size + 2) 138 #[.string (mkS b2), .int .i64 3] := (hbr).set 1 (.int .i64 3)
                    replace f0 := (f0).trans (fr_set1 _ (w.heap.size + 2) 1 (.int .i64 3)) (fun i hi h => by unfold eqB at h; omega)
                    clear hbo t2
                    generalize hw5zt : (w5z.setCell ⟨w.heap.size + 2, 1, none⟩ (.int .i64 3)) = w5zt at hb0 hbr f0
                    obtain ⟨s0, s1, sf⟩ := BlkAt.c2 hbr
                    go_wp2_with fail
                    apply wp_region_calm (R := Fr (eqB (w.heap.size))) (C := fun q W => Fr (eqB (w.heap.size)) w5zt W ∧ BlkAt W (w.heap.size + 2) 138 #[.string (mkS b2), .int .i64 3] ∧ BlkAt W (w.heap.size) 69 (if q = 0 then #[.int .u8 0, .string ⟨#[]⟩, .string ⟨#[]⟩, .int .u8 0, .int .u8 0] else #[.int .u8 0, .string ⟨#[]⟩, .string ⟨#[]⟩, .int .u8 0, .int .u8 0])) [false, false, false, true, false]
                      [eqv _, eqv _, eqv _, anyv, eqv _]
                      (by kernel_rfl) (by kernel_rfl) (fun _ _ _ h1 h2 => h1.then' h2) ((Fr.refl _ _).drew) ⟨(Fr.refl _ _).drew, hbr, hb0⟩ (by kernel_rfl)
                    · refine ⟨?_, ?_, ?_, ?_, ?_, trivial⟩
                      · rw [if_neg (by decide)]; intro kq
                        intro a W K hC hd hK
                        refine wpOp_plain rfl rfl ?_
                        go_wp2_with fail
                        exact hK _ _ (Fr.refl _ _) hC rfl
                      · rw [if_neg (by decide)]; intro kq
                        intro a W K hC hd hK
                        have d7 : a.tmps[7]?.getD undef = .pointer (some ⟨w.heap.size + 2, 0, none⟩) := hd 7 (by decide)
                        refine wpOp_plain rfl rfl ?_
                        obtain ⟨x0_0, x0_1, z0⟩ := BlkAt.c2 (hC.2.1)
                        go_wp2_with fail
                        exact hK _ _ (Fr.refl _ _) hC rfl
                      · rw [if_neg (by decide)]; intro kq
                        intro a W K hC hd hK
                        have d105 : _ = _ := hd 105 (by decide)
                        refine wpOp_plain rfl rfl ?_
                        obtain ⟨x0_0, x0_1, z0⟩ := BlkAt.c2 (hC.2.1)
                        go_wp2_with fail
                        exact hK _ _ (Fr.refl _ _) hC rfl
                      · rw [if_pos (by decide)]
                        intro a W K hC hd hK
                        replace hC : (fun q W => Fr (eqB (w.heap.size)) w5zt W ∧ BlkAt W (w.heap.size + 2) 138 #[.string (mkS b2), .int .i64 3] ∧ BlkAt W (w.heap.size) 69 (if q = 0 then #[.int .u8 0, .string ⟨#[]⟩, .string ⟨#[]⟩, .int .u8 0, .int .u8 0] else #[.int .u8 0, .string ⟨#[]⟩, .string ⟨#[]⟩, .int .u8 0, .int .u8 0])) 0 W := hC
                        have d2 : a.tmps[2]?.getD undef = .pointer (some ⟨w.heap.size, 0, none⟩) := hd 2 (by decide)
                        have d104 : _ = _ := hd 104 (by decide)
                        refine wpOp_plain rfl rfl ?_
                        obtain ⟨x0_0, x0_1, z0⟩ := BlkAt.c2 (hC.2.1)
                        have hz0 : BlkAt W (w.heap.size) 69 #[.int .u8 0, .string ⟨#[]⟩, .string ⟨#[]⟩, .int .u8 0, .int .u8 0] := hC.2.2
                        obtain ⟨b0_0, b0_1, b0_2, b0_3, b0_4, zz0⟩ := BlkAt.c5 hz0
                        have fs : Fr (eqB (w.heap.size)) W (((((W.setCell ⟨w.heap.size, 0, none⟩ (.int .u8 0)).setCell ⟨w.heap.size, 1, none⟩ (.string ⟨#[]⟩)).setCell ⟨w.heap.size, 2, none⟩ (.string ⟨#[]⟩)).setCell ⟨w.heap.size, 3, none⟩ (.int .u8 0)).setCell ⟨w.heap.size, 4, none⟩ (.int .u8 0)) := ((((((Fr.refl (eqB (w.heap.size)) W)).setCell (p := ⟨w.heap.size, 0, none⟩) (Or.inl rfl) (.int .u8 0)).setCell (p := ⟨w.heap.size, 1, none⟩) (Or.inl rfl) (.string ⟨#[]⟩)).setCell (p := ⟨w.heap.size, 2, none⟩) (Or.inl rfl) (.string ⟨#[]⟩)).setCell (p := ⟨w.heap.size, 3, none⟩) (Or.inl rfl) (.int .u8 0)).setCell (p := ⟨w.heap.size, 4, none⟩) (Or.inl rfl) (.int .u8 0)
                        have hn0 : BlkAt (((((W.setCell ⟨w.heap.size, 0, none⟩ (.int .u8 0)).setCell ⟨w.heap.size, 1, none⟩ (.string ⟨#[]⟩)).setCell ⟨w.heap.size, 2, none⟩ (.string ⟨#[]⟩)).setCell ⟨w.heap.size, 3, none⟩ (.int .u8 0)).setCell ⟨w.heap.size, 4, none⟩ (.int .u8 0)) (w.heap.size) 69 #[.int .u8 0, .string ⟨#[]⟩, .string ⟨#[]⟩, .int .u8 0, .int .u8 0] := (((((hz0).set 0 (.int .u8 0)).set 1 (.string ⟨#[]⟩)).set 2 (.string ⟨#[]⟩)).set 3 (.int .u8 0)).set 4 (.int .u8 0)
                        go_wp2_with fail
                        exact hK undef _ fs ⟨hC.1.then' fs, (hC.2.1).fr fs (by unfold eqB; omega), hn0⟩ trivial
                      · rw [if_neg (by decide)]; intro kq
                        exact calm_mv 106 rfl rfl (Or.inr rfl) (Fr.refl _) (by decide) fun v w hd => hd
                    · intro vs w5ztd fw5ztd cw5ztd hV
                      have v104 : vs 0 = _ := hV 0 _ _ rfl rfl (by decide)
                      have v105 : vs 1 = _ := hV 1 _ _ rfl rfl (by decide)
                      have v106 : vs 2 = _ := hV 2 _ _ rfl rfl (by decide)
                      have v3 : vs 4 = _ := hV 4 _ _ rfl rfl (by decide)
                      clear hV
                      replace hbr : BlkAt w5ztd (w.heap.size + 2) 138 #[.string (mkS b2), .int .i64 3] := cw5ztd.2.1
                      replace hb0 : BlkAt w5ztd (w.heap.size) 69 #[.int .u8 0, .string ⟨#[]⟩, .string ⟨#[]⟩, .int .u8 0, .int .u8 0] := cw5ztd.2.2
                      replace f0 := f0.trans fw5ztd (fun i hi h => by unfold eqB at h; omega)
                      clear cw5ztd
                      simp only [putL, Act.put, Nat.reduceAdd, List.setIfInBounds_toArray, List.set_cons_zero, List.set_cons_succ, v104, v105, v106, v3]
                      obtain ⟨y0, y1, y2, y3, y4, yf⟩ := BlkAt.c5 hb0
                      go_wp2_with fail
                      have hr := hr.out
                      exact bodyPost_ret (v := .tuple #[zeroOp.v, .int .i64 3]) (by simp [results, hr, go_sem, zeroOp, OpV.v, y0, y1, y2, y3, y4]) rfl ⟨by rw [HV.out] <;> rfl, f0⟩
                · exact absurd HE2.out he
              · have HS2 := hid (rdSign_fail hP2 he2 (right114_false hy))
                have h2 : rFail ⟨b2, e2⟩ 4 = ⟨[], 4⟩ := by unfold rFail; rw [if_pos ⟨he2, by decide⟩]
                have HF : Hid (List.foldl rdSign (⟨c.toNat, ⟨#[]⟩, ⟨#[]⟩, 0, 0⟩, ⟨t, 0⟩) [110, 114] = (⟨c.toNat, ⟨#[]⟩, ⟨#[]⟩, x1, x2⟩, ⟨[], 4⟩)) := by
                  unfold Hid; rw [List.foldl_cons, HS1.out, List.foldl_cons, HS2.out, h2]; rfl
                rw [HF.out] at HV
                simp only [] at HV
                rw [show rEnd ⟨[], 4⟩ = 4 from rfl, if_neg (by decide)] at HV
                have hf := fun W => failR_calls W ⟨b2, e2⟩ 4
                rw [h2] at hf
                simp only [Rd.val] at hf
                have HE2 := hid he2
                have HE1 := hid he1
                clear hP2 he2 he1 hke HS1 HS2 HF h2
                obtain ⟨s0, s1, sf⟩ := BlkAt.c2 hbq
                obtain ⟨c7, hc7⟩ : ∃ c, decide ((x2 : Int) < 1) = c := ⟨_, rfl⟩
                have hc8 : c7 = false → decide ((3 : Int) < (x2 : Int)) = true := fun h => by
                  rw [h, decide_eq_false_iff_not] at hc7
                  exact decide_eq_true (by omega)
                have HY := hid hy
                clear hy
                cases c7
                all_goals
                  first | (replace hc8 := hc8 rfl) | clear hc8
                  go_wp2_with fail
                  replace hw5 := hid hw5
                  refine (hf _).mono ?_
                  rintro e w6 ⟨rfl, f6⟩
                  replace hb0 := hb0.fr f6 id
                  replace hbo := hbo.fr f6 id
                  replace hbr := hbr.fr f6 id
                  replace hbq := hbq.fr f6 id
                  replace f0 := f0.then' f6
                  clear f6 hf y0 y1 yf s0 s1 sf
                  obtain ⟨y0, y1, yf⟩ := BlkAt.c2 hbq
                  obtain ⟨r0, r1, rf⟩ := BlkAt.c2 hbr
                  obtain ⟨p0, p1, p2, p3, p4, pf⟩ := BlkAt.c5 hbo
                  go_upto_region 22 with fail
                  replace hb0 : BlkAt ((w6.setCell ⟨pq, 0, none⟩ (.string (mkS []))).setCell ⟨pq, 1, none⟩ (.int .i64 4)) (w.heap.size) 69 #[.int .u8 0, .string ⟨#[]⟩, .string ⟨#[]⟩, .int .u8 0, .int .u8 0] := ((hb0).fr (fr_set1 _ (pq) 0 (.string (mkS []))) (by unfold eqB; omega)).fr (fr_set1 _ (pq) 1 (.int .i64 4)) (by unfold eqB; omega)
                  replace hbr : BlkAt ((w6.setCell ⟨pq, 0, none⟩ (.string (mkS []))).setCell ⟨pq, 1, none⟩ (.int .i64 4)) (w.heap.size + 2) 138 #[.string (mkS t), .int .i64 0] := ((hbr).fr (fr_set1 _ (pq) 0 (.string (mkS []))) (by unfold eqB; omega)).fr (fr_set1 _ (pq) 1 (.int .i64 4)) (by unfold eqB; omega)
                  replace hbo : BlkAt ((w6.setCell ⟨pq, 0, none⟩ (.string (mkS []))).setCell ⟨pq, 1, none⟩ (.int .i64 4)) (w.heap.size + 1) 69 #[.int .u8 c.toNat, .string ⟨#[]⟩, .string ⟨#[]⟩, .int .u8 0, .int .u8 0] := ((hbo).fr (fr_set1 _ (pq) 0 (.string (mkS []))) (by unfold eqB; omega)).fr (fr_set1 _ (pq) 1 (.int .i64 4)) (by unfold eqB; omega)
                  replace hbq : BlkAt ((w6.setCell ⟨pq, 0, none⟩ (.string (mkS []))).setCell ⟨pq, 1, none⟩ (.int .i64 4)) (pq) 138 #[.string (mkS []), .int .i64 4] := ((hbq).set 0 (.string (mkS []))).set 1 (.int .i64 4)
                  replace f0 := ((f0).trans (fr_set1 _ (pq) 0 (.string (mkS []))) (fun i hi h => by unfold eqB at h; omega)).trans (fr_set1 _ (pq) 1 (.int .i64 4)) (fun i hi h => by unfold eqB at h; omega)
                  generalize ((w6.setCell ⟨pq, 0, none⟩ (.string (mkS []))).setCell ⟨pq, 1, none⟩ (.int .i64 4)) = w7 at *
                  clear y0 y1 yf r0 r1 rf p0 p1 p2 p3 p4 pf
                  obtain ⟨y0, y1, yf⟩ := BlkAt.c2 hbq
                  obtain ⟨r0, r1, rf⟩ := BlkAt.c2 hbr
                  obtain ⟨p0, p1, p2, p3, p4, pf⟩ := BlkAt.c5 hbo
                  replace hb0 : BlkAt ((((w7.setCell ⟨w.heap.size + 2, 0, none⟩ (.string (mkS []))).setCell ⟨w.heap.size + 2, 1, none⟩ (.int .i64 4)).setCell ⟨w.heap.size + 1, 3, none⟩ (.int .u8 x1)).setCell ⟨w.heap.size + 1, 4, none⟩ (.int .u8 x2)) (w.heap.size) 69 #[.int .u8 0, .string ⟨#[]⟩, .string ⟨#[]⟩, .int .u8 0, .int .u8 0] := ((((hb0).fr (fr_set1 _ (w.heap.size + 2) 0 (.string (mkS []))) (by unfold eqB; omega)).fr (fr_set1 _ (w.heap.size + 2) 1 (.int .i64 4)) (by unfold eqB; omega)).fr (fr_set1 _ (w.heap.size + 1) 3 (.int .u8 x1)) (by unfold eqB; omega)).fr (fr_set1 _ (w.heap.size + 1) 4 (.int .u8 x2)) (by unfold eqB; omega)
                  replace hbr : BlkAt ((((w7.setCell ⟨w.heap.size + 2, 0, none⟩ (.string (mkS []))).setCell ⟨w.heap.size + 2, 1, none⟩ (.int .i64 4)).setCell ⟨w.heap.size + 1, 3, none⟩ (.int .u8 x1)).setCell ⟨w.heap.size + 1, 4, none⟩ (.int .u8 x2)) (w.heap.size + 2) 138 #[.string (mkS []), .int .i64 4] := ((((hbr).set 0 (.string (mkS []))).set 1 (.int .i64 4)).fr (fr_set1 _ (w.heap.size + 1) 3 (.int .u8 x1)) (by unfold eqB; omega)).fr (fr_set1 _ (w.heap.size + 1) 4 (.int .u8 x2)) (by unfold eqB; omega)
                  replace hbo : BlkAt ((((w7.setCell ⟨w.heap.size + 2, 0, none⟩ (.string (mkS []))).setCell ⟨w.heap.size + 2, 1, none⟩ (.int .i64 4)).setCell ⟨w.heap.size + 1, 3, none⟩ (.int .u8 x1)).setCell ⟨w.heap.size + 1, 4, none⟩ (.int .u8 x2)) (w.heap.size + 1) 69 #[.int .u8 c.toNat, .string ⟨#[]⟩, .string ⟨#[]⟩, .int .u8 x1, .int .u8 x2] := ((((hbo).fr (fr_set1 _ (w.heap.size + 2) 0 (.string (mkS []))) (by unfold eqB; omega)).fr (fr_set1 _ (w.heap.size + 2) 1 (.int .i64 4)) (by unfold eqB; omega)).set 3 (.int .u8 x1)).set 4 (.int .u8 x2)
                  replace f0 := ((((f0).trans (fr_set1 _ (w.heap.size + 2) 0 (.string (mkS []))) (fun i hi h => by unfold eqB at h; omega)).trans (fr_set1 _ (w.heap.size + 2) 1 (.int .i64 4)) (fun i hi h => by unfold eqB at h; omega)).trans (fr_set1 _ (w.heap.size + 1) 3 (.int .u8 x1)) (fun i hi h => by unfold eqB at h; omega)).trans (fr_set1 _ (w.heap.size + 1) 4 (.int .u8 x2)) (fun i hi h => by unfold eqB at h; omega)
                  generalize hw7z : ((((w7.setCell ⟨w.heap.size + 2, 0, none⟩ (.string (mkS []))).setCell ⟨w.heap.size + 2, 1, none⟩ (.int .i64 4)).setCell ⟨w.heap.size + 1, 3, none⟩ (.int .u8 x1)).setCell ⟨w.heap.size + 1, 4, none⟩ (.int .u8 x2)) = w7z at hb0 hbr hbo f0
                  clear hbo
                  obtain ⟨s0, s1, sf⟩ := BlkAt.c2 hbr
                  go_wp2_with fail
                  apply wp_region_calm (R := Fr (eqB (w.heap.size))) (C := fun q W => Fr (eqB (w.heap.size)) w7z W ∧ BlkAt W (w.heap.size + 2) 138 #[.string (mkS []), .int .i64 4] ∧ BlkAt W (w.heap.size) 69 (if q = 0 then #[.int .u8 0, .string ⟨#[]⟩, .string ⟨#[]⟩, .int .u8 0, .int .u8 0] else #[.int .u8 0, .string ⟨#[]⟩, .string ⟨#[]⟩, .int .u8 0, .int .u8 0])) [false, false, false, true, false]
                    [eqv _, eqv _, eqv _, anyv, eqv _]
                    (by kernel_rfl) (by kernel_rfl) (fun _ _ _ h1 h2 => h1.then' h2) ((Fr.refl _ _).drew) ⟨(Fr.refl _ _).drew, hbr, hb0⟩ (by kernel_rfl)
                  · refine ⟨?_, ?_, ?_, ?_, ?_, trivial⟩
                    · rw [if_neg (by decide)]; intro kq
                      intro a W K hC hd hK
                      refine wpOp_plain rfl rfl ?_
                      go_wp2_with fail
                      exact hK _ _ (Fr.refl _ _) hC rfl
                    · rw [if_neg (by decide)]; intro kq
                      intro a W K hC hd hK
                      have d7 : a.tmps[7]?.getD undef = .pointer (some ⟨w.heap.size + 2, 0, none⟩) := hd 7 (by decide)
                      refine wpOp_plain rfl rfl ?_
                      obtain ⟨x0_0, x0_1, z0⟩ := BlkAt.c2 (hC.2.1)
                      go_wp2_with fail
                      exact hK _ _ (Fr.refl _ _) hC rfl
                    · rw [if_neg (by decide)]; intro kq
                      intro a W K hC hd hK
                      have d105 : _ = _ := hd 105 (by decide)
                      refine wpOp_plain rfl rfl ?_
                      obtain ⟨x0_0, x0_1, z0⟩ := BlkAt.c2 (hC.2.1)
                      go_wp2_with fail
                      exact hK _ _ (Fr.refl _ _) hC rfl
                    · rw [if_pos (by decide)]
                      intro a W K hC hd hK
                      replace hC : (fun q W => Fr (eqB (w.heap.size)) w7z W ∧ BlkAt W (w.heap.size + 2) 138 #[.string (mkS []), .int .i64 4] ∧ BlkAt W (w.heap.size) 69 (if q = 0 then #[.int .u8 0, .string ⟨#[]⟩, .string ⟨#[]⟩, .int .u8 0, .int .u8 0] else #[.int .u8 0, .string ⟨#[]⟩, .string ⟨#[]⟩, .int .u8 0, .int .u8 0])) 0 W := hC
                      have d2 : a.tmps[2]?.getD undef = .pointer (some ⟨w.heap.size, 0, none⟩) := hd 2 (by decide)
                      have d104 : _ = _ := hd 104 (by decide)
                      refine wpOp_plain rfl rfl ?_
                      obtain ⟨x0_0, x0_1, z0⟩ := BlkAt.c2 (hC.2.1)
                      have hz0 : BlkAt W (w.heap.size) 69 #[.int .u8 0, .string ⟨#[]⟩, .string ⟨#[]⟩, .int .u8 0, .int .u8 0] := hC.2.2
                      obtain ⟨b0_0, b0_1, b0_2, b0_3, b0_4, zz0⟩ := BlkAt.c5 hz0
                      have fs : Fr (eqB (w.heap.size)) W (((((W.setCell ⟨w.heap.size, 0, none⟩ (.int .u8 0)).setCell ⟨w.heap.size, 1, none⟩ (.string ⟨#[]⟩)).setCell ⟨w.heap.size, 2, none⟩ (.string ⟨#[]⟩)).setCell ⟨w.heap.size, 3, none⟩ (.int .u8 0)).setCell ⟨w.heap.size, 4, none⟩ (.int .u8 0)) := ((((((Fr.refl (eqB (w.heap.size)) W)).setCell (p := ⟨w.heap.size, 0, none⟩) (Or.inl rfl) (.int .u8 0)).setCell (p := ⟨w.heap.size, 1, none⟩) (Or.inl rfl) (.string ⟨#[]⟩)).setCell (p := ⟨w.heap.size, 2, none⟩) (Or.inl rfl) (.string ⟨#[]⟩)).setCell (p := ⟨w.heap.size, 3, none⟩) (Or.inl rfl) (.int .u8 0)).setCell (p := ⟨w.heap.size, 4, none⟩) (Or.inl rfl) (.int .u8 0)
                      have hn0 : BlkAt (((((W.setCell ⟨w.heap.size, 0, none⟩ (.int .u8 0)).setCell ⟨w.heap.size, 1, none⟩ (.string ⟨#[]⟩)).setCell ⟨w.heap.size, 2, none⟩ (.string ⟨#[]⟩)).setCell ⟨w.heap.size, 3, none⟩ (.int .u8 0)).setCell ⟨w.heap.size, 4, none⟩ (.int .u8 0)) (w.heap.size) 69 #[.int .u8 0, .string ⟨#[]⟩, .string ⟨#[]⟩, .int .u8 0, .int .u8 0] := (((((hz0).set 0 (.int .u8 0)).set 1 (.string ⟨#[]⟩)).set 2 (.string ⟨#[]⟩)).set 3 (.int .u8 0)).set 4 (.int .u8 0)
                      go_wp2_with fail
                      exact hK undef _ fs ⟨hC.1.then' fs, (hC.2.1).fr fs (by unfold eqB; omega), hn0⟩ trivial
                    · rw [if_neg (by decide)]; intro kq
                      exact calm_mv 106 rfl rfl (Or.inr rfl) (Fr.refl _) (by decide) fun v w hd => hd
                  · intro vs w7zd fw7zd cw7zd hV
                    have v104 : vs 0 = _ := hV 0 _ _ rfl rfl (by decide)
                    have v105 : vs 1 = _ := hV 1 _ _ rfl rfl (by decide)
                    have v106 : vs 2 = _ := hV 2 _ _ rfl rfl (by decide)
                    have v3 : vs 4 = _ := hV 4 _ _ rfl rfl (by decide)
                    clear hV
                    replace hbr : BlkAt w7zd (w.heap.size + 2) 138 #[.string (mkS []), .int .i64 4] := cw7zd.2.1
                    replace hb0 : BlkAt w7zd (w.heap.size) 69 #[.int .u8 0, .string ⟨#[]⟩, .string ⟨#[]⟩, .int .u8 0, .int .u8 0] := cw7zd.2.2
                    replace f0 := f0.trans fw7zd (fun i hi h => by unfold eqB at h; omega)
                    clear cw7zd
                    simp only [putL, Act.put, Nat.reduceAdd, List.setIfInBounds_toArray, List.set_cons_zero, List.set_cons_succ, v104, v105, v106, v3]
                    obtain ⟨y0, y1, y2, y3, y4, yf⟩ := BlkAt.c5 hb0
                    go_wp2_with fail
                    have hr := hr.out
                    exact bodyPost_ret (v := .tuple #[zeroOp.v, .int .i64 4]) (by simp [results, hr, go_sem, zeroOp, OpV.v, y0, y1, y2, y3, y4]) rfl ⟨by rw [HV.out] <;> rfl, f0⟩
            · have t2 : ((e2 : Int) == 0) = false := by rw [beq_eq_false_iff_ne]; omega
              have HS2 := hid (rdSign_keep hP2 (Or.inl he2))
              have HF : Hid (List.foldl rdSign (⟨c.toNat, ⟨#[]⟩, ⟨#[]⟩, 0, 0⟩, ⟨t, 0⟩) [110, 114] = (⟨c.toNat, ⟨#[]⟩, ⟨#[]⟩, x1, x2⟩, ⟨b2, e2⟩)) := by
                unfold Hid; rw [List.foldl_cons, HS1.out, List.foldl_cons, HS2.out]; rfl
              rw [HF.out] at HV
              simp only [] at HV
              have HE2 := hid he2
              clear hP2 he2 hke HS1 HS2 HF
              obtain ⟨s0, s1, sf⟩ := BlkAt.c2 hbq
              obtain ⟨r0, r1, rf⟩ := BlkAt.c2 hbr
              obtain ⟨p0, p1, p2, p3, p4, pf⟩ := BlkAt.c5 hbo
              cases c1
              all_goals
                go_upto_region 22 with fail
                replace hw5 := hid hw5
                have he := HE2.out
                clear t2
                replace hb0 : BlkAt ((((w5.setCell ⟨w.heap.size + 2, 0, none⟩ (.string (mkS b2))).setCell ⟨w.heap.size + 2, 1, none⟩ (.int .i64 e2)).setCell ⟨w.heap.size + 1, 3, none⟩ (.int .u8 x1)).setCell ⟨w.heap.size + 1, 4, none⟩ (.int .u8 x2)) (w.heap.size) 69 #[.int .u8 0, .string ⟨#[]⟩, .string ⟨#[]⟩, .int .u8 0, .int .u8 0] := ((((hb0).fr (fr_set1 _ (w.heap.size + 2) 0 (.string (mkS b2))) (by unfold eqB; omega)).fr (fr_set1 _ (w.heap.size + 2) 1 (.int .i64 e2)) (by unfold eqB; omega)).fr (fr_set1 _ (w.heap.size + 1) 3 (.int .u8 x1)) (by unfold eqB; omega)).fr (fr_set1 _ (w.heap.size + 1) 4 (.int .u8 x2)) (by unfold eqB; omega)
                replace hbr : BlkAt ((((w5.setCell ⟨w.heap.size + 2, 0, none⟩ (.string (mkS b2))).setCell ⟨w.heap.size + 2, 1, none⟩ (.int .i64 e2)).setCell ⟨w.heap.size + 1, 3, none⟩ (.int .u8 x1)).setCell ⟨w.heap.size + 1, 4, none⟩ (.int .u8 x2)) (w.heap.size + 2) 138 #[.string (mkS b2), .int .i64 e2] := ((((hbr).set 0 (.string (mkS b2))).set 1 (.int .i64 e2)).fr (fr_set1 _ (w.heap.size + 1) 3 (.int .u8 x1)) (by unfold eqB; omega)).fr (fr_set1 _ (w.heap.size + 1) 4 (.int .u8 x2)) (by unfold eqB; omega)
                replace hbo : BlkAt ((((w5.setCell ⟨w.heap.size + 2, 0, none⟩ (.string (mkS b2))).setCell ⟨w.heap.size + 2, 1, none⟩ (.int .i64 e2)).setCell ⟨w.heap.size + 1, 3, none⟩ (.int .u8 x1)).setCell ⟨w.heap.size + 1, 4, none⟩ (.int .u8 x2)) (w.heap.size + 1) 69 #[.int .u8 c.toNat, .string ⟨#[]⟩, .string ⟨#[]⟩, .int .u8 x1, .int .u8 x2] := ((((hbo).fr (fr_set1 _ (w.heap.size + 2) 0 (.string (mkS b2))) (by unfold eqB; omega)).fr (fr_set1 _ (w.heap.size + 2) 1 (.int .i64 e2)) (by unfold eqB; omega)).set 3 (.int .u8 x1)).set 4 (.int .u8 x2)
                replace f0 := ((((f0).trans (fr_set1 _ (w.heap.size + 2) 0 (.string (mkS b2))) (fun i hi h => by unfold eqB at h; omega)).trans (fr_set1 _ (w.heap.size + 2) 1 (.int .i64 e2)) (fun i hi h => by unfold eqB at h; omega)).trans (fr_set1 _ (w.heap.size + 1) 3 (.int .u8 x1)) (fun i hi h => by unfold eqB at h; omega)).trans (fr_set1 _ (w.heap.size + 1) 4 (.int .u8 x2)) (fun i hi h => by unfold eqB at h; omega)
                generalize hw5z : ((((w5.setCell ⟨w.heap.size + 2, 0, none⟩ (.string (mkS b2))).setCell ⟨w.heap.size + 2, 1, none⟩ (.int .i64 e2)).setCell ⟨w.heap.size + 1, 3, none⟩ (.int .u8 x1)).setCell ⟨w.heap.size + 1, 4, none⟩ (.int .u8 x2)) = w5z at hb0 hbr hbo f0
                obtain ⟨r0, r1, rf⟩ := BlkAt.c2 hbr
                have t1 : ((e2 : Int) == 0) = false := by rw [beq_eq_false_iff_ne]; omega
                have t2 : ((e2 : Int) != 0) = true := by rw [bne_iff_ne]; omega
                have he0 : rEnd ⟨b2, e2⟩ = e2 := by unfold rEnd; rw [if_neg (fun h => he h.1)]
                rw [he0, if_neg he] at HV
                clear he0 he hbo
                obtain ⟨s0, s1, sf⟩ := BlkAt.c2 hbr
                go_wp2_with fail
                apply wp_region_calm (R := Fr (eqB (w.heap.size))) (C := fun q W => Fr (eqB (w.heap.size)) w5z W ∧ BlkAt W (w.heap.size + 2) 138 #[.string (mkS b2), .int .i64 e2] ∧ BlkAt W (w.heap.size) 69 (if q = 0 then #[.int .u8 0, .string ⟨#[]⟩, .string ⟨#[]⟩, .int .u8 0, .int .u8 0] else #[.int .u8 0, .string ⟨#[]⟩, .string ⟨#[]⟩, .int .u8 0, .int .u8 0])) [false, false, false, true, false]
                  [eqv _, eqv _, eqv _, anyv, eqv _]
                  (by kernel_rfl) (by kernel_rfl) (fun _ _ _ h1 h2 => h1.then' h2) ((Fr.refl _ _).drew) ⟨(Fr.refl _ _).drew, hbr, hb0⟩ (by kernel_rfl)
                · refine ⟨?_, ?_, ?_, ?_, ?_, trivial⟩
                  · rw [if_neg (by decide)]; intro kq
                    intro a W K hC hd hK
                    refine wpOp_plain rfl rfl ?_
                    go_wp2_with fail
                    exact hK _ _ (Fr.refl _ _) hC rfl
                  · rw [if_neg (by decide)]; intro kq
                    intro a W K hC hd hK
                    have d7 : a.tmps[7]?.getD undef = .pointer (some ⟨w.heap.size + 2, 0, none⟩) := hd 7 (by decide)
                    refine wpOp_plain rfl rfl ?_
                    obtain ⟨x0_0, x0_1, z0⟩ := BlkAt.c2 (hC.2.1)
                    go_wp2_with fail
                    exact hK _ _ (Fr.refl _ _) hC rfl
                  · rw [if_neg (by decide)]; intro kq
                    intro a W K hC hd hK
                    have d105 : _ = _ := hd 105 (by decide)
                    refine wpOp_plain rfl rfl ?_
                    obtain ⟨x0_0, x0_1, z0⟩ := BlkAt.c2 (hC.2.1)
                    go_wp2_with fail
                    exact hK _ _ (Fr.refl _ _) hC rfl
                  · rw [if_pos (by decide)]
                    intro a W K hC hd hK
                    replace hC : (fun q W => Fr (eqB (w.heap.size)) w5z W ∧ BlkAt W (w.heap.size + 2) 138 #[.string (mkS b2), .int .i64 e2] ∧ BlkAt W (w.heap.size) 69 (if q = 0 then #[.int .u8 0, .string ⟨#[]⟩, .string ⟨#[]⟩, .int .u8 0, .int .u8 0] else #[.int .u8 0, .string ⟨#[]⟩, .string ⟨#[]⟩, .int .u8 0, .int .u8 0])) 0 W := hC
                    have d2 : a.tmps[2]?.getD undef = .pointer (some ⟨w.heap.size, 0, none⟩) := hd 2 (by decide)
                    have d104 : _ = _ := hd 104 (by decide)
                    refine wpOp_plain rfl rfl ?_
                    obtain ⟨x0_0, x0_1, z0⟩ := BlkAt.c2 (hC.2.1)
                    have hz0 : BlkAt W (w.heap.size) 69 #[.int .u8 0, .string ⟨#[]⟩, .string ⟨#[]⟩, .int .u8 0, .int .u8 0] := hC.2.2
                    obtain ⟨b0_0, b0_1, b0_2, b0_3, b0_4, zz0⟩ := BlkAt.c5 hz0
                    have fs : Fr (eqB (w.heap.size)) W (((((W.setCell ⟨w.heap.size, 0, none⟩ (.int .u8 0)).setCell ⟨w.heap.size, 1, none⟩ (.string ⟨#[]⟩)).setCell ⟨w.heap.size, 2, none⟩ (.string ⟨#[]⟩)).setCell ⟨w.heap.size, 3, none⟩ (.int .u8 0)).setCell ⟨w.heap.size, 4, none⟩ (.int .u8 0)) := ((((((Fr.refl (eqB (w.heap.size)) W)).setCell (p := ⟨w.heap.size, 0, none⟩) (Or.inl rfl) (.int .u8 0)).setCell (p := ⟨w.heap.size, 1, none⟩) (Or.inl rfl) (.string ⟨#[]⟩)).setCell (p := ⟨w.heap.size, 2, none⟩) (Or.inl rfl) (.string ⟨#[]⟩)).setCell (p := ⟨w.heap.size, 3, none⟩) (Or.inl rfl) (.int .u8 0)).setCell (p := ⟨w.heap.size, 4, none⟩) (Or.inl rfl) (.int .u8 0)
                    have hn0 : BlkAt (((((W.setCell ⟨w.heap.size, 0, none⟩ (.int .u8 0)).setCell ⟨w.heap.size, 1, none⟩ (.string ⟨#[]⟩)).setCell ⟨w.heap.size, 2, none⟩ (.string ⟨#[]⟩)).setCell ⟨w.heap.size, 3, none⟩ (.int .u8 0)).setCell ⟨w.heap.size, 4, none⟩ (.int .u8 0)) (w.heap.size) 69 #[.int .u8 0, .string ⟨#[]⟩, .string ⟨#[]⟩, .int .u8 0, .int .u8 0] := (((((hz0).set 0 (.int .u8 0)).set 1 (.string ⟨#[]⟩)).set 2 (.string ⟨#[]⟩)).set 3 (.int .u8 0)).set 4 (.int .u8 0)
                    go_wp2_with fail
                    exact hK undef _ fs ⟨hC.1.then' fs, (hC.2.1).fr fs (by unfold eqB; omega), hn0⟩ trivial
                  · rw [if_neg (by decide)]; intro kq
                    exact calm_mv 106 rfl rfl (Or.inr rfl) (Fr.refl _) (by decide) fun v w hd => hd
                · intro vs w5zd fw5zd cw5zd hV
                  have v104 : vs 0 = _ := hV 0 _ _ rfl rfl (by decide)
                  have v105 : vs 1 = _ := hV 1 _ _ rfl rfl (by decide)
                  have v106 : vs 2 = _ := hV 2 _ _ rfl rfl (by decide)
                  have v3 : vs 4 = _ := hV 4 _ _ rfl rfl (by decide)
                  clear hV
                  replace hbr : BlkAt w5zd (w.heap.size + 2) 138 #[.string (mkS b2), .int .i64 e2] := cw5zd.2.1
                  replace hb0 : BlkAt w5zd (w.heap.size) 69 #[.int .u8 0, .string ⟨#[]⟩, .string ⟨#[]⟩, .int .u8 0, .int .u8 0] := cw5zd.2.2
                  replace f0 := f0.trans fw5zd (fun i hi h => by unfold eqB at h; omega)
                  clear cw5zd
                  simp only [putL, Act.put, Nat.reduceAdd, List.setIfInBounds_toArray, List.set_cons_zero, List.set_cons_succ, v104, v105, v106, v3]
                  obtain ⟨y0, y1, y2, y3, y4, yf⟩ := BlkAt.c5 hb0
                  go_wp2_with fail
                  have hr := hr.out
                  exact bodyPost_ret (v := .tuple #[zeroOp.v, .int .i64 e2]) (by simp [results, hr, go_sem, zeroOp, OpV.v, y0, y1, y2, y3, y4]) rfl ⟨by rw [HV.out] <;> rfl, f0⟩
end Go.Proofs.YtcaihinenfnekaaDoor
