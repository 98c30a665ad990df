/- What the row leans on, part 4: contracts and plain laws. -/
import Derived.Test.YtdngcheimohamaaDoorProg
import Derived.WalkKit
import Derived.Maps.AppendAt
import Derived.Lib.AppendStr
import Derived.Laws.AppendOwnNone
import Derived.Deep.Draws
import Derived.WalkSpells
import Derived.Laws.IdiomStrings
import Derived.Lib.ConvBytes
import Derived.Lib.LaidTab
import Derived.LaidSub
import Derived.Deep.QuietTactic
import Derived.BigQuiet
import Derived.Lib.OthersKept
import Derived.Laws.RangeAny
import Derived.LaidEqlPtr
import Derived.Laws.StructEq
import Derived.Deep.MidRow
import Derived.Deep.Cut
import Derived.Maps.OwnOps
import Derived.Maps.Views
import Derived.WalkLawsBesides
import Derived.SliceStrings
import Derived.Deep.Slices
import Derived.Deep.Light
import Derived.Laws.Bits64b
import Derived.Laws.ResultCell
import Derived.Deep.RegionHeld3
import Derived.ProofKit
import Derived.Test.YtdngcheimohamaaDoorLawClientTurnsB3
/- interrexref14.Read. -/
namespace Go.Proofs.YtdngcheimohamaaDoor
open Go.RowKit

theorem opRead_long {bs : List UInt8} (h : 64 < bs.length) : opRead bs = (zeroOp, 3) := by unfold opRead; rw [if_pos h]
theorem opRead_nil : opRead [] = (zeroOp, 2) := by
  have h : opRd [] = (⟨[], 2⟩, 0) := rfl
  have h2 : opIn [] = (zeroOp, ⟨[], 2⟩) := by unfold opIn; rw [h]; rfl
  unfold opRead
  rw [h, h2]; rfl
theorem opRd_cons (c : UInt8) (t : List UInt8) : opRd (c :: t) = (⟨t, 0⟩, c.toNat) := by
  unfold opRd rNum rTake
  simp [leV]
theorem opRead_kind {c : UInt8} {t : List UInt8} (h : ¬ 64 < (c :: t).length) (h2 : 17 ≤ c.toNat) : opRead (c :: t) = (zeroOp, 4) := by
  unfold opRead; rw [if_neg h, opRd_cons, if_pos h2]
theorem opRead_cons {c : UInt8} {t : List UInt8} {z : List UInt8} (h : ¬ 64 < (c :: t).length) (hz : signsL[c.toNat]? = some z) :
    opRead (c :: t) = if rEnd (z.foldl rdSign (⟨c.toNat, ⟨#[]⟩, ⟨#[]⟩, 0, 0⟩, ⟨t, 0⟩)).2 = 0 then ((z.foldl rdSign (⟨c.toNat, ⟨#[]⟩, ⟨#[]⟩, 0, 0⟩, ⟨t, 0⟩)).1, 0) else (zeroOp, rEnd (z.foldl rdSign (⟨c.toNat, ⟨#[]⟩, ⟨#[]⟩, 0, 0⟩, ⟨t, 0⟩)).2) := by
  have h2 : ¬ 17 ≤ c.toNat := by have := (List.getElem?_eq_some_iff.1 hz).1; simp [signsL] at this; omega
  unfold opRead
  rw [if_neg h, opRd_cons, if_neg h2]
  have : opIn (c :: t) = z.foldl rdSign (⟨c.toNat, ⟨#[]⟩, ⟨#[]⟩, 0, 0⟩, ⟨t, 0⟩) := by
    unfold opIn; rw [opRd_cons, if_pos rfl, List.getD_eq_getElem?_getD, hz]; rfl
  rw [this]
theorem parts_signs {k : Nat} {z : List UInt8} (hz : signsL[k]? = some z) : (partsV k = 2 ∧ z = [97, 98]) ∨ (partsV k = 1 ∧ z = [97]) ∨ (partsV k = 0 ∧ z = []) ∨ (partsV k = -1 ∧ z = [110, 114]) := by
  have hk : k < 17 := (List.getElem?_eq_some_iff.1 hz).1
  have : ∀ k : Fin 17, let z := signsL.getD k.val []; let P := partsV k.val; (P = 2 ∧ z = [97, 98]) ∨ (P = 1 ∧ z = [97]) ∨ (P = 0 ∧ z = []) ∨ (P = -1 ∧ z = [110, 114]) := by decide
  have h := this ⟨k, hk⟩
  simp only [List.getD_eq_getElem?_getD, hz, Option.getD_some] at h
  exact h

theorem right114_false {k : Nat} {a b : ByteArray} {n r : Nat} (h : ¬ (1 ≤ r ∧ r ≤ 3)) : rightV ⟨k, a, b, n, r⟩ 114 = false := by
  unfold rightV; rw [if_neg (by decide), if_pos rfl]
  simp only [Bool.and_eq_false_iff, decide_eq_false_iff_not]
  omega
set_option maxRecDepth 100000 in
set_option maxHeartbeats 3200000 in
theorem opReadR_calls (w : World) (bs : List UInt8) (hl : bs.length ≤ 1000000000000) : Calls Tryd.prog 55 #[.string (mkS bs)] w (OpEPost w (opRead bs)) := by
  have hsz : (mkS bs).size = bs.length := mkS_size _
  have hr : Hid (Tryd.f55.results = #[.cell 2 54, .tmp 3]) := by unfold Hid; kernel_rfl
  have hb0 : BlkAt (w.alloc (.cells #[.int .u8 0, .string ⟨#[]⟩, .string ⟨#[]⟩, .int .u8 0, .int .u8 0] 54)) w.heap.size 54 zeroOp.C := BlkAt.new _ _ _
  have f0 : Fr noB w (w.alloc (.cells #[.int .u8 0, .string ⟨#[]⟩, .string ⟨#[]⟩, .int .u8 0, .int .u8 0] 54)) := (Fr.refl noB w).alloc _
  by_cases h64 : 64 < bs.length
  · have d1 : decide ((64 : Int) < (mkS bs).size) = true := decide_eq_true (by omega)
    have HV := hid (opRead_long h64)
    generalize mkS bs = s at *
    clear hsz h64 hl
    go_enter Tryd.func55, Tryd.ntmps55
    go_wp2_with fail
    have hr := hr.out
    exact bodyPost_ret (v := .tuple #[zeroOp.v, .int .i64 3]) (by simp [results, hr, go_sem, zeroOp, OpV.v]) rfl ⟨by rw [HV.out]; rfl, f0⟩
  · have d1 : decide ((64 : Int) < (mkS bs).size) = false := decide_eq_false (by omega)
    have hsl : (mkS bs).toList = bs := mkS_toList bs
    cases bs with
    | nil =>
      have HV := hid opRead_nil
      generalize mkS [] = s at *
      clear hsz h64 hl
      go_enter Tryd.func55, Tryd.ntmps55
      go_wp2_with fail
      have hr := hr.out
      exact bodyPost_ret (v := .tuple #[zeroOp.v, .int .i64 2]) (by simp [results, hr, go_sem, zeroOp, OpV.v]) rfl ⟨by rw [HV.out]; rfl, f0⟩
    | cons c t =>
      have hx : ∀ h : 0 < (mkS (c :: t)).size, ((mkS (c :: t))[0]'h) = c := fun h => by simp [mkS]; rfl
      have hex : (mkS (c :: t)).extract 1 (mkS (c :: t)).size = mkS t := by rw [hsz]; exact mkS_from (c :: t) 1
      have hs0 : 0 < (mkS (c :: t)).size := by rw [hsz]; simp
      have hs1 : 1 ≤ (mkS (c :: t)).size := hs0
      have hs2 : (mkS (c :: t)).size ≤ 64 := by omega
      have hsl' : (mkS (c :: t)).toList.isEmpty = false := by rw [hsl]; rfl
      have HK := fun h => opRead_kind (c := c) (t := t) h64 h
      have HC := fun (z : List UInt8) hz => opRead_cons (c := c) (t := t) (z := z) h64 hz
      have HKH := hid HK
      have HCH := hid HC
      have htl : t.length ≤ 64 := by simp at h64; omega
      have HTL := hid htl
      clear HK HC h64 hl hsz hsl htl
      generalize opRead (c :: t) = res at *
      generalize mkS (c :: t) = s at *
      go_enter Tryd.func55, Tryd.ntmps55
      go_wp2_with fail
      have hbo : BlkAt ((w.alloc (.cells #[.int .u8 0, .string ⟨#[]⟩, .string ⟨#[]⟩, .int .u8 0, .int .u8 0] 54)).alloc (.cells #[.int .u8 c.toNat, .string ⟨#[]⟩, .string ⟨#[]⟩, .int .u8 0, .int .u8 0] 54)) (w.heap.size + 1) 54 #[.int .u8 c.toNat, .string ⟨#[]⟩, .string ⟨#[]⟩, .int .u8 0, .int .u8 0] := by
        have := BlkAt.new (w.alloc (.cells #[.int .u8 0, .string ⟨#[]⟩, .string ⟨#[]⟩, .int .u8 0, .int .u8 0] 54)) #[.int .u8 c.toNat, .string ⟨#[]⟩, .string ⟨#[]⟩, .int .u8 0, .int .u8 0] 54
        rwa [al_size] at this
      replace hb0 := hb0.al (.cells #[.int .u8 c.toNat, .string ⟨#[]⟩, .string ⟨#[]⟩, .int .u8 0, .int .u8 0] 54)
      replace f0 := f0.alloc (.cells #[.int .u8 c.toNat, .string ⟨#[]⟩, .string ⟨#[]⟩, .int .u8 0, .int .u8 0] 54)
      have hs : ((w.alloc (.cells #[.int .u8 0, .string ⟨#[]⟩, .string ⟨#[]⟩, .int .u8 0, .int .u8 0] 54)).alloc (.cells #[.int .u8 c.toNat, .string ⟨#[]⟩, .string ⟨#[]⟩, .int .u8 0, .int .u8 0] 54)).heap.size = w.heap.size + 2 := by simp only [al_size]
      generalize (w.alloc (.cells #[.int .u8 0, .string ⟨#[]⟩, .string ⟨#[]⟩, .int .u8 0, .int .u8 0] 54)).alloc (.cells #[.int .u8 c.toNat, .string ⟨#[]⟩, .string ⟨#[]⟩, .int .u8 0, .int .u8 0] 54) = wa at *
      refine (parts_calls wa c.toNat).mono ?_
      rintro e w1 ⟨rfl, rfl⟩
      by_cases h17 : ¬ c.toNat < 17
      · have HV := hid (HKH.out (by omega))
        rw [decide_eq_false h17]
        obtain ⟨y0, y1, y2, y3, y4, yf⟩ := BlkAt.c5 hb0
        have FF := f0.trans (fr_set5 w1 w.heap.size (.int .u8 0) (.string ⟨#[]⟩) (.string ⟨#[]⟩) (.int .u8 0) (.int .u8 0)) (fun i hi h => by unfold eqB at h; omega)
        go_wp2_with fail
        have hr := hr.out
        exact bodyPost_ret (v := .tuple #[zeroOp.v, .int .i64 4]) (by simp [results, hr, go_sem, zeroOp, OpV.v, y0, y1, y2, y3, y4]) rfl ⟨by rw [HV.out] <;> rfl, FF⟩
      · replace h17 := Classical.not_not.1 h17
        obtain ⟨z, hz⟩ : ∃ z, signsL[c.toNat]? = some z := ⟨_, List.getElem?_eq_getElem (by simp [signsL]; omega)⟩
        have hp := parts_signs hz
        have HV := hid (HCH.out z hz)
        rw [decide_eq_true h17]
        have hbr : BlkAt (w1.alloc (.cells #[.string (mkS t), .int .i64 0] 71)) (w.heap.size + 2) 71 #[.string (mkS t), .int .i64 0] := by
          have := BlkAt.new w1 #[.string (mkS t), .int .i64 0] 71
          rwa [hs] at this
        replace hb0 := hb0.al (.cells #[.string (mkS t), .int .i64 0] 71)
        replace hbo := hbo.al (.cells #[.string (mkS t), .int .i64 0] 71)
        replace f0 := f0.alloc (.cells #[.string (mkS t), .int .i64 0] 71)
        have hs1' : (w1.alloc (.cells #[.string (mkS t), .int .i64 0] 71)).heap.size = w.heap.size + 3 := by rw [al_size, hs]
        clear h17 hz HKH HCH
        generalize hP : partsV c.toNat = P at *
        clear hP
        rcases hp with ⟨rfl, rfl⟩ | ⟨rfl, rfl⟩ | ⟨rfl, rfl⟩ | ⟨rfl, rfl⟩
        · obtain ⟨y0, y1, yf⟩ := BlkAt.c2 hbr
          go_wp2_with fail
          generalize (w1.alloc (.cells #[.string (mkS t), .int .i64 0] 71)) = wb at *
          have hg := textGetR_calls wb ⟨t, 0⟩ 65535 (fun h => absurd rfl h) (by have := HTL.out; simp only []; omega) (by decide) (by decide)
          have hi1 := rText_inv (r := ⟨t, 0⟩) (fun h => absurd rfl h) 65535
          have hl1 := rText_left ⟨t, 0⟩ 65535
          generalize hq : rText ⟨t, 0⟩ 65535 = q1 at hg hi1 hl1
          have HQ := hid hq
          clear hq
          obtain ⟨⟨b1, e1⟩, x1⟩ := q1
          simp only [Rd.val] at hg hi1 hl1
          refine hg.mono ?_
          rintro e w2 ⟨rfl, f2⟩
          clear hg y0 y1 yf
          simp only [Rd.val]
          replace hb0 := hb0.fr f2 id
          replace hbo := hbo.fr f2 id
          replace hbr := hbr.fr f2 id
          replace f0 := f0.then' f2
          clear f2
          obtain ⟨y0, y1, yf⟩ := BlkAt.c2 hbr
          obtain ⟨p0, p1, p2, p3, p4, pf⟩ := BlkAt.c5 hbo
          replace hb0 : BlkAt (((w2.setCell ⟨w.heap.size + 2, 0, none⟩ (.string (mkS b1))).setCell ⟨w.heap.size + 2, 1, none⟩ (.int .i64 e1)).setCell ⟨w.heap.size + 1, 1, none⟩ (.string (mkS x1))) (w.heap.size) 54 #[.int .u8 0, .string ⟨#[]⟩, .string ⟨#[]⟩, .int .u8 0, .int .u8 0] := (((hb0).fr (fr_set1 _ (w.heap.size + 2) 0 (.string (mkS b1))) (by unfold eqB; omega)).fr (fr_set1 _ (w.heap.size + 2) 1 (.int .i64 e1)) (by unfold eqB; omega)).fr (fr_set1 _ (w.heap.size + 1) 1 (.string (mkS x1))) (by unfold eqB; omega)
          replace hbr : BlkAt (((w2.setCell ⟨w.heap.size + 2, 0, none⟩ (.string (mkS b1))).setCell ⟨w.heap.size + 2, 1, none⟩ (.int .i64 e1)).setCell ⟨w.heap.size + 1, 1, none⟩ (.string (mkS x1))) (w.heap.size + 2) 71 #[.string (mkS b1), .int .i64 e1] := (((hbr).set 0 (.string (mkS b1))).set 1 (.int .i64 e1)).fr (fr_set1 _ (w.heap.size + 1) 1 (.string (mkS x1))) (by unfold eqB; omega)
          replace hbo : BlkAt (((w2.setCell ⟨w.heap.size + 2, 0, none⟩ (.string (mkS b1))).setCell ⟨w.heap.size + 2, 1, none⟩ (.int .i64 e1)).setCell ⟨w.heap.size + 1, 1, none⟩ (.string (mkS x1))) (w.heap.size + 1) 54 #[.int .u8 c.toNat, .string (mkS x1), .string ⟨#[]⟩, .int .u8 0, .int .u8 0] := (((hbo).fr (fr_set1 _ (w.heap.size + 2) 0 (.string (mkS b1))) (by unfold eqB; omega)).fr (fr_set1 _ (w.heap.size + 2) 1 (.int .i64 e1)) (by unfold eqB; omega)).set 1 (.string (mkS x1))
          replace f0 := (((f0).trans (fr_set1 _ (w.heap.size + 2) 0 (.string (mkS b1))) (fun i hi h => by unfold eqB at h; omega)).trans (fr_set1 _ (w.heap.size + 2) 1 (.int .i64 e1)) (fun i hi h => by unfold eqB at h; omega)).trans (fr_set1 _ (w.heap.size + 1) 1 (.string (mkS x1))) (fun i hi h => by unfold eqB at h; omega)
          go_wp2_with fail
          generalize (((w2.setCell ⟨w.heap.size + 2, 0, none⟩ (.string (mkS b1))).setCell ⟨w.heap.size + 2, 1, none⟩ (.int .i64 e1)).setCell ⟨w.heap.size + 1, 1, none⟩ (.string (mkS x1))) = w3 at *
          have hg := textGetR_calls w3 ⟨b1, e1⟩ 65535 hi1 (by have := HTL.out; simp only []; omega) (by decide) (by decide)
          generalize hq : rText ⟨b1, e1⟩ 65535 = q2 at hg
          have HQ2 := hid hq
          clear hq hi1
          obtain ⟨⟨b2, e2⟩, x2⟩ := q2
          simp only [Rd.val] at hg
          refine hg.mono ?_
          rintro e w4 ⟨rfl, f4⟩
          clear hg y0 y1 yf p0 p1 p2 p3 p4 pf
          simp only [Rd.val]
          replace hb0 := hb0.fr f4 id
          replace hbo := hbo.fr f4 id
          replace hbr := hbr.fr f4 id
          replace f0 := f0.then' f4
          clear f4
          obtain ⟨y0, y1, yf⟩ := BlkAt.c2 hbr
          obtain ⟨p0, p1, p2, p3, p4, pf⟩ := BlkAt.c5 hbo
          have HF : List.foldl rdSign (⟨c.toNat, ⟨#[]⟩, ⟨#[]⟩, 0, 0⟩, ⟨t, 0⟩) [97, 98] = (⟨c.toNat, mkS x1, mkS x2, 0, 0⟩, ⟨b2, e2⟩) := by
            have h1 : rdSign (⟨c.toNat, ⟨#[]⟩, ⟨#[]⟩, 0, 0⟩, ⟨t, 0⟩) 97 = (⟨c.toNat, mkS x1, ⟨#[]⟩, 0, 0⟩, ⟨b1, e1⟩) := rdSign_keep (by unfold rdPart; rw [if_pos rfl, HQ.out]) (Or.inr rfl)
            have h2 : rdSign (⟨c.toNat, mkS x1, ⟨#[]⟩, 0, 0⟩, ⟨b1, e1⟩) 98 = (⟨c.toNat, mkS x1, mkS x2, 0, 0⟩, ⟨b2, e2⟩) := rdSign_keep (by unfold rdPart; rw [if_neg (by decide), if_pos rfl, HQ2.out]) (Or.inr rfl)
            rw [List.foldl_cons, h1, List.foldl_cons, h2]; rfl
          rw [HF] at HV
          simp only [] at HV
          clear HF HQ HQ2
          replace hb0 : BlkAt (((w4.setCell ⟨w.heap.size + 2, 0, none⟩ (.string (mkS b2))).setCell ⟨w.heap.size + 2, 1, none⟩ (.int .i64 e2)).setCell ⟨w.heap.size + 1, 2, none⟩ (.string (mkS x2))) (w.heap.size) 54 #[.int .u8 0, .string ⟨#[]⟩, .string ⟨#[]⟩, .int .u8 0, .int .u8 0] := (((hb0).fr (fr_set1 _ (w.heap.size + 2) 0 (.string (mkS b2))) (by unfold eqB; omega)).fr (fr_set1 _ (w.heap.size + 2) 1 (.int .i64 e2)) (by unfold eqB; omega)).fr (fr_set1 _ (w.heap.size + 1) 2 (.string (mkS x2))) (by unfold eqB; omega)
          replace hbr : BlkAt (((w4.setCell ⟨w.heap.size + 2, 0, none⟩ (.string (mkS b2))).setCell ⟨w.heap.size + 2, 1, none⟩ (.int .i64 e2)).setCell ⟨w.heap.size + 1, 2, none⟩ (.string (mkS x2))) (w.heap.size + 2) 71 #[.string (mkS b2), .int .i64 e2] := (((hbr).set 0 (.string (mkS b2))).set 1 (.int .i64 e2)).fr (fr_set1 _ (w.heap.size + 1) 2 (.string (mkS x2))) (by unfold eqB; omega)
          replace hbo : BlkAt (((w4.setCell ⟨w.heap.size + 2, 0, none⟩ (.string (mkS b2))).setCell ⟨w.heap.size + 2, 1, none⟩ (.int .i64 e2)).setCell ⟨w.heap.size + 1, 2, none⟩ (.string (mkS x2))) (w.heap.size + 1) 54 #[.int .u8 c.toNat, .string (mkS x1), .string (mkS x2), .int .u8 0, .int .u8 0] := (((hbo).fr (fr_set1 _ (w.heap.size + 2) 0 (.string (mkS b2))) (by unfold eqB; omega)).fr (fr_set1 _ (w.heap.size + 2) 1 (.int .i64 e2)) (by unfold eqB; omega)).set 2 (.string (mkS x2))
          replace f0 := (((f0).trans (fr_set1 _ (w.heap.size + 2) 0 (.string (mkS b2))) (fun i hi h => by unfold eqB at h; omega)).trans (fr_set1 _ (w.heap.size + 2) 1 (.int .i64 e2)) (fun i hi h => by unfold eqB at h; omega)).trans (fr_set1 _ (w.heap.size + 1) 2 (.string (mkS x2))) (fun i hi h => by unfold eqB at h; omega)
          generalize hw5 : (((w4.setCell ⟨w.heap.size + 2, 0, none⟩ (.string (mkS b2))).setCell ⟨w.heap.size + 2, 1, none⟩ (.int .i64 e2)).setCell ⟨w.heap.size + 1, 2, none⟩ (.string (mkS x2))) = w5 at hb0 hbr hbo f0
          obtain ⟨r0, r1, rf⟩ := BlkAt.c2 hbr
          by_cases he : e2 = 0
          · have t1 : ((e2 : Int) == 0) = true := by rw [beq_iff_eq]; omega
            have t2 : ((e2 : Int) != 0) = false := by rw [bne_eq_false_iff_eq]; omega
            by_cases hbn : b2 = []
            · have t3 : (mkS b2).toList.isEmpty = true := by rw [hbn, mkS_toList]; rfl
              have he0 : rEnd ⟨b2, e2⟩ = 0 := by rw [he, hbn]; rfl
              rw [he0] at HV
              obtain ⟨q0, q1, q2, q3, q4, qf⟩ := BlkAt.c5 hbo
              obtain ⟨y0, y1, y2, y3, y4, yf⟩ := BlkAt.c5 hb0
              have FF := f0.trans (fr_set5 w5 w.heap.size (.int .u8 c.toNat) (.string (mkS x1)) (.string (mkS x2)) (.int .u8 0) (.int .u8 0)) (fun i hi h => by unfold eqB at h; omega)
              clear he0 he hbn
              go_wp2_with fail
              have hr := hr.out
              exact bodyPost_ret (v := .tuple #[(⟨c.toNat, mkS x1, mkS x2, 0, 0⟩ : OpV).v, .int .i64 0]) (by simp [results, hr, go_sem, OpV.v, y0, y1, y2, y3, y4]) rfl ⟨by rw [HV.out] <;> rfl, FF⟩
            · have t3 : (mkS b2).toList.isEmpty = false := by rw [mkS_toList]; cases hh : b2 <;> first | rfl | exact absurd hh hbn
              have he0 : rEnd ⟨b2, e2⟩ = 3 := by unfold rEnd; rw [if_pos ⟨he, List.length_pos_iff.2 hbn⟩]
              rw [he0] at HV
              clear he0 he hbn
    
              replace hb0 : BlkAt (w5.setCell ⟨w.heap.size + 2, 1, none⟩ (.int .i64 3)) (w.heap.size) 54 #[.int .u8 0, .string ⟨#[]⟩, .string ⟨#[]⟩, .int .u8 0, .int .u8 0] := (hb0).fr (fr_set1 _ (w.heap.size + 2) 1 (.int .i64 3)) (by unfold eqB; omega)
              replace hbr : BlkAt (w5.setCell ⟨w.heap.size + 2, 1, none⟩ (.int .i64 3)) (w.heap.size + 2) 71 #[.string (mkS b2), .int .i64 3] := (hbr).set 1 (.int .i64 3)
              replace f0 := (f0).trans (fr_set1 _ (w.heap.size + 2) 1 (.int .i64 3)) (fun i hi h => by unfold eqB at h; omega)
              clear hbo t2
              generalize hw5t : (w5.setCell ⟨w.heap.size + 2, 1, none⟩ (.int .i64 3)) = w5t at hb0 hbr f0
              obtain ⟨s0, s1, sf⟩ := BlkAt.c2 hbr
              go_wp2_with fail
              apply wp_region_calm (R := Fr (eqB (w.heap.size))) (C := fun q W => Fr (eqB (w.heap.size)) w5t W ∧ BlkAt W (w.heap.size + 2) 71 #[.string (mkS b2), .int .i64 3] ∧ BlkAt W (w.heap.size) 54 (if q = 0 then #[.int .u8 0, .string ⟨#[]⟩, .string ⟨#[]⟩, .int .u8 0, .int .u8 0] else #[.int .u8 0, .string ⟨#[]⟩, .string ⟨#[]⟩, .int .u8 0, .int .u8 0])) [false, false, false, true, false]
                [eqv _, eqv _, eqv _, anyv, eqv _]
                (by kernel_rfl) (by kernel_rfl) (fun _ _ _ h1 h2 => h1.then' h2) ((Fr.refl _ _).drew) ⟨(Fr.refl _ _).drew, hbr, hb0⟩ (by kernel_rfl)
              · refine ⟨?_, ?_, ?_, ?_, ?_, trivial⟩
                · rw [if_neg (by decide)]; intro kq
                  intro a W K hC hd hK
                  refine wpOp_plain rfl rfl ?_
                  go_wp2_with fail
                  exact hK _ _ (Fr.refl _ _) hC rfl
                · rw [if_neg (by decide)]; intro kq
                  intro a W K hC hd hK
                  have d7 : a.tmps[7]?.getD undef = .pointer (some ⟨w.heap.size + 2, 0, none⟩) := hd 7 (by decide)
                  refine wpOp_plain rfl rfl ?_
                  obtain ⟨x0_0, x0_1, z0⟩ := BlkAt.c2 (hC.2.1)
                  go_wp2_with fail
                  exact hK _ _ (Fr.refl _ _) hC rfl
                · rw [if_neg (by decide)]; intro kq
                  intro a W K hC hd hK
                  have d105 : _ = _ := hd 105 (by decide)
                  refine wpOp_plain rfl rfl ?_
                  obtain ⟨x0_0, x0_1, z0⟩ := BlkAt.c2 (hC.2.1)
                  go_wp2_with fail
                  exact hK _ _ (Fr.refl _ _) hC rfl
                · rw [if_pos (by decide)]
                  intro a W K hC hd hK
                  replace hC : (fun q W => Fr (eqB (w.heap.size)) w5t W ∧ BlkAt W (w.heap.size + 2) 71 #[.string (mkS b2), .int .i64 3] ∧ BlkAt W (w.heap.size) 54 (if q = 0 then #[.int .u8 0, .string ⟨#[]⟩, .string ⟨#[]⟩, .int .u8 0, .int .u8 0] else #[.int .u8 0, .string ⟨#[]⟩, .string ⟨#[]⟩, .int .u8 0, .int .u8 0])) 0 W := hC
                  have d2 : a.tmps[2]?.getD undef = .pointer (some ⟨w.heap.size, 0, none⟩) := hd 2 (by decide)
                  have d104 : _ = _ := hd 104 (by decide)
                  refine wpOp_plain rfl rfl ?_
                  obtain ⟨x0_0, x0_1, z0⟩ := BlkAt.c2 (hC.2.1)
                  have hz0 : BlkAt W (w.heap.size) 54 #[.int .u8 0, .string ⟨#[]⟩, .string ⟨#[]⟩, .int .u8 0, .int .u8 0] := hC.2.2
                  obtain ⟨b0_0, b0_1, b0_2, b0_3, b0_4, zz0⟩ := BlkAt.c5 hz0
                  have fs : Fr (eqB (w.heap.size)) W (((((W.setCell ⟨w.heap.size, 0, none⟩ (.int .u8 0)).setCell ⟨w.heap.size, 1, none⟩ (.string ⟨#[]⟩)).setCell ⟨w.heap.size, 2, none⟩ (.string ⟨#[]⟩)).setCell ⟨w.heap.size, 3, none⟩ (.int .u8 0)).setCell ⟨w.heap.size, 4, none⟩ (.int .u8 0)) := ((((((Fr.refl (eqB (w.heap.size)) W)).setCell (p := ⟨w.heap.size, 0, none⟩) (Or.inl rfl) (.int .u8 0)).setCell (p := ⟨w.heap.size, 1, none⟩) (Or.inl rfl) (.string ⟨#[]⟩)).setCell (p := ⟨w.heap.size, 2, none⟩) (Or.inl rfl) (.string ⟨#[]⟩)).setCell (p := ⟨w.heap.size, 3, none⟩) (Or.inl rfl) (.int .u8 0)).setCell (p := ⟨w.heap.size, 4, none⟩) (Or.inl rfl) (.int .u8 0)
                  have hn0 : BlkAt (((((W.setCell ⟨w.heap.size, 0, none⟩ (.int .u8 0)).setCell ⟨w.heap.size, 1, none⟩ (.string ⟨#[]⟩)).setCell ⟨w.heap.size, 2, none⟩ (.string ⟨#[]⟩)).setCell ⟨w.heap.size, 3, none⟩ (.int .u8 0)).setCell ⟨w.heap.size, 4, none⟩ (.int .u8 0)) (w.heap.size) 54 #[.int .u8 0, .string ⟨#[]⟩, .string ⟨#[]⟩, .int .u8 0, .int .u8 0] := (((((hz0).set 0 (.int .u8 0)).set 1 (.string ⟨#[]⟩)).set 2 (.string ⟨#[]⟩)).set 3 (.int .u8 0)).set 4 (.int .u8 0)
                  go_wp2_with fail
                  exact hK undef _ fs ⟨hC.1.then' fs, (hC.2.1).fr fs (by unfold eqB; omega), hn0⟩ trivial
                · rw [if_neg (by decide)]; intro kq
                  exact calm_mv 106 rfl rfl (Or.inr rfl) (Fr.refl _) (by decide) fun v w hd => hd
              · intro vs w5td fw5td cw5td hV
                have v104 : vs 0 = _ := hV 0 _ _ rfl rfl (by decide)
                have v105 : vs 1 = _ := hV 1 _ _ rfl rfl (by decide)
                have v106 : vs 2 = _ := hV 2 _ _ rfl rfl (by decide)
                have v3 : vs 4 = _ := hV 4 _ _ rfl rfl (by decide)
                clear hV
                replace hbr : BlkAt w5td (w.heap.size + 2) 71 #[.string (mkS b2), .int .i64 3] := cw5td.2.1
                replace hb0 : BlkAt w5td (w.heap.size) 54 #[.int .u8 0, .string ⟨#[]⟩, .string ⟨#[]⟩, .int .u8 0, .int .u8 0] := cw5td.2.2
                replace f0 := f0.trans fw5td (fun i hi h => by unfold eqB at h; omega)
                clear cw5td
                simp only [putL, Act.put, Nat.reduceAdd, List.setIfInBounds_toArray, List.set_cons_zero, List.set_cons_succ, v104, v105, v106, v3]
                obtain ⟨y0, y1, y2, y3, y4, yf⟩ := BlkAt.c5 hb0
                go_wp2_with fail
                have hr := hr.out
                exact bodyPost_ret (v := .tuple #[zeroOp.v, .int .i64 3]) (by simp [results, hr, go_sem, zeroOp, OpV.v, y0, y1, y2, y3, y4]) rfl ⟨by rw [HV.out] <;> rfl, f0⟩
          · have t1 : ((e2 : Int) == 0) = false := by rw [beq_eq_false_iff_ne]; omega
            have t2 : ((e2 : Int) != 0) = true := by rw [bne_iff_ne]; omega
            have he0 : rEnd ⟨b2, e2⟩ = e2 := by unfold rEnd; rw [if_neg (fun h => he h.1)]
            rw [he0, if_neg he] at HV
            clear he0 he hbo
            obtain ⟨s0, s1, sf⟩ := BlkAt.c2 hbr
            go_wp2_with fail
            apply wp_region_calm (R := Fr (eqB (w.heap.size))) (C := fun q W => Fr (eqB (w.heap.size)) w5 W ∧ BlkAt W (w.heap.size + 2) 71 #[.string (mkS b2), .int .i64 e2] ∧ BlkAt W (w.heap.size) 54 (if q = 0 then #[.int .u8 0, .string ⟨#[]⟩, .string ⟨#[]⟩, .int .u8 0, .int .u8 0] else #[.int .u8 0, .string ⟨#[]⟩, .string ⟨#[]⟩, .int .u8 0, .int .u8 0])) [false, false, false, true, false]
              [eqv _, eqv _, eqv _, anyv, eqv _]
              (by kernel_rfl) (by kernel_rfl) (fun _ _ _ h1 h2 => h1.then' h2) ((Fr.refl _ _).drew) ⟨(Fr.refl _ _).drew, hbr, hb0⟩ (by kernel_rfl)
            · refine ⟨?_, ?_, ?_, ?_, ?_, trivial⟩
              · rw [if_neg (by decide)]; intro kq
                intro a W K hC hd hK
                refine wpOp_plain rfl rfl ?_
                go_wp2_with fail
                exact hK _ _ (Fr.refl _ _) hC rfl
              · rw [if_neg (by decide)]; intro kq
                intro a W K hC hd hK
                have d7 : a.tmps[7]?.getD undef = .pointer (some ⟨w.heap.size + 2, 0, none⟩) := hd 7 (by decide)
                refine wpOp_plain rfl rfl ?_
                obtain ⟨x0_0, x0_1, z0⟩ := BlkAt.c2 (hC.2.1)
                go_wp2_with fail
                exact hK _ _ (Fr.refl _ _) hC rfl
              · rw [if_neg (by decide)]; intro kq
                intro a W K hC hd hK
                have d105 : _ = _ := hd 105 (by decide)
                refine wpOp_plain rfl rfl ?_
                obtain ⟨x0_0, x0_1, z0⟩ := BlkAt.c2 (hC.2.1)
                go_wp2_with fail
                exact hK _ _ (Fr.refl _ _) hC rfl
              · rw [if_pos (by decide)]
                intro a W K hC hd hK
                replace hC : (fun q W => Fr (eqB (w.heap.size)) w5 W ∧ BlkAt W (w.heap.size + 2) 71 #[.string (mkS b2), .int .i64 e2] ∧ BlkAt W (w.heap.size) 54 (if q = 0 then #[.int .u8 0, .string ⟨#[]⟩, .string ⟨#[]⟩, .int .u8 0, .int .u8 0] else #[.int .u8 0, .string ⟨#[]⟩, .string ⟨#[]⟩, .int .u8 0, .int .u8 0])) 0 W := hC
                have d2 : a.tmps[2]?.getD undef = .pointer (some ⟨w.heap.size, 0, none⟩) := hd 2 (by decide)
                have d104 : _ = _ := hd 104 (by decide)
                refine wpOp_plain rfl rfl ?_
                obtain ⟨x0_0, x0_1, z0⟩ := BlkAt.c2 (hC.2.1)
                have hz0 : BlkAt W (w.heap.size) 54 #[.int .u8 0, .string ⟨#[]⟩, .string ⟨#[]⟩, .int .u8 0, .int .u8 0] := hC.2.2
                obtain ⟨b0_0, b0_1, b0_2, b0_3, b0_4, zz0⟩ := BlkAt.c5 hz0
                have fs : Fr (eqB (w.heap.size)) W (((((W.setCell ⟨w.heap.size, 0, none⟩ (.int .u8 0)).setCell ⟨w.heap.size, 1, none⟩ (.string ⟨#[]⟩)).setCell ⟨w.heap.size, 2, none⟩ (.string ⟨#[]⟩)).setCell ⟨w.heap.size, 3, none⟩ (.int .u8 0)).setCell ⟨w.heap.size, 4, none⟩ (.int .u8 0)) := ((((((Fr.refl (eqB (w.heap.size)) W)).setCell (p := ⟨w.heap.size, 0, none⟩) (Or.inl rfl) (.int .u8 0)).setCell (p := ⟨w.heap.size, 1, none⟩) (Or.inl rfl) (.string ⟨#[]⟩)).setCell (p := ⟨w.heap.size, 2, none⟩) (Or.inl rfl) (.string ⟨#[]⟩)).setCell (p := ⟨w.heap.size, 3, none⟩) (Or.inl rfl) (.int .u8 0)).setCell (p := ⟨w.heap.size, 4, none⟩) (Or.inl rfl) (.int .u8 0)
                have hn0 : BlkAt (((((W.setCell ⟨w.heap.size, 0, none⟩ (.int .u8 0)).setCell ⟨w.heap.size, 1, none⟩ (.string ⟨#[]⟩)).setCell ⟨w.heap.size, 2, none⟩ (.string ⟨#[]⟩)).setCell ⟨w.heap.size, 3, none⟩ (.int .u8 0)).setCell ⟨w.heap.size, 4, none⟩ (.int .u8 0)) (w.heap.size) 54 #[.int .u8 0, .string ⟨#[]⟩, .string ⟨#[]⟩, .int .u8 0, .int .u8 0] := (((((hz0).set 0 (.int .u8 0)).set 1 (.string ⟨#[]⟩)).set 2 (.string ⟨#[]⟩)).set 3 (.int .u8 0)).set 4 (.int .u8 0)
                go_wp2_with fail
                exact hK undef _ fs ⟨hC.1.then' fs, (hC.2.1).fr fs (by unfold eqB; omega), hn0⟩ trivial
              · rw [if_neg (by decide)]; intro kq
                exact calm_mv 106 rfl rfl (Or.inr rfl) (Fr.refl _) (by decide) fun v w hd => hd
            · intro vs w5d fw5d cw5d hV
              have v104 : vs 0 = _ := hV 0 _ _ rfl rfl (by decide)
              have v105 : vs 1 = _ := hV 1 _ _ rfl rfl (by decide)
              have v106 : vs 2 = _ := hV 2 _ _ rfl rfl (by decide)
              have v3 : vs 4 = _ := hV 4 _ _ rfl rfl (by decide)
              clear hV
              replace hbr : BlkAt w5d (w.heap.size + 2) 71 #[.string (mkS b2), .int .i64 e2] := cw5d.2.1
              replace hb0 : BlkAt w5d (w.heap.size) 54 #[.int .u8 0, .string ⟨#[]⟩, .string ⟨#[]⟩, .int .u8 0, .int .u8 0] := cw5d.2.2
              replace f0 := f0.trans fw5d (fun i hi h => by unfold eqB at h; omega)
              clear cw5d
              simp only [putL, Act.put, Nat.reduceAdd, List.setIfInBounds_toArray, List.set_cons_zero, List.set_cons_succ, v104, v105, v106, v3]
              obtain ⟨y0, y1, y2, y3, y4, yf⟩ := BlkAt.c5 hb0
              go_wp2_with fail
              have hr := hr.out
              exact bodyPost_ret (v := .tuple #[zeroOp.v, .int .i64 e2]) (by simp [results, hr, go_sem, zeroOp, OpV.v, y0, y1, y2, y3, y4]) rfl ⟨by rw [HV.out] <;> rfl, f0⟩
        · obtain ⟨y0, y1, yf⟩ := BlkAt.c2 hbr
          go_wp2_with fail
          generalize (w1.alloc (.cells #[.string (mkS t), .int .i64 0] 71)) = wb at *
          have hg := textGetR_calls wb ⟨t, 0⟩ 65535 (fun h => absurd rfl h) (by have := HTL.out; simp only []; omega) (by decide) (by decide)
          have hi1 := rText_inv (r := ⟨t, 0⟩) (fun h => absurd rfl h) 65535
          have hl1 := rText_left ⟨t, 0⟩ 65535
          generalize hq : rText ⟨t, 0⟩ 65535 = q1 at hg hi1 hl1
          have HQ := hid hq
          clear hq
          obtain ⟨⟨b1, e1⟩, x1⟩ := q1
          simp only [Rd.val] at hg hi1 hl1
          refine hg.mono ?_
          rintro e w2 ⟨rfl, f2⟩
          clear hg y0 y1 yf
          simp only [Rd.val]
          replace hb0 := hb0.fr f2 id
          replace hbo := hbo.fr f2 id
          replace hbr := hbr.fr f2 id
          replace f0 := f0.then' f2
          clear f2
          obtain ⟨y0, y1, yf⟩ := BlkAt.c2 hbr
          obtain ⟨p0, p1, p2, p3, p4, pf⟩ := BlkAt.c5 hbo
          have HF : List.foldl rdSign (⟨c.toNat, ⟨#[]⟩, ⟨#[]⟩, 0, 0⟩, ⟨t, 0⟩) [97] = (⟨c.toNat, mkS x1, ⟨#[]⟩, 0, 0⟩, ⟨b1, e1⟩) := by
            have h1 : rdSign (⟨c.toNat, ⟨#[]⟩, ⟨#[]⟩, 0, 0⟩, ⟨t, 0⟩) 97 = (⟨c.toNat, mkS x1, ⟨#[]⟩, 0, 0⟩, ⟨b1, e1⟩) := rdSign_keep (by unfold rdPart; rw [if_pos rfl, HQ.out]) (Or.inr rfl)
            rw [List.foldl_cons, h1]; rfl
          rw [HF] at HV
          simp only [] at HV
          clear HF HQ
          replace hb0 : BlkAt (((w2.setCell ⟨w.heap.size + 2, 0, none⟩ (.string (mkS b1))).setCell ⟨w.heap.size + 2, 1, none⟩ (.int .i64 e1)).setCell ⟨w.heap.size + 1, 1, none⟩ (.string (mkS x1))) (w.heap.size) 54 #[.int .u8 0, .string ⟨#[]⟩, .string ⟨#[]⟩, .int .u8 0, .int .u8 0] := (((hb0).fr (fr_set1 _ (w.heap.size + 2) 0 (.string (mkS b1))) (by unfold eqB; omega)).fr (fr_set1 _ (w.heap.size + 2) 1 (.int .i64 e1)) (by unfold eqB; omega)).fr (fr_set1 _ (w.heap.size + 1) 1 (.string (mkS x1))) (by unfold eqB; omega)
          replace hbr : BlkAt (((w2.setCell ⟨w.heap.size + 2, 0, none⟩ (.string (mkS b1))).setCell ⟨w.heap.size + 2, 1, none⟩ (.int .i64 e1)).setCell ⟨w.heap.size + 1, 1, none⟩ (.string (mkS x1))) (w.heap.size + 2) 71 #[.string (mkS b1), .int .i64 e1] := (((hbr).set 0 (.string (mkS b1))).set 1 (.int .i64 e1)).fr (fr_set1 _ (w.heap.size + 1) 1 (.string (mkS x1))) (by unfold eqB; omega)
          replace hbo : BlkAt (((w2.setCell ⟨w.heap.size + 2, 0, none⟩ (.string (mkS b1))).setCell ⟨w.heap.size + 2, 1, none⟩ (.int .i64 e1)).setCell ⟨w.heap.size + 1, 1, none⟩ (.string (mkS x1))) (w.heap.size + 1) 54 #[.int .u8 c.toNat, .string (mkS x1), .string ⟨#[]⟩, .int .u8 0, .int .u8 0] := (((hbo).fr (fr_set1 _ (w.heap.size + 2) 0 (.string (mkS b1))) (by unfold eqB; omega)).fr (fr_set1 _ (w.heap.size + 2) 1 (.int .i64 e1)) (by unfold eqB; omega)).set 1 (.string (mkS x1))
          replace f0 := (((f0).trans (fr_set1 _ (w.heap.size + 2) 0 (.string (mkS b1))) (fun i hi h => by unfold eqB at h; omega)).trans (fr_set1 _ (w.heap.size + 2) 1 (.int .i64 e1)) (fun i hi h => by unfold eqB at h; omega)).trans (fr_set1 _ (w.heap.size + 1) 1 (.string (mkS x1))) (fun i hi h => by unfold eqB at h; omega)
          generalize hw3 : (((w2.setCell ⟨w.heap.size + 2, 0, none⟩ (.string (mkS b1))).setCell ⟨w.heap.size + 2, 1, none⟩ (.int .i64 e1)).setCell ⟨w.heap.size + 1, 1, none⟩ (.string (mkS x1))) = w3 at hb0 hbr hbo f0
          obtain ⟨r0, r1, rf⟩ := BlkAt.c2 hbr
          by_cases he : e1 = 0
          · have t1 : ((e1 : Int) == 0) = true := by rw [beq_iff_eq]; omega
            have t2 : ((e1 : Int) != 0) = false := by rw [bne_eq_false_iff_eq]; omega
            by_cases hbn : b1 = []
            · have t3 : (mkS b1).toList.isEmpty = true := by rw [hbn, mkS_toList]; rfl
              have he0 : rEnd ⟨b1, e1⟩ = 0 := by rw [he, hbn]; rfl
              rw [he0] at HV
              obtain ⟨q0, q1, q2, q3, q4, qf⟩ := BlkAt.c5 hbo
              obtain ⟨y0, y1, y2, y3, y4, yf⟩ := BlkAt.c5 hb0
              have FF := f0.trans (fr_set5 w3 w.heap.size (.int .u8 c.toNat) (.string (mkS x1)) (.string ⟨#[]⟩) (.int .u8 0) (.int .u8 0)) (fun i hi h => by unfold eqB at h; omega)
              clear he0 he hbn
              go_wp2_with fail
              have hr := hr.out
              exact bodyPost_ret (v := .tuple #[(⟨c.toNat, mkS x1, ⟨#[]⟩, 0, 0⟩ : OpV).v, .int .i64 0]) (by simp [results, hr, go_sem, OpV.v, y0, y1, y2, y3, y4]) rfl ⟨by rw [HV.out] <;> rfl, FF⟩
            · have t3 : (mkS b1).toList.isEmpty = false := by rw [mkS_toList]; cases hh : b1 <;> first | rfl | exact absurd hh hbn
              have he0 : rEnd ⟨b1, e1⟩ = 3 := by unfold rEnd; rw [if_pos ⟨he, List.length_pos_iff.2 hbn⟩]
              rw [he0] at HV
              clear he0 he hbn
    
              replace hb0 : BlkAt (w3.setCell ⟨w.heap.size + 2, 1, none⟩ (.int .i64 3)) (w.heap.size) 54 #[.int .u8 0, .string ⟨#[]⟩, .string ⟨#[]⟩, .int .u8 0, .int .u8 0] := (hb0).fr (fr_set1 _ (w.heap.size + 2) 1 (.int .i64 3)) (by unfold eqB; omega)
              replace hbr : BlkAt (w3.setCell ⟨w.heap.size + 2, 1, none⟩ (.int .i64 3)) (w.heap.size + 2) 71 #[.string (mkS b1), .int .i64 3] := (hbr).set 1 (.int .i64 3)
              replace f0 := (f0).trans (fr_set1 _ (w.heap.size + 2) 1 (.int .i64 3)) (fun i hi h => by unfold eqB at h; omega)
              clear hbo t2
              generalize hw3t : (w3.setCell ⟨w.heap.size + 2, 1, none⟩ (.int .i64 3)) = w3t at hb0 hbr f0
              obtain ⟨s0, s1, sf⟩ := BlkAt.c2 hbr
              go_wp2_with fail
              apply wp_region_calm (R := Fr (eqB (w.heap.size))) (C := fun q W => Fr (eqB (w.heap.size)) w3t W ∧ BlkAt W (w.heap.size + 2) 71 #[.string (mkS b1), .int .i64 3] ∧ BlkAt W (w.heap.size) 54 (if q = 0 then #[.int .u8 0, .string ⟨#[]⟩, .string ⟨#[]⟩, .int .u8 0, .int .u8 0] else #[.int .u8 0, .string ⟨#[]⟩, .string ⟨#[]⟩, .int .u8 0, .int .u8 0])) [false, false, false, true, false]
                [eqv _, eqv _, eqv _, anyv, eqv _]
                (by kernel_rfl) (by kernel_rfl) (fun _ _ _ h1 h2 => h1.then' h2) ((Fr.refl _ _).drew) ⟨(Fr.refl _ _).drew, hbr, hb0⟩ (by kernel_rfl)
              · refine ⟨?_, ?_, ?_, ?_, ?_, trivial⟩
                · rw [if_neg (by decide)]; intro kq
                  intro a W K hC hd hK
                  refine wpOp_plain rfl rfl ?_
                  go_wp2_with fail
                  exact hK _ _ (Fr.refl _ _) hC rfl
                · rw [if_neg (by decide)]; intro kq
                  intro a W K hC hd hK
                  have d7 : a.tmps[7]?.getD undef = .pointer (some ⟨w.heap.size + 2, 0, none⟩) := hd 7 (by decide)
                  refine wpOp_plain rfl rfl ?_
                  obtain ⟨x0_0, x0_1, z0⟩ := BlkAt.c2 (hC.2.1)
                  go_wp2_with fail
                  exact hK _ _ (Fr.refl _ _) hC rfl
                · rw [if_neg (by decide)]; intro kq
                  intro a W K hC hd hK
                  have d105 : _ = _ := hd 105 (by decide)
                  refine wpOp_plain rfl rfl ?_
                  obtain ⟨x0_0, x0_1, z0⟩ := BlkAt.c2 (hC.2.1)
                  go_wp2_with fail
                  exact hK _ _ (Fr.refl _ _) hC rfl
                · rw [if_pos (by decide)]
                  intro a W K hC hd hK
                  replace hC : (fun q W => Fr (eqB (w.heap.size)) w3t W ∧ BlkAt W (w.heap.size + 2) 71 #[.string (mkS b1), .int .i64 3] ∧ BlkAt W (w.heap.size) 54 (if q = 0 then #[.int .u8 0, .string ⟨#[]⟩, .string ⟨#[]⟩, .int .u8 0, .int .u8 0] else #[.int .u8 0, .string ⟨#[]⟩, .string ⟨#[]⟩, .int .u8 0, .int .u8 0])) 0 W := hC
                  have d2 : a.tmps[2]?.getD undef = .pointer (some ⟨w.heap.size, 0, none⟩) := hd 2 (by decide)
                  have d104 : _ = _ := hd 104 (by decide)
                  refine wpOp_plain rfl rfl ?_
                  obtain ⟨x0_0, x0_1, z0⟩ := BlkAt.c2 (hC.2.1)
                  have hz0 : BlkAt W (w.heap.size) 54 #[.int .u8 0, .string ⟨#[]⟩, .string ⟨#[]⟩, .int .u8 0, .int .u8 0] := hC.2.2
                  obtain ⟨b0_0, b0_1, b0_2, b0_3, b0_4, zz0⟩ := BlkAt.c5 hz0
                  have fs : Fr (eqB (w.heap.size)) W (((((W.setCell ⟨w.heap.size, 0, none⟩ (.int .u8 0)).setCell ⟨w.heap.size, 1, none⟩ (.string ⟨#[]⟩)).setCell ⟨w.heap.size, 2, none⟩ (.string ⟨#[]⟩)).setCell ⟨w.heap.size, 3, none⟩ (.int .u8 0)).setCell ⟨w.heap.size, 4, none⟩ (.int .u8 0)) := ((((((Fr.refl (eqB (w.heap.size)) W)).setCell (p := ⟨w.heap.size, 0, none⟩) (Or.inl rfl) (.int .u8 0)).setCell (p := ⟨w.heap.size, 1, none⟩) (Or.inl rfl) (.string ⟨#[]⟩)).setCell (p := ⟨w.heap.size, 2, none⟩) (Or.inl rfl) (.string ⟨#[]⟩)).setCell (p := ⟨w.heap.size, 3, none⟩) (Or.inl rfl) (.int .u8 0)).setCell (p := ⟨w.heap.size, 4, none⟩) (Or.inl rfl) (.int .u8 0)
                  have hn0 : BlkAt (((((W.setCell ⟨w.heap.size, 0, none⟩ (.int .u8 0)).setCell ⟨w.heap.size, 1, none⟩ (.string ⟨#[]⟩)).setCell ⟨w.heap.size, 2, none⟩ (.string ⟨#[]⟩)).setCell ⟨w.heap.size, 3, none⟩ (.int .u8 0)).setCell ⟨w.heap.size, 4, none⟩ (.int .u8 0)) (w.heap.size) 54 #[.int .u8 0, .string ⟨#[]⟩, .string ⟨#[]⟩, .int .u8 0, .int .u8 0] := (((((hz0).set 0 (.int .u8 0)).set 1 (.string ⟨#[]⟩)).set 2 (.string ⟨#[]⟩)).set 3 (.int .u8 0)).set 4 (.int .u8 0)
                  go_wp2_with fail
                  exact hK undef _ fs ⟨hC.1.then' fs, (hC.2.1).fr fs (by unfold eqB; omega), hn0⟩ trivial
                · rw [if_neg (by decide)]; intro kq
                  exact calm_mv 106 rfl rfl (Or.inr rfl) (Fr.refl _) (by decide) fun v w hd => hd
              · intro vs w3td fw3td cw3td hV
                have v104 : vs 0 = _ := hV 0 _ _ rfl rfl (by decide)
                have v105 : vs 1 = _ := hV 1 _ _ rfl rfl (by decide)
                have v106 : vs 2 = _ := hV 2 _ _ rfl rfl (by decide)
                have v3 : vs 4 = _ := hV 4 _ _ rfl rfl (by decide)
                clear hV
                replace hbr : BlkAt w3td (w.heap.size + 2) 71 #[.string (mkS b1), .int .i64 3] := cw3td.2.1
                replace hb0 : BlkAt w3td (w.heap.size) 54 #[.int .u8 0, .string ⟨#[]⟩, .string ⟨#[]⟩, .int .u8 0, .int .u8 0] := cw3td.2.2
                replace f0 := f0.trans fw3td (fun i hi h => by unfold eqB at h; omega)
                clear cw3td
                simp only [putL, Act.put, Nat.reduceAdd, List.setIfInBounds_toArray, List.set_cons_zero, List.set_cons_succ, v104, v105, v106, v3]
                obtain ⟨y0, y1, y2, y3, y4, yf⟩ := BlkAt.c5 hb0
                go_wp2_with fail
                have hr := hr.out
                exact bodyPost_ret (v := .tuple #[zeroOp.v, .int .i64 3]) (by simp [results, hr, go_sem, zeroOp, OpV.v, y0, y1, y2, y3, y4]) rfl ⟨by rw [HV.out] <;> rfl, f0⟩
          · have t1 : ((e1 : Int) == 0) = false := by rw [beq_eq_false_iff_ne]; omega
            have t2 : ((e1 : Int) != 0) = true := by rw [bne_iff_ne]; omega
            have he0 : rEnd ⟨b1, e1⟩ = e1 := by unfold rEnd; rw [if_neg (fun h => he h.1)]
            rw [he0, if_neg he] at HV
            clear he0 he hbo
            obtain ⟨s0, s1, sf⟩ := BlkAt.c2 hbr
            go_wp2_with fail
            apply wp_region_calm (R := Fr (eqB (w.heap.size))) (C := fun q W => Fr (eqB (w.heap.size)) w3 W ∧ BlkAt W (w.heap.size + 2) 71 #[.string (mkS b1), .int .i64 e1] ∧ BlkAt W (w.heap.size) 54 (if q = 0 then #[.int .u8 0, .string ⟨#[]⟩, .string ⟨#[]⟩, .int .u8 0, .int .u8 0] else #[.int .u8 0, .string ⟨#[]⟩, .string ⟨#[]⟩, .int .u8 0, .int .u8 0])) [false, false, false, true, false]
              [eqv _, eqv _, eqv _, anyv, eqv _]
              (by kernel_rfl) (by kernel_rfl) (fun _ _ _ h1 h2 => h1.then' h2) ((Fr.refl _ _).drew) ⟨(Fr.refl _ _).drew, hbr, hb0⟩ (by kernel_rfl)
            · refine ⟨?_, ?_, ?_, ?_, ?_, trivial⟩
              · rw [if_neg (by decide)]; intro kq
                intro a W K hC hd hK
                refine wpOp_plain rfl rfl ?_
                go_wp2_with fail
                exact hK _ _ (Fr.refl _ _) hC rfl
              · rw [if_neg (by decide)]; intro kq
                intro a W K hC hd hK
                have d7 : a.tmps[7]?.getD undef = .pointer (some ⟨w.heap.size + 2, 0, none⟩) := hd 7 (by decide)
                refine wpOp_plain rfl rfl ?_
                obtain ⟨x0_0, x0_1, z0⟩ := BlkAt.c2 (hC.2.1)
                go_wp2_with fail
                exact hK _ _ (Fr.refl _ _) hC rfl
              · rw [if_neg (by decide)]; intro kq
                intro a W K hC hd hK
                have d105 : _ = _ := hd 105 (by decide)
                refine wpOp_plain rfl rfl ?_
                obtain ⟨x0_0, x0_1, z0⟩ := BlkAt.c2 (hC.2.1)
                go_wp2_with fail
                exact hK _ _ (Fr.refl _ _) hC rfl
              · rw [if_pos (by decide)]
                intro a W K hC hd hK
                replace hC : (fun q W => Fr (eqB (w.heap.size)) w3 W ∧ BlkAt W (w.heap.size + 2) 71 #[.string (mkS b1), .int .i64 e1] ∧ BlkAt W (w.heap.size) 54 (if q = 0 then #[.int .u8 0, .string ⟨#[]⟩, .string ⟨#[]⟩, .int .u8 0, .int .u8 0] else #[.int .u8 0, .string ⟨#[]⟩, .string ⟨#[]⟩, .int .u8 0, .int .u8 0])) 0 W := hC
                have d2 : a.tmps[2]?.getD undef = .pointer (some ⟨w.heap.size, 0, none⟩) := hd 2 (by decide)
                have d104 : _ = _ := hd 104 (by decide)
                refine wpOp_plain rfl rfl ?_
                obtain ⟨x0_0, x0_1, z0⟩ := BlkAt.c2 (hC.2.1)
                have hz0 : BlkAt W (w.heap.size) 54 #[.int .u8 0, .string ⟨#[]⟩, .string ⟨#[]⟩, .int .u8 0, .int .u8 0] := hC.2.2
                obtain ⟨b0_0, b0_1, b0_2, b0_3, b0_4, zz0⟩ := BlkAt.c5 hz0
                have fs : Fr (eqB (w.heap.size)) W (((((W.setCell ⟨w.heap.size, 0, none⟩ (.int .u8 0)).setCell ⟨w.heap.size, 1, none⟩ (.string ⟨#[]⟩)).setCell ⟨w.heap.size, 2, none⟩ (.string ⟨#[]⟩)).setCell ⟨w.heap.size, 3, none⟩ (.int .u8 0)).setCell ⟨w.heap.size, 4, none⟩ (.int .u8 0)) := ((((((Fr.refl (eqB (w.heap.size)) W)).setCell (p := ⟨w.heap.size, 0, none⟩) (Or.inl rfl) (.int .u8 0)).setCell (p := ⟨w.heap.size, 1, none⟩) (Or.inl rfl) (.string ⟨#[]⟩)).setCell (p := ⟨w.heap.size, 2, none⟩) (Or.inl rfl) (.string ⟨#[]⟩)).setCell (p := ⟨w.heap.size, 3, none⟩) (Or.inl rfl) (.int .u8 0)).setCell (p := ⟨w.heap.size, 4, none⟩) (Or.inl rfl) (.int .u8 0)
                have hn0 : BlkAt (((((W.setCell ⟨w.heap.size, 0, none⟩ (.int .u8 0)).setCell ⟨w.heap.size, 1, none⟩ (.string ⟨#[]⟩)).setCell ⟨w.heap.size, 2, none⟩ (.string ⟨#[]⟩)).setCell ⟨w.heap.size, 3, none⟩ (.int .u8 0)).setCell ⟨w.heap.size, 4, none⟩ (.int .u8 0)) (w.heap.size) 54 #[.int .u8 0, .string ⟨#[]⟩, .string ⟨#[]⟩, .int .u8 0, .int .u8 0] := (((((hz0).set 0 (.int .u8 0)).set 1 (.string ⟨#[]⟩)).set 2 (.string ⟨#[]⟩)).set 3 (.int .u8 0)).set 4 (.int .u8 0)
                go_wp2_with fail
                exact hK undef _ fs ⟨hC.1.then' fs, (hC.2.1).fr fs (by unfold eqB; omega), hn0⟩ trivial
              · rw [if_neg (by decide)]; intro kq
                exact calm_mv 106 rfl rfl (Or.inr rfl) (Fr.refl _) (by decide) fun v w hd => hd
            · intro vs w3d fw3d cw3d hV
              have v104 : vs 0 = _ := hV 0 _ _ rfl rfl (by decide)
              have v105 : vs 1 = _ := hV 1 _ _ rfl rfl (by decide)
              have v106 : vs 2 = _ := hV 2 _ _ rfl rfl (by decide)
              have v3 : vs 4 = _ := hV 4 _ _ rfl rfl (by decide)
              clear hV
              replace hbr : BlkAt w3d (w.heap.size + 2) 71 #[.string (mkS b1), .int .i64 e1] := cw3d.2.1
              replace hb0 : BlkAt w3d (w.heap.size) 54 #[.int .u8 0, .string ⟨#[]⟩, .string ⟨#[]⟩, .int .u8 0, .int .u8 0] := cw3d.2.2
              replace f0 := f0.trans fw3d (fun i hi h => by unfold eqB at h; omega)
              clear cw3d
              simp only [putL, Act.put, Nat.reduceAdd, List.setIfInBounds_toArray, List.set_cons_zero, List.set_cons_succ, v104, v105, v106, v3]
              obtain ⟨y0, y1, y2, y3, y4, yf⟩ := BlkAt.c5 hb0
              go_wp2_with fail
              have hr := hr.out
              exact bodyPost_ret (v := .tuple #[zeroOp.v, .int .i64 e1]) (by simp [results, hr, go_sem, zeroOp, OpV.v, y0, y1, y2, y3, y4]) rfl ⟨by rw [HV.out] <;> rfl, f0⟩
        · obtain ⟨y0, y1, yf⟩ := BlkAt.c2 hbr
          go_upto_region 25 with fail
          generalize (w1.alloc (.cells #[.string (mkS t), .int .i64 0] 71)) = wb at *
          have HF : List.foldl rdSign (⟨c.toNat, ⟨#[]⟩, ⟨#[]⟩, 0, 0⟩, ⟨t, 0⟩) [] = (⟨c.toNat, ⟨#[]⟩, ⟨#[]⟩, 0, 0⟩, ⟨t, 0⟩) := rfl
          rw [HF] at HV
          simp only [] at HV
          clear HF y0 y1 yf
          obtain ⟨r0, r1, rf⟩ := BlkAt.c2 hbr
          by_cases hbn : t = []
          · have t3 : (mkS t).toList.isEmpty = true := by rw [hbn, mkS_toList]; rfl
            have he0 : rEnd ⟨t, 0⟩ = 0 := by rw [hbn]; rfl
            rw [he0] at HV
            obtain ⟨q0, q1, q2, q3, q4, qf⟩ := BlkAt.c5 hbo
            obtain ⟨y0, y1, y2, y3, y4, yf⟩ := BlkAt.c5 hb0
            have FF := f0.trans (fr_set5 wb w.heap.size (.int .u8 c.toNat) (.string ⟨#[]⟩) (.string ⟨#[]⟩) (.int .u8 0) (.int .u8 0)) (fun i hi h => by unfold eqB at h; omega)
            clear he0 hbn
            go_wp2_with fail
            have hr := hr.out
            exact bodyPost_ret (v := .tuple #[(⟨c.toNat, ⟨#[]⟩, ⟨#[]⟩, 0, 0⟩ : OpV).v, .int .i64 0]) (by simp [results, hr, go_sem, OpV.v, y0, y1, y2, y3, y4]) rfl ⟨by rw [HV.out] <;> rfl, FF⟩
          · have t3 : (mkS t).toList.isEmpty = false := by rw [mkS_toList]; cases hh : t <;> first | rfl | exact absurd hh hbn
            have he0 : rEnd ⟨t, 0⟩ = 3 := by unfold rEnd; rw [if_pos ⟨rfl, List.length_pos_iff.2 hbn⟩]
            rw [he0] at HV
            clear he0 hbn
            replace hb0 : BlkAt (wb.setCell ⟨w.heap.size + 2, 1, none⟩ (.int .i64 3)) (w.heap.size) 54 #[.int .u8 0, .string ⟨#[]⟩, .string ⟨#[]⟩, .int .u8 0, .int .u8 0] := (hb0).fr (fr_set1 _ (w.heap.size + 2) 1 (.int .i64 3)) (by unfold eqB; omega)
            replace hbr : BlkAt (wb.setCell ⟨w.heap.size + 2, 1, none⟩ (.int .i64 3)) (w.heap.size + 2) 71 #[.string (mkS t), .int .i64 3] := (hbr).set 1 (.int .i64 3)
            replace f0 := (f0).trans (fr_set1 _ (w.heap.size + 2) 1 (.int .i64 3)) (fun i hi h => by unfold eqB at h; omega)
            clear hbo
            generalize hwbt : (wb.setCell ⟨w.heap.size + 2, 1, none⟩ (.int .i64 3)) = wbt at hb0 hbr f0
            obtain ⟨s0, s1, sf⟩ := BlkAt.c2 hbr
            go_wp2_with fail
            apply wp_region_calm (R := Fr (eqB (w.heap.size))) (C := fun q W => Fr (eqB (w.heap.size)) wbt W ∧ BlkAt W (w.heap.size + 2) 71 #[.string (mkS t), .int .i64 3] ∧ BlkAt W (w.heap.size) 54 (if q = 0 then #[.int .u8 0, .string ⟨#[]⟩, .string ⟨#[]⟩, .int .u8 0, .int .u8 0] else #[.int .u8 0, .string ⟨#[]⟩, .string ⟨#[]⟩, .int .u8 0, .int .u8 0])) [false, false, false, true, false]
              [eqv _, eqv _, eqv _, anyv, eqv _]
              (by kernel_rfl) (by kernel_rfl) (fun _ _ _ h1 h2 => h1.then' h2) ((Fr.refl _ _).drew) ⟨(Fr.refl _ _).drew, hbr, hb0⟩ (by kernel_rfl)
            · refine ⟨?_, ?_, ?_, ?_, ?_, trivial⟩
              · rw [if_neg (by decide)]; intro kq
                intro a W K hC hd hK
                refine wpOp_plain rfl rfl ?_
                go_wp2_with fail
                exact hK _ _ (Fr.refl _ _) hC rfl
              · rw [if_neg (by decide)]; intro kq
                intro a W K hC hd hK
                have d7 : a.tmps[7]?.getD undef = .pointer (some ⟨w.heap.size + 2, 0, none⟩) := hd 7 (by decide)
                refine wpOp_plain rfl rfl ?_
                obtain ⟨x0_0, x0_1, z0⟩ := BlkAt.c2 (hC.2.1)
                go_wp2_with fail
                exact hK _ _ (Fr.refl _ _) hC rfl
              · rw [if_neg (by decide)]; intro kq
                intro a W K hC hd hK
                have d105 : _ = _ := hd 105 (by decide)
                refine wpOp_plain rfl rfl ?_
                obtain ⟨x0_0, x0_1, z0⟩ := BlkAt.c2 (hC.2.1)
                go_wp2_with fail
                exact hK _ _ (Fr.refl _ _) hC rfl
              · rw [if_pos (by decide)]
                intro a W K hC hd hK
                replace hC : (fun q W => Fr (eqB (w.heap.size)) wbt W ∧ BlkAt W (w.heap.size + 2) 71 #[.string (mkS t), .int .i64 3] ∧ BlkAt W (w.heap.size) 54 (if q = 0 then #[.int .u8 0, .string ⟨#[]⟩, .string ⟨#[]⟩, .int .u8 0, .int .u8 0] else #[.int .u8 0, .string ⟨#[]⟩, .string ⟨#[]⟩, .int .u8 0, .int .u8 0])) 0 W := hC
                have d2 : a.tmps[2]?.getD undef = .pointer (some ⟨w.heap.size, 0, none⟩) := hd 2 (by decide)
                have d104 : _ = _ := hd 104 (by decide)
                refine wpOp_plain rfl rfl ?_
                obtain ⟨x0_0, x0_1, z0⟩ := BlkAt.c2 (hC.2.1)
                have hz0 : BlkAt W (w.heap.size) 54 #[.int .u8 0, .string ⟨#[]⟩, .string ⟨#[]⟩, .int .u8 0, .int .u8 0] := hC.2.2
                obtain ⟨b0_0, b0_1, b0_2, b0_3, b0_4, zz0⟩ := BlkAt.c5 hz0
                have fs : Fr (eqB (w.heap.size)) W (((((W.setCell ⟨w.heap.size, 0, none⟩ (.int .u8 0)).setCell ⟨w.heap.size, 1, none⟩ (.string ⟨#[]⟩)).setCell ⟨w.heap.size, 2, none⟩ (.string ⟨#[]⟩)).setCell ⟨w.heap.size, 3, none⟩ (.int .u8 0)).setCell ⟨w.heap.size, 4, none⟩ (.int .u8 0)) := ((((((Fr.refl (eqB (w.heap.size)) W)).setCell (p := ⟨w.heap.size, 0, none⟩) (Or.inl rfl) (.int .u8 0)).setCell (p := ⟨w.heap.size, 1, none⟩) (Or.inl rfl) (.string ⟨#[]⟩)).setCell (p := ⟨w.heap.size, 2, none⟩) (Or.inl rfl) (.string ⟨#[]⟩)).setCell (p := ⟨w.heap.size, 3, none⟩) (Or.inl rfl) (.int .u8 0)).setCell (p := ⟨w.heap.size, 4, none⟩) (Or.inl rfl) (.int .u8 0)
                have hn0 : BlkAt (((((W.setCell ⟨w.heap.size, 0, none⟩ (.int .u8 0)).setCell ⟨w.heap.size, 1, none⟩ (.string ⟨#[]⟩)).setCell ⟨w.heap.size, 2, none⟩ (.string ⟨#[]⟩)).setCell ⟨w.heap.size, 3, none⟩ (.int .u8 0)).setCell ⟨w.heap.size, 4, none⟩ (.int .u8 0)) (w.heap.size) 54 #[.int .u8 0, .string ⟨#[]⟩, .string ⟨#[]⟩, .int .u8 0, .int .u8 0] := (((((hz0).set 0 (.int .u8 0)).set 1 (.string ⟨#[]⟩)).set 2 (.string ⟨#[]⟩)).set 3 (.int .u8 0)).set 4 (.int .u8 0)
                go_wp2_with fail
                exact hK undef _ fs ⟨hC.1.then' fs, (hC.2.1).fr fs (by unfold eqB; omega), hn0⟩ trivial
              · rw [if_neg (by decide)]; intro kq
                exact calm_mv 106 rfl rfl (Or.inr rfl) (Fr.refl _) (by decide) fun v w hd => hd
            · intro vs wbtd fwbtd cwbtd hV
              have v104 : vs 0 = _ := hV 0 _ _ rfl rfl (by decide)
              have v105 : vs 1 = _ := hV 1 _ _ rfl rfl (by decide)
              have v106 : vs 2 = _ := hV 2 _ _ rfl rfl (by decide)
              have v3 : vs 4 = _ := hV 4 _ _ rfl rfl (by decide)
              clear hV
              replace hbr : BlkAt wbtd (w.heap.size + 2) 71 #[.string (mkS t), .int .i64 3] := cwbtd.2.1
              replace hb0 : BlkAt wbtd (w.heap.size) 54 #[.int .u8 0, .string ⟨#[]⟩, .string ⟨#[]⟩, .int .u8 0, .int .u8 0] := cwbtd.2.2
              replace f0 := f0.trans fwbtd (fun i hi h => by unfold eqB at h; omega)
              clear cwbtd
              simp only [putL, Act.put, Nat.reduceAdd, List.setIfInBounds_toArray, List.set_cons_zero, List.set_cons_succ, v104, v105, v106, v3]
              obtain ⟨y0, y1, y2, y3, y4, yf⟩ := BlkAt.c5 hb0
              go_wp2_with fail
              have hr := hr.out
              exact bodyPost_ret (v := .tuple #[zeroOp.v, .int .i64 3]) (by simp [results, hr, go_sem, zeroOp, OpV.v, y0, y1, y2, y3, y4]) rfl ⟨by rw [HV.out] <;> rfl, f0⟩
        · obtain ⟨y0, y1, yf⟩ := BlkAt.c2 hbr
          go_wp2_with fail
          generalize (w1.alloc (.cells #[.string (mkS t), .int .i64 0] 71)) = wb at *
          have hg := getR_calls wb ⟨t, 0⟩ 1 (fun h => absurd rfl h) (by have := HTL.out; simp only []; omega) (by decide)
          have hi1 := rNum_inv (r := ⟨t, 0⟩) 1 (fun h => absurd rfl h)
          have hl1 := rTake_left ⟨t, 0⟩ 1
          have hl1' : (rNum ⟨t, 0⟩ 1).1.bs.length ≤ t.length := hl1
          have hps := @rNum_pos ⟨t, 0⟩ 1 (fun h => absurd rfl h)
          have hx256 := rNum_lt ⟨t, 0⟩ 1
          generalize hq : rNum ⟨t, 0⟩ 1 = q1 at hg hi1 hl1' hps hx256
          have HQ := hid hq
          clear hq hl1
          obtain ⟨⟨b1, e1⟩, x1⟩ := q1
          simp only [Rd.val] at hg hi1 hl1' hps hx256
          refine hg.mono ?_
          rintro e w2 ⟨rfl, f2⟩
          clear hg y0 y1 yf
          simp only [Rd.val]
          replace hb0 := (hb0.fr f2 id).al (.cells #[.string (mkS b1), .int .i64 e1] 71)
          replace hbo := (hbo.fr f2 id).al (.cells #[.string (mkS b1), .int .i64 e1] 71)
          replace hbr := (hbr.fr f2 id).al (.cells #[.string (mkS b1), .int .i64 e1] 71)
          replace f0 := (f0.then' f2).alloc (.cells #[.string (mkS b1), .int .i64 e1] 71)
          have hbq : BlkAt (w2.alloc (.cells #[.string (mkS b1), .int .i64 e1] 71)) w2.heap.size 71 #[.string (mkS b1), .int .i64 e1] := BlkAt.new _ _ _
          have hpq : w.heap.size + 3 ≤ w2.heap.size := by have := f2.size; omega
          have hxw : IntKind.u8.wrap (x1 : Int) = x1 := by rw [IntKind.wrap_u8]; omega
          clear f2
          generalize hpqe : w2.heap.size = pq at hbq hpq
          by_cases h6 : 6 < x1
          · have d6 : decide ((6 : Int) < (x1 : Int)) = true := decide_eq_true (by omega)
            have he1 : e1 = 0 := hps (by omega)
            have HF : Hid (List.foldl rdSign (⟨c.toNat, ⟨#[]⟩, ⟨#[]⟩, 0, 0⟩, ⟨t, 0⟩) [110, 114] = (⟨c.toNat, ⟨#[]⟩, ⟨#[]⟩, x1, 0⟩, ⟨[], 4⟩)) := by
              have h1 : rdSign (⟨c.toNat, ⟨#[]⟩, ⟨#[]⟩, 0, 0⟩, ⟨t, 0⟩) 110 = (⟨c.toNat, ⟨#[]⟩, ⟨#[]⟩, x1, 0⟩, rFail ⟨b1, e1⟩ 4) := rdSign_fail (by unfold rdPart; rw [if_neg (by decide), if_neg (by decide), if_pos rfl, HQ.out]) he1 (by unfold rightV; rw [if_pos rfl]; exact decide_eq_false (by simp only []; omega))
              have h2 : rFail ⟨b1, e1⟩ 4 = ⟨[], 4⟩ := by unfold rFail; rw [if_pos ⟨he1, by decide⟩]
              have h3 : rdSign (⟨c.toNat, ⟨#[]⟩, ⟨#[]⟩, x1, 0⟩, ⟨[], 4⟩) 114 = (⟨c.toNat, ⟨#[]⟩, ⟨#[]⟩, x1, 0⟩, ⟨[], 4⟩) := rdSign_keep (by unfold rdPart; rw [if_neg (by decide), if_neg (by decide), if_neg (by decide), if_pos rfl]; rfl) (Or.inl (by decide))
              unfold Hid
              rw [List.foldl_cons, h1, h2, List.foldl_cons, h3]; rfl
            rw [HF.out] at HV
            simp only [] at HV
            rw [show rEnd ⟨[], 4⟩ = 4 from rfl, if_neg (by decide)] at HV
            have hf := failR_calls (w2.alloc (.cells #[.string (mkS b1), .int .i64 e1] 71)) ⟨b1, e1⟩ 4
            have h2 : rFail ⟨b1, e1⟩ 4 = ⟨[], 4⟩ := by unfold rFail; rw [if_pos ⟨he1, by decide⟩]
            rw [h2] at hf
            obtain ⟨y0, y1, yf⟩ := BlkAt.c2 hbq
            simp only [Rd.val] at hf
            have HE1 := hid he1
            have HX := hid hx256
            clear he1 h6 hps hi1 h2 HF hx256
            go_wp2_with fail
            rw [hpqe] at *
            generalize (w2.alloc (.cells #[.string (mkS b1), .int .i64 e1] 71)) = w3 at *
            refine hf.mono ?_
            rintro e w4 ⟨rfl, f4⟩
            replace hb0 := hb0.fr f4 id
            replace hbo := hbo.fr f4 id
            replace hbr := hbr.fr f4 id
            replace hbq := hbq.fr f4 id
            replace f0 := f0.then' f4
            clear f4 hf y0 y1 yf
            obtain ⟨y0, y1, yf⟩ := BlkAt.c2 hbq
            go_wp2_with fail
            replace hb0 : BlkAt ((w4.setCell ⟨pq, 0, none⟩ (.string (mkS []))).setCell ⟨pq, 1, none⟩ (.int .i64 4)) (w.heap.size) 54 #[.int .u8 0, .string ⟨#[]⟩, .string ⟨#[]⟩, .int .u8 0, .int .u8 0] := ((hb0).fr (fr_set1 _ (pq) 0 (.string (mkS []))) (by unfold eqB; omega)).fr (fr_set1 _ (pq) 1 (.int .i64 4)) (by unfold eqB; omega)
            replace hbr : BlkAt ((w4.setCell ⟨pq, 0, none⟩ (.string (mkS []))).setCell ⟨pq, 1, none⟩ (.int .i64 4)) (w.heap.size + 2) 71 #[.string (mkS t), .int .i64 0] := ((hbr).fr (fr_set1 _ (pq) 0 (.string (mkS []))) (by unfold eqB; omega)).fr (fr_set1 _ (pq) 1 (.int .i64 4)) (by unfold eqB; omega)
            replace hbo : BlkAt ((w4.setCell ⟨pq, 0, none⟩ (.string (mkS []))).setCell ⟨pq, 1, none⟩ (.int .i64 4)) (w.heap.size + 1) 54 #[.int .u8 c.toNat, .string ⟨#[]⟩, .string ⟨#[]⟩, .int .u8 0, .int .u8 0] := ((hbo).fr (fr_set1 _ (pq) 0 (.string (mkS []))) (by unfold eqB; omega)).fr (fr_set1 _ (pq) 1 (.int .i64 4)) (by unfold eqB; omega)
            replace hbq : BlkAt ((w4.setCell ⟨pq, 0, none⟩ (.string (mkS []))).setCell ⟨pq, 1, none⟩ (.int .i64 4)) (pq) 71 #[.string (mkS []), .int .i64 4] := ((hbq).set 0 (.string (mkS []))).set 1 (.int .i64 4)
            replace f0 := ((f0).trans (fr_set1 _ (pq) 0 (.string (mkS []))) (fun i hi h => by unfold eqB at h; omega)).trans (fr_set1 _ (pq) 1 (.int .i64 4)) (fun i hi h => by unfold eqB at h; omega)
            generalize ((w4.setCell ⟨pq, 0, none⟩ (.string (mkS []))).setCell ⟨pq, 1, none⟩ (.int .i64 4)) = w5 at *
            clear y0 y1 yf
            have hg := getR_calls w5 ⟨[], 4⟩ 1 (fun _ => rfl) (by simp) (by decide)
            rw [show rNum ⟨[], 4⟩ 1 = (⟨[], 4⟩, 0) from rfl] at hg
            simp only [Rd.val] at hg
            refine hg.mono ?_
            rintro e w6 ⟨rfl, f6⟩
            replace hb0 := hb0.fr f6 id
            replace hbo := hbo.fr f6 id
            replace hbr := hbr.fr f6 id
            replace hbq := hbq.fr f6 id
            replace f0 := f0.then' f6
            clear f6 hg
            obtain ⟨y0, y1, yf⟩ := BlkAt.c2 hbq
            obtain ⟨r0, r1, rf⟩ := BlkAt.c2 hbr
            obtain ⟨p0, p1, p2, p3, p4, pf⟩ := BlkAt.c5 hbo
            go_upto_region 22 with fail
            replace hb0 : BlkAt ((w6.setCell ⟨pq, 0, none⟩ (.string (mkS []))).setCell ⟨pq, 1, none⟩ (.int .i64 4)) (w.heap.size) 54 #[.int .u8 0, .string ⟨#[]⟩, .string ⟨#[]⟩, .int .u8 0, .int .u8 0] := ((hb0).fr (fr_set1 _ (pq) 0 (.string (mkS []))) (by unfold eqB; omega)).fr (fr_set1 _ (pq) 1 (.int .i64 4)) (by unfold eqB; omega)
            replace hbr : BlkAt ((w6.setCell ⟨pq, 0, none⟩ (.string (mkS []))).setCell ⟨pq, 1, none⟩ (.int .i64 4)) (w.heap.size + 2) 71 #[.string (mkS t), .int .i64 0] := ((hbr).fr (fr_set1 _ (pq) 0 (.string (mkS []))) (by unfold eqB; omega)).fr (fr_set1 _ (pq) 1 (.int .i64 4)) (by unfold eqB; omega)
            replace hbo : BlkAt ((w6.setCell ⟨pq, 0, none⟩ (.string (mkS []))).setCell ⟨pq, 1, none⟩ (.int .i64 4)) (w.heap.size + 1) 54 #[.int .u8 c.toNat, .string ⟨#[]⟩, .string ⟨#[]⟩, .int .u8 0, .int .u8 0] := ((hbo).fr (fr_set1 _ (pq) 0 (.string (mkS []))) (by unfold eqB; omega)).fr (fr_set1 _ (pq) 1 (.int .i64 4)) (by unfold eqB; omega)
            replace hbq : BlkAt ((w6.setCell ⟨pq, 0, none⟩ (.string (mkS []))).setCell ⟨pq, 1, none⟩ (.int .i64 4)) (pq) 71 #[.string (mkS []), .int .i64 4] := ((hbq).set 0 (.string (mkS []))).set 1 (.int .i64 4)
            replace f0 := ((f0).trans (fr_set1 _ (pq) 0 (.string (mkS []))) (fun i hi h => by unfold eqB at h; omega)).trans (fr_set1 _ (pq) 1 (.int .i64 4)) (fun i hi h => by unfold eqB at h; omega)
            generalize ((w6.setCell ⟨pq, 0, none⟩ (.string (mkS []))).setCell ⟨pq, 1, none⟩ (.int .i64 4)) = w7 at *
            clear y0 y1 yf r0 r1 rf p0 p1 p2 p3 p4 pf
            obtain ⟨y0, y1, yf⟩ := BlkAt.c2 hbq
            obtain ⟨r0, r1, rf⟩ := BlkAt.c2 hbr
            obtain ⟨p0, p1, p2, p3, p4, pf⟩ := BlkAt.c5 hbo
            replace hb0 : BlkAt ((((w7.setCell ⟨w.heap.size + 2, 0, none⟩ (.string (mkS []))).setCell ⟨w.heap.size + 2, 1, none⟩ (.int .i64 4)).setCell ⟨w.heap.size + 1, 3, none⟩ (.int .u8 x1)).setCell ⟨w.heap.size + 1, 4, none⟩ (.int .u8 0)) (w.heap.size) 54 #[.int .u8 0, .string ⟨#[]⟩, .string ⟨#[]⟩, .int .u8 0, .int .u8 0] := ((((hb0).fr (fr_set1 _ (w.heap.size + 2) 0 (.string (mkS []))) (by unfold eqB; omega)).fr (fr_set1 _ (w.heap.size + 2) 1 (.int .i64 4)) (by unfold eqB; omega)).fr (fr_set1 _ (w.heap.size + 1) 3 (.int .u8 x1)) (by unfold eqB; omega)).fr (fr_set1 _ (w.heap.size + 1) 4 (.int .u8 0)) (by unfold eqB; omega)
            replace hbr : BlkAt ((((w7.setCell ⟨w.heap.size + 2, 0, none⟩ (.string (mkS []))).setCell ⟨w.heap.size + 2, 1, none⟩ (.int .i64 4)).setCell ⟨w.heap.size + 1, 3, none⟩ (.int .u8 x1)).setCell ⟨w.heap.size + 1, 4, none⟩ (.int .u8 0)) (w.heap.size + 2) 71 #[.string (mkS []), .int .i64 4] := ((((hbr).set 0 (.string (mkS []))).set 1 (.int .i64 4)).fr (fr_set1 _ (w.heap.size + 1) 3 (.int .u8 x1)) (by unfold eqB; omega)).fr (fr_set1 _ (w.heap.size + 1) 4 (.int .u8 0)) (by unfold eqB; omega)
            replace hbo : BlkAt ((((w7.setCell ⟨w.heap.size + 2, 0, none⟩ (.string (mkS []))).setCell ⟨w.heap.size + 2, 1, none⟩ (.int .i64 4)).setCell ⟨w.heap.size + 1, 3, none⟩ (.int .u8 x1)).setCell ⟨w.heap.size + 1, 4, none⟩ (.int .u8 0)) (w.heap.size + 1) 54 #[.int .u8 c.toNat, .string ⟨#[]⟩, .string ⟨#[]⟩, .int .u8 x1, .int .u8 0] := ((((hbo).fr (fr_set1 _ (w.heap.size + 2) 0 (.string (mkS []))) (by unfold eqB; omega)).fr (fr_set1 _ (w.heap.size + 2) 1 (.int .i64 4)) (by unfold eqB; omega)).set 3 (.int .u8 x1)).set 4 (.int .u8 0)
            replace f0 := ((((f0).trans (fr_set1 _ (w.heap.size + 2) 0 (.string (mkS []))) (fun i hi h => by unfold eqB at h; omega)).trans (fr_set1 _ (w.heap.size + 2) 1 (.int .i64 4)) (fun i hi h => by unfold eqB at h; omega)).trans (fr_set1 _ (w.heap.size + 1) 3 (.int .u8 x1)) (fun i hi h => by unfold eqB at h; omega)).trans (fr_set1 _ (w.heap.size + 1) 4 (.int .u8 0)) (fun i hi h => by unfold eqB at h; omega)
            generalize hw7z : ((((w7.setCell ⟨w.heap.size + 2, 0, none⟩ (.string (mkS []))).setCell ⟨w.heap.size + 2, 1, none⟩ (.int .i64 4)).setCell ⟨w.heap.size + 1, 3, none⟩ (.int .u8 x1)).setCell ⟨w.heap.size + 1, 4, none⟩ (.int .u8 0)) = w7z at hb0 hbr hbo f0
            clear hbo
            obtain ⟨s0, s1, sf⟩ := BlkAt.c2 hbr
            go_wp2_with fail
            apply wp_region_calm (R := Fr (eqB (w.heap.size))) (C := fun q W => Fr (eqB (w.heap.size)) w7z W ∧ BlkAt W (w.heap.size + 2) 71 #[.string (mkS []), .int .i64 4] ∧ BlkAt W (w.heap.size) 54 (if q = 0 then #[.int .u8 0, .string ⟨#[]⟩, .string ⟨#[]⟩, .int .u8 0, .int .u8 0] else #[.int .u8 0, .string ⟨#[]⟩, .string ⟨#[]⟩, .int .u8 0, .int .u8 0])) [false, false, false, true, false]
              [eqv _, eqv _, eqv _, anyv, eqv _]
              (by kernel_rfl) (by kernel_rfl) (fun _ _ _ h1 h2 => h1.then' h2) ((Fr.refl _ _).drew) ⟨(Fr.refl _ _).drew, hbr, hb0⟩ (by kernel_rfl)
            · refine ⟨?_, ?_, ?_, ?_, ?_, trivial⟩
              · rw [if_neg (by decide)]; intro kq
                intro a W K hC hd hK
                refine wpOp_plain rfl rfl ?_
                go_wp2_with fail
                exact hK _ _ (Fr.refl _ _) hC rfl
              · rw [if_neg (by decide)]; intro kq
                intro a W K hC hd hK
                have d7 : a.tmps[7]?.getD undef = .pointer (some ⟨w.heap.size + 2, 0, none⟩) := hd 7 (by decide)
                refine wpOp_plain rfl rfl ?_
                obtain ⟨x0_0, x0_1, z0⟩ := BlkAt.c2 (hC.2.1)
                go_wp2_with fail
                exact hK _ _ (Fr.refl _ _) hC rfl
              · rw [if_neg (by decide)]; intro kq
                intro a W K hC hd hK
                have d105 : _ = _ := hd 105 (by decide)
                refine wpOp_plain rfl rfl ?_
                obtain ⟨x0_0, x0_1, z0⟩ := BlkAt.c2 (hC.2.1)
                go_wp2_with fail
                exact hK _ _ (Fr.refl _ _) hC rfl
              · rw [if_pos (by decide)]
                intro a W K hC hd hK
                replace hC : (fun q W => Fr (eqB (w.heap.size)) w7z W ∧ BlkAt W (w.heap.size + 2) 71 #[.string (mkS []), .int .i64 4] ∧ BlkAt W (w.heap.size) 54 (if q = 0 then #[.int .u8 0, .string ⟨#[]⟩, .string ⟨#[]⟩, .int .u8 0, .int .u8 0] else #[.int .u8 0, .string ⟨#[]⟩, .string ⟨#[]⟩, .int .u8 0, .int .u8 0])) 0 W := hC
                have d2 : a.tmps[2]?.getD undef = .pointer (some ⟨w.heap.size, 0, none⟩) := hd 2 (by decide)
                have d104 : _ = _ := hd 104 (by decide)
                refine wpOp_plain rfl rfl ?_
                obtain ⟨x0_0, x0_1, z0⟩ := BlkAt.c2 (hC.2.1)
                have hz0 : BlkAt W (w.heap.size) 54 #[.int .u8 0, .string ⟨#[]⟩, .string ⟨#[]⟩, .int .u8 0, .int .u8 0] := hC.2.2
                obtain ⟨b0_0, b0_1, b0_2, b0_3, b0_4, zz0⟩ := BlkAt.c5 hz0
                have fs : Fr (eqB (w.heap.size)) W (((((W.setCell ⟨w.heap.size, 0, none⟩ (.int .u8 0)).setCell ⟨w.heap.size, 1, none⟩ (.string ⟨#[]⟩)).setCell ⟨w.heap.size, 2, none⟩ (.string ⟨#[]⟩)).setCell ⟨w.heap.size, 3, none⟩ (.int .u8 0)).setCell ⟨w.heap.size, 4, none⟩ (.int .u8 0)) := ((((((Fr.refl (eqB (w.heap.size)) W)).setCell (p := ⟨w.heap.size, 0, none⟩) (Or.inl rfl) (.int .u8 0)).setCell (p := ⟨w.heap.size, 1, none⟩) (Or.inl rfl) (.string ⟨#[]⟩)).setCell (p := ⟨w.heap.size, 2, none⟩) (Or.inl rfl) (.string ⟨#[]⟩)).setCell (p := ⟨w.heap.size, 3, none⟩) (Or.inl rfl) (.int .u8 0)).setCell (p := ⟨w.heap.size, 4, none⟩) (Or.inl rfl) (.int .u8 0)
                have hn0 : BlkAt (((((W.setCell ⟨w.heap.size, 0, none⟩ (.int .u8 0)).setCell ⟨w.heap.size, 1, none⟩ (.string ⟨#[]⟩)).setCell ⟨w.heap.size, 2, none⟩ (.string ⟨#[]⟩)).setCell ⟨w.heap.size, 3, none⟩ (.int .u8 0)).setCell ⟨w.heap.size, 4, none⟩ (.int .u8 0)) (w.heap.size) 54 #[.int .u8 0, .string ⟨#[]⟩, .string ⟨#[]⟩, .int .u8 0, .int .u8 0] := (((((hz0).set 0 (.int .u8 0)).set 1 (.string ⟨#[]⟩)).set 2 (.string ⟨#[]⟩)).set 3 (.int .u8 0)).set 4 (.int .u8 0)
                go_wp2_with fail
                exact hK undef _ fs ⟨hC.1.then' fs, (hC.2.1).fr fs (by unfold eqB; omega), hn0⟩ trivial
              · rw [if_neg (by decide)]; intro kq
                exact calm_mv 106 rfl rfl (Or.inr rfl) (Fr.refl _) (by decide) fun v w hd => hd
            · intro vs w7zd fw7zd cw7zd hV
              have v104 : vs 0 = _ := hV 0 _ _ rfl rfl (by decide)
              have v105 : vs 1 = _ := hV 1 _ _ rfl rfl (by decide)
              have v106 : vs 2 = _ := hV 2 _ _ rfl rfl (by decide)
              have v3 : vs 4 = _ := hV 4 _ _ rfl rfl (by decide)
              clear hV
              replace hbr : BlkAt w7zd (w.heap.size + 2) 71 #[.string (mkS []), .int .i64 4] := cw7zd.2.1
              replace hb0 : BlkAt w7zd (w.heap.size) 54 #[.int .u8 0, .string ⟨#[]⟩, .string ⟨#[]⟩, .int .u8 0, .int .u8 0] := cw7zd.2.2
              replace f0 := f0.trans fw7zd (fun i hi h => by unfold eqB at h; omega)
              clear cw7zd
              simp only [putL, Act.put, Nat.reduceAdd, List.setIfInBounds_toArray, List.set_cons_zero, List.set_cons_succ, v104, v105, v106, v3]
              obtain ⟨y0, y1, y2, y3, y4, yf⟩ := BlkAt.c5 hb0
              go_wp2_with fail
              have hr := hr.out
              exact bodyPost_ret (v := .tuple #[zeroOp.v, .int .i64 4]) (by simp [results, hr, go_sem, zeroOp, OpV.v, y0, y1, y2, y3, y4]) rfl ⟨by rw [HV.out] <;> rfl, f0⟩
          · have d6 : decide ((6 : Int) < (x1 : Int)) = false := decide_eq_false (by omega)
            have HS1 : Hid (rdSign (⟨c.toNat, ⟨#[]⟩, ⟨#[]⟩, 0, 0⟩, ⟨t, 0⟩) 110 = (⟨c.toNat, ⟨#[]⟩, ⟨#[]⟩, x1, 0⟩, ⟨b1, e1⟩)) := rdSign_keep (by unfold rdPart; rw [if_neg (by decide), if_neg (by decide), if_pos rfl, HQ.out]) (Or.inr (by unfold rightV; rw [if_pos rfl]; exact decide_eq_true (by simp only []; omega)))
            have hi2 := hid hi1
            obtain ⟨y0, y1, yf⟩ := BlkAt.c2 hbq
            obtain ⟨c1, hc1⟩ : ∃ c, ((e1 : Int) == 0) = c := ⟨_, rfl⟩
            have HC1 : Hid (c1 = true ↔ e1 = 0) := by rw [← hc1]; unfold Hid; rw [beq_iff_eq]; omega
            have HX := hid hx256
            clear h6 hps hi1 HQ hx256
            go_wp2_with fail
            rw [hpqe] at *
            generalize (w2.alloc (.cells #[.string (mkS b1), .int .i64 e1] 71)) = w3 at *
            have hg := getR_calls w3 ⟨b1, e1⟩ 1 hi2.out (by have := HTL.out; simp only []; omega) (by decide)
            have hy256 := rNum_lt ⟨b1, e1⟩ 1
            have hke : e1 ≠ 0 → (rNum ⟨b1, e1⟩ 1).1.e ≠ 0 := fun h => by
              have hb : b1 = [] := hi2.out h
              subst hb
              unfold rNum rTake rFail
              simp [h]
            generalize hq : rNum ⟨b1, e1⟩ 1 = q2 at hg hy256 hke
            have HQ2 := hid hq
            clear hq hi2
            obtain ⟨⟨b2, e2⟩, x2⟩ := q2
            simp only [Rd.val] at hg hy256 hke
            have hP2 : rdPart ⟨c.toNat, ⟨#[]⟩, ⟨#[]⟩, x1, 0⟩ ⟨b1, e1⟩ 114 = (⟨c.toNat, ⟨#[]⟩, ⟨#[]⟩, x1, x2⟩, ⟨b2, e2⟩) := by unfold rdPart; rw [if_neg (by decide), if_neg (by decide), if_neg (by decide), if_pos rfl, HQ2.out]
            have hxw2 : IntKind.u8.wrap (x2 : Int) = x2 := by rw [IntKind.wrap_u8]; omega
            refine hg.mono ?_
            rintro e w4 ⟨rfl, f4⟩
            replace hb0 := hb0.fr f4 id
            replace hbo := hbo.fr f4 id
            replace hbr := hbr.fr f4 id
            replace hbq := hbq.fr f4 id
            replace f0 := f0.then' f4
            clear f4 hg y0 y1 yf HQ2 hy256
            obtain ⟨y0, y1, yf⟩ := BlkAt.c2 hbq
            replace hb0 : BlkAt ((w4.setCell ⟨pq, 0, none⟩ (.string (mkS b2))).setCell ⟨pq, 1, none⟩ (.int .i64 e2)) (w.heap.size) 54 #[.int .u8 0, .string ⟨#[]⟩, .string ⟨#[]⟩, .int .u8 0, .int .u8 0] := ((hb0).fr (fr_set1 _ (pq) 0 (.string (mkS b2))) (by unfold eqB; omega)).fr (fr_set1 _ (pq) 1 (.int .i64 e2)) (by unfold eqB; omega)
            replace hbr : BlkAt ((w4.setCell ⟨pq, 0, none⟩ (.string (mkS b2))).setCell ⟨pq, 1, none⟩ (.int .i64 e2)) (w.heap.size + 2) 71 #[.string (mkS t), .int .i64 0] := ((hbr).fr (fr_set1 _ (pq) 0 (.string (mkS b2))) (by unfold eqB; omega)).fr (fr_set1 _ (pq) 1 (.int .i64 e2)) (by unfold eqB; omega)
            replace hbo : BlkAt ((w4.setCell ⟨pq, 0, none⟩ (.string (mkS b2))).setCell ⟨pq, 1, none⟩ (.int .i64 e2)) (w.heap.size + 1) 54 #[.int .u8 c.toNat, .string ⟨#[]⟩, .string ⟨#[]⟩, .int .u8 0, .int .u8 0] := ((hbo).fr (fr_set1 _ (pq) 0 (.string (mkS b2))) (by unfold eqB; omega)).fr (fr_set1 _ (pq) 1 (.int .i64 e2)) (by unfold eqB; omega)
            replace hbq : BlkAt ((w4.setCell ⟨pq, 0, none⟩ (.string (mkS b2))).setCell ⟨pq, 1, none⟩ (.int .i64 e2)) (pq) 71 #[.string (mkS b2), .int .i64 e2] := ((hbq).set 0 (.string (mkS b2))).set 1 (.int .i64 e2)
            replace f0 := ((f0).trans (fr_set1 _ (pq) 0 (.string (mkS b2))) (fun i hi h => by unfold eqB at h; omega)).trans (fr_set1 _ (pq) 1 (.int .i64 e2)) (fun i hi h => by unfold eqB at h; omega)
            generalize hw5 : ((w4.setCell ⟨pq, 0, none⟩ (.string (mkS b2))).setCell ⟨pq, 1, none⟩ (.int .i64 e2)) = w5 at hb0 hbr hbo hbq f0
            by_cases he2 : e2 = 0
            · have t2 : ((e2 : Int) == 0) = true := by rw [beq_iff_eq]; omega
              have he1 : e1 = 0 := by by_cases h : e1 = 0; exact h; exact absurd he2 (hke h)
              obtain rfl : c1 = true := HC1.out.2 he1
              by_cases hy : 1 ≤ x2 ∧ x2 ≤ 3
              · have d7 : decide ((x2 : Int) < 1) = false := decide_eq_false (by omega)
                have d8 : decide ((3 : Int) < (x2 : Int)) = false := decide_eq_false (by omega)
                have HS2 := hid (rdSign_keep hP2 (Or.inr (by unfold rightV; rw [if_neg (by decide), if_pos rfl, decide_eq_true hy.1, decide_eq_true hy.2]; rfl)))
                have HF : Hid (List.foldl rdSign (⟨c.toNat, ⟨#[]⟩, ⟨#[]⟩, 0, 0⟩, ⟨t, 0⟩) [110, 114] = (⟨c.toNat, ⟨#[]⟩, ⟨#[]⟩, x1, x2⟩, ⟨b2, e2⟩)) := by
                  unfold Hid; rw [List.foldl_cons, HS1.out, List.foldl_cons, HS2.out]; rfl
                rw [HF.out] at HV
                simp only [] at HV
                have HE2 := hid he2
                have HE1 := hid he1
                clear hy hP2 he2 he1 hke HS1 HS2 HF
                obtain ⟨s0, s1, sf⟩ := BlkAt.c2 hbq
                obtain ⟨r0, r1, rf⟩ := BlkAt.c2 hbr
                obtain ⟨p0, p1, p2, p3, p4, pf⟩ := BlkAt.c5 hbo
                go_upto_region 22 with fail
                replace hw5 := hid hw5

                replace hb0 : BlkAt ((((w5.setCell ⟨w.heap.size + 2, 0, none⟩ (.string (mkS b2))).setCell ⟨w.heap.size + 2, 1, none⟩ (.int .i64 e2)).setCell ⟨w.heap.size + 1, 3, none⟩ (.int .u8 x1)).setCell ⟨w.heap.size + 1, 4, none⟩ (.int .u8 x2)) (w.heap.size) 54 #[.int .u8 0, .string ⟨#[]⟩, .string ⟨#[]⟩, .int .u8 0, .int .u8 0] := ((((hb0).fr (fr_set1 _ (w.heap.size + 2) 0 (.string (mkS b2))) (by unfold eqB; omega)).fr (fr_set1 _ (w.heap.size + 2) 1 (.int .i64 e2)) (by unfold eqB; omega)).fr (fr_set1 _ (w.heap.size + 1) 3 (.int .u8 x1)) (by unfold eqB; omega)).fr (fr_set1 _ (w.heap.size + 1) 4 (.int .u8 x2)) (by unfold eqB; omega)
                replace hbr : BlkAt ((((w5.setCell ⟨w.heap.size + 2, 0, none⟩ (.string (mkS b2))).setCell ⟨w.heap.size + 2, 1, none⟩ (.int .i64 e2)).setCell ⟨w.heap.size + 1, 3, none⟩ (.int .u8 x1)).setCell ⟨w.heap.size + 1, 4, none⟩ (.int .u8 x2)) (w.heap.size + 2) 71 #[.string (mkS b2), .int .i64 e2] := ((((hbr).set 0 (.string (mkS b2))).set 1 (.int .i64 e2)).fr (fr_set1 _ (w.heap.size + 1) 3 (.int .u8 x1)) (by unfold eqB; omega)).fr (fr_set1 _ (w.heap.size + 1) 4 (.int .u8 x2)) (by unfold eqB; omega)
                replace hbo : BlkAt ((((w5.setCell ⟨w.heap.size + 2, 0, none⟩ (.string (mkS b2))).setCell ⟨w.heap.size + 2, 1, none⟩ (.int .i64 e2)).setCell ⟨w.heap.size + 1, 3, none⟩ (.int .u8 x1)).setCell ⟨w.heap.size + 1, 4, none⟩ (.int .u8 x2)) (w.heap.size + 1) 54 #[.int .u8 c.toNat, .string ⟨#[]⟩, .string ⟨#[]⟩, .int .u8 x1, .int .u8 x2] := ((((hbo).fr (fr_set1 _ (w.heap.size + 2) 0 (.string (mkS b2))) (by unfold eqB; omega)).fr (fr_set1 _ (w.heap.size + 2) 1 (.int .i64 e2)) (by unfold eqB; omega)).set 3 (.int .u8 x1)).set 4 (.int .u8 x2)
                replace f0 := ((((f0).trans (fr_set1 _ (w.heap.size + 2) 0 (.string (mkS b2))) (fun i hi h => by unfold eqB at h; omega)).trans (fr_set1 _ (w.heap.size + 2) 1 (.int .i64 e2)) (fun i hi h => by unfold eqB at h; omega)).trans (fr_set1 _ (w.heap.size + 1) 3 (.int .u8 x1)) (fun i hi h => by unfold eqB at h; omega)).trans (fr_set1 _ (w.heap.size + 1) 4 (.int .u8 x2)) (fun i hi h => by unfold eqB at h; omega)
                generalize hw5z : ((((w5.setCell ⟨w.heap.size + 2, 0, none⟩ (.string (mkS b2))).setCell ⟨w.heap.size + 2, 1, none⟩ (.int .i64 e2)).setCell ⟨w.heap.size + 1, 3, none⟩ (.int .u8 x1)).setCell ⟨w.heap.size + 1, 4, none⟩ (.int .u8 x2)) = w5z at hb0 hbr hbo f0
                obtain ⟨r0, r1, rf⟩ := BlkAt.c2 hbr
                by_cases he : e2 = 0
                · have t1 : ((e2 : Int) == 0) = true := by rw [beq_iff_eq]; omega
                  have t2 : ((e2 : Int) != 0) = false := by rw [bne_eq_false_iff_eq]; omega
                  by_cases hbn : b2 = []
                  · have t3 : (mkS b2).toList.isEmpty = true := by rw [hbn, mkS_toList]; rfl
                    have he0 : rEnd ⟨b2, e2⟩ = 0 := by rw [he, hbn]; rfl
                    rw [he0] at HV
                    obtain ⟨q0, q1, q2, q3, q4, qf⟩ := BlkAt.c5 hbo
                    obtain ⟨y0, y1, y2, y3, y4, yf⟩ := BlkAt.c5 hb0
                    have FF := f0.trans (fr_set5 w5z w.heap.size (.int .u8 c.toNat) (.string ⟨#[]⟩) (.string ⟨#[]⟩) (.int .u8 x1) (.int .u8 x2)) (fun i hi h => by unfold eqB at h; omega)
                    clear he0 he hbn
                    go_wp2_with fail
                    have hr := hr.out
                    exact bodyPost_ret (v := .tuple #[(⟨c.toNat, ⟨#[]⟩, ⟨#[]⟩, x1, x2⟩ : OpV).v, .int .i64 0]) (by simp [results, hr, go_sem, OpV.v, y0, y1, y2, y3, y4]) rfl ⟨by rw [HV.out] <;> rfl, FF⟩
                  · have t3 : (mkS b2).toList.isEmpty = false := by rw [mkS_toList]; cases hh : b2 <;> first | rfl | exact absurd hh hbn
                    have he0 : rEnd ⟨b2, e2⟩ = 3 := by unfold rEnd; rw [if_pos ⟨he, List.length_pos_iff.2 hbn⟩]
                    rw [he0] at HV
                    clear he0 he hbn
    
                    replace hb0 : BlkAt (w5z.setCell ⟨w.heap.size + 2, 1, none⟩ (.int .i64 3)) (w.heap.size) 54 #[.int .u8 0, .string ⟨#[]⟩, .string ⟨#[]⟩, .int .u8 0, .int .u8 0] := (hb0).fr (fr_set1 _ (w.heap.size + 2) 1 (.int .i64 3)) (by unfold eqB; omega)
                    replace hbr : BlkAt (w5z.setCell ⟨w.heap.size + 2, 1, none⟩ (.int .i64 3)) (w.heap.size + 2) 71 #[.string (mkS b2), .int .i64 3] := (hbr).set 1 (.int .i64 3)
                    replace f0 := (f0).trans (fr_set1 _ (w.heap.size + 2) 1 (.int .i64 3)) (fun i hi h => by unfold eqB at h; omega)
                    clear hbo t2
                    generalize hw5zt : (w5z.setCell ⟨w.heap.size + 2, 1, none⟩ (.int .i64 3)) = w5zt at hb0 hbr f0
                    obtain ⟨s0, s1, sf⟩ := BlkAt.c2 hbr
                    go_wp2_with fail
                    apply wp_region_calm (R := Fr (eqB (w.heap.size))) (C := fun q W => Fr (eqB (w.heap.size)) w5zt W ∧ BlkAt W (w.heap.size + 2) 71 #[.string (mkS b2), .int .i64 3] ∧ BlkAt W (w.heap.size) 54 (if q = 0 then #[.int .u8 0, .string ⟨#[]⟩, .string ⟨#[]⟩, .int .u8 0, .int .u8 0] else #[.int .u8 0, .string ⟨#[]⟩, .string ⟨#[]⟩, .int .u8 0, .int .u8 0])) [false, false, false, true, false]
                      [eqv _, eqv _, eqv _, anyv, eqv _]
                      (by kernel_rfl) (by kernel_rfl) (fun _ _ _ h1 h2 => h1.then' h2) ((Fr.refl _ _).drew) ⟨(Fr.refl _ _).drew, hbr, hb0⟩ (by kernel_rfl)
                    · refine ⟨?_, ?_, ?_, ?_, ?_, trivial⟩
                      · rw [if_neg (by decide)]; intro kq
                        intro a W K hC hd hK
                        refine wpOp_plain rfl rfl ?_
                        go_wp2_with fail
                        exact hK _ _ (Fr.refl _ _) hC rfl
                      · rw [if_neg (by decide)]; intro kq
                        intro a W K hC hd hK
                        have d7 : a.tmps[7]?.getD undef = .pointer (some ⟨w.heap.size + 2, 0, none⟩) := hd 7 (by decide)
                        refine wpOp_plain rfl rfl ?_
                        obtain ⟨x0_0, x0_1, z0⟩ := BlkAt.c2 (hC.2.1)
                        go_wp2_with fail
                        exact hK _ _ (Fr.refl _ _) hC rfl
                      · rw [if_neg (by decide)]; intro kq
                        intro a W K hC hd hK
                        have d105 : _ = _ := hd 105 (by decide)
                        refine wpOp_plain rfl rfl ?_
                        obtain ⟨x0_0, x0_1, z0⟩ := BlkAt.c2 (hC.2.1)
                        go_wp2_with fail
                        exact hK _ _ (Fr.refl _ _) hC rfl
                      · rw [if_pos (by decide)]
                        intro a W K hC hd hK
                        replace hC : (fun q W => Fr (eqB (w.heap.size)) w5zt W ∧ BlkAt W (w.heap.size + 2) 71 #[.string (mkS b2), .int .i64 3] ∧ BlkAt W (w.heap.size) 54 (if q = 0 then #[.int .u8 0, .string ⟨#[]⟩, .string ⟨#[]⟩, .int .u8 0, .int .u8 0] else #[.int .u8 0, .string ⟨#[]⟩, .string ⟨#[]⟩, .int .u8 0, .int .u8 0])) 0 W := hC
                        have d2 : a.tmps[2]?.getD undef = .pointer (some ⟨w.heap.size, 0, none⟩) := hd 2 (by decide)
                        have d104 : _ = _ := hd 104 (by decide)
                        refine wpOp_plain rfl rfl ?_
                        obtain ⟨x0_0, x0_1, z0⟩ := BlkAt.c2 (hC.2.1)
                        have hz0 : BlkAt W (w.heap.size) 54 #[.int .u8 0, .string ⟨#[]⟩, .string ⟨#[]⟩, .int .u8 0, .int .u8 0] := hC.2.2
                        obtain ⟨b0_0, b0_1, b0_2, b0_3, b0_4, zz0⟩ := BlkAt.c5 hz0
                        have fs : Fr (eqB (w.heap.size)) W (((((W.setCell ⟨w.heap.size, 0, none⟩ (.int .u8 0)).setCell ⟨w.heap.size, 1, none⟩ (.string ⟨#[]⟩)).setCell ⟨w.heap.size, 2, none⟩ (.string ⟨#[]⟩)).setCell ⟨w.heap.size, 3, none⟩ (.int .u8 0)).setCell ⟨w.heap.size, 4, none⟩ (.int .u8 0)) := ((((((Fr.refl (eqB (w.heap.size)) W)).setCell (p := ⟨w.heap.size, 0, none⟩) (Or.inl rfl) (.int .u8 0)).setCell (p := ⟨w.heap.size, 1, none⟩) (Or.inl rfl) (.string ⟨#[]⟩)).setCell (p := ⟨w.heap.size, 2, none⟩) (Or.inl rfl) (.string ⟨#[]⟩)).setCell (p := ⟨w.heap.size, 3, none⟩) (Or.inl rfl) (.int .u8 0)).setCell (p := ⟨w.heap.size, 4, none⟩) (Or.inl rfl) (.int .u8 0)
                        have hn0 : BlkAt (((((W.setCell ⟨w.heap.size, 0, none⟩ (.int .u8 0)).setCell ⟨w.heap.size, 1, none⟩ (.string ⟨#[]⟩)).setCell ⟨w.heap.size, 2, none⟩ (.string ⟨#[]⟩)).setCell ⟨w.heap.size, 3, none⟩ (.int .u8 0)).setCell ⟨w.heap.size, 4, none⟩ (.int .u8 0)) (w.heap.size) 54 #[.int .u8 0, .string ⟨#[]⟩, .string ⟨#[]⟩, .int .u8 0, .int .u8 0] := (((((hz0).set 0 (.int .u8 0)).set 1 (.string ⟨#[]⟩)).set 2 (.string ⟨#[]⟩)).set 3 (.int .u8 0)).set 4 (.int .u8 0)
                        go_wp2_with fail
                        exact hK undef _ fs ⟨hC.1.then' fs, (hC.2.1).fr fs (by unfold eqB; omega), hn0⟩ trivial
                      · rw [if_neg (by decide)]; intro kq
                        exact calm_mv 106 rfl rfl (Or.inr rfl) (Fr.refl _) (by decide) fun v w hd => hd
                    · intro vs w5ztd fw5ztd cw5ztd hV
                      have v104 : vs 0 = _ := hV 0 _ _ rfl rfl (by decide)
                      have v105 : vs 1 = _ := hV 1 _ _ rfl rfl (by decide)
                      have v106 : vs 2 = _ := hV 2 _ _ rfl rfl (by decide)
                      have v3 : vs 4 = _ := hV 4 _ _ rfl rfl (by decide)
                      clear hV
                      replace hbr : BlkAt w5ztd (w.heap.size + 2) 71 #[.string (mkS b2), .int .i64 3] := cw5ztd.2.1
                      replace hb0 : BlkAt w5ztd (w.heap.size) 54 #[.int .u8 0, .string ⟨#[]⟩, .string ⟨#[]⟩, .int .u8 0, .int .u8 0] := cw5ztd.2.2
                      replace f0 := f0.trans fw5ztd (fun i hi h => by unfold eqB at h; omega)
                      clear cw5ztd
                      simp only [putL, Act.put, Nat.reduceAdd, List.setIfInBounds_toArray, List.set_cons_zero, List.set_cons_succ, v104, v105, v106, v3]
                      obtain ⟨y0, y1, y2, y3, y4, yf⟩ := BlkAt.c5 hb0
                      go_wp2_with fail
                      have hr := hr.out
                      exact bodyPost_ret (v := .tuple #[zeroOp.v, .int .i64 3]) (by simp [results, hr, go_sem, zeroOp, OpV.v, y0, y1, y2, y3, y4]) rfl ⟨by rw [HV.out] <;> rfl, f0⟩
                · exact absurd HE2.out he
              · have HS2 := hid (rdSign_fail hP2 he2 (right114_false hy))
                have h2 : rFail ⟨b2, e2⟩ 4 = ⟨[], 4⟩ := by unfold rFail; rw [if_pos ⟨he2, by decide⟩]
                have HF : Hid (List.foldl rdSign (⟨c.toNat, ⟨#[]⟩, ⟨#[]⟩, 0, 0⟩, ⟨t, 0⟩) [110, 114] = (⟨c.toNat, ⟨#[]⟩, ⟨#[]⟩, x1, x2⟩, ⟨[], 4⟩)) := by
                  unfold Hid; rw [List.foldl_cons, HS1.out, List.foldl_cons, HS2.out, h2]; rfl
                rw [HF.out] at HV
                simp only [] at HV
                rw [show rEnd ⟨[], 4⟩ = 4 from rfl, if_neg (by decide)] at HV
                have hf := fun W => failR_calls W ⟨b2, e2⟩ 4
                rw [h2] at hf
                simp only [Rd.val] at hf
                have HE2 := hid he2
                have HE1 := hid he1
                clear hP2 he2 he1 hke HS1 HS2 HF h2
                obtain ⟨s0, s1, sf⟩ := BlkAt.c2 hbq
                obtain ⟨c7, hc7⟩ : ∃ c, decide ((x2 : Int) < 1) = c := ⟨_, rfl⟩
                have hc8 : c7 = false → decide ((3 : Int) < (x2 : Int)) = true := fun h => by
                  rw [h, decide_eq_false_iff_not] at hc7
                  exact decide_eq_true (by omega)
                have HY := hid hy
                clear hy
                cases c7
                all_goals
                  first | (replace hc8 := hc8 rfl) | clear hc8
                  go_wp2_with fail
                  replace hw5 := hid hw5
                  refine (hf _).mono ?_
                  rintro e w6 ⟨rfl, f6⟩
                  replace hb0 := hb0.fr f6 id
                  replace hbo := hbo.fr f6 id
                  replace hbr := hbr.fr f6 id
                  replace hbq := hbq.fr f6 id
                  replace f0 := f0.then' f6
                  clear f6 hf y0 y1 yf s0 s1 sf
                  obtain ⟨y0, y1, yf⟩ := BlkAt.c2 hbq
                  obtain ⟨r0, r1, rf⟩ := BlkAt.c2 hbr
                  obtain ⟨p0, p1, p2, p3, p4, pf⟩ := BlkAt.c5 hbo
                  go_upto_region 22 with fail
                  replace hb0 : BlkAt ((w6.setCell ⟨pq, 0, none⟩ (.string (mkS []))).setCell ⟨pq, 1, none⟩ (.int .i64 4)) (w.heap.size) 54 #[.int .u8 0, .string ⟨#[]⟩, .string ⟨#[]⟩, .int .u8 0, .int .u8 0] := ((hb0).fr (fr_set1 _ (pq) 0 (.string (mkS []))) (by unfold eqB; omega)).fr (fr_set1 _ (pq) 1 (.int .i64 4)) (by unfold eqB; omega)
                  replace hbr : BlkAt ((w6.setCell ⟨pq, 0, none⟩ (.string (mkS []))).setCell ⟨pq, 1, none⟩ (.int .i64 4)) (w.heap.size + 2) 71 #[.string (mkS t), .int .i64 0] := ((hbr).fr (fr_set1 _ (pq) 0 (.string (mkS []))) (by unfold eqB; omega)).fr (fr_set1 _ (pq) 1 (.int .i64 4)) (by unfold eqB; omega)
                  replace hbo : BlkAt ((w6.setCell ⟨pq, 0, none⟩ (.string (mkS []))).setCell ⟨pq, 1, none⟩ (.int .i64 4)) (w.heap.size + 1) 54 #[.int .u8 c.toNat, .string ⟨#[]⟩, .string ⟨#[]⟩, .int .u8 0, .int .u8 0] := ((hbo).fr (fr_set1 _ (pq) 0 (.string (mkS []))) (by unfold eqB; omega)).fr (fr_set1 _ (pq) 1 (.int .i64 4)) (by unfold eqB; omega)
                  replace hbq : BlkAt ((w6.setCell ⟨pq, 0, none⟩ (.string (mkS []))).setCell ⟨pq, 1, none⟩ (.int .i64 4)) (pq) 71 #[.string (mkS []), .int .i64 4] := ((hbq).set 0 (.string (mkS []))).set 1 (.int .i64 4)
                  replace f0 := ((f0).trans (fr_set1 _ (pq) 0 (.string (mkS []))) (fun i hi h => by unfold eqB at h; omega)).trans (fr_set1 _ (pq) 1 (.int .i64 4)) (fun i hi h => by unfold eqB at h; omega)
                  generalize ((w6.setCell ⟨pq, 0, none⟩ (.string (mkS []))).setCell ⟨pq, 1, none⟩ (.int .i64 4)) = w7 at *
                  clear y0 y1 yf r0 r1 rf p0 p1 p2 p3 p4 pf
                  obtain ⟨y0, y1, yf⟩ := BlkAt.c2 hbq
                  obtain ⟨r0, r1, rf⟩ := BlkAt.c2 hbr
                  obtain ⟨p0, p1, p2, p3, p4, pf⟩ := BlkAt.c5 hbo
                  replace hb0 : BlkAt ((((w7.setCell ⟨w.heap.size + 2, 0, none⟩ (.string (mkS []))).setCell ⟨w.heap.size + 2, 1, none⟩ (.int .i64 4)).setCell ⟨w.heap.size + 1, 3, none⟩ (.int .u8 x1)).setCell ⟨w.heap.size + 1, 4, none⟩ (.int .u8 x2)) (w.heap.size) 54 #[.int .u8 0, .string ⟨#[]⟩, .string ⟨#[]⟩, .int .u8 0, .int .u8 0] := ((((hb0).fr (fr_set1 _ (w.heap.size + 2) 0 (.string (mkS []))) (by unfold eqB; omega)).fr (fr_set1 _ (w.heap.size + 2) 1 (.int .i64 4)) (by unfold eqB; omega)).fr (fr_set1 _ (w.heap.size + 1) 3 (.int .u8 x1)) (by unfold eqB; omega)).fr (fr_set1 _ (w.heap.size + 1) 4 (.int .u8 x2)) (by unfold eqB; omega)
                  replace hbr : BlkAt ((((w7.setCell ⟨w.heap.size + 2, 0, none⟩ (.string (mkS []))).setCell ⟨w.heap.size + 2, 1, none⟩ (.int .i64 4)).setCell ⟨w.heap.size + 1, 3, none⟩ (.int .u8 x1)).setCell ⟨w.heap.size + 1, 4, none⟩ (.int .u8 x2)) (w.heap.size + 2) 71 #[.string (mkS []), .int .i64 4] := ((((hbr).set 0 (.string (mkS []))).set 1 (.int .i64 4)).fr (fr_set1 _ (w.heap.size + 1) 3 (.int .u8 x1)) (by unfold eqB; omega)).fr (fr_set1 _ (w.heap.size + 1) 4 (.int .u8 x2)) (by unfold eqB; omega)
                  replace hbo : BlkAt ((((w7.setCell ⟨w.heap.size + 2, 0, none⟩ (.string (mkS []))).setCell ⟨w.heap.size + 2, 1, none⟩ (.int .i64 4)).setCell ⟨w.heap.size + 1, 3, none⟩ (.int .u8 x1)).setCell ⟨w.heap.size + 1, 4, none⟩ (.int .u8 x2)) (w.heap.size + 1) 54 #[.int .u8 c.toNat, .string ⟨#[]⟩, .string ⟨#[]⟩, .int .u8 x1, .int .u8 x2] := ((((hbo).fr (fr_set1 _ (w.heap.size + 2) 0 (.string (mkS []))) (by unfold eqB; omega)).fr (fr_set1 _ (w.heap.size + 2) 1 (.int .i64 4)) (by unfold eqB; omega)).set 3 (.int .u8 x1)).set 4 (.int .u8 x2)
                  replace f0 := ((((f0).trans (fr_set1 _ (w.heap.size + 2) 0 (.string (mkS []))) (fun i hi h => by unfold eqB at h; omega)).trans (fr_set1 _ (w.heap.size + 2) 1 (.int .i64 4)) (fun i hi h => by unfold eqB at h; omega)).trans (fr_set1 _ (w.heap.size + 1) 3 (.int .u8 x1)) (fun i hi h => by unfold eqB at h; omega)).trans (fr_set1 _ (w.heap.size + 1) 4 (.int .u8 x2)) (fun i hi h => by unfold eqB at h; omega)
                  generalize hw7z : ((((w7.setCell ⟨w.heap.size + 2, 0, none⟩ (.string (mkS []))).setCell ⟨w.heap.size + 2, 1, none⟩ (.int .i64 4)).setCell ⟨w.heap.size + 1, 3, none⟩ (.int .u8 x1)).setCell ⟨w.heap.size + 1, 4, none⟩ (.int .u8 x2)) = w7z at hb0 hbr hbo f0
                  clear hbo
                  obtain ⟨s0, s1, sf⟩ := BlkAt.c2 hbr
                  go_wp2_with fail
                  apply wp_region_calm (R := Fr (eqB (w.heap.size))) (C := fun q W => Fr (eqB (w.heap.size)) w7z W ∧ BlkAt W (w.heap.size + 2) 71 #[.string (mkS []), .int .i64 4] ∧ BlkAt W (w.heap.size) 54 (if q = 0 then #[.int .u8 0, .string ⟨#[]⟩, .string ⟨#[]⟩, .int .u8 0, .int .u8 0] else #[.int .u8 0, .string ⟨#[]⟩, .string ⟨#[]⟩, .int .u8 0, .int .u8 0])) [false, false, false, true, false]
                    [eqv _, eqv _, eqv _, anyv, eqv _]
                    (by kernel_rfl) (by kernel_rfl) (fun _ _ _ h1 h2 => h1.then' h2) ((Fr.refl _ _).drew) ⟨(Fr.refl _ _).drew, hbr, hb0⟩ (by kernel_rfl)
                  · refine ⟨?_, ?_, ?_, ?_, ?_, trivial⟩
                    · rw [if_neg (by decide)]; intro kq
                      intro a W K hC hd hK
                      refine wpOp_plain rfl rfl ?_
                      go_wp2_with fail
                      exact hK _ _ (Fr.refl _ _) hC rfl
                    · rw [if_neg (by decide)]; intro kq
                      intro a W K hC hd hK
                      have d7 : a.tmps[7]?.getD undef = .pointer (some ⟨w.heap.size + 2, 0, none⟩) := hd 7 (by decide)
                      refine wpOp_plain rfl rfl ?_
                      obtain ⟨x0_0, x0_1, z0⟩ := BlkAt.c2 (hC.2.1)
                      go_wp2_with fail
                      exact hK _ _ (Fr.refl _ _) hC rfl
                    · rw [if_neg (by decide)]; intro kq
                      intro a W K hC hd hK
                      have d105 : _ = _ := hd 105 (by decide)
                      refine wpOp_plain rfl rfl ?_
                      obtain ⟨x0_0, x0_1, z0⟩ := BlkAt.c2 (hC.2.1)
                      go_wp2_with fail
                      exact hK _ _ (Fr.refl _ _) hC rfl
                    · rw [if_pos (by decide)]
                      intro a W K hC hd hK
                      replace hC : (fun q W => Fr (eqB (w.heap.size)) w7z W ∧ BlkAt W (w.heap.size + 2) 71 #[.string (mkS []), .int .i64 4] ∧ BlkAt W (w.heap.size) 54 (if q = 0 then #[.int .u8 0, .string ⟨#[]⟩, .string ⟨#[]⟩, .int .u8 0, .int .u8 0] else #[.int .u8 0, .string ⟨#[]⟩, .string ⟨#[]⟩, .int .u8 0, .int .u8 0])) 0 W := hC
                      have d2 : a.tmps[2]?.getD undef = .pointer (some ⟨w.heap.size, 0, none⟩) := hd 2 (by decide)
                      have d104 : _ = _ := hd 104 (by decide)
                      refine wpOp_plain rfl rfl ?_
                      obtain ⟨x0_0, x0_1, z0⟩ := BlkAt.c2 (hC.2.1)
                      have hz0 : BlkAt W (w.heap.size) 54 #[.int .u8 0, .string ⟨#[]⟩, .string ⟨#[]⟩, .int .u8 0, .int .u8 0] := hC.2.2
                      obtain ⟨b0_0, b0_1, b0_2, b0_3, b0_4, zz0⟩ := BlkAt.c5 hz0
                      have fs : Fr (eqB (w.heap.size)) W (((((W.setCell ⟨w.heap.size, 0, none⟩ (.int .u8 0)).setCell ⟨w.heap.size, 1, none⟩ (.string ⟨#[]⟩)).setCell ⟨w.heap.size, 2, none⟩ (.string ⟨#[]⟩)).setCell ⟨w.heap.size, 3, none⟩ (.int .u8 0)).setCell ⟨w.heap.size, 4, none⟩ (.int .u8 0)) := ((((((Fr.refl (eqB (w.heap.size)) W)).setCell (p := ⟨w.heap.size, 0, none⟩) (Or.inl rfl) (.int .u8 0)).setCell (p := ⟨w.heap.size, 1, none⟩) (Or.inl rfl) (.string ⟨#[]⟩)).setCell (p := ⟨w.heap.size, 2, none⟩) (Or.inl rfl) (.string ⟨#[]⟩)).setCell (p := ⟨w.heap.size, 3, none⟩) (Or.inl rfl) (.int .u8 0)).setCell (p := ⟨w.heap.size, 4, none⟩) (Or.inl rfl) (.int .u8 0)
                      have hn0 : BlkAt (((((W.setCell ⟨w.heap.size, 0, none⟩ (.int .u8 0)).setCell ⟨w.heap.size, 1, none⟩ (.string ⟨#[]⟩)).setCell ⟨w.heap.size, 2, none⟩ (.string ⟨#[]⟩)).setCell ⟨w.heap.size, 3, none⟩ (.int .u8 0)).setCell ⟨w.heap.size, 4, none⟩ (.int .u8 0)) (w.heap.size) 54 #[.int .u8 0, .string ⟨#[]⟩, .string ⟨#[]⟩, .int .u8 0, .int .u8 0] := (((((hz0).set 0 (.int .u8 0)).set 1 (.string ⟨#[]⟩)).set 2 (.string ⟨#[]⟩)).set 3 (.int .u8 0)).set 4 (.int .u8 0)
                      go_wp2_with fail
                      exact hK undef _ fs ⟨hC.1.then' fs, (hC.2.1).fr fs (by unfold eqB; omega), hn0⟩ trivial
                    · rw [if_neg (by decide)]; intro kq
                      exact calm_mv 106 rfl rfl (Or.inr rfl) (Fr.refl _) (by decide) fun v w hd => hd
                  · intro vs w7zd fw7zd cw7zd hV
                    have v104 : vs 0 = _ := hV 0 _ _ rfl rfl (by decide)
                    have v105 : vs 1 = _ := hV 1 _ _ rfl rfl (by decide)
                    have v106 : vs 2 = _ := hV 2 _ _ rfl rfl (by decide)
                    have v3 : vs 4 = _ := hV 4 _ _ rfl rfl (by decide)
                    clear hV
                    replace hbr : BlkAt w7zd (w.heap.size + 2) 71 #[.string (mkS []), .int .i64 4] := cw7zd.2.1
                    replace hb0 : BlkAt w7zd (w.heap.size) 54 #[.int .u8 0, .string ⟨#[]⟩, .string ⟨#[]⟩, .int .u8 0, .int .u8 0] := cw7zd.2.2
                    replace f0 := f0.trans fw7zd (fun i hi h => by unfold eqB at h; omega)
                    clear cw7zd
                    simp only [putL, Act.put, Nat.reduceAdd, List.setIfInBounds_toArray, List.set_cons_zero, List.set_cons_succ, v104, v105, v106, v3]
                    obtain ⟨y0, y1, y2, y3, y4, yf⟩ := BlkAt.c5 hb0
                    go_wp2_with fail
                    have hr := hr.out
                    exact bodyPost_ret (v := .tuple #[zeroOp.v, .int .i64 4]) (by simp [results, hr, go_sem, zeroOp, OpV.v, y0, y1, y2, y3, y4]) rfl ⟨by rw [HV.out] <;> rfl, f0⟩
            · have t2 : ((e2 : Int) == 0) = false := by rw [beq_eq_false_iff_ne]; omega
              have HS2 := hid (rdSign_keep hP2 (Or.inl he2))
              have HF : Hid (List.foldl rdSign (⟨c.toNat, ⟨#[]⟩, ⟨#[]⟩, 0, 0⟩, ⟨t, 0⟩) [110, 114] = (⟨c.toNat, ⟨#[]⟩, ⟨#[]⟩, x1, x2⟩, ⟨b2, e2⟩)) := by
                unfold Hid; rw [List.foldl_cons, HS1.out, List.foldl_cons, HS2.out]; rfl
              rw [HF.out] at HV
              simp only [] at HV
              have HE2 := hid he2
              clear hP2 he2 hke HS1 HS2 HF
              obtain ⟨s0, s1, sf⟩ := BlkAt.c2 hbq
              obtain ⟨r0, r1, rf⟩ := BlkAt.c2 hbr
              obtain ⟨p0, p1, p2, p3, p4, pf⟩ := BlkAt.c5 hbo
              cases c1
              all_goals
                go_upto_region 22 with fail
                replace hw5 := hid hw5
                have he := HE2.out
                clear t2
                replace hb0 : BlkAt ((((w5.setCell ⟨w.heap.size + 2, 0, none⟩ (.string (mkS b2))).setCell ⟨w.heap.size + 2, 1, none⟩ (.int .i64 e2)).setCell ⟨w.heap.size + 1, 3, none⟩ (.int .u8 x1)).setCell ⟨w.heap.size + 1, 4, none⟩ (.int .u8 x2)) (w.heap.size) 54 #[.int .u8 0, .string ⟨#[]⟩, .string ⟨#[]⟩, .int .u8 0, .int .u8 0] := ((((hb0).fr (fr_set1 _ (w.heap.size + 2) 0 (.string (mkS b2))) (by unfold eqB; omega)).fr (fr_set1 _ (w.heap.size + 2) 1 (.int .i64 e2)) (by unfold eqB; omega)).fr (fr_set1 _ (w.heap.size + 1) 3 (.int .u8 x1)) (by unfold eqB; omega)).fr (fr_set1 _ (w.heap.size + 1) 4 (.int .u8 x2)) (by unfold eqB; omega)
                replace hbr : BlkAt ((((w5.setCell ⟨w.heap.size + 2, 0, none⟩ (.string (mkS b2))).setCell ⟨w.heap.size + 2, 1, none⟩ (.int .i64 e2)).setCell ⟨w.heap.size + 1, 3, none⟩ (.int .u8 x1)).setCell ⟨w.heap.size + 1, 4, none⟩ (.int .u8 x2)) (w.heap.size + 2) 71 #[.string (mkS b2), .int .i64 e2] := ((((hbr).set 0 (.string (mkS b2))).set 1 (.int .i64 e2)).fr (fr_set1 _ (w.heap.size + 1) 3 (.int .u8 x1)) (by unfold eqB; omega)).fr (fr_set1 _ (w.heap.size + 1) 4 (.int .u8 x2)) (by unfold eqB; omega)
                replace hbo : BlkAt ((((w5.setCell ⟨w.heap.size + 2, 0, none⟩ (.string (mkS b2))).setCell ⟨w.heap.size + 2, 1, none⟩ (.int .i64 e2)).setCell ⟨w.heap.size + 1, 3, none⟩ (.int .u8 x1)).setCell ⟨w.heap.size + 1, 4, none⟩ (.int .u8 x2)) (w.heap.size + 1) 54 #[.int .u8 c.toNat, .string ⟨#[]⟩, .string ⟨#[]⟩, .int .u8 x1, .int .u8 x2] := ((((hbo).fr (fr_set1 _ (w.heap.size + 2) 0 (.string (mkS b2))) (by unfold eqB; omega)).fr (fr_set1 _ (w.heap.size + 2) 1 (.int .i64 e2)) (by unfold eqB; omega)).set 3 (.int .u8 x1)).set 4 (.int .u8 x2)
                replace f0 := ((((f0).trans (fr_set1 _ (w.heap.size + 2) 0 (.string (mkS b2))) (fun i hi h => by unfold eqB at h; omega)).trans (fr_set1 _ (w.heap.size + 2) 1 (.int .i64 e2)) (fun i hi h => by unfold eqB at h; omega)).trans (fr_set1 _ (w.heap.size + 1) 3 (.int .u8 x1)) (fun i hi h => by unfold eqB at h; omega)).trans (fr_set1 _ (w.heap.size + 1) 4 (.int .u8 x2)) (fun i hi h => by unfold eqB at h; omega)
                generalize hw5z : ((((w5.setCell ⟨w.heap.size + 2, 0, none⟩ (.string (mkS b2))).setCell ⟨w.heap.size + 2, 1, none⟩ (.int .i64 e2)).setCell ⟨w.heap.size + 1, 3, none⟩ (.int .u8 x1)).setCell ⟨w.heap.size + 1, 4, none⟩ (.int .u8 x2)) = w5z at hb0 hbr hbo f0
                obtain ⟨r0, r1, rf⟩ := BlkAt.c2 hbr
                have t1 : ((e2 : Int) == 0) = false := by rw [beq_eq_false_iff_ne]; omega
                have t2 : ((e2 : Int) != 0) = true := by rw [bne_iff_ne]; omega
                have he0 : rEnd ⟨b2, e2⟩ = e2 := by unfold rEnd; rw [if_neg (fun h => he h.1)]
                rw [he0, if_neg he] at HV
                clear he0 he hbo
                obtain ⟨s0, s1, sf⟩ := BlkAt.c2 hbr
                go_wp2_with fail
                apply wp_region_calm (R := Fr (eqB (w.heap.size))) (C := fun q W => Fr (eqB (w.heap.size)) w5z W ∧ BlkAt W (w.heap.size + 2) 71 #[.string (mkS b2), .int .i64 e2] ∧ BlkAt W (w.heap.size) 54 (if q = 0 then #[.int .u8 0, .string ⟨#[]⟩, .string ⟨#[]⟩, .int .u8 0, .int .u8 0] else #[.int .u8 0, .string ⟨#[]⟩, .string ⟨#[]⟩, .int .u8 0, .int .u8 0])) [false, false, false, true, false]
                  [eqv _, eqv _, eqv _, anyv, eqv _]
                  (by kernel_rfl) (by kernel_rfl) (fun _ _ _ h1 h2 => h1.then' h2) ((Fr.refl _ _).drew) ⟨(Fr.refl _ _).drew, hbr, hb0⟩ (by kernel_rfl)
                · refine ⟨?_, ?_, ?_, ?_, ?_, trivial⟩
                  · rw [if_neg (by decide)]; intro kq
                    intro a W K hC hd hK
                    refine wpOp_plain rfl rfl ?_
                    go_wp2_with fail
                    exact hK _ _ (Fr.refl _ _) hC rfl
                  · rw [if_neg (by decide)]; intro kq
                    intro a W K hC hd hK
                    have d7 : a.tmps[7]?.getD undef = .pointer (some ⟨w.heap.size + 2, 0, none⟩) := hd 7 (by decide)
                    refine wpOp_plain rfl rfl ?_
                    obtain ⟨x0_0, x0_1, z0⟩ := BlkAt.c2 (hC.2.1)
                    go_wp2_with fail
                    exact hK _ _ (Fr.refl _ _) hC rfl
                  · rw [if_neg (by decide)]; intro kq
                    intro a W K hC hd hK
                    have d105 : _ = _ := hd 105 (by decide)
                    refine wpOp_plain rfl rfl ?_
                    obtain ⟨x0_0, x0_1, z0⟩ := BlkAt.c2 (hC.2.1)
                    go_wp2_with fail
                    exact hK _ _ (Fr.refl _ _) hC rfl
                  · rw [if_pos (by decide)]
                    intro a W K hC hd hK
                    replace hC : (fun q W => Fr (eqB (w.heap.size)) w5z W ∧ BlkAt W (w.heap.size + 2) 71 #[.string (mkS b2), .int .i64 e2] ∧ BlkAt W (w.heap.size) 54 (if q = 0 then #[.int .u8 0, .string ⟨#[]⟩, .string ⟨#[]⟩, .int .u8 0, .int .u8 0] else #[.int .u8 0, .string ⟨#[]⟩, .string ⟨#[]⟩, .int .u8 0, .int .u8 0])) 0 W := hC
                    have d2 : a.tmps[2]?.getD undef = .pointer (some ⟨w.heap.size, 0, none⟩) := hd 2 (by decide)
                    have d104 : _ = _ := hd 104 (by decide)
                    refine wpOp_plain rfl rfl ?_
                    obtain ⟨x0_0, x0_1, z0⟩ := BlkAt.c2 (hC.2.1)
                    have hz0 : BlkAt W (w.heap.size) 54 #[.int .u8 0, .string ⟨#[]⟩, .string ⟨#[]⟩, .int .u8 0, .int .u8 0] := hC.2.2
                    obtain ⟨b0_0, b0_1, b0_2, b0_3, b0_4, zz0⟩ := BlkAt.c5 hz0
                    have fs : Fr (eqB (w.heap.size)) W (((((W.setCell ⟨w.heap.size, 0, none⟩ (.int .u8 0)).setCell ⟨w.heap.size, 1, none⟩ (.string ⟨#[]⟩)).setCell ⟨w.heap.size, 2, none⟩ (.string ⟨#[]⟩)).setCell ⟨w.heap.size, 3, none⟩ (.int .u8 0)).setCell ⟨w.heap.size, 4, none⟩ (.int .u8 0)) := ((((((Fr.refl (eqB (w.heap.size)) W)).setCell (p := ⟨w.heap.size, 0, none⟩) (Or.inl rfl) (.int .u8 0)).setCell (p := ⟨w.heap.size, 1, none⟩) (Or.inl rfl) (.string ⟨#[]⟩)).setCell (p := ⟨w.heap.size, 2, none⟩) (Or.inl rfl) (.string ⟨#[]⟩)).setCell (p := ⟨w.heap.size, 3, none⟩) (Or.inl rfl) (.int .u8 0)).setCell (p := ⟨w.heap.size, 4, none⟩) (Or.inl rfl) (.int .u8 0)
                    have hn0 : BlkAt (((((W.setCell ⟨w.heap.size, 0, none⟩ (.int .u8 0)).setCell ⟨w.heap.size, 1, none⟩ (.string ⟨#[]⟩)).setCell ⟨w.heap.size, 2, none⟩ (.string ⟨#[]⟩)).setCell ⟨w.heap.size, 3, none⟩ (.int .u8 0)).setCell ⟨w.heap.size, 4, none⟩ (.int .u8 0)) (w.heap.size) 54 #[.int .u8 0, .string ⟨#[]⟩, .string ⟨#[]⟩, .int .u8 0, .int .u8 0] := (((((hz0).set 0 (.int .u8 0)).set 1 (.string ⟨#[]⟩)).set 2 (.string ⟨#[]⟩)).set 3 (.int .u8 0)).set 4 (.int .u8 0)
                    go_wp2_with fail
                    exact hK undef _ fs ⟨hC.1.then' fs, (hC.2.1).fr fs (by unfold eqB; omega), hn0⟩ trivial
                  · rw [if_neg (by decide)]; intro kq
                    exact calm_mv 106 rfl rfl (Or.inr rfl) (Fr.refl _) (by decide) fun v w hd => hd
                · intro vs w5zd fw5zd cw5zd hV
                  have v104 : vs 0 = _ := hV 0 _ _ rfl rfl (by decide)
                  have v105 : vs 1 = _ := hV 1 _ _ rfl rfl (by decide)
                  have v106 : vs 2 = _ := hV 2 _ _ rfl rfl (by decide)
                  have v3 : vs 4 = _ := hV 4 _ _ rfl rfl (by decide)
                  clear hV
                  replace hbr : BlkAt w5zd (w.heap.size + 2) 71 #[.string (mkS b2), .int .i64 e2] := cw5zd.2.1
                  replace hb0 : BlkAt w5zd (w.heap.size) 54 #[.int .u8 0, .string ⟨#[]⟩, .string ⟨#[]⟩, .int .u8 0, .int .u8 0] := cw5zd.2.2
                  replace f0 := f0.trans fw5zd (fun i hi h => by unfold eqB at h; omega)
                  clear cw5zd
                  simp only [putL, Act.put, Nat.reduceAdd, List.setIfInBounds_toArray, List.set_cons_zero, List.set_cons_succ, v104, v105, v106, v3]
                  obtain ⟨y0, y1, y2, y3, y4, yf⟩ := BlkAt.c5 hb0
                  go_wp2_with fail
                  have hr := hr.out
                  exact bodyPost_ret (v := .tuple #[zeroOp.v, .int .i64 e2]) (by simp [results, hr, go_sem, zeroOp, OpV.v, y0, y1, y2, y3, y4]) rfl ⟨by rw [HV.out] <;> rfl, f0⟩
end Go.Proofs.YtdngcheimohamaaDoor
/- interrexlaw01.put: an item is written, by both. -/
namespace Go.Proofs.YtdngcheimohamaaDoor
open Go.RowKit

/-- An item's bytes. -/
def Item.bytes (i : Item) : List UInt8 :=
  match i.k % 9 with
  | 0 => leB 1 i.x
  | 1 => leB 2 i.x
  | 2 => leB 4 i.x
  | 3 => leB 8 i.x
  | 4 => leB 1 (if i.is then 1 else 0)
  | 5 => textB i.s
  | 6 => rowB i.L
  | 7 => i.s.data.toList
  | _ => []

theorem leB_mod (n x : Nat) : leB n (x % 256 ^ n) = leB n x := by
  induction n generalizing x with
  | zero => rfl
  | succ n ih =>
    have h1 : UInt8.ofNat (x % 256 ^ (n + 1)) = UInt8.ofNat x := by
      apply UInt8.toNat_inj.1
      simp only [UInt8.toNat_ofNat']
      rw [Nat.pow_succ, Nat.mul_comm, Nat.mod_mul_right_mod]
    have h2 : x % 256 ^ (n + 1) / 256 = (x / 256) % 256 ^ n := by
      rw [Nat.pow_succ, Nat.mul_comm, Nat.mod_mul_right_div_self]
    simp only [leB]
    rw [h1, h2, ih]

theorem u16_wrap (x : Nat) : IntKind.u16.wrap (x : Int) = ((x % 65536 : Nat) : Int) := by simp [IntKind.wrap, IntKind.signed, IntKind.bits]
def PutPost (w : World) (S : Nat → Prop) (p : Nat) (bs xs : List UInt8) (e : Ending) (w' : World) : Prop :=
  e = .returned (.tuple #[.pointer (some ⟨p, 0, none⟩), .string (mkS xs)]) ∧ WrAt w' (andNew S w) p (bs ++ xs) ∧ Fr S w w'

/-- The blocks of S that are there. -/
def cutB (S : Nat → Prop) (w : World) : Nat → Prop := fun k => S k ∧ k < w.heap.size
theorem WrAt.cut {w : World} {S : Nat → Prop} {p : Nat} {bs : List UInt8} (h : WrAt w S p bs) : WrAt w (cutB S w) p bs := h.mono fun _ hk hs => ⟨hs, hk⟩
theorem WrAt.drew {w : World} {S : Nat → Prop} {p : Nat} {bs : List UInt8} (h : WrAt w S p bs) : WrAt w.drew S p bs := h.fr ((Fr.refl noB _).drew) (fun _ _ _ => id)
/-- A []byte that was made from a text since wa. -/
def RowIn (wa : World) (n : Nat) (R : World → World → Prop) (hR : ∀ a b, R a b → a.heap.size ≤ b.heap.size) : Stb R :=
  ⟨fun v w => ∃ g c, v = .slice (some ⟨g, 0, none⟩) n c ∧ wa.heap.size ≤ g ∧ g < w.heap.size, fun _ _ _ ⟨g, c, e, h1, h2⟩ f => ⟨g, c, e, h1, Nat.lt_of_lt_of_le h2 (hR _ _ f)⟩⟩
/-- What a region with one such text has besides, ahead of the call that takes it. -/
def RawC (wa : World) (xs : List UInt8) (k : Nat) (w' : World) : Prop := k = 0 → ∀ g, wa.heap.size ≤ g → g < w'.heap.size → RowAt w' (some ⟨g, 0, none⟩) (bcells xs)
theorem RawC.bytes {wa w : World} {s : ByteArray} {k : Nat} (h : RawC wa s.data.toList k w) : RawC wa s.data.toList k (Lib.bytesWorld w 5 s) := fun hk g h1 h2 => by
  by_cases e : g < w.heap.size
  · exact (h hk g h1 e).fr0 (bytesW_fr w s)
  · rw [Lib.bytesWorld_size] at h2
    have : g = w.heap.size := by omega
    subst this
    exact bytesW_row w s
/-- A Writer at p in a region: bs, and xs once its call has come up; the box at b keeps its cells. -/
def PutC (U : Nat → Prop) (wa : World) (p : Nat) (bs xs : List UInt8) (k : Nat) (w' : World) : Prop := WrAt w' U p (if k = 0 then bs else bs ++ xs) ∧ Fr U wa w'
theorem PutC.ref {U : Nat → Prop} {wa : World} {p : Nat} {bs xs : List UInt8} {k : Nat} {w w' : World} (h : PutC U wa p bs xs k w) (f : Fr noB w w') : PutC U wa p bs xs k w' :=
  ⟨h.1.fr f (fun _ _ _ => id), h.2.then' (f.mono fun _ _ h => h.elim)⟩
theorem PutC.wr {S : Nat → Prop} {wa : World} {p : Nat} {bs xs : List UInt8} {w w' : World} (h : PutC (andNew S wa) wa p bs xs 0 w) (h1 : WrAt w' (andNew (andNew S wa) w) p (bs ++ xs)) (f : Fr (andNew S wa) w w') : PutC (andNew S wa) wa p bs xs 1 w' :=
  ⟨h1.mono (fun i _ hi => hi.elim id fun q => Or.inr (by have := h.2.size; omega)), h.2.then' f⟩

theorem sumSz_50 {l : List ByteArray} (h1 : l.length ≤ 10) (h2 : ∀ s ∈ l, s.size ≤ 50) : sumSz l ≤ 520 := by
  have : ∀ l : List ByteArray, (∀ s ∈ l, s.size ≤ 50) → sumSz l ≤ 52 * l.length := by
    intro l
    induction l with
    | nil => simp [sumSz]
    | cons s l ih =>
      intro h
      have := ih fun s hs => h s (List.mem_cons_of_mem _ hs)
      have := h s (List.mem_cons_self ..)
      simp only [sumSz, List.map_cons, List.sum_cons, List.length_cons] at *
      omega
  have := this l h2
  omega

end Go.Proofs.YtdngcheimohamaaDoor
/- A Writer's blocks, as a function of the world: a relation for regions with many writes. -/
namespace Go.Proofs.YtdngcheimohamaaDoor
open Go.RowKit

/-- The blocks of the Writer at p. -/
def footW (p : Nat) (w : World) (k : Nat) : Prop := k = p ∨ ∃ v T, w.heap[p]? = some (.cells #[v] T (0, 0)) ∧ v.ownBlock = some k
/-- Only the Writer's blocks were turned, and new ones. -/
structure RW (p : Nat) (w w' : World) : Prop where
  fr : Fr (footW p w) w w'
  foot : ∀ k, footW p w' k → footW p w k ∨ w.heap.size ≤ k
theorem WrAt.foot {w : World} {S : Nat → Prop} {p : Nat} {bs : List UInt8} (h : WrAt w S p bs) : WrAt w (footW p w) p bs := by
  obtain ⟨A, c, ty, h1, h2, h3, h4, h5⟩ := h.ex
  exact ⟨A, c, ty, h1, h2, h3, Or.inl rfl, fun k hk => Or.inr ⟨_, _, h2, hk⟩⟩
theorem WrAt.foot_le {w : World} {S : Nat → Prop} {p : Nat} {bs : List UInt8} (h : WrAt w S p bs) {k : Nat} (hk : footW p w k) : S k := by
  obtain ⟨A, c, ty, h1, h2, h3, h4, h5⟩ := h.ex
  rcases hk with rfl | ⟨v, T, e1, e2⟩
  · exact h4
  · rw [h2] at e1
    injection e1 with e1
    injection e1 with e1 _ _
    have : v = .slice A bs.length c := by simpa using e1.symm
    subst this
    exact h5 k e2
theorem WrAt.foot_lt {w : World} {S : Nat → Prop} {p : Nat} {bs : List UInt8} (h : WrAt w S p bs) {k : Nat} (hk : footW p w k) : k < w.heap.size :=
  (h.cut.foot_le hk).2
theorem RW.refl (p : Nat) (w : World) : RW p w w := ⟨Fr.refl _ _, fun _ h => Or.inl h⟩
theorem RW.trans {p : Nat} {a b c : World} (h : RW p a b) (k : RW p b c) : RW p a c :=
  ⟨h.fr.trans k.fr fun i hi hf => (h.foot i hf).elim id fun h => by omega,
   fun i hi => (k.foot i hi).elim (fun h' => h.foot i h') fun h' => Or.inr (Nat.le_trans h.fr.size h')⟩
theorem RW.drew (p : Nat) (w : World) : RW p w w.drew := ⟨(Fr.refl _ _).drew, fun _ h => Or.inl h⟩
theorem RW.wr {p : Nat} {w w' : World} {bs : List UInt8} (h : WrAt w' (andNew (footW p w) w) p bs) (f : Fr (footW p w) w w') : RW p w w' := ⟨f, fun _ hk => h.foot_le hk⟩
theorem RW.quiet {p : Nat} {w w' : World} {S : Nat → Prop} {bs : List UInt8} (h : WrAt w S p bs) (f : Fr noB w w') : RW p w w' :=
  ⟨f.mono fun _ _ h => h.elim, fun _ hk => Or.inl ((h.foot.fr f fun _ _ _ => id).foot_le hk)⟩
/-- A []byte in a block that is not the Writer's. -/
def OutV (p : Nat) (bs : List UInt8) : Stb (RW p) :=
  ⟨fun v w => ∃ g c, v = .slice (some ⟨g, 0, none⟩) bs.length c ∧ g < w.heap.size ∧ ¬ footW p w g ∧ RowAt w (some ⟨g, 0, none⟩) (bcells bs),
   fun _ _ _ ⟨g, c, e, h1, h2, h3⟩ f => ⟨g, c, e, Nat.lt_of_lt_of_le h1 f.fr.size, fun h => (f.foot g h).elim h2 (fun h => by omega), h3.fr f.fr (fun a e _ _ hf => by cases e; exact h2 hf)⟩⟩
/-- A chain of writes: q of the parts are written. -/
def BackC (p : Nat) (wa : World) (bs : List UInt8) (P : List (List UInt8)) (q : Nat) (W : World) : Prop := RW p wa W ∧ WrAt W (footW p W) p (bs ++ (P.take q).flatten)
theorem BackC.step {p : Nat} {wa W w' : World} {bs x : List UInt8} {P : List (List UInt8)} {q : Nat} (h : BackC p wa bs P q W) (hq : P[q]? = some x) (h1 : WrAt w' (andNew (footW p W) W) p (bs ++ (P.take q).flatten ++ x)) (f1 : Fr (footW p W) W w') :
    RW p W w' ∧ BackC p wa bs P (q + 1) w' := by
  have r := RW.wr h1 f1
  refine ⟨r, h.1.trans r, ?_⟩
  have e : (P.take (q + 1)).flatten = (P.take q).flatten ++ x := by rw [take_snoc' hq, List.flatten_append]; simp
  rw [e, ← List.append_assoc]
  exact h1.foot
theorem BackC.quiet {p : Nat} {wa W w' : World} {bs : List UInt8} {P : List (List UInt8)} {q : Nat} (h : BackC p wa bs P q W) (f : Fr noB W w') : RW p W w' ∧ BackC p wa bs P q w' :=
  ⟨RW.quiet h.2 f, h.1.trans (RW.quiet h.2 f), (h.2.fr f fun _ _ _ => id).foot⟩
theorem BackC.start {p : Nat} {w : World} {S : Nat → Prop} {bs : List UInt8} {P : List (List UInt8)} (h : WrAt w S p bs) : BackC p w bs P 0 w.drew := ⟨RW.drew _ _, by
  rw [List.take_zero, List.flatten_nil, List.append_nil]; exact h.drew.foot⟩
theorem parts_length (P : List (List UInt8)) (q : Nat) : (P.take q).flatten.length ≤ P.flatten.length := by
  have h : P.flatten = (P.take q).flatten ++ (P.drop q).flatten := by rw [← List.flatten_append, List.take_append_drop]
  rw [h, List.length_append]; omega
/-- All of an item, as OctetBack writes it. -/
def Item.parts (i : Item) : List (List UInt8) := [leB 1 i.k, leB 2 i.x, leB 4 i.x, leB 8 i.x, leB 1 (if i.is then 1 else 0), textB i.s, rowB i.L, i.s.data.toList]
def Item.all (i : Item) : List UInt8 := i.parts.flatten
def allB (l : List Item) : List UInt8 := l.flatMap Item.all
end Go.Proofs.YtdngcheimohamaaDoor
/- What is written is read: plain laws. -/
namespace Go.Proofs.YtdngcheimohamaaDoor
open Go.RowKit

theorem leV_leB (n x : Nat) : leV (leB n x) = x % 256 ^ n := by
  induction n generalizing x with
  | zero => simp [leB, leV, Nat.mod_one]
  | succ n ih =>
    simp only [leB, leV, ih]
    rw [show (UInt8.ofNat x).toNat = x % 256 from by simp, Nat.pow_succ, Nat.mul_comm (256 ^ n) 256, Nat.mod_mul]
theorem rTake_app (xs ys : List UInt8) (e n : Nat) (hn : xs.length = n) : rTake ⟨xs ++ ys, e⟩ n = (⟨ys, e⟩, xs) := by
  subst hn
  unfold rTake
  rw [if_neg (by simp)]
  simp
theorem rNum_app (n x : Nat) (ys : List UInt8) : rNum ⟨leB n x ++ ys, 0⟩ n = (⟨ys, 0⟩, x % 256 ^ n) := by
  unfold rNum
  rw [rTake_app _ _ _ _ (leB_length n x), leV_leB]
theorem rTruth_app (b : Bool) (ys : List UInt8) (t : Nat) (ht : t = if b then 1 else 0) : rTruth ⟨leB 1 t ++ ys, 0⟩ = (⟨ys, 0⟩, b) := by
  unfold rTruth
  rw [rNum_app]
  cases b <;> simp at ht <;> subst ht <;> simp
theorem rCount_app (n : Nat) (ys : List UInt8) (most : Int) (hn : n < 65536) (hm : (n : Int) ≤ most) : rCount ⟨leB 2 n ++ ys, 0⟩ most = (⟨ys, 0⟩, n) := by
  unfold rCount
  rw [rNum_app, Nat.mod_eq_of_lt (by simpa using hn), if_neg (by simp only; omega)]
theorem rText_app (s : ByteArray) (ys : List UInt8) (most : Int) (h1 : s.size ≤ 65535) (h2 : (s.size : Int) ≤ most) : rText ⟨textB s ++ ys, 0⟩ most = (⟨ys, 0⟩, s.data.toList) := by
  have hs : s.data.toList.length = s.size := by simp
  unfold rText textB
  rw [Nat.min_eq_left h1, List.take_of_length_le (by omega), List.append_assoc, rCount_app _ _ _ (by omega) h2, rTake_app _ _ _ _ hs]
theorem rTexts_app (long : Int) (ys : List UInt8) : ∀ (M : List ByteArray), (∀ s ∈ M, s.size ≤ 65535 ∧ (s.size : Int) ≤ long) → ∀ k, k ≤ M.length → rTexts ⟨M.flatMap textB ++ ys, 0⟩ long k = (⟨(M.drop k).flatMap textB ++ ys, 0⟩, M.take k) := by
  intro M hM k
  induction k with
  | zero => intro _; simp [rTexts]
  | succ k ih =>
    intro hk
    have hk' : k < M.length := by omega
    have hd : M.drop k = M[k] :: M.drop (k + 1) := List.drop_eq_getElem_cons hk'
    have hm := hM M[k] (List.getElem_mem hk')
    unfold rTexts
    rw [ih (by omega), hd, List.flatMap_cons, List.append_assoc, rText_app _ _ _ hm.1 hm.2]
    simp only [mkS_of]
    rw [List.take_succ_eq_append_getElem hk']
theorem rRow_app (L : List ByteArray) (ys : List UInt8) (most long : Int) (h1 : L.length ≤ 65535) (h2 : (L.length : Int) ≤ most) (h3 : ∀ s ∈ L, s.size ≤ 65535 ∧ (s.size : Int) ≤ long) : rRow ⟨rowB L ++ ys, 0⟩ most long = (⟨ys, 0⟩, L) := by
  unfold rRow rowB
  rw [Nat.min_eq_left h1, List.take_of_length_le h1, List.append_assoc, rCount_app _ _ _ (by omega) h2, rTexts_app long ys L h3 _ (Nat.le_refl _)]
  simp
theorem rRaw_app (s : ByteArray) (ys : List UInt8) : rTake ⟨s.data.toList ++ ys, 0⟩ (max 0 (s.size : Int)).toNat = (⟨ys, 0⟩, s.data.toList) := by
  have hs : s.data.toList.length = s.size := by simp
  rw [show (max 0 (s.size : Int)).toNat = s.size by omega]
  exact rTake_app _ _ _ _ hs
/-- A chain of reads: q of the parts are read. -/
def BackR (S : Nat → Prop) (p : Nat) (wa : World) (P : List (List UInt8)) (ys : List UInt8) (q : Nat) (W : World) : Prop := Fr S wa W ∧ RdAt W S p ⟨(P.drop q).flatten ++ ys, 0⟩
theorem BackR.step {S : Nat → Prop} {p : Nat} {wa W w' : World} {P : List (List UInt8)} {ys : List UInt8} {q : Nat} {r : Rd} (h : BackR S p wa P ys q W) (hr : r = ⟨(P.drop (q + 1)).flatten ++ ys, 0⟩) (h1 : RdAt w' S p r) (f1 : Fr S W w') : BackR S p wa P ys (q + 1) w' :=
  ⟨h.1.then' f1, hr ▸ h1⟩
theorem BackR.quiet {S : Nat → Prop} {p : Nat} {wa W w' : World} {P : List (List UInt8)} {ys : List UInt8} {q : Nat} (h : BackR S p wa P ys q W) (f : Fr noB W w') : BackR S p wa P ys q w' :=
  ⟨h.1.then' (f.mono fun _ _ h => h.elim), h.2.fr f (fun _ _ _ => id)⟩
theorem BackR.start {S : Nat → Prop} {p : Nat} {wa : World} {P : List (List UInt8)} {ys zs : List UInt8} (h : RdAt wa S p ⟨zs, 0⟩) (hz : P.flatten ++ ys = zs) : BackR S p wa P ys 0 wa.drew :=
  ⟨(Fr.refl _ _).drew, by rw [List.drop_zero, hz]; exact h.fr ((Fr.refl noB _).drew) (fun _ _ _ => id)⟩
/-- A []string in blocks outside of U. -/
def StrsU (U : Nat → Prop) (ss : List ByteArray) : Stb (Fr U) :=
  ⟨fun v w => ∃ A m c, v = .slice A m c ∧ Hid (ss.length = m) ∧ RowAt w A (strs ss) ∧ (∀ ad, A = some ad → ¬ U ad.block),
   fun _ _ _ ⟨A, m, c, e, hm, h, hb⟩ f => ⟨A, m, c, e, hm, h.fr f (fun ad e _ _ hu => hb ad e hu), hb⟩⟩
def BytsU (U : Nat → Prop) (bs : List UInt8) : Stb (Fr U) :=
  ⟨fun v w => ∃ A m c, v = .slice A m c ∧ bs.length = m ∧ RowAt w A (bcells bs) ∧ (∀ ad, A = some ad → ¬ U ad.block),
   fun _ _ _ ⟨A, m, c, e, hm, h, hb⟩ f => ⟨A, m, c, e, hm, h.fr f (fun ad e _ _ hu => hb ad e hu), hb⟩⟩
theorem allB_snoc {l : List Item} {k : Nat} {i : Item} (h : l[k]? = some i) : allB (l.take (k + 1)) = allB (l.take k) ++ i.all := by
  unfold allB; rw [take_snoc' h, List.flatMap_append]; simp only [List.flatMap_cons, List.flatMap_nil, List.append_nil]
theorem allB_drop {l : List Item} {k : Nat} {i : Item} (h : l[k]? = some i) : allB (l.drop k) = i.all ++ allB (l.drop (k + 1)) := by
  obtain ⟨hk, rfl⟩ := List.getElem?_eq_some_iff.1 h
  unfold allB; rw [List.drop_eq_getElem_cons hk]; simp only [List.flatMap_cons]
theorem Item.all_length {i : Item} (h : i.ok = true) : i.all.length ≤ 2000 := by
  simp only [Item.ok, Bool.and_eq_true, decide_eq_true_eq, List.all_eq_true] at h
  obtain ⟨⟨h1, h2⟩, h3⟩ := h
  have h4 := sumSz_50 h2 h3
  have h5 := textB_length i.s
  have h6 : (rowB i.L).length ≤ sumSz i.L + 2 := by
    unfold rowB
    have := rows_length (i.L.take 65535)
    have := sumSz_take_le i.L 65535
    rw [List.length_append, leB_length]; omega
  have h7 : i.s.data.toList.length = i.s.size := by simp
  simp only [Item.all, Item.parts, List.flatten_cons, List.flatten_nil, List.length_append, List.length_nil, leB_length]
  omega
theorem allB_length (l : List Item) (h : ∀ i ∈ l, i.ok = true) : (allB l).length ≤ 2000 * l.length := by
  induction l with
  | nil => simp [allB]
  | cons i l ih =>
    have h1 := Item.all_length (h i (List.mem_cons_self ..))
    have h2 := ih fun j hj => h j (List.mem_cons_of_mem _ hj)
    simp only [allB, List.flatMap_cons, List.length_append, List.length_cons] at *
    omega
end Go.Proofs.YtdngcheimohamaaDoor
/- Operations: what is written is read, and what is read is written (no program). -/
namespace Go.Proofs.YtdngcheimohamaaDoor
open Go.RowKit

/-! ### readers, turned round -/
theorem leB_leV (xs : List UInt8) : leB xs.length (leV xs) = xs := by
  induction xs with
  | nil => rfl
  | cons b xs ih =>
    simp only [List.length_cons, leB, leV]
    have h1 : UInt8.ofNat (b.toNat + 256 * leV xs) = b := by
      apply UInt8.toNat_inj.1
      simp
    have h2 : (b.toNat + 256 * leV xs) / 256 = leV xs := by have := b.toNat_lt; omega
    rw [h1, h2, ih]
theorem rFail_e (r : Rd) {k : Nat} (hk : k ≠ 0) : (rFail r k).e ≠ 0 := by
  unfold rFail
  split
  · exact hk
  · rename_i h; intro h2; exact h ⟨h2, hk⟩
theorem rTake_ok {r r1 : Rd} {n : Nat} {x : List UInt8} (h : rTake r n = (r1, x)) (h0 : r1.e = 0) : r.e = 0 ∧ r.bs = x ++ r1.bs ∧ x.length = n := by
  unfold rTake at h
  split at h
  · cases h; exact absurd h0 (rFail_e r (by decide))
  · cases h; exact ⟨h0, (List.take_append_drop n r.bs).symm, by simp only [List.length_take]; omega⟩
theorem rNum_ok {r r1 : Rd} {n v : Nat} (h : rNum r n = (r1, v)) (h0 : r1.e = 0) : r.e = 0 ∧ r.bs = leB n v ++ r1.bs ∧ v < 256 ^ n := by
  have hl := rNum_lt r n
  unfold rNum at h
  cases hq : rTake r n with
  | mk q x =>
    rw [hq] at h
    cases h
    obtain ⟨h1, h2, h3⟩ := rTake_ok hq h0
    refine ⟨h1, ?_, by rw [← h3]; exact leV_lt x⟩
    rw [← h3, leB_leV]; exact h2
theorem rCount_ok {r r1 : Rd} {most : Int} {v : Nat} (h : rCount r most = (r1, v)) (h0 : r1.e = 0) : r.e = 0 ∧ r.bs = leB 2 v ++ r1.bs ∧ v < 65536 ∧ (v : Int) ≤ max 0 most := by
  unfold rCount at h
  split at h
  · cases h; exact absurd h0 (rFail_e _ (by decide))
  · rename_i hn
    obtain ⟨h1, h2, h3⟩ := rNum_ok h h0
    refine ⟨h1, h2, h3, ?_⟩
    rw [h] at hn; simp only [] at hn; omega
theorem rText_ok {r r1 : Rd} {most : Int} {x : List UInt8} (h : rText r most = (r1, x)) (h0 : r1.e = 0) : r.e = 0 ∧ r.bs = textB (mkS x) ++ r1.bs ∧ x.length < 65536 ∧ (x.length : Int) ≤ max 0 most := by
  unfold rText at h
  cases hq : rCount r most with
  | mk q v =>
    rw [hq] at h
    obtain ⟨h1, h2, h3⟩ := rTake_ok h h0
    obtain ⟨g1, g2, g3, g4⟩ := rCount_ok hq h1
    simp only [] at h2 h3
    refine ⟨g1, ?_, by omega, by rw [h3]; exact g4⟩
    rw [g2, h2]
    unfold textB
    rw [mkS_size, mkS_data, h3, Nat.min_eq_left (by omega), List.take_of_length_le (by omega), List.append_assoc]
theorem rEnd_zero {r : Rd} (h : rEnd r = 0) : r.e = 0 ∧ r.bs = [] := by
  unfold rEnd at h
  split at h
  · cases h
  · rename_i h2
    refine ⟨h, ?_⟩
    rcases hb : r.bs with _ | ⟨b, l⟩
    · rfl
    · exact absurd ⟨h, by rw [hb]; simp⟩ h2
theorem rdSign_ok {o o' : OpV} {r r' : Rd} {c : UInt8} (h : rdSign (o, r) c = (o', r')) (h0 : r'.e = 0) : rdPart o r c = (o', r') ∧ rightV o' c = true := by
  unfold rdSign at h
  cases hq : rdPart o r c with
  | mk p q =>
    rw [hq] at h
    simp only [] at h
    cases hr : rightV p c
    · by_cases he : q.e = 0
      · rw [if_pos ⟨he, hr⟩] at h; cases h; exact absurd h0 (rFail_e _ (by decide))
      · rw [if_neg (fun h => he h.1)] at h; cases h; exact absurd h0 he
    · rw [if_neg (by rw [hr]; simp)] at h; cases h; exact ⟨rfl, hr⟩
/-! ### texts and forms -/
theorem zOf_of {k : Nat} {o : OpV} {z : List UInt8} (hk : o.k = k) (hz : signsL[k]? = some z) : zOf o = z := by
  unfold zOf; rw [hk, List.getD_eq_getElem?_getD, hz]; rfl
theorem textO_eq {o : OpV} (hk : o.k < 17) (ha : o.a.size ≤ 65535) (hb : o.b.size ≤ 65535) : textO o = writeB o (zOf o) := by
  have hz := zOf_get hk
  unfold textO writeB
  rw [textR_eq ha, textR_eq hb]
  rcases parts_signs hz with ⟨h1, h2⟩ | ⟨h1, h2⟩ | ⟨h1, h2⟩ | ⟨h1, h2⟩
  · rw [h1, h2, if_pos (by decide), if_pos rfl, if_neg (by decide)]
    simp [signB]
  · rw [h1, h2, if_pos (by decide), if_neg (by decide), if_neg (by decide)]
    simp [signB]
  · rw [h1, h2, if_neg (by decide), if_neg (by decide), if_neg (by decide)]
    simp
  · rw [h1, h2, if_neg (by decide), if_neg (by decide), if_pos (by decide)]
    simp [signB]
open Classical in
theorem bareB_iff {o : OpV} (hk : o.k < 17) : bareB o = true ↔ badR o = false := by
  have hz := zOf_get hk
  unfold bareB badR
  rw [decide_eq_true_eq, OpV.eq_iff]
  rcases parts_signs hz with ⟨h1, h2⟩ | ⟨h1, h2⟩ | ⟨h1, h2⟩ | ⟨h1, h2⟩
  all_goals
    rw [h1, h2]
    simp [bareFrom, setS, and_assoc]
theorem right_iff {o : OpV} (hk : o.k < 17) : (zOf o).all (rightV o) = true ↔ bad2R o = false := by
  have hz := zOf_get hk
  unfold bad2R
  rcases parts_signs hz with ⟨h1, h2⟩ | ⟨h1, h2⟩ | ⟨h1, h2⟩ | ⟨h1, h2⟩
  all_goals
    rw [h1, h2]
    simp [rightV]
  omega
theorem bare_len {o : OpV} (hk : o.k < 17) (hb : bareB o = true) : o.a.size + o.b.size ≤ 64 ∨ 64 < (textO o).length := by
  have hz := zOf_get hk
  rw [bareB_iff hk] at hb
  unfold badR at hb
  unfold textO
  have e0 : (⟨#[]⟩ : ByteArray).size = 0 := rfl
  rcases parts_signs hz with ⟨h1, h2⟩ | ⟨h1, h2⟩ | ⟨h1, h2⟩ | ⟨h1, h2⟩
  all_goals
    rw [h1] at hb ⊢
    simp at hb ⊢
    simp only [List.length_append, textR_length, leB_length]
  · omega
  · rw [hb.1, e0]; omega
  · rw [hb.1.1, hb.1.2, e0]; omega
  · rw [hb.1, hb.2, e0]; omega
theorem check_eq (o : OpV) : checkR o = checkV o := by
  unfold checkR checkV
  by_cases h17 : 17 ≤ o.k
  · rw [if_pos h17, if_pos h17]
  · rw [if_neg h17, if_neg h17]
    have hk : o.k < 17 := by omega
    have h1 := bareB_iff hk
    have h2 := right_iff hk
    cases hb : bareB o
    · have : badR o = true := by cases h : badR o; rw [h1.2 h] at hb; cases hb; rfl
      rw [if_pos this, if_pos rfl]
    · have hbr := h1.1 hb
      simp only [hbr, Bool.false_eq_true, Bool.true_eq_false, if_false]
      cases hr : (zOf o).all (rightV o)
      · have : bad2R o = true := by cases h : bad2R o; rw [h2.2 h] at hr; cases hr; rfl
        rw [if_pos this, if_pos rfl]
      · have hrr := h2.1 hr
        simp only [hrr, Bool.false_eq_true, Bool.true_eq_false, if_false]
        rcases bare_len hk hb with h | h
        · rw [textO_eq hk (by omega) (by omega), if_neg (by omega : ¬ 64 < o.a.size + o.b.size)]
          by_cases h3 : 64 < (writeB o (zOf o)).length
          · rw [if_pos (Or.inr (Or.inr h3)), if_pos h3]
          · rw [if_neg (by omega), if_neg h3]
        · rw [if_pos (Or.inr (Or.inr h))]
          by_cases h3 : 64 < o.a.size + o.b.size
          · rw [if_pos h3]
          · rw [if_neg h3, if_pos (by rw [← textO_eq hk (by omega) (by omega)]; exact h)]
/-! ### there and back -/
theorem opRead_write {o : OpV} (hw : o.wf) (h : checkV o = 0) : opRead (writeB o (zOf o)) = (o, 0) := by
  obtain ⟨hk, hb, hr, hab, hl⟩ := checkV_ok h
  have hz := zOf_get hk
  obtain ⟨k, a, b, n, q⟩ := o
  obtain ⟨w1, w2, w3⟩ := hw
  simp only [] at *
  rw [bareB_iff hk] at hb
  rw [right_iff hk] at hr
  unfold badR at hb
  unfold bad2R at hr
  have hc : UInt8.toNat (UInt8.ofNat k) = k := by simp; omega
  have hz' : signsL[(UInt8.ofNat k).toNat]? = some (zOf ⟨k, a, b, n, q⟩) := by rw [hc]; exact hz
  have hcons : ∀ l, leB 1 k ++ l = UInt8.ofNat k :: l := fun l => rfl
  have hn := rNum_app 1 n
  have hq := rNum_app 1 q
  have ha := fun ys => rText_app a ys 65535 (by omega) (by omega)
  have hbb := fun ys => rText_app b ys 65535 (by omega) (by omega)
  have m1 : n % 256 ^ 1 = n := by omega
  have m2 : q % 256 ^ 1 = q := by omega
  rw [m1] at hn
  rw [m2] at hq
  have hrd : ∀ l, writeB ⟨k, a, b, n, q⟩ (zOf ⟨k, a, b, n, q⟩) = leB 1 k ++ l → ∀ s : OpV × Rd, (zOf ⟨k, a, b, n, q⟩).foldl rdSign (⟨k, ⟨#[]⟩, ⟨#[]⟩, 0, 0⟩, ⟨l, 0⟩) = (⟨k, a, b, n, q⟩, ⟨[], 0⟩) → opRead (writeB ⟨k, a, b, n, q⟩ (zOf ⟨k, a, b, n, q⟩)) = (⟨k, a, b, n, q⟩, 0) := by
    intro l hl2 _ hf
    rw [hl2, hcons, opRead_cons (by rw [← hcons, ← hl2]; omega) hz', hc, hf]
    rfl
  have am : mkS a.data.toList = a := mkS_of a
  have bm : mkS b.data.toList = b := mkS_of b
  rcases parts_signs hz with ⟨h1, h2⟩ | ⟨h1, h2⟩ | ⟨h1, h2⟩ | ⟨h1, h2⟩
  · rw [h1] at hb hr
    simp at hb
    obtain ⟨rfl, rfl⟩ := hb
    refine hrd (textB a ++ textB b) (by rw [h2]; simp [writeB, signB]) (⟨k, a, b, 0, 0⟩, ⟨[], 0⟩) ?_
    rw [h2]
    have e1 : rdSign (⟨k, ⟨#[]⟩, ⟨#[]⟩, 0, 0⟩, ⟨textB a ++ textB b, 0⟩) 97 = (⟨k, a, ⟨#[]⟩, 0, 0⟩, ⟨textB b, 0⟩) := rdSign_keep (by unfold rdPart; rw [if_pos rfl, ha, am]) (Or.inr rfl)
    have e2 : rdSign (⟨k, a, ⟨#[]⟩, 0, 0⟩, ⟨textB b, 0⟩) 98 = (⟨k, a, b, 0, 0⟩, ⟨[], 0⟩) := rdSign_keep (by have := hbb []; rw [List.append_nil] at this; unfold rdPart; rw [if_neg (by decide), if_pos rfl, this, bm]) (Or.inr rfl)
    rw [List.foldl_cons, e1, List.foldl_cons, e2]; rfl
  · rw [h1] at hb hr
    simp at hb
    obtain ⟨rfl, rfl, rfl⟩ := hb
    refine hrd (textB a) (by rw [h2]; simp [writeB, signB]) (⟨k, a, ⟨#[]⟩, 0, 0⟩, ⟨[], 0⟩) ?_
    rw [h2]
    have e1 : rdSign (⟨k, ⟨#[]⟩, ⟨#[]⟩, 0, 0⟩, ⟨textB a, 0⟩) 97 = (⟨k, a, ⟨#[]⟩, 0, 0⟩, ⟨[], 0⟩) := rdSign_keep (by have := ha []; rw [List.append_nil] at this; unfold rdPart; rw [if_pos rfl, this, am]) (Or.inr rfl)
    rw [List.foldl_cons, e1]; rfl
  · rw [h1] at hb hr
    simp at hb
    obtain ⟨⟨rfl, rfl⟩, rfl, rfl⟩ := hb
    exact hrd [] (by rw [h2]; simp [writeB]) (⟨k, ⟨#[]⟩, ⟨#[]⟩, 0, 0⟩, ⟨[], 0⟩) (by rw [h2]; rfl)
  · rw [h1] at hb hr
    simp at hb hr
    obtain ⟨rfl, rfl⟩ := hb
    refine hrd (leB 1 n ++ leB 1 q) (by rw [h2]; simp [writeB, signB]) (⟨k, ⟨#[]⟩, ⟨#[]⟩, n, q⟩, ⟨[], 0⟩) ?_
    rw [h2]
    have e1 : rdSign (⟨k, ⟨#[]⟩, ⟨#[]⟩, 0, 0⟩, ⟨leB 1 n ++ leB 1 q, 0⟩) 110 = (⟨k, ⟨#[]⟩, ⟨#[]⟩, n, 0⟩, ⟨leB 1 q, 0⟩) := rdSign_keep (by unfold rdPart; rw [if_neg (by decide), if_neg (by decide), if_pos rfl, hn]) (Or.inr (by unfold rightV; rw [if_pos rfl]; exact decide_eq_true (by simp only []; omega)))
    have e2 : rdSign (⟨k, ⟨#[]⟩, ⟨#[]⟩, n, 0⟩, ⟨leB 1 q, 0⟩) 114 = (⟨k, ⟨#[]⟩, ⟨#[]⟩, n, q⟩, ⟨[], 0⟩) := rdSign_keep (by have := hq []; rw [List.append_nil] at this; unfold rdPart; rw [if_neg (by decide), if_neg (by decide), if_neg (by decide), if_pos rfl, this]) (Or.inr (by unfold rightV; rw [if_neg (by decide), if_pos rfl, Bool.and_eq_true]; exact ⟨decide_eq_true (by simp only []; omega), decide_eq_true (by simp only []; omega)⟩))
    rw [List.foldl_cons, e1, List.foldl_cons, e2]; rfl
theorem opRead_ok {bs : List UInt8} {o : OpV} (h : opRead bs = (o, 0)) : o.wf ∧ checkV o = 0 ∧ writeB o (zOf o) = bs ∧ o.a.size + o.b.size ≤ 64 := by
  have h64 : ¬ 64 < bs.length := fun h2 => by rw [opRead_long h2] at h; cases h
  cases bs with
  | nil => rw [opRead_nil] at h; cases h
  | cons c t =>
    have hk : c.toNat < 17 := by
      refine Classical.byContradiction fun h2 => ?_
      rw [opRead_kind h64 (by omega)] at h; cases h
    obtain ⟨z, hz⟩ : ∃ z, signsL[c.toNat]? = some z := ⟨_, List.getElem?_eq_getElem (by simp [signsL]; omega)⟩
    rw [opRead_cons h64 hz] at h
    split at h
    · rename_i h0
      obtain ⟨he, hbs⟩ := rEnd_zero h0
      have hc0 : ∀ l, leB 1 c.toNat ++ l = c :: l := fun l => by simp [leB]
      have hfin : ∀ (o : OpV), o.k = c.toNat → o.n < 256 → o.r < 256 → writeB o z = c :: t → badR o = false → bad2R o = false → o.a.size + o.b.size ≤ 64 → o.wf ∧ checkV o = 0 ∧ writeB o (zOf o) = c :: t ∧ o.a.size + o.b.size ≤ 64 := by
        intro o k0 k1 k2 k3 k4 k5 k6
        have hk' : o.k < 17 := by omega
        have hzo := zOf_of k0 hz
        refine ⟨⟨by omega, k1, k2⟩, ?_, by rw [hzo]; exact k3, k6⟩
        unfold checkV
        rw [if_neg (by omega), if_neg (by rw [(bareB_iff hk').2 k4]; decide), if_neg (by rw [(right_iff hk').2 k5]; decide), if_neg (by omega), hzo, k3, if_neg h64]
      rcases parts_signs hz with ⟨h1, rfl⟩ | ⟨h1, rfl⟩ | ⟨h1, rfl⟩ | ⟨h1, rfl⟩
      · simp only [List.foldl_cons, List.foldl_nil] at h he hbs
        cases h2 : rdSign (⟨c.toNat, ⟨#[]⟩, ⟨#[]⟩, 0, 0⟩, ⟨t, 0⟩) 97 with
        | mk o1 r1 =>
          rw [h2] at h he hbs
          cases h3 : rdSign (o1, r1) 98 with
          | mk o2 r2 =>
            rw [h3] at h he hbs
            cases h
            simp only [] at he hbs
            obtain ⟨g1, _⟩ := rdSign_ok h3 he
            unfold rdPart at g1
            rw [if_neg (by decide), if_pos rfl] at g1
            cases g3 : rText r1 65535 with
            | mk r x =>
              rw [g3] at g1
              cases g1
              obtain ⟨e1, e2, e3, _⟩ := rText_ok g3 he
              obtain ⟨g4, _⟩ := rdSign_ok h2 e1
              unfold rdPart at g4
              rw [if_pos rfl] at g4
              cases g5 : rText ⟨t, 0⟩ 65535 with
              | mk r' x' =>
                rw [g5] at g4
                cases g4
                obtain ⟨_, f2, f3, _⟩ := rText_ok g5 e1
                simp only [] at f2
                rw [e2, hbs, List.append_nil] at f2
                have hlen := congrArg List.length f2
                have l1 : (textB (mkS x')).length = 2 + x'.length := by unfold textB; rw [List.length_append, leB_length, List.length_take, mkS_data]; omega
                have l2 : (textB (mkS x)).length = 2 + x.length := by unfold textB; rw [List.length_append, leB_length, List.length_take, mkS_data]; omega
                rw [List.length_append, l1, l2] at hlen
                simp only [List.length_cons] at h64
                refine hfin _ rfl (show (0 : Nat) < 256 by decide) (show (0 : Nat) < 256 by decide) ?_ (by unfold badR; simp only []; rw [h1]; rfl) (by unfold bad2R; simp only []; rw [h1]; rfl) (by simp only [mkS_size]; omega)
                rw [f2]
                simp [writeB, signB, leB]
      · simp only [List.foldl_cons, List.foldl_nil] at h he hbs
        cases h2 : rdSign (⟨c.toNat, ⟨#[]⟩, ⟨#[]⟩, 0, 0⟩, ⟨t, 0⟩) 97 with
        | mk o1 r1 =>
          rw [h2] at h he hbs
          cases h
          simp only [] at he hbs
          obtain ⟨g4, _⟩ := rdSign_ok h2 he
          unfold rdPart at g4
          rw [if_pos rfl] at g4
          cases g5 : rText ⟨t, 0⟩ 65535 with
          | mk r' x' =>
            rw [g5] at g4
            cases g4
            obtain ⟨_, f2, f3, _⟩ := rText_ok g5 he
            simp only [] at f2
            rw [hbs, List.append_nil] at f2
            have hlen := congrArg List.length f2
            have l1 : (textB (mkS x')).length = 2 + x'.length := by unfold textB; rw [List.length_append, leB_length, List.length_take, mkS_data]; omega
            rw [l1] at hlen
            simp only [List.length_cons] at h64
            refine hfin _ rfl (show (0 : Nat) < 256 by decide) (show (0 : Nat) < 256 by decide) ?_ (by unfold badR; simp only []; rw [h1]; rfl) (by unfold bad2R; simp only []; rw [h1]; rfl) (by simp only [mkS_size, show (⟨#[]⟩ : ByteArray).size = 0 from rfl]; omega)
            rw [f2]
            simp [writeB, signB, leB]
      · simp only [List.foldl_nil] at h he hbs
        cases h
        subst hbs
        exact hfin _ rfl (show (0 : Nat) < 256 by decide) (show (0 : Nat) < 256 by decide) (by simp [writeB, leB]) (by unfold badR; simp only []; rw [h1]; rfl) (by unfold bad2R; simp only []; rw [h1]; rfl) (show (⟨#[]⟩ : ByteArray).size + (⟨#[]⟩ : ByteArray).size ≤ 64 by decide)
      · simp only [List.foldl_cons, List.foldl_nil] at h he hbs
        cases h2 : rdSign (⟨c.toNat, ⟨#[]⟩, ⟨#[]⟩, 0, 0⟩, ⟨t, 0⟩) 110 with
        | mk o1 r1 =>
          rw [h2] at h he hbs
          cases h3 : rdSign (o1, r1) 114 with
          | mk o2 r2 =>
            rw [h3] at h he hbs
            cases h
            simp only [] at he hbs
            obtain ⟨g1, v1⟩ := rdSign_ok h3 he
            unfold rdPart at g1
            rw [if_neg (by decide), if_neg (by decide), if_neg (by decide), if_pos rfl] at g1
            cases g3 : rNum r1 1 with
            | mk r x =>
              rw [g3] at g1
              cases g1
              obtain ⟨e1, e2, e3⟩ := rNum_ok g3 he
              obtain ⟨g4, v2⟩ := rdSign_ok h2 e1
              unfold rdPart at g4
              rw [if_neg (by decide), if_neg (by decide), if_pos rfl] at g4
              cases g5 : rNum ⟨t, 0⟩ 1 with
              | mk r' x' =>
                rw [g5] at g4
                cases g4
                obtain ⟨_, f2, f3⟩ := rNum_ok g5 e1
                simp only [] at f2
                rw [e2, hbs, List.append_nil] at f2
                unfold rightV at v1 v2
                rw [if_neg (by decide), if_pos rfl] at v1
                rw [if_pos rfl] at v2
                simp at v1 v2
                refine hfin _ rfl (by simp only []; omega) (by simp only []; omega) ?_ (by unfold badR; simp only []; rw [h1]; simp) (by unfold bad2R; simp only []; rw [h1]; simp; omega) (show (⟨#[]⟩ : ByteArray).size + (⟨#[]⟩ : ByteArray).size ≤ 64 by decide)
                rw [f2]
                simp [writeB, signB, leB]
    · rename_i h0
      exact absurd (congrArg Prod.snd h) h0
end Go.Proofs.YtdngcheimohamaaDoor
/- interrexlaw14.OpReads: the walk. -/
namespace Go.Proofs.YtdngcheimohamaaDoor
open Go.RowKit

open Classical in
theorem opNeqR (w : World) (o : OpV) : (binOp .neq 54 (.agg #[.int .u8 o.k, .string o.a, .string o.b, .int .u8 o.n, .int .u8 o.r]) (.agg #[.int .u8 o.k, .string o.a, .string o.b, .int .u8 o.n, .int .u8 o.r])).run Tryd.prog w = .ok (.bool false) w := by
  have h1 : Tryd.prog.stoodInHeld 54 = false := by kernel_rfl
  have h2 : Tryd.prog.underlying 54 = some (.struct (Tryd.prog.fieldsOf 54)) := by kernel_rfl
  rw [run_neq_struct, run_equalIn_struct w 9999 _ _ _ h2 h1]
  simp only [Program.fieldsOf, Tryd.underlying54]
  simp [go_sem]
theorem opEqR (w : World) (o : OpV) : (binOp .eql 24 (.agg #[.int .u8 o.k, .string o.a, .string o.b, .int .u8 o.n, .int .u8 o.r]) (.agg #[.int .u8 o.k, .string o.a, .string o.b, .int .u8 o.n, .int .u8 o.r])).run Tryd.prog w = .ok (.bool true) w := by
  have h1 : Tryd.prog.stoodInHeld 24 = false := by kernel_rfl
  have h2 : Tryd.prog.underlying 24 = some (.struct (Tryd.prog.fieldsOf 24)) := by kernel_rfl
  rw [run_eql_struct, run_equalIn_struct w 9999 _ _ _ h2 h1]
  simp only [Program.fieldsOf, Tryd.underlying24]
  simp [go_sem]
theorem opRead_err {bs : List UInt8} (h : (opRead bs).2 ≠ 0) : (opRead bs).1 = zeroOp := by
  unfold opRead at *
  split
  · rfl
  · split
    · rfl
    · split
      · rename_i h1 h2 h3; rw [if_neg h1, if_neg h2, if_pos h3] at h; exact absurd rfl h
      · rfl
theorem zeroOp_wf : zeroOp.wf := ⟨by decide, by decide, by decide⟩
theorem zeroOp_ok : checkV zeroOp = 0 := by
  have hb : bareB zeroOp = true := (bareB_iff (by decide)).2 (by unfold badR; decide)
  have hz : zOf zeroOp = [97, 98] := rfl
  unfold checkV
  rw [if_neg (by decide), if_neg (by rw [hb]; decide), hz, if_neg (by decide), if_neg (by decide), if_neg (by decide)]

end Go.Proofs.YtdngcheimohamaaDoor
/- interrexlaw14.OpBytes: the walk. -/
namespace Go.Proofs.YtdngcheimohamaaDoor
open Go.RowKit

theorem own_nil {w : World} {base n : Nat} {e : TypeId} {size : Nat} {A : Option Addr} {m c : Nat} {xs : List Value} (h : w.ownsRow base e size (.slice A m c) n xs) : A = none → m = 0 ∧ c = 0 := by
  rintro rfl
  rcases h.2 with ⟨e1, _⟩ | ⟨g, cap, cur, e1, _⟩
  · injection e1 with _ h1 h2; exact ⟨h1, h2⟩
  · injection e1 with h1; cases h1
end Go.Proofs.YtdngcheimohamaaDoor
/- An op.Op among the arguments. -/
namespace Go.Proofs.YtdngcheimohamaaDoor
open Go.RowKit Go.ChangeShapes Go.WideShapes
theorem u8_nat {n : Int} (h : (Lit.int .u8 n).wf = true) : 0 ≤ n ∧ n < 256 := by
  simp [Lit.wf, IntKind.min, IntKind.max, IntKind.bits, IntKind.signed] at h; omega
theorem u64_nat {n : Int} (h : (Lit.int .u64 n).wf = true) : 0 ≤ n ∧ n ≤ 18446744073709551615 := by
  simp [Lit.wf, IntKind.min, IntKind.max, IntKind.bits, IntKind.signed] at h; omega
theorem list_5 {α : Type} : ∀ {l : List α}, l.length = 5 → ∃ x0 x1 x2 x3 x4, l = [x0, x1, x2, x3, x4]
  | [x0, x1, x2, x3, x4], _ => ⟨x0, x1, x2, x3, x4, rfl⟩
structure OpOK (o : OpV) : Prop where
  wf : o.wf
  a : o.a.size ≤ maxLen
  b : o.b.size ≤ maxLen
section
variable {H : Type} {enc : TypeId × Value → H} {w : World}
set_option maxRecDepth 100000 in
theorem open_opc (n : Nat) (cs : List Value) (y : DataW H × List MemPlace) (h : DataW.trod enc Tryd.prog w 0 (fun _ => true) true n 24 cs = some y) :
    ∃ o : OpV, cs = [.int .u8 o.k, .string o.a, .string o.b, .int .u8 o.n, .int .u8 o.r] ∧ OpOK o := by
  obtain ⟨xs, m, _, rfl, hl, hlen, hf⟩ := DataW.trod_struct Tryd.underlying24 h
  have ct : Tryd.prog.cellsOf 24 = 5 := by kernel_rfl
  have k0 : Tryd.prog.cellsOf 5 = 1 := by kernel_rfl
  have k1 : Tryd.prog.cellsOf 9 = 1 := by kernel_rfl
  have k2 : Tryd.prog.cellsOf 22 = 1 := by kernel_rfl
  rw [ct] at hl
  obtain ⟨v0, v1, v2, v3, v4, rfl⟩ := list_5 hl
  obtain ⟨x0, x1, x2, x3, x4, rfl⟩ := list_5 (show xs.length = 5 from hlen)
  have g0 : DataW.trod enc Tryd.prog w 0 (fun _ => true) true m 5 (([v0, v1, v2, v3, v4].drop 0).take (Tryd.prog.cellsOf 5)) = some x0 := by
    have := hf 0 _ rfl
    exact this
  rw [k0] at g0
  have f0 : DataW.trod enc Tryd.prog w 0 (fun _ => true) true m 5 [v0] = some x0 := g0
  have g1 : DataW.trod enc Tryd.prog w 0 (fun _ => true) true m 9 (([v0, v1, v2, v3, v4].drop 1).take (Tryd.prog.cellsOf 9)) = some x1 := by
    have := hf 1 _ rfl
    exact this
  rw [k1] at g1
  have f1 : DataW.trod enc Tryd.prog w 0 (fun _ => true) true m 9 [v1] = some x1 := g1
  have g2 : DataW.trod enc Tryd.prog w 0 (fun _ => true) true m 9 (([v0, v1, v2, v3, v4].drop 2).take (Tryd.prog.cellsOf 9)) = some x2 := by
    have := hf 2 _ rfl
    exact this
  rw [k1] at g2
  have f2 : DataW.trod enc Tryd.prog w 0 (fun _ => true) true m 9 [v2] = some x2 := g2
  have g3 : DataW.trod enc Tryd.prog w 0 (fun _ => true) true m 5 (([v0, v1, v2, v3, v4].drop 3).take (Tryd.prog.cellsOf 5)) = some x3 := by
    have := hf 3 _ rfl
    exact this
  rw [k0] at g3
  have f3 : DataW.trod enc Tryd.prog w 0 (fun _ => true) true m 5 [v3] = some x3 := g3
  have g4 : DataW.trod enc Tryd.prog w 0 (fun _ => true) true m 22 (([v0, v1, v2, v3, v4].drop 4).take (Tryd.prog.cellsOf 22)) = some x4 := by
    have := hf 4 _ rfl
    exact this
  rw [k2] at g4
  have f4 : DataW.trod enc Tryd.prog w 0 (fun _ => true) true m 22 [v4] = some x4 := g4
  obtain ⟨n0, e0, _, w0⟩ := DataW.trod_int Tryd.underlying5 f0
  simp only [List.cons.injEq, and_true] at e0
  subst e0
  obtain ⟨u0, hu0⟩ := u8_nat w0
  obtain ⟨m0, rfl⟩ := Int.eq_ofNat_of_zero_le u0
  obtain ⟨s1, e1, _, hs1⟩ := DataW.trod_string Tryd.underlying9 f1
  simp only [List.cons.injEq, and_true] at e1
  subst e1
  obtain ⟨s2, e2, _, hs2⟩ := DataW.trod_string Tryd.underlying9 f2
  simp only [List.cons.injEq, and_true] at e2
  subst e2
  obtain ⟨n3, e3, _, w3⟩ := DataW.trod_int Tryd.underlying5 f3
  simp only [List.cons.injEq, and_true] at e3
  subst e3
  obtain ⟨u3, hu3⟩ := u8_nat w3
  obtain ⟨m3, rfl⟩ := Int.eq_ofNat_of_zero_le u3
  obtain ⟨n4, e4, _, w4⟩ := DataW.trod_int Tryd.underlying22 f4
  simp only [List.cons.injEq, and_true] at e4
  subst e4
  obtain ⟨u4, hu4⟩ := u8_nat w4
  obtain ⟨m4, rfl⟩ := Int.eq_ofNat_of_zero_le u4
  exact ⟨⟨m0, s1, s2, m3, m4⟩, rfl, ⟨⟨by simp only []; omega, by simp only []; omega, by simp only []; omega⟩, hs1, hs2⟩⟩

set_option maxRecDepth 100000 in
theorem open_op {v : Value} {d : DataW H} {ps : List MemPlace} {r : Reach} {b0 : Nat} {W : World} (hv : Value.okWide Tryd.prog W r b0 24 v) (h : DataW.Trod enc Tryd.prog w 0 (fun _ => true) true 24 v d ps) :
    ∃ o : OpV, v = o.v ∧ OpOK o := by
  obtain ⟨cs, rfl, _⟩ := okWide_struct Tryd.underlying24 hv
  obtain ⟨m, hm⟩ := h
  obtain ⟨o, e, ho⟩ := open_opc m _ _ hm
  refine ⟨o, ?_, ho⟩
  have : cs.toList = [.int .u8 o.k, .string o.a, .string o.b, .int .u8 o.n, .int .u8 o.r] := e
  unfold OpV.v
  rw [← this]
end
end Go.Proofs.YtdngcheimohamaaDoor
/- ClientTurns' law over its arguments. -/
namespace Go.Proofs.YtdngcheimohamaaDoor
open Go.RowKit
theorem clientTurns_law (w : World) (ht : SignsAt w) (i : Int) (wi : (Lit.int .u8 i).wf = true) (n : Int) (wn : (Lit.int .u8 n).wf = true) (o : OpV) (ho : OpOK o) :
    Calls Tryd.prog 3 #[.int .u8 i, .int .u8 n, o.v] w (BoolPost w true) := by
  obtain ⟨i0, i1⟩ := u8_nat wi
  obtain ⟨n0, n1⟩ := u8_nat wn
  obtain ⟨a, rfl⟩ := Int.eq_ofNat_of_zero_le i0
  obtain ⟨b, rfl⟩ := Int.eq_ofNat_of_zero_le n0
  exact turns_walk w a b o ht (by omega) (by omega) ho.wf ho.a ho.b
end Go.Proofs.YtdngcheimohamaaDoor
