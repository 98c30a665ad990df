/- What the row leans on, part 5: contracts and plain laws. -/
import Derived.Test.YtdngcheimohamaaDoorProg
import Derived.WalkKit
import Derived.Maps.AppendAt
import Derived.Lib.AppendStr
import Derived.Laws.AppendOwnNone
import Derived.Deep.Draws
import Derived.WalkSpells
import Derived.Laws.IdiomStrings
import Derived.Lib.ConvBytes
import Derived.Lib.LaidTab
import Derived.LaidSub
import Derived.Deep.QuietTactic
import Derived.BigQuiet
import Derived.Lib.OthersKept
import Derived.Laws.RangeAny
import Derived.LaidEqlPtr
import Derived.Laws.StructEq
import Derived.Deep.Light
import Derived.Laws.Bits64b
import Derived.Laws.ResultCell
import Derived.Deep.RegionHeld3
import Derived.Deep.Cut
import Derived.SliceStrings
import Derived.Deep.Slices
import Derived.ProofKit
import Derived.Test.YtdngcheimohamaaDoorLawEntryRowsB4
/- interrexlaw19.EntryBytes: the walk. -/
namespace Go.Proofs.YtdngcheimohamaaDoor
open Go.RowKit
open Classical in
theorem enEqq (w : World) (e : EnV) : (binOp .eql 49 e.v e.v).run Tryd.prog w = .ok (.bool true) w := by
  have h1 : Tryd.prog.stoodInHeld 49 = false := by kernel_rfl
  have h2 : Tryd.prog.underlying 49 = some (.struct (Tryd.prog.fieldsOf 49)) := by kernel_rfl
  have g1 : Tryd.prog.stoodInHeld 47 = false := by kernel_rfl
  have g2 : Tryd.prog.underlying 47 = some (.struct (Tryd.prog.fieldsOf 47)) := by kernel_rfl
  have k1 : Tryd.prog.stoodInHeld 24 = false := by kernel_rfl
  have k2 : Tryd.prog.underlying 24 = some (.struct (Tryd.prog.fieldsOf 24)) := by kernel_rfl
  unfold EnV.v
  rw [run_eql_struct, run_equalIn_struct w 9999 _ _ _ h2 h1]
  simp only [Program.fieldsOf, Tryd.underlying49]
  simp [go_sem]
theorem textE_eq {e : EnV} (h : checkE e = 0) : textE e = enB e := by
  have hv := checkV_ok (checkE_o h)
  have hs := checkE_size h
  unfold textE enB
  rw [textO_eq hv.1 (by omega) (by omega), textR_eq (by rw [mkS_size]; have := hv.2.2.2.2; omega)]
  simp only [List.append_assoc]
set_option maxRecDepth 100000 in
set_option maxHeartbeats 1600000 in
theorem little_calls (w : World) (e : EnV) : Calls Tryd.prog 16 #[e.v] w (BoolPost w (decide (e.o.a.size ≤ 200) && decide (e.o.b.size ≤ 200))) := by
  have f0 : Fr noB w (w.alloc (.cells e.C.toArray 49)) := (Fr.refl noB w).alloc _
  have hb0 : BlkAt (w.alloc (.cells e.C.toArray 49)) w.heap.size 49 e.C.toArray := BlkAt.new _ _ _
  obtain ⟨op, view, cl, num, ⟨k, oa, ob, on, or⟩⟩ := e
  unfold EnV.C at f0 hb0
  unfold EnV.v
  simp only [] at *
  obtain ⟨c1, h1⟩ : ∃ c, decide (oa.size ≤ 200) = c := ⟨_, rfl⟩
  obtain ⟨c2, h2⟩ : ∃ c, decide (ob.size ≤ 200) = c := ⟨_, rfl⟩
  have d1 : decide ((oa.size : Int) ≤ 200) = c1 := by rw [← h1, decide_eq_decide]; omega
  have d2 : decide ((ob.size : Int) ≤ 200) = c2 := by rw [← h2, decide_eq_decide]; omega
  rw [h1, h2]
  clear h1 h2
  cases c1 <;> cases c2
  all_goals
    go_enter Tryd.func16, Tryd.ntmps16
    go_upto_region 1 with fail
    generalize (w.alloc (.cells #[.int .u64 op, .int .u64 view, .int .u8 cl, .int .u64 num, .int .u8 k, .string oa, .string ob, .int .u8 on, .int .u8 or] 49)) = wa at *
    obtain ⟨x0, x1, x2, x3, x4, x5, x6, x7, x8, xf⟩ := BlkAt.c9 hb0
    go_wp2_with fail
    go_ret
    exact BoolPost.mk' rfl f0
set_option maxRecDepth 100000 in
set_option maxHeartbeats 6400000 in
theorem entryBytes_walk (w : World) (ht : SignsAt w) (e : EnV) (hw : e.wf) : Calls Tryd.prog 4 #[e.v] w (BoolPost w true) := by
  have hlit := fun W => little_calls W e
  have hlv := fun W (f : Fr noB w W) => lives19_calls W (ht.fr0 f)
  have f0 : Fr noB w (w.alloc (.cells e.C.toArray 49)) := (Fr.refl noB w).alloc _
  have hb0 : BlkAt (w.alloc (.cells e.C.toArray 49)) w.heap.size 49 e.C.toArray := BlkAt.new _ _ _
  cases hl : (decide (e.o.a.size ≤ 200) && decide (e.o.b.size ≤ 200)) with
  | false =>
    rw [hl] at hlit
    obtain ⟨op, view, cl, num, ⟨k, oa, ob, on, or⟩⟩ := e
    unfold EnV.C at f0 hb0
    unfold EnV.v at *
    simp only [] at *
    clear hl
    go_enter Tryd.func4, Tryd.ntmps4
    go_upto_region 1 with fail
    generalize (w.alloc (.cells #[.int .u64 op, .int .u64 view, .int .u8 cl, .int .u64 num, .int .u8 k, .string oa, .string ob, .int .u8 on, .int .u8 or] 49)) = wa at *
    go_wp2_with fail
    refine (hlv wa f0).mono ?_
    rintro ed w1 ⟨rfl, f1⟩
    have F1 := f0.then' f1
    obtain ⟨x0, x1, x2, x3, x4, x5, x6, x7, x8, xf⟩ := BlkAt.c9 (hb0.fr f1 id)
    clear hb0 f1 f0
    go_wp2_with fail
    refine (hlit w1).mono ?_
    rintro ed w2 ⟨rfl, f2⟩
    have F2 := F1.then' f2
    clear x0 x1 x2 x3 x4 x5 x6 x7 x8 xf
    go_wp2_with fail
    refine (hlv w2 F2).mono ?_
    rintro ed w3 ⟨rfl, f3⟩
    go_wp2_with fail
    go_ret
    exact BoolPost.mk' rfl (F2.then' f3)
  | true =>
    rw [hl] at hlit
    simp only [Bool.and_eq_true, decide_eq_true_eq] at hl
    have hrf := fun W => ref19_calls W e
    have hcr := fun W => checkEr_calls W e hw (by omega) (by omega)
    have hcn := fun W (f : Fr noB w W) => checkEn_calls W e (ht.fr0 f) hw (by omega) (by omega)
    by_cases hc : checkE e = 0
    · have hby := fun W (f : Fr noB w W) => enBytesOk_calls W e (ht.fr0 f) hw hc
      have htx := fun W => textE_calls W e hw (by omega) (by omega)
      rw [textE_eq hc] at htx
      rw [hc] at hcr hcn
      have hlen := enB_length hc
      have hrd := enRead_write hw hc
      have hwr := fun W A n c h1 h2 h3 h4 h5 => enRead_calls W A n c (enB e) h1 h2 h3 h4 h5
      rw [hrd] at hwr
      have hq : ∀ W, (binOp .eql 49 e.v e.v).run Tryd.prog W = .ok (.bool true) W := fun W => enEqq W e
      have HM : Hid (Tryd.prog.eqGuardType Tryd.prog.depth 49 = false) := Tryd.gE
      generalize enB e = bs at *
      obtain ⟨m, hm⟩ : ∃ m, bs.length = m := ⟨_, rfl⟩
      unfold BytesEPost at hby
      unfold EnEPost at hwr
      rw [hm] at hby hlen
      have hwr' := fun W A c h1 h2 h4 => hwr W A m c h1 h2 hm h4 (by omega)
      have HN := hid hm
      obtain ⟨op, view, cl, num, ⟨k, oa, ob, on, or⟩⟩ := e
      unfold EnV.C at f0 hb0
      unfold EnV.v at *
      simp only [] at *
      have heq : ((mkS bs).toList == (mkS bs).toList) = true := by simp
      have hle : decide ((m : Int) ≤ 91) = true := decide_eq_true (by omega)
      have HQ := hid hq
      clear hlen hq hwr hrd hl hm hw hc
      go_enter Tryd.func4, Tryd.ntmps4
      go_upto_region 1 with fail
      generalize (w.alloc (.cells #[.int .u64 op, .int .u64 view, .int .u8 cl, .int .u64 num, .int .u8 k, .string oa, .string ob, .int .u8 on, .int .u8 or] 49)) = wa at *
      go_wp2_with fail
      refine (hlv wa f0).mono ?_
      rintro ed w1 ⟨rfl, f1⟩
      have F1 := f0.then' f1
      replace hb0 := hb0.fr f1 id
      obtain ⟨x0, x1, x2, x3, x4, x5, x6, x7, x8, xf⟩ := BlkAt.c9 hb0
      clear f1 f0 hlv
      go_wp2_with fail
      refine (hlit w1).mono ?_
      rintro ed w2 ⟨rfl, f2⟩
      have F2 := F1.then' f2
      replace hb0 := hb0.fr f2 id
      clear x0 x1 x2 x3 x4 x5 x6 x7 x8 xf f2 F1 hlit
      obtain ⟨x0, x1, x2, x3, x4, x5, x6, x7, x8, xf⟩ := BlkAt.c9 hb0
      go_wp2_with fail
      refine (hby w2 F2).mono ?_
      rintro ed w3 ⟨A2, c2, rfl, h3, f3⟩
      have F3 := F2.then' f3
      replace hb0 := hb0.fr f3 id
      have hr3 := own_row h3
      have hn3 := own_nil h3
      clear x0 x1 x2 x3 x4 x5 x6 x7 x8 xf f3 F2 h3 hby
      obtain ⟨x0, x1, x2, x3, x4, x5, x6, x7, x8, xf⟩ := BlkAt.c9 hb0
      go_wp2_with fail
      refine (hrf w3).mono ?_
      rintro ed w4 ⟨rfl, f4⟩
      have F4 := F3.then' f4
      replace hb0 := hb0.fr f4 id
      replace hr3 := hr3.fr0 f4
      clear x0 x1 x2 x3 x4 x5 x6 x7 x8 xf f4 F3
      go_wp2_with fail
      refine (hcr w4).mono ?_
      rintro ed w5 ⟨rfl, f5⟩
      have F5 := F4.then' f5
      replace hb0 := hb0.fr f5 id
      replace hr3 := hr3.fr0 f5
      clear f5 F4 hcr
      obtain ⟨x0, x1, x2, x3, x4, x5, x6, x7, x8, xf⟩ := BlkAt.c9 hb0
      go_wp2_with fail
      refine (hcn w5 F5).mono ?_
      rintro ed w6 ⟨rfl, f6⟩
      have F6 := F5.then' f6
      replace hb0 := hb0.fr f6 id
      replace hr3 := hr3.fr0 f6
      clear x0 x1 x2 x3 x4 x5 x6 x7 x8 xf f6 F5 hcn
      go_wp2_with fail
      refine (hwr' w6 A2 c2 (ht.fr0 F6) hr3 hn3).mono ?_
      rintro ed w7 ⟨rfl, f7⟩
      have F7 := (F6.then' f7).alloc (.cells #[.int .u64 op, .int .u64 view, .int .u8 cl, .int .u64 num, .int .u8 k, .string oa, .string ob, .int .u8 on, .int .u8 or] 49)
      replace hb0 := (hb0.fr f7 id).al (.cells #[.int .u64 op, .int .u64 view, .int .u8 cl, .int .u64 num, .int .u8 k, .string oa, .string ob, .int .u8 on, .int .u8 or] 49)
      replace hr3 := (hr3.fr0 f7).fr0 ((Fr.refl noB _).alloc (.cells #[.int .u64 op, .int .u64 view, .int .u8 cl, .int .u64 num, .int .u8 k, .string oa, .string ob, .int .u8 on, .int .u8 or] 49))
      have hb9 : BlkAt (w7.alloc (.cells #[.int .u64 op, .int .u64 view, .int .u8 cl, .int .u64 num, .int .u8 k, .string oa, .string ob, .int .u8 on, .int .u8 or] 49)) w7.heap.size 49 #[.int .u64 op, .int .u64 view, .int .u8 cl, .int .u64 num, .int .u8 k, .string oa, .string ob, .int .u8 on, .int .u8 or] := BlkAt.new _ _ _
      clear f7 F6 hwr' hn3
      go_upto_region 9 with fail
      generalize hpy : w7.heap.size = py at *
      generalize (w7.alloc (.cells #[.int .u64 op, .int .u64 view, .int .u8 cl, .int .u64 num, .int .u8 k, .string oa, .string ob, .int .u8 on, .int .u8 or] 49)) = w8 at *
      clear hpy
      apply wp_region_calm (R := Fr noB) (C := fun q W => Fr noB w8 W ∧ BlkAt W (w.heap.size) 49 #[.int .u64 op, .int .u64 view, .int .u8 cl, .int .u64 num, .int .u8 k, .string oa, .string ob, .int .u8 on, .int .u8 or] ∧ BlkAt W (py) 49 #[.int .u64 op, .int .u64 view, .int .u8 cl, .int .u64 num, .int .u8 k, .string oa, .string ob, .int .u8 on, .int .u8 or]) [false, false, false, false, false, false, false, false, false, false, false, false, false, false, false, false, false, false, false, false, false]
        [eqv _, eqv _, eqv _, eqv _, eqv _, eqv _, eqv _, eqv _, eqv _, eqv _, eqv _, eqv _, eqv _, eqv _, eqv _, eqv _, eqv _, eqv _, eqv _, eqv _, eqv _]
        (by kernel_rfl) (by kernel_rfl) (fun _ _ _ h1 h2 => h1.then' h2) ((Fr.refl _ _).drew) ⟨(Fr.refl _ _).drew, hb0, hb9⟩ (by kernel_rfl)
      · refine ⟨?_, ?_, ?_, ?_, ?_, ?_, ?_, ?_, ?_, ?_, ?_, ?_, ?_, ?_, ?_, ?_, ?_, ?_, ?_, ?_, ?_, trivial⟩
        · rw [if_neg (by decide)]; intro kq
          exact calm_mv 3 rfl rfl (Or.inl rfl) (Fr.refl _) (by decide) fun v w hd => hd
        · rw [if_neg (by decide)]; intro kq
          intro a W K hC hd hK
          have d41 : _ = _ := hd 41 (by decide)
          refine wpOp_plain rfl rfl ?_
          have hst := Tryd.toStr (hr3.fr0 hC.1) HN.out c2
          go_wp2_with fail
          exact hK _ _ (Fr.refl _ _) hC rfl
        · rw [if_neg (by decide)]; intro kq
          intro a W K hC hd hK
          have d1 : a.tmps[1]?.getD undef = .pointer (some ⟨w.heap.size, 0, none⟩) := hd 1 (by decide)
          refine wpOp_plain rfl rfl ?_
          obtain ⟨x0_0, x0_1, x0_2, x0_3, x0_4, x0_5, x0_6, x0_7, x0_8, z0⟩ := BlkAt.c9 (hC.2.1)
          obtain ⟨x1_0, x1_1, x1_2, x1_3, x1_4, x1_5, x1_6, x1_7, x1_8, z1⟩ := BlkAt.c9 (hC.2.2)
          go_wp2_with fail
          exact hK _ _ (Fr.refl _ _) hC rfl
        · rw [if_neg (by decide)]; intro kq
          intro a W K hC hd hK
          have d43 : _ = _ := hd 43 (by decide)
          refine wpOp_plain rfl rfl ?_
          obtain ⟨x0_0, x0_1, x0_2, x0_3, x0_4, x0_5, x0_6, x0_7, x0_8, z0⟩ := BlkAt.c9 (hC.2.1)
          obtain ⟨x1_0, x1_1, x1_2, x1_3, x1_4, x1_5, x1_6, x1_7, x1_8, z1⟩ := BlkAt.c9 (hC.2.2)
          go_wp2_with fail
          refine (hrf W).mono ?_
          rintro e w9 ⟨rfl, f9⟩
          exact hK _ _ f9 ⟨hC.1.then' f9, hC.2.1.fr f9 id, hC.2.2.fr f9 id⟩ rfl
        · rw [if_neg (by decide)]; intro kq
          intro a W K hC hd hK
          have d44 : _ = _ := hd 44 (by decide)
          refine wpOp_plain rfl rfl ?_
          obtain ⟨x0_0, x0_1, x0_2, x0_3, x0_4, x0_5, x0_6, x0_7, x0_8, z0⟩ := BlkAt.c9 (hC.2.1)
          obtain ⟨x1_0, x1_1, x1_2, x1_3, x1_4, x1_5, x1_6, x1_7, x1_8, z1⟩ := BlkAt.c9 (hC.2.2)
          go_wp2_with fail
          refine (htx W).mono ?_
          rintro e w9 ⟨rfl, f9⟩
          exact hK _ _ f9 ⟨hC.1.then' f9, hC.2.1.fr f9 id, hC.2.2.fr f9 id⟩ rfl
        · rw [if_neg (by decide)]; intro kq
          intro a W K hC hd hK
          have d42 : _ = _ := hd 42 (by decide)
          have d45 : _ = _ := hd 45 (by decide)
          refine wpOp_plain rfl rfl ?_
          go_wp2_with fail
          exact hK _ _ (Fr.refl _ _) hC rfl
        · rw [if_neg (by decide)]; intro kq
          exact calm_mv 46 rfl rfl (Or.inl rfl) (Fr.refl _) (by decide) fun v w hd => hd
        · rw [if_neg (by decide)]; intro kq
          intro a W K hC hd hK
          have d3 : a.tmps[3]?.getD undef = .slice A2 m c2 := hd 3 (by decide)
          have d47 : _ = _ := hd 47 (by decide)
          first | (exact wpOp_skip rfl (wanted_of (want := true) (b := false) rfl rfl (by rw [eval_get]; exact d47)) (hK _ _ (Fr.refl _ _) hC rfl)) | (refine wpOp_want rfl (wanted_of (want := true) (b := true) rfl rfl (by rw [eval_get]; exact d47)) ?_)
          all_goals (
            go_wp2_with fail
            exact hK _ _ (Fr.refl _ _) hC rfl)
        · rw [if_neg (by decide)]; intro kq
          intro a W K hC hd hK
          have d48 : _ = _ := hd 48 (by decide)
          have d47 : _ = _ := hd 47 (by decide)
          first | (exact wpOp_skip rfl (wanted_of (want := true) (b := false) rfl rfl (by rw [eval_get]; exact d47)) (hK _ _ (Fr.refl _ _) hC rfl)) | (refine wpOp_want rfl (wanted_of (want := true) (b := true) rfl rfl (by rw [eval_get]; exact d47)) ?_)
          all_goals (
            obtain ⟨x0_0, x0_1, x0_2, x0_3, x0_4, x0_5, x0_6, x0_7, x0_8, z0⟩ := BlkAt.c9 (hC.2.1)
            obtain ⟨x1_0, x1_1, x1_2, x1_3, x1_4, x1_5, x1_6, x1_7, x1_8, z1⟩ := BlkAt.c9 (hC.2.2)
            go_wp2_with fail
            exact hK _ _ (Fr.refl _ _) hC rfl)
        · rw [if_neg (by decide)]; intro kq
          intro a W K hC hd hK
          have d49 : _ = _ := hd 49 (by decide)
          have d47 : _ = _ := hd 47 (by decide)
          first | (exact wpOp_skip rfl (wanted_of (want := true) (b := false) rfl rfl (by rw [eval_get]; exact d47)) (hK _ _ (Fr.refl _ _) hC rfl)) | (refine wpOp_want rfl (wanted_of (want := true) (b := true) rfl rfl (by rw [eval_get]; exact d47)) ?_)
          all_goals (
            go_wp2_with fail
            exact hK _ _ (Fr.refl _ _) hC rfl)
        · rw [if_neg (by decide)]; intro kq
          intro a W K hC hd hK
          have d47 : _ = _ := hd 47 (by decide)
          have d50 : _ = _ := hd 50 (by decide)
          refine wpOp_plain rfl rfl ?_
          go_wp2_with fail
          exact hK _ _ (Fr.refl _ _) hC rfl
        · rw [if_neg (by decide)]; intro kq
          exact calm_mv 51 rfl rfl (Or.inl rfl) (Fr.refl _) (by decide) fun v w hd => hd
        · rw [if_neg (by decide)]; intro kq
          intro a W K hC hd hK
          have d6 : a.tmps[6]?.getD undef = .int .i64 0 := hd 6 (by decide)
          have d52 : _ = _ := hd 52 (by decide)
          first | (exact wpOp_skip rfl (wanted_of (want := true) (b := false) rfl rfl (by rw [eval_get]; exact d52)) (hK _ _ (Fr.refl _ _) hC rfl)) | (refine wpOp_want rfl (wanted_of (want := true) (b := true) rfl rfl (by rw [eval_get]; exact d52)) ?_)
          all_goals (
            go_wp2_with fail
            exact hK _ _ (Fr.refl _ _) hC rfl)
        · rw [if_neg (by decide)]; intro kq
          intro a W K hC hd hK
          have d53 : _ = _ := hd 53 (by decide)
          have d52 : _ = _ := hd 52 (by decide)
          first | (exact wpOp_skip rfl (wanted_of (want := true) (b := false) rfl rfl (by rw [eval_get]; exact d52)) (hK _ _ (Fr.refl _ _) hC rfl)) | (refine wpOp_want rfl (wanted_of (want := true) (b := true) rfl rfl (by rw [eval_get]; exact d52)) ?_)
          all_goals (
            go_wp2_with fail
            exact hK _ _ (Fr.refl _ _) hC rfl)
        · rw [if_neg (by decide)]; intro kq
          intro a W K hC hd hK
          have d52 : _ = _ := hd 52 (by decide)
          have d54 : _ = _ := hd 54 (by decide)
          refine wpOp_plain rfl rfl ?_
          go_wp2_with fail
          exact hK _ _ (Fr.refl _ _) hC rfl
        · rw [if_neg (by decide)]; intro kq
          exact calm_mv 55 rfl rfl (Or.inl rfl) (Fr.refl _) (by decide) fun v w hd => hd
        · rw [if_neg (by decide)]; intro kq
          intro a W K hC hd hK
          have d5 : a.tmps[5]?.getD undef = .pointer (some ⟨py, 0, none⟩) := hd 5 (by decide)
          have d56 : _ = _ := hd 56 (by decide)
          first | (exact wpOp_skip rfl (wanted_of (want := true) (b := false) rfl rfl (by rw [eval_get]; exact d56)) (hK _ _ (Fr.refl _ _) hC rfl)) | (refine wpOp_want rfl (wanted_of (want := true) (b := true) rfl rfl (by rw [eval_get]; exact d56)) ?_)
          all_goals (
            obtain ⟨x0_0, x0_1, x0_2, x0_3, x0_4, x0_5, x0_6, x0_7, x0_8, z0⟩ := BlkAt.c9 (hC.2.1)
            obtain ⟨x1_0, x1_1, x1_2, x1_3, x1_4, x1_5, x1_6, x1_7, x1_8, z1⟩ := BlkAt.c9 (hC.2.2)
            go_wp2_with fail
            exact hK _ _ (Fr.refl _ _) hC rfl)
        · rw [if_neg (by decide)]; intro kq
          intro a W K hC hd hK
          have d1 : a.tmps[1]?.getD undef = .pointer (some ⟨w.heap.size, 0, none⟩) := hd 1 (by decide)
          have d56 : _ = _ := hd 56 (by decide)
          first | (exact wpOp_skip rfl (wanted_of (want := true) (b := false) rfl rfl (by rw [eval_get]; exact d56)) (hK _ _ (Fr.refl _ _) hC rfl)) | (refine wpOp_want rfl (wanted_of (want := true) (b := true) rfl rfl (by rw [eval_get]; exact d56)) ?_)
          all_goals (
            obtain ⟨x0_0, x0_1, x0_2, x0_3, x0_4, x0_5, x0_6, x0_7, x0_8, z0⟩ := BlkAt.c9 (hC.2.1)
            obtain ⟨x1_0, x1_1, x1_2, x1_3, x1_4, x1_5, x1_6, x1_7, x1_8, z1⟩ := BlkAt.c9 (hC.2.2)
            go_wp2_with fail
            exact hK _ _ (Fr.refl _ _) hC rfl)
        · rw [if_neg (by decide)]; intro kq
          intro a W K hC hd hK
          have d57 : _ = _ := hd 57 (by decide)
          have d58 : _ = _ := hd 58 (by decide)
          have d56 : _ = _ := hd 56 (by decide)
          first | (exact wpOp_skip rfl (wanted_of (want := true) (b := false) rfl rfl (by rw [eval_get]; exact d56)) (hK _ _ (Fr.refl _ _) hC rfl)) | (refine wpOp_want rfl (wanted_of (want := true) (b := true) rfl rfl (by rw [eval_get]; exact d56)) ?_)
          all_goals (
            have hq := HQ.out
            have hm := HM.out
            go_wp2_with fail
            exact hK _ _ (Fr.refl _ _) hC rfl)
        · rw [if_neg (by decide)]; intro kq
          intro a W K hC hd hK
          have d56 : _ = _ := hd 56 (by decide)
          have d59 : _ = _ := hd 59 (by decide)
          refine wpOp_plain rfl rfl ?_
          go_wp2_with fail
          exact hK _ _ (Fr.refl _ _) hC rfl
        · rw [if_neg (by decide)]; intro kq
          exact calm_mv 60 rfl rfl (Or.inr rfl) (Fr.refl _) (by decide) fun v w hd => hd
      · intro vs w9 fw9 cw9 hV
        have v41 : vs 0 = _ := hV 0 _ _ rfl rfl (by decide)
        have v42 : vs 1 = _ := hV 1 _ _ rfl rfl (by decide)
        have v43 : vs 2 = _ := hV 2 _ _ rfl rfl (by decide)
        have v44 : vs 3 = _ := hV 3 _ _ rfl rfl (by decide)
        have v45 : vs 4 = _ := hV 4 _ _ rfl rfl (by decide)
        have v46 : vs 5 = _ := hV 5 _ _ rfl rfl (by decide)
        have v47 : vs 6 = _ := hV 6 _ _ rfl rfl (by decide)
        have v48 : vs 7 = _ := hV 7 _ _ rfl rfl (by decide)
        have v49 : vs 8 = _ := hV 8 _ _ rfl rfl (by decide)
        have v50 : vs 9 = _ := hV 9 _ _ rfl rfl (by decide)
        have v51 : vs 10 = _ := hV 10 _ _ rfl rfl (by decide)
        have v52 : vs 11 = _ := hV 11 _ _ rfl rfl (by decide)
        have v53 : vs 12 = _ := hV 12 _ _ rfl rfl (by decide)
        have v54 : vs 13 = _ := hV 13 _ _ rfl rfl (by decide)
        have v55 : vs 14 = _ := hV 14 _ _ rfl rfl (by decide)
        have v56 : vs 15 = _ := hV 15 _ _ rfl rfl (by decide)
        have v57 : vs 16 = _ := hV 16 _ _ rfl rfl (by decide)
        have v58 : vs 17 = _ := hV 17 _ _ rfl rfl (by decide)
        have v59 : vs 18 = _ := hV 18 _ _ rfl rfl (by decide)
        have v60 : vs 19 = _ := hV 19 _ _ rfl rfl (by decide)
        have v2 : vs 20 = _ := hV 20 _ _ rfl rfl (by decide)
        clear hV
        replace hb0 : BlkAt w9 (w.heap.size) 49 #[.int .u64 op, .int .u64 view, .int .u8 cl, .int .u64 num, .int .u8 k, .string oa, .string ob, .int .u8 on, .int .u8 or] := cw9.2.1
        replace hb9 : BlkAt w9 (py) 49 #[.int .u64 op, .int .u64 view, .int .u8 cl, .int .u64 num, .int .u8 k, .string oa, .string ob, .int .u8 on, .int .u8 or] := cw9.2.2
        replace F7 := F7.trans fw9 (fun i hi h => h.elim)
        clear cw9
        simp only [putL, Act.put, Nat.reduceAdd, List.setIfInBounds_toArray, List.set_cons_zero, List.set_cons_succ, v41, v42, v43, v44, v45, v46, v47, v48, v49, v50, v51, v52, v53, v54, v55, v56, v57, v58, v59, v60, v2]
        go_wp2_with fail
        go_ret
        exact BoolPost.mk' rfl F7
    · have hby := fun W (f : Fr noB w W) => enBytesNo_calls W e (ht.fr0 f) hw (by omega) (by omega) hc
      have t1 : ((checkE e : Int) != 0) = true := by rw [bne_iff_ne]; omega
      generalize checkE e = cv at *
      obtain ⟨op, view, cl, num, ⟨k, oa, ob, on, or⟩⟩ := e
      unfold EnV.C at f0 hb0
      unfold EnV.v at *
      simp only [] at *
      clear hl hw hc
      go_enter Tryd.func4, Tryd.ntmps4
      go_upto_region 1 with fail
      generalize (w.alloc (.cells #[.int .u64 op, .int .u64 view, .int .u8 cl, .int .u64 num, .int .u8 k, .string oa, .string ob, .int .u8 on, .int .u8 or] 49)) = wa at *
      go_wp2_with fail
      refine (hlv wa f0).mono ?_
      rintro ed w1 ⟨rfl, f1⟩
      have F1 := f0.then' f1
      replace hb0 := hb0.fr f1 id
      obtain ⟨x0, x1, x2, x3, x4, x5, x6, x7, x8, xf⟩ := BlkAt.c9 hb0
      clear f1 f0 hlv
      go_wp2_with fail
      refine (hlit w1).mono ?_
      rintro ed w2 ⟨rfl, f2⟩
      have F2 := F1.then' f2
      replace hb0 := hb0.fr f2 id
      clear x0 x1 x2 x3 x4 x5 x6 x7 x8 xf f2 F1 hlit
      obtain ⟨x0, x1, x2, x3, x4, x5, x6, x7, x8, xf⟩ := BlkAt.c9 hb0
      go_wp2_with fail
      refine (hby w2 F2).mono ?_
      rintro ed w3 ⟨rfl, f3⟩
      have F3 := F2.then' f3
      replace hb0 := hb0.fr f3 id
      clear x0 x1 x2 x3 x4 x5 x6 x7 x8 xf f3 F2 hby
      obtain ⟨x0, x1, x2, x3, x4, x5, x6, x7, x8, xf⟩ := BlkAt.c9 hb0
      go_wp2_with fail
      refine (hrf w3).mono ?_
      rintro ed w4 ⟨rfl, f4⟩
      have F4 := F3.then' f4
      replace hb0 := hb0.fr f4 id
      clear x0 x1 x2 x3 x4 x5 x6 x7 x8 xf f4 F3
      go_wp2_with fail
      refine (hcr w4).mono ?_
      rintro ed w5 ⟨rfl, f5⟩
      have F5 := F4.then' f5
      replace hb0 := hb0.fr f5 id
      clear f5 F4 hcr
      obtain ⟨x0, x1, x2, x3, x4, x5, x6, x7, x8, xf⟩ := BlkAt.c9 hb0
      go_wp2_with fail
      refine (hcn w5 F5).mono ?_
      rintro ed w6 ⟨rfl, f6⟩
      have F6 := F5.then' f6
      replace hb0 := hb0.fr f6 id
      clear x0 x1 x2 x3 x4 x5 x6 x7 x8 xf f6 F5 hcn
      go_wp2_with fail
      go_ret
      exact BoolPost.mk' rfl F6
end Go.Proofs.YtdngcheimohamaaDoor
/- interrexlaw19.EntryReads: the walk. -/
namespace Go.Proofs.YtdngcheimohamaaDoor
open Go.RowKit
theorem enRead_err {bs : List UInt8} (h : (enRead bs).2 ≠ 0) : (enRead bs).1 = zeroE := by
  unfold enRead at *
  split
  · rfl
  · rename_i h1
    rw [if_neg h1] at h
    split
    · rfl
    · rename_i h2
      rw [if_neg h2] at h
      split
      · rfl
      · rename_i h3; rw [if_neg h3] at h; exact absurd rfl h
theorem zeroE_wf : zeroE.wf := ⟨by decide, by decide, by decide, by decide, zeroOp_wf⟩
theorem zeroE_ck : checkE zeroE ≠ 0 := by
  unfold checkE zeroE
  simp only []
  simp
set_option maxRecDepth 100000 in
set_option maxHeartbeats 6400000 in
theorem entryReads_walk (w : World) (ht : SignsAt w) (A : Option Addr) (n c : Nat) (bs : List UInt8) (hx : RowAt w A (bcells bs)) (hn : bs.length = n) (hB : A = none → n = 0 ∧ c = 0) :
    Calls Tryd.prog 5 #[.slice A n c] w (BoolPost w true) := by
  by_cases h300 : 300 < n
  · have d1 : decide ((300 : Int) < n) = true := decide_eq_true (by omega)
    go_enter Tryd.func5, Tryd.ntmps5
    go_wp2_with fail
    refine (lives19_calls w ht).mono ?_
    rintro e w1 ⟨rfl, f1⟩
    go_wp2_with fail
    refine (lives19_calls w1 (ht.fr0 f1)).mono ?_
    rintro e w2 ⟨rfl, f2⟩
    go_wp2_with fail
    go_ret
    exact BoolPost.mk' rfl (f1.then' f2)
  · have d1 : decide ((300 : Int) < n) = false := decide_eq_false (by omega)
    have hlen : bs.length ≤ 1000000000000 := by omega
    have hok := fun e => @enRead_ok bs e
    have her := @enRead_err bs
    have hA := fun W hx => enRead_calls W A n c bs (ht := hx)
    have hR := fun W => enReadR_calls W bs hlen
    generalize enRead bs = q at *
    obtain ⟨e, er⟩ := q
    unfold EnEPost at hA hR
    simp only [] at hA hR hok her
    have hrf := fun W => ref19_calls W e
    have HNQ : Hid (∀ W, (binOp .neq 58 e.v e.v).run Tryd.prog W = .ok (.bool false) W) := fun W => by rw [enNeqR]; simp
    have HM : Hid (Tryd.prog.eqGuardType Tryd.prog.depth 58 = false) := Tryd.gR
    have hne : ((er : Int) != er) = false := by simp
    have HLN := hid hlen
    by_cases he : er = 0
    · obtain ⟨hwf, hck, hbb⟩ := hok e (by rw [he])
      have hby := fun W (f : Fr noB w W) => enBytesOk_calls W e (ht.fr0 f) hwf hck
      rw [hbb] at hby
      unfold BytesEPost at hby
      rw [hn] at hby
      have t1 : ((er : Int) != 0) = false := by rw [bne_eq_false_iff_eq]; omega
      have heq : ((mkS bs).toList == (mkS bs).toList) = true := by simp
      clear hok her hwf hck hbb he
      obtain ⟨op, view, cl, num, ⟨k, oa, ob, on, or⟩⟩ := e
      unfold EnV.v at *
      simp only [] at *
      clear h300 hlen
      go_enter Tryd.func5, Tryd.ntmps5
      go_wp2_with fail
      refine (lives19_calls w ht).mono ?_
      rintro e' w1 ⟨rfl, f1⟩
      go_wp2_with fail
      refine (hA w1 (ht.fr0 f1) (hx.fr0 f1) hn hB (by rw [← hn]; exact HLN.out)).mono ?_
      rintro e' w2 ⟨rfl, f2⟩
      have F2 := f1.then' f2
      have hb1 : BlkAt (w2.alloc (.cells #[.int .u64 op, .int .u64 view, .int .u8 cl, .int .u64 num, .int .u8 k, .string oa, .string ob, .int .u8 on, .int .u8 or] 49)) w2.heap.size 49 #[.int .u64 op, .int .u64 view, .int .u8 cl, .int .u64 num, .int .u8 k, .string oa, .string ob, .int .u8 on, .int .u8 or] := BlkAt.new _ _ _
      have F3 := F2.alloc (.cells #[.int .u64 op, .int .u64 view, .int .u8 cl, .int .u64 num, .int .u8 k, .string oa, .string ob, .int .u8 on, .int .u8 or] 49)
      clear hA f1 f2 F2
      go_upto_region 4 with fail
      generalize hp1 : w2.heap.size = p1 at *
      generalize (w2.alloc (.cells #[.int .u64 op, .int .u64 view, .int .u8 cl, .int .u64 num, .int .u8 k, .string oa, .string ob, .int .u8 on, .int .u8 or] 49)) = w3 at *
      clear hp1
      have hst := Tryd.toStr (hx.fr0 F3) hn c
      go_wp2_with fail
      refine (hR w3).mono ?_
      rintro e' w4 ⟨rfl, f4⟩
      have hb4 := (hb1.fr f4 id).al (.cells #[.int .u64 op, .int .u64 view, .int .u8 cl, .int .u64 num, .int .u8 k, .string oa, .string ob, .int .u8 on, .int .u8 or] 58)
      have F4 := (F3.then' f4).alloc (.cells #[.int .u64 op, .int .u64 view, .int .u8 cl, .int .u64 num, .int .u8 k, .string oa, .string ob, .int .u8 on, .int .u8 or] 58)
      have hb5 : BlkAt (w4.alloc (.cells #[.int .u64 op, .int .u64 view, .int .u8 cl, .int .u64 num, .int .u8 k, .string oa, .string ob, .int .u8 on, .int .u8 or] 58)) w4.heap.size 58 #[.int .u64 op, .int .u64 view, .int .u8 cl, .int .u64 num, .int .u8 k, .string oa, .string ob, .int .u8 on, .int .u8 or] := BlkAt.new _ _ _
      clear hR hst f4 F3 hb1
      go_upto_region 5 with fail
      generalize hp2 : w4.heap.size = p2 at *
      generalize (w4.alloc (.cells #[.int .u64 op, .int .u64 view, .int .u8 cl, .int .u64 num, .int .u8 k, .string oa, .string ob, .int .u8 on, .int .u8 or] 58)) = w5 at *
      clear hp2
      apply wp_region_calm (R := Fr noB) (C := fun q W => Fr noB w5 W ∧ BlkAt W (p1) 49 #[.int .u64 op, .int .u64 view, .int .u8 cl, .int .u64 num, .int .u8 k, .string oa, .string ob, .int .u8 on, .int .u8 or] ∧ BlkAt W (p2) 58 #[.int .u64 op, .int .u64 view, .int .u8 cl, .int .u64 num, .int .u8 k, .string oa, .string ob, .int .u8 on, .int .u8 or]) [false, false, false, false, false, false, false, false, false]
        [eqv _, eqv _, eqv _, eqv (.bool false), eqv (.bool false), eqv _, eqv _, eqv (.bool false), eqv (.bool false)]
        (by kernel_rfl) (by kernel_rfl) (fun _ _ _ h1 h2 => h1.then' h2) ((Fr.refl _ _).drew) ⟨(Fr.refl _ _).drew, hb4, hb5⟩ (by kernel_rfl)
      · refine ⟨?_, ?_, ?_, ?_, ?_, ?_, ?_, ?_, ?_, trivial⟩
        · rw [if_neg (by decide)]; intro kq
          intro a W K hC hd hK
          have d3 : a.tmps[3]?.getD undef = .pointer (some ⟨p1, 0, none⟩) := hd 3 (by decide)
          refine wpOp_plain rfl rfl ?_
          obtain ⟨x0_0, x0_1, x0_2, x0_3, x0_4, x0_5, x0_6, x0_7, x0_8, z0⟩ := BlkAt.c9 (hC.2.1)
          obtain ⟨x1_0, x1_1, x1_2, x1_3, x1_4, x1_5, x1_6, x1_7, x1_8, z1⟩ := BlkAt.c9 (hC.2.2)
          go_wp2_with fail
          exact hK _ _ (Fr.refl _ _) hC rfl
        · rw [if_neg (by decide)]; intro kq
          intro a W K hC hd hK
          have d28 : _ = _ := hd 28 (by decide)
          refine wpOp_plain rfl rfl ?_
          obtain ⟨x0_0, x0_1, x0_2, x0_3, x0_4, x0_5, x0_6, x0_7, x0_8, z0⟩ := BlkAt.c9 (hC.2.1)
          obtain ⟨x1_0, x1_1, x1_2, x1_3, x1_4, x1_5, x1_6, x1_7, x1_8, z1⟩ := BlkAt.c9 (hC.2.2)
          go_wp2_with fail
          refine (hrf W).mono ?_
          rintro e w9 ⟨rfl, f9⟩
          exact hK _ _ f9 ⟨hC.1.then' f9, hC.2.1.fr f9 id, hC.2.2.fr f9 id⟩ rfl
        · rw [if_neg (by decide)]; intro kq
          intro a W K hC hd hK
          have d5 : a.tmps[5]?.getD undef = .pointer (some ⟨p2, 0, none⟩) := hd 5 (by decide)
          refine wpOp_plain rfl rfl ?_
          obtain ⟨x0_0, x0_1, x0_2, x0_3, x0_4, x0_5, x0_6, x0_7, x0_8, z0⟩ := BlkAt.c9 (hC.2.1)
          obtain ⟨x1_0, x1_1, x1_2, x1_3, x1_4, x1_5, x1_6, x1_7, x1_8, z1⟩ := BlkAt.c9 (hC.2.2)
          go_wp2_with fail
          exact hK _ _ (Fr.refl _ _) hC rfl
        · rw [if_neg (by decide)]; intro kq
          intro a W K hC hd hK
          have d29 : _ = _ := hd 29 (by decide)
          have d30 : _ = _ := hd 30 (by decide)
          refine wpOp_plain rfl rfl ?_
          have hnq := HNQ.out
          have hm := HM.out
          go_wp2_with fail
          exact hK _ _ (Fr.refl _ _) hC rfl
        · rw [if_neg (by decide)]; intro kq
          exact calm_mv 31 rfl rfl (Or.inl rfl) (Fr.refl _) (by decide) fun v w hd => hd
        · rw [if_neg (by decide)]; intro kq
          intro a W K hC hd hK
          have d4 : a.tmps[4]?.getD undef = .int .i64 er := hd 4 (by decide)
          have d32 : a.tmps[32]?.getD undef = .bool false := hd 32 (by decide)
          first | (exact wpOp_skip rfl (wanted_of (want := false) (b := true) rfl rfl (by rw [eval_get]; exact d32)) (hK _ _ (Fr.refl _ _) hC rfl)) | (refine wpOp_want rfl (wanted_of (want := false) (b := false) rfl rfl (by rw [eval_get]; exact d32)) ?_)
          all_goals (
            go_wp2_with fail
            exact hK _ _ (Fr.refl _ _) hC rfl)
        · rw [if_neg (by decide)]; intro kq
          intro a W K hC hd hK
          have d6 : a.tmps[6]?.getD undef = .int .i64 er := hd 6 (by decide)
          have d32 : a.tmps[32]?.getD undef = .bool false := hd 32 (by decide)
          first | (exact wpOp_skip rfl (wanted_of (want := false) (b := true) rfl rfl (by rw [eval_get]; exact d32)) (hK _ _ (Fr.refl _ _) hC rfl)) | (refine wpOp_want rfl (wanted_of (want := false) (b := false) rfl rfl (by rw [eval_get]; exact d32)) ?_)
          all_goals (
            go_wp2_with fail
            exact hK _ _ (Fr.refl _ _) hC rfl)
        · rw [if_neg (by decide)]; intro kq
          intro a W K hC hd hK
          have d33 : _ = _ := hd 33 (by decide)
          have d34 : _ = _ := hd 34 (by decide)
          have d32 : a.tmps[32]?.getD undef = .bool false := hd 32 (by decide)
          first | (exact wpOp_skip rfl (wanted_of (want := false) (b := true) rfl rfl (by rw [eval_get]; exact d32)) (hK _ _ (Fr.refl _ _) hC rfl)) | (refine wpOp_want rfl (wanted_of (want := false) (b := false) rfl rfl (by rw [eval_get]; exact d32)) ?_)
          all_goals (
            go_wp2_with fail
            exact hK _ _ (Fr.refl _ _) hC rfl)
        · rw [if_neg (by decide)]; intro kq
          intro a W K hC hd hK
          have d32 : a.tmps[32]?.getD undef = .bool false := hd 32 (by decide)
          have d35 : a.tmps[35]?.getD undef = .bool false := hd 35 (by decide)
          refine wpOp_plain rfl rfl ?_
          go_wp2_with fail
          exact hK _ _ (Fr.refl _ _) hC rfl
      · intro vs w6 fw6 cw6 hV
        have v28 : vs 0 = _ := hV 0 _ _ rfl rfl (by decide)
        have v29 : vs 1 = _ := hV 1 _ _ rfl rfl (by decide)
        have v30 : vs 2 = _ := hV 2 _ _ rfl rfl (by decide)
        have v31 : vs 3 = .bool false := hV 3 _ _ rfl rfl (by decide)
        have v32 : vs 4 = .bool false := hV 4 _ _ rfl rfl (by decide)
        have v33 : vs 5 = _ := hV 5 _ _ rfl rfl (by decide)
        have v34 : vs 6 = _ := hV 6 _ _ rfl rfl (by decide)
        have v35 : vs 7 = .bool false := hV 7 _ _ rfl rfl (by decide)
        have v36 : vs 8 = .bool false := hV 8 _ _ rfl rfl (by decide)
        clear hV
        replace hb4 : BlkAt w6 (p1) 49 #[.int .u64 op, .int .u64 view, .int .u8 cl, .int .u64 num, .int .u8 k, .string oa, .string ob, .int .u8 on, .int .u8 or] := cw6.2.1
        replace hb5 : BlkAt w6 (p2) 58 #[.int .u64 op, .int .u64 view, .int .u8 cl, .int .u64 num, .int .u8 k, .string oa, .string ob, .int .u8 on, .int .u8 or] := cw6.2.2
        replace F4 := F4.trans fw6 (fun i hi h => h.elim)
        clear cw6
        simp only [putL, Act.put, Nat.reduceAdd, List.setIfInBounds_toArray, List.set_cons_zero, List.set_cons_succ, v28, v29, v30, v31, v32, v33, v34, v35, v36]
        obtain ⟨x0, x1, x2, x3, x4, x5, x6, x7, x8, xf⟩ := BlkAt.c9 hb4
        go_wp2_with fail
        refine (hby w6 F4).mono ?_
        rintro e' w7 ⟨A', c', rfl, h7, f7⟩
        have F7 := F4.then' f7
        have hst1 := Tryd.toStr (own_row h7) hn c'
        have hst2 := Tryd.toStr (hx.fr0 F7) hn c
        clear hby hn h7 hx
        clear x0 x1 x2 x3 x4 x5 x6 x7 x8 xf
        go_wp2_with fail
        go_ret
        exact BoolPost.mk' rfl F7
    · obtain rfl : e = zeroE := her he
      have hby := fun W (f : Fr noB w W) => enBytesNo_calls W zeroE (ht.fr0 f) zeroE_wf (by decide) (by decide) zeroE_ck
      have t1 : ((er : Int) != 0) = true := by rw [bne_iff_ne]; omega
      generalize zeroE = e at *
      clear hok her he
      generalize checkE e = cv at *
      obtain ⟨op, view, cl, num, ⟨k, oa, ob, on, or⟩⟩ := e
      unfold EnV.v at *
      simp only [] at *
      clear h300 hlen
      go_enter Tryd.func5, Tryd.ntmps5
      go_wp2_with fail
      refine (lives19_calls w ht).mono ?_
      rintro e' w1 ⟨rfl, f1⟩
      go_wp2_with fail
      refine (hA w1 (ht.fr0 f1) (hx.fr0 f1) hn hB (by rw [← hn]; exact HLN.out)).mono ?_
      rintro e' w2 ⟨rfl, f2⟩
      have F2 := f1.then' f2
      have hb1 : BlkAt (w2.alloc (.cells #[.int .u64 op, .int .u64 view, .int .u8 cl, .int .u64 num, .int .u8 k, .string oa, .string ob, .int .u8 on, .int .u8 or] 49)) w2.heap.size 49 #[.int .u64 op, .int .u64 view, .int .u8 cl, .int .u64 num, .int .u8 k, .string oa, .string ob, .int .u8 on, .int .u8 or] := BlkAt.new _ _ _
      have F3 := F2.alloc (.cells #[.int .u64 op, .int .u64 view, .int .u8 cl, .int .u64 num, .int .u8 k, .string oa, .string ob, .int .u8 on, .int .u8 or] 49)
      clear hA f1 f2 F2
      go_upto_region 4 with fail
      generalize hp1 : w2.heap.size = p1 at *
      generalize (w2.alloc (.cells #[.int .u64 op, .int .u64 view, .int .u8 cl, .int .u64 num, .int .u8 k, .string oa, .string ob, .int .u8 on, .int .u8 or] 49)) = w3 at *
      clear hp1
      have hst := Tryd.toStr (hx.fr0 F3) hn c
      go_wp2_with fail
      refine (hR w3).mono ?_
      rintro e' w4 ⟨rfl, f4⟩
      have hb4 := (hb1.fr f4 id).al (.cells #[.int .u64 op, .int .u64 view, .int .u8 cl, .int .u64 num, .int .u8 k, .string oa, .string ob, .int .u8 on, .int .u8 or] 58)
      have F4 := (F3.then' f4).alloc (.cells #[.int .u64 op, .int .u64 view, .int .u8 cl, .int .u64 num, .int .u8 k, .string oa, .string ob, .int .u8 on, .int .u8 or] 58)
      have hb5 : BlkAt (w4.alloc (.cells #[.int .u64 op, .int .u64 view, .int .u8 cl, .int .u64 num, .int .u8 k, .string oa, .string ob, .int .u8 on, .int .u8 or] 58)) w4.heap.size 58 #[.int .u64 op, .int .u64 view, .int .u8 cl, .int .u64 num, .int .u8 k, .string oa, .string ob, .int .u8 on, .int .u8 or] := BlkAt.new _ _ _
      clear hR hst f4 F3 hb1
      go_upto_region 5 with fail
      generalize hp2 : w4.heap.size = p2 at *
      generalize (w4.alloc (.cells #[.int .u64 op, .int .u64 view, .int .u8 cl, .int .u64 num, .int .u8 k, .string oa, .string ob, .int .u8 on, .int .u8 or] 58)) = w5 at *
      clear hp2
      apply wp_region_calm (R := Fr noB) (C := fun q W => Fr noB w5 W ∧ BlkAt W (p1) 49 #[.int .u64 op, .int .u64 view, .int .u8 cl, .int .u64 num, .int .u8 k, .string oa, .string ob, .int .u8 on, .int .u8 or] ∧ BlkAt W (p2) 58 #[.int .u64 op, .int .u64 view, .int .u8 cl, .int .u64 num, .int .u8 k, .string oa, .string ob, .int .u8 on, .int .u8 or]) [false, false, false, false, false, false, false, false, false]
        [eqv _, eqv _, eqv _, eqv (.bool false), eqv (.bool false), eqv _, eqv _, eqv (.bool false), eqv (.bool false)]
        (by kernel_rfl) (by kernel_rfl) (fun _ _ _ h1 h2 => h1.then' h2) ((Fr.refl _ _).drew) ⟨(Fr.refl _ _).drew, hb4, hb5⟩ (by kernel_rfl)
      · refine ⟨?_, ?_, ?_, ?_, ?_, ?_, ?_, ?_, ?_, trivial⟩
        · rw [if_neg (by decide)]; intro kq
          intro a W K hC hd hK
          have d3 : a.tmps[3]?.getD undef = .pointer (some ⟨p1, 0, none⟩) := hd 3 (by decide)
          refine wpOp_plain rfl rfl ?_
          obtain ⟨x0_0, x0_1, x0_2, x0_3, x0_4, x0_5, x0_6, x0_7, x0_8, z0⟩ := BlkAt.c9 (hC.2.1)
          obtain ⟨x1_0, x1_1, x1_2, x1_3, x1_4, x1_5, x1_6, x1_7, x1_8, z1⟩ := BlkAt.c9 (hC.2.2)
          go_wp2_with fail
          exact hK _ _ (Fr.refl _ _) hC rfl
        · rw [if_neg (by decide)]; intro kq
          intro a W K hC hd hK
          have d28 : _ = _ := hd 28 (by decide)
          refine wpOp_plain rfl rfl ?_
          obtain ⟨x0_0, x0_1, x0_2, x0_3, x0_4, x0_5, x0_6, x0_7, x0_8, z0⟩ := BlkAt.c9 (hC.2.1)
          obtain ⟨x1_0, x1_1, x1_2, x1_3, x1_4, x1_5, x1_6, x1_7, x1_8, z1⟩ := BlkAt.c9 (hC.2.2)
          go_wp2_with fail
          refine (hrf W).mono ?_
          rintro e w9 ⟨rfl, f9⟩
          exact hK _ _ f9 ⟨hC.1.then' f9, hC.2.1.fr f9 id, hC.2.2.fr f9 id⟩ rfl
        · rw [if_neg (by decide)]; intro kq
          intro a W K hC hd hK
          have d5 : a.tmps[5]?.getD undef = .pointer (some ⟨p2, 0, none⟩) := hd 5 (by decide)
          refine wpOp_plain rfl rfl ?_
          obtain ⟨x0_0, x0_1, x0_2, x0_3, x0_4, x0_5, x0_6, x0_7, x0_8, z0⟩ := BlkAt.c9 (hC.2.1)
          obtain ⟨x1_0, x1_1, x1_2, x1_3, x1_4, x1_5, x1_6, x1_7, x1_8, z1⟩ := BlkAt.c9 (hC.2.2)
          go_wp2_with fail
          exact hK _ _ (Fr.refl _ _) hC rfl
        · rw [if_neg (by decide)]; intro kq
          intro a W K hC hd hK
          have d29 : _ = _ := hd 29 (by decide)
          have d30 : _ = _ := hd 30 (by decide)
          refine wpOp_plain rfl rfl ?_
          have hnq := HNQ.out
          have hm := HM.out
          go_wp2_with fail
          exact hK _ _ (Fr.refl _ _) hC rfl
        · rw [if_neg (by decide)]; intro kq
          exact calm_mv 31 rfl rfl (Or.inl rfl) (Fr.refl _) (by decide) fun v w hd => hd
        · rw [if_neg (by decide)]; intro kq
          intro a W K hC hd hK
          have d4 : a.tmps[4]?.getD undef = .int .i64 er := hd 4 (by decide)
          have d32 : a.tmps[32]?.getD undef = .bool false := hd 32 (by decide)
          first | (exact wpOp_skip rfl (wanted_of (want := false) (b := true) rfl rfl (by rw [eval_get]; exact d32)) (hK _ _ (Fr.refl _ _) hC rfl)) | (refine wpOp_want rfl (wanted_of (want := false) (b := false) rfl rfl (by rw [eval_get]; exact d32)) ?_)
          all_goals (
            go_wp2_with fail
            exact hK _ _ (Fr.refl _ _) hC rfl)
        · rw [if_neg (by decide)]; intro kq
          intro a W K hC hd hK
          have d6 : a.tmps[6]?.getD undef = .int .i64 er := hd 6 (by decide)
          have d32 : a.tmps[32]?.getD undef = .bool false := hd 32 (by decide)
          first | (exact wpOp_skip rfl (wanted_of (want := false) (b := true) rfl rfl (by rw [eval_get]; exact d32)) (hK _ _ (Fr.refl _ _) hC rfl)) | (refine wpOp_want rfl (wanted_of (want := false) (b := false) rfl rfl (by rw [eval_get]; exact d32)) ?_)
          all_goals (
            go_wp2_with fail
            exact hK _ _ (Fr.refl _ _) hC rfl)
        · rw [if_neg (by decide)]; intro kq
          intro a W K hC hd hK
          have d33 : _ = _ := hd 33 (by decide)
          have d34 : _ = _ := hd 34 (by decide)
          have d32 : a.tmps[32]?.getD undef = .bool false := hd 32 (by decide)
          first | (exact wpOp_skip rfl (wanted_of (want := false) (b := true) rfl rfl (by rw [eval_get]; exact d32)) (hK _ _ (Fr.refl _ _) hC rfl)) | (refine wpOp_want rfl (wanted_of (want := false) (b := false) rfl rfl (by rw [eval_get]; exact d32)) ?_)
          all_goals (
            go_wp2_with fail
            exact hK _ _ (Fr.refl _ _) hC rfl)
        · rw [if_neg (by decide)]; intro kq
          intro a W K hC hd hK
          have d32 : a.tmps[32]?.getD undef = .bool false := hd 32 (by decide)
          have d35 : a.tmps[35]?.getD undef = .bool false := hd 35 (by decide)
          refine wpOp_plain rfl rfl ?_
          go_wp2_with fail
          exact hK _ _ (Fr.refl _ _) hC rfl
      · intro vs w6 fw6 cw6 hV
        have v28 : vs 0 = _ := hV 0 _ _ rfl rfl (by decide)
        have v29 : vs 1 = _ := hV 1 _ _ rfl rfl (by decide)
        have v30 : vs 2 = _ := hV 2 _ _ rfl rfl (by decide)
        have v31 : vs 3 = .bool false := hV 3 _ _ rfl rfl (by decide)
        have v32 : vs 4 = .bool false := hV 4 _ _ rfl rfl (by decide)
        have v33 : vs 5 = _ := hV 5 _ _ rfl rfl (by decide)
        have v34 : vs 6 = _ := hV 6 _ _ rfl rfl (by decide)
        have v35 : vs 7 = .bool false := hV 7 _ _ rfl rfl (by decide)
        have v36 : vs 8 = .bool false := hV 8 _ _ rfl rfl (by decide)
        clear hV
        replace hb4 : BlkAt w6 (p1) 49 #[.int .u64 op, .int .u64 view, .int .u8 cl, .int .u64 num, .int .u8 k, .string oa, .string ob, .int .u8 on, .int .u8 or] := cw6.2.1
        replace hb5 : BlkAt w6 (p2) 58 #[.int .u64 op, .int .u64 view, .int .u8 cl, .int .u64 num, .int .u8 k, .string oa, .string ob, .int .u8 on, .int .u8 or] := cw6.2.2
        replace F4 := F4.trans fw6 (fun i hi h => h.elim)
        clear cw6
        simp only [putL, Act.put, Nat.reduceAdd, List.setIfInBounds_toArray, List.set_cons_zero, List.set_cons_succ, v28, v29, v30, v31, v32, v33, v34, v35, v36]
        obtain ⟨x0, x1, x2, x3, x4, x5, x6, x7, x8, xf⟩ := BlkAt.c9 hb4
        go_wp2_with fail
        refine (hby w6 F4).mono ?_
        rintro e' w7 ⟨rfl, f7⟩
        have F7 := F4.then' f7
        clear hby hn hx
        clear x0 x1 x2 x3 x4 x5 x6 x7 x8 xf
        go_wp2_with fail
        go_ret
        exact BoolPost.mk' rfl F7
theorem entryReads_law (w : World) (ht : SignsAt w) (A : Option Addr) (n c : Nat) (b : List UInt8) (o : RowAt w A (bcells b) ∧ b.length = n ∧ n ≤ c ∧ c ≤ maxLen ∧ (A = none → n = 0 ∧ c = 0)) :
    Calls Tryd.prog 5 #[.slice A n c] w (BoolPost w true) :=
  entryReads_walk w ht A n c b o.1 o.2.1 o.2.2.2.2
end Go.Proofs.YtdngcheimohamaaDoor
/- entry.GetRow. -/
namespace Go.Proofs.YtdngcheimohamaaDoor
open Go.RowKit
theorem Tryd.appEn : AppTy Tryd.prog 34 49 (.agg #[.int .u64 0, .int .u64 0, .int .u8 0, .int .u64 0, .int .u8 0, .string ⟨#[]⟩, .string ⟨#[]⟩, .int .u8 0, .int .u8 0]) 9 80 := ⟨Tryd.underlying34, by kernel_rfl, rfl, by decide⟩
/-- A row of entries read: how many, the reader, the entries so far. -/
noncomputable def enRow : Nat → Rd → List EnV → Rd × List EnV
  | 0, r, es => (r, es)
  | n + 1, r, es => if (rText r 91).1.e ≠ 0 then ((rText r 91).1, []) else if (enRead (rText r 91).2).2 ≠ 0 then (rFail (rText r 91).1 (enRead (rText r 91).2).2, []) else enRow n (rText r 91).1 (es ++ [(enRead (rText r 91).2).1])
noncomputable def enGet (r : Rd) : Rd × List EnV := enRow (rNum r 2).2 (rNum r 2).1 []
theorem enRow_step {n j : Nat} (h : j < n) (r : Rd) (es : List EnV) : enRow (n - j) r es = if (rText r 91).1.e ≠ 0 then ((rText r 91).1, []) else if (enRead (rText r 91).2).2 ≠ 0 then (rFail (rText r 91).1 (enRead (rText r 91).2).2, []) else enRow (n - (j + 1)) (rText r 91).1 (es ++ [(enRead (rText r 91).2).1]) := by
  obtain ⟨m, hm⟩ : ∃ m, n - j = m + 1 := ⟨n - j - 1, by omega⟩
  have h2 : n - (j + 1) = m := by omega
  rw [hm, h2]; rfl
theorem rText_short (r : Rd) (most : Int) : (rText r most).2.length ≤ 65535 := by
  have h1 : (rText r most).2.length ≤ (rCount r most).2 := by
    show (rTake _ _).2.length ≤ _
    unfold rTake; split <;> simp [List.length_take] <;> omega
  have h2 : (rCount r most).2 < 65536 := by
    have := rNum_lt r 2
    unfold rCount; split
    · exact Nat.zero_lt_succ _
    · exact this
  omega
/-- A row's cells at a slice. -/
structure EnsA (w : World) (A : Option Addr) (n c : Nat) (es : List EnV) : Prop where
  len : Hid (es.length = n)
  row : RowAt w A (es.flatMap EnV.C)
theorem EnsA.fr0 {w w' : World} {A : Option Addr} {n c : Nat} {es : List EnV} (h : EnsA w A n c es) (f : Fr noB w w') : EnsA w' A n c es := ⟨h.len, h.row.fr0 f⟩
def GRPost (w : World) (S : Nat → Prop) (p : Nat) (q : Rd × List EnV) (e : Ending) (w' : World) : Prop :=
  ∃ A n c, e = .returned (.slice A n c) ∧ EnsA w' A n c q.2 ∧ n ≤ 65535 ∧ (∀ ad, A = some ad → w.heap.size ≤ ad.block) ∧ RdAt w' S p q.1 ∧ Fr S w w'
theorem GRPost.nil {w w' : World} {S : Nat → Prop} {p : Nat} {q : Rd × List EnV} (h : q.2 = []) (hr : RdAt w' S p q.1) (f : Fr S w w') : GRPost w S p q (.returned (.slice none 0 0)) w' :=
  ⟨none, 0, 0, rfl, ⟨by rw [h]; rfl, by rw [h]; exact RowAt.nil _ _⟩, by omega, fun _ e => (by cases e), hr, f⟩
theorem ownE_caps' {w : World} {base n : Nat} {e : TypeId} {size : Nat} {A : Option Addr} {m c : Nat} {xs : List Value} (h : w.ownsRow base e size (.slice A m c) n xs) : ∀ ad, A = some ad → base ≤ ad.block := by
  rcases h.2 with ⟨e1, _⟩ | ⟨g, cap, cur, e1, hb, _⟩
  · injection e1 with h0 h1 h2; subst h0; exact fun _ h => (by cases h)
  · injection e1 with h0 h1 h2; subst h0; exact fun ad h => (by cases h; exact hb)
set_option maxRecDepth 100000 in
set_option maxHeartbeats 6400000 in
theorem enGetRow_calls (w : World) (S : Nat → Prop) (p : Nat) (r : Rd) (hT : ∀ W, Fr S w W → SignsAt W) (h : RdAt w S p r) (hS : ∀ k, S k → k < w.heap.size) :
    Calls Tryd.prog 25 #[.pointer (some ⟨p, 0, none⟩)] w (GRPost w S p (enGet r)) := by
  have hc := twoRd_calls w S p r h
  have hx : (rNum r 2).2 < 65536 := rNum_lt r 2
  have HV : Hid (enGet r = enRow (rNum r 2).2 (rNum r 2).1 []) := rfl
  generalize enGet r = res at *
  generalize (rNum r 2).1 = r1 at *
  generalize (rNum r 2).2 = x at *
  go_enter Tryd.func25, Tryd.ntmps25
  go_wp2_with fail
  refine hc.mono ?_
  rintro e w1 ⟨rfl, h1, f1⟩
  clear hc
  go_wp2_with fail
  go_loopw [3, 9] (fun v i wr => ∃ (j : Nat) (rj : Rd) (es : List EnV), j ≤ x ∧ i = .int .u16 j ∧ res = enRow (x - j) rj es ∧ (∃ A c, v = .slice A j c ∧ wr.ownsRow w.heap.size 49 9 (.slice A j c) j (es.flatMap EnV.C)) ∧ Hid (es.length = j) ∧ RdAt wr S p rj ∧ Fr S w wr) (fun _ i _ => x - (intOf i).toNat)
  case atStart => exact ⟨0, r1, [], Nat.zero_le _, rfl, HV.out, ⟨none, 0, rfl, World.ownsRow_nil _ _ _ _⟩, rfl, h1, f1⟩
  case round =>
    clear HV h1 f1
    obtain ⟨j, rj, es, hj, rfl, hres, ⟨A, c, rfl, hown⟩, hlen, hr, hf⟩ := hrel
    by_cases hjx : j < x
    · have HR := hid (hres.trans (enRow_step hjx rj es))
      clear hres
      have hct := textRd_calls wr S p rj 91 hr (by decide) (by decide)
      have hsh := rText_short rj 91
      generalize rText rj 91 = q at *
      obtain ⟨r2, t⟩ := q
      have hrd := fun W A n c h1 h2 h3 h4 h5 => enRead_calls W A n c t h1 h2 h3 h4 h5
      generalize enRead t = y at *
      obtain ⟨e, er⟩ := y
      unfold EnEPost at hrd
      simp only [] at hct hrd HR hsh
      go_wp2_with fail
      refine hct.mono ?_
      rintro ed w2 ⟨rfl, h2, f2⟩
      have F2 := hf.then' f2
      have hown2 := own_fr hown f2 (fun g hg hs => by have := (hown.lt g hg).1; have := hS g hs; omega)
      have hE := errRd_calls w2 S p r2 h2
      clear hct hf f2 hown hr
      by_cases h0 : r2.e = 0
      · rw [if_neg (by omega)] at HR
        rw [h0] at hE
        go_wp2_with fail
        refine hE.mono ?_
        rintro ed w3 ⟨rfl, rfl⟩
        clear hE
        have hcv := Tryd.fromStr w2 (mkS t)
        have hwf := bytesW_fr w2 (mkS t)
        have hwr := bytesW_row w2 (mkS t)
        rw [mkS_data] at hwr
        rw [mkS_size] at hcv
        generalize Lib.bytesWorld w2 5 (mkS t) = wc at *
        generalize (⟨w2.heap.size, 0, none⟩ : Addr) = ad at *
        have FC := F2.then' (hwf.mono fun _ _ h => h.elim)
        have hrd' := fun c => hrd wc (some ad) t.length c (hT wc FC) hwr rfl (fun e => nomatch e) (by omega)
        have hrC := h2.fr hwf (fun _ _ _ => id)
        have hownC := own_fr hown2 hwf (fun _ _ => id)
        clear hrd hwf hwr F2 h2 hown2
        obtain ⟨m, hm⟩ : ∃ m, t.length = m := ⟨_, rfl⟩
        rw [hm] at hcv hrd'
        clear hm hsh
        go_wp2_with fail
        refine (hrd' _).mono ?_
        rintro ed w4 ⟨rfl, f4⟩
        have F4 := FC.then' (f4.mono fun _ _ h => h.elim)
        have hr4 := hrC.fr f4 (fun _ _ _ => id)
        have hown4 := own_fr hownC f4 (fun _ _ => id)
        have hone : ∀ u ∈ e.C, u.oneCell' = true := by intro u hu; simp [EnV.C] at hu; rcases hu with rfl | rfl | rfl | rfl | rfl | rfl | rfl | rfl | rfl <;> rfl
        have hap : (es ++ [e]).flatMap EnV.C = es.flatMap EnV.C ++ e.C := by simp
        obtain ⟨ys, hys⟩ : ∃ x, (es ++ [e]).flatMap EnV.C = x := ⟨_, rfl⟩
        rw [hys] at hap
        have HAP := hid hap
        have HYS := hid hys
        clear hrd' hcv FC hrC hownC f4 hap hys
        obtain ⟨op, view, cl, num, ⟨k, oa, ob, on, or⟩⟩ := e
        unfold EnV.v
        unfold EnV.C at hone
        simp only [] at hone ⊢
        have fa := (Fr.refl noB w4).alloc (.cells #[.int .u64 op, .int .u64 view, .int .u8 cl, .int .u64 num, .int .u8 k, .string oa, .string ob, .int .u8 on, .int .u8 or] 49)
        have hb : BlkAt (w4.alloc (.cells #[.int .u64 op, .int .u64 view, .int .u8 cl, .int .u64 num, .int .u8 k, .string oa, .string ob, .int .u8 on, .int .u8 or] 49)) w4.heap.size 49 #[.int .u64 op, .int .u64 view, .int .u8 cl, .int .u64 num, .int .u8 k, .string oa, .string ob, .int .u8 on, .int .u8 or] := BlkAt.new _ _ _
        have F5 := F4.then' (fa.mono fun _ _ h => h.elim)
        have hr5 := hr4.fr fa (fun _ _ _ => id)
        have hown5 := own_fr hown4 fa (fun _ _ => id)
        go_upto_region 8 with fail
        generalize hpy : w4.heap.size = py at *
        generalize (w4.alloc (.cells #[.int .u64 op, .int .u64 view, .int .u8 cl, .int .u64 num, .int .u8 k, .string oa, .string ob, .int .u8 on, .int .u8 or] 49)) = w5 at *
        clear hpy fa F4 hr4 hown4
        by_cases he : er = 0
        · rw [if_neg (by omega)] at HR
          subst he
          obtain ⟨z0, z1, z2, z3, z4, z5, z6, z7, z8, zf⟩ := BlkAt.c9 hb
          generalize es.flatMap EnV.C = xs at *
          have hOa : (w5.alloc (.cells #[.int .u64 op, .int .u64 view, .int .u8 cl, .int .u64 num, .int .u8 k, .string oa, .string ob, .int .u8 on, .int .u8 or] 49)).ownsRow 0 49 9 (.slice A j c) j xs := own_mono (own_fr hown5 ((Fr.refl noB w5).alloc _) (fun _ _ => id)) (fun _ _ => Nat.zero_le _)
          have Fa : Fr S w (w5.alloc (.cells #[.int .u64 op, .int .u64 view, .int .u8 cl, .int .u64 num, .int .u8 k, .string oa, .string ob, .int .u8 on, .int .u8 or] 49)) := F5.alloc _
          have hra := hr5.fr ((Fr.refl noB w5).alloc (.cells #[.int .u64 op, .int .u64 view, .int .u8 cl, .int .u64 num, .int .u8 k, .string oa, .string ob, .int .u8 on, .int .u8 or] 49)) (fun _ _ _ => id)
          have hbase : ∀ g, (Value.slice A j c).ownBlock = some g → w.heap.size ≤ g := fun g hg => (hown5.lt g hg).1
          have hs5 := F5.size
          clear hb hown5 F5 hr5 h0
          go_wp2_with (at_builtin; refine wpList_app Tryd.appEn rfl (.tmp 27) (.tmp 29) rfl _ j xs rfl hOa _ 1 1 [.int .u64 op, .int .u64 view, .int .u8 cl, .int .u64 num, .int .u8 k, .string oa, .string ob, .int .u8 on, .int .u8 or] rfl rfl (new_row _ _ _) hone (by simp) (by omega) (by omega) ?_)
          intro A' c' w6 hown6 hg hat
          have f6 : Fr S w w6 := Fr.grown Fa hg (fun g hg => Or.inr (hbase g hg))
          have hr6 : RdAt w6 S p r2 := hra.fr (Fr.grown (Fr.refl (fun k => w.heap.size ≤ k) _) hg (fun g hg => Or.inl (hbase g hg))) (fun g _ h1 h2 => by have := hS g h1; omega)
          have hO6 : w6.ownsRow w.heap.size 49 9 (.slice A' (j + 1) c') (j + 1) ys := by
            have h9 := HAP.out
            unfold EnV.C at h9
            rw [h9]
            refine own_mono hown6 (fun g hg => ?_)
            rcases hat with e | e
            · exact hbase g (e ▸ hg)
            · rw [hg] at e; simp at e; omega
          clear hg hat hown6 hOa Fa hra
          go_wp2_with fail
          go_roundw
          case rel => exact ⟨j + 1, r2, _, by omega, by go_num, HR.out, ⟨A', c', rfl, by rw [HYS.out]; exact hO6⟩, by unfold Hid; rw [List.length_append, hlen.out]; rfl, hr6, f6⟩
          case measure => simp [intOf]; omega
        · rw [if_pos he] at HR
          have t2 : ((er : Int) != 0) = true := by rw [bne_iff_ne]; omega
          clear hone hb hown5
          go_wp2_with fail
          refine (fail_calls w5 S p r2 er hr5).mono ?_
          rintro ed w6 ⟨rfl, h6, f6⟩
          go_wp2_with fail
          go_ret
          exact GRPost.nil (by rw [HR.out]) (by rw [HR.out]; exact h6) (F5.then' f6)
      · rw [if_pos h0] at HR
        have t2 : ((r2.e : Int) != 0) = true := by rw [bne_iff_ne]; omega
        generalize hre : (r2.e : Int) = re at *
        clear hre h0
        go_wp2_with fail
        refine hE.mono ?_
        rintro ed w3 ⟨rfl, rfl⟩
        clear hE hrd
        go_wp2_with fail
        go_ret
        exact GRPost.nil (by rw [HR.out]) (by rw [HR.out]; exact h2) F2
    · have : j = x := by omega
      subst this
      have HR : Hid (res = (rj, es)) := by unfold Hid; rw [hres, Nat.sub_self]; rfl
      clear hres
      go_wp2_with fail
      go_ret
      rw [HR.out]
      exact ⟨A, j, c, rfl, ⟨hlen, own_row hown⟩, by omega, (ownE_caps' hown), hr, hf⟩
end Go.Proofs.YtdngcheimohamaaDoor
/- interrexref19.GetRow. -/
namespace Go.Proofs.YtdngcheimohamaaDoor
open Go.RowKit
theorem Tryd.appRn : AppTy Tryd.prog 72 58 (.agg #[.int .u64 0, .int .u64 0, .int .u8 0, .int .u64 0, .int .u8 0, .string ⟨#[]⟩, .string ⟨#[]⟩, .int .u8 0, .int .u8 0]) 9 80 := ⟨Tryd.underlying72, by kernel_rfl, rfl, by decide⟩
def GRRPost (w : World) (q : Rd × List EnV) (e : Ending) (w' : World) : Prop :=
  ∃ A n c, e = .returned (.tuple #[q.1.val, .slice A n c]) ∧ EnsA w' A n c q.2 ∧ n ≤ 65535 ∧ Fr noB w w'
theorem GRRPost.nil {w w' : World} {q : Rd × List EnV} {rv : Value} (h : q.2 = []) (hr : rv = q.1.val) (f : Fr noB w w') : GRRPost w q (.returned (.tuple #[rv, .slice none 0 0])) w' :=
  ⟨none, 0, 0, by rw [hr], ⟨by rw [h]; rfl, by rw [h]; exact RowAt.nil _ _⟩, by omega, f⟩
theorem fr_two (w : World) (b : Nat) (u0 u1 : Value) : Fr (eqB b) w ((w.setCell ⟨b, 0, none⟩ u0).setCell ⟨b, 1, none⟩ u1) := (fr_set1 w b 0 u0).then' (fr_set1 _ b 1 u1)
set_option maxRecDepth 100000 in
set_option maxHeartbeats 6400000 in
theorem enGetRowR_calls (w : World) (r : Rd) (hi : r.inv) (hl : r.bs.length ≤ 1000000000000) :
    Calls Tryd.prog 26 #[.agg #[.string (mkS r.bs), .int .i64 (r.e : Nat)]] w (GRRPost w (enGet r)) := by
  have hc := fun W => getR_calls W r 2 hi hl (by omega)
  have hx : (rNum r 2).2 < 65536 := rNum_lt r 2
  have hi1 := rNum_inv 2 hi
  have hl1 : (rNum r 2).1.bs.length ≤ 1000000000000 := Nat.le_trans (rNum_left r 2) hl
  have HV : Hid (enGet r = enRow (rNum r 2).2 (rNum r 2).1 []) := rfl
  have f0 : Fr noB w ((w.alloc (.cells #[.string (mkS r.bs), .int .i64 (r.e : Nat)] 71)).alloc (.cells #[.string ⟨#[]⟩, .int .i64 0] 71)) := ((Fr.refl noB w).alloc _).alloc _
  have hb0 : BlkAt ((w.alloc (.cells #[.string (mkS r.bs), .int .i64 (r.e : Nat)] 71)).alloc (.cells #[.string ⟨#[]⟩, .int .i64 0] 71)) w.heap.size 71 #[.string (mkS r.bs), .int .i64 (r.e : Nat)] := (BlkAt.new _ _ _).al _
  have hb1 : BlkAt ((w.alloc (.cells #[.string (mkS r.bs), .int .i64 (r.e : Nat)] 71)).alloc (.cells #[.string ⟨#[]⟩, .int .i64 0] 71)) (w.heap.size + 1) 71 #[.string ⟨#[]⟩, .int .i64 0] := by
    have := BlkAt.new (w.alloc (.cells #[.string (mkS r.bs), .int .i64 (r.e : Nat)] 71)) #[.string ⟨#[]⟩, .int .i64 0] 71
    rwa [al_size] at this
  have hs0 : ((w.alloc (.cells #[.string (mkS r.bs), .int .i64 (r.e : Nat)] 71)).alloc (.cells #[.string ⟨#[]⟩, .int .i64 0] 71)).heap.size = w.heap.size + 2 := by simp only [al_size]
  have HRES : Hid (Tryd.f26.results = #[.cell 2 71, .tmp 3]) := by unfold Hid; kernel_rfl
  generalize enGet r = res at *
  generalize (rNum r 2).1 = r1 at *
  generalize (rNum r 2).2 = x at *
  obtain ⟨b0, x0⟩ := r
  obtain ⟨b1, x1⟩ := r1
  simp only [Rd.val] at *
  clear hi hl
  go_enter Tryd.func26, Tryd.ntmps26
  go_upto_region 1 with fail
  generalize ((w.alloc (.cells #[.string (mkS b0), .int .i64 (x0 : Nat)] 71)).alloc (.cells #[.string ⟨#[]⟩, .int .i64 0] 71)) = wa at *
  obtain ⟨pb, hpb⟩ : ∃ z, w.heap.size = z := ⟨_, rfl⟩
  rw [hpb] at hb0 hb1 hs0 ⊢
  obtain ⟨y0, y1, yf⟩ := BlkAt.c2 hb0
  go_wp2_with fail
  refine (hc wa).mono ?_
  rintro ed w1 ⟨rfl, f1⟩
  have F1 := f0.then' f1
  replace hb0 := hb0.fr f1 id
  replace hb1 := hb1.fr f1 id
  have hs1 : pb + 2 ≤ w1.heap.size := by have := f1.size; omega
  clear hc f0 f1 hs0 y0 y1 yf
  obtain ⟨y0, y1, yf⟩ := BlkAt.c2 hb0
  go_upto_region 2 with fail
  replace hb0 : BlkAt ((w1.setCell ⟨pb, 0, none⟩ (.string (mkS b1))).setCell ⟨pb, 1, none⟩ (.int .i64 (x1 : Nat))) (pb) 71 #[.string (mkS b1), .int .i64 (x1 : Nat)] := ((hb0).set 0 (.string (mkS b1))).set 1 (.int .i64 (x1 : Nat))
  replace hb1 : BlkAt ((w1.setCell ⟨pb, 0, none⟩ (.string (mkS b1))).setCell ⟨pb, 1, none⟩ (.int .i64 (x1 : Nat))) (pb + 1) 71 #[.string ⟨#[]⟩, .int .i64 0] := ((hb1).fr (fr_set1 _ (pb) 0 (.string (mkS b1))) (by unfold eqB; omega)).fr (fr_set1 _ (pb) 1 (.int .i64 (x1 : Nat))) (by unfold eqB; omega)
  replace F1 := ((F1).trans (fr_set1 _ (pb) 0 (.string (mkS b1))) (fun i hi h => by unfold eqB at h; omega)).trans (fr_set1 _ (pb) 1 (.int .i64 (x1 : Nat))) (fun i hi h => by unfold eqB at h; omega)
  have hs2 : pb + 2 ≤ ((w1.setCell ⟨pb, 0, none⟩ (.string (mkS b1))).setCell ⟨pb, 1, none⟩ (.int .i64 (x1 : Nat))).heap.size := by have := (fr_two w1 pb (.string (mkS b1)) (.int .i64 (x1 : Nat))).size; omega
  generalize ((w1.setCell ⟨pb, 0, none⟩ (.string (mkS b1))).setCell ⟨pb, 1, none⟩ (.int .i64 (x1 : Nat))) = w2 at *
  clear y0 y1 yf hs1
  go_wp2_with fail
  go_loopw [5, 16] (fun v i wr => ∃ (j : Nat) (rj : Rd) (es : List EnV), j ≤ x ∧ i = .int .u64 j ∧ res = enRow (x - j) rj es ∧ (∃ A c, v = .slice A j c ∧ wr.ownsRow (pb + 2) 58 9 (.slice A j c) j (es.flatMap EnV.C)) ∧ Hid (es.length = j) ∧ rj.inv ∧ rj.bs.length ≤ 1000000000000 ∧ BlkAt wr pb 71 #[.string (mkS rj.bs), .int .i64 (rj.e : Nat)] ∧ BlkAt wr (pb + 1) 71 #[.string ⟨#[]⟩, .int .i64 0] ∧ pb + 2 ≤ wr.heap.size ∧ Fr noB w wr) (fun _ i _ => x - (intOf i).toNat)
  case atStart => exact ⟨0, ⟨b1, x1⟩, [], Nat.zero_le _, rfl, HV.out, ⟨none, 0, rfl, World.ownsRow_nil _ _ _ _⟩, rfl, hi1, hl1, hb0, hb1, hs2, F1⟩
  case round =>
    clear HV hi1 hl1 hb0 hb1 hs2 F1
    obtain ⟨j, rj, es, hj, rfl, hres, ⟨A, c, rfl, hown⟩, hlen, hiv, hle, hb0, hb1, hs2, hf⟩ := hrel
    by_cases hjx : j < x
    · have HR := hid (hres.trans (enRow_step hjx rj es))
      clear hres
      have hct := fun W => textGetR_calls W rj 91 hiv hle (by decide) (by decide)
      have hsh := rText_short rj 91
      have hiv2 := rText_inv hiv 91
      have hle2 := Nat.le_trans (rText_left rj 91) hle
      generalize rText rj 91 = q at *
      obtain ⟨r2, t⟩ := q
      simp only [] at hsh hiv2 hle2
      have hrd := fun W => enReadR_calls W t (by omega)
      generalize enRead t = y at *
      obtain ⟨e, er⟩ := y
      obtain ⟨bj, xj⟩ := rj
      obtain ⟨b2, x2⟩ := r2
      unfold EnEPost at hrd
      unfold RRPost at hct
      simp only [Rd.val] at hct hrd HR hb0 hiv2 hle2
      obtain ⟨y0, y1, yf⟩ := BlkAt.c2 hb0
      go_wp2_with fail
      refine (hct wr).mono ?_
      rintro ed w3 ⟨rfl, f3⟩
      have F3 := hf.then' f3
      have hs3 := f3.size
      have hown3 := own_fr hown f3 (fun _ _ => id)
      replace hb0 := hb0.fr f3 id
      replace hb1 := hb1.fr f3 id
      clear hct hf f3 hown y0 y1 yf hiv hle hsh
      go_upto_region 6 with fail
      have fa := (Fr.refl noB w3).alloc (.cells #[.string (mkS b2), .int .i64 (x2 : Nat)] 71)
      have hb6 : BlkAt (w3.alloc (.cells #[.string (mkS b2), .int .i64 (x2 : Nat)] 71)) w3.heap.size 71 #[.string (mkS b2), .int .i64 (x2 : Nat)] := BlkAt.new _ _ _
      have F4 := F3.then' fa
      have hs4 := fa.size
      have hown4 := own_fr hown3 fa (fun _ _ => id)
      replace hb0 := hb0.fr fa id
      replace hb1 := hb1.fr fa id
      generalize hp6 : w3.heap.size = p6 at *
      generalize (w3.alloc (.cells #[.string (mkS b2), .int .i64 (x2 : Nat)] 71)) = w4 at *
      clear fa F3 hown3 hp6
      obtain ⟨y0, y1, yf⟩ := BlkAt.c2 hb0
      obtain ⟨u0, u1, uf⟩ := BlkAt.c2 hb6
      go_upto_region 7 with fail
      have fs := fr_two w4 pb (.string (mkS b2)) (.int .i64 (x2 : Nat))
      have hown5 := own_fr hown4 fs (fun g hg h => by have := (hown4.lt g hg).1; unfold eqB at h; omega)
      have hs5 := fs.size
      replace hb0 : BlkAt ((w4.setCell ⟨pb, 0, none⟩ (.string (mkS b2))).setCell ⟨pb, 1, none⟩ (.int .i64 (x2 : Nat))) (pb) 71 #[.string (mkS b2), .int .i64 (x2 : Nat)] := ((hb0).set 0 (.string (mkS b2))).set 1 (.int .i64 (x2 : Nat))
      replace hb1 : BlkAt ((w4.setCell ⟨pb, 0, none⟩ (.string (mkS b2))).setCell ⟨pb, 1, none⟩ (.int .i64 (x2 : Nat))) (pb + 1) 71 #[.string ⟨#[]⟩, .int .i64 0] := ((hb1).fr (fr_set1 _ (pb) 0 (.string (mkS b2))) (by unfold eqB; omega)).fr (fr_set1 _ (pb) 1 (.int .i64 (x2 : Nat))) (by unfold eqB; omega)
      replace F4 := ((F4).trans (fr_set1 _ (pb) 0 (.string (mkS b2))) (fun i hi h => by unfold eqB at h; omega)).trans (fr_set1 _ (pb) 1 (.int .i64 (x2 : Nat))) (fun i hi h => by unfold eqB at h; omega)
      generalize ((w4.setCell ⟨pb, 0, none⟩ (.string (mkS b2))).setCell ⟨pb, 1, none⟩ (.int .i64 (x2 : Nat))) = w5 at *
      have hs5' : pb + 2 ≤ w5.heap.size := by omega
      clear y0 y1 yf u0 u1 uf fs hown4 hs2 hs3 hs4 hs5 hb6
      obtain ⟨y0, y1, yf⟩ := BlkAt.c2 hb0
      by_cases h0 : x2 = 0
      · rw [if_neg (by omega)] at HR
        subst h0
        go_wp2_with fail
        refine (hrd w5).mono ?_
        rintro ed w6 ⟨rfl, f6⟩
        have F6 := F4.then' f6
        have hs6 := f6.size
        have hown6 := own_fr hown5 f6 (fun _ _ => id)
        replace hb0 := hb0.fr f6 id
        replace hb1 := hb1.fr f6 id
        have hone : ∀ u ∈ e.C, u.oneCell' = true := by intro u hu; simp [EnV.C] at hu; rcases hu with rfl | rfl | rfl | rfl | rfl | rfl | rfl | rfl | rfl <;> rfl
        have hap : (es ++ [e]).flatMap EnV.C = es.flatMap EnV.C ++ e.C := by simp
        obtain ⟨ys, hys⟩ : ∃ x, (es ++ [e]).flatMap EnV.C = x := ⟨_, rfl⟩
        rw [hys] at hap
        have HAP := hid hap
        have HYS := hid hys
        clear hrd F4 f6 hown5 hap hys y0 y1 yf
        obtain ⟨op, view, cl, num, ⟨k, oa, ob, on, or⟩⟩ := e
        unfold EnV.v
        unfold EnV.C at hone
        simp only [] at hone ⊢
        have fa := (Fr.refl noB w6).alloc (.cells #[.int .u64 op, .int .u64 view, .int .u8 cl, .int .u64 num, .int .u8 k, .string oa, .string ob, .int .u8 on, .int .u8 or] 58)
        have hb : BlkAt (w6.alloc (.cells #[.int .u64 op, .int .u64 view, .int .u8 cl, .int .u64 num, .int .u8 k, .string oa, .string ob, .int .u8 on, .int .u8 or] 58)) w6.heap.size 58 #[.int .u64 op, .int .u64 view, .int .u8 cl, .int .u64 num, .int .u8 k, .string oa, .string ob, .int .u8 on, .int .u8 or] := BlkAt.new _ _ _
        have F7 := F6.then' fa
        have hs7 := fa.size
        have hown7 := own_fr hown6 fa (fun _ _ => id)
        replace hb0 := hb0.fr fa id
        replace hb1 := hb1.fr fa id
        go_upto_region 10 with fail
        generalize hpy : w6.heap.size = py at *
        generalize (w6.alloc (.cells #[.int .u64 op, .int .u64 view, .int .u8 cl, .int .u64 num, .int .u8 k, .string oa, .string ob, .int .u8 on, .int .u8 or] 58)) = w7 at *
        have hs7' : pb + 2 ≤ w7.heap.size := by omega
        clear hpy fa F6 hown6 hs6 hs7
        by_cases he : er = 0
        · rw [if_neg (by omega)] at HR
          subst he
          obtain ⟨z0, z1, z2, z3, z4, z5, z6, z7, z8, zf⟩ := BlkAt.c9 hb
          generalize es.flatMap EnV.C = xs at *
          have fb := (Fr.refl noB w7).alloc (.cells #[.int .u64 op, .int .u64 view, .int .u8 cl, .int .u64 num, .int .u8 k, .string oa, .string ob, .int .u8 on, .int .u8 or] 58)
          have hOa : (w7.alloc (.cells #[.int .u64 op, .int .u64 view, .int .u8 cl, .int .u64 num, .int .u8 k, .string oa, .string ob, .int .u8 on, .int .u8 or] 58)).ownsRow 0 58 9 (.slice A j c) j xs := own_mono (own_fr hown7 fb (fun _ _ => id)) (fun _ _ => Nat.zero_le _)
          have Fa : Fr noB w (w7.alloc (.cells #[.int .u64 op, .int .u64 view, .int .u8 cl, .int .u64 num, .int .u8 k, .string oa, .string ob, .int .u8 on, .int .u8 or] 58)) := F7.alloc _
          have hbase : ∀ g, (Value.slice A j c).ownBlock = some g → pb + 2 ≤ g := fun g hg => (hown7.lt g hg).1
          have ha0 := hb0.fr fb id
          have ha1 := hb1.fr fb id
          have hsa := fb.size
          clear hb hown7 F7 hb0 hb1 fb
          go_wp2_with (at_builtin; refine wpList_app Tryd.appRn rfl (.tmp 38) (.tmp 40) rfl _ j xs rfl hOa _ 1 1 [.int .u64 op, .int .u64 view, .int .u8 cl, .int .u64 num, .int .u8 k, .string oa, .string ob, .int .u8 on, .int .u8 or] rfl rfl (new_row _ _ _) hone (by simp) (by omega) (by omega) ?_)
          intro A' c' w8 hown8 hg hat
          have f8 : Fr noB w w8 := Fr.grown Fa hg (fun g hg => Or.inr (by have := hbase g hg; omega))
          have fg := Fr.grown (Fr.refl (fun k => pb + 2 ≤ k) _) hg (fun g hg => Or.inl (hbase g hg))
          have hc0 := ha0.fr fg (by show ¬ (pb + 2 ≤ pb); omega)
          have hc1 := ha1.fr fg (by show ¬ (pb + 2 ≤ pb + 1); omega)
          have hs8 := fg.size
          have hO8 : w8.ownsRow (pb + 2) 58 9 (.slice A' (j + 1) c') (j + 1) ys := by
            have h9 := HAP.out
            unfold EnV.C at h9
            rw [h9]
            refine own_mono hown8 (fun g hg => ?_)
            rcases hat with e | e
            · exact hbase g (e ▸ hg)
            · rw [hg] at e; simp at e; omega
          clear hg hat hown8 hOa Fa ha0 ha1 fg
          go_wp2_with fail
          go_roundw
          case rel => exact ⟨j + 1, ⟨b2, 0⟩, _, by omega, by go_num, HR.out, ⟨A', c', rfl, by rw [HYS.out]; exact hO8⟩, by unfold Hid; rw [List.length_append, hlen.out]; rfl, hiv2, hle2, hc0, hc1, by omega, f8⟩
          case measure => simp [intOf]; omega
        · rw [if_pos he] at HR
          have t2 : ((er : Int) != 0) = true := by rw [bne_iff_ne]; omega
          have hfl := failR_calls w7 ⟨b2, 0⟩ er
          generalize rFail ⟨b2, 0⟩ er = rf at *
          obtain ⟨b3, x3⟩ := rf
          simp only [Rd.val] at hfl
          clear hone hb hown7
          obtain ⟨y0, y1, yf⟩ := BlkAt.c2 hb0
          go_wp2_with fail
          refine hfl.mono ?_
          rintro ed w8 ⟨rfl, f8⟩
          have F8 := F7.then' f8
          replace hb1 := hb1.fr f8 id
          obtain ⟨u0, u1, uf⟩ := BlkAt.c2 hb1
          clear hfl y0 y1 yf
          have FF := F8.trans (fr_two w8 (pb + 1) (.string (mkS b3)) (.int .i64 x3)) (fun i hi h => by unfold eqB at h; omega)
          go_wp2_with fail
          have hr := HRES.out
          exact bodyPost_ret (v := .tuple #[.agg #[.string (mkS b3), .int .i64 x3], .slice none 0 0]) (by simp [results, hr, go_sem, u0, u1]) rfl (GRRPost.nil (by rw [HR.out]) (by rw [HR.out]; rfl) FF)
      · rw [if_pos h0] at HR
        have t2 : ((x2 : Int) != 0) = true := by rw [bne_iff_ne]; omega
        obtain ⟨u0, u1, uf⟩ := BlkAt.c2 hb1
        have FF := F4.trans (fr_two w5 (pb + 1) (.string (mkS b2)) (.int .i64 x2)) (fun i hi h => by unfold eqB at h; omega)
        clear hrd h0
        go_wp2_with fail
        have hr := HRES.out
        exact bodyPost_ret (v := .tuple #[.agg #[.string (mkS b2), .int .i64 x2], .slice none 0 0]) (by simp [results, hr, go_sem, u0, u1]) rfl (GRRPost.nil (by rw [HR.out]) (by rw [HR.out]; rfl) FF)
    · have : j = x := by omega
      subst this
      have HR : Hid (res = (rj, es)) := by unfold Hid; rw [hres, Nat.sub_self]; rfl
      clear hres
      obtain ⟨bj, xj⟩ := rj
      simp only [] at hb0
      obtain ⟨y0, y1, yf⟩ := BlkAt.c2 hb0
      obtain ⟨u0, u1, uf⟩ := BlkAt.c2 hb1
      have fs := fr_two wr (pb + 1) (.string (mkS bj)) (.int .i64 xj)
      have FF := hf.trans fs (fun i hi h => by unfold eqB at h; omega)
      have hown9 := own_fr hown fs (fun g hg h => by have := (hown.lt g hg).1; unfold eqB at h; omega)
      go_wp2_with fail
      have hr := HRES.out
      refine bodyPost_ret (v := .tuple #[.agg #[.string (mkS bj), .int .i64 xj], .slice A j c]) (by simp [results, hr, go_sem, u0, u1]) rfl ?_
      rw [HR.out]
      exact ⟨A, j, c, rfl, ⟨hlen, own_row hown9⟩, by omega, FF⟩
end Go.Proofs.YtdngcheimohamaaDoor
/- interrexlaw19.EntryGets: the walk. -/
namespace Go.Proofs.YtdngcheimohamaaDoor
open Go.RowKit
set_option maxRecDepth 100000 in
set_option maxHeartbeats 1600000 in
theorem sameEn_calls (w : World) (A B : Option Addr) (n c m d : Nat) (es fs : List EnV) (h : EnsA w A n c es) (g : EnsA w B m d fs) (hn : n ≤ 9223372036854775807) (hm : m ≤ 9223372036854775807) (hq : es = fs) :
    Calls Tryd.prog 29 #[.slice A n c, .slice B m d] w (BoolPost w true) := by
  subst hq
  obtain rfl : n = m := by rw [← h.len.out, g.len.out]
  have hr1 := h.row
  have hr2 := g.row
  have HN := h.len
  have HM : Hid (Tryd.prog.eqGuardType Tryd.prog.depth 58 = false) := Tryd.gR
  clear h g
  go_enter Tryd.func29, Tryd.ntmps29
  go_wp2_with fail
  go_loopw [13] (fun i wr => ∃ x : Nat, x ≤ n ∧ i = .int .i64 x ∧ Fr noB w wr) (fun i _ => n - (intOf i).toNat)
  case atStart => exact ⟨0, Nat.zero_le _, rfl, Fr.refl _ _⟩
  case round =>
    obtain ⟨x, hx, rfl, hf⟩ := hrel
    by_cases hxn : x < n
    · obtain ⟨e, he⟩ : ∃ e, es[x]? = some e := ⟨_, List.getElem?_eq_getElem (by rw [HN.out]; exact hxn)⟩
      obtain ⟨a1, rfl⟩ := hr1.some_flat (by simp [EnV.C]) he
      obtain ⟨a2, rfl⟩ := hr2.some_flat (by simp [EnV.C]) he
      have hg1 := (hr1.seg 9 (fun _ => rfl) he).fr hf id
      have hg2 := (hr2.seg 9 (fun _ => rfl) he).fr hf id
      have hrf := fun W => ref19_calls W e
      have HNQ : Hid (∀ W, (binOp .neq 58 e.v e.v).run Tryd.prog W = .ok (.bool false) W) := fun W => by rw [enNeqR]; simp
      obtain ⟨op, view, cl, num, ⟨k, oa, ob, on, or⟩⟩ := e
      unfold EnV.v at HNQ hrf
      unfold EnV.C at hg1 hg2
      simp only [] at HNQ hg1 hg2 hrf
      clear he hr1 hr2
      go_wp2_with fail
      apply wp_region_calm (R := Fr noB) (C := fun _ W => Fr noB wr W) [false, false, false, false, false, false, false, false, false, false]
        [eqv _, eqv _, eqv _, eqv _, eqv _, eqv _, eqv _, eqv _, eqv _, eqv _]
        (by kernel_rfl) (by kernel_rfl) (fun _ _ _ h1 h2 => h1.then' h2) ((Fr.refl _ _).drew) ((Fr.refl _ _).drew) (by kernel_rfl)
      · refine ⟨?_, ?_, ?_, ?_, ?_, ?_, ?_, ?_, ?_, ?_, trivial⟩
        · rw [if_neg (by decide)]; intro kq
          exact calm_mv 0 rfl rfl (Or.inl rfl) (Fr.refl _) (by decide) fun v w hd => hd
        · rw [if_neg (by decide)]; intro kq
          exact calm_mv 5 rfl rfl (Or.inl rfl) (Fr.refl _) (by decide) fun v w hd => hd
        · rw [if_neg (by decide)]; intro kq
          intro a W K hC hd hK
          have d16 : _ = _ := hd 16 (by decide)
          have d17 : _ = _ := hd 17 (by decide)
          refine wpOp_plain rfl rfl ?_
          obtain ⟨x0, x1, x2, x3, x4, x5, x6, x7, x8⟩ := (hg1.fr hC id).c9
          obtain ⟨y0, y1, y2, y3, y4, y5, y6, y7, y8⟩ := (hg2.fr hC id).c9
          go_wp2_with fail
          exact hK _ _ (Fr.refl _ _) hC rfl
        · rw [if_neg (by decide)]; intro kq
          intro a W K hC hd hK
          have d18 : _ = _ := hd 18 (by decide)
          refine wpOp_plain rfl rfl ?_
          obtain ⟨x0, x1, x2, x3, x4, x5, x6, x7, x8⟩ := (hg1.fr hC id).c9
          obtain ⟨y0, y1, y2, y3, y4, y5, y6, y7, y8⟩ := (hg2.fr hC id).c9
          go_wp2_with fail
          exact hK _ _ (Fr.refl _ _) hC rfl
        · rw [if_neg (by decide)]; intro kq
          intro a W K hC hd hK
          have d19 : _ = _ := hd 19 (by decide)
          refine wpOp_plain rfl rfl ?_
          obtain ⟨x0, x1, x2, x3, x4, x5, x6, x7, x8⟩ := (hg1.fr hC id).c9
          obtain ⟨y0, y1, y2, y3, y4, y5, y6, y7, y8⟩ := (hg2.fr hC id).c9
          go_wp2_with fail
          refine (hrf W).mono ?_
          rintro e9 w9 ⟨rfl, f9⟩
          exact hK _ _ f9 (hC.then' f9) rfl
        · rw [if_neg (by decide)]; intro kq
          exact calm_mv 1 rfl rfl (Or.inl rfl) (Fr.refl _) (by decide) fun v w hd => hd
        · rw [if_neg (by decide)]; intro kq
          exact calm_mv 5 rfl rfl (Or.inl rfl) (Fr.refl _) (by decide) fun v w hd => hd
        · rw [if_neg (by decide)]; intro kq
          intro a W K hC hd hK
          have d21 : _ = _ := hd 21 (by decide)
          have d22 : _ = _ := hd 22 (by decide)
          refine wpOp_plain rfl rfl ?_
          obtain ⟨x0, x1, x2, x3, x4, x5, x6, x7, x8⟩ := (hg1.fr hC id).c9
          obtain ⟨y0, y1, y2, y3, y4, y5, y6, y7, y8⟩ := (hg2.fr hC id).c9
          go_wp2_with fail
          exact hK _ _ (Fr.refl _ _) hC rfl
        · rw [if_neg (by decide)]; intro kq
          intro a W K hC hd hK
          have d23 : _ = _ := hd 23 (by decide)
          refine wpOp_plain rfl rfl ?_
          obtain ⟨x0, x1, x2, x3, x4, x5, x6, x7, x8⟩ := (hg1.fr hC id).c9
          obtain ⟨y0, y1, y2, y3, y4, y5, y6, y7, y8⟩ := (hg2.fr hC id).c9
          go_wp2_with fail
          exact hK _ _ (Fr.refl _ _) hC rfl
        · rw [if_neg (by decide)]; intro kq
          intro a W K hC hd hK
          have d20 : _ = _ := hd 20 (by decide)
          have d24 : _ = _ := hd 24 (by decide)
          refine wpOp_plain rfl rfl ?_
          have hnq := HNQ.out
          have hm := HM.out
          go_wp2_with fail
          exact hK _ _ (Fr.refl _ _) hC rfl
      · intro vs w9 fw9 cw9 hV
        have v16 : vs 0 = _ := hV 0 _ _ rfl rfl (by decide)
        have v17 : vs 1 = _ := hV 1 _ _ rfl rfl (by decide)
        have v18 : vs 2 = _ := hV 2 _ _ rfl rfl (by decide)
        have v19 : vs 3 = _ := hV 3 _ _ rfl rfl (by decide)
        have v20 : vs 4 = _ := hV 4 _ _ rfl rfl (by decide)
        have v21 : vs 5 = _ := hV 5 _ _ rfl rfl (by decide)
        have v22 : vs 6 = _ := hV 6 _ _ rfl rfl (by decide)
        have v23 : vs 7 = _ := hV 7 _ _ rfl rfl (by decide)
        have v24 : vs 8 = _ := hV 8 _ _ rfl rfl (by decide)
        have v25 : vs 9 = _ := hV 9 _ _ rfl rfl (by decide)
        clear hV
        simp only [putL, Act.put, Nat.reduceAdd, List.setIfInBounds_toArray, List.set_cons_zero, List.set_cons_succ, v16, v17, v18, v19, v20, v21, v22, v23, v24, v25]
        go_wp2_with fail
        go_roundw
        case rel => exact ⟨x + 1, by omega, by go_num, hf.then' fw9⟩
        case measure => simp [intOf]; omega
    · have : x = n := by omega
      subst this
      clear hr1 hr2
      go_wp2_with fail
      go_ret
      exact BoolPost.mk' rfl hf

set_option maxRecDepth 100000 in
set_option maxHeartbeats 3200000 in
theorem entryGets_walk (w : World) (ht : SignsAt w) (A : Option Addr) (n c : Nat) (bs : List UInt8) (hx : RowAt w A (bcells bs)) (hn : bs.length = n) (hB : A = none → n = 0 ∧ c = 0) :
    Calls Tryd.prog 6 #[.slice A n c] w (BoolPost w true) := by
  by_cases h800 : 800 < n
  · have d1 : decide ((800 : Int) < n) = true := decide_eq_true (by omega)
    go_enter Tryd.func6, Tryd.ntmps6
    go_wp2_with fail
    refine (lives19_calls w ht).mono ?_
    rintro e w1 ⟨rfl, f1⟩
    go_wp2_with fail
    refine (lives19_calls w1 (ht.fr0 f1)).mono ?_
    rintro e w2 ⟨rfl, f2⟩
    go_wp2_with fail
    go_ret
    exact BoolPost.mk' rfl (f1.then' f2)
  · have d1 : decide ((800 : Int) < n) = false := decide_eq_false (by omega)
    have hle : n ≤ 1000000000000 := by omega
    have hgr := fun W => enGetRowR_calls W ⟨bs, 0⟩ (fun h => absurd rfl h) (by simp only []; omega)
    have HLE := hid hle
    clear h800 hle
    go_enter Tryd.func6, Tryd.ntmps6
    go_wp2_with fail
    refine (lives19_calls w ht).mono ?_
    rintro e w1 ⟨rfl, f1⟩
    go_wp2_with fail
    refine (of_calls w1 A n c bs (hx.fr0 f1) hn hB HLE.out).mono ?_
    rintro e w2 ⟨p, rfl, hp1, hp2, h2, f2⟩
    have hi2 := h2.inn
    have F2 := f1.then' f2
    obtain ⟨S, hS, HSd⟩ : ∃ S : Nat → Prop, RdAt w2 S p ⟨bs, 0⟩ ∧ ∀ k, S k → w.heap.size ≤ k ∧ k < w2.heap.size := ⟨_, hi2, fun k hk => by have := hk.1; have := f1.size; unfold upB at this; have h3 := hk.1; unfold upB at h3; exact ⟨by omega, hk.2⟩⟩
    have hT : ∀ W, Fr S w2 W → SignsAt W := fun W f => ht.fr0 (F2.trans f (fun i hi h => by have := HSd _ h; omega))
    have hgn := enGetRow_calls w2 S p ⟨bs, 0⟩ hT hS (fun k hk => (HSd k hk).2)
    generalize enGet ⟨bs, 0⟩ = q at *
    obtain ⟨⟨b, x⟩, es⟩ := q
    clear h2 hi2 f1 f2 hp1 hp2 hS hT
    go_wp2_with fail
    refine hgn.mono ?_
    rintro e w3 ⟨B, m, d, rfl, hE3, hm3, hB3, hr3, f3⟩
    have F3 : Fr noB w w3 := F2.trans f3 (fun i hi h => by have := HSd _ h; omega)
    simp only [] at hE3 hr3
    have hst := Tryd.toStr (hx.fr0 F3) hn c
    clear hgn f3 F2 hB3
    go_wp2_with fail
    refine (hgr w3).mono ?_
    rintro e w4 ⟨B', m', d', rfl, hE4, hm4, f4⟩
    simp only [Rd.val] at hE4 ⊢
    have F4 := F3.then' f4
    replace hE3 := hE3.fr0 f4
    replace hr3 := hr3.fr f4 (fun _ _ _ => id)
    clear hgr f4 F3 hst
    go_upto_region 6 with fail
    have fa := (Fr.refl noB w4).alloc (.cells #[.string (mkS b), .int .i64 (x : Nat)] 71)
    have hb5 : BlkAt (w4.alloc (.cells #[.string (mkS b), .int .i64 (x : Nat)] 71)) w4.heap.size 71 #[.string (mkS b), .int .i64 (x : Nat)] := BlkAt.new _ _ _
    have F5 := F4.then' fa
    replace hE3 := hE3.fr0 fa
    replace hE4 := hE4.fr0 fa
    replace hr3 := hr3.fr fa (fun _ _ _ => id)
    generalize hp5 : w4.heap.size = p5 at *
    generalize (w4.alloc (.cells #[.string (mkS b), .int .i64 (x : Nat)] 71)) = w5 at *
    clear fa F4 hp5
    have hsz : (mkS b).size = b.length := mkS_size _
    have her := fun W h => errRd_calls W S p ⟨b, x⟩ h
    have hlf := fun W h => leftRd_calls W S p ⟨b, x⟩ h
    have hsm := fun W h1 h2 => sameEn_calls W B B' m d m' d' es es h1 h2 (by omega) (by omega) rfl
    simp only [] at her hlf
    obtain ⟨l, hl⟩ : ∃ l, b.length = l := ⟨_, rfl⟩
    rw [hl] at hsz hlf
    have hq1 : ((x : Int) == x) = true := by simp
    have hq2 : ((l : Int) == l) = true := by simp
    clear hl hn hx HLE hB
    apply wp_region_calm (R := Fr noB) (C := fun q W => Fr noB w5 W ∧ BlkAt W (p5) 71 #[.string (mkS b), .int .i64 (x : Nat)]) [false, false, false, false, false, false, false, false, false, false, false, false, false, false, false, false, false, false, false]
      [eqv _, eqv (.int .i64 (x : Nat)), eqv _, eqv (.int .i64 (x : Nat)), eqv (.bool true), eqv (.bool true), eqv _, eqv (.int .i64 (l : Nat)), eqv _, eqv _, eqv (.int .i64 (l : Nat)), eqv (.bool true), eqv (.bool true), eqv (.bool true), eqv _, eqv _, eqv (.bool true), eqv (.bool true), eqv (.bool true)]
      (by kernel_rfl) (by kernel_rfl) (fun _ _ _ h1 h2 => h1.then' h2) ((Fr.refl _ _).drew) ⟨(Fr.refl _ _).drew, hb5⟩ (by kernel_rfl)
    · refine ⟨?_, ?_, ?_, ?_, ?_, ?_, ?_, ?_, ?_, ?_, ?_, ?_, ?_, ?_, ?_, ?_, ?_, ?_, ?_, trivial⟩
      · rw [if_neg (by decide)]; intro kq
        exact calm_mv 3 rfl rfl (Or.inl rfl) (Fr.refl _) (by decide) fun v w hd => hd
      · rw [if_neg (by decide)]; intro kq
        intro a W K hC hd hK
        have d26 : _ = _ := hd 26 (by decide)
        refine wpOp_plain rfl rfl ?_
        obtain ⟨x0_0, x0_1, z0⟩ := BlkAt.c2 (hC.2)
        go_wp2_with fail
        refine (her W (hr3.fr hC.1 (fun _ _ _ => id))).mono ?_
        rintro e9 w9 ⟨rfl, rfl⟩
        exact hK _ _ (Fr.refl _ _) hC rfl
      · rw [if_neg (by decide)]; intro kq
        intro a W K hC hd hK
        have d5 : a.tmps[5]?.getD undef = .pointer (some ⟨p5, 0, none⟩) := hd 5 (by decide)
        refine wpOp_plain rfl rfl ?_
        obtain ⟨x0_0, x0_1, z0⟩ := BlkAt.c2 (hC.2)
        go_wp2_with fail
        exact hK _ _ (Fr.refl _ _) hC rfl
      · rw [if_neg (by decide)]; intro kq
        intro a W K hC hd hK
        have d28 : _ = _ := hd 28 (by decide)
        refine wpOp_plain rfl rfl ?_
        obtain ⟨x0_0, x0_1, z0⟩ := BlkAt.c2 (hC.2)
        go_wp2_with fail
        exact hK _ _ (Fr.refl _ _) hC rfl
      · rw [if_neg (by decide)]; intro kq
        intro a W K hC hd hK
        have d27 : a.tmps[27]?.getD undef = .int .i64 (x : Nat) := hd 27 (by decide)
        have d29 : a.tmps[29]?.getD undef = .int .i64 (x : Nat) := hd 29 (by decide)
        refine wpOp_plain rfl rfl ?_
        go_wp2_with fail
        exact hK _ _ (Fr.refl _ _) hC rfl
      · rw [if_neg (by decide)]; intro kq
        exact calm_mv 30 rfl rfl (Or.inl rfl) (Fr.refl _) (by decide) fun v w hd => hd
      · rw [if_neg (by decide)]; intro kq
        intro a W K hC hd hK
        have d3 : a.tmps[3]?.getD undef = .pointer (some ⟨p, 0, none⟩) := hd 3 (by decide)
        have d31 : a.tmps[31]?.getD undef = .bool true := hd 31 (by decide)
        first | (exact wpOp_skip rfl (wanted_of (want := true) (b := false) rfl rfl (by rw [eval_get]; exact d31)) (hK _ _ (Fr.refl _ _) hC rfl)) | (refine wpOp_want rfl (wanted_of (want := true) (b := true) rfl rfl (by rw [eval_get]; exact d31)) ?_)
        all_goals (
          go_wp2_with fail
          exact hK _ _ (Fr.refl _ _) hC rfl)
      · rw [if_neg (by decide)]; intro kq
        intro a W K hC hd hK
        have d32 : _ = _ := hd 32 (by decide)
        have d31 : a.tmps[31]?.getD undef = .bool true := hd 31 (by decide)
        first | (exact wpOp_skip rfl (wanted_of (want := true) (b := false) rfl rfl (by rw [eval_get]; exact d31)) (hK _ _ (Fr.refl _ _) hC rfl)) | (refine wpOp_want rfl (wanted_of (want := true) (b := true) rfl rfl (by rw [eval_get]; exact d31)) ?_)
        all_goals (
          obtain ⟨x0_0, x0_1, z0⟩ := BlkAt.c2 (hC.2)
          go_wp2_with fail
          refine (hlf W (hr3.fr hC.1 (fun _ _ _ => id))).mono ?_
          rintro e9 w9 ⟨rfl, rfl⟩
          exact hK _ _ (Fr.refl _ _) hC rfl)
      · rw [if_neg (by decide)]; intro kq
        intro a W K hC hd hK
        have d5 : a.tmps[5]?.getD undef = .pointer (some ⟨p5, 0, none⟩) := hd 5 (by decide)
        have d31 : a.tmps[31]?.getD undef = .bool true := hd 31 (by decide)
        first | (exact wpOp_skip rfl (wanted_of (want := true) (b := false) rfl rfl (by rw [eval_get]; exact d31)) (hK _ _ (Fr.refl _ _) hC rfl)) | (refine wpOp_want rfl (wanted_of (want := true) (b := true) rfl rfl (by rw [eval_get]; exact d31)) ?_)
        all_goals (
          obtain ⟨x0_0, x0_1, z0⟩ := BlkAt.c2 (hC.2)
          go_wp2_with fail
          exact hK _ _ (Fr.refl _ _) hC rfl)
      · rw [if_neg (by decide)]; intro kq
        intro a W K hC hd hK
        have d34 : _ = _ := hd 34 (by decide)
        have d31 : a.tmps[31]?.getD undef = .bool true := hd 31 (by decide)
        first | (exact wpOp_skip rfl (wanted_of (want := true) (b := false) rfl rfl (by rw [eval_get]; exact d31)) (hK _ _ (Fr.refl _ _) hC rfl)) | (refine wpOp_want rfl (wanted_of (want := true) (b := true) rfl rfl (by rw [eval_get]; exact d31)) ?_)
        all_goals (
          obtain ⟨x0_0, x0_1, z0⟩ := BlkAt.c2 (hC.2)
          go_wp2_with fail
          exact hK _ _ (Fr.refl _ _) hC rfl)
      · rw [if_neg (by decide)]; intro kq
        intro a W K hC hd hK
        have d35 : _ = _ := hd 35 (by decide)
        have d31 : a.tmps[31]?.getD undef = .bool true := hd 31 (by decide)
        first | (exact wpOp_skip rfl (wanted_of (want := true) (b := false) rfl rfl (by rw [eval_get]; exact d31)) (hK _ _ (Fr.refl _ _) hC rfl)) | (refine wpOp_want rfl (wanted_of (want := true) (b := true) rfl rfl (by rw [eval_get]; exact d31)) ?_)
        all_goals (
          obtain ⟨x0_0, x0_1, z0⟩ := BlkAt.c2 (hC.2)
          go_wp2_with fail
          exact hK _ _ (Fr.refl _ _) hC rfl)
      · rw [if_neg (by decide)]; intro kq
        intro a W K hC hd hK
        have d33 : a.tmps[33]?.getD undef = .int .i64 (l : Nat) := hd 33 (by decide)
        have d36 : a.tmps[36]?.getD undef = .int .i64 (l : Nat) := hd 36 (by decide)
        have d31 : a.tmps[31]?.getD undef = .bool true := hd 31 (by decide)
        first | (exact wpOp_skip rfl (wanted_of (want := true) (b := false) rfl rfl (by rw [eval_get]; exact d31)) (hK _ _ (Fr.refl _ _) hC rfl)) | (refine wpOp_want rfl (wanted_of (want := true) (b := true) rfl rfl (by rw [eval_get]; exact d31)) ?_)
        all_goals (
          go_wp2_with fail
          exact hK _ _ (Fr.refl _ _) hC rfl)
      · rw [if_neg (by decide)]; intro kq
        intro a W K hC hd hK
        have d31 : a.tmps[31]?.getD undef = .bool true := hd 31 (by decide)
        have d37 : a.tmps[37]?.getD undef = .bool true := hd 37 (by decide)
        refine wpOp_plain rfl rfl ?_
        go_wp2_with fail
        exact hK _ _ (Fr.refl _ _) hC rfl
      · rw [if_neg (by decide)]; intro kq
        exact calm_mv 38 rfl rfl (Or.inl rfl) (Fr.refl _) (by decide) fun v w hd => hd
      · rw [if_neg (by decide)]; intro kq
        intro a W K hC hd hK
        have d4 : a.tmps[4]?.getD undef = .slice B m d := hd 4 (by decide)
        have d39 : a.tmps[39]?.getD undef = .bool true := hd 39 (by decide)
        first | (exact wpOp_skip rfl (wanted_of (want := true) (b := false) rfl rfl (by rw [eval_get]; exact d39)) (hK _ _ (Fr.refl _ _) hC rfl)) | (refine wpOp_want rfl (wanted_of (want := true) (b := true) rfl rfl (by rw [eval_get]; exact d39)) ?_)
        all_goals (
          go_wp2_with fail
          exact hK _ _ (Fr.refl _ _) hC rfl)
      · rw [if_neg (by decide)]; intro kq
        intro a W K hC hd hK
        have d6 : a.tmps[6]?.getD undef = .slice B' m' d' := hd 6 (by decide)
        have d39 : a.tmps[39]?.getD undef = .bool true := hd 39 (by decide)
        first | (exact wpOp_skip rfl (wanted_of (want := true) (b := false) rfl rfl (by rw [eval_get]; exact d39)) (hK _ _ (Fr.refl _ _) hC rfl)) | (refine wpOp_want rfl (wanted_of (want := true) (b := true) rfl rfl (by rw [eval_get]; exact d39)) ?_)
        all_goals (
          go_wp2_with fail
          exact hK _ _ (Fr.refl _ _) hC rfl)
      · rw [if_neg (by decide)]; intro kq
        intro a W K hC hd hK
        have d40 : _ = _ := hd 40 (by decide)
        have d41 : _ = _ := hd 41 (by decide)
        have d39 : a.tmps[39]?.getD undef = .bool true := hd 39 (by decide)
        first | (exact wpOp_skip rfl (wanted_of (want := true) (b := false) rfl rfl (by rw [eval_get]; exact d39)) (hK _ _ (Fr.refl _ _) hC rfl)) | (refine wpOp_want rfl (wanted_of (want := true) (b := true) rfl rfl (by rw [eval_get]; exact d39)) ?_)
        all_goals (
          obtain ⟨x0_0, x0_1, z0⟩ := BlkAt.c2 (hC.2)
          go_wp2_with fail
          refine (hsm W (hE3.fr0 hC.1) (hE4.fr0 hC.1)).mono ?_
          rintro e9 w9 ⟨rfl, f9⟩
          exact hK _ _ f9 ⟨hC.1.then' f9, hC.2.fr f9 id⟩ rfl)
      · rw [if_neg (by decide)]; intro kq
        intro a W K hC hd hK
        have d39 : a.tmps[39]?.getD undef = .bool true := hd 39 (by decide)
        have d42 : a.tmps[42]?.getD undef = .bool true := hd 42 (by decide)
        refine wpOp_plain rfl rfl ?_
        go_wp2_with fail
        exact hK _ _ (Fr.refl _ _) hC rfl
      · rw [if_neg (by decide)]; intro kq
        exact calm_mv 43 rfl rfl (Or.inr rfl) (Fr.refl _) (by decide) fun v w hd => hd
    · intro vs w6 fw6 cw6 hV
      have v26 : vs 0 = _ := hV 0 _ _ rfl rfl (by decide)
      have v27 : vs 1 = .int .i64 (x : Nat) := hV 1 _ _ rfl rfl (by decide)
      have v28 : vs 2 = _ := hV 2 _ _ rfl rfl (by decide)
      have v29 : vs 3 = .int .i64 (x : Nat) := hV 3 _ _ rfl rfl (by decide)
      have v30 : vs 4 = .bool true := hV 4 _ _ rfl rfl (by decide)
      have v31 : vs 5 = .bool true := hV 5 _ _ rfl rfl (by decide)
      have v32 : vs 6 = _ := hV 6 _ _ rfl rfl (by decide)
      have v33 : vs 7 = .int .i64 (l : Nat) := hV 7 _ _ rfl rfl (by decide)
      have v34 : vs 8 = _ := hV 8 _ _ rfl rfl (by decide)
      have v35 : vs 9 = _ := hV 9 _ _ rfl rfl (by decide)
      have v36 : vs 10 = .int .i64 (l : Nat) := hV 10 _ _ rfl rfl (by decide)
      have v37 : vs 11 = .bool true := hV 11 _ _ rfl rfl (by decide)
      have v38 : vs 12 = .bool true := hV 12 _ _ rfl rfl (by decide)
      have v39 : vs 13 = .bool true := hV 13 _ _ rfl rfl (by decide)
      have v40 : vs 14 = _ := hV 14 _ _ rfl rfl (by decide)
      have v41 : vs 15 = _ := hV 15 _ _ rfl rfl (by decide)
      have v42 : vs 16 = .bool true := hV 16 _ _ rfl rfl (by decide)
      have v43 : vs 17 = .bool true := hV 17 _ _ rfl rfl (by decide)
      have v2 : vs 18 = .bool true := hV 18 _ _ rfl rfl (by decide)
      clear hV
      replace hb5 : BlkAt w6 (p5) 71 #[.string (mkS b), .int .i64 (x : Nat)] := cw6.2
      replace F5 := F5.trans fw6 (fun i hi h => h.elim)
      clear cw6
      simp only [putL, Act.put, Nat.reduceAdd, List.setIfInBounds_toArray, List.set_cons_zero, List.set_cons_succ, v26, v27, v28, v29, v30, v31, v32, v33, v34, v35, v36, v37, v38, v39, v40, v41, v42, v43, v2]
      go_wp2_with fail
      go_ret
      exact BoolPost.mk' rfl F5
theorem entryGets_law (w : World) (ht : SignsAt w) (A : Option Addr) (n c : Nat) (b : List UInt8) (o : RowAt w A (bcells b) ∧ b.length = n ∧ n ≤ c ∧ c ≤ maxLen ∧ (A = none → n = 0 ∧ c = 0)) :
    Calls Tryd.prog 6 #[.slice A n c] w (BoolPost w true) :=
  entryGets_walk w ht A n c b o.1 o.2.1 o.2.2.2.2
end Go.Proofs.YtdngcheimohamaaDoor
/- interrexref19.Row. -/
namespace Go.Proofs.YtdngcheimohamaaDoor
open Go.RowKit
/-- A row of entries, as the reference writes it. -/
def rowsE (l : List EnV) : List UInt8 := l.flatMap fun e => textR (mkS (textE e))
def rowE (l : List EnV) : List UInt8 := leB 2 l.length ++ rowsE l
theorem textE_length (e : EnV) : (textE e).length ≤ 34 + e.o.a.size + e.o.b.size := by
  have h1 := textO_length e.o
  have h2 := textR_length (mkS (textO e.o))
  rw [mkS_size] at h2
  unfold textE
  simp only [List.length_append, leB_length]
  omega
theorem rowsE_length (l : List EnV) (h : ∀ e ∈ l, e.o.a.size ≤ 200 ∧ e.o.b.size ≤ 200) : (rowsE l).length ≤ 1000 * l.length := by
  induction l with
  | nil => simp [rowsE]
  | cons e l ih =>
    have h1 := textE_length e
    have h2 := textR_length (mkS (textE e))
    have h3 := h e (by simp)
    rw [mkS_size] at h2
    have h4 := ih (fun x hx => h x (by simp [hx]))
    unfold rowsE at *
    simp only [List.flatMap_cons, List.length_append, List.length_cons]
    omega
set_option maxRecDepth 100000 in
set_option maxHeartbeats 3200000 in
theorem rowE_calls (w : World) (A : Option Addr) (n c : Nat) (l : List EnV) (hrow : RowAt w A (l.flatMap EnV.C)) (HN : Hid (l.length = n)) (hn : n ≤ 20) (hok : ∀ e ∈ l, e.wf ∧ e.o.a.size ≤ 200 ∧ e.o.b.size ≤ 200) :
    Calls Tryd.prog 34 #[.slice A n c] w (StrPost w (rowE l)) := by
  have hnum := fun W => numR_calls W n 2 (by omega) (by omega)
  have hw64 : IntKind.u64.wrap (n : Int) = n := by rw [IntKind.wrap_u64]; omega
  go_enter Tryd.func34, Tryd.ntmps34
  go_wp2_with fail
  refine (hnum w).mono ?_
  rintro e w1 ⟨rfl, f1⟩
  clear hnum
  go_wp2_with fail
  go_loopw [3, 12] (fun v i wr => ∃ j : Nat, j ≤ n ∧ i = .int .i64 j ∧ v = .string (mkS (leB 2 n ++ rowsE (l.take j))) ∧ Fr noB w wr) (fun _ i _ => n - (intOf i).toNat)
  case atStart => exact ⟨0, Nat.zero_le _, rfl, by simp [rowsE], f1⟩
  case round =>
    clear f1
    obtain ⟨j, hj, rfl, rfl, hf⟩ := hrel
    by_cases hjn : j < n
    · obtain ⟨e, he⟩ : ∃ e, l[j]? = some e := ⟨_, List.getElem?_eq_getElem (by rw [HN.out]; exact hjn)⟩
      obtain ⟨ad, rfl⟩ := hrow.some_flat (by simp [EnV.C]) he
      obtain ⟨z0, z1, z2, z3, z4, z5, z6, z7, z8⟩ := ((hrow.seg 9 (fun _ => rfl) he).fr hf id).c9
      obtain ⟨hwf, h1, h2⟩ := hok e (List.mem_of_getElem? he)
      have htx := fun W => textE_calls W e hwf (by omega) (by omega)
      have hll := rowsE_length (l.take j) (fun x hx => (hok x (List.mem_of_mem_take hx)).2)
      have htl := textE_length e
      have HT : Hid (rowsE (l.take (j + 1)) = rowsE (l.take j) ++ textR (mkS (textE e))) := by
        unfold Hid rowsE; rw [take_snoc' he, List.flatMap_append]; simp
      have htk : (l.take j).length ≤ 20 := by rw [List.length_take]; omega
      have hpre : (leB 2 n ++ rowsE (l.take j)).length ≤ 100000 := by rw [List.length_append, leB_length]; omega
      have HP : Hid (leB 2 n ++ rowsE (l.take (j + 1)) = (leB 2 n ++ rowsE (l.take j)) ++ textR (mkS (textE e))) := by unfold Hid; rw [HT.out, List.append_assoc]
      generalize leB 2 n ++ rowsE (l.take j) = pre at *
      obtain ⟨post, hpost⟩ : ∃ x, leB 2 n ++ rowsE (l.take (j + 1)) = x := ⟨_, rfl⟩
      rw [hpost] at HP
      have HQ := hid hpost
      clear hpost
      generalize textE e = te at *
      have htr := fun W => textR_calls W (mkS te) (by rw [mkS_size]; omega)
      have hrl := textR_length (mkS te)
      rw [mkS_size] at hrl
      generalize textR (mkS te) = tr at *
      have hcat : (mkS pre).size + (mkS tr).size ≤ 9223372036854775807 := by rw [mkS_size, mkS_size]; omega
      have m1 := mkS_append pre tr
      rw [← HP.out] at m1
      have fa : Fr noB wr (wr.alloc (.cells e.C.toArray 58)) := (Fr.refl noB wr).alloc _
      have hba : BlkAt (wr.alloc (.cells e.C.toArray 58)) wr.heap.size 58 e.C.toArray := BlkAt.new _ _ _
      have hF := hf.then' fa
      obtain ⟨op, view, cl, num, ⟨k, oa, ob, on, or⟩⟩ := e
      unfold EnV.C at fa hba hF
      unfold EnV.v at htx
      simp only [] at *
      clear he hll htl hpre htk hrl hwf h1 h2 hf
      go_upto_region 5 with fail
      generalize hwa : (wr.alloc (.cells #[.int .u64 op, .int .u64 view, .int .u8 cl, .int .u64 num, .int .u8 k, .string oa, .string ob, .int .u8 on, .int .u8 or] 58)) = wa at *
      clear hwa z0 z1 z2 z3 z4 z5 z6 z7 z8 fa
      obtain ⟨z0, z1, z2, z3, z4, z5, z6, z7, z8, zf⟩ := BlkAt.c9 hba
      go_wp2_with fail
      refine (htx wa).mono ?_
      rintro ed w2 ⟨rfl, f2⟩
      clear z0 z1 z2 z3 z4 z5 z6 z7 z8 zf
      go_wp2_with fail
      refine (htr w2).mono ?_
      rintro ed w3 ⟨rfl, f3⟩
      have F3 := (hF.then' f2).then' f3
      clear htx htr f2 f3 hF hba
      go_wp2_with fail
      go_roundw
      case rel => exact ⟨j + 1, by omega, by go_num, by rw [HQ.out], F3⟩
      case measure => simp [intOf]; omega
    · have : j = n := by omega
      subst this
      have HR : Hid (leB 2 j ++ rowsE (l.take j) = rowE l) := by unfold Hid rowE; rw [HN.out, List.take_of_length_le (by rw [HN.out]; exact Nat.le_refl _)]
      rw [HR.out]
      clear hrow
      go_wp2_with fail
      go_ret
      exact ⟨rfl, hf⟩
def NewE (w : World) (es : List EnV) (e : Ending) (w' : World) : Prop :=
  ∃ A n c, e = .returned (.slice A n c) ∧ Hid (es.length = n) ∧ w'.ownsRow w.heap.size 58 9 (.slice A n c) n (es.flatMap EnV.C) ∧ Fr noB w w'
/-! ### Refs -/
set_option maxRecDepth 100000 in
set_option maxHeartbeats 1600000 in
theorem refsE_calls (w : World) (n c : Nat) (A : Option Addr) (L : List EnV) (hrow : RowAt w A (L.flatMap EnV.C)) (HN : Hid (L.length = n)) (hn : n ≤ 1000000) :
    Calls Tryd.prog 35 #[.slice A n c] w (NewE w L) := by
  go_enter Tryd.func35, Tryd.ntmps35
  go_wp2_with fail
  go_loopw [3, 8] (fun v i wr => ∃ j : Nat, j ≤ n ∧ i = .int .i64 j ∧ (∃ B d, v = .slice B j d ∧ wr.ownsRow w.heap.size 58 9 (.slice B j d) j ((L.take j).flatMap EnV.C)) ∧ Fr noB w wr) (fun _ i _ => n - (intOf i).toNat)
  case atStart => exact ⟨0, Nat.zero_le _, rfl, ⟨none, 0, rfl, World.ownsRow_nil _ _ _ _⟩, Fr.refl _ _⟩
  case round =>
    obtain ⟨j, hj, rfl, ⟨B, d, rfl, hO⟩, hf⟩ := hrel
    by_cases hjn : j < n
    · obtain ⟨e, he⟩ : ∃ e, L[j]? = some e := ⟨_, List.getElem?_eq_getElem (by rw [HN.out]; exact hjn)⟩
      obtain ⟨ad, rfl⟩ := hrow.some_flat (by simp [EnV.C]) he
      obtain ⟨z0, z1, z2, z3, z4, z5, z6, z7, z8⟩ := ((hrow.seg 9 (fun _ => rfl) he).fr hf id).c9
      have HT : Hid ((L.take (j + 1)).flatMap EnV.C = (L.take j).flatMap EnV.C ++ e.C) := by unfold Hid; rw [take_snoc' he, List.flatMap_append]; simp
      have hone : ∀ u ∈ e.C, u.oneCell' = true := by intro u hu; simp [EnV.C] at hu; rcases hu with rfl | rfl | rfl | rfl | rfl | rfl | rfl | rfl | rfl <;> rfl
      have hrf := fun W => ref19_calls W e
      have fa : Fr noB wr (wr.alloc (.cells e.C.toArray 49)) := (Fr.refl noB wr).alloc _
      have hba : BlkAt (wr.alloc (.cells e.C.toArray 49)) wr.heap.size 49 e.C.toArray := BlkAt.new _ _ _
      have hF := hf.then' fa
      have hO0 := own_fr hO fa (fun _ _ => id)
      obtain ⟨ys, hys⟩ : ∃ x, (L.take (j + 1)).flatMap EnV.C = x := ⟨_, rfl⟩
      rw [hys] at HT
      have HY := hid hys
      clear hys
      generalize (L.take j).flatMap EnV.C = xs at *
      obtain ⟨op, view, cl, num, ⟨k, oa, ob, on, or⟩⟩ := e
      unfold EnV.C at fa hba hF hone hO0
      unfold EnV.v at hrf
      simp only [] at *
      clear he hO hf
      go_upto_region 5 with fail
      generalize hwa : (wr.alloc (.cells #[.int .u64 op, .int .u64 view, .int .u8 cl, .int .u64 num, .int .u8 k, .string oa, .string ob, .int .u8 on, .int .u8 or] 49)) = wa at *
      clear hwa z0 z1 z2 z3 z4 z5 z6 z7 z8 fa
      obtain ⟨z0, z1, z2, z3, z4, z5, z6, z7, z8, zf⟩ := BlkAt.c9 hba
      go_wp2_with fail
      refine (hrf wa).mono ?_
      rintro ed w2 ⟨rfl, f2⟩
      have F2 := hF.then' f2
      have hO2 := own_fr hO0 f2 (fun _ _ => id)
      have hOa : (w2.alloc (.cells #[.int .u64 op, .int .u64 view, .int .u8 cl, .int .u64 num, .int .u8 k, .string oa, .string ob, .int .u8 on, .int .u8 or] 58)).ownsRow 0 58 9 (.slice B j d) j xs := own_mono (own_fr hO2 ((Fr.refl noB w2).alloc _) (fun _ _ => id)) (fun _ _ => Nat.zero_le _)
      have Fa : Fr noB w (w2.alloc (.cells #[.int .u64 op, .int .u64 view, .int .u8 cl, .int .u64 num, .int .u8 k, .string oa, .string ob, .int .u8 on, .int .u8 or] 58)) := F2.alloc _
      have hbase : ∀ g, (Value.slice B j d).ownBlock = some g → w.heap.size ≤ g := fun g hg => (hO2.lt g hg).1
      have hs2 := F2.size
      clear hrf f2 hO0 hO2 hF z0 z1 z2 z3 z4 z5 z6 z7 z8 zf hba F2
      go_wp2_with (at_builtin; refine wpList_app Tryd.appRn rfl (.tmp 12) (.tmp 15) rfl _ j xs rfl hOa _ 1 1 [.int .u64 op, .int .u64 view, .int .u8 cl, .int .u64 num, .int .u8 k, .string oa, .string ob, .int .u8 on, .int .u8 or] rfl rfl (new_row _ _ _) hone (by simp) (by omega) (by omega) ?_)
      intro A' c' w3 hown3 hg hat
      have f3 : Fr noB w w3 := Fr.grown Fa hg (fun g hg => Or.inr (hbase g hg))
      have hO3 : w3.ownsRow w.heap.size 58 9 (.slice A' (j + 1) c') (j + 1) ys := by
        have h9 := HT.out
        unfold EnV.C at h9
        rw [h9]
        refine own_mono hown3 (fun g hg => ?_)
        rcases hat with e | e
        · exact hbase g (e ▸ hg)
        · rw [hg] at e; simp at e; omega
      clear hg hat hown3 hOa Fa
      go_wp2_with fail
      go_roundw
      case rel => exact ⟨j + 1, by omega, by go_num, ⟨A', c', rfl, by rw [HY.out]; exact hO3⟩, f3⟩
      case measure => simp [intOf]; omega
    · have : j = n := by omega
      subst this
      rw [List.take_of_length_le (by rw [HN.out]; exact Nat.le_refl _)] at hO
      go_wp2_with fail
      go_ret
      exact ⟨B, j, d, rfl, HN, hO, hf⟩
end Go.Proofs.YtdngcheimohamaaDoor
/- entry.PutRow. -/
namespace Go.Proofs.YtdngcheimohamaaDoor
open Go.RowKit
def rowsB (l : List EnV) : List UInt8 := l.flatMap fun e => textB (mkS (enB e))
noncomputable def firstErr : List EnV → Nat
  | [] => 0
  | e :: l => if checkE e ≠ 0 then checkE e else firstErr l
theorem dropE {α : Type} {l : List α} {j : Nat} {e : α} (h : l[j]? = some e) : l.drop j = e :: l.drop (j + 1) := by
  obtain ⟨hj, rfl⟩ := List.getElem?_eq_some_iff.1 h
  exact List.drop_eq_getElem_cons hj
theorem firstErr_step {l : List EnV} {j : Nat} {e : EnV} (h : l[j]? = some e) : firstErr (l.drop j) = if checkE e ≠ 0 then checkE e else firstErr (l.drop (j + 1)) := by rw [dropE h]; rfl
theorem firstErr_all {l : List EnV} (h : firstErr l = 0) : ∀ e ∈ l, checkE e = 0 := by
  induction l with
  | nil => intro e he; cases he
  | cons e l ih =>
    unfold firstErr at h
    split at h
    · rename_i h1; exact absurd h h1
    · rename_i h1
      simp only [ne_eq, Decidable.not_not] at h1
      intro x hx
      rcases List.mem_cons.1 hx with rfl | hx
      · exact h1
      · exact ih h x hx
theorem rowsB_length (l : List EnV) (h : ∀ e ∈ l, checkE e = 0) : (rowsB l).length ≤ 93 * l.length := by
  induction l with
  | nil => simp [rowsB]
  | cons e l ih =>
    have h1 := enB_length (h e (by simp))
    have h2 := textB_length (mkS (enB e))
    rw [mkS_size] at h2
    have h4 := ih (fun x hx => h x (by simp [hx]))
    unfold rowsB at *
    simp only [List.flatMap_cons, List.length_append, List.length_cons]
    omega
def PutRPost (w : World) (S : Nat → Prop) (p : Nat) (bs : List UInt8) (l : List EnV) (ed : Ending) (w' : World) : Prop :=
  ed = .returned (.int .i64 (firstErr l : Nat)) ∧ if firstErr l = 0 then WrAt w' (andNew S w) p (bs ++ (leB 2 l.length ++ rowsB l)) ∧ Fr S w w' else Fr noB w w'
theorem PutRPost.ok {w w' : World} {S : Nat → Prop} {p : Nat} {bs : List UInt8} {l : List EnV} (h : firstErr l = 0) (hw : WrAt w' (andNew S w) p (bs ++ (leB 2 l.length ++ rowsB l))) (f : Fr S w w') : PutRPost w S p bs l (.returned (.int .i64 0)) w' := ⟨by rw [h]; rfl, by rw [if_pos h]; exact ⟨hw, f⟩⟩
theorem PutRPost.no {w w' : World} {S : Nat → Prop} {p k : Nat} {bs : List UInt8} {l : List EnV} (h : firstErr l = k) (hk : k ≠ 0) (f : Fr noB w w') : PutRPost w S p bs l (.returned (.int .i64 k)) w' := ⟨by rw [h], by rw [h, if_neg hk]; exact f⟩
set_option maxRecDepth 100000 in
set_option maxHeartbeats 6400000 in
theorem putRow_calls (w : World) (S : Nat → Prop) (p : Nat) (bs : List UInt8) (A : Option Addr) (n c : Nat) (l : List EnV) (ht : SignsAt w) (h : WrAt w S p bs) (hbl : bs.length ≤ 100) (hrow : RowAt w A (l.flatMap EnV.C)) (HN : Hid (l.length = n)) (hn : n ≤ 20) (hok : ∀ e ∈ l, e.wf ∧ e.o.a.size ≤ 200 ∧ e.o.b.size ≤ 200) :
    Calls Tryd.prog 31 #[.pointer (some ⟨p, 0, none⟩), .slice A n c] w (PutRPost w S p bs l) := by
  have hw0 := WrAt.new w
  have f0 : Fr noB w (w.alloc (.cells #[.slice none 0 0] 80)) := (Fr.refl noB w).alloc _
  have hS1 : WrAt w (fun k => S k ∧ k < w.heap.size) p bs := h.mono fun k hk hs => ⟨hs, hk⟩
  have hw16 : IntKind.u16.wrap (n : Int) = n := by rw [IntKind.wrap_u16]; omega
  go_enter Tryd.func31, Tryd.ntmps31
  go_upto_region 2 with fail
  generalize (w.alloc (.cells #[.slice none 0 0] 80)) = wa at *
  obtain ⟨q, hq⟩ : ∃ q, w.heap.size = q := ⟨_, rfl⟩
  have HQ := hid hq
  rw [hq] at hw0 hS1 ⊢
  clear hq
  go_wp2_with fail
  go_loopw [12] (fun i wr => ∃ j : Nat, j ≤ n ∧ i = .int .i64 j ∧ firstErr l = firstErr (l.drop j) ∧ (∀ e ∈ l.take j, checkE e = 0) ∧ WrAt wr (upB q) q (rowsB (l.take j)) ∧ Fr noB w wr) (fun i _ => n - (intOf i).toNat)
  case atStart => exact ⟨0, Nat.zero_le _, rfl, rfl, fun e he => by simp at he, hw0, f0⟩
  case round =>
    clear hw0 f0
    obtain ⟨j, hj, rfl, hfe, hall, hW, hf⟩ := hrel
    have htk : (l.take j).length ≤ 20 := by rw [List.length_take]; omega
    have hrl := rowsB_length (l.take j) hall
    by_cases hjn : j < n
    · obtain ⟨e, he⟩ : ∃ e, l[j]? = some e := ⟨_, List.getElem?_eq_getElem (by rw [HN.out]; exact hjn)⟩
      obtain ⟨ad, rfl⟩ := hrow.some_flat (by simp [EnV.C]) he
      obtain ⟨z0, z1, z2, z3, z4, z5, z6, z7, z8⟩ := ((hrow.seg 9 (fun _ => rfl) he).fr hf id).c9
      obtain ⟨hwf, h1, h2⟩ := hok e (List.mem_of_getElem? he)
      have HFE := hid (hfe.trans (firstErr_step he))
      have HT : Hid (rowsB (l.take (j + 1)) = rowsB (l.take j) ++ textB (mkS (enB e))) := by
        unfold Hid rowsB; rw [take_snoc' he, List.flatMap_append]; simp
      have hsn := take_snoc' he
      have hby := fun W (f : Fr noB w W) h => enBytesOk_calls W e (ht.fr0 f) hwf h
      have hbn := fun W (f : Fr noB w W) h => enBytesNo_calls W e (ht.fr0 f) hwf (by omega) (by omega) h
      have hel := fun h => enB_length (e := e) h
      have hal2 : checkE e = 0 → ∀ x ∈ l.take (j + 1), checkE x = 0 := fun h0 x hx => by
        rw [hsn] at hx
        rcases List.mem_append.1 hx with hx | hx
        · exact hall x hx
        · simp only [List.mem_singleton] at hx; rw [hx]; exact h0
      have fa : Fr noB wr (wr.alloc (.cells e.C.toArray 49)) := (Fr.refl noB wr).alloc _
      have hba : BlkAt (wr.alloc (.cells e.C.toArray 49)) wr.heap.size 49 e.C.toArray := BlkAt.new _ _ _
      have hF := hf.then' fa
      have hWa := hW.fr fa (fun _ _ _ => id)
      generalize checkE e = cv at *
      generalize enB e = eb at *
      obtain ⟨op, view, cl, num, ⟨k, oa, ob, on, or⟩⟩ := e
      unfold EnV.C at fa hba hF hWa
      unfold EnV.v at hby hbn
      unfold BytesEPost at hby
      simp only [] at *
      clear he hfe hwf h1 h2 hf hsn hW hall
      go_upto_region 5 with fail
      generalize hwa : (wr.alloc (.cells #[.int .u64 op, .int .u64 view, .int .u8 cl, .int .u64 num, .int .u8 k, .string oa, .string ob, .int .u8 on, .int .u8 or] 49)) = wb at *
      clear hwa z0 z1 z2 z3 z4 z5 z6 z7 z8 fa
      obtain ⟨z0, z1, z2, z3, z4, z5, z6, z7, z8, zf⟩ := BlkAt.c9 hba
      by_cases hc0 : cv = 0
      · rw [if_neg (by omega)] at HFE
        have hby' := hby wb hF hc0
        have hel' := hel hc0
        have hal3 := hal2 hc0
        clear hby hbn hel hal2
        subst hc0
        obtain ⟨m, hm⟩ : ∃ m, eb.length = m := ⟨_, rfl⟩
        rw [hm] at hby' hel'
        have HM := hid hm
        clear hm
        go_wp2_with fail
        refine hby'.mono ?_
        rintro ed w2 ⟨A2, c2, rfl, h2, f2⟩
        have F2 := hF.then' f2
        have hW2 := hWa.fr f2 (fun _ _ _ => id)
        have hst := Tryd.toStr (own_row h2) HM.out c2
        clear hby' h2 f2 hF hWa hba z0 z1 z2 z3 z4 z5 z6 z7 z8 zf
        go_wp2_with fail
        refine (text_calls w2 (upB q) q _ (mkS eb) hW2 (by rw [mkS_size, HM.out]; unfold maxLen; omega) (by rw [mkS_size, HM.out]; omega)).mono ?_
        rintro ed w3 ⟨rfl, h3, f3⟩
        have F3 : Fr noB w w3 := F2.trans f3 (fun i hi h => by have := HQ.out; unfold upB at h; omega)
        have hW3 := h3.up' (by have := F2.size; have := HQ.out; omega)
        rw [← HT.out] at hW3
        clear hst h3 f3 F2 hW2
        go_wp2_with fail
        go_roundw
        case rel => exact ⟨j + 1, by omega, by go_num, HFE.out, hal3, hW3, F3⟩
        case measure => simp [intOf]; omega
      · rw [if_pos hc0] at HFE
        have hbn' := hbn wb hF hc0
        have t2 : ((cv : Int) != 0) = true := by rw [bne_iff_ne]; omega
        have HC := hid hc0
        clear hby hbn hel hal2 hc0
        go_wp2_with fail
        refine hbn'.mono ?_
        rintro ed w2 ⟨rfl, f2⟩
        clear hbn'
        go_wp2_with fail
        go_ret
        exact PutRPost.no HFE.out HC.out (hF.then' f2)
    · have : j = n := by omega
      subst this
      have hF0 : firstErr l = 0 := by rw [hfe, List.drop_eq_nil_of_le (by rw [HN.out]; exact Nat.le_refl _)]; rfl
      rw [List.take_of_length_le (by rw [HN.out]; exact Nat.le_refl _)] at hW hrl
      have HF0 := hid hF0
      have HRL : Hid ((rowsB l).length ≤ 1860) := by unfold Hid; rw [HN.out] at hrl; omega
      have hS2 := hS1.fr hf (fun _ _ _ => id)
      clear hfe hall hrow hF0 hrl htk hok
      generalize hrb : rowsB l = rb at *
      have HRB := hid hrb
      clear hrb
      go_wp2_with fail
      refine (two_calls wr _ p bs j hS2 (by omega) (by omega)).mono ?_
      rintro ed w2 ⟨rfl, h2, f2⟩
      have hW2 := hW.fr f2 (fun k _ hk hs => by unfold upB at hk; omega)
      clear hS2 hW hS1 h
      go_wp2_with fail
      refine (bytes_calls w2 (upB q) q rb hW2 (by have := HRL.out; omega)).mono ?_
      rintro ed w3 ⟨A3, c3, rfl, h3, f3⟩
      have h2' := h2.fr f3 (fun _ _ _ => id)
      have hr3 := own_row h3
      have hn3 := own_nil h3
      clear h2 h3 hW2
      obtain ⟨m, hm⟩ : ∃ m, rb.length = m := ⟨_, rfl⟩
      rw [hm] at hn3 ⊢
      have HM := hid hm
      clear hm
      go_wp2_with fail
      refine (raw_calls w3 _ p _ A3 m c3 rb h2' hr3 HM.out hn3 (by rw [List.length_append, leB_length]; have := HRL.out; rw [HM.out] at this; omega)).mono ?_
      rintro ed w4 ⟨rfl, h4, f4⟩
      have hsz := hf.size
      have hsz2 := f2.size
      have hsz3 := f3.size
      have hQ := HQ.out
      have F4 : Fr S w w4 := ((hf.mono fun _ _ h => h.elim).then' ((f2.mono fun k _ hk => hk.1).then' ((f3.mono fun _ _ h => h.elim)))).trans f4 (fun i hi h => by
        rcases h with h | h
        · exact h.1
        · omega)
      have hW4 : WrAt w4 (andNew S w) p (bs ++ (leB 2 j ++ rb)) := by
        rw [← List.append_assoc]
        refine h4.mono fun k _ hk => ?_
        rcases hk with (hk | hk) | hk
        · exact Or.inl hk.1
        · exact Or.inr (by omega)
        · exact Or.inr (by omega)
      clear h4 f4 f2 f3 hf hr3 hn3 h2'
      go_wp2_with fail
      go_ret
      exact PutRPost.ok HF0.out (by rw [HN.out, HRB.out]; exact hW4) F4
end Go.Proofs.YtdngcheimohamaaDoor
/- Arguments that are read as data, as rows in memory. -/
namespace Go.Proofs.YtdngcheimohamaaDoor
open Go.RowKit Go.ChangeShapes Go.WideShapes

theorem list1 {α : Type} {l : List α} (h : l.length = 1) : ∃ a0, l = [a0] :=
  match l, h with | [a0], _ => ⟨a0, rfl⟩
theorem list2 {α : Type} {l : List α} (h : l.length = 2) : ∃ a0 a1, l = [a0, a1] :=
  match l, h with | [a0, a1], _ => ⟨a0, a1, rfl⟩
theorem list3 {α : Type} {l : List α} (h : l.length = 3) : ∃ a0 a1 a2, l = [a0, a1, a2] :=
  match l, h with | [a0, a1, a2], _ => ⟨a0, a1, a2, rfl⟩
theorem list4 {α : Type} {l : List α} (h : l.length = 4) : ∃ a0 a1 a2 a3, l = [a0, a1, a2, a3] :=
  match l, h with | [a0, a1, a2, a3], _ => ⟨a0, a1, a2, a3, rfl⟩
theorem list5 {α : Type} {l : List α} (h : l.length = 5) : ∃ a0 a1 a2 a3 a4, l = [a0, a1, a2, a3, a4] :=
  match l, h with | [a0, a1, a2, a3, a4], _ => ⟨a0, a1, a2, a3, a4, rfl⟩
theorem list6 {α : Type} {l : List α} (h : l.length = 6) : ∃ a0 a1 a2 a3 a4 a5, l = [a0, a1, a2, a3, a4, a5] :=
  match l, h with | [a0, a1, a2, a3, a4, a5], _ => ⟨a0, a1, a2, a3, a4, a5, rfl⟩
theorem list7 {α : Type} {l : List α} (h : l.length = 7) : ∃ a0 a1 a2 a3 a4 a5 a6, l = [a0, a1, a2, a3, a4, a5, a6] :=
  match l, h with | [a0, a1, a2, a3, a4, a5, a6], _ => ⟨a0, a1, a2, a3, a4, a5, a6, rfl⟩
theorem list8 {α : Type} {l : List α} (h : l.length = 8) : ∃ a0 a1 a2 a3 a4 a5 a6 a7, l = [a0, a1, a2, a3, a4, a5, a6, a7] :=
  match l, h with | [a0, a1, a2, a3, a4, a5, a6, a7], _ => ⟨a0, a1, a2, a3, a4, a5, a6, a7, rfl⟩
theorem list9 {α : Type} {l : List α} (h : l.length = 9) : ∃ a0 a1 a2 a3 a4 a5 a6 a7 a8, l = [a0, a1, a2, a3, a4, a5, a6, a7, a8] :=
  match l, h with | [a0, a1, a2, a3, a4, a5, a6, a7, a8], _ => ⟨a0, a1, a2, a3, a4, a5, a6, a7, a8, rfl⟩
theorem list10 {α : Type} {l : List α} (h : l.length = 10) : ∃ a0 a1 a2 a3 a4 a5 a6 a7 a8 a9, l = [a0, a1, a2, a3, a4, a5, a6, a7, a8, a9] :=
  match l, h with | [a0, a1, a2, a3, a4, a5, a6, a7, a8, a9], _ => ⟨a0, a1, a2, a3, a4, a5, a6, a7, a8, a9, rfl⟩
theorem list11 {α : Type} {l : List α} (h : l.length = 11) : ∃ a0 a1 a2 a3 a4 a5 a6 a7 a8 a9 a10, l = [a0, a1, a2, a3, a4, a5, a6, a7, a8, a9, a10] :=
  match l, h with | [a0, a1, a2, a3, a4, a5, a6, a7, a8, a9, a10], _ => ⟨a0, a1, a2, a3, a4, a5, a6, a7, a8, a9, a10, rfl⟩
theorem list12 {α : Type} {l : List α} (h : l.length = 12) : ∃ a0 a1 a2 a3 a4 a5 a6 a7 a8 a9 a10 a11, l = [a0, a1, a2, a3, a4, a5, a6, a7, a8, a9, a10, a11] :=
  match l, h with | [a0, a1, a2, a3, a4, a5, a6, a7, a8, a9, a10, a11], _ => ⟨a0, a1, a2, a3, a4, a5, a6, a7, a8, a9, a10, a11, rfl⟩
theorem list13 {α : Type} {l : List α} (h : l.length = 13) : ∃ a0 a1 a2 a3 a4 a5 a6 a7 a8 a9 a10 a11 a12, l = [a0, a1, a2, a3, a4, a5, a6, a7, a8, a9, a10, a11, a12] :=
  match l, h with | [a0, a1, a2, a3, a4, a5, a6, a7, a8, a9, a10, a11, a12], _ => ⟨a0, a1, a2, a3, a4, a5, a6, a7, a8, a9, a10, a11, a12, rfl⟩
theorem list14 {α : Type} {l : List α} (h : l.length = 14) : ∃ a0 a1 a2 a3 a4 a5 a6 a7 a8 a9 a10 a11 a12 a13, l = [a0, a1, a2, a3, a4, a5, a6, a7, a8, a9, a10, a11, a12, a13] :=
  match l, h with | [a0, a1, a2, a3, a4, a5, a6, a7, a8, a9, a10, a11, a12, a13], _ => ⟨a0, a1, a2, a3, a4, a5, a6, a7, a8, a9, a10, a11, a12, a13, rfl⟩
theorem list15 {α : Type} {l : List α} (h : l.length = 15) : ∃ a0 a1 a2 a3 a4 a5 a6 a7 a8 a9 a10 a11 a12 a13 a14, l = [a0, a1, a2, a3, a4, a5, a6, a7, a8, a9, a10, a11, a12, a13, a14] :=
  match l, h with | [a0, a1, a2, a3, a4, a5, a6, a7, a8, a9, a10, a11, a12, a13, a14], _ => ⟨a0, a1, a2, a3, a4, a5, a6, a7, a8, a9, a10, a11, a12, a13, a14, rfl⟩
theorem list16 {α : Type} {l : List α} (h : l.length = 16) : ∃ a0 a1 a2 a3 a4 a5 a6 a7 a8 a9 a10 a11 a12 a13 a14 a15, l = [a0, a1, a2, a3, a4, a5, a6, a7, a8, a9, a10, a11, a12, a13, a14, a15] :=
  match l, h with | [a0, a1, a2, a3, a4, a5, a6, a7, a8, a9, a10, a11, a12, a13, a14, a15], _ => ⟨a0, a1, a2, a3, a4, a5, a6, a7, a8, a9, a10, a11, a12, a13, a14, a15, rfl⟩
section
variable {H : Type} {enc : TypeId × Value → H} {P : Program} {w : World}
theorem open_strs {t e : TypeId} {A : Option Addr} {len cap : Nat} {d : DataW H} {ps : List MemPlace} (ht : P.underlying t = some (.slice e)) (he : P.underlying e = some .string) (hc : P.cellsOf e = 1)
    (h : DataW.Trod enc P w 0 (fun _ => true) true t (.slice A len cap) d ps) :
    ∃ ss : List ByteArray, RowAt w A (strs ss) ∧ ss.length = len ∧ len ≤ cap ∧ cap ≤ maxLen ∧ (∀ s ∈ ss, s.size ≤ maxLen) ∧ (A = none → len = 0 ∧ cap = 0) := by
  obtain ⟨fuel, hf⟩ := h
  rcases open_strings ht he hc hf with ⟨hcs, _⟩ | ⟨a, l, c, ss, hcs, _, hl, hm, hz, _, hcell, hsz⟩
  · simp [Value.cells] at hcs
    obtain ⟨rfl, rfl, rfl⟩ := hcs
    exact ⟨[], RowAt.nil _ _, rfl, Nat.le_refl _, Nat.zero_le _, by simp, fun _ => ⟨rfl, rfl⟩⟩
  · simp [Value.cells] at hcs
    obtain ⟨rfl, rfl, rfl⟩ := hcs
    simp only [if_true] at hz
    refine ⟨ss.take len, fun j u hu => ⟨a, rfl, ?_⟩, by rw [List.length_take]; omega, hl, hm, fun s hs => hsz s (List.mem_of_mem_take hs), fun e => by cases e⟩
    have hj : j < (ss.take len).length := by have := (List.getElem?_eq_some_iff.1 hu).1; simpa [strs] using this
    have hj2 : j < ss.length := by rw [List.length_take] at hj; omega
    rw [hcell j hj2]
    simp only [strs, List.getElem?_map] at hu
    rw [List.getElem?_take, if_pos (by rw [List.length_take] at hj; omega), List.getElem?_eq_getElem hj2] at hu
    simp at hu
    rw [← hu, List.getD_eq_getElem?_getD, List.getElem?_eq_getElem hj2]
    rfl
theorem flat_inv {α β : Type} (f : α → List β) (m : Nat) : ∀ (l : List α), (∀ a ∈ l, (f a).length = m) → ∀ (j : Nat) (u : β), (l.flatMap f)[j]? = some u → ∃ i a k, l[i]? = some a ∧ (f a)[k]? = some u ∧ j = i * m + k
  | [], _, j, u, h => by simp at h
  | c :: l, hf, j, u, h => by
    have hc := hf c (List.mem_cons_self ..)
    rw [List.flatMap_cons] at h
    by_cases hj : j < m
    · rw [List.getElem?_append_left (by rw [hc]; exact hj)] at h
      exact ⟨0, c, j, rfl, h, by omega⟩
    · rw [List.getElem?_append_right (by rw [hc]; omega), hc] at h
      obtain ⟨i, a, k, h1, h2, h3⟩ := flat_inv f m l (fun a ha => hf a (List.mem_cons_of_mem _ ha)) _ _ h
      exact ⟨i + 1, a, k, by simpa using h1, h2, by rw [Nat.succ_mul]; omega⟩
/-- A slice of structs (or of whatever), each element by a lemma of its own. -/
theorem open_rows {t e : TypeId} {A : Option Addr} {len cap : Nat} {d : DataW H} {ps : List MemPlace} {α : Type} [Inhabited α] (f : α → List Value) (good : α → Prop) (ht : P.underlying t = some (.slice e))
    (each : ∀ n cs y, DataW.trod enc P w 0 (fun _ => true) true n e cs = some y → ∃ a, cs = f a ∧ good a)
    (h : DataW.Trod enc P w 0 (fun _ => true) true t (.slice A len cap) d ps) :
    ∃ l : List α, RowAt w A (l.flatMap f) ∧ l.length = len ∧ len ≤ cap ∧ cap ≤ maxLen ∧ (∀ a ∈ l, good a) ∧ (A = none → len = 0 ∧ cap = 0) := by
  obtain ⟨fuel, hf⟩ := h
  rcases Deep.open_slice ht hf with ⟨hcs, _⟩ | ⟨ad, l, c, m, n, D, Pl, hcs, _, hl, hm, hmm, _, hx⟩
  · simp [Value.cells] at hcs
    obtain ⟨rfl, rfl, rfl⟩ := hcs
    exact ⟨[], by simpa using RowAt.nil _ _, rfl, Nat.le_refl _, Nat.zero_le _, by simp, fun _ => ⟨rfl, rfl⟩⟩
  · simp [Value.cells] at hcs
    obtain ⟨rfl, rfl, rfl⟩ := hcs
    simp only [if_true] at hmm
    subst hmm
    obtain ⟨F, hF⟩ := Deep.choose_lt (α := α) (n := len) (p := fun i a => w.cells? 0 (ad.add (i * P.cellsOf e)) (P.cellsOf e) = some (f a) ∧ good a) (fun i hi => by
      obtain ⟨cs', h1, h2⟩ := hx i (by omega)
      obtain ⟨a, rfl, hg⟩ := each n cs' _ h2
      exact ⟨a, h1, hg⟩)
    have hlen : ∀ a ∈ (List.range len).map F, (f a).length = P.cellsOf e := by
      intro a ha
      obtain ⟨i, hi, rfl⟩ := List.mem_map.1 ha
      exact (World.cells?_some (hF i (List.mem_range.1 hi)).1).2.1
    refine ⟨(List.range len).map F, fun j u hu => ?_, by simp, hl, hm, fun a ha => ?_, fun e => by cases e⟩
    · obtain ⟨i, a, k, h1, h2, rfl⟩ := flat_inv f _ _ hlen j u hu
      obtain ⟨hi, h3⟩ : i < len ∧ F i = a := by
        rw [List.getElem?_map] at h1
        cases hr : (List.range len)[i]? with
        | none => rw [hr] at h1; simp at h1
        | some x =>
          rw [hr] at h1
          obtain ⟨hx1, hx2⟩ := List.getElem?_eq_some_iff.1 hr
          simp at hx1 hx2 h1
          subst hx2
          exact ⟨hx1, h1⟩
      subst h3
      obtain ⟨_, h4, h5⟩ := World.cells?_some (hF i hi).1
      have hk : k < P.cellsOf e := by rw [← h4]; exact (List.getElem?_eq_some_iff.1 h2).1
      refine ⟨ad, rfl, ?_⟩
      rw [← add_add', h5 k hk, h2]
    · obtain ⟨i, hi, rfl⟩ := List.mem_map.1 ha
      exact (hF i (List.mem_range.1 hi)).2
end
end Go.Proofs.YtdngcheimohamaaDoor
/- Entries among the arguments. -/
namespace Go.Proofs.YtdngcheimohamaaDoor
open Go.RowKit Go.ChangeShapes Go.WideShapes
theorem u8_natE {n : Int} (h : (Lit.int .u8 n).wf = true) : 0 ≤ n ∧ n < 256 := by
  simp [Lit.wf, IntKind.min, IntKind.max, IntKind.bits, IntKind.signed] at h; omega
theorem u64_natE {n : Int} (h : (Lit.int .u64 n).wf = true) : 0 ≤ n ∧ n ≤ 18446744073709551615 := by
  simp [Lit.wf, IntKind.min, IntKind.max, IntKind.bits, IntKind.signed] at h; omega
theorem listE_5 {α : Type} : ∀ {l : List α}, l.length = 5 → ∃ x0 x1 x2 x3 x4, l = [x0, x1, x2, x3, x4]
  | [x0, x1, x2, x3, x4], _ => ⟨x0, x1, x2, x3, x4, rfl⟩
theorem listE_3 {α : Type} : ∀ {l : List α}, l.length = 3 → ∃ x0 x1 x2, l = [x0, x1, x2]
  | [x0, x1, x2], _ => ⟨x0, x1, x2, rfl⟩
theorem listE_7 {α : Type} : ∀ {l : List α}, l.length = 7 → ∃ x0 x1 x2 x3 x4 x5 x6, l = [x0, x1, x2, x3, x4, x5, x6]
  | [x0, x1, x2, x3, x4, x5, x6], _ => ⟨x0, x1, x2, x3, x4, x5, x6, rfl⟩
theorem listE_9 {α : Type} : ∀ {l : List α}, l.length = 9 → ∃ x0 x1 x2 x3 x4 x5 x6 x7 x8, l = [x0, x1, x2, x3, x4, x5, x6, x7, x8]
  | [x0, x1, x2, x3, x4, x5, x6, x7, x8], _ => ⟨x0, x1, x2, x3, x4, x5, x6, x7, x8, rfl⟩
instance : Inhabited EnV := ⟨zeroE⟩
structure OpOKE (o : OpV) : Prop where
  wf : o.wf
  a : o.a.size ≤ maxLen
  b : o.b.size ≤ maxLen
structure EnOK (e : EnV) : Prop where
  wf : e.wf
  a : e.o.a.size ≤ maxLen
  b : e.o.b.size ≤ maxLen
section
variable {H : Type} {enc : TypeId × Value → H} {w : World}
set_option maxRecDepth 100000 in
theorem open_opE (n : Nat) (cs : List Value) (y : DataW H × List MemPlace) (h : DataW.trod enc Tryd.prog w 0 (fun _ => true) true n 24 cs = some y) :
    ∃ o : OpV, cs = [.int .u8 o.k, .string o.a, .string o.b, .int .u8 o.n, .int .u8 o.r] ∧ OpOKE o := by
  obtain ⟨xs, m, _, rfl, hl, hlen, hf⟩ := DataW.trod_struct Tryd.underlying24 h
  have ct : Tryd.prog.cellsOf 24 = 5 := by kernel_rfl
  have k0 : Tryd.prog.cellsOf 5 = 1 := by kernel_rfl
  have k1 : Tryd.prog.cellsOf 9 = 1 := by kernel_rfl
  have k2 : Tryd.prog.cellsOf 22 = 1 := by kernel_rfl
  rw [ct] at hl
  obtain ⟨v0, v1, v2, v3, v4, rfl⟩ := listE_5 hl
  obtain ⟨x0, x1, x2, x3, x4, rfl⟩ := listE_5 (show xs.length = 5 from hlen)
  have g0 : DataW.trod enc Tryd.prog w 0 (fun _ => true) true m 5 (([v0, v1, v2, v3, v4].drop 0).take (Tryd.prog.cellsOf 5)) = some x0 := by
    have := hf 0 _ rfl
    exact this
  rw [k0] at g0
  have f0 : DataW.trod enc Tryd.prog w 0 (fun _ => true) true m 5 [v0] = some x0 := g0
  have g1 : DataW.trod enc Tryd.prog w 0 (fun _ => true) true m 9 (([v0, v1, v2, v3, v4].drop 1).take (Tryd.prog.cellsOf 9)) = some x1 := by
    have := hf 1 _ rfl
    exact this
  rw [k1] at g1
  have f1 : DataW.trod enc Tryd.prog w 0 (fun _ => true) true m 9 [v1] = some x1 := g1
  have g2 : DataW.trod enc Tryd.prog w 0 (fun _ => true) true m 9 (([v0, v1, v2, v3, v4].drop 2).take (Tryd.prog.cellsOf 9)) = some x2 := by
    have := hf 2 _ rfl
    exact this
  rw [k1] at g2
  have f2 : DataW.trod enc Tryd.prog w 0 (fun _ => true) true m 9 [v2] = some x2 := g2
  have g3 : DataW.trod enc Tryd.prog w 0 (fun _ => true) true m 5 (([v0, v1, v2, v3, v4].drop 3).take (Tryd.prog.cellsOf 5)) = some x3 := by
    have := hf 3 _ rfl
    exact this
  rw [k0] at g3
  have f3 : DataW.trod enc Tryd.prog w 0 (fun _ => true) true m 5 [v3] = some x3 := g3
  have g4 : DataW.trod enc Tryd.prog w 0 (fun _ => true) true m 22 (([v0, v1, v2, v3, v4].drop 4).take (Tryd.prog.cellsOf 22)) = some x4 := by
    have := hf 4 _ rfl
    exact this
  rw [k2] at g4
  have f4 : DataW.trod enc Tryd.prog w 0 (fun _ => true) true m 22 [v4] = some x4 := g4
  obtain ⟨n0, e0, _, w0⟩ := DataW.trod_int Tryd.underlying5 f0
  simp only [List.cons.injEq, and_true] at e0
  subst e0
  obtain ⟨u0, hu0⟩ := u8_natE w0
  obtain ⟨m0, rfl⟩ := Int.eq_ofNat_of_zero_le u0
  obtain ⟨s1, e1, _, hs1⟩ := DataW.trod_string Tryd.underlying9 f1
  simp only [List.cons.injEq, and_true] at e1
  subst e1
  obtain ⟨s2, e2, _, hs2⟩ := DataW.trod_string Tryd.underlying9 f2
  simp only [List.cons.injEq, and_true] at e2
  subst e2
  obtain ⟨n3, e3, _, w3⟩ := DataW.trod_int Tryd.underlying5 f3
  simp only [List.cons.injEq, and_true] at e3
  subst e3
  obtain ⟨u3, hu3⟩ := u8_natE w3
  obtain ⟨m3, rfl⟩ := Int.eq_ofNat_of_zero_le u3
  obtain ⟨n4, e4, _, w4⟩ := DataW.trod_int Tryd.underlying22 f4
  simp only [List.cons.injEq, and_true] at e4
  subst e4
  obtain ⟨u4, hu4⟩ := u8_natE w4
  obtain ⟨m4, rfl⟩ := Int.eq_ofNat_of_zero_le u4
  exact ⟨⟨m0, s1, s2, m3, m4⟩, rfl, ⟨⟨by simp only []; omega, by simp only []; omega, by simp only []; omega⟩, hs1, hs2⟩⟩
set_option maxRecDepth 100000 in
theorem open_reqE (n : Nat) (cs : List Value) (y : DataW H × List MemPlace) (h : DataW.trod enc Tryd.prog w 0 (fun _ => true) true n 47 cs = some y) :
    ∃ q : EnV, cs = [.int .u8 q.cl, .int .u64 q.num, .int .u8 q.o.k, .string q.o.a, .string q.o.b, .int .u8 q.o.n, .int .u8 q.o.r] ∧ (q.cl < 256 ∧ q.num < 18446744073709551616 ∧ OpOKE q.o) := by
  obtain ⟨xs, m, _, rfl, hl, hlen, hf⟩ := DataW.trod_struct Tryd.underlying47 h
  have ct : Tryd.prog.cellsOf 47 = 7 := by kernel_rfl
  have k0 : Tryd.prog.cellsOf 5 = 1 := by kernel_rfl
  have k1 : Tryd.prog.cellsOf 28 = 1 := by kernel_rfl
  have k2 : Tryd.prog.cellsOf 24 = 5 := by kernel_rfl
  rw [ct] at hl
  obtain ⟨v0, v1, v2, v3, v4, v5, v6, rfl⟩ := listE_7 hl
  obtain ⟨x0, x1, x2, rfl⟩ := listE_3 (show xs.length = 3 from hlen)
  have g0 : DataW.trod enc Tryd.prog w 0 (fun _ => true) true m 5 (([v0, v1, v2, v3, v4, v5, v6].drop 0).take (Tryd.prog.cellsOf 5)) = some x0 := by
    have := hf 0 _ rfl
    exact this
  rw [k0] at g0
  have f0 : DataW.trod enc Tryd.prog w 0 (fun _ => true) true m 5 [v0] = some x0 := g0
  have g1 : DataW.trod enc Tryd.prog w 0 (fun _ => true) true m 28 (([v0, v1, v2, v3, v4, v5, v6].drop 1).take (Tryd.prog.cellsOf 28)) = some x1 := by
    have := hf 1 _ rfl
    exact this
  rw [k1] at g1
  have f1 : DataW.trod enc Tryd.prog w 0 (fun _ => true) true m 28 [v1] = some x1 := g1
  have g2 : DataW.trod enc Tryd.prog w 0 (fun _ => true) true m 24 (([v0, v1, v2, v3, v4, v5, v6].drop 2).take (Tryd.prog.cellsOf 24)) = some x2 := by
    have := hf 2 _ rfl
    exact this
  rw [k2] at g2
  have f2 : DataW.trod enc Tryd.prog w 0 (fun _ => true) true m 24 [v2, v3, v4, v5, v6] = some x2 := g2
  obtain ⟨n0, e0, _, w0⟩ := DataW.trod_int Tryd.underlying5 f0
  simp only [List.cons.injEq, and_true] at e0
  subst e0
  obtain ⟨u0, hu0⟩ := u8_natE w0
  obtain ⟨m0, rfl⟩ := Int.eq_ofNat_of_zero_le u0
  obtain ⟨n1, e1, _, w1⟩ := DataW.trod_int Tryd.underlying28 f1
  simp only [List.cons.injEq, and_true] at e1
  subst e1
  obtain ⟨u1, hu1⟩ := u64_natE w1
  obtain ⟨m1, rfl⟩ := Int.eq_ofNat_of_zero_le u1
  obtain ⟨o2, e2, h2⟩ := open_opE m _ _ f2
  simp only [and_true, List.cons.injEq, and_true] at e2
  obtain ⟨rfl, rfl, rfl, rfl, rfl⟩ := e2
  exact ⟨⟨0, 0, m0, m1, o2⟩, rfl, ⟨by simp only []; omega, by simp only []; omega, h2⟩⟩
set_option maxRecDepth 100000 in
theorem open_enE (n : Nat) (cs : List Value) (y : DataW H × List MemPlace) (h : DataW.trod enc Tryd.prog w 0 (fun _ => true) true n 49 cs = some y) :
    ∃ e : EnV, cs = e.C ∧ EnOK e := by
  obtain ⟨xs, m, _, rfl, hl, hlen, hf⟩ := DataW.trod_struct Tryd.underlying49 h
  have ct : Tryd.prog.cellsOf 49 = 9 := by kernel_rfl
  have k0 : Tryd.prog.cellsOf 28 = 1 := by kernel_rfl
  have k1 : Tryd.prog.cellsOf 47 = 7 := by kernel_rfl
  rw [ct] at hl
  obtain ⟨v0, v1, v2, v3, v4, v5, v6, v7, v8, rfl⟩ := listE_9 hl
  obtain ⟨x0, x1, x2, rfl⟩ := listE_3 (show xs.length = 3 from hlen)
  have g0 : DataW.trod enc Tryd.prog w 0 (fun _ => true) true m 28 (([v0, v1, v2, v3, v4, v5, v6, v7, v8].drop 0).take (Tryd.prog.cellsOf 28)) = some x0 := by
    have := hf 0 _ rfl
    exact this
  rw [k0] at g0
  have f0 : DataW.trod enc Tryd.prog w 0 (fun _ => true) true m 28 [v0] = some x0 := g0
  have g1 : DataW.trod enc Tryd.prog w 0 (fun _ => true) true m 28 (([v0, v1, v2, v3, v4, v5, v6, v7, v8].drop 1).take (Tryd.prog.cellsOf 28)) = some x1 := by
    have := hf 1 _ rfl
    exact this
  rw [k0] at g1
  have f1 : DataW.trod enc Tryd.prog w 0 (fun _ => true) true m 28 [v1] = some x1 := g1
  have g2 : DataW.trod enc Tryd.prog w 0 (fun _ => true) true m 47 (([v0, v1, v2, v3, v4, v5, v6, v7, v8].drop 2).take (Tryd.prog.cellsOf 47)) = some x2 := by
    have := hf 2 _ rfl
    exact this
  rw [k1] at g2
  have f2 : DataW.trod enc Tryd.prog w 0 (fun _ => true) true m 47 [v2, v3, v4, v5, v6, v7, v8] = some x2 := g2
  obtain ⟨n0, e0, _, w0⟩ := DataW.trod_int Tryd.underlying28 f0
  simp only [List.cons.injEq, and_true] at e0
  subst e0
  obtain ⟨u0, hu0⟩ := u64_natE w0
  obtain ⟨m0, rfl⟩ := Int.eq_ofNat_of_zero_le u0
  obtain ⟨n1, e1, _, w1⟩ := DataW.trod_int Tryd.underlying28 f1
  simp only [List.cons.injEq, and_true] at e1
  subst e1
  obtain ⟨u1, hu1⟩ := u64_natE w1
  obtain ⟨m1, rfl⟩ := Int.eq_ofNat_of_zero_le u1
  obtain ⟨o2, e2, h2⟩ := open_reqE m _ _ f2
  simp only [and_true, List.cons.injEq, and_true] at e2
  obtain ⟨rfl, rfl, rfl, rfl, rfl, rfl, rfl⟩ := e2
  exact ⟨⟨m0, m1, o2.cl, o2.num, o2.o⟩, rfl, ⟨⟨by simp only []; omega, by simp only []; omega, h2.1, h2.2.1, h2.2.2.wf⟩, h2.2.2.a, h2.2.2.b⟩⟩
theorem open_ens {A : Option Addr} {len cap : Nat} {d : DataW H} {ps : List MemPlace} (h : DataW.Trod enc Tryd.prog w 0 (fun _ => true) true 34 (.slice A len cap) d ps) :
    ∃ L : List EnV, RowAt w A (L.flatMap EnV.C) ∧ L.length = len ∧ len ≤ cap ∧ cap ≤ maxLen ∧ (∀ e ∈ L, EnOK e) ∧ (A = none → len = 0 ∧ cap = 0) := by
  obtain ⟨l, h1, h2, h3, h4, h5, h6⟩ := open_rows EnV.C EnOK Tryd.underlying34 open_enE h
  exact ⟨l, h1, h2, h3, h4, h5, h6⟩
set_option maxRecDepth 100000 in
theorem open_en {v : Value} {d : DataW H} {ps : List MemPlace} {r : Reach} {b0 : Nat} {W : World} (hv : Value.okWide Tryd.prog W r b0 49 v) (h : DataW.Trod enc Tryd.prog w 0 (fun _ => true) true 49 v d ps) :
    ∃ e : EnV, v = e.v ∧ EnOK e := by
  obtain ⟨cs, rfl, _⟩ := okWide_struct Tryd.underlying49 hv
  obtain ⟨m, hm⟩ := h
  obtain ⟨o, e, ho⟩ := open_enE m _ _ hm
  refine ⟨o, ?_, ho⟩
  have : cs.toList = o.C := e
  unfold EnV.v
  unfold EnV.C at this
  rw [← this]
end
end Go.Proofs.YtdngcheimohamaaDoor
