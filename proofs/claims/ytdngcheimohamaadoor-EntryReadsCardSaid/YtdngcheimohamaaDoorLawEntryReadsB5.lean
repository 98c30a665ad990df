/- What the row leans on, part 5: contracts and plain laws. -/
import Derived.Test.YtdngcheimohamaaDoorProg
import Derived.WalkKit
import Derived.Maps.AppendAt
import Derived.Lib.AppendStr
import Derived.Laws.AppendOwnNone
import Derived.Deep.Draws
import Derived.WalkSpells
import Derived.Laws.IdiomStrings
import Derived.Lib.ConvBytes
import Derived.Lib.LaidTab
import Derived.LaidSub
import Derived.Deep.QuietTactic
import Derived.BigQuiet
import Derived.Lib.OthersKept
import Derived.Laws.RangeAny
import Derived.LaidEqlPtr
import Derived.Laws.StructEq
import Derived.Deep.Light
import Derived.Laws.Bits64b
import Derived.Laws.ResultCell
import Derived.Deep.RegionHeld3
import Derived.Deep.Cut
import Derived.SliceStrings
import Derived.Deep.Slices
import Derived.Test.YtdngcheimohamaaDoorLawEntryReadsB4
/- interrexlaw19.EntryBytes: the walk. -/
namespace Go.Proofs.YtdngcheimohamaaDoor
open Go.RowKit
open Classical in
theorem enEqq (w : World) (e : EnV) : (binOp .eql 49 e.v e.v).run Tryd.prog w = .ok (.bool true) w := by
  have h1 : Tryd.prog.stoodInHeld 49 = false := by kernel_rfl
  have h2 : Tryd.prog.underlying 49 = some (.struct (Tryd.prog.fieldsOf 49)) := by kernel_rfl
  have g1 : Tryd.prog.stoodInHeld 47 = false := by kernel_rfl
  have g2 : Tryd.prog.underlying 47 = some (.struct (Tryd.prog.fieldsOf 47)) := by kernel_rfl
  have k1 : Tryd.prog.stoodInHeld 24 = false := by kernel_rfl
  have k2 : Tryd.prog.underlying 24 = some (.struct (Tryd.prog.fieldsOf 24)) := by kernel_rfl
  unfold EnV.v
  rw [run_eql_struct, run_equalIn_struct w 9999 _ _ _ h2 h1]
  simp only [Program.fieldsOf, Tryd.underlying49]
  simp [go_sem]
theorem textE_eq {e : EnV} (h : checkE e = 0) : textE e = enB e := by
  have hv := checkV_ok (checkE_o h)
  have hs := checkE_size h
  unfold textE enB
  rw [textO_eq hv.1 (by omega) (by omega), textR_eq (by rw [mkS_size]; have := hv.2.2.2.2; omega)]
  simp only [List.append_assoc]
set_option maxRecDepth 100000 in
set_option maxHeartbeats 1600000 in
theorem little_calls (w : World) (e : EnV) : Calls Tryd.prog 16 #[e.v] w (BoolPost w (decide (e.o.a.size ≤ 200) && decide (e.o.b.size ≤ 200))) := by
  have f0 : Fr noB w (w.alloc (.cells e.C.toArray 49)) := (Fr.refl noB w).alloc _
  have hb0 : BlkAt (w.alloc (.cells e.C.toArray 49)) w.heap.size 49 e.C.toArray := BlkAt.new _ _ _
  obtain ⟨op, view, cl, num, ⟨k, oa, ob, on, or⟩⟩ := e
  unfold EnV.C at f0 hb0
  unfold EnV.v
  simp only [] at *
  obtain ⟨c1, h1⟩ : ∃ c, decide (oa.size ≤ 200) = c := ⟨_, rfl⟩
  obtain ⟨c2, h2⟩ : ∃ c, decide (ob.size ≤ 200) = c := ⟨_, rfl⟩
  have d1 : decide ((oa.size : Int) ≤ 200) = c1 := by rw [← h1, decide_eq_decide]; omega
  have d2 : decide ((ob.size : Int) ≤ 200) = c2 := by rw [← h2, decide_eq_decide]; omega
  rw [h1, h2]
  clear h1 h2
  cases c1 <;> cases c2
  all_goals
    go_enter Tryd.func16, Tryd.ntmps16
    go_upto_region 1 with fail
    generalize (w.alloc (.cells #[.int .u64 op, .int .u64 view, .int .u8 cl, .int .u64 num, .int .u8 k, .string oa, .string ob, .int .u8 on, .int .u8 or] 49)) = wa at *
    obtain ⟨x0, x1, x2, x3, x4, x5, x6, x7, x8, xf⟩ := BlkAt.c9 hb0
    go_wp2_with fail
    go_ret
    exact BoolPost.mk' rfl f0
set_option maxRecDepth 100000 in
set_option maxHeartbeats 6400000 in
theorem entryBytes_walk (w : World) (ht : SignsAt w) (e : EnV) (hw : e.wf) : Calls Tryd.prog 4 #[e.v] w (BoolPost w true) := by
  have hlit := fun W => little_calls W e
  have hlv := fun W (f : Fr noB w W) => lives19_calls W (ht.fr0 f)
  have f0 : Fr noB w (w.alloc (.cells e.C.toArray 49)) := (Fr.refl noB w).alloc _
  have hb0 : BlkAt (w.alloc (.cells e.C.toArray 49)) w.heap.size 49 e.C.toArray := BlkAt.new _ _ _
  cases hl : (decide (e.o.a.size ≤ 200) && decide (e.o.b.size ≤ 200)) with
  | false =>
    rw [hl] at hlit
    obtain ⟨op, view, cl, num, ⟨k, oa, ob, on, or⟩⟩ := e
    unfold EnV.C at f0 hb0
    unfold EnV.v at *
    simp only [] at *
    clear hl
    go_enter Tryd.func4, Tryd.ntmps4
    go_upto_region 1 with fail
    generalize (w.alloc (.cells #[.int .u64 op, .int .u64 view, .int .u8 cl, .int .u64 num, .int .u8 k, .string oa, .string ob, .int .u8 on, .int .u8 or] 49)) = wa at *
    go_wp2_with fail
    refine (hlv wa f0).mono ?_
    rintro ed w1 ⟨rfl, f1⟩
    have F1 := f0.then' f1
    obtain ⟨x0, x1, x2, x3, x4, x5, x6, x7, x8, xf⟩ := BlkAt.c9 (hb0.fr f1 id)
    clear hb0 f1 f0
    go_wp2_with fail
    refine (hlit w1).mono ?_
    rintro ed w2 ⟨rfl, f2⟩
    have F2 := F1.then' f2
    clear x0 x1 x2 x3 x4 x5 x6 x7 x8 xf
    go_wp2_with fail
    refine (hlv w2 F2).mono ?_
    rintro ed w3 ⟨rfl, f3⟩
    go_wp2_with fail
    go_ret
    exact BoolPost.mk' rfl (F2.then' f3)
  | true =>
    rw [hl] at hlit
    simp only [Bool.and_eq_true, decide_eq_true_eq] at hl
    have hrf := fun W => ref19_calls W e
    have hcr := fun W => checkEr_calls W e hw (by omega) (by omega)
    have hcn := fun W (f : Fr noB w W) => checkEn_calls W e (ht.fr0 f) hw (by omega) (by omega)
    by_cases hc : checkE e = 0
    · have hby := fun W (f : Fr noB w W) => enBytesOk_calls W e (ht.fr0 f) hw hc
      have htx := fun W => textE_calls W e hw (by omega) (by omega)
      rw [textE_eq hc] at htx
      rw [hc] at hcr hcn
      have hlen := enB_length hc
      have hrd := enRead_write hw hc
      have hwr := fun W A n c h1 h2 h3 h4 h5 => enRead_calls W A n c (enB e) h1 h2 h3 h4 h5
      rw [hrd] at hwr
      have hq : ∀ W, (binOp .eql 49 e.v e.v).run Tryd.prog W = .ok (.bool true) W := fun W => enEqq W e
      have HM : Hid (Tryd.prog.eqGuardType Tryd.prog.depth 49 = false) := Tryd.gE
      generalize enB e = bs at *
      obtain ⟨m, hm⟩ : ∃ m, bs.length = m := ⟨_, rfl⟩
      unfold BytesEPost at hby
      unfold EnEPost at hwr
      rw [hm] at hby hlen
      have hwr' := fun W A c h1 h2 h4 => hwr W A m c h1 h2 hm h4 (by omega)
      have HN := hid hm
      obtain ⟨op, view, cl, num, ⟨k, oa, ob, on, or⟩⟩ := e
      unfold EnV.C at f0 hb0
      unfold EnV.v at *
      simp only [] at *
      have heq : ((mkS bs).toList == (mkS bs).toList) = true := by simp
      have hle : decide ((m : Int) ≤ 91) = true := decide_eq_true (by omega)
      have HQ := hid hq
      clear hlen hq hwr hrd hl hm hw hc
      go_enter Tryd.func4, Tryd.ntmps4
      go_upto_region 1 with fail
      generalize (w.alloc (.cells #[.int .u64 op, .int .u64 view, .int .u8 cl, .int .u64 num, .int .u8 k, .string oa, .string ob, .int .u8 on, .int .u8 or] 49)) = wa at *
      go_wp2_with fail
      refine (hlv wa f0).mono ?_
      rintro ed w1 ⟨rfl, f1⟩
      have F1 := f0.then' f1
      replace hb0 := hb0.fr f1 id
      obtain ⟨x0, x1, x2, x3, x4, x5, x6, x7, x8, xf⟩ := BlkAt.c9 hb0
      clear f1 f0 hlv
      go_wp2_with fail
      refine (hlit w1).mono ?_
      rintro ed w2 ⟨rfl, f2⟩
      have F2 := F1.then' f2
      replace hb0 := hb0.fr f2 id
      clear x0 x1 x2 x3 x4 x5 x6 x7 x8 xf f2 F1 hlit
      obtain ⟨x0, x1, x2, x3, x4, x5, x6, x7, x8, xf⟩ := BlkAt.c9 hb0
      go_wp2_with fail
      refine (hby w2 F2).mono ?_
      rintro ed w3 ⟨A2, c2, rfl, h3, f3⟩
      have F3 := F2.then' f3
      replace hb0 := hb0.fr f3 id
      have hr3 := own_row h3
      have hn3 := own_nil h3
      clear x0 x1 x2 x3 x4 x5 x6 x7 x8 xf f3 F2 h3 hby
      obtain ⟨x0, x1, x2, x3, x4, x5, x6, x7, x8, xf⟩ := BlkAt.c9 hb0
      go_wp2_with fail
      refine (hrf w3).mono ?_
      rintro ed w4 ⟨rfl, f4⟩
      have F4 := F3.then' f4
      replace hb0 := hb0.fr f4 id
      replace hr3 := hr3.fr0 f4
      clear x0 x1 x2 x3 x4 x5 x6 x7 x8 xf f4 F3
      go_wp2_with fail
      refine (hcr w4).mono ?_
      rintro ed w5 ⟨rfl, f5⟩
      have F5 := F4.then' f5
      replace hb0 := hb0.fr f5 id
      replace hr3 := hr3.fr0 f5
      clear f5 F4 hcr
      obtain ⟨x0, x1, x2, x3, x4, x5, x6, x7, x8, xf⟩ := BlkAt.c9 hb0
      go_wp2_with fail
      refine (hcn w5 F5).mono ?_
      rintro ed w6 ⟨rfl, f6⟩
      have F6 := F5.then' f6
      replace hb0 := hb0.fr f6 id
      replace hr3 := hr3.fr0 f6
      clear x0 x1 x2 x3 x4 x5 x6 x7 x8 xf f6 F5 hcn
      go_wp2_with fail
      refine (hwr' w6 A2 c2 (ht.fr0 F6) hr3 hn3).mono ?_
      rintro ed w7 ⟨rfl, f7⟩
      have F7 := (F6.then' f7).alloc (.cells #[.int .u64 op, .int .u64 view, .int .u8 cl, .int .u64 num, .int .u8 k, .string oa, .string ob, .int .u8 on, .int .u8 or] 49)
      replace hb0 := (hb0.fr f7 id).al (.cells #[.int .u64 op, .int .u64 view, .int .u8 cl, .int .u64 num, .int .u8 k, .string oa, .string ob, .int .u8 on, .int .u8 or] 49)
      replace hr3 := (hr3.fr0 f7).fr0 ((Fr.refl noB _).alloc (.cells #[.int .u64 op, .int .u64 view, .int .u8 cl, .int .u64 num, .int .u8 k, .string oa, .string ob, .int .u8 on, .int .u8 or] 49))
      have hb9 : BlkAt (w7.alloc (.cells #[.int .u64 op, .int .u64 view, .int .u8 cl, .int .u64 num, .int .u8 k, .string oa, .string ob, .int .u8 on, .int .u8 or] 49)) w7.heap.size 49 #[.int .u64 op, .int .u64 view, .int .u8 cl, .int .u64 num, .int .u8 k, .string oa, .string ob, .int .u8 on, .int .u8 or] := BlkAt.new _ _ _
      clear f7 F6 hwr' hn3
      go_upto_region 9 with fail
      generalize hpy : w7.heap.size = py at *
      generalize (w7.alloc (.cells #[.int .u64 op, .int .u64 view, .int .u8 cl, .int .u64 num, .int .u8 k, .string oa, .string ob, .int .u8 on, .int .u8 or] 49)) = w8 at *
      clear hpy
      apply wp_region_calm (R := Fr noB) (C := fun q W => Fr noB w8 W ∧ BlkAt W (w.heap.size) 49 #[.int .u64 op, .int .u64 view, .int .u8 cl, .int .u64 num, .int .u8 k, .string oa, .string ob, .int .u8 on, .int .u8 or] ∧ BlkAt W (py) 49 #[.int .u64 op, .int .u64 view, .int .u8 cl, .int .u64 num, .int .u8 k, .string oa, .string ob, .int .u8 on, .int .u8 or]) [false, false, false, false, false, false, false, false, false, false, false, false, false, false, false, false, false, false, false, false, false]
        [eqv _, eqv _, eqv _, eqv _, eqv _, eqv _, eqv _, eqv _, eqv _, eqv _, eqv _, eqv _, eqv _, eqv _, eqv _, eqv _, eqv _, eqv _, eqv _, eqv _, eqv _]
        (by kernel_rfl) (by kernel_rfl) (fun _ _ _ h1 h2 => h1.then' h2) ((Fr.refl _ _).drew) ⟨(Fr.refl _ _).drew, hb0, hb9⟩ (by kernel_rfl)
      · refine ⟨?_, ?_, ?_, ?_, ?_, ?_, ?_, ?_, ?_, ?_, ?_, ?_, ?_, ?_, ?_, ?_, ?_, ?_, ?_, ?_, ?_, trivial⟩
        · rw [if_neg (by decide)]; intro kq
          exact calm_mv 3 rfl rfl (Or.inl rfl) (Fr.refl _) (by decide) fun v w hd => hd
        · rw [if_neg (by decide)]; intro kq
          intro a W K hC hd hK
          have d41 : _ = _ := hd 41 (by decide)
          refine wpOp_plain rfl rfl ?_
          have hst := Tryd.toStr (hr3.fr0 hC.1) HN.out c2
          go_wp2_with fail
          exact hK _ _ (Fr.refl _ _) hC rfl
        · rw [if_neg (by decide)]; intro kq
          intro a W K hC hd hK
          have d1 : a.tmps[1]?.getD undef = .pointer (some ⟨w.heap.size, 0, none⟩) := hd 1 (by decide)
          refine wpOp_plain rfl rfl ?_
          obtain ⟨x0_0, x0_1, x0_2, x0_3, x0_4, x0_5, x0_6, x0_7, x0_8, z0⟩ := BlkAt.c9 (hC.2.1)
          obtain ⟨x1_0, x1_1, x1_2, x1_3, x1_4, x1_5, x1_6, x1_7, x1_8, z1⟩ := BlkAt.c9 (hC.2.2)
          go_wp2_with fail
          exact hK _ _ (Fr.refl _ _) hC rfl
        · rw [if_neg (by decide)]; intro kq
          intro a W K hC hd hK
          have d43 : _ = _ := hd 43 (by decide)
          refine wpOp_plain rfl rfl ?_
          obtain ⟨x0_0, x0_1, x0_2, x0_3, x0_4, x0_5, x0_6, x0_7, x0_8, z0⟩ := BlkAt.c9 (hC.2.1)
          obtain ⟨x1_0, x1_1, x1_2, x1_3, x1_4, x1_5, x1_6, x1_7, x1_8, z1⟩ := BlkAt.c9 (hC.2.2)
          go_wp2_with fail
          refine (hrf W).mono ?_
          rintro e w9 ⟨rfl, f9⟩
          exact hK _ _ f9 ⟨hC.1.then' f9, hC.2.1.fr f9 id, hC.2.2.fr f9 id⟩ rfl
        · rw [if_neg (by decide)]; intro kq
          intro a W K hC hd hK
          have d44 : _ = _ := hd 44 (by decide)
          refine wpOp_plain rfl rfl ?_
          obtain ⟨x0_0, x0_1, x0_2, x0_3, x0_4, x0_5, x0_6, x0_7, x0_8, z0⟩ := BlkAt.c9 (hC.2.1)
          obtain ⟨x1_0, x1_1, x1_2, x1_3, x1_4, x1_5, x1_6, x1_7, x1_8, z1⟩ := BlkAt.c9 (hC.2.2)
          go_wp2_with fail
          refine (htx W).mono ?_
          rintro e w9 ⟨rfl, f9⟩
          exact hK _ _ f9 ⟨hC.1.then' f9, hC.2.1.fr f9 id, hC.2.2.fr f9 id⟩ rfl
        · rw [if_neg (by decide)]; intro kq
          intro a W K hC hd hK
          have d42 : _ = _ := hd 42 (by decide)
          have d45 : _ = _ := hd 45 (by decide)
          refine wpOp_plain rfl rfl ?_
          go_wp2_with fail
          exact hK _ _ (Fr.refl _ _) hC rfl
        · rw [if_neg (by decide)]; intro kq
          exact calm_mv 46 rfl rfl (Or.inl rfl) (Fr.refl _) (by decide) fun v w hd => hd
        · rw [if_neg (by decide)]; intro kq
          intro a W K hC hd hK
          have d3 : a.tmps[3]?.getD undef = .slice A2 m c2 := hd 3 (by decide)
          have d47 : _ = _ := hd 47 (by decide)
          first | (exact wpOp_skip rfl (wanted_of (want := true) (b := false) rfl rfl (by rw [eval_get]; exact d47)) (hK _ _ (Fr.refl _ _) hC rfl)) | (refine wpOp_want rfl (wanted_of (want := true) (b := true) rfl rfl (by rw [eval_get]; exact d47)) ?_)
          all_goals (
            go_wp2_with fail
            exact hK _ _ (Fr.refl _ _) hC rfl)
        · rw [if_neg (by decide)]; intro kq
          intro a W K hC hd hK
          have d48 : _ = _ := hd 48 (by decide)
          have d47 : _ = _ := hd 47 (by decide)
          first | (exact wpOp_skip rfl (wanted_of (want := true) (b := false) rfl rfl (by rw [eval_get]; exact d47)) (hK _ _ (Fr.refl _ _) hC rfl)) | (refine wpOp_want rfl (wanted_of (want := true) (b := true) rfl rfl (by rw [eval_get]; exact d47)) ?_)
          all_goals (
            obtain ⟨x0_0, x0_1, x0_2, x0_3, x0_4, x0_5, x0_6, x0_7, x0_8, z0⟩ := BlkAt.c9 (hC.2.1)
            obtain ⟨x1_0, x1_1, x1_2, x1_3, x1_4, x1_5, x1_6, x1_7, x1_8, z1⟩ := BlkAt.c9 (hC.2.2)
            go_wp2_with fail
            exact hK _ _ (Fr.refl _ _) hC rfl)
        · rw [if_neg (by decide)]; intro kq
          intro a W K hC hd hK
          have d49 : _ = _ := hd 49 (by decide)
          have d47 : _ = _ := hd 47 (by decide)
          first | (exact wpOp_skip rfl (wanted_of (want := true) (b := false) rfl rfl (by rw [eval_get]; exact d47)) (hK _ _ (Fr.refl _ _) hC rfl)) | (refine wpOp_want rfl (wanted_of (want := true) (b := true) rfl rfl (by rw [eval_get]; exact d47)) ?_)
          all_goals (
            go_wp2_with fail
            exact hK _ _ (Fr.refl _ _) hC rfl)
        · rw [if_neg (by decide)]; intro kq
          intro a W K hC hd hK
          have d47 : _ = _ := hd 47 (by decide)
          have d50 : _ = _ := hd 50 (by decide)
          refine wpOp_plain rfl rfl ?_
          go_wp2_with fail
          exact hK _ _ (Fr.refl _ _) hC rfl
        · rw [if_neg (by decide)]; intro kq
          exact calm_mv 51 rfl rfl (Or.inl rfl) (Fr.refl _) (by decide) fun v w hd => hd
        · rw [if_neg (by decide)]; intro kq
          intro a W K hC hd hK
          have d6 : a.tmps[6]?.getD undef = .int .i64 0 := hd 6 (by decide)
          have d52 : _ = _ := hd 52 (by decide)
          first | (exact wpOp_skip rfl (wanted_of (want := true) (b := false) rfl rfl (by rw [eval_get]; exact d52)) (hK _ _ (Fr.refl _ _) hC rfl)) | (refine wpOp_want rfl (wanted_of (want := true) (b := true) rfl rfl (by rw [eval_get]; exact d52)) ?_)
          all_goals (
            go_wp2_with fail
            exact hK _ _ (Fr.refl _ _) hC rfl)
        · rw [if_neg (by decide)]; intro kq
          intro a W K hC hd hK
          have d53 : _ = _ := hd 53 (by decide)
          have d52 : _ = _ := hd 52 (by decide)
          first | (exact wpOp_skip rfl (wanted_of (want := true) (b := false) rfl rfl (by rw [eval_get]; exact d52)) (hK _ _ (Fr.refl _ _) hC rfl)) | (refine wpOp_want rfl (wanted_of (want := true) (b := true) rfl rfl (by rw [eval_get]; exact d52)) ?_)
          all_goals (
            go_wp2_with fail
            exact hK _ _ (Fr.refl _ _) hC rfl)
        · rw [if_neg (by decide)]; intro kq
          intro a W K hC hd hK
          have d52 : _ = _ := hd 52 (by decide)
          have d54 : _ = _ := hd 54 (by decide)
          refine wpOp_plain rfl rfl ?_
          go_wp2_with fail
          exact hK _ _ (Fr.refl _ _) hC rfl
        · rw [if_neg (by decide)]; intro kq
          exact calm_mv 55 rfl rfl (Or.inl rfl) (Fr.refl _) (by decide) fun v w hd => hd
        · rw [if_neg (by decide)]; intro kq
          intro a W K hC hd hK
          have d5 : a.tmps[5]?.getD undef = .pointer (some ⟨py, 0, none⟩) := hd 5 (by decide)
          have d56 : _ = _ := hd 56 (by decide)
          first | (exact wpOp_skip rfl (wanted_of (want := true) (b := false) rfl rfl (by rw [eval_get]; exact d56)) (hK _ _ (Fr.refl _ _) hC rfl)) | (refine wpOp_want rfl (wanted_of (want := true) (b := true) rfl rfl (by rw [eval_get]; exact d56)) ?_)
          all_goals (
            obtain ⟨x0_0, x0_1, x0_2, x0_3, x0_4, x0_5, x0_6, x0_7, x0_8, z0⟩ := BlkAt.c9 (hC.2.1)
            obtain ⟨x1_0, x1_1, x1_2, x1_3, x1_4, x1_5, x1_6, x1_7, x1_8, z1⟩ := BlkAt.c9 (hC.2.2)
            go_wp2_with fail
            exact hK _ _ (Fr.refl _ _) hC rfl)
        · rw [if_neg (by decide)]; intro kq
          intro a W K hC hd hK
          have d1 : a.tmps[1]?.getD undef = .pointer (some ⟨w.heap.size, 0, none⟩) := hd 1 (by decide)
          have d56 : _ = _ := hd 56 (by decide)
          first | (exact wpOp_skip rfl (wanted_of (want := true) (b := false) rfl rfl (by rw [eval_get]; exact d56)) (hK _ _ (Fr.refl _ _) hC rfl)) | (refine wpOp_want rfl (wanted_of (want := true) (b := true) rfl rfl (by rw [eval_get]; exact d56)) ?_)
          all_goals (
            obtain ⟨x0_0, x0_1, x0_2, x0_3, x0_4, x0_5, x0_6, x0_7, x0_8, z0⟩ := BlkAt.c9 (hC.2.1)
            obtain ⟨x1_0, x1_1, x1_2, x1_3, x1_4, x1_5, x1_6, x1_7, x1_8, z1⟩ := BlkAt.c9 (hC.2.2)
            go_wp2_with fail
            exact hK _ _ (Fr.refl _ _) hC rfl)
        · rw [if_neg (by decide)]; intro kq
          intro a W K hC hd hK
          have d57 : _ = _ := hd 57 (by decide)
          have d58 : _ = _ := hd 58 (by decide)
          have d56 : _ = _ := hd 56 (by decide)
          first | (exact wpOp_skip rfl (wanted_of (want := true) (b := false) rfl rfl (by rw [eval_get]; exact d56)) (hK _ _ (Fr.refl _ _) hC rfl)) | (refine wpOp_want rfl (wanted_of (want := true) (b := true) rfl rfl (by rw [eval_get]; exact d56)) ?_)
          all_goals (
            have hq := HQ.out
            have hm := HM.out
            go_wp2_with fail
            exact hK _ _ (Fr.refl _ _) hC rfl)
        · rw [if_neg (by decide)]; intro kq
          intro a W K hC hd hK
          have d56 : _ = _ := hd 56 (by decide)
          have d59 : _ = _ := hd 59 (by decide)
          refine wpOp_plain rfl rfl ?_
          go_wp2_with fail
          exact hK _ _ (Fr.refl _ _) hC rfl
        · rw [if_neg (by decide)]; intro kq
          exact calm_mv 60 rfl rfl (Or.inr rfl) (Fr.refl _) (by decide) fun v w hd => hd
      · intro vs w9 fw9 cw9 hV
        have v41 : vs 0 = _ := hV 0 _ _ rfl rfl (by decide)
        have v42 : vs 1 = _ := hV 1 _ _ rfl rfl (by decide)
        have v43 : vs 2 = _ := hV 2 _ _ rfl rfl (by decide)
        have v44 : vs 3 = _ := hV 3 _ _ rfl rfl (by decide)
        have v45 : vs 4 = _ := hV 4 _ _ rfl rfl (by decide)
        have v46 : vs 5 = _ := hV 5 _ _ rfl rfl (by decide)
        have v47 : vs 6 = _ := hV 6 _ _ rfl rfl (by decide)
        have v48 : vs 7 = _ := hV 7 _ _ rfl rfl (by decide)
        have v49 : vs 8 = _ := hV 8 _ _ rfl rfl (by decide)
        have v50 : vs 9 = _ := hV 9 _ _ rfl rfl (by decide)
        have v51 : vs 10 = _ := hV 10 _ _ rfl rfl (by decide)
        have v52 : vs 11 = _ := hV 11 _ _ rfl rfl (by decide)
        have v53 : vs 12 = _ := hV 12 _ _ rfl rfl (by decide)
        have v54 : vs 13 = _ := hV 13 _ _ rfl rfl (by decide)
        have v55 : vs 14 = _ := hV 14 _ _ rfl rfl (by decide)
        have v56 : vs 15 = _ := hV 15 _ _ rfl rfl (by decide)
        have v57 : vs 16 = _ := hV 16 _ _ rfl rfl (by decide)
        have v58 : vs 17 = _ := hV 17 _ _ rfl rfl (by decide)
        have v59 : vs 18 = _ := hV 18 _ _ rfl rfl (by decide)
        have v60 : vs 19 = _ := hV 19 _ _ rfl rfl (by decide)
        have v2 : vs 20 = _ := hV 20 _ _ rfl rfl (by decide)
        clear hV
        replace hb0 : BlkAt w9 (w.heap.size) 49 #[.int .u64 op, .int .u64 view, .int .u8 cl, .int .u64 num, .int .u8 k, .string oa, .string ob, .int .u8 on, .int .u8 or] := cw9.2.1
        replace hb9 : BlkAt w9 (py) 49 #[.int .u64 op, .int .u64 view, .int .u8 cl, .int .u64 num, .int .u8 k, .string oa, .string ob, .int .u8 on, .int .u8 or] := cw9.2.2
        replace F7 := F7.trans fw9 (fun i hi h => h.elim)
        clear cw9
        simp only [putL, Act.put, Nat.reduceAdd, List.setIfInBounds_toArray, List.set_cons_zero, List.set_cons_succ, v41, v42, v43, v44, v45, v46, v47, v48, v49, v50, v51, v52, v53, v54, v55, v56, v57, v58, v59, v60, v2]
        go_wp2_with fail
        go_ret
        exact BoolPost.mk' rfl F7
    · have hby := fun W (f : Fr noB w W) => enBytesNo_calls W e (ht.fr0 f) hw (by omega) (by omega) hc
      have t1 : ((checkE e : Int) != 0) = true := by rw [bne_iff_ne]; omega
      generalize checkE e = cv at *
      obtain ⟨op, view, cl, num, ⟨k, oa, ob, on, or⟩⟩ := e
      unfold EnV.C at f0 hb0
      unfold EnV.v at *
      simp only [] at *
      clear hl hw hc
      go_enter Tryd.func4, Tryd.ntmps4
      go_upto_region 1 with fail
      generalize (w.alloc (.cells #[.int .u64 op, .int .u64 view, .int .u8 cl, .int .u64 num, .int .u8 k, .string oa, .string ob, .int .u8 on, .int .u8 or] 49)) = wa at *
      go_wp2_with fail
      refine (hlv wa f0).mono ?_
      rintro ed w1 ⟨rfl, f1⟩
      have F1 := f0.then' f1
      replace hb0 := hb0.fr f1 id
      obtain ⟨x0, x1, x2, x3, x4, x5, x6, x7, x8, xf⟩ := BlkAt.c9 hb0
      clear f1 f0 hlv
      go_wp2_with fail
      refine (hlit w1).mono ?_
      rintro ed w2 ⟨rfl, f2⟩
      have F2 := F1.then' f2
      replace hb0 := hb0.fr f2 id
      clear x0 x1 x2 x3 x4 x5 x6 x7 x8 xf f2 F1 hlit
      obtain ⟨x0, x1, x2, x3, x4, x5, x6, x7, x8, xf⟩ := BlkAt.c9 hb0
      go_wp2_with fail
      refine (hby w2 F2).mono ?_
      rintro ed w3 ⟨rfl, f3⟩
      have F3 := F2.then' f3
      replace hb0 := hb0.fr f3 id
      clear x0 x1 x2 x3 x4 x5 x6 x7 x8 xf f3 F2 hby
      obtain ⟨x0, x1, x2, x3, x4, x5, x6, x7, x8, xf⟩ := BlkAt.c9 hb0
      go_wp2_with fail
      refine (hrf w3).mono ?_
      rintro ed w4 ⟨rfl, f4⟩
      have F4 := F3.then' f4
      replace hb0 := hb0.fr f4 id
      clear x0 x1 x2 x3 x4 x5 x6 x7 x8 xf f4 F3
      go_wp2_with fail
      refine (hcr w4).mono ?_
      rintro ed w5 ⟨rfl, f5⟩
      have F5 := F4.then' f5
      replace hb0 := hb0.fr f5 id
      clear f5 F4 hcr
      obtain ⟨x0, x1, x2, x3, x4, x5, x6, x7, x8, xf⟩ := BlkAt.c9 hb0
      go_wp2_with fail
      refine (hcn w5 F5).mono ?_
      rintro ed w6 ⟨rfl, f6⟩
      have F6 := F5.then' f6
      replace hb0 := hb0.fr f6 id
      clear x0 x1 x2 x3 x4 x5 x6 x7 x8 xf f6 F5 hcn
      go_wp2_with fail
      go_ret
      exact BoolPost.mk' rfl F6
end Go.Proofs.YtdngcheimohamaaDoor
/- interrexlaw19.EntryReads: the walk. -/
namespace Go.Proofs.YtdngcheimohamaaDoor
open Go.RowKit
theorem enRead_err {bs : List UInt8} (h : (enRead bs).2 ≠ 0) : (enRead bs).1 = zeroE := by
  unfold enRead at *
  split
  · rfl
  · rename_i h1
    rw [if_neg h1] at h
    split
    · rfl
    · rename_i h2
      rw [if_neg h2] at h
      split
      · rfl
      · rename_i h3; rw [if_neg h3] at h; exact absurd rfl h
theorem zeroE_wf : zeroE.wf := ⟨by decide, by decide, by decide, by decide, zeroOp_wf⟩
theorem zeroE_ck : checkE zeroE ≠ 0 := by
  unfold checkE zeroE
  simp only []
  simp
set_option maxRecDepth 100000 in
set_option maxHeartbeats 6400000 in
theorem entryReads_walk (w : World) (ht : SignsAt w) (A : Option Addr) (n c : Nat) (bs : List UInt8) (hx : RowAt w A (bcells bs)) (hn : bs.length = n) (hB : A = none → n = 0 ∧ c = 0) :
    Calls Tryd.prog 5 #[.slice A n c] w (BoolPost w true) := by
  by_cases h300 : 300 < n
  · have d1 : decide ((300 : Int) < n) = true := decide_eq_true (by omega)
    go_enter Tryd.func5, Tryd.ntmps5
    go_wp2_with fail
    refine (lives19_calls w ht).mono ?_
    rintro e w1 ⟨rfl, f1⟩
    go_wp2_with fail
    refine (lives19_calls w1 (ht.fr0 f1)).mono ?_
    rintro e w2 ⟨rfl, f2⟩
    go_wp2_with fail
    go_ret
    exact BoolPost.mk' rfl (f1.then' f2)
  · have d1 : decide ((300 : Int) < n) = false := decide_eq_false (by omega)
    have hlen : bs.length ≤ 1000000000000 := by omega
    have hok := fun e => @enRead_ok bs e
    have her := @enRead_err bs
    have hA := fun W hx => enRead_calls W A n c bs (ht := hx)
    have hR := fun W => enReadR_calls W bs hlen
    generalize enRead bs = q at *
    obtain ⟨e, er⟩ := q
    unfold EnEPost at hA hR
    simp only [] at hA hR hok her
    have hrf := fun W => ref19_calls W e
    have HNQ : Hid (∀ W, (binOp .neq 58 e.v e.v).run Tryd.prog W = .ok (.bool false) W) := fun W => by rw [enNeqR]; simp
    have HM : Hid (Tryd.prog.eqGuardType Tryd.prog.depth 58 = false) := Tryd.gR
    have hne : ((er : Int) != er) = false := by simp
    have HLN := hid hlen
    by_cases he : er = 0
    · obtain ⟨hwf, hck, hbb⟩ := hok e (by rw [he])
      have hby := fun W (f : Fr noB w W) => enBytesOk_calls W e (ht.fr0 f) hwf hck
      rw [hbb] at hby
      unfold BytesEPost at hby
      rw [hn] at hby
      have t1 : ((er : Int) != 0) = false := by rw [bne_eq_false_iff_eq]; omega
      have heq : ((mkS bs).toList == (mkS bs).toList) = true := by simp
      clear hok her hwf hck hbb he
      obtain ⟨op, view, cl, num, ⟨k, oa, ob, on, or⟩⟩ := e
      unfold EnV.v at *
      simp only [] at *
      clear h300 hlen
      go_enter Tryd.func5, Tryd.ntmps5
      go_wp2_with fail
      refine (lives19_calls w ht).mono ?_
      rintro e' w1 ⟨rfl, f1⟩
      go_wp2_with fail
      refine (hA w1 (ht.fr0 f1) (hx.fr0 f1) hn hB (by rw [← hn]; exact HLN.out)).mono ?_
      rintro e' w2 ⟨rfl, f2⟩
      have F2 := f1.then' f2
      have hb1 : BlkAt (w2.alloc (.cells #[.int .u64 op, .int .u64 view, .int .u8 cl, .int .u64 num, .int .u8 k, .string oa, .string ob, .int .u8 on, .int .u8 or] 49)) w2.heap.size 49 #[.int .u64 op, .int .u64 view, .int .u8 cl, .int .u64 num, .int .u8 k, .string oa, .string ob, .int .u8 on, .int .u8 or] := BlkAt.new _ _ _
      have F3 := F2.alloc (.cells #[.int .u64 op, .int .u64 view, .int .u8 cl, .int .u64 num, .int .u8 k, .string oa, .string ob, .int .u8 on, .int .u8 or] 49)
      clear hA f1 f2 F2
      go_upto_region 4 with fail
      generalize hp1 : w2.heap.size = p1 at *
      generalize (w2.alloc (.cells #[.int .u64 op, .int .u64 view, .int .u8 cl, .int .u64 num, .int .u8 k, .string oa, .string ob, .int .u8 on, .int .u8 or] 49)) = w3 at *
      clear hp1
      have hst := Tryd.toStr (hx.fr0 F3) hn c
      go_wp2_with fail
      refine (hR w3).mono ?_
      rintro e' w4 ⟨rfl, f4⟩
      have hb4 := (hb1.fr f4 id).al (.cells #[.int .u64 op, .int .u64 view, .int .u8 cl, .int .u64 num, .int .u8 k, .string oa, .string ob, .int .u8 on, .int .u8 or] 58)
      have F4 := (F3.then' f4).alloc (.cells #[.int .u64 op, .int .u64 view, .int .u8 cl, .int .u64 num, .int .u8 k, .string oa, .string ob, .int .u8 on, .int .u8 or] 58)
      have hb5 : BlkAt (w4.alloc (.cells #[.int .u64 op, .int .u64 view, .int .u8 cl, .int .u64 num, .int .u8 k, .string oa, .string ob, .int .u8 on, .int .u8 or] 58)) w4.heap.size 58 #[.int .u64 op, .int .u64 view, .int .u8 cl, .int .u64 num, .int .u8 k, .string oa, .string ob, .int .u8 on, .int .u8 or] := BlkAt.new _ _ _
      clear hR hst f4 F3 hb1
      go_upto_region 5 with fail
      generalize hp2 : w4.heap.size = p2 at *
      generalize (w4.alloc (.cells #[.int .u64 op, .int .u64 view, .int .u8 cl, .int .u64 num, .int .u8 k, .string oa, .string ob, .int .u8 on, .int .u8 or] 58)) = w5 at *
      clear hp2
      apply wp_region_calm (R := Fr noB) (C := fun q W => Fr noB w5 W ∧ BlkAt W (p1) 49 #[.int .u64 op, .int .u64 view, .int .u8 cl, .int .u64 num, .int .u8 k, .string oa, .string ob, .int .u8 on, .int .u8 or] ∧ BlkAt W (p2) 58 #[.int .u64 op, .int .u64 view, .int .u8 cl, .int .u64 num, .int .u8 k, .string oa, .string ob, .int .u8 on, .int .u8 or]) [false, false, false, false, false, false, false, false, false]
        [eqv _, eqv _, eqv _, eqv (.bool false), eqv (.bool false), eqv _, eqv _, eqv (.bool false), eqv (.bool false)]
        (by kernel_rfl) (by kernel_rfl) (fun _ _ _ h1 h2 => h1.then' h2) ((Fr.refl _ _).drew) ⟨(Fr.refl _ _).drew, hb4, hb5⟩ (by kernel_rfl)
      · refine ⟨?_, ?_, ?_, ?_, ?_, ?_, ?_, ?_, ?_, trivial⟩
        · rw [if_neg (by decide)]; intro kq
          intro a W K hC hd hK
          have d3 : a.tmps[3]?.getD undef = .pointer (some ⟨p1, 0, none⟩) := hd 3 (by decide)
          refine wpOp_plain rfl rfl ?_
          obtain ⟨x0_0, x0_1, x0_2, x0_3, x0_4, x0_5, x0_6, x0_7, x0_8, z0⟩ := BlkAt.c9 (hC.2.1)
          obtain ⟨x1_0, x1_1, x1_2, x1_3, x1_4, x1_5, x1_6, x1_7, x1_8, z1⟩ := BlkAt.c9 (hC.2.2)
          go_wp2_with fail
          exact hK _ _ (Fr.refl _ _) hC rfl
        · rw [if_neg (by decide)]; intro kq
          intro a W K hC hd hK
          have d28 : _ = _ := hd 28 (by decide)
          refine wpOp_plain rfl rfl ?_
          obtain ⟨x0_0, x0_1, x0_2, x0_3, x0_4, x0_5, x0_6, x0_7, x0_8, z0⟩ := BlkAt.c9 (hC.2.1)
          obtain ⟨x1_0, x1_1, x1_2, x1_3, x1_4, x1_5, x1_6, x1_7, x1_8, z1⟩ := BlkAt.c9 (hC.2.2)
          go_wp2_with fail
          refine (hrf W).mono ?_
          rintro e w9 ⟨rfl, f9⟩
          exact hK _ _ f9 ⟨hC.1.then' f9, hC.2.1.fr f9 id, hC.2.2.fr f9 id⟩ rfl
        · rw [if_neg (by decide)]; intro kq
          intro a W K hC hd hK
          have d5 : a.tmps[5]?.getD undef = .pointer (some ⟨p2, 0, none⟩) := hd 5 (by decide)
          refine wpOp_plain rfl rfl ?_
          obtain ⟨x0_0, x0_1, x0_2, x0_3, x0_4, x0_5, x0_6, x0_7, x0_8, z0⟩ := BlkAt.c9 (hC.2.1)
          obtain ⟨x1_0, x1_1, x1_2, x1_3, x1_4, x1_5, x1_6, x1_7, x1_8, z1⟩ := BlkAt.c9 (hC.2.2)
          go_wp2_with fail
          exact hK _ _ (Fr.refl _ _) hC rfl
        · rw [if_neg (by decide)]; intro kq
          intro a W K hC hd hK
          have d29 : _ = _ := hd 29 (by decide)
          have d30 : _ = _ := hd 30 (by decide)
          refine wpOp_plain rfl rfl ?_
          have hnq := HNQ.out
          have hm := HM.out
          go_wp2_with fail
          exact hK _ _ (Fr.refl _ _) hC rfl
        · rw [if_neg (by decide)]; intro kq
          exact calm_mv 31 rfl rfl (Or.inl rfl) (Fr.refl _) (by decide) fun v w hd => hd
        · rw [if_neg (by decide)]; intro kq
          intro a W K hC hd hK
          have d4 : a.tmps[4]?.getD undef = .int .i64 er := hd 4 (by decide)
          have d32 : a.tmps[32]?.getD undef = .bool false := hd 32 (by decide)
          first | (exact wpOp_skip rfl (wanted_of (want := false) (b := true) rfl rfl (by rw [eval_get]; exact d32)) (hK _ _ (Fr.refl _ _) hC rfl)) | (refine wpOp_want rfl (wanted_of (want := false) (b := false) rfl rfl (by rw [eval_get]; exact d32)) ?_)
          all_goals (
            go_wp2_with fail
            exact hK _ _ (Fr.refl _ _) hC rfl)
        · rw [if_neg (by decide)]; intro kq
          intro a W K hC hd hK
          have d6 : a.tmps[6]?.getD undef = .int .i64 er := hd 6 (by decide)
          have d32 : a.tmps[32]?.getD undef = .bool false := hd 32 (by decide)
          first | (exact wpOp_skip rfl (wanted_of (want := false) (b := true) rfl rfl (by rw [eval_get]; exact d32)) (hK _ _ (Fr.refl _ _) hC rfl)) | (refine wpOp_want rfl (wanted_of (want := false) (b := false) rfl rfl (by rw [eval_get]; exact d32)) ?_)
          all_goals (
            go_wp2_with fail
            exact hK _ _ (Fr.refl _ _) hC rfl)
        · rw [if_neg (by decide)]; intro kq
          intro a W K hC hd hK
          have d33 : _ = _ := hd 33 (by decide)
          have d34 : _ = _ := hd 34 (by decide)
          have d32 : a.tmps[32]?.getD undef = .bool false := hd 32 (by decide)
          first | (exact wpOp_skip rfl (wanted_of (want := false) (b := true) rfl rfl (by rw [eval_get]; exact d32)) (hK _ _ (Fr.refl _ _) hC rfl)) | (refine wpOp_want rfl (wanted_of (want := false) (b := false) rfl rfl (by rw [eval_get]; exact d32)) ?_)
          all_goals (
            go_wp2_with fail
            exact hK _ _ (Fr.refl _ _) hC rfl)
        · rw [if_neg (by decide)]; intro kq
          intro a W K hC hd hK
          have d32 : a.tmps[32]?.getD undef = .bool false := hd 32 (by decide)
          have d35 : a.tmps[35]?.getD undef = .bool false := hd 35 (by decide)
          refine wpOp_plain rfl rfl ?_
          go_wp2_with fail
          exact hK _ _ (Fr.refl _ _) hC rfl
      · intro vs w6 fw6 cw6 hV
        have v28 : vs 0 = _ := hV 0 _ _ rfl rfl (by decide)
        have v29 : vs 1 = _ := hV 1 _ _ rfl rfl (by decide)
        have v30 : vs 2 = _ := hV 2 _ _ rfl rfl (by decide)
        have v31 : vs 3 = .bool false := hV 3 _ _ rfl rfl (by decide)
        have v32 : vs 4 = .bool false := hV 4 _ _ rfl rfl (by decide)
        have v33 : vs 5 = _ := hV 5 _ _ rfl rfl (by decide)
        have v34 : vs 6 = _ := hV 6 _ _ rfl rfl (by decide)
        have v35 : vs 7 = .bool false := hV 7 _ _ rfl rfl (by decide)
        have v36 : vs 8 = .bool false := hV 8 _ _ rfl rfl (by decide)
        clear hV
        replace hb4 : BlkAt w6 (p1) 49 #[.int .u64 op, .int .u64 view, .int .u8 cl, .int .u64 num, .int .u8 k, .string oa, .string ob, .int .u8 on, .int .u8 or] := cw6.2.1
        replace hb5 : BlkAt w6 (p2) 58 #[.int .u64 op, .int .u64 view, .int .u8 cl, .int .u64 num, .int .u8 k, .string oa, .string ob, .int .u8 on, .int .u8 or] := cw6.2.2
        replace F4 := F4.trans fw6 (fun i hi h => h.elim)
        clear cw6
        simp only [putL, Act.put, Nat.reduceAdd, List.setIfInBounds_toArray, List.set_cons_zero, List.set_cons_succ, v28, v29, v30, v31, v32, v33, v34, v35, v36]
        obtain ⟨x0, x1, x2, x3, x4, x5, x6, x7, x8, xf⟩ := BlkAt.c9 hb4
        go_wp2_with fail
        refine (hby w6 F4).mono ?_
        rintro e' w7 ⟨A', c', rfl, h7, f7⟩
        have F7 := F4.then' f7
        have hst1 := Tryd.toStr (own_row h7) hn c'
        have hst2 := Tryd.toStr (hx.fr0 F7) hn c
        clear hby hn h7 hx
        clear x0 x1 x2 x3 x4 x5 x6 x7 x8 xf
        go_wp2_with fail
        go_ret
        exact BoolPost.mk' rfl F7
    · obtain rfl : e = zeroE := her he
      have hby := fun W (f : Fr noB w W) => enBytesNo_calls W zeroE (ht.fr0 f) zeroE_wf (by decide) (by decide) zeroE_ck
      have t1 : ((er : Int) != 0) = true := by rw [bne_iff_ne]; omega
      generalize zeroE = e at *
      clear hok her he
      generalize checkE e = cv at *
      obtain ⟨op, view, cl, num, ⟨k, oa, ob, on, or⟩⟩ := e
      unfold EnV.v at *
      simp only [] at *
      clear h300 hlen
      go_enter Tryd.func5, Tryd.ntmps5
      go_wp2_with fail
      refine (lives19_calls w ht).mono ?_
      rintro e' w1 ⟨rfl, f1⟩
      go_wp2_with fail
      refine (hA w1 (ht.fr0 f1) (hx.fr0 f1) hn hB (by rw [← hn]; exact HLN.out)).mono ?_
      rintro e' w2 ⟨rfl, f2⟩
      have F2 := f1.then' f2
      have hb1 : BlkAt (w2.alloc (.cells #[.int .u64 op, .int .u64 view, .int .u8 cl, .int .u64 num, .int .u8 k, .string oa, .string ob, .int .u8 on, .int .u8 or] 49)) w2.heap.size 49 #[.int .u64 op, .int .u64 view, .int .u8 cl, .int .u64 num, .int .u8 k, .string oa, .string ob, .int .u8 on, .int .u8 or] := BlkAt.new _ _ _
      have F3 := F2.alloc (.cells #[.int .u64 op, .int .u64 view, .int .u8 cl, .int .u64 num, .int .u8 k, .string oa, .string ob, .int .u8 on, .int .u8 or] 49)
      clear hA f1 f2 F2
      go_upto_region 4 with fail
      generalize hp1 : w2.heap.size = p1 at *
      generalize (w2.alloc (.cells #[.int .u64 op, .int .u64 view, .int .u8 cl, .int .u64 num, .int .u8 k, .string oa, .string ob, .int .u8 on, .int .u8 or] 49)) = w3 at *
      clear hp1
      have hst := Tryd.toStr (hx.fr0 F3) hn c
      go_wp2_with fail
      refine (hR w3).mono ?_
      rintro e' w4 ⟨rfl, f4⟩
      have hb4 := (hb1.fr f4 id).al (.cells #[.int .u64 op, .int .u64 view, .int .u8 cl, .int .u64 num, .int .u8 k, .string oa, .string ob, .int .u8 on, .int .u8 or] 58)
      have F4 := (F3.then' f4).alloc (.cells #[.int .u64 op, .int .u64 view, .int .u8 cl, .int .u64 num, .int .u8 k, .string oa, .string ob, .int .u8 on, .int .u8 or] 58)
      have hb5 : BlkAt (w4.alloc (.cells #[.int .u64 op, .int .u64 view, .int .u8 cl, .int .u64 num, .int .u8 k, .string oa, .string ob, .int .u8 on, .int .u8 or] 58)) w4.heap.size 58 #[.int .u64 op, .int .u64 view, .int .u8 cl, .int .u64 num, .int .u8 k, .string oa, .string ob, .int .u8 on, .int .u8 or] := BlkAt.new _ _ _
      clear hR hst f4 F3 hb1
      go_upto_region 5 with fail
      generalize hp2 : w4.heap.size = p2 at *
      generalize (w4.alloc (.cells #[.int .u64 op, .int .u64 view, .int .u8 cl, .int .u64 num, .int .u8 k, .string oa, .string ob, .int .u8 on, .int .u8 or] 58)) = w5 at *
      clear hp2
      apply wp_region_calm (R := Fr noB) (C := fun q W => Fr noB w5 W ∧ BlkAt W (p1) 49 #[.int .u64 op, .int .u64 view, .int .u8 cl, .int .u64 num, .int .u8 k, .string oa, .string ob, .int .u8 on, .int .u8 or] ∧ BlkAt W (p2) 58 #[.int .u64 op, .int .u64 view, .int .u8 cl, .int .u64 num, .int .u8 k, .string oa, .string ob, .int .u8 on, .int .u8 or]) [false, false, false, false, false, false, false, false, false]
        [eqv _, eqv _, eqv _, eqv (.bool false), eqv (.bool false), eqv _, eqv _, eqv (.bool false), eqv (.bool false)]
        (by kernel_rfl) (by kernel_rfl) (fun _ _ _ h1 h2 => h1.then' h2) ((Fr.refl _ _).drew) ⟨(Fr.refl _ _).drew, hb4, hb5⟩ (by kernel_rfl)
      · refine ⟨?_, ?_, ?_, ?_, ?_, ?_, ?_, ?_, ?_, trivial⟩
        · rw [if_neg (by decide)]; intro kq
          intro a W K hC hd hK
          have d3 : a.tmps[3]?.getD undef = .pointer (some ⟨p1, 0, none⟩) := hd 3 (by decide)
          refine wpOp_plain rfl rfl ?_
          obtain ⟨x0_0, x0_1, x0_2, x0_3, x0_4, x0_5, x0_6, x0_7, x0_8, z0⟩ := BlkAt.c9 (hC.2.1)
          obtain ⟨x1_0, x1_1, x1_2, x1_3, x1_4, x1_5, x1_6, x1_7, x1_8, z1⟩ := BlkAt.c9 (hC.2.2)
          go_wp2_with fail
          exact hK _ _ (Fr.refl _ _) hC rfl
        · rw [if_neg (by decide)]; intro kq
          intro a W K hC hd hK
          have d28 : _ = _ := hd 28 (by decide)
          refine wpOp_plain rfl rfl ?_
          obtain ⟨x0_0, x0_1, x0_2, x0_3, x0_4, x0_5, x0_6, x0_7, x0_8, z0⟩ := BlkAt.c9 (hC.2.1)
          obtain ⟨x1_0, x1_1, x1_2, x1_3, x1_4, x1_5, x1_6, x1_7, x1_8, z1⟩ := BlkAt.c9 (hC.2.2)
          go_wp2_with fail
          refine (hrf W).mono ?_
          rintro e w9 ⟨rfl, f9⟩
          exact hK _ _ f9 ⟨hC.1.then' f9, hC.2.1.fr f9 id, hC.2.2.fr f9 id⟩ rfl
        · rw [if_neg (by decide)]; intro kq
          intro a W K hC hd hK
          have d5 : a.tmps[5]?.getD undef = .pointer (some ⟨p2, 0, none⟩) := hd 5 (by decide)
          refine wpOp_plain rfl rfl ?_
          obtain ⟨x0_0, x0_1, x0_2, x0_3, x0_4, x0_5, x0_6, x0_7, x0_8, z0⟩ := BlkAt.c9 (hC.2.1)
          obtain ⟨x1_0, x1_1, x1_2, x1_3, x1_4, x1_5, x1_6, x1_7, x1_8, z1⟩ := BlkAt.c9 (hC.2.2)
          go_wp2_with fail
          exact hK _ _ (Fr.refl _ _) hC rfl
        · rw [if_neg (by decide)]; intro kq
          intro a W K hC hd hK
          have d29 : _ = _ := hd 29 (by decide)
          have d30 : _ = _ := hd 30 (by decide)
          refine wpOp_plain rfl rfl ?_
          have hnq := HNQ.out
          have hm := HM.out
          go_wp2_with fail
          exact hK _ _ (Fr.refl _ _) hC rfl
        · rw [if_neg (by decide)]; intro kq
          exact calm_mv 31 rfl rfl (Or.inl rfl) (Fr.refl _) (by decide) fun v w hd => hd
        · rw [if_neg (by decide)]; intro kq
          intro a W K hC hd hK
          have d4 : a.tmps[4]?.getD undef = .int .i64 er := hd 4 (by decide)
          have d32 : a.tmps[32]?.getD undef = .bool false := hd 32 (by decide)
          first | (exact wpOp_skip rfl (wanted_of (want := false) (b := true) rfl rfl (by rw [eval_get]; exact d32)) (hK _ _ (Fr.refl _ _) hC rfl)) | (refine wpOp_want rfl (wanted_of (want := false) (b := false) rfl rfl (by rw [eval_get]; exact d32)) ?_)
          all_goals (
            go_wp2_with fail
            exact hK _ _ (Fr.refl _ _) hC rfl)
        · rw [if_neg (by decide)]; intro kq
          intro a W K hC hd hK
          have d6 : a.tmps[6]?.getD undef = .int .i64 er := hd 6 (by decide)
          have d32 : a.tmps[32]?.getD undef = .bool false := hd 32 (by decide)
          first | (exact wpOp_skip rfl (wanted_of (want := false) (b := true) rfl rfl (by rw [eval_get]; exact d32)) (hK _ _ (Fr.refl _ _) hC rfl)) | (refine wpOp_want rfl (wanted_of (want := false) (b := false) rfl rfl (by rw [eval_get]; exact d32)) ?_)
          all_goals (
            go_wp2_with fail
            exact hK _ _ (Fr.refl _ _) hC rfl)
        · rw [if_neg (by decide)]; intro kq
          intro a W K hC hd hK
          have d33 : _ = _ := hd 33 (by decide)
          have d34 : _ = _ := hd 34 (by decide)
          have d32 : a.tmps[32]?.getD undef = .bool false := hd 32 (by decide)
          first | (exact wpOp_skip rfl (wanted_of (want := false) (b := true) rfl rfl (by rw [eval_get]; exact d32)) (hK _ _ (Fr.refl _ _) hC rfl)) | (refine wpOp_want rfl (wanted_of (want := false) (b := false) rfl rfl (by rw [eval_get]; exact d32)) ?_)
          all_goals (
            go_wp2_with fail
            exact hK _ _ (Fr.refl _ _) hC rfl)
        · rw [if_neg (by decide)]; intro kq
          intro a W K hC hd hK
          have d32 : a.tmps[32]?.getD undef = .bool false := hd 32 (by decide)
          have d35 : a.tmps[35]?.getD undef = .bool false := hd 35 (by decide)
          refine wpOp_plain rfl rfl ?_
          go_wp2_with fail
          exact hK _ _ (Fr.refl _ _) hC rfl
      · intro vs w6 fw6 cw6 hV
        have v28 : vs 0 = _ := hV 0 _ _ rfl rfl (by decide)
        have v29 : vs 1 = _ := hV 1 _ _ rfl rfl (by decide)
        have v30 : vs 2 = _ := hV 2 _ _ rfl rfl (by decide)
        have v31 : vs 3 = .bool false := hV 3 _ _ rfl rfl (by decide)
        have v32 : vs 4 = .bool false := hV 4 _ _ rfl rfl (by decide)
        have v33 : vs 5 = _ := hV 5 _ _ rfl rfl (by decide)
        have v34 : vs 6 = _ := hV 6 _ _ rfl rfl (by decide)
        have v35 : vs 7 = .bool false := hV 7 _ _ rfl rfl (by decide)
        have v36 : vs 8 = .bool false := hV 8 _ _ rfl rfl (by decide)
        clear hV
        replace hb4 : BlkAt w6 (p1) 49 #[.int .u64 op, .int .u64 view, .int .u8 cl, .int .u64 num, .int .u8 k, .string oa, .string ob, .int .u8 on, .int .u8 or] := cw6.2.1
        replace hb5 : BlkAt w6 (p2) 58 #[.int .u64 op, .int .u64 view, .int .u8 cl, .int .u64 num, .int .u8 k, .string oa, .string ob, .int .u8 on, .int .u8 or] := cw6.2.2
        replace F4 := F4.trans fw6 (fun i hi h => h.elim)
        clear cw6
        simp only [putL, Act.put, Nat.reduceAdd, List.setIfInBounds_toArray, List.set_cons_zero, List.set_cons_succ, v28, v29, v30, v31, v32, v33, v34, v35, v36]
        obtain ⟨x0, x1, x2, x3, x4, x5, x6, x7, x8, xf⟩ := BlkAt.c9 hb4
        go_wp2_with fail
        refine (hby w6 F4).mono ?_
        rintro e' w7 ⟨rfl, f7⟩
        have F7 := F4.then' f7
        clear hby hn hx
        clear x0 x1 x2 x3 x4 x5 x6 x7 x8 xf
        go_wp2_with fail
        go_ret
        exact BoolPost.mk' rfl F7
theorem entryReads_law (w : World) (ht : SignsAt w) (A : Option Addr) (n c : Nat) (b : List UInt8) (o : RowAt w A (bcells b) ∧ b.length = n ∧ n ≤ c ∧ c ≤ maxLen ∧ (A = none → n = 0 ∧ c = 0)) :
    Calls Tryd.prog 5 #[.slice A n c] w (BoolPost w true) :=
  entryReads_walk w ht A n c b o.1 o.2.1 o.2.2.2.2
end Go.Proofs.YtdngcheimohamaaDoor
/- Arguments that are read as data, as rows in memory. -/
namespace Go.Proofs.YtdngcheimohamaaDoor
open Go.RowKit Go.ChangeShapes Go.WideShapes

theorem list1 {α : Type} {l : List α} (h : l.length = 1) : ∃ a0, l = [a0] :=
  match l, h with | [a0], _ => ⟨a0, rfl⟩
theorem list2 {α : Type} {l : List α} (h : l.length = 2) : ∃ a0 a1, l = [a0, a1] :=
  match l, h with | [a0, a1], _ => ⟨a0, a1, rfl⟩
theorem list3 {α : Type} {l : List α} (h : l.length = 3) : ∃ a0 a1 a2, l = [a0, a1, a2] :=
  match l, h with | [a0, a1, a2], _ => ⟨a0, a1, a2, rfl⟩
theorem list4 {α : Type} {l : List α} (h : l.length = 4) : ∃ a0 a1 a2 a3, l = [a0, a1, a2, a3] :=
  match l, h with | [a0, a1, a2, a3], _ => ⟨a0, a1, a2, a3, rfl⟩
theorem list5 {α : Type} {l : List α} (h : l.length = 5) : ∃ a0 a1 a2 a3 a4, l = [a0, a1, a2, a3, a4] :=
  match l, h with | [a0, a1, a2, a3, a4], _ => ⟨a0, a1, a2, a3, a4, rfl⟩
theorem list6 {α : Type} {l : List α} (h : l.length = 6) : ∃ a0 a1 a2 a3 a4 a5, l = [a0, a1, a2, a3, a4, a5] :=
  match l, h with | [a0, a1, a2, a3, a4, a5], _ => ⟨a0, a1, a2, a3, a4, a5, rfl⟩
theorem list7 {α : Type} {l : List α} (h : l.length = 7) : ∃ a0 a1 a2 a3 a4 a5 a6, l = [a0, a1, a2, a3, a4, a5, a6] :=
  match l, h with | [a0, a1, a2, a3, a4, a5, a6], _ => ⟨a0, a1, a2, a3, a4, a5, a6, rfl⟩
theorem list8 {α : Type} {l : List α} (h : l.length = 8) : ∃ a0 a1 a2 a3 a4 a5 a6 a7, l = [a0, a1, a2, a3, a4, a5, a6, a7] :=
  match l, h with | [a0, a1, a2, a3, a4, a5, a6, a7], _ => ⟨a0, a1, a2, a3, a4, a5, a6, a7, rfl⟩
theorem list9 {α : Type} {l : List α} (h : l.length = 9) : ∃ a0 a1 a2 a3 a4 a5 a6 a7 a8, l = [a0, a1, a2, a3, a4, a5, a6, a7, a8] :=
  match l, h with | [a0, a1, a2, a3, a4, a5, a6, a7, a8], _ => ⟨a0, a1, a2, a3, a4, a5, a6, a7, a8, rfl⟩
theorem list10 {α : Type} {l : List α} (h : l.length = 10) : ∃ a0 a1 a2 a3 a4 a5 a6 a7 a8 a9, l = [a0, a1, a2, a3, a4, a5, a6, a7, a8, a9] :=
  match l, h with | [a0, a1, a2, a3, a4, a5, a6, a7, a8, a9], _ => ⟨a0, a1, a2, a3, a4, a5, a6, a7, a8, a9, rfl⟩
theorem list11 {α : Type} {l : List α} (h : l.length = 11) : ∃ a0 a1 a2 a3 a4 a5 a6 a7 a8 a9 a10, l = [a0, a1, a2, a3, a4, a5, a6, a7, a8, a9, a10] :=
  match l, h with | [a0, a1, a2, a3, a4, a5, a6, a7, a8, a9, a10], _ => ⟨a0, a1, a2, a3, a4, a5, a6, a7, a8, a9, a10, rfl⟩
theorem list12 {α : Type} {l : List α} (h : l.length = 12) : ∃ a0 a1 a2 a3 a4 a5 a6 a7 a8 a9 a10 a11, l = [a0, a1, a2, a3, a4, a5, a6, a7, a8, a9, a10, a11] :=
  match l, h with | [a0, a1, a2, a3, a4, a5, a6, a7, a8, a9, a10, a11], _ => ⟨a0, a1, a2, a3, a4, a5, a6, a7, a8, a9, a10, a11, rfl⟩
theorem list13 {α : Type} {l : List α} (h : l.length = 13) : ∃ a0 a1 a2 a3 a4 a5 a6 a7 a8 a9 a10 a11 a12, l = [a0, a1, a2, a3, a4, a5, a6, a7, a8, a9, a10, a11, a12] :=
  match l, h with | [a0, a1, a2, a3, a4, a5, a6, a7, a8, a9, a10, a11, a12], _ => ⟨a0, a1, a2, a3, a4, a5, a6, a7, a8, a9, a10, a11, a12, rfl⟩
theorem list14 {α : Type} {l : List α} (h : l.length = 14) : ∃ a0 a1 a2 a3 a4 a5 a6 a7 a8 a9 a10 a11 a12 a13, l = [a0, a1, a2, a3, a4, a5, a6, a7, a8, a9, a10, a11, a12, a13] :=
  match l, h with | [a0, a1, a2, a3, a4, a5, a6, a7, a8, a9, a10, a11, a12, a13], _ => ⟨a0, a1, a2, a3, a4, a5, a6, a7, a8, a9, a10, a11, a12, a13, rfl⟩
theorem list15 {α : Type} {l : List α} (h : l.length = 15) : ∃ a0 a1 a2 a3 a4 a5 a6 a7 a8 a9 a10 a11 a12 a13 a14, l = [a0, a1, a2, a3, a4, a5, a6, a7, a8, a9, a10, a11, a12, a13, a14] :=
  match l, h with | [a0, a1, a2, a3, a4, a5, a6, a7, a8, a9, a10, a11, a12, a13, a14], _ => ⟨a0, a1, a2, a3, a4, a5, a6, a7, a8, a9, a10, a11, a12, a13, a14, rfl⟩
theorem list16 {α : Type} {l : List α} (h : l.length = 16) : ∃ a0 a1 a2 a3 a4 a5 a6 a7 a8 a9 a10 a11 a12 a13 a14 a15, l = [a0, a1, a2, a3, a4, a5, a6, a7, a8, a9, a10, a11, a12, a13, a14, a15] :=
  match l, h with | [a0, a1, a2, a3, a4, a5, a6, a7, a8, a9, a10, a11, a12, a13, a14, a15], _ => ⟨a0, a1, a2, a3, a4, a5, a6, a7, a8, a9, a10, a11, a12, a13, a14, a15, rfl⟩
section
variable {H : Type} {enc : TypeId × Value → H} {P : Program} {w : World}
theorem open_strs {t e : TypeId} {A : Option Addr} {len cap : Nat} {d : DataW H} {ps : List MemPlace} (ht : P.underlying t = some (.slice e)) (he : P.underlying e = some .string) (hc : P.cellsOf e = 1)
    (h : DataW.Trod enc P w 0 (fun _ => true) true t (.slice A len cap) d ps) :
    ∃ ss : List ByteArray, RowAt w A (strs ss) ∧ ss.length = len ∧ len ≤ cap ∧ cap ≤ maxLen ∧ (∀ s ∈ ss, s.size ≤ maxLen) ∧ (A = none → len = 0 ∧ cap = 0) := by
  obtain ⟨fuel, hf⟩ := h
  rcases open_strings ht he hc hf with ⟨hcs, _⟩ | ⟨a, l, c, ss, hcs, _, hl, hm, hz, _, hcell, hsz⟩
  · simp [Value.cells] at hcs
    obtain ⟨rfl, rfl, rfl⟩ := hcs
    exact ⟨[], RowAt.nil _ _, rfl, Nat.le_refl _, Nat.zero_le _, by simp, fun _ => ⟨rfl, rfl⟩⟩
  · simp [Value.cells] at hcs
    obtain ⟨rfl, rfl, rfl⟩ := hcs
    simp only [if_true] at hz
    refine ⟨ss.take len, fun j u hu => ⟨a, rfl, ?_⟩, by rw [List.length_take]; omega, hl, hm, fun s hs => hsz s (List.mem_of_mem_take hs), fun e => by cases e⟩
    have hj : j < (ss.take len).length := by have := (List.getElem?_eq_some_iff.1 hu).1; simpa [strs] using this
    have hj2 : j < ss.length := by rw [List.length_take] at hj; omega
    rw [hcell j hj2]
    simp only [strs, List.getElem?_map] at hu
    rw [List.getElem?_take, if_pos (by rw [List.length_take] at hj; omega), List.getElem?_eq_getElem hj2] at hu
    simp at hu
    rw [← hu, List.getD_eq_getElem?_getD, List.getElem?_eq_getElem hj2]
    rfl
theorem flat_inv {α β : Type} (f : α → List β) (m : Nat) : ∀ (l : List α), (∀ a ∈ l, (f a).length = m) → ∀ (j : Nat) (u : β), (l.flatMap f)[j]? = some u → ∃ i a k, l[i]? = some a ∧ (f a)[k]? = some u ∧ j = i * m + k
  | [], _, j, u, h => by simp at h
  | c :: l, hf, j, u, h => by
    have hc := hf c (List.mem_cons_self ..)
    rw [List.flatMap_cons] at h
    by_cases hj : j < m
    · rw [List.getElem?_append_left (by rw [hc]; exact hj)] at h
      exact ⟨0, c, j, rfl, h, by omega⟩
    · rw [List.getElem?_append_right (by rw [hc]; omega), hc] at h
      obtain ⟨i, a, k, h1, h2, h3⟩ := flat_inv f m l (fun a ha => hf a (List.mem_cons_of_mem _ ha)) _ _ h
      exact ⟨i + 1, a, k, by simpa using h1, h2, by rw [Nat.succ_mul]; omega⟩
/-- A slice of structs (or of whatever), each element by a lemma of its own. -/
theorem open_rows {t e : TypeId} {A : Option Addr} {len cap : Nat} {d : DataW H} {ps : List MemPlace} {α : Type} [Inhabited α] (f : α → List Value) (good : α → Prop) (ht : P.underlying t = some (.slice e))
    (each : ∀ n cs y, DataW.trod enc P w 0 (fun _ => true) true n e cs = some y → ∃ a, cs = f a ∧ good a)
    (h : DataW.Trod enc P w 0 (fun _ => true) true t (.slice A len cap) d ps) :
    ∃ l : List α, RowAt w A (l.flatMap f) ∧ l.length = len ∧ len ≤ cap ∧ cap ≤ maxLen ∧ (∀ a ∈ l, good a) ∧ (A = none → len = 0 ∧ cap = 0) := by
  obtain ⟨fuel, hf⟩ := h
  rcases Deep.open_slice ht hf with ⟨hcs, _⟩ | ⟨ad, l, c, m, n, D, Pl, hcs, _, hl, hm, hmm, _, hx⟩
  · simp [Value.cells] at hcs
    obtain ⟨rfl, rfl, rfl⟩ := hcs
    exact ⟨[], by simpa using RowAt.nil _ _, rfl, Nat.le_refl _, Nat.zero_le _, by simp, fun _ => ⟨rfl, rfl⟩⟩
  · simp [Value.cells] at hcs
    obtain ⟨rfl, rfl, rfl⟩ := hcs
    simp only [if_true] at hmm
    subst hmm
    obtain ⟨F, hF⟩ := Deep.choose_lt (α := α) (n := len) (p := fun i a => w.cells? 0 (ad.add (i * P.cellsOf e)) (P.cellsOf e) = some (f a) ∧ good a) (fun i hi => by
      obtain ⟨cs', h1, h2⟩ := hx i (by omega)
      obtain ⟨a, rfl, hg⟩ := each n cs' _ h2
      exact ⟨a, h1, hg⟩)
    have hlen : ∀ a ∈ (List.range len).map F, (f a).length = P.cellsOf e := by
      intro a ha
      obtain ⟨i, hi, rfl⟩ := List.mem_map.1 ha
      exact (World.cells?_some (hF i (List.mem_range.1 hi)).1).2.1
    refine ⟨(List.range len).map F, fun j u hu => ?_, by simp, hl, hm, fun a ha => ?_, fun e => by cases e⟩
    · obtain ⟨i, a, k, h1, h2, rfl⟩ := flat_inv f _ _ hlen j u hu
      obtain ⟨hi, h3⟩ : i < len ∧ F i = a := by
        rw [List.getElem?_map] at h1
        cases hr : (List.range len)[i]? with
        | none => rw [hr] at h1; simp at h1
        | some x =>
          rw [hr] at h1
          obtain ⟨hx1, hx2⟩ := List.getElem?_eq_some_iff.1 hr
          simp at hx1 hx2 h1
          subst hx2
          exact ⟨hx1, h1⟩
      subst h3
      obtain ⟨_, h4, h5⟩ := World.cells?_some (hF i hi).1
      have hk : k < P.cellsOf e := by rw [← h4]; exact (List.getElem?_eq_some_iff.1 h2).1
      refine ⟨ad, rfl, ?_⟩
      rw [← add_add', h5 k hk, h2]
    · obtain ⟨i, hi, rfl⟩ := List.mem_map.1 ha
      exact (hF i (List.mem_range.1 hi)).2
end
end Go.Proofs.YtdngcheimohamaaDoor
/- A []byte among the arguments. -/
namespace Go.Proofs.YtdngcheimohamaaDoor
open Go.RowKit Go.ChangeShapes Go.WideShapes
section
variable {H : Type} {enc : TypeId × Value → H} {w : World}
theorem open_byte (n : Nat) (cs : List Value) (y : DataW H × List MemPlace) (h : DataW.trod enc Tryd.prog w 0 (fun _ => true) true n 5 cs = some y) :
    ∃ b : UInt8, cs = [Value.int .u8 (b.toNat : Nat)] ∧ True := by
  obtain ⟨n0, e0, _, w0⟩ := DataW.trod_int Tryd.underlying5 h
  simp [Lit.wf, IntKind.min, IntKind.max, IntKind.bits, IntKind.signed] at w0
  obtain ⟨m, rfl⟩ := Int.eq_ofNat_of_zero_le w0.1
  refine ⟨UInt8.ofNat m, ?_, trivial⟩
  rw [e0]
  have : (UInt8.ofNat m).toNat = m := by simp; omega
  rw [this]
theorem open_bytes {A : Option Addr} {len cap : Nat} {d : DataW H} {ps : List MemPlace} (h : DataW.Trod enc Tryd.prog w 0 (fun _ => true) true 33 (.slice A len cap) d ps) :
    ∃ l : List UInt8, RowAt w A (bcells l) ∧ l.length = len ∧ len ≤ cap ∧ cap ≤ maxLen ∧ (A = none → len = 0 ∧ cap = 0) := by
  obtain ⟨l, h1, h2, h3, h4, _, h6⟩ := open_rows (fun b : UInt8 => [Value.int .u8 (b.toNat : Nat)]) (fun _ => True) Tryd.underlying33 open_byte h
  refine ⟨l, ?_, h2, h3, h4, h6⟩
  have e : ∀ l : List UInt8, bcells l = l.flatMap (fun b : UInt8 => [Value.int .u8 (b.toNat : Nat)]) := fun l => by
    induction l with
    | nil => rfl
    | cons b l ih =>
      rw [List.flatMap_cons, ← ih]
      rfl
  rw [e]
  exact h1
end
end Go.Proofs.YtdngcheimohamaaDoor
