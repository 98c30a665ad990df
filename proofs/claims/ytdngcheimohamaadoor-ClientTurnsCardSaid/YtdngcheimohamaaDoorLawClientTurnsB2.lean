/- What the row leans on, part 2: contracts and plain laws. -/
import Derived.Test.YtdngcheimohamaaDoorProg
import Derived.WalkKit
import Derived.Maps.AppendAt
import Derived.Lib.AppendStr
import Derived.Laws.AppendOwnNone
import Derived.Deep.Draws
import Derived.WalkSpells
import Derived.Laws.IdiomStrings
import Derived.Lib.ConvBytes
import Derived.Lib.LaidTab
import Derived.LaidSub
import Derived.Deep.QuietTactic
import Derived.BigQuiet
import Derived.Lib.OthersKept
import Derived.Laws.RangeAny
import Derived.LaidEqlPtr
import Derived.Laws.StructEq
import Derived.Deep.MidRow
import Derived.Deep.Cut
import Derived.Maps.OwnOps
import Derived.Maps.Views
import Derived.WalkLawsBesides
import Derived.SliceStrings
import Derived.Deep.Slices
import Derived.Deep.Light
import Derived.Laws.Bits64b
import Derived.Laws.ResultCell
import Derived.Deep.RegionHeld3
import Derived.ProofKit
import Derived.Test.YtdngcheimohamaaDoorLawClientTurnsB1
/- op.Check, op.Bytes. -/
namespace Go.Proofs.YtdngcheimohamaaDoor
open Go.RowKit

theorem checkV_17 {o : OpV} (h : 17 ≤ o.k) : checkV o = 4 := by unfold checkV; rw [if_pos h]
theorem checkV_bare {o : OpV} (h : ¬ 17 ≤ o.k) (h2 : bareB o = false) : checkV o = 4 := by unfold checkV; rw [if_neg h, if_pos h2]
theorem checkV_rest {o : OpV} (h : ¬ 17 ≤ o.k) (h2 : bareB o = true) : checkV o = if (zOf o).all (rightV o) = false then 4 else if 64 < o.a.size + o.b.size then 3 else if 64 < (writeB o (zOf o)).length then 3 else 0 := by
  unfold checkV; rw [if_neg h, if_neg (by rw [h2]; decide)]

set_option maxRecDepth 100000 in
set_option maxHeartbeats 1600000 in
theorem check17_calls (w : World) (o : OpV) (h17 : 17 ≤ o.k) (hw : o.wf) : Calls Tryd.prog 12 #[o.v] w (IntPost w (checkV o)) := by
  rw [checkV_17 h17]
  have hk := hw.k
  have HK17 : Hid (decide ((17 : Int) ≤ o.k) = true) := decide_eq_true (by omega)
  have HM : Hid (Tryd.prog.eqGuardType Tryd.prog.depth 24 = false) := by unfold Hid; kernel_rfl
  have hv : o.v = .agg #[.int .u8 o.k, .string o.a, .string o.b, .int .u8 o.n, .int .u8 o.r] := rfl
  have hb0 : BlkAt (w.alloc (.cells #[.int .u8 o.k, .string o.a, .string o.b, .int .u8 o.n, .int .u8 o.r] 24)) w.heap.size 24 o.C := BlkAt.new _ _ _
  have f0 : Fr noB w (w.alloc (.cells #[.int .u8 o.k, .string o.a, .string o.b, .int .u8 o.n, .int .u8 o.r] 24)) := (Fr.refl noB w).alloc _
  have HB0 := hid hb0; clear hb0
  rw [hv]; clear hv
  go_enter Tryd.func12, Tryd.ntmps12
  go_wp2_with fail
  generalize w.alloc (.cells #[.int .u8 o.k, .string o.a, .string o.b, .int .u8 o.n, .int .u8 o.r] 24) = wa at *
  refine wp_region_calm (R := Fr noB) (C := fun _ w' => Fr noB wa w') [false, false, false, false, false, false, false, false, false, false]
    [eqv (.pointer (some ⟨w.heap.size, 0, none⟩)), eqv (.int .u8 o.k), eqv (.int .i64 o.k), eqv (.bool true), eqv (.bool true), eqv (undef), eqv (undef), eqv (undef), eqv (undef), eqv (.bool true)]
    (by kernel_rfl) (by kernel_rfl) (fun _ _ _ h1 h2 => h1.then' h2) ((Fr.refl _ _).drew) ((Fr.refl _ _).drew) (by kernel_rfl) ?_ ?_
  · refine ⟨?_, ?_, ?_, ?_, ?_, ?_, ?_, ?_, ?_, ?_, trivial⟩
    · rw [if_neg (by decide)]; intro kq
      intro a W K hC hd hK
      have d1 : a.tmps[1]?.getD undef = .pointer (some ⟨w.heap.size, 0, none⟩) := hd 1 (by decide)
      refine wpOp_plain rfl rfl ?_
      go_wp2_with fail
      exact hK _ _ (Fr.refl _ _) hC rfl
    · rw [if_neg (by decide)]; intro kq
      intro a W K hC hd hK
      have d5 : a.tmps[5]?.getD undef = .pointer (some ⟨w.heap.size, 0, none⟩) := hd 5 (by decide)
      have hbx := hC.heap HB0.out id
      have c0 : W.cell? ⟨w.heap.size, 0, none⟩ = some (.int .u8 o.k) := by rw [cell_of_row _ _ _ _ _ _ hbx]; rfl
      have c1 : W.cell? ⟨w.heap.size, 1, none⟩ = some (.string o.a) := by rw [cell_of_row _ _ _ _ _ _ hbx]; rfl
      have c2 : W.cell? ⟨w.heap.size, 2, none⟩ = some (.string o.b) := by rw [cell_of_row _ _ _ _ _ _ hbx]; rfl
      have c3 : W.cell? ⟨w.heap.size, 3, none⟩ = some (.int .u8 o.n) := by rw [cell_of_row _ _ _ _ _ _ hbx]; rfl
      have c4 : W.cell? ⟨w.heap.size, 4, none⟩ = some (.int .u8 o.r) := by rw [cell_of_row _ _ _ _ _ _ hbx]; rfl
      refine wpOp_plain rfl rfl ?_
      go_wp2_with fail
      exact hK _ _ (Fr.refl _ _) hC rfl
    · rw [if_neg (by decide)]; intro kq
      intro a W K hC hd hK
      have d6 : a.tmps[6]?.getD undef = .int .u8 o.k := hd 6 (by decide)
      refine wpOp_plain rfl rfl ?_
      go_wp2_with fail
      exact hK _ _ (Fr.refl _ _) hC (by show _ = _; simp <;> omega)
    · rw [if_neg (by decide)]; intro kq
      intro a W K hC hd hK
      have d7 : a.tmps[7]?.getD undef = .int .i64 o.k := hd 7 (by decide)
      refine wpOp_plain rfl rfl ?_
      have hdk : decide ((17 : Int) ≤ o.k) = true := HK17.out
      go_wp2_with fail
      exact hK _ _ (Fr.refl _ _) hC rfl
    · rw [if_neg (by decide)]; intro kq
      exact calm_mv 8 rfl rfl (Or.inl rfl) (Fr.refl _) (by decide) fun v w hd => hd
    · rw [if_neg (by decide)]; intro kq
      intro a W K hC hd hK
      have d1 : a.tmps[1]?.getD undef = .pointer (some ⟨w.heap.size, 0, none⟩) := hd 1 (by decide)
      have d9 : a.tmps[9]?.getD undef = .bool true := hd 9 (by decide)
      exact wpOp_skip rfl (wanted_of (want := false) (b := true) rfl rfl (by rw [eval_get]; exact d9)) (hK _ _ (Fr.refl _ _) hC rfl)
    · rw [if_neg (by decide)]; intro kq
      intro a W K hC hd hK
      have d1 : a.tmps[1]?.getD undef = .pointer (some ⟨w.heap.size, 0, none⟩) := hd 1 (by decide)
      have d9 : a.tmps[9]?.getD undef = .bool true := hd 9 (by decide)
      exact wpOp_skip rfl (wanted_of (want := false) (b := true) rfl rfl (by rw [eval_get]; exact d9)) (hK _ _ (Fr.refl _ _) hC rfl)
    · rw [if_neg (by decide)]; intro kq
      intro a W K hC hd hK
      have d11 : a.tmps[11]?.getD undef = undef := hd 11 (by decide)
      have d9 : a.tmps[9]?.getD undef = .bool true := hd 9 (by decide)
      exact wpOp_skip rfl (wanted_of (want := false) (b := true) rfl rfl (by rw [eval_get]; exact d9)) (hK _ _ (Fr.refl _ _) hC rfl)
    · rw [if_neg (by decide)]; intro kq
      intro a W K hC hd hK
      have d10 : a.tmps[10]?.getD undef = undef := hd 10 (by decide)
      have d12 : a.tmps[12]?.getD undef = undef := hd 12 (by decide)
      have d9 : a.tmps[9]?.getD undef = .bool true := hd 9 (by decide)
      exact wpOp_skip rfl (wanted_of (want := false) (b := true) rfl rfl (by rw [eval_get]; exact d9)) (hK _ _ (Fr.refl _ _) hC rfl)
    · rw [if_neg (by decide)]; intro kq
      intro a W K hC hd hK
      have d9 : a.tmps[9]?.getD undef = .bool true := hd 9 (by decide)
      have d13 : a.tmps[13]?.getD undef = undef := hd 13 (by decide)
      refine wpOp_plain rfl rfl ?_
      go_wp2_with fail
      exact hK _ _ (Fr.refl _ _) hC rfl
  · intro vs w8 fw8 cw8 hV
    have v14 : vs 9 = .bool true := hV 9 _ _ rfl rfl (by decide)
    clear hV
    simp only [putL, Act.put, Nat.reduceAdd, List.setIfInBounds_toArray, List.set_cons_zero, List.set_cons_succ, v14]
    go_wp2_with fail
    go_ret
    exact ⟨rfl, f0.then' fw8⟩

set_option maxRecDepth 100000 in
set_option maxHeartbeats 1600000 in
theorem checkB_calls (w : World) (o : OpV) (ht : SignsAt w) (h17 : ¬ 17 ≤ o.k) (hb : bareB o = false) (hw : o.wf) : Calls Tryd.prog 12 #[o.v] w (IntPost w (checkV o)) := by
  rw [checkV_bare h17 hb]
  have hk := hw.k
  have HK17 : Hid (decide ((17 : Int) ≤ o.k) = false) := decide_eq_false (by omega)
  have HK : Hid (o.k < 17) := by unfold Hid; omega
  have HNQ : Hid (∀ w, (binOp .neq 24 (.agg #[.int .u8 o.k, .string o.a, .string o.b, .int .u8 o.n, .int .u8 o.r]) (.agg #[.int .u8 (bareFrom o (zOf o)).k, .string (bareFrom o (zOf o)).a, .string (bareFrom o (zOf o)).b, .int .u8 (bareFrom o (zOf o)).n, .int .u8 (bareFrom o (zOf o)).r])).run Tryd.prog w = .ok (.bool true) w) := fun w => by
    rw [opNeq w o (bareFrom o (zOf o))]
    unfold bareB at hb
    rw [hb]; rfl
  clear hb h17
  have HM : Hid (Tryd.prog.eqGuardType Tryd.prog.depth 24 = false) := by unfold Hid; kernel_rfl
  have hv : o.v = .agg #[.int .u8 o.k, .string o.a, .string o.b, .int .u8 o.n, .int .u8 o.r] := rfl
  have hb0 : BlkAt (w.alloc (.cells #[.int .u8 o.k, .string o.a, .string o.b, .int .u8 o.n, .int .u8 o.r] 24)) w.heap.size 24 o.C := BlkAt.new _ _ _
  have f0 : Fr noB w (w.alloc (.cells #[.int .u8 o.k, .string o.a, .string o.b, .int .u8 o.n, .int .u8 o.r] 24)) := (Fr.refl noB w).alloc _
  have HB0 := hid hb0; clear hb0
  rw [hv]; clear hv
  go_enter Tryd.func12, Tryd.ntmps12
  go_wp2_with fail
  generalize w.alloc (.cells #[.int .u8 o.k, .string o.a, .string o.b, .int .u8 o.n, .int .u8 o.r] 24) = wa at *
  refine wp_region_calm (R := Fr noB) (C := fun _ w' => Fr noB wa w') [false, false, false, false, false, false, false, false, false, false]
    [eqv (.pointer (some ⟨w.heap.size, 0, none⟩)), eqv (.int .u8 o.k), eqv (.int .i64 o.k), eqv (.bool false), eqv (.bool false), eqv (.agg #[.int .u8 o.k, .string o.a, .string o.b, .int .u8 o.n, .int .u8 o.r]), eqv (.agg #[.int .u8 o.k, .string o.a, .string o.b, .int .u8 o.n, .int .u8 o.r]), eqv (.agg #[.int .u8 (bareFrom o (zOf o)).k, .string (bareFrom o (zOf o)).a, .string (bareFrom o (zOf o)).b, .int .u8 (bareFrom o (zOf o)).n, .int .u8 (bareFrom o (zOf o)).r]), eqv (.bool true), eqv (.bool true)]
    (by kernel_rfl) (by kernel_rfl) (fun _ _ _ h1 h2 => h1.then' h2) ((Fr.refl _ _).drew) ((Fr.refl _ _).drew) (by kernel_rfl) ?_ ?_
  · refine ⟨?_, ?_, ?_, ?_, ?_, ?_, ?_, ?_, ?_, ?_, trivial⟩
    · rw [if_neg (by decide)]; intro kq
      intro a W K hC hd hK
      have d1 : a.tmps[1]?.getD undef = .pointer (some ⟨w.heap.size, 0, none⟩) := hd 1 (by decide)
      refine wpOp_plain rfl rfl ?_
      go_wp2_with fail
      exact hK _ _ (Fr.refl _ _) hC rfl
    · rw [if_neg (by decide)]; intro kq
      intro a W K hC hd hK
      have d5 : a.tmps[5]?.getD undef = .pointer (some ⟨w.heap.size, 0, none⟩) := hd 5 (by decide)
      have hbx := hC.heap HB0.out id
      have c0 : W.cell? ⟨w.heap.size, 0, none⟩ = some (.int .u8 o.k) := by rw [cell_of_row _ _ _ _ _ _ hbx]; rfl
      have c1 : W.cell? ⟨w.heap.size, 1, none⟩ = some (.string o.a) := by rw [cell_of_row _ _ _ _ _ _ hbx]; rfl
      have c2 : W.cell? ⟨w.heap.size, 2, none⟩ = some (.string o.b) := by rw [cell_of_row _ _ _ _ _ _ hbx]; rfl
      have c3 : W.cell? ⟨w.heap.size, 3, none⟩ = some (.int .u8 o.n) := by rw [cell_of_row _ _ _ _ _ _ hbx]; rfl
      have c4 : W.cell? ⟨w.heap.size, 4, none⟩ = some (.int .u8 o.r) := by rw [cell_of_row _ _ _ _ _ _ hbx]; rfl
      refine wpOp_plain rfl rfl ?_
      go_wp2_with fail
      exact hK _ _ (Fr.refl _ _) hC rfl
    · rw [if_neg (by decide)]; intro kq
      intro a W K hC hd hK
      have d6 : a.tmps[6]?.getD undef = .int .u8 o.k := hd 6 (by decide)
      refine wpOp_plain rfl rfl ?_
      go_wp2_with fail
      exact hK _ _ (Fr.refl _ _) hC (by show _ = _; simp <;> omega)
    · rw [if_neg (by decide)]; intro kq
      intro a W K hC hd hK
      have d7 : a.tmps[7]?.getD undef = .int .i64 o.k := hd 7 (by decide)
      refine wpOp_plain rfl rfl ?_
      have hdk : decide ((17 : Int) ≤ o.k) = false := HK17.out
      go_wp2_with fail
      exact hK _ _ (Fr.refl _ _) hC rfl
    · rw [if_neg (by decide)]; intro kq
      exact calm_mv 8 rfl rfl (Or.inl rfl) (Fr.refl _) (by decide) fun v w hd => hd
    · rw [if_neg (by decide)]; intro kq
      intro a W K hC hd hK
      have d1 : a.tmps[1]?.getD undef = .pointer (some ⟨w.heap.size, 0, none⟩) := hd 1 (by decide)
      have d9 : a.tmps[9]?.getD undef = .bool false := hd 9 (by decide)
      have hbx := hC.heap HB0.out id
      have c0 : W.cell? ⟨w.heap.size, 0, none⟩ = some (.int .u8 o.k) := by rw [cell_of_row _ _ _ _ _ _ hbx]; rfl
      have c1 : W.cell? ⟨w.heap.size, 1, none⟩ = some (.string o.a) := by rw [cell_of_row _ _ _ _ _ _ hbx]; rfl
      have c2 : W.cell? ⟨w.heap.size, 2, none⟩ = some (.string o.b) := by rw [cell_of_row _ _ _ _ _ _ hbx]; rfl
      have c3 : W.cell? ⟨w.heap.size, 3, none⟩ = some (.int .u8 o.n) := by rw [cell_of_row _ _ _ _ _ _ hbx]; rfl
      have c4 : W.cell? ⟨w.heap.size, 4, none⟩ = some (.int .u8 o.r) := by rw [cell_of_row _ _ _ _ _ _ hbx]; rfl
      refine wpOp_want rfl (wanted_of (want := false) (b := false) rfl rfl (by rw [eval_get]; exact d9)) ?_
      go_wp2_with fail
      exact hK _ _ (Fr.refl _ _) hC rfl
    · rw [if_neg (by decide)]; intro kq
      intro a W K hC hd hK
      have d1 : a.tmps[1]?.getD undef = .pointer (some ⟨w.heap.size, 0, none⟩) := hd 1 (by decide)
      have d9 : a.tmps[9]?.getD undef = .bool false := hd 9 (by decide)
      have hbx := hC.heap HB0.out id
      have c0 : W.cell? ⟨w.heap.size, 0, none⟩ = some (.int .u8 o.k) := by rw [cell_of_row _ _ _ _ _ _ hbx]; rfl
      have c1 : W.cell? ⟨w.heap.size, 1, none⟩ = some (.string o.a) := by rw [cell_of_row _ _ _ _ _ _ hbx]; rfl
      have c2 : W.cell? ⟨w.heap.size, 2, none⟩ = some (.string o.b) := by rw [cell_of_row _ _ _ _ _ _ hbx]; rfl
      have c3 : W.cell? ⟨w.heap.size, 3, none⟩ = some (.int .u8 o.n) := by rw [cell_of_row _ _ _ _ _ _ hbx]; rfl
      have c4 : W.cell? ⟨w.heap.size, 4, none⟩ = some (.int .u8 o.r) := by rw [cell_of_row _ _ _ _ _ _ hbx]; rfl
      refine wpOp_want rfl (wanted_of (want := false) (b := false) rfl rfl (by rw [eval_get]; exact d9)) ?_
      go_wp2_with fail
      exact hK _ _ (Fr.refl _ _) hC rfl
    · rw [if_neg (by decide)]; intro kq
      intro a W K hC hd hK
      have d11 : a.tmps[11]?.getD undef = .agg #[.int .u8 o.k, .string o.a, .string o.b, .int .u8 o.n, .int .u8 o.r] := hd 11 (by decide)
      have d9 : a.tmps[9]?.getD undef = .bool false := hd 9 (by decide)
      refine wpOp_want rfl (wanted_of (want := false) (b := false) rfl rfl (by rw [eval_get]; exact d9)) ?_
      go_wp2_with fail
      refine (bare_calls W o (zOf o) (ht.fr0 (f0.then' hC)) (zOf_get HK.out)).mono ?_
      rintro e w9 ⟨rfl, f9⟩
      exact hK _ _ f9 (hC.then' f9) rfl
    · rw [if_neg (by decide)]; intro kq
      intro a W K hC hd hK
      have d10 : a.tmps[10]?.getD undef = .agg #[.int .u8 o.k, .string o.a, .string o.b, .int .u8 o.n, .int .u8 o.r] := hd 10 (by decide)
      have d12 : a.tmps[12]?.getD undef = .agg #[.int .u8 (bareFrom o (zOf o)).k, .string (bareFrom o (zOf o)).a, .string (bareFrom o (zOf o)).b, .int .u8 (bareFrom o (zOf o)).n, .int .u8 (bareFrom o (zOf o)).r] := hd 12 (by decide)
      have d9 : a.tmps[9]?.getD undef = .bool false := hd 9 (by decide)
      refine wpOp_want rfl (wanted_of (want := false) (b := false) rfl rfl (by rw [eval_get]; exact d9)) ?_
      have hnq : ∀ w, (binOp .neq 24 (.agg #[.int .u8 o.k, .string o.a, .string o.b, .int .u8 o.n, .int .u8 o.r]) (.agg #[.int .u8 (bareFrom o (zOf o)).k, .string (bareFrom o (zOf o)).a, .string (bareFrom o (zOf o)).b, .int .u8 (bareFrom o (zOf o)).n, .int .u8 (bareFrom o (zOf o)).r])).run Tryd.prog w = .ok (.bool true) w := HNQ.out
      have hm := HM.out
      go_wp2_with fail
      exact hK _ _ (Fr.refl _ _) hC rfl
    · rw [if_neg (by decide)]; intro kq
      intro a W K hC hd hK
      have d9 : a.tmps[9]?.getD undef = .bool false := hd 9 (by decide)
      have d13 : a.tmps[13]?.getD undef = .bool true := hd 13 (by decide)
      refine wpOp_plain rfl rfl ?_
      go_wp2_with fail
      exact hK _ _ (Fr.refl _ _) hC rfl
  · intro vs w8 fw8 cw8 hV
    have v14 : vs 9 = .bool true := hV 9 _ _ rfl rfl (by decide)
    clear hV
    simp only [putL, Act.put, Nat.reduceAdd, List.setIfInBounds_toArray, List.set_cons_zero, List.set_cons_succ, v14]
    go_wp2_with fail
    go_ret
    exact ⟨rfl, f0.then' fw8⟩

set_option maxRecDepth 100000 in
set_option maxHeartbeats 3200000 in
theorem checkR_calls (w : World) (o : OpV) (ht : SignsAt w) (h17 : ¬ 17 ≤ o.k) (hb : bareB o = true) (hw : o.wf) (ha1 : o.a.size ≤ 1000000000000000) (hb1 : o.b.size ≤ 1000000000000000) : Calls Tryd.prog 12 #[o.v] w (IntPost w (checkV o)) := by
  have HV0 := hid (checkV_rest h17 hb)
  generalize checkV o = v0 at *
  have hk := hw.k
  have HK17 : Hid (decide ((17 : Int) ≤ o.k) = false) := decide_eq_false (by omega)
  have HK : Hid (o.k < 17) := by unfold Hid; omega
  have hkb : 0 ≤ (o.k : Int) ∧ (o.k : Int) < 17 := ⟨by omega, by omega⟩
  have HNQ : Hid (∀ w, (binOp .neq 24 (.agg #[.int .u8 o.k, .string o.a, .string o.b, .int .u8 o.n, .int .u8 o.r]) (.agg #[.int .u8 (bareFrom o (zOf o)).k, .string (bareFrom o (zOf o)).a, .string (bareFrom o (zOf o)).b, .int .u8 (bareFrom o (zOf o)).n, .int .u8 (bareFrom o (zOf o)).r])).run Tryd.prog w = .ok (.bool false) w) := fun w => by
    rw [opNeq w o (bareFrom o (zOf o))]
    unfold bareB at hb
    rw [hb]; rfl
  clear hb h17
  have HM : Hid (Tryd.prog.eqGuardType Tryd.prog.depth 24 = false) := by unfold Hid; kernel_rfl
  have hv : o.v = .agg #[.int .u8 o.k, .string o.a, .string o.b, .int .u8 o.n, .int .u8 o.r] := rfl
  have hb0 : BlkAt (w.alloc (.cells #[.int .u8 o.k, .string o.a, .string o.b, .int .u8 o.n, .int .u8 o.r] 24)) w.heap.size 24 o.C := BlkAt.new _ _ _
  have f0 : Fr noB w (w.alloc (.cells #[.int .u8 o.k, .string o.a, .string o.b, .int .u8 o.n, .int .u8 o.r] 24)) := (Fr.refl noB w).alloc _
  have HB0 := hid hb0; clear hb0
  rw [hv]; clear hv
  go_enter Tryd.func12, Tryd.ntmps12
  go_wp2_with fail
  generalize w.alloc (.cells #[.int .u8 o.k, .string o.a, .string o.b, .int .u8 o.n, .int .u8 o.r] 24) = wa at *
  refine wp_region_calm (R := Fr noB) (C := fun _ w' => Fr noB wa w') [false, false, false, false, false, false, false, false, false, false]
    [eqv (.pointer (some ⟨w.heap.size, 0, none⟩)), eqv (.int .u8 o.k), eqv (.int .i64 o.k), eqv (.bool false), eqv (.bool false), eqv (.agg #[.int .u8 o.k, .string o.a, .string o.b, .int .u8 o.n, .int .u8 o.r]), eqv (.agg #[.int .u8 o.k, .string o.a, .string o.b, .int .u8 o.n, .int .u8 o.r]), eqv (.agg #[.int .u8 (bareFrom o (zOf o)).k, .string (bareFrom o (zOf o)).a, .string (bareFrom o (zOf o)).b, .int .u8 (bareFrom o (zOf o)).n, .int .u8 (bareFrom o (zOf o)).r]), eqv (.bool false), eqv (.bool false)]
    (by kernel_rfl) (by kernel_rfl) (fun _ _ _ h1 h2 => h1.then' h2) ((Fr.refl _ _).drew) ((Fr.refl _ _).drew) (by kernel_rfl) ?_ ?_
  · refine ⟨?_, ?_, ?_, ?_, ?_, ?_, ?_, ?_, ?_, ?_, trivial⟩
    · rw [if_neg (by decide)]; intro kq
      intro a W K hC hd hK
      have d1 : a.tmps[1]?.getD undef = .pointer (some ⟨w.heap.size, 0, none⟩) := hd 1 (by decide)
      refine wpOp_plain rfl rfl ?_
      go_wp2_with fail
      exact hK _ _ (Fr.refl _ _) hC rfl
    · rw [if_neg (by decide)]; intro kq
      intro a W K hC hd hK
      have d5 : a.tmps[5]?.getD undef = .pointer (some ⟨w.heap.size, 0, none⟩) := hd 5 (by decide)
      have hbx := hC.heap HB0.out id
      have c0 : W.cell? ⟨w.heap.size, 0, none⟩ = some (.int .u8 o.k) := by rw [cell_of_row _ _ _ _ _ _ hbx]; rfl
      have c1 : W.cell? ⟨w.heap.size, 1, none⟩ = some (.string o.a) := by rw [cell_of_row _ _ _ _ _ _ hbx]; rfl
      have c2 : W.cell? ⟨w.heap.size, 2, none⟩ = some (.string o.b) := by rw [cell_of_row _ _ _ _ _ _ hbx]; rfl
      have c3 : W.cell? ⟨w.heap.size, 3, none⟩ = some (.int .u8 o.n) := by rw [cell_of_row _ _ _ _ _ _ hbx]; rfl
      have c4 : W.cell? ⟨w.heap.size, 4, none⟩ = some (.int .u8 o.r) := by rw [cell_of_row _ _ _ _ _ _ hbx]; rfl
      refine wpOp_plain rfl rfl ?_
      go_wp2_with fail
      exact hK _ _ (Fr.refl _ _) hC rfl
    · rw [if_neg (by decide)]; intro kq
      intro a W K hC hd hK
      have d6 : a.tmps[6]?.getD undef = .int .u8 o.k := hd 6 (by decide)
      refine wpOp_plain rfl rfl ?_
      go_wp2_with fail
      exact hK _ _ (Fr.refl _ _) hC (by show _ = _; simp <;> omega)
    · rw [if_neg (by decide)]; intro kq
      intro a W K hC hd hK
      have d7 : a.tmps[7]?.getD undef = .int .i64 o.k := hd 7 (by decide)
      refine wpOp_plain rfl rfl ?_
      have hdk : decide ((17 : Int) ≤ o.k) = false := HK17.out
      go_wp2_with fail
      exact hK _ _ (Fr.refl _ _) hC rfl
    · rw [if_neg (by decide)]; intro kq
      exact calm_mv 8 rfl rfl (Or.inl rfl) (Fr.refl _) (by decide) fun v w hd => hd
    · rw [if_neg (by decide)]; intro kq
      intro a W K hC hd hK
      have d1 : a.tmps[1]?.getD undef = .pointer (some ⟨w.heap.size, 0, none⟩) := hd 1 (by decide)
      have d9 : a.tmps[9]?.getD undef = .bool false := hd 9 (by decide)
      have hbx := hC.heap HB0.out id
      have c0 : W.cell? ⟨w.heap.size, 0, none⟩ = some (.int .u8 o.k) := by rw [cell_of_row _ _ _ _ _ _ hbx]; rfl
      have c1 : W.cell? ⟨w.heap.size, 1, none⟩ = some (.string o.a) := by rw [cell_of_row _ _ _ _ _ _ hbx]; rfl
      have c2 : W.cell? ⟨w.heap.size, 2, none⟩ = some (.string o.b) := by rw [cell_of_row _ _ _ _ _ _ hbx]; rfl
      have c3 : W.cell? ⟨w.heap.size, 3, none⟩ = some (.int .u8 o.n) := by rw [cell_of_row _ _ _ _ _ _ hbx]; rfl
      have c4 : W.cell? ⟨w.heap.size, 4, none⟩ = some (.int .u8 o.r) := by rw [cell_of_row _ _ _ _ _ _ hbx]; rfl
      refine wpOp_want rfl (wanted_of (want := false) (b := false) rfl rfl (by rw [eval_get]; exact d9)) ?_
      go_wp2_with fail
      exact hK _ _ (Fr.refl _ _) hC rfl
    · rw [if_neg (by decide)]; intro kq
      intro a W K hC hd hK
      have d1 : a.tmps[1]?.getD undef = .pointer (some ⟨w.heap.size, 0, none⟩) := hd 1 (by decide)
      have d9 : a.tmps[9]?.getD undef = .bool false := hd 9 (by decide)
      have hbx := hC.heap HB0.out id
      have c0 : W.cell? ⟨w.heap.size, 0, none⟩ = some (.int .u8 o.k) := by rw [cell_of_row _ _ _ _ _ _ hbx]; rfl
      have c1 : W.cell? ⟨w.heap.size, 1, none⟩ = some (.string o.a) := by rw [cell_of_row _ _ _ _ _ _ hbx]; rfl
      have c2 : W.cell? ⟨w.heap.size, 2, none⟩ = some (.string o.b) := by rw [cell_of_row _ _ _ _ _ _ hbx]; rfl
      have c3 : W.cell? ⟨w.heap.size, 3, none⟩ = some (.int .u8 o.n) := by rw [cell_of_row _ _ _ _ _ _ hbx]; rfl
      have c4 : W.cell? ⟨w.heap.size, 4, none⟩ = some (.int .u8 o.r) := by rw [cell_of_row _ _ _ _ _ _ hbx]; rfl
      refine wpOp_want rfl (wanted_of (want := false) (b := false) rfl rfl (by rw [eval_get]; exact d9)) ?_
      go_wp2_with fail
      exact hK _ _ (Fr.refl _ _) hC rfl
    · rw [if_neg (by decide)]; intro kq
      intro a W K hC hd hK
      have d11 : a.tmps[11]?.getD undef = .agg #[.int .u8 o.k, .string o.a, .string o.b, .int .u8 o.n, .int .u8 o.r] := hd 11 (by decide)
      have d9 : a.tmps[9]?.getD undef = .bool false := hd 9 (by decide)
      refine wpOp_want rfl (wanted_of (want := false) (b := false) rfl rfl (by rw [eval_get]; exact d9)) ?_
      go_wp2_with fail
      refine (bare_calls W o (zOf o) (ht.fr0 (f0.then' hC)) (zOf_get HK.out)).mono ?_
      rintro e w9 ⟨rfl, f9⟩
      exact hK _ _ f9 (hC.then' f9) rfl
    · rw [if_neg (by decide)]; intro kq
      intro a W K hC hd hK
      have d10 : a.tmps[10]?.getD undef = .agg #[.int .u8 o.k, .string o.a, .string o.b, .int .u8 o.n, .int .u8 o.r] := hd 10 (by decide)
      have d12 : a.tmps[12]?.getD undef = .agg #[.int .u8 (bareFrom o (zOf o)).k, .string (bareFrom o (zOf o)).a, .string (bareFrom o (zOf o)).b, .int .u8 (bareFrom o (zOf o)).n, .int .u8 (bareFrom o (zOf o)).r] := hd 12 (by decide)
      have d9 : a.tmps[9]?.getD undef = .bool false := hd 9 (by decide)
      refine wpOp_want rfl (wanted_of (want := false) (b := false) rfl rfl (by rw [eval_get]; exact d9)) ?_
      have hnq : ∀ w, (binOp .neq 24 (.agg #[.int .u8 o.k, .string o.a, .string o.b, .int .u8 o.n, .int .u8 o.r]) (.agg #[.int .u8 (bareFrom o (zOf o)).k, .string (bareFrom o (zOf o)).a, .string (bareFrom o (zOf o)).b, .int .u8 (bareFrom o (zOf o)).n, .int .u8 (bareFrom o (zOf o)).r])).run Tryd.prog w = .ok (.bool false) w := HNQ.out
      have hm := HM.out
      go_wp2_with fail
      exact hK _ _ (Fr.refl _ _) hC rfl
    · rw [if_neg (by decide)]; intro kq
      intro a W K hC hd hK
      have d9 : a.tmps[9]?.getD undef = .bool false := hd 9 (by decide)
      have d13 : a.tmps[13]?.getD undef = .bool false := hd 13 (by decide)
      refine wpOp_plain rfl rfl ?_
      go_wp2_with fail
      exact hK _ _ (Fr.refl _ _) hC rfl
  · intro vs w8 fw8 cw8 hV
    have v14 : vs 9 = .bool false := hV 9 _ _ rfl rfl (by decide)
    clear hV
    simp only [putL, Act.put, Nat.reduceAdd, List.setIfInBounds_toArray, List.set_cons_zero, List.set_cons_succ, v14]
    have F8 : Fr noB w w8 := f0.then' fw8
    have hbx := HB0.out.fr fw8 id
    have c0 := hbx.cell (k := 0) (v := .int .u8 o.k) rfl
    have hz0 := zOf_get HK.out
    have cz : w8.cell? ⟨0, o.k, none⟩ = some (.string (mkS (zOf o))) := F8.cell (ht o.k _ hz0) id
    have hcv := Tryd.fromStr w8 (mkS (zOf o))
    have hwf := bytesW_fr w8 (mkS (zOf o))
    have hwr := bytesW_row w8 (mkS (zOf o))
    rw [mkS_data] at hwr
    rw [mkS_size] at hcv
    generalize Lib.bytesWorld w8 5 (mkS (zOf o)) = wc at *
    generalize (⟨w8.heap.size, 0, none⟩ : Addr) = ad at *
    have F9 : Fr noB w wc := F8.then' hwf
    have hbc := hbx.fr hwf id
    obtain ⟨n, hn⟩ : ∃ n, (zOf o).length = n := ⟨_, rfl⟩
    rw [hn] at hcv
    have HN := hid hn; clear hn
    have hz2 := signs_two _ (List.mem_of_getElem? hz0)
    rw [HN.out] at hz2
    clear hz0 hbx hwf
    go_wp2_with fail
    go_loopw [21] (fun i wr => ∃ j : Nat, j ≤ n ∧ i = .int .i64 j ∧ ((zOf o).take j).all (rightV o) = true ∧ Fr noB wc wr) (fun i _ => n - (intOf i).toNat)
    case atStart => exact ⟨0, Nat.zero_le _, rfl, by simp, Fr.refl _ _⟩
    case round =>
      obtain ⟨j, hj, rfl, hall, hf⟩ := hrel
      have hbr := hbc.fr hf id
      have x0 := hbr.cell (k := 0) (v := .int .u8 o.k) rfl
      have x1 := hbr.cell (k := 1) (v := .string o.a) rfl
      have x2 := hbr.cell (k := 2) (v := .string o.b) rfl
      have x3 := hbr.cell (k := 3) (v := .int .u8 o.n) rfl
      have x4 := hbr.cell (k := 4) (v := .int .u8 o.r) rfl
      by_cases hjn : j < n
      · obtain ⟨c, hc⟩ : ∃ c, (zOf o)[j]? = some c := ⟨_, List.getElem?_eq_getElem (by rw [HN.out]; exact hjn)⟩
        have hcx : wr.cell? (ad.add j) = some (.int .u8 c.toNat) := (hwr.fr0 hf).cell (by unfold bcells; rw [List.getElem?_map, hc]; rfl)
        have HT : Hid (((zOf o).take (j + 1)).all (rightV o) = rightV o c) := by unfold Hid; rw [take_snoc' hc, List.all_append, hall]; simp
        have HM2 := hid (List.mem_of_getElem? hc)
        clear hall hc
        by_cases hr : rightV o c = true
        · have hcl : ∀ W, Calls Tryd.prog 40 #[o.v, .int .u8 c.toNat] W (BoolPost W true) := fun W => by have := right_calls W o c; rw [hr] at this; exact this
          rw [hr] at HT
          have HR := hid hr; clear hr
          go_wp2_with fail
          refine (hcl _).mono ?_
          rintro e w9 ⟨rfl, f9⟩
          go_wp2_with fail
          go_roundw
          case rel => exact ⟨j + 1, by omega, by go_num, HT.out, hf.then' f9⟩
          case measure => simp [intOf]; omega
        · have hr' : rightV o c = false := by simpa using hr
          have hcl : ∀ W, Calls Tryd.prog 40 #[o.v, .int .u8 c.toNat] W (BoolPost W false) := fun W => by have := right_calls W o c; rw [hr'] at this; exact this
          have HV : Hid ((zOf o).all (rightV o) = false) := List.all_eq_false.2 ⟨c, HM2.out, hr⟩
          clear hr hr'
          go_wp2_with fail
          refine (hcl _).mono ?_
          rintro e w9 ⟨rfl, f9⟩
          go_wp2_with fail
          go_ret
          refine ⟨?_, (F9.then' hf).then' f9⟩
          rw [HV0.out, if_pos HV.out]; rfl
      · have : j = n := by omega
        subst this
        have HV : Hid ((zOf o).all (rightV o) = true) := by unfold Hid; rw [List.take_of_length_le (by rw [HN.out]; exact Nat.le_refl _)] at hall; exact hall
        clear hall hwr hbc
        by_cases h64 : 64 < o.a.size + o.b.size
        · have d1 : decide ((64 : Int) < (o.a.size : Int) + o.b.size) = true := decide_eq_true (by omega)
          have H64 := hid h64; clear h64
          go_wp2_with fail
          go_ret
          refine ⟨?_, F9.then' hf⟩
          rw [HV0.out, if_neg (by rw [HV.out]; decide), if_pos H64.out]; rfl
        · have d1 : decide ((64 : Int) < (o.a.size : Int) + o.b.size) = false := decide_eq_false (by omega)
          have H64 := hid h64
          have hcl := write_calls wr o (zOf o) (ht.fr0 (F9.then' hf)) (zOf_get HK.out) hw (by omega) (by omega)
          clear h64
          obtain ⟨m, hm⟩ : ∃ m, (writeB o (zOf o)).length = m := ⟨_, rfl⟩
          have HMM := hid hm
          unfold BytesPost at hcl
          rw [hm] at hcl
          clear hm
          go_wp2_with fail
          refine hcl.mono ?_
          rintro e w9 ⟨A, c, rfl, h9, f9⟩
          have HF := hid ((F9.then' hf).then' f9)
          clear h9 f9 hcl
          by_cases hm64 : 64 < m
          · have hm64' := hid hm64; clear hm64
            have d2 : decide ((64 : Int) < (m : Int)) = true := decide_eq_true (by have := hm64'.out; omega)
            go_wp2_with fail
            go_ret
            refine ⟨?_, HF.out⟩
            rw [HV0.out, if_neg (by rw [HV.out]; decide), if_neg H64.out, HMM.out, if_pos hm64'.out]; rfl
          · have hm64' := hid hm64; clear hm64
            have d2 : decide ((64 : Int) < (m : Int)) = false := decide_eq_false (by have := hm64'.out; omega)
            go_wp2_with fail
            go_ret
            refine ⟨?_, HF.out⟩
            rw [HV0.out, if_neg (by rw [HV.out]; decide), if_neg H64.out, HMM.out, if_neg hm64'.out]; rfl
theorem check_calls (w : World) (o : OpV) (ht : SignsAt w) (hw : o.wf) (ha1 : o.a.size ≤ 1000000000000000) (hb1 : o.b.size ≤ 1000000000000000) : Calls Tryd.prog 12 #[o.v] w (IntPost w (checkV o)) := by
  by_cases h : 17 ≤ o.k
  · exact check17_calls w o h hw
  · cases hb : bareB o
    · exact checkB_calls w o ht h hb hw
    · exact checkR_calls w o ht h hb hw ha1 hb1
end Go.Proofs.YtdngcheimohamaaDoor
/- Blocks of more cells, whole. -/
namespace Go.Proofs.YtdngcheimohamaaDoor
open Go.RowKit
theorem BlkAt.c13 {w : World} {p : Nat} {T : TypeId} {v0 v1 v2 v3 v4 v5 v6 v7 v8 v9 v10 v11 v12 : Value} (h : BlkAt w p T #[v0, v1, v2, v3, v4, v5, v6, v7, v8, v9, v10, v11, v12]) :
    w.cell? ⟨p, 0, none⟩ = some v0 ∧ w.cell? ⟨p, 1, none⟩ = some v1 ∧ w.cell? ⟨p, 2, none⟩ = some v2 ∧ w.cell? ⟨p, 3, none⟩ = some v3 ∧ w.cell? ⟨p, 4, none⟩ = some v4 ∧ w.cell? ⟨p, 5, none⟩ = some v5 ∧ w.cell? ⟨p, 6, none⟩ = some v6 ∧ w.cell? ⟨p, 7, none⟩ = some v7 ∧ w.cell? ⟨p, 8, none⟩ = some v8 ∧ w.cell? ⟨p, 9, none⟩ = some v9 ∧ w.cell? ⟨p, 10, none⟩ = some v10 ∧ w.cell? ⟨p, 11, none⟩ = some v11 ∧ w.cell? ⟨p, 12, none⟩ = some v12 ∧ ∀ j, w.frozen? ⟨p, j, none⟩ = false :=
  ⟨h.cell rfl, h.cell rfl, h.cell rfl, h.cell rfl, h.cell rfl, h.cell rfl, h.cell rfl, h.cell rfl, h.cell rfl, h.cell rfl, h.cell rfl, h.cell rfl, h.cell rfl, h.free⟩
theorem BlkAt.c14 {w : World} {p : Nat} {T : TypeId} {v0 v1 v2 v3 v4 v5 v6 v7 v8 v9 v10 v11 v12 v13 : Value} (h : BlkAt w p T #[v0, v1, v2, v3, v4, v5, v6, v7, v8, v9, v10, v11, v12, v13]) :
    w.cell? ⟨p, 0, none⟩ = some v0 ∧ w.cell? ⟨p, 1, none⟩ = some v1 ∧ w.cell? ⟨p, 2, none⟩ = some v2 ∧ w.cell? ⟨p, 3, none⟩ = some v3 ∧ w.cell? ⟨p, 4, none⟩ = some v4 ∧ w.cell? ⟨p, 5, none⟩ = some v5 ∧ w.cell? ⟨p, 6, none⟩ = some v6 ∧ w.cell? ⟨p, 7, none⟩ = some v7 ∧ w.cell? ⟨p, 8, none⟩ = some v8 ∧ w.cell? ⟨p, 9, none⟩ = some v9 ∧ w.cell? ⟨p, 10, none⟩ = some v10 ∧ w.cell? ⟨p, 11, none⟩ = some v11 ∧ w.cell? ⟨p, 12, none⟩ = some v12 ∧ w.cell? ⟨p, 13, none⟩ = some v13 ∧ ∀ j, w.frozen? ⟨p, j, none⟩ = false :=
  ⟨h.cell rfl, h.cell rfl, h.cell rfl, h.cell rfl, h.cell rfl, h.cell rfl, h.cell rfl, h.cell rfl, h.cell rfl, h.cell rfl, h.cell rfl, h.cell rfl, h.cell rfl, h.cell rfl, h.free⟩
theorem BlkAt.c15 {w : World} {p : Nat} {T : TypeId} {v0 v1 v2 v3 v4 v5 v6 v7 v8 v9 v10 v11 v12 v13 v14 : Value} (h : BlkAt w p T #[v0, v1, v2, v3, v4, v5, v6, v7, v8, v9, v10, v11, v12, v13, v14]) :
    w.cell? ⟨p, 0, none⟩ = some v0 ∧ w.cell? ⟨p, 1, none⟩ = some v1 ∧ w.cell? ⟨p, 2, none⟩ = some v2 ∧ w.cell? ⟨p, 3, none⟩ = some v3 ∧ w.cell? ⟨p, 4, none⟩ = some v4 ∧ w.cell? ⟨p, 5, none⟩ = some v5 ∧ w.cell? ⟨p, 6, none⟩ = some v6 ∧ w.cell? ⟨p, 7, none⟩ = some v7 ∧ w.cell? ⟨p, 8, none⟩ = some v8 ∧ w.cell? ⟨p, 9, none⟩ = some v9 ∧ w.cell? ⟨p, 10, none⟩ = some v10 ∧ w.cell? ⟨p, 11, none⟩ = some v11 ∧ w.cell? ⟨p, 12, none⟩ = some v12 ∧ w.cell? ⟨p, 13, none⟩ = some v13 ∧ w.cell? ⟨p, 14, none⟩ = some v14 ∧ ∀ j, w.frozen? ⟨p, j, none⟩ = false :=
  ⟨h.cell rfl, h.cell rfl, h.cell rfl, h.cell rfl, h.cell rfl, h.cell rfl, h.cell rfl, h.cell rfl, h.cell rfl, h.cell rfl, h.cell rfl, h.cell rfl, h.cell rfl, h.cell rfl, h.cell rfl, h.free⟩
theorem BlkAt.c16 {w : World} {p : Nat} {T : TypeId} {v0 v1 v2 v3 v4 v5 v6 v7 v8 v9 v10 v11 v12 v13 v14 v15 : Value} (h : BlkAt w p T #[v0, v1, v2, v3, v4, v5, v6, v7, v8, v9, v10, v11, v12, v13, v14, v15]) :
    w.cell? ⟨p, 0, none⟩ = some v0 ∧ w.cell? ⟨p, 1, none⟩ = some v1 ∧ w.cell? ⟨p, 2, none⟩ = some v2 ∧ w.cell? ⟨p, 3, none⟩ = some v3 ∧ w.cell? ⟨p, 4, none⟩ = some v4 ∧ w.cell? ⟨p, 5, none⟩ = some v5 ∧ w.cell? ⟨p, 6, none⟩ = some v6 ∧ w.cell? ⟨p, 7, none⟩ = some v7 ∧ w.cell? ⟨p, 8, none⟩ = some v8 ∧ w.cell? ⟨p, 9, none⟩ = some v9 ∧ w.cell? ⟨p, 10, none⟩ = some v10 ∧ w.cell? ⟨p, 11, none⟩ = some v11 ∧ w.cell? ⟨p, 12, none⟩ = some v12 ∧ w.cell? ⟨p, 13, none⟩ = some v13 ∧ w.cell? ⟨p, 14, none⟩ = some v14 ∧ w.cell? ⟨p, 15, none⟩ = some v15 ∧ ∀ j, w.frozen? ⟨p, j, none⟩ = false :=
  ⟨h.cell rfl, h.cell rfl, h.cell rfl, h.cell rfl, h.cell rfl, h.cell rfl, h.cell rfl, h.cell rfl, h.cell rfl, h.cell rfl, h.cell rfl, h.cell rfl, h.cell rfl, h.cell rfl, h.cell rfl, h.cell rfl, h.free⟩
theorem BlkAt.c17 {w : World} {p : Nat} {T : TypeId} {v0 v1 v2 v3 v4 v5 v6 v7 v8 v9 v10 v11 v12 v13 v14 v15 v16 : Value} (h : BlkAt w p T #[v0, v1, v2, v3, v4, v5, v6, v7, v8, v9, v10, v11, v12, v13, v14, v15, v16]) :
    w.cell? ⟨p, 0, none⟩ = some v0 ∧ w.cell? ⟨p, 1, none⟩ = some v1 ∧ w.cell? ⟨p, 2, none⟩ = some v2 ∧ w.cell? ⟨p, 3, none⟩ = some v3 ∧ w.cell? ⟨p, 4, none⟩ = some v4 ∧ w.cell? ⟨p, 5, none⟩ = some v5 ∧ w.cell? ⟨p, 6, none⟩ = some v6 ∧ w.cell? ⟨p, 7, none⟩ = some v7 ∧ w.cell? ⟨p, 8, none⟩ = some v8 ∧ w.cell? ⟨p, 9, none⟩ = some v9 ∧ w.cell? ⟨p, 10, none⟩ = some v10 ∧ w.cell? ⟨p, 11, none⟩ = some v11 ∧ w.cell? ⟨p, 12, none⟩ = some v12 ∧ w.cell? ⟨p, 13, none⟩ = some v13 ∧ w.cell? ⟨p, 14, none⟩ = some v14 ∧ w.cell? ⟨p, 15, none⟩ = some v15 ∧ w.cell? ⟨p, 16, none⟩ = some v16 ∧ ∀ j, w.frozen? ⟨p, j, none⟩ = false :=
  ⟨h.cell rfl, h.cell rfl, h.cell rfl, h.cell rfl, h.cell rfl, h.cell rfl, h.cell rfl, h.cell rfl, h.cell rfl, h.cell rfl, h.cell rfl, h.cell rfl, h.cell rfl, h.cell rfl, h.cell rfl, h.cell rfl, h.cell rfl, h.free⟩
theorem BlkAt.c18 {w : World} {p : Nat} {T : TypeId} {v0 v1 v2 v3 v4 v5 v6 v7 v8 v9 v10 v11 v12 v13 v14 v15 v16 v17 : Value} (h : BlkAt w p T #[v0, v1, v2, v3, v4, v5, v6, v7, v8, v9, v10, v11, v12, v13, v14, v15, v16, v17]) :
    w.cell? ⟨p, 0, none⟩ = some v0 ∧ w.cell? ⟨p, 1, none⟩ = some v1 ∧ w.cell? ⟨p, 2, none⟩ = some v2 ∧ w.cell? ⟨p, 3, none⟩ = some v3 ∧ w.cell? ⟨p, 4, none⟩ = some v4 ∧ w.cell? ⟨p, 5, none⟩ = some v5 ∧ w.cell? ⟨p, 6, none⟩ = some v6 ∧ w.cell? ⟨p, 7, none⟩ = some v7 ∧ w.cell? ⟨p, 8, none⟩ = some v8 ∧ w.cell? ⟨p, 9, none⟩ = some v9 ∧ w.cell? ⟨p, 10, none⟩ = some v10 ∧ w.cell? ⟨p, 11, none⟩ = some v11 ∧ w.cell? ⟨p, 12, none⟩ = some v12 ∧ w.cell? ⟨p, 13, none⟩ = some v13 ∧ w.cell? ⟨p, 14, none⟩ = some v14 ∧ w.cell? ⟨p, 15, none⟩ = some v15 ∧ w.cell? ⟨p, 16, none⟩ = some v16 ∧ w.cell? ⟨p, 17, none⟩ = some v17 ∧ ∀ j, w.frozen? ⟨p, j, none⟩ = false :=
  ⟨h.cell rfl, h.cell rfl, h.cell rfl, h.cell rfl, h.cell rfl, h.cell rfl, h.cell rfl, h.cell rfl, h.cell rfl, h.cell rfl, h.cell rfl, h.cell rfl, h.cell rfl, h.cell rfl, h.cell rfl, h.cell rfl, h.cell rfl, h.cell rfl, h.free⟩
theorem BlkAt.c19 {w : World} {p : Nat} {T : TypeId} {v0 v1 v2 v3 v4 v5 v6 v7 v8 v9 v10 v11 v12 v13 v14 v15 v16 v17 v18 : Value} (h : BlkAt w p T #[v0, v1, v2, v3, v4, v5, v6, v7, v8, v9, v10, v11, v12, v13, v14, v15, v16, v17, v18]) :
    w.cell? ⟨p, 0, none⟩ = some v0 ∧ w.cell? ⟨p, 1, none⟩ = some v1 ∧ w.cell? ⟨p, 2, none⟩ = some v2 ∧ w.cell? ⟨p, 3, none⟩ = some v3 ∧ w.cell? ⟨p, 4, none⟩ = some v4 ∧ w.cell? ⟨p, 5, none⟩ = some v5 ∧ w.cell? ⟨p, 6, none⟩ = some v6 ∧ w.cell? ⟨p, 7, none⟩ = some v7 ∧ w.cell? ⟨p, 8, none⟩ = some v8 ∧ w.cell? ⟨p, 9, none⟩ = some v9 ∧ w.cell? ⟨p, 10, none⟩ = some v10 ∧ w.cell? ⟨p, 11, none⟩ = some v11 ∧ w.cell? ⟨p, 12, none⟩ = some v12 ∧ w.cell? ⟨p, 13, none⟩ = some v13 ∧ w.cell? ⟨p, 14, none⟩ = some v14 ∧ w.cell? ⟨p, 15, none⟩ = some v15 ∧ w.cell? ⟨p, 16, none⟩ = some v16 ∧ w.cell? ⟨p, 17, none⟩ = some v17 ∧ w.cell? ⟨p, 18, none⟩ = some v18 ∧ ∀ j, w.frozen? ⟨p, j, none⟩ = false :=
  ⟨h.cell rfl, h.cell rfl, h.cell rfl, h.cell rfl, h.cell rfl, h.cell rfl, h.cell rfl, h.cell rfl, h.cell rfl, h.cell rfl, h.cell rfl, h.cell rfl, h.cell rfl, h.cell rfl, h.cell rfl, h.cell rfl, h.cell rfl, h.cell rfl, h.cell rfl, h.free⟩
theorem BlkAt.c20 {w : World} {p : Nat} {T : TypeId} {v0 v1 v2 v3 v4 v5 v6 v7 v8 v9 v10 v11 v12 v13 v14 v15 v16 v17 v18 v19 : Value} (h : BlkAt w p T #[v0, v1, v2, v3, v4, v5, v6, v7, v8, v9, v10, v11, v12, v13, v14, v15, v16, v17, v18, v19]) :
    w.cell? ⟨p, 0, none⟩ = some v0 ∧ w.cell? ⟨p, 1, none⟩ = some v1 ∧ w.cell? ⟨p, 2, none⟩ = some v2 ∧ w.cell? ⟨p, 3, none⟩ = some v3 ∧ w.cell? ⟨p, 4, none⟩ = some v4 ∧ w.cell? ⟨p, 5, none⟩ = some v5 ∧ w.cell? ⟨p, 6, none⟩ = some v6 ∧ w.cell? ⟨p, 7, none⟩ = some v7 ∧ w.cell? ⟨p, 8, none⟩ = some v8 ∧ w.cell? ⟨p, 9, none⟩ = some v9 ∧ w.cell? ⟨p, 10, none⟩ = some v10 ∧ w.cell? ⟨p, 11, none⟩ = some v11 ∧ w.cell? ⟨p, 12, none⟩ = some v12 ∧ w.cell? ⟨p, 13, none⟩ = some v13 ∧ w.cell? ⟨p, 14, none⟩ = some v14 ∧ w.cell? ⟨p, 15, none⟩ = some v15 ∧ w.cell? ⟨p, 16, none⟩ = some v16 ∧ w.cell? ⟨p, 17, none⟩ = some v17 ∧ w.cell? ⟨p, 18, none⟩ = some v18 ∧ w.cell? ⟨p, 19, none⟩ = some v19 ∧ ∀ j, w.frozen? ⟨p, j, none⟩ = false :=
  ⟨h.cell rfl, h.cell rfl, h.cell rfl, h.cell rfl, h.cell rfl, h.cell rfl, h.cell rfl, h.cell rfl, h.cell rfl, h.cell rfl, h.cell rfl, h.cell rfl, h.cell rfl, h.cell rfl, h.cell rfl, h.cell rfl, h.cell rfl, h.cell rfl, h.cell rfl, h.cell rfl, h.free⟩
theorem BlkAt.c21 {w : World} {p : Nat} {T : TypeId} {v0 v1 v2 v3 v4 v5 v6 v7 v8 v9 v10 v11 v12 v13 v14 v15 v16 v17 v18 v19 v20 : Value} (h : BlkAt w p T #[v0, v1, v2, v3, v4, v5, v6, v7, v8, v9, v10, v11, v12, v13, v14, v15, v16, v17, v18, v19, v20]) :
    w.cell? ⟨p, 0, none⟩ = some v0 ∧ w.cell? ⟨p, 1, none⟩ = some v1 ∧ w.cell? ⟨p, 2, none⟩ = some v2 ∧ w.cell? ⟨p, 3, none⟩ = some v3 ∧ w.cell? ⟨p, 4, none⟩ = some v4 ∧ w.cell? ⟨p, 5, none⟩ = some v5 ∧ w.cell? ⟨p, 6, none⟩ = some v6 ∧ w.cell? ⟨p, 7, none⟩ = some v7 ∧ w.cell? ⟨p, 8, none⟩ = some v8 ∧ w.cell? ⟨p, 9, none⟩ = some v9 ∧ w.cell? ⟨p, 10, none⟩ = some v10 ∧ w.cell? ⟨p, 11, none⟩ = some v11 ∧ w.cell? ⟨p, 12, none⟩ = some v12 ∧ w.cell? ⟨p, 13, none⟩ = some v13 ∧ w.cell? ⟨p, 14, none⟩ = some v14 ∧ w.cell? ⟨p, 15, none⟩ = some v15 ∧ w.cell? ⟨p, 16, none⟩ = some v16 ∧ w.cell? ⟨p, 17, none⟩ = some v17 ∧ w.cell? ⟨p, 18, none⟩ = some v18 ∧ w.cell? ⟨p, 19, none⟩ = some v19 ∧ w.cell? ⟨p, 20, none⟩ = some v20 ∧ ∀ j, w.frozen? ⟨p, j, none⟩ = false :=
  ⟨h.cell rfl, h.cell rfl, h.cell rfl, h.cell rfl, h.cell rfl, h.cell rfl, h.cell rfl, h.cell rfl, h.cell rfl, h.cell rfl, h.cell rfl, h.cell rfl, h.cell rfl, h.cell rfl, h.cell rfl, h.cell rfl, h.cell rfl, h.cell rfl, h.cell rfl, h.cell rfl, h.cell rfl, h.free⟩
theorem BlkAt.c22 {w : World} {p : Nat} {T : TypeId} {v0 v1 v2 v3 v4 v5 v6 v7 v8 v9 v10 v11 v12 v13 v14 v15 v16 v17 v18 v19 v20 v21 : Value} (h : BlkAt w p T #[v0, v1, v2, v3, v4, v5, v6, v7, v8, v9, v10, v11, v12, v13, v14, v15, v16, v17, v18, v19, v20, v21]) :
    w.cell? ⟨p, 0, none⟩ = some v0 ∧ w.cell? ⟨p, 1, none⟩ = some v1 ∧ w.cell? ⟨p, 2, none⟩ = some v2 ∧ w.cell? ⟨p, 3, none⟩ = some v3 ∧ w.cell? ⟨p, 4, none⟩ = some v4 ∧ w.cell? ⟨p, 5, none⟩ = some v5 ∧ w.cell? ⟨p, 6, none⟩ = some v6 ∧ w.cell? ⟨p, 7, none⟩ = some v7 ∧ w.cell? ⟨p, 8, none⟩ = some v8 ∧ w.cell? ⟨p, 9, none⟩ = some v9 ∧ w.cell? ⟨p, 10, none⟩ = some v10 ∧ w.cell? ⟨p, 11, none⟩ = some v11 ∧ w.cell? ⟨p, 12, none⟩ = some v12 ∧ w.cell? ⟨p, 13, none⟩ = some v13 ∧ w.cell? ⟨p, 14, none⟩ = some v14 ∧ w.cell? ⟨p, 15, none⟩ = some v15 ∧ w.cell? ⟨p, 16, none⟩ = some v16 ∧ w.cell? ⟨p, 17, none⟩ = some v17 ∧ w.cell? ⟨p, 18, none⟩ = some v18 ∧ w.cell? ⟨p, 19, none⟩ = some v19 ∧ w.cell? ⟨p, 20, none⟩ = some v20 ∧ w.cell? ⟨p, 21, none⟩ = some v21 ∧ ∀ j, w.frozen? ⟨p, j, none⟩ = false :=
  ⟨h.cell rfl, h.cell rfl, h.cell rfl, h.cell rfl, h.cell rfl, h.cell rfl, h.cell rfl, h.cell rfl, h.cell rfl, h.cell rfl, h.cell rfl, h.cell rfl, h.cell rfl, h.cell rfl, h.cell rfl, h.cell rfl, h.cell rfl, h.cell rfl, h.cell rfl, h.cell rfl, h.cell rfl, h.cell rfl, h.free⟩
theorem BlkAt.c23 {w : World} {p : Nat} {T : TypeId} {v0 v1 v2 v3 v4 v5 v6 v7 v8 v9 v10 v11 v12 v13 v14 v15 v16 v17 v18 v19 v20 v21 v22 : Value} (h : BlkAt w p T #[v0, v1, v2, v3, v4, v5, v6, v7, v8, v9, v10, v11, v12, v13, v14, v15, v16, v17, v18, v19, v20, v21, v22]) :
    w.cell? ⟨p, 0, none⟩ = some v0 ∧ w.cell? ⟨p, 1, none⟩ = some v1 ∧ w.cell? ⟨p, 2, none⟩ = some v2 ∧ w.cell? ⟨p, 3, none⟩ = some v3 ∧ w.cell? ⟨p, 4, none⟩ = some v4 ∧ w.cell? ⟨p, 5, none⟩ = some v5 ∧ w.cell? ⟨p, 6, none⟩ = some v6 ∧ w.cell? ⟨p, 7, none⟩ = some v7 ∧ w.cell? ⟨p, 8, none⟩ = some v8 ∧ w.cell? ⟨p, 9, none⟩ = some v9 ∧ w.cell? ⟨p, 10, none⟩ = some v10 ∧ w.cell? ⟨p, 11, none⟩ = some v11 ∧ w.cell? ⟨p, 12, none⟩ = some v12 ∧ w.cell? ⟨p, 13, none⟩ = some v13 ∧ w.cell? ⟨p, 14, none⟩ = some v14 ∧ w.cell? ⟨p, 15, none⟩ = some v15 ∧ w.cell? ⟨p, 16, none⟩ = some v16 ∧ w.cell? ⟨p, 17, none⟩ = some v17 ∧ w.cell? ⟨p, 18, none⟩ = some v18 ∧ w.cell? ⟨p, 19, none⟩ = some v19 ∧ w.cell? ⟨p, 20, none⟩ = some v20 ∧ w.cell? ⟨p, 21, none⟩ = some v21 ∧ w.cell? ⟨p, 22, none⟩ = some v22 ∧ ∀ j, w.frozen? ⟨p, j, none⟩ = false :=
  ⟨h.cell rfl, h.cell rfl, h.cell rfl, h.cell rfl, h.cell rfl, h.cell rfl, h.cell rfl, h.cell rfl, h.cell rfl, h.cell rfl, h.cell rfl, h.cell rfl, h.cell rfl, h.cell rfl, h.cell rfl, h.cell rfl, h.cell rfl, h.cell rfl, h.cell rfl, h.cell rfl, h.cell rfl, h.cell rfl, h.cell rfl, h.free⟩
theorem BlkAt.c24 {w : World} {p : Nat} {T : TypeId} {v0 v1 v2 v3 v4 v5 v6 v7 v8 v9 v10 v11 v12 v13 v14 v15 v16 v17 v18 v19 v20 v21 v22 v23 : Value} (h : BlkAt w p T #[v0, v1, v2, v3, v4, v5, v6, v7, v8, v9, v10, v11, v12, v13, v14, v15, v16, v17, v18, v19, v20, v21, v22, v23]) :
    w.cell? ⟨p, 0, none⟩ = some v0 ∧ w.cell? ⟨p, 1, none⟩ = some v1 ∧ w.cell? ⟨p, 2, none⟩ = some v2 ∧ w.cell? ⟨p, 3, none⟩ = some v3 ∧ w.cell? ⟨p, 4, none⟩ = some v4 ∧ w.cell? ⟨p, 5, none⟩ = some v5 ∧ w.cell? ⟨p, 6, none⟩ = some v6 ∧ w.cell? ⟨p, 7, none⟩ = some v7 ∧ w.cell? ⟨p, 8, none⟩ = some v8 ∧ w.cell? ⟨p, 9, none⟩ = some v9 ∧ w.cell? ⟨p, 10, none⟩ = some v10 ∧ w.cell? ⟨p, 11, none⟩ = some v11 ∧ w.cell? ⟨p, 12, none⟩ = some v12 ∧ w.cell? ⟨p, 13, none⟩ = some v13 ∧ w.cell? ⟨p, 14, none⟩ = some v14 ∧ w.cell? ⟨p, 15, none⟩ = some v15 ∧ w.cell? ⟨p, 16, none⟩ = some v16 ∧ w.cell? ⟨p, 17, none⟩ = some v17 ∧ w.cell? ⟨p, 18, none⟩ = some v18 ∧ w.cell? ⟨p, 19, none⟩ = some v19 ∧ w.cell? ⟨p, 20, none⟩ = some v20 ∧ w.cell? ⟨p, 21, none⟩ = some v21 ∧ w.cell? ⟨p, 22, none⟩ = some v22 ∧ w.cell? ⟨p, 23, none⟩ = some v23 ∧ ∀ j, w.frozen? ⟨p, j, none⟩ = false :=
  ⟨h.cell rfl, h.cell rfl, h.cell rfl, h.cell rfl, h.cell rfl, h.cell rfl, h.cell rfl, h.cell rfl, h.cell rfl, h.cell rfl, h.cell rfl, h.cell rfl, h.cell rfl, h.cell rfl, h.cell rfl, h.cell rfl, h.cell rfl, h.cell rfl, h.cell rfl, h.cell rfl, h.cell rfl, h.cell rfl, h.cell rfl, h.cell rfl, h.free⟩
theorem BlkAt.set13 {w : World} {p : Nat} {T : TypeId} {v0 v1 v2 v3 v4 v5 v6 v7 v8 v9 v10 v11 v12 : Value} (h : BlkAt w p T #[v0, v1, v2, v3, v4, v5, v6, v7, v8, v9, v10, v11, v12]) (u0 u1 u2 u3 u4 u5 u6 u7 u8 u9 u10 u11 u12 : Value) :
    BlkAt (((((((((((((w.setCell ⟨p, 0, none⟩ u0).setCell ⟨p, 1, none⟩ u1).setCell ⟨p, 2, none⟩ u2).setCell ⟨p, 3, none⟩ u3).setCell ⟨p, 4, none⟩ u4).setCell ⟨p, 5, none⟩ u5).setCell ⟨p, 6, none⟩ u6).setCell ⟨p, 7, none⟩ u7).setCell ⟨p, 8, none⟩ u8).setCell ⟨p, 9, none⟩ u9).setCell ⟨p, 10, none⟩ u10).setCell ⟨p, 11, none⟩ u11).setCell ⟨p, 12, none⟩ u12) p T #[u0, u1, u2, u3, u4, u5, u6, u7, u8, u9, u10, u11, u12] :=
  (congrArg (BlkAt _ p T) (by kernel_rfl : ((((((((((((((#[v0, v1, v2, v3, v4, v5, v6, v7, v8, v9, v10, v11, v12] : Array Value).setIfInBounds 0 u0).setIfInBounds 1 u1).setIfInBounds 2 u2).setIfInBounds 3 u3).setIfInBounds 4 u4).setIfInBounds 5 u5).setIfInBounds 6 u6).setIfInBounds 7 u7).setIfInBounds 8 u8).setIfInBounds 9 u9).setIfInBounds 10 u10).setIfInBounds 11 u11).setIfInBounds 12 u12) = #[u0, u1, u2, u3, u4, u5, u6, u7, u8, u9, u10, u11, u12])).mp (((((((((((((h.set 0 u0).set 1 u1).set 2 u2).set 3 u3).set 4 u4).set 5 u5).set 6 u6).set 7 u7).set 8 u8).set 9 u9).set 10 u10).set 11 u11).set 12 u12)
theorem BlkAt.set14 {w : World} {p : Nat} {T : TypeId} {v0 v1 v2 v3 v4 v5 v6 v7 v8 v9 v10 v11 v12 v13 : Value} (h : BlkAt w p T #[v0, v1, v2, v3, v4, v5, v6, v7, v8, v9, v10, v11, v12, v13]) (u0 u1 u2 u3 u4 u5 u6 u7 u8 u9 u10 u11 u12 u13 : Value) :
    BlkAt ((((((((((((((w.setCell ⟨p, 0, none⟩ u0).setCell ⟨p, 1, none⟩ u1).setCell ⟨p, 2, none⟩ u2).setCell ⟨p, 3, none⟩ u3).setCell ⟨p, 4, none⟩ u4).setCell ⟨p, 5, none⟩ u5).setCell ⟨p, 6, none⟩ u6).setCell ⟨p, 7, none⟩ u7).setCell ⟨p, 8, none⟩ u8).setCell ⟨p, 9, none⟩ u9).setCell ⟨p, 10, none⟩ u10).setCell ⟨p, 11, none⟩ u11).setCell ⟨p, 12, none⟩ u12).setCell ⟨p, 13, none⟩ u13) p T #[u0, u1, u2, u3, u4, u5, u6, u7, u8, u9, u10, u11, u12, u13] :=
  (congrArg (BlkAt _ p T) (by kernel_rfl : (((((((((((((((#[v0, v1, v2, v3, v4, v5, v6, v7, v8, v9, v10, v11, v12, v13] : Array Value).setIfInBounds 0 u0).setIfInBounds 1 u1).setIfInBounds 2 u2).setIfInBounds 3 u3).setIfInBounds 4 u4).setIfInBounds 5 u5).setIfInBounds 6 u6).setIfInBounds 7 u7).setIfInBounds 8 u8).setIfInBounds 9 u9).setIfInBounds 10 u10).setIfInBounds 11 u11).setIfInBounds 12 u12).setIfInBounds 13 u13) = #[u0, u1, u2, u3, u4, u5, u6, u7, u8, u9, u10, u11, u12, u13])).mp ((((((((((((((h.set 0 u0).set 1 u1).set 2 u2).set 3 u3).set 4 u4).set 5 u5).set 6 u6).set 7 u7).set 8 u8).set 9 u9).set 10 u10).set 11 u11).set 12 u12).set 13 u13)
theorem BlkAt.set15 {w : World} {p : Nat} {T : TypeId} {v0 v1 v2 v3 v4 v5 v6 v7 v8 v9 v10 v11 v12 v13 v14 : Value} (h : BlkAt w p T #[v0, v1, v2, v3, v4, v5, v6, v7, v8, v9, v10, v11, v12, v13, v14]) (u0 u1 u2 u3 u4 u5 u6 u7 u8 u9 u10 u11 u12 u13 u14 : Value) :
    BlkAt (((((((((((((((w.setCell ⟨p, 0, none⟩ u0).setCell ⟨p, 1, none⟩ u1).setCell ⟨p, 2, none⟩ u2).setCell ⟨p, 3, none⟩ u3).setCell ⟨p, 4, none⟩ u4).setCell ⟨p, 5, none⟩ u5).setCell ⟨p, 6, none⟩ u6).setCell ⟨p, 7, none⟩ u7).setCell ⟨p, 8, none⟩ u8).setCell ⟨p, 9, none⟩ u9).setCell ⟨p, 10, none⟩ u10).setCell ⟨p, 11, none⟩ u11).setCell ⟨p, 12, none⟩ u12).setCell ⟨p, 13, none⟩ u13).setCell ⟨p, 14, none⟩ u14) p T #[u0, u1, u2, u3, u4, u5, u6, u7, u8, u9, u10, u11, u12, u13, u14] :=
  (congrArg (BlkAt _ p T) (by kernel_rfl : ((((((((((((((((#[v0, v1, v2, v3, v4, v5, v6, v7, v8, v9, v10, v11, v12, v13, v14] : Array Value).setIfInBounds 0 u0).setIfInBounds 1 u1).setIfInBounds 2 u2).setIfInBounds 3 u3).setIfInBounds 4 u4).setIfInBounds 5 u5).setIfInBounds 6 u6).setIfInBounds 7 u7).setIfInBounds 8 u8).setIfInBounds 9 u9).setIfInBounds 10 u10).setIfInBounds 11 u11).setIfInBounds 12 u12).setIfInBounds 13 u13).setIfInBounds 14 u14) = #[u0, u1, u2, u3, u4, u5, u6, u7, u8, u9, u10, u11, u12, u13, u14])).mp (((((((((((((((h.set 0 u0).set 1 u1).set 2 u2).set 3 u3).set 4 u4).set 5 u5).set 6 u6).set 7 u7).set 8 u8).set 9 u9).set 10 u10).set 11 u11).set 12 u12).set 13 u13).set 14 u14)
theorem BlkAt.set16 {w : World} {p : Nat} {T : TypeId} {v0 v1 v2 v3 v4 v5 v6 v7 v8 v9 v10 v11 v12 v13 v14 v15 : Value} (h : BlkAt w p T #[v0, v1, v2, v3, v4, v5, v6, v7, v8, v9, v10, v11, v12, v13, v14, v15]) (u0 u1 u2 u3 u4 u5 u6 u7 u8 u9 u10 u11 u12 u13 u14 u15 : Value) :
    BlkAt ((((((((((((((((w.setCell ⟨p, 0, none⟩ u0).setCell ⟨p, 1, none⟩ u1).setCell ⟨p, 2, none⟩ u2).setCell ⟨p, 3, none⟩ u3).setCell ⟨p, 4, none⟩ u4).setCell ⟨p, 5, none⟩ u5).setCell ⟨p, 6, none⟩ u6).setCell ⟨p, 7, none⟩ u7).setCell ⟨p, 8, none⟩ u8).setCell ⟨p, 9, none⟩ u9).setCell ⟨p, 10, none⟩ u10).setCell ⟨p, 11, none⟩ u11).setCell ⟨p, 12, none⟩ u12).setCell ⟨p, 13, none⟩ u13).setCell ⟨p, 14, none⟩ u14).setCell ⟨p, 15, none⟩ u15) p T #[u0, u1, u2, u3, u4, u5, u6, u7, u8, u9, u10, u11, u12, u13, u14, u15] :=
  (congrArg (BlkAt _ p T) (by kernel_rfl : (((((((((((((((((#[v0, v1, v2, v3, v4, v5, v6, v7, v8, v9, v10, v11, v12, v13, v14, v15] : Array Value).setIfInBounds 0 u0).setIfInBounds 1 u1).setIfInBounds 2 u2).setIfInBounds 3 u3).setIfInBounds 4 u4).setIfInBounds 5 u5).setIfInBounds 6 u6).setIfInBounds 7 u7).setIfInBounds 8 u8).setIfInBounds 9 u9).setIfInBounds 10 u10).setIfInBounds 11 u11).setIfInBounds 12 u12).setIfInBounds 13 u13).setIfInBounds 14 u14).setIfInBounds 15 u15) = #[u0, u1, u2, u3, u4, u5, u6, u7, u8, u9, u10, u11, u12, u13, u14, u15])).mp ((((((((((((((((h.set 0 u0).set 1 u1).set 2 u2).set 3 u3).set 4 u4).set 5 u5).set 6 u6).set 7 u7).set 8 u8).set 9 u9).set 10 u10).set 11 u11).set 12 u12).set 13 u13).set 14 u14).set 15 u15)
theorem BlkAt.set17 {w : World} {p : Nat} {T : TypeId} {v0 v1 v2 v3 v4 v5 v6 v7 v8 v9 v10 v11 v12 v13 v14 v15 v16 : Value} (h : BlkAt w p T #[v0, v1, v2, v3, v4, v5, v6, v7, v8, v9, v10, v11, v12, v13, v14, v15, v16]) (u0 u1 u2 u3 u4 u5 u6 u7 u8 u9 u10 u11 u12 u13 u14 u15 u16 : Value) :
    BlkAt (((((((((((((((((w.setCell ⟨p, 0, none⟩ u0).setCell ⟨p, 1, none⟩ u1).setCell ⟨p, 2, none⟩ u2).setCell ⟨p, 3, none⟩ u3).setCell ⟨p, 4, none⟩ u4).setCell ⟨p, 5, none⟩ u5).setCell ⟨p, 6, none⟩ u6).setCell ⟨p, 7, none⟩ u7).setCell ⟨p, 8, none⟩ u8).setCell ⟨p, 9, none⟩ u9).setCell ⟨p, 10, none⟩ u10).setCell ⟨p, 11, none⟩ u11).setCell ⟨p, 12, none⟩ u12).setCell ⟨p, 13, none⟩ u13).setCell ⟨p, 14, none⟩ u14).setCell ⟨p, 15, none⟩ u15).setCell ⟨p, 16, none⟩ u16) p T #[u0, u1, u2, u3, u4, u5, u6, u7, u8, u9, u10, u11, u12, u13, u14, u15, u16] :=
  (congrArg (BlkAt _ p T) (by kernel_rfl : ((((((((((((((((((#[v0, v1, v2, v3, v4, v5, v6, v7, v8, v9, v10, v11, v12, v13, v14, v15, v16] : Array Value).setIfInBounds 0 u0).setIfInBounds 1 u1).setIfInBounds 2 u2).setIfInBounds 3 u3).setIfInBounds 4 u4).setIfInBounds 5 u5).setIfInBounds 6 u6).setIfInBounds 7 u7).setIfInBounds 8 u8).setIfInBounds 9 u9).setIfInBounds 10 u10).setIfInBounds 11 u11).setIfInBounds 12 u12).setIfInBounds 13 u13).setIfInBounds 14 u14).setIfInBounds 15 u15).setIfInBounds 16 u16) = #[u0, u1, u2, u3, u4, u5, u6, u7, u8, u9, u10, u11, u12, u13, u14, u15, u16])).mp (((((((((((((((((h.set 0 u0).set 1 u1).set 2 u2).set 3 u3).set 4 u4).set 5 u5).set 6 u6).set 7 u7).set 8 u8).set 9 u9).set 10 u10).set 11 u11).set 12 u12).set 13 u13).set 14 u14).set 15 u15).set 16 u16)
theorem BlkAt.set18 {w : World} {p : Nat} {T : TypeId} {v0 v1 v2 v3 v4 v5 v6 v7 v8 v9 v10 v11 v12 v13 v14 v15 v16 v17 : Value} (h : BlkAt w p T #[v0, v1, v2, v3, v4, v5, v6, v7, v8, v9, v10, v11, v12, v13, v14, v15, v16, v17]) (u0 u1 u2 u3 u4 u5 u6 u7 u8 u9 u10 u11 u12 u13 u14 u15 u16 u17 : Value) :
    BlkAt ((((((((((((((((((w.setCell ⟨p, 0, none⟩ u0).setCell ⟨p, 1, none⟩ u1).setCell ⟨p, 2, none⟩ u2).setCell ⟨p, 3, none⟩ u3).setCell ⟨p, 4, none⟩ u4).setCell ⟨p, 5, none⟩ u5).setCell ⟨p, 6, none⟩ u6).setCell ⟨p, 7, none⟩ u7).setCell ⟨p, 8, none⟩ u8).setCell ⟨p, 9, none⟩ u9).setCell ⟨p, 10, none⟩ u10).setCell ⟨p, 11, none⟩ u11).setCell ⟨p, 12, none⟩ u12).setCell ⟨p, 13, none⟩ u13).setCell ⟨p, 14, none⟩ u14).setCell ⟨p, 15, none⟩ u15).setCell ⟨p, 16, none⟩ u16).setCell ⟨p, 17, none⟩ u17) p T #[u0, u1, u2, u3, u4, u5, u6, u7, u8, u9, u10, u11, u12, u13, u14, u15, u16, u17] :=
  (congrArg (BlkAt _ p T) (by kernel_rfl : (((((((((((((((((((#[v0, v1, v2, v3, v4, v5, v6, v7, v8, v9, v10, v11, v12, v13, v14, v15, v16, v17] : Array Value).setIfInBounds 0 u0).setIfInBounds 1 u1).setIfInBounds 2 u2).setIfInBounds 3 u3).setIfInBounds 4 u4).setIfInBounds 5 u5).setIfInBounds 6 u6).setIfInBounds 7 u7).setIfInBounds 8 u8).setIfInBounds 9 u9).setIfInBounds 10 u10).setIfInBounds 11 u11).setIfInBounds 12 u12).setIfInBounds 13 u13).setIfInBounds 14 u14).setIfInBounds 15 u15).setIfInBounds 16 u16).setIfInBounds 17 u17) = #[u0, u1, u2, u3, u4, u5, u6, u7, u8, u9, u10, u11, u12, u13, u14, u15, u16, u17])).mp ((((((((((((((((((h.set 0 u0).set 1 u1).set 2 u2).set 3 u3).set 4 u4).set 5 u5).set 6 u6).set 7 u7).set 8 u8).set 9 u9).set 10 u10).set 11 u11).set 12 u12).set 13 u13).set 14 u14).set 15 u15).set 16 u16).set 17 u17)
theorem BlkAt.set19 {w : World} {p : Nat} {T : TypeId} {v0 v1 v2 v3 v4 v5 v6 v7 v8 v9 v10 v11 v12 v13 v14 v15 v16 v17 v18 : Value} (h : BlkAt w p T #[v0, v1, v2, v3, v4, v5, v6, v7, v8, v9, v10, v11, v12, v13, v14, v15, v16, v17, v18]) (u0 u1 u2 u3 u4 u5 u6 u7 u8 u9 u10 u11 u12 u13 u14 u15 u16 u17 u18 : Value) :
    BlkAt (((((((((((((((((((w.setCell ⟨p, 0, none⟩ u0).setCell ⟨p, 1, none⟩ u1).setCell ⟨p, 2, none⟩ u2).setCell ⟨p, 3, none⟩ u3).setCell ⟨p, 4, none⟩ u4).setCell ⟨p, 5, none⟩ u5).setCell ⟨p, 6, none⟩ u6).setCell ⟨p, 7, none⟩ u7).setCell ⟨p, 8, none⟩ u8).setCell ⟨p, 9, none⟩ u9).setCell ⟨p, 10, none⟩ u10).setCell ⟨p, 11, none⟩ u11).setCell ⟨p, 12, none⟩ u12).setCell ⟨p, 13, none⟩ u13).setCell ⟨p, 14, none⟩ u14).setCell ⟨p, 15, none⟩ u15).setCell ⟨p, 16, none⟩ u16).setCell ⟨p, 17, none⟩ u17).setCell ⟨p, 18, none⟩ u18) p T #[u0, u1, u2, u3, u4, u5, u6, u7, u8, u9, u10, u11, u12, u13, u14, u15, u16, u17, u18] :=
  (congrArg (BlkAt _ p T) (by kernel_rfl : ((((((((((((((((((((#[v0, v1, v2, v3, v4, v5, v6, v7, v8, v9, v10, v11, v12, v13, v14, v15, v16, v17, v18] : Array Value).setIfInBounds 0 u0).setIfInBounds 1 u1).setIfInBounds 2 u2).setIfInBounds 3 u3).setIfInBounds 4 u4).setIfInBounds 5 u5).setIfInBounds 6 u6).setIfInBounds 7 u7).setIfInBounds 8 u8).setIfInBounds 9 u9).setIfInBounds 10 u10).setIfInBounds 11 u11).setIfInBounds 12 u12).setIfInBounds 13 u13).setIfInBounds 14 u14).setIfInBounds 15 u15).setIfInBounds 16 u16).setIfInBounds 17 u17).setIfInBounds 18 u18) = #[u0, u1, u2, u3, u4, u5, u6, u7, u8, u9, u10, u11, u12, u13, u14, u15, u16, u17, u18])).mp (((((((((((((((((((h.set 0 u0).set 1 u1).set 2 u2).set 3 u3).set 4 u4).set 5 u5).set 6 u6).set 7 u7).set 8 u8).set 9 u9).set 10 u10).set 11 u11).set 12 u12).set 13 u13).set 14 u14).set 15 u15).set 16 u16).set 17 u17).set 18 u18)
theorem BlkAt.set20 {w : World} {p : Nat} {T : TypeId} {v0 v1 v2 v3 v4 v5 v6 v7 v8 v9 v10 v11 v12 v13 v14 v15 v16 v17 v18 v19 : Value} (h : BlkAt w p T #[v0, v1, v2, v3, v4, v5, v6, v7, v8, v9, v10, v11, v12, v13, v14, v15, v16, v17, v18, v19]) (u0 u1 u2 u3 u4 u5 u6 u7 u8 u9 u10 u11 u12 u13 u14 u15 u16 u17 u18 u19 : Value) :
    BlkAt ((((((((((((((((((((w.setCell ⟨p, 0, none⟩ u0).setCell ⟨p, 1, none⟩ u1).setCell ⟨p, 2, none⟩ u2).setCell ⟨p, 3, none⟩ u3).setCell ⟨p, 4, none⟩ u4).setCell ⟨p, 5, none⟩ u5).setCell ⟨p, 6, none⟩ u6).setCell ⟨p, 7, none⟩ u7).setCell ⟨p, 8, none⟩ u8).setCell ⟨p, 9, none⟩ u9).setCell ⟨p, 10, none⟩ u10).setCell ⟨p, 11, none⟩ u11).setCell ⟨p, 12, none⟩ u12).setCell ⟨p, 13, none⟩ u13).setCell ⟨p, 14, none⟩ u14).setCell ⟨p, 15, none⟩ u15).setCell ⟨p, 16, none⟩ u16).setCell ⟨p, 17, none⟩ u17).setCell ⟨p, 18, none⟩ u18).setCell ⟨p, 19, none⟩ u19) p T #[u0, u1, u2, u3, u4, u5, u6, u7, u8, u9, u10, u11, u12, u13, u14, u15, u16, u17, u18, u19] :=
  (congrArg (BlkAt _ p T) (by kernel_rfl : (((((((((((((((((((((#[v0, v1, v2, v3, v4, v5, v6, v7, v8, v9, v10, v11, v12, v13, v14, v15, v16, v17, v18, v19] : Array Value).setIfInBounds 0 u0).setIfInBounds 1 u1).setIfInBounds 2 u2).setIfInBounds 3 u3).setIfInBounds 4 u4).setIfInBounds 5 u5).setIfInBounds 6 u6).setIfInBounds 7 u7).setIfInBounds 8 u8).setIfInBounds 9 u9).setIfInBounds 10 u10).setIfInBounds 11 u11).setIfInBounds 12 u12).setIfInBounds 13 u13).setIfInBounds 14 u14).setIfInBounds 15 u15).setIfInBounds 16 u16).setIfInBounds 17 u17).setIfInBounds 18 u18).setIfInBounds 19 u19) = #[u0, u1, u2, u3, u4, u5, u6, u7, u8, u9, u10, u11, u12, u13, u14, u15, u16, u17, u18, u19])).mp ((((((((((((((((((((h.set 0 u0).set 1 u1).set 2 u2).set 3 u3).set 4 u4).set 5 u5).set 6 u6).set 7 u7).set 8 u8).set 9 u9).set 10 u10).set 11 u11).set 12 u12).set 13 u13).set 14 u14).set 15 u15).set 16 u16).set 17 u17).set 18 u18).set 19 u19)
theorem BlkAt.set21 {w : World} {p : Nat} {T : TypeId} {v0 v1 v2 v3 v4 v5 v6 v7 v8 v9 v10 v11 v12 v13 v14 v15 v16 v17 v18 v19 v20 : Value} (h : BlkAt w p T #[v0, v1, v2, v3, v4, v5, v6, v7, v8, v9, v10, v11, v12, v13, v14, v15, v16, v17, v18, v19, v20]) (u0 u1 u2 u3 u4 u5 u6 u7 u8 u9 u10 u11 u12 u13 u14 u15 u16 u17 u18 u19 u20 : Value) :
    BlkAt (((((((((((((((((((((w.setCell ⟨p, 0, none⟩ u0).setCell ⟨p, 1, none⟩ u1).setCell ⟨p, 2, none⟩ u2).setCell ⟨p, 3, none⟩ u3).setCell ⟨p, 4, none⟩ u4).setCell ⟨p, 5, none⟩ u5).setCell ⟨p, 6, none⟩ u6).setCell ⟨p, 7, none⟩ u7).setCell ⟨p, 8, none⟩ u8).setCell ⟨p, 9, none⟩ u9).setCell ⟨p, 10, none⟩ u10).setCell ⟨p, 11, none⟩ u11).setCell ⟨p, 12, none⟩ u12).setCell ⟨p, 13, none⟩ u13).setCell ⟨p, 14, none⟩ u14).setCell ⟨p, 15, none⟩ u15).setCell ⟨p, 16, none⟩ u16).setCell ⟨p, 17, none⟩ u17).setCell ⟨p, 18, none⟩ u18).setCell ⟨p, 19, none⟩ u19).setCell ⟨p, 20, none⟩ u20) p T #[u0, u1, u2, u3, u4, u5, u6, u7, u8, u9, u10, u11, u12, u13, u14, u15, u16, u17, u18, u19, u20] :=
  (congrArg (BlkAt _ p T) (by kernel_rfl : ((((((((((((((((((((((#[v0, v1, v2, v3, v4, v5, v6, v7, v8, v9, v10, v11, v12, v13, v14, v15, v16, v17, v18, v19, v20] : Array Value).setIfInBounds 0 u0).setIfInBounds 1 u1).setIfInBounds 2 u2).setIfInBounds 3 u3).setIfInBounds 4 u4).setIfInBounds 5 u5).setIfInBounds 6 u6).setIfInBounds 7 u7).setIfInBounds 8 u8).setIfInBounds 9 u9).setIfInBounds 10 u10).setIfInBounds 11 u11).setIfInBounds 12 u12).setIfInBounds 13 u13).setIfInBounds 14 u14).setIfInBounds 15 u15).setIfInBounds 16 u16).setIfInBounds 17 u17).setIfInBounds 18 u18).setIfInBounds 19 u19).setIfInBounds 20 u20) = #[u0, u1, u2, u3, u4, u5, u6, u7, u8, u9, u10, u11, u12, u13, u14, u15, u16, u17, u18, u19, u20])).mp (((((((((((((((((((((h.set 0 u0).set 1 u1).set 2 u2).set 3 u3).set 4 u4).set 5 u5).set 6 u6).set 7 u7).set 8 u8).set 9 u9).set 10 u10).set 11 u11).set 12 u12).set 13 u13).set 14 u14).set 15 u15).set 16 u16).set 17 u17).set 18 u18).set 19 u19).set 20 u20)
theorem BlkAt.set22 {w : World} {p : Nat} {T : TypeId} {v0 v1 v2 v3 v4 v5 v6 v7 v8 v9 v10 v11 v12 v13 v14 v15 v16 v17 v18 v19 v20 v21 : Value} (h : BlkAt w p T #[v0, v1, v2, v3, v4, v5, v6, v7, v8, v9, v10, v11, v12, v13, v14, v15, v16, v17, v18, v19, v20, v21]) (u0 u1 u2 u3 u4 u5 u6 u7 u8 u9 u10 u11 u12 u13 u14 u15 u16 u17 u18 u19 u20 u21 : Value) :
    BlkAt ((((((((((((((((((((((w.setCell ⟨p, 0, none⟩ u0).setCell ⟨p, 1, none⟩ u1).setCell ⟨p, 2, none⟩ u2).setCell ⟨p, 3, none⟩ u3).setCell ⟨p, 4, none⟩ u4).setCell ⟨p, 5, none⟩ u5).setCell ⟨p, 6, none⟩ u6).setCell ⟨p, 7, none⟩ u7).setCell ⟨p, 8, none⟩ u8).setCell ⟨p, 9, none⟩ u9).setCell ⟨p, 10, none⟩ u10).setCell ⟨p, 11, none⟩ u11).setCell ⟨p, 12, none⟩ u12).setCell ⟨p, 13, none⟩ u13).setCell ⟨p, 14, none⟩ u14).setCell ⟨p, 15, none⟩ u15).setCell ⟨p, 16, none⟩ u16).setCell ⟨p, 17, none⟩ u17).setCell ⟨p, 18, none⟩ u18).setCell ⟨p, 19, none⟩ u19).setCell ⟨p, 20, none⟩ u20).setCell ⟨p, 21, none⟩ u21) p T #[u0, u1, u2, u3, u4, u5, u6, u7, u8, u9, u10, u11, u12, u13, u14, u15, u16, u17, u18, u19, u20, u21] :=
  (congrArg (BlkAt _ p T) (by kernel_rfl : (((((((((((((((((((((((#[v0, v1, v2, v3, v4, v5, v6, v7, v8, v9, v10, v11, v12, v13, v14, v15, v16, v17, v18, v19, v20, v21] : Array Value).setIfInBounds 0 u0).setIfInBounds 1 u1).setIfInBounds 2 u2).setIfInBounds 3 u3).setIfInBounds 4 u4).setIfInBounds 5 u5).setIfInBounds 6 u6).setIfInBounds 7 u7).setIfInBounds 8 u8).setIfInBounds 9 u9).setIfInBounds 10 u10).setIfInBounds 11 u11).setIfInBounds 12 u12).setIfInBounds 13 u13).setIfInBounds 14 u14).setIfInBounds 15 u15).setIfInBounds 16 u16).setIfInBounds 17 u17).setIfInBounds 18 u18).setIfInBounds 19 u19).setIfInBounds 20 u20).setIfInBounds 21 u21) = #[u0, u1, u2, u3, u4, u5, u6, u7, u8, u9, u10, u11, u12, u13, u14, u15, u16, u17, u18, u19, u20, u21])).mp ((((((((((((((((((((((h.set 0 u0).set 1 u1).set 2 u2).set 3 u3).set 4 u4).set 5 u5).set 6 u6).set 7 u7).set 8 u8).set 9 u9).set 10 u10).set 11 u11).set 12 u12).set 13 u13).set 14 u14).set 15 u15).set 16 u16).set 17 u17).set 18 u18).set 19 u19).set 20 u20).set 21 u21)
theorem BlkAt.set23 {w : World} {p : Nat} {T : TypeId} {v0 v1 v2 v3 v4 v5 v6 v7 v8 v9 v10 v11 v12 v13 v14 v15 v16 v17 v18 v19 v20 v21 v22 : Value} (h : BlkAt w p T #[v0, v1, v2, v3, v4, v5, v6, v7, v8, v9, v10, v11, v12, v13, v14, v15, v16, v17, v18, v19, v20, v21, v22]) (u0 u1 u2 u3 u4 u5 u6 u7 u8 u9 u10 u11 u12 u13 u14 u15 u16 u17 u18 u19 u20 u21 u22 : Value) :
    BlkAt (((((((((((((((((((((((w.setCell ⟨p, 0, none⟩ u0).setCell ⟨p, 1, none⟩ u1).setCell ⟨p, 2, none⟩ u2).setCell ⟨p, 3, none⟩ u3).setCell ⟨p, 4, none⟩ u4).setCell ⟨p, 5, none⟩ u5).setCell ⟨p, 6, none⟩ u6).setCell ⟨p, 7, none⟩ u7).setCell ⟨p, 8, none⟩ u8).setCell ⟨p, 9, none⟩ u9).setCell ⟨p, 10, none⟩ u10).setCell ⟨p, 11, none⟩ u11).setCell ⟨p, 12, none⟩ u12).setCell ⟨p, 13, none⟩ u13).setCell ⟨p, 14, none⟩ u14).setCell ⟨p, 15, none⟩ u15).setCell ⟨p, 16, none⟩ u16).setCell ⟨p, 17, none⟩ u17).setCell ⟨p, 18, none⟩ u18).setCell ⟨p, 19, none⟩ u19).setCell ⟨p, 20, none⟩ u20).setCell ⟨p, 21, none⟩ u21).setCell ⟨p, 22, none⟩ u22) p T #[u0, u1, u2, u3, u4, u5, u6, u7, u8, u9, u10, u11, u12, u13, u14, u15, u16, u17, u18, u19, u20, u21, u22] :=
  (congrArg (BlkAt _ p T) (by kernel_rfl : ((((((((((((((((((((((((#[v0, v1, v2, v3, v4, v5, v6, v7, v8, v9, v10, v11, v12, v13, v14, v15, v16, v17, v18, v19, v20, v21, v22] : Array Value).setIfInBounds 0 u0).setIfInBounds 1 u1).setIfInBounds 2 u2).setIfInBounds 3 u3).setIfInBounds 4 u4).setIfInBounds 5 u5).setIfInBounds 6 u6).setIfInBounds 7 u7).setIfInBounds 8 u8).setIfInBounds 9 u9).setIfInBounds 10 u10).setIfInBounds 11 u11).setIfInBounds 12 u12).setIfInBounds 13 u13).setIfInBounds 14 u14).setIfInBounds 15 u15).setIfInBounds 16 u16).setIfInBounds 17 u17).setIfInBounds 18 u18).setIfInBounds 19 u19).setIfInBounds 20 u20).setIfInBounds 21 u21).setIfInBounds 22 u22) = #[u0, u1, u2, u3, u4, u5, u6, u7, u8, u9, u10, u11, u12, u13, u14, u15, u16, u17, u18, u19, u20, u21, u22])).mp (((((((((((((((((((((((h.set 0 u0).set 1 u1).set 2 u2).set 3 u3).set 4 u4).set 5 u5).set 6 u6).set 7 u7).set 8 u8).set 9 u9).set 10 u10).set 11 u11).set 12 u12).set 13 u13).set 14 u14).set 15 u15).set 16 u16).set 17 u17).set 18 u18).set 19 u19).set 20 u20).set 21 u21).set 22 u22)
theorem BlkAt.set24 {w : World} {p : Nat} {T : TypeId} {v0 v1 v2 v3 v4 v5 v6 v7 v8 v9 v10 v11 v12 v13 v14 v15 v16 v17 v18 v19 v20 v21 v22 v23 : Value} (h : BlkAt w p T #[v0, v1, v2, v3, v4, v5, v6, v7, v8, v9, v10, v11, v12, v13, v14, v15, v16, v17, v18, v19, v20, v21, v22, v23]) (u0 u1 u2 u3 u4 u5 u6 u7 u8 u9 u10 u11 u12 u13 u14 u15 u16 u17 u18 u19 u20 u21 u22 u23 : Value) :
    BlkAt ((((((((((((((((((((((((w.setCell ⟨p, 0, none⟩ u0).setCell ⟨p, 1, none⟩ u1).setCell ⟨p, 2, none⟩ u2).setCell ⟨p, 3, none⟩ u3).setCell ⟨p, 4, none⟩ u4).setCell ⟨p, 5, none⟩ u5).setCell ⟨p, 6, none⟩ u6).setCell ⟨p, 7, none⟩ u7).setCell ⟨p, 8, none⟩ u8).setCell ⟨p, 9, none⟩ u9).setCell ⟨p, 10, none⟩ u10).setCell ⟨p, 11, none⟩ u11).setCell ⟨p, 12, none⟩ u12).setCell ⟨p, 13, none⟩ u13).setCell ⟨p, 14, none⟩ u14).setCell ⟨p, 15, none⟩ u15).setCell ⟨p, 16, none⟩ u16).setCell ⟨p, 17, none⟩ u17).setCell ⟨p, 18, none⟩ u18).setCell ⟨p, 19, none⟩ u19).setCell ⟨p, 20, none⟩ u20).setCell ⟨p, 21, none⟩ u21).setCell ⟨p, 22, none⟩ u22).setCell ⟨p, 23, none⟩ u23) p T #[u0, u1, u2, u3, u4, u5, u6, u7, u8, u9, u10, u11, u12, u13, u14, u15, u16, u17, u18, u19, u20, u21, u22, u23] :=
  (congrArg (BlkAt _ p T) (by kernel_rfl : (((((((((((((((((((((((((#[v0, v1, v2, v3, v4, v5, v6, v7, v8, v9, v10, v11, v12, v13, v14, v15, v16, v17, v18, v19, v20, v21, v22, v23] : Array Value).setIfInBounds 0 u0).setIfInBounds 1 u1).setIfInBounds 2 u2).setIfInBounds 3 u3).setIfInBounds 4 u4).setIfInBounds 5 u5).setIfInBounds 6 u6).setIfInBounds 7 u7).setIfInBounds 8 u8).setIfInBounds 9 u9).setIfInBounds 10 u10).setIfInBounds 11 u11).setIfInBounds 12 u12).setIfInBounds 13 u13).setIfInBounds 14 u14).setIfInBounds 15 u15).setIfInBounds 16 u16).setIfInBounds 17 u17).setIfInBounds 18 u18).setIfInBounds 19 u19).setIfInBounds 20 u20).setIfInBounds 21 u21).setIfInBounds 22 u22).setIfInBounds 23 u23) = #[u0, u1, u2, u3, u4, u5, u6, u7, u8, u9, u10, u11, u12, u13, u14, u15, u16, u17, u18, u19, u20, u21, u22, u23])).mp ((((((((((((((((((((((((h.set 0 u0).set 1 u1).set 2 u2).set 3 u3).set 4 u4).set 5 u5).set 6 u6).set 7 u7).set 8 u8).set 9 u9).set 10 u10).set 11 u11).set 12 u12).set 13 u13).set 14 u14).set 15 u15).set 16 u16).set 17 u17).set 18 u18).set 19 u19).set 20 u20).set 21 u21).set 22 u22).set 23 u23)
theorem BlkAt.ite_or {w : World} {p : Nat} {T : TypeId} {c : Prop} [Decidable c] {A B : Array Value} (h : BlkAt w p T (if c then A else B)) : BlkAt w p T A ∨ BlkAt w p T B := by
  by_cases hc : c
  · rw [if_pos hc] at h; exact .inl h
  · rw [if_neg hc] at h; exact .inr h
end Go.Proofs.YtdngcheimohamaaDoor
/- Results that lie in blocks, loaded whole. -/
namespace Go.Proofs.YtdngcheimohamaaDoor
open Go.RowKit
theorem load_blk {P : Program} {w : World} {b : Nat} {T : TypeId} {C : Array Value} {d : TypeDesc} (h : BlkAt w b T C) (hu : P.underlying T = some d) (hd : d.isRow = true) (hi : (P.info? T).map (·.size) = some C.size) :
    (loadVar T ⟨b, 0, none⟩).run P w = .ok (.agg C) w :=
  run_loadVar_mid w b 0 T C.toList d (fun j v hv => by rw [Nat.zero_add]; exact h.cell (by simpa using hv)) hu hd (by simpa using hi)
theorem results_cell1 {P : Program} {fn : Func} {tmps : Array Value} {w : World} {k : Tmp} {T : TypeId} {b : Nat} {v : Value} (hr : fn.results = #[.cell k T]) (ht : tmps.getD k undef = .pointer (some ⟨b, 0, none⟩)) (hl : (loadVar T ⟨b, 0, none⟩).run P w = .ok v w) :
    (results fn tmps).run P w = .ok v w := by
  have ht' : tmps[k]?.getD undef = .pointer (some ⟨b, 0, none⟩) := by simpa using ht
  unfold results
  rw [hr]
  generalize loadVar = ld at hl ⊢
  simp [go_sem, ht', hl]
theorem results_cell2 {P : Program} {fn : Func} {tmps : Array Value} {w : World} {k m : Tmp} {T : TypeId} {b : Nat} {v u : Value} (hr : fn.results = #[.cell k T, .tmp m]) (ht : tmps.getD k undef = .pointer (some ⟨b, 0, none⟩)) (hl : (loadVar T ⟨b, 0, none⟩).run P w = .ok v w) (hu : tmps.getD m undef = u) :
    (results fn tmps).run P w = .ok (.tuple #[v, u]) w := by
  have ht' : tmps[k]?.getD undef = .pointer (some ⟨b, 0, none⟩) := by simpa using ht
  have hu' : tmps[m]?.getD undef = u := by simpa using hu
  unfold results
  rw [hr]
  generalize loadVar = ld at hl ⊢
  simp [go_sem, ht', hl, hu']
/-! ### Whole stores and loads, the world behind them left abstract -/
theorem BlkAt.setCells {p : Nat} {T : TypeId} : ∀ (vs : List Value) (k : Nat) (w : World) (C : List Value), BlkAt w p T C.toArray → k + vs.length ≤ C.length → BlkAt (w.setCells p k vs) p T (C.take k ++ vs ++ C.drop (k + vs.length)).toArray
  | [], k, w, C, h, _ => by simpa [World.setCells] using h
  | v :: vs, k, w, C, h, hk => by
    have h1 := h.set k v
    rw [List.setIfInBounds_toArray] at h1
    have := BlkAt.setCells vs (k + 1) _ _ h1 (by simp only [List.length_set, List.length_cons] at hk ⊢; omega)
    have e : (C.set k v).take (k + 1) ++ vs ++ (C.set k v).drop (k + 1 + vs.length) = C.take k ++ (v :: vs) ++ C.drop (k + (v :: vs).length) := by
      simp only [List.length_cons] at hk ⊢
      rw [List.drop_set_of_lt (by omega), List.take_succ_eq_append_getElem (by simp only [List.length_set]; omega), List.take_set_of_le (by omega)]
      simp [show k + 1 + vs.length = k + (vs.length + 1) from by omega]
    rw [e] at this
    exact this
theorem fr_setCellsB (b : Nat) : ∀ (vs : List Value) (o : Nat) (w : World), Fr (eqB b) w (w.setCells b o vs)
  | [], _, w => Fr.refl _ w
  | v :: vs, o, w => (fr_set1 w b o v).then' (fr_setCellsB b vs (o + 1) _)
theorem BlkAt.there {w : World} {b o n : Nat} {T : TypeId} {C : Array Value} (h : BlkAt w b T C) (hn : o + n ≤ C.size) : w.there b o n := fun j hj => by
  refine ⟨?_, h.free _⟩
  rw [h.cell (v := C[o + j]'(by omega)) (Array.getElem?_eq_getElem (by omega))]; rfl
theorem BlkAt.range {w : World} {b : Nat} {T : TypeId} {C : List Value} (h : BlkAt w b T C.toArray) (o : Nat) {cs : List Value} (hc : (C.drop o).take cs.length = cs) : w.rangeAt b o cs := fun j v hv => by
  refine h.cell ?_
  rw [List.getElem?_toArray, ← List.getElem?_drop]
  have hj := (List.getElem?_eq_some_iff.1 hv).1
  rw [← hc, List.getElem?_take_of_lt hj] at hv
  exact hv
section
variable {P : Program} {op : Oper} {a : Act} {w : World} {Q : Exit → Act → World → Prop} {T TB : TypeId} {x y : Operand} {b : Nat}
/-- A struct is stored into a block, at o: D is what lies there then. -/
theorem wp_store_blk {K : Act → World → Prop} (ho : op.op = .store T x y) {C vs D : List Value} (hb : BlkAt w b TB C.toArray) (o : Nat) (hx : a.eval x = .pointer (some ⟨b, o, none⟩)) (hy : a.eval y = .agg vs.toArray)
    (hi : (P.info? T).map (·.size) = some vs.length) (h1 : vs.all (·.oneCell') = true) (ho2 : o + vs.length ≤ C.length) (hD : C.take o ++ vs ++ C.drop (o + vs.length) = D)
    (h : ∀ w', Fr (eqB b) w w' → BlkAt w' b TB D.toArray → K (a.put op.dst undef) w') : op.wp P a w K Q := by
  refine wp_store_mid T x y ho b o vs.toArray hx hy (hb.there (by simpa using ho2)) (by simpa using hi) (by simpa using h1) ?_
  refine h _ (fr_setCellsB b _ o w) ?_
  have := BlkAt.setCells vs o w C hb ho2
  rw [hD] at this
  simpa using this
theorem wpList_store_blk {ops : Array Oper} {rest : List Oper} (hgd : op.guard = none) (ho : op.op = .store T x y) {C vs D : List Value} (hb : BlkAt w b TB C.toArray) (o : Nat) (hx : a.eval x = .pointer (some ⟨b, o, none⟩)) (hy : a.eval y = .agg vs.toArray)
    (hi : (P.info? T).map (·.size) = some vs.length) (h1 : vs.all (·.oneCell') = true) (ho2 : o + vs.length ≤ C.length) (hD : C.take o ++ vs ++ C.drop (o + vs.length) = D)
    (h : ∀ w', Fr (eqB b) w w' → BlkAt w' b TB D.toArray → wpList P ops Q rest (a.put op.dst undef) w') : wpList P ops Q (op :: rest) a w :=
  wpList_plain hgd fun _ hK => wp_store_blk ho hb o hx hy hi h1 ho2 hD fun w' f hb' => hK _ _ (h w' f hb')
theorem wp_load_blk {K : Act → World → Prop} {d : TypeDesc} (ho : op.op = .load T x) {C cs : List Value} (hb : BlkAt w b TB C.toArray) (o : Nat) (hx : a.eval x = .pointer (some ⟨b, o, none⟩)) (hc : (C.drop o).take cs.length = cs)
    (hu : P.underlying T = some d) (hd : d.isRow = true) (hi : (P.info? T).map (·.size) = some cs.length) (h : K (a.put op.dst (.agg cs.toArray)) w) : op.wp P a w K Q :=
  wp_load_mid T x ho b o hx cs d (hb.range o hc) hu hd hi h
theorem wpList_load_blk {ops : Array Oper} {rest : List Oper} {d : TypeDesc} (hgd : op.guard = none) (ho : op.op = .load T x) {C cs : List Value} (hb : BlkAt w b TB C.toArray) (o : Nat) (hx : a.eval x = .pointer (some ⟨b, o, none⟩)) (hc : (C.drop o).take cs.length = cs)
    (hu : P.underlying T = some d) (hd : d.isRow = true) (hi : (P.info? T).map (·.size) = some cs.length) (h : wpList P ops Q rest (a.put op.dst (.agg cs.toArray)) w) : wpList P ops Q (op :: rest) a w :=
  wpList_plain hgd fun _ hK => wp_load_blk ho hb o hx hc hu hd hi (hK _ _ h)
end
end Go.Proofs.YtdngcheimohamaaDoor
/- client.Client: its cells; quorum.Enough, New, Number, Node, ask. -/
namespace Go.Proofs.YtdngcheimohamaaDoor
open Go.RowKit

def enoughV (n : Int) : Nat := if n = 3 then 2 else if n = 5 then 3 else if n = 7 then 4 else 0
theorem enough_calls (w : World) (n : Int) : Calls Tryd.prog 37 #[.int .i64 n] w (IntPost w (enoughV n : Nat)) := by
  by_cases h3 : n = 3
  · subst h3
    go_enter Tryd.func37, Tryd.ntmps37
    go_wp2_with fail
    go_ret
    exact ⟨rfl, Fr.refl _ _⟩
  · by_cases h5 : n = 5
    · subst h5
      clear h3
      go_enter Tryd.func37, Tryd.ntmps37
      go_wp2_with fail
      go_ret
      exact ⟨rfl, Fr.refl _ _⟩
    · by_cases h7 : n = 7
      · subst h7
        clear h3 h5
        go_enter Tryd.func37, Tryd.ntmps37
        go_wp2_with fail
        go_ret
        exact ⟨rfl, Fr.refl _ _⟩
      · have HV : Hid (enoughV n = 0) := by unfold Hid enoughV; simp [h3, h5, h7]
        have t3 : (n == 3) = false := by simpa using h3
        have t5 : (n == 5) = false := by simpa using h5
        have t7 : (n == 7) = false := by simpa using h7
        clear h3 h5 h7
        go_enter Tryd.func37, Tryd.ntmps37
        go_wp2_with fail
        go_ret
        exact ⟨by rw [HV.out]; rfl, Fr.refl _ _⟩
/-- A client's cells. -/
structure ClV where
  id : Nat
  n : Nat
  num : Nat
  op : OpV
  pend : Bool
  node : Nat
  ref : Nat
def ClV.C (c : ClV) : Array Value := #[.int .u8 c.id, .int .i64 c.n, .int .u64 c.num, .int .u8 c.op.k, .string c.op.a, .string c.op.b, .int .u8 c.op.n, .int .u8 c.op.r, .bool c.pend, .int .u8 c.node, .int .i64 c.ref]
def ClAt (w : World) (p : Nat) (c : ClV) : Prop := BlkAt w p 89 c.C
def noOp : OpV := ⟨0, ⟨#[]⟩, ⟨#[]⟩, 0, 0⟩
/-- A message that only asks. -/
def msgC (id to num : Nat) (o : OpV) : Array Value := #[.int .u8 0, .int .u8 id, .int .u8 to, .int .u64 0, .int .u64 0, .int .u64 0, .int .u64 0, .int .u64 num, .int .u64 0, .int .u8 o.k, .string o.a, .string o.b, .int .u8 o.n, .int .u8 o.r, .int .i64 0, .slice none 0 0, .int .u8 0, .slice none 0 0, .slice none 0 0]
set_option maxRecDepth 100000 in
set_option maxHeartbeats 600000 in
theorem newC_calls (w : World) (i n : Nat) (hi : i < 8) (hn : enoughV n ≠ 0) (hn0 : 0 < n) (hn8 : n < 256) : Calls Tryd.prog 9 #[.int .u8 i, .int .i64 n] w (fun e w' => ∃ p, w.heap.size ≤ p ∧ e = .returned (.pointer (some ⟨p, 0, none⟩)) ∧ ClAt w' p ⟨i, n, 0, noOp, false, i % n, 0⟩ ∧ Fr noB w w') := by
  have d1 : decide ((8 : Int) ≤ i) = false := decide_eq_false (by omega)
  have d2 : ((enoughV n : Int) == 0) = false := by simpa using hn
  have hen := fun W => enough_calls W (n : Int)
  have hw1 : IntKind.u8.wrap (n : Int) = n := by rw [IntKind.wrap_u8]; omega
  have hi0 : 0 ≤ (i : Int) := by omega
  have hn0' : 0 < (n : Int) := by omega
  obtain ⟨m, HM⟩ : ∃ m, Hid (i % n = m) := ⟨_, hid rfl⟩
  have hm : (i : Int) % n = (m : Nat) := by rw [← HM.out]; simp
  generalize enoughV n = q at *
  clear hn
  go_enter Tryd.func9, Tryd.ntmps9
  go_wp2_with fail
  refine (hen w).mono ?_
  rintro e w1 ⟨rfl, f1⟩
  go_wp2_with fail
  go_ret
  exact ⟨_, f1.size, rfl, by rw [HM.out]; exact BlkAt.new _ _ _, f1.alloc _⟩
theorem number_calls (w : World) (p : Nat) (c : ClV) (h : ClAt w p c) : Calls Tryd.prog 13 #[.pointer (some ⟨p, 0, none⟩)] w (fun e w' => e = .returned (.int .u64 c.num) ∧ w = w') := by
  obtain ⟨c0, c1, c2, c3, c4, c5, c6, c7, c8, c9, c10, cf⟩ := BlkAt.c11 h
  go_enter Tryd.func13, Tryd.ntmps13
  go_wp2_with fail
  go_ret
  exact ⟨rfl, rfl⟩
theorem node_calls (w : World) (p : Nat) (c : ClV) (h : ClAt w p c) : Calls Tryd.prog 14 #[.pointer (some ⟨p, 0, none⟩)] w (fun e w' => e = .returned (.int .u8 c.node) ∧ w = w') := by
  obtain ⟨c0, c1, c2, c3, c4, c5, c6, c7, c8, c9, c10, cf⟩ := BlkAt.c11 h
  go_enter Tryd.func14, Tryd.ntmps14
  go_wp2_with fail
  go_ret
  exact ⟨rfl, rfl⟩

set_option maxRecDepth 100000 in
set_option maxHeartbeats 600000 in
theorem ask_calls (w : World) (p : Nat) (c : ClV) (h : ClAt w p c) : Calls Tryd.prog 38 #[.pointer (some ⟨p, 0, none⟩)] w (fun e w' => e = .returned (.agg (msgC c.id c.node c.num c.op)) ∧ Fr noB w w') := by
  have hb : BlkAt (w.alloc (.cells #[.int .u8 0, .int .u8 0, .int .u8 0, .int .u64 0, .int .u64 0, .int .u64 0, .int .u64 0, .int .u64 0, .int .u64 0, .int .u8 0, .string { data := #[] }, .string { data := #[] }, .int .u8 0, .int .u8 0, .int .i64 0, .slice none 0 0, .int .u8 0, .slice none 0 0, .slice none 0 0] 36)) w.heap.size 36 #[.int .u8 0, .int .u8 0, .int .u8 0, .int .u64 0, .int .u64 0, .int .u64 0, .int .u64 0, .int .u64 0, .int .u64 0, .int .u8 0, .string { data := #[] }, .string { data := #[] }, .int .u8 0, .int .u8 0, .int .i64 0, .slice none 0 0, .int .u8 0, .slice none 0 0, .slice none 0 0] := BlkAt.new _ _ _
  have f0 : Fr noB w (w.alloc (.cells #[.int .u8 0, .int .u8 0, .int .u8 0, .int .u64 0, .int .u64 0, .int .u64 0, .int .u64 0, .int .u64 0, .int .u64 0, .int .u8 0, .string { data := #[] }, .string { data := #[] }, .int .u8 0, .int .u8 0, .int .i64 0, .slice none 0 0, .int .u8 0, .slice none 0 0, .slice none 0 0] 36)) := (Fr.refl noB w).alloc _
  have h0 : BlkAt (w.alloc (.cells #[.int .u8 0, .int .u8 0, .int .u8 0, .int .u64 0, .int .u64 0, .int .u64 0, .int .u64 0, .int .u64 0, .int .u64 0, .int .u8 0, .string { data := #[] }, .string { data := #[] }, .int .u8 0, .int .u8 0, .int .i64 0, .slice none 0 0, .int .u8 0, .slice none 0 0, .slice none 0 0] 36)) p 89 #[.int .u8 c.id, .int .i64 c.n, .int .u64 c.num, .int .u8 c.op.k, .string c.op.a, .string c.op.b, .int .u8 c.op.n, .int .u8 c.op.r, .bool c.pend, .int .u8 c.node, .int .i64 c.ref] := BlkAt.al h _
  have hlt : p < w.heap.size := BlkAt.lt h
  have hres : Hid (Tryd.f38.results = #[.cell 2 36]) := by unfold Hid; kernel_rfl
  clear h
  go_enter Tryd.func38, Tryd.ntmps38
  go_upto_region 1 with fail
  generalize (w.alloc (.cells #[.int .u8 0, .int .u8 0, .int .u8 0, .int .u64 0, .int .u64 0, .int .u64 0, .int .u64 0, .int .u64 0, .int .u64 0, .int .u8 0, .string { data := #[] }, .string { data := #[] }, .int .u8 0, .int .u8 0, .int .i64 0, .slice none 0 0, .int .u8 0, .slice none 0 0, .slice none 0 0] 36)) = wa at *
  obtain ⟨qb, hq⟩ : ∃ qb, w.heap.size = qb := ⟨_, rfl⟩
  rw [hq] at hb hlt ⊢
  apply wp_region_calm (R := Fr (eqB (qb))) (C := fun q W => Fr (eqB (qb)) wa W ∧ BlkAt W (p) 89 #[.int .u8 c.id, .int .i64 c.n, .int .u64 c.num, .int .u8 c.op.k, .string c.op.a, .string c.op.b, .int .u8 c.op.n, .int .u8 c.op.r, .bool c.pend, .int .u8 c.node, .int .i64 c.ref] ∧ BlkAt W (qb) 36 (if q = 0 then #[.int .u8 0, .int .u8 0, .int .u8 0, .int .u64 0, .int .u64 0, .int .u64 0, .int .u64 0, .int .u64 0, .int .u64 0, .int .u8 0, .string { data := #[] }, .string { data := #[] }, .int .u8 0, .int .u8 0, .int .i64 0, .slice none 0 0, .int .u8 0, .slice none 0 0, .slice none 0 0] else #[.int .u8 0, .int .u8 c.id, .int .u8 c.node, .int .u64 0, .int .u64 0, .int .u64 0, .int .u64 0, .int .u64 c.num, .int .u64 0, .int .u8 c.op.k, .string c.op.a, .string c.op.b, .int .u8 c.op.n, .int .u8 c.op.r, .int .i64 0, .slice none 0 0, .int .u8 0, .slice none 0 0, .slice none 0 0])) [false, false, false, false, false, false, false, false, false, false, false, false, false, false, false, false, false, true]
    [eqv _, eqv _, eqv _, eqv _, eqv _, eqv _, eqv _, eqv _, eqv _, eqv _, eqv _, eqv _, eqv _, eqv _, eqv _, eqv _, eqv _, anyv]
    (by kernel_rfl) (by kernel_rfl) (fun _ _ _ h1 h2 => h1.then' h2) ((Fr.refl _ _).drew) ⟨(Fr.refl _ _).drew, h0, hb⟩ (by kernel_rfl)
  · refine ⟨?_, ?_, ?_, ?_, ?_, ?_, ?_, ?_, ?_, ?_, ?_, ?_, ?_, ?_, ?_, ?_, ?_, ?_, trivial⟩
    · rw [if_neg (by decide)]; intro kq
      exact calm_mv 0 rfl rfl (Or.inl rfl) (Fr.refl _) (by decide) fun v w hd => hd
    · rw [if_neg (by decide)]; intro kq
      intro a W K hC hd hK
      have d3 : _ = _ := hd 3 (by decide)
      refine wpOp_plain rfl rfl ?_
      go_wp2_with fail
      exact hK _ _ (Fr.refl _ _) hC rfl
    · rw [if_neg (by decide)]; intro kq
      intro a W K hC hd hK
      have d4 : _ = _ := hd 4 (by decide)
      refine wpOp_plain rfl rfl ?_
      obtain ⟨x0_0, x0_1, x0_2, x0_3, x0_4, x0_5, x0_6, x0_7, x0_8, x0_9, x0_10, z0⟩ := BlkAt.c11 (hC.2.1)
      go_wp2_with fail
      exact hK _ _ (Fr.refl _ _) hC rfl
    · rw [if_neg (by decide)]; intro kq
      intro a W K hC hd hK
      have d5 : _ = _ := hd 5 (by decide)
      refine wpOp_plain rfl rfl ?_
      obtain ⟨x0_0, x0_1, x0_2, x0_3, x0_4, x0_5, x0_6, x0_7, x0_8, x0_9, x0_10, z0⟩ := BlkAt.c11 (hC.2.1)
      go_wp2_with fail
      exact hK _ _ (Fr.refl _ _) hC rfl
    · rw [if_neg (by decide)]; intro kq
      exact calm_mv 0 rfl rfl (Or.inl rfl) (Fr.refl _) (by decide) fun v w hd => hd
    · rw [if_neg (by decide)]; intro kq
      intro a W K hC hd hK
      have d7 : _ = _ := hd 7 (by decide)
      refine wpOp_plain rfl rfl ?_
      go_wp2_with fail
      exact hK _ _ (Fr.refl _ _) hC rfl
    · rw [if_neg (by decide)]; intro kq
      intro a W K hC hd hK
      have d8 : _ = _ := hd 8 (by decide)
      refine wpOp_plain rfl rfl ?_
      obtain ⟨x0_0, x0_1, x0_2, x0_3, x0_4, x0_5, x0_6, x0_7, x0_8, x0_9, x0_10, z0⟩ := BlkAt.c11 (hC.2.1)
      go_wp2_with fail
      exact hK _ _ (Fr.refl _ _) hC rfl
    · rw [if_neg (by decide)]; intro kq
      intro a W K hC hd hK
      have d9 : _ = _ := hd 9 (by decide)
      refine wpOp_plain rfl rfl ?_
      obtain ⟨x0_0, x0_1, x0_2, x0_3, x0_4, x0_5, x0_6, x0_7, x0_8, x0_9, x0_10, z0⟩ := BlkAt.c11 (hC.2.1)
      go_wp2_with fail
      exact hK _ _ (Fr.refl _ _) hC rfl
    · rw [if_neg (by decide)]; intro kq
      exact calm_mv 0 rfl rfl (Or.inl rfl) (Fr.refl _) (by decide) fun v w hd => hd
    · rw [if_neg (by decide)]; intro kq
      intro a W K hC hd hK
      have d11 : _ = _ := hd 11 (by decide)
      refine wpOp_plain rfl rfl ?_
      go_wp2_with fail
      exact hK _ _ (Fr.refl _ _) hC rfl
    · rw [if_neg (by decide)]; intro kq
      intro a W K hC hd hK
      have d12 : _ = _ := hd 12 (by decide)
      refine wpOp_plain rfl rfl ?_
      obtain ⟨x0_0, x0_1, x0_2, x0_3, x0_4, x0_5, x0_6, x0_7, x0_8, x0_9, x0_10, z0⟩ := BlkAt.c11 (hC.2.1)
      go_wp2_with fail
      exact hK _ _ (Fr.refl _ _) hC rfl
    · rw [if_neg (by decide)]; intro kq
      intro a W K hC hd hK
      have d13 : _ = _ := hd 13 (by decide)
      refine wpOp_plain rfl rfl ?_
      obtain ⟨x0_0, x0_1, x0_2, x0_3, x0_4, x0_5, x0_6, x0_7, x0_8, x0_9, x0_10, z0⟩ := BlkAt.c11 (hC.2.1)
      go_wp2_with fail
      exact hK _ _ (Fr.refl _ _) hC rfl
    · rw [if_neg (by decide)]; intro kq
      exact calm_mv 0 rfl rfl (Or.inl rfl) (Fr.refl _) (by decide) fun v w hd => hd
    · rw [if_neg (by decide)]; intro kq
      intro a W K hC hd hK
      have d15 : _ = _ := hd 15 (by decide)
      refine wpOp_plain rfl rfl ?_
      go_wp2_with fail
      exact hK _ _ (Fr.refl _ _) hC rfl
    · rw [if_neg (by decide)]; intro kq
      intro a W K hC hd hK
      have d16 : _ = _ := hd 16 (by decide)
      refine wpOp_plain rfl rfl ?_
      obtain ⟨x0_0, x0_1, x0_2, x0_3, x0_4, x0_5, x0_6, x0_7, x0_8, x0_9, x0_10, z0⟩ := BlkAt.c11 (hC.2.1)
      go_wp2_with fail
      exact hK _ _ (Fr.refl _ _) hC rfl
    · rw [if_neg (by decide)]; intro kq
      intro a W K hC hd hK
      have d17 : _ = _ := hd 17 (by decide)
      refine wpOp_plain rfl rfl ?_
      obtain ⟨x0_0, x0_1, x0_2, x0_3, x0_4, x0_5, x0_6, x0_7, x0_8, x0_9, x0_10, z0⟩ := BlkAt.c11 (hC.2.1)
      go_wp2_with fail
      exact hK _ _ (Fr.refl _ _) hC rfl
    · rw [if_neg (by decide)]; intro kq
      intro a W K hC hd hK
      have d6 : _ = _ := hd 6 (by decide)
      have d10 : _ = _ := hd 10 (by decide)
      have d14 : _ = _ := hd 14 (by decide)
      have d18 : _ = _ := hd 18 (by decide)
      refine wpOp_plain rfl rfl ?_
      go_wp2_with fail
      exact hK _ _ (Fr.refl _ _) hC rfl
    · rw [if_pos (by decide)]
      intro a W K hC hd hK
      replace hC : (fun q W => Fr (eqB (qb)) wa W ∧ BlkAt W (p) 89 #[.int .u8 c.id, .int .i64 c.n, .int .u64 c.num, .int .u8 c.op.k, .string c.op.a, .string c.op.b, .int .u8 c.op.n, .int .u8 c.op.r, .bool c.pend, .int .u8 c.node, .int .i64 c.ref] ∧ BlkAt W (qb) 36 (if q = 0 then #[.int .u8 0, .int .u8 0, .int .u8 0, .int .u64 0, .int .u64 0, .int .u64 0, .int .u64 0, .int .u64 0, .int .u64 0, .int .u8 0, .string { data := #[] }, .string { data := #[] }, .int .u8 0, .int .u8 0, .int .i64 0, .slice none 0 0, .int .u8 0, .slice none 0 0, .slice none 0 0] else #[.int .u8 0, .int .u8 c.id, .int .u8 c.node, .int .u64 0, .int .u64 0, .int .u64 0, .int .u64 0, .int .u64 c.num, .int .u64 0, .int .u8 c.op.k, .string c.op.a, .string c.op.b, .int .u8 c.op.n, .int .u8 c.op.r, .int .i64 0, .slice none 0 0, .int .u8 0, .slice none 0 0, .slice none 0 0])) 0 W := hC
      have d2 : a.tmps[2]?.getD undef = .pointer (some ⟨qb, 0, none⟩) := hd 2 (by decide)
      have d19 : _ = _ := hd 19 (by decide)
      refine wpOp_plain rfl rfl ?_
      obtain ⟨x0_0, x0_1, x0_2, x0_3, x0_4, x0_5, x0_6, x0_7, x0_8, x0_9, x0_10, z0⟩ := BlkAt.c11 (hC.2.1)
      have hz0 : BlkAt W (qb) 36 #[.int .u8 0, .int .u8 0, .int .u8 0, .int .u64 0, .int .u64 0, .int .u64 0, .int .u64 0, .int .u64 0, .int .u64 0, .int .u8 0, .string { data := #[] }, .string { data := #[] }, .int .u8 0, .int .u8 0, .int .i64 0, .slice none 0 0, .int .u8 0, .slice none 0 0, .slice none 0 0] := hC.2.2
      obtain ⟨b0_0, b0_1, b0_2, b0_3, b0_4, b0_5, b0_6, b0_7, b0_8, b0_9, b0_10, b0_11, b0_12, b0_13, b0_14, b0_15, b0_16, b0_17, b0_18, zz0⟩ := BlkAt.c19 hz0
      refine wp_store_blk (P := Tryd.prog) (vs := [.int .u8 0, .int .u8 c.id, .int .u8 c.node, .int .u64 0, .int .u64 0, .int .u64 0, .int .u64 0, .int .u64 c.num, .int .u64 0, .int .u8 c.op.k, .string c.op.a, .string c.op.b, .int .u8 c.op.n, .int .u8 c.op.r, .int .i64 0, .slice none 0 0, .int .u8 0, .slice none 0 0, .slice none 0 0]) (D := [.int .u8 0, .int .u8 c.id, .int .u8 c.node, .int .u64 0, .int .u64 0, .int .u64 0, .int .u64 0, .int .u64 c.num, .int .u64 0, .int .u8 c.op.k, .string c.op.a, .string c.op.b, .int .u8 c.op.n, .int .u8 c.op.r, .int .i64 0, .slice none 0 0, .int .u8 0, .slice none 0 0, .slice none 0 0]) rfl hz0 0 (by rw [eval_get]; exact d2) (by rw [eval_get]; exact d19) (by kernel_rfl) (by kernel_rfl) (by simp) rfl ?_
      intro W9 fs0 hn0
      have fs : Fr (eqB (qb)) W W9 := fs0
      exact hK undef _ fs ⟨hC.1.then' fs, (hC.2.1).fr fs (by unfold eqB; omega), hn0⟩ trivial
  · intro vs w1 fw1 cw1 hV
    have v3 : vs 0 = _ := hV 0 _ _ rfl rfl (by decide)
    have v4 : vs 1 = _ := hV 1 _ _ rfl rfl (by decide)
    have v5 : vs 2 = _ := hV 2 _ _ rfl rfl (by decide)
    have v6 : vs 3 = _ := hV 3 _ _ rfl rfl (by decide)
    have v7 : vs 4 = _ := hV 4 _ _ rfl rfl (by decide)
    have v8 : vs 5 = _ := hV 5 _ _ rfl rfl (by decide)
    have v9 : vs 6 = _ := hV 6 _ _ rfl rfl (by decide)
    have v10 : vs 7 = _ := hV 7 _ _ rfl rfl (by decide)
    have v11 : vs 8 = _ := hV 8 _ _ rfl rfl (by decide)
    have v12 : vs 9 = _ := hV 9 _ _ rfl rfl (by decide)
    have v13 : vs 10 = _ := hV 10 _ _ rfl rfl (by decide)
    have v14 : vs 11 = _ := hV 11 _ _ rfl rfl (by decide)
    have v15 : vs 12 = _ := hV 12 _ _ rfl rfl (by decide)
    have v16 : vs 13 = _ := hV 13 _ _ rfl rfl (by decide)
    have v17 : vs 14 = _ := hV 14 _ _ rfl rfl (by decide)
    have v18 : vs 15 = _ := hV 15 _ _ rfl rfl (by decide)
    have v19 : vs 16 = _ := hV 16 _ _ rfl rfl (by decide)
    clear hV
    replace h0 : BlkAt w1 (p) 89 #[.int .u8 c.id, .int .i64 c.n, .int .u64 c.num, .int .u8 c.op.k, .string c.op.a, .string c.op.b, .int .u8 c.op.n, .int .u8 c.op.r, .bool c.pend, .int .u8 c.node, .int .i64 c.ref] := cw1.2.1
    replace hb : BlkAt w1 (qb) 36 #[.int .u8 0, .int .u8 c.id, .int .u8 c.node, .int .u64 0, .int .u64 0, .int .u64 0, .int .u64 0, .int .u64 c.num, .int .u64 0, .int .u8 c.op.k, .string c.op.a, .string c.op.b, .int .u8 c.op.n, .int .u8 c.op.r, .int .i64 0, .slice none 0 0, .int .u8 0, .slice none 0 0, .slice none 0 0] := cw1.2.2
    clear cw1
    simp only [putL, Act.put, Nat.reduceAdd, List.setIfInBounds_toArray, List.set_cons_zero, List.set_cons_succ, v3, v4, v5, v6, v7, v8, v9, v10, v11, v12, v13, v14, v15, v16, v17, v18, v19]
    go_wp2_with fail
    exact bodyPost_ret (v := .agg (msgC c.id c.node c.num c.op)) (results_cell1 hres.out rfl (load_blk hb Tryd.underlying36 rfl (by kernel_rfl))) rfl ⟨rfl, f0.trans fw1 (fun i hi h => by unfold eqB at h; omega)⟩
end Go.Proofs.YtdngcheimohamaaDoor
/- client.Client: Call, Again. -/
namespace Go.Proofs.YtdngcheimohamaaDoor
open Go.RowKit
def nextN (c : ClV) : Nat := ((c.node + 1) % 256) % c.n
def ClV.turn (c : ClV) : ClV := { c with node := nextN c }
/-- Again's answer: a message that asks, or none. -/
def againM (c : ClV) : Array Value := if c.pend then msgC c.id (nextN c) c.num c.op else msgC 0 0 0 noOp
def againC (c : ClV) : ClV := if c.pend then c.turn else c
set_option maxRecDepth 100000 in
set_option maxHeartbeats 600000 in
theorem againNo_calls (w : World) (p : Nat) (c : ClV) (h : ClAt w p c) (hp : c.pend = false) : Calls Tryd.prog 11 #[.pointer (some ⟨p, 0, none⟩)] w (fun e w' => e = .returned (.tuple #[.agg (msgC 0 0 0 noOp), .bool false]) ∧ Fr noB w w') := by
  have hb : BlkAt (w.alloc (.cells #[.int .u8 0, .int .u8 0, .int .u8 0, .int .u64 0, .int .u64 0, .int .u64 0, .int .u64 0, .int .u64 0, .int .u64 0, .int .u8 0, .string { data := #[] }, .string { data := #[] }, .int .u8 0, .int .u8 0, .int .i64 0, .slice none 0 0, .int .u8 0, .slice none 0 0, .slice none 0 0] 36)) w.heap.size 36 #[.int .u8 0, .int .u8 0, .int .u8 0, .int .u64 0, .int .u64 0, .int .u64 0, .int .u64 0, .int .u64 0, .int .u64 0, .int .u8 0, .string { data := #[] }, .string { data := #[] }, .int .u8 0, .int .u8 0, .int .i64 0, .slice none 0 0, .int .u8 0, .slice none 0 0, .slice none 0 0] := BlkAt.new _ _ _
  have f0 : Fr noB w (w.alloc (.cells #[.int .u8 0, .int .u8 0, .int .u8 0, .int .u64 0, .int .u64 0, .int .u64 0, .int .u64 0, .int .u64 0, .int .u64 0, .int .u8 0, .string { data := #[] }, .string { data := #[] }, .int .u8 0, .int .u8 0, .int .i64 0, .slice none 0 0, .int .u8 0, .slice none 0 0, .slice none 0 0] 36)) := (Fr.refl noB w).alloc _
  have h0 : BlkAt (w.alloc (.cells #[.int .u8 0, .int .u8 0, .int .u8 0, .int .u64 0, .int .u64 0, .int .u64 0, .int .u64 0, .int .u64 0, .int .u64 0, .int .u8 0, .string { data := #[] }, .string { data := #[] }, .int .u8 0, .int .u8 0, .int .i64 0, .slice none 0 0, .int .u8 0, .slice none 0 0, .slice none 0 0] 36)) p 89 #[.int .u8 c.id, .int .i64 c.n, .int .u64 c.num, .int .u8 c.op.k, .string c.op.a, .string c.op.b, .int .u8 c.op.n, .int .u8 c.op.r, .bool c.pend, .int .u8 c.node, .int .i64 c.ref] := BlkAt.al h _
  rw [hp] at h0
  have hlt : p < w.heap.size := BlkAt.lt h
  have hres : Hid (Tryd.f11.results = #[.cell 2 36, .tmp 3]) := by unfold Hid; kernel_rfl
  clear h hp
  obtain ⟨x0, x1, x2, x3, x4, x5, x6, x7, x8, x9, x10, xf⟩ := BlkAt.c11 h0
  go_enter Tryd.func11, Tryd.ntmps11
  go_upto_region 1 with fail
  generalize (w.alloc (.cells #[.int .u8 0, .int .u8 0, .int .u8 0, .int .u64 0, .int .u64 0, .int .u64 0, .int .u64 0, .int .u64 0, .int .u64 0, .int .u8 0, .string { data := #[] }, .string { data := #[] }, .int .u8 0, .int .u8 0, .int .i64 0, .slice none 0 0, .int .u8 0, .slice none 0 0, .slice none 0 0] 36)) = wa at *
  obtain ⟨qb, hq⟩ : ∃ qb, w.heap.size = qb := ⟨_, rfl⟩
  rw [hq] at hb hlt ⊢
  go_wp2_with (refine wpList_store_blk (P := Tryd.prog) (vs := [.int .u8 0, .int .u8 0, .int .u8 0, .int .u64 0, .int .u64 0, .int .u64 0, .int .u64 0, .int .u64 0, .int .u64 0, .int .u8 0, .string { data := #[] }, .string { data := #[] }, .int .u8 0, .int .u8 0, .int .i64 0, .slice none 0 0, .int .u8 0, .slice none 0 0, .slice none 0 0]) (D := [.int .u8 0, .int .u8 0, .int .u8 0, .int .u64 0, .int .u64 0, .int .u64 0, .int .u64 0, .int .u64 0, .int .u64 0, .int .u8 0, .string { data := #[] }, .string { data := #[] }, .int .u8 0, .int .u8 0, .int .i64 0, .slice none 0 0, .int .u8 0, .slice none 0 0, .slice none 0 0]) rfl rfl hb 0 rfl rfl (by kernel_rfl) (by kernel_rfl) (by simp) rfl ?_; intro w1 fw1 hb1)
  exact bodyPost_ret (v := .tuple #[.agg (msgC 0 0 0 noOp), .bool false]) (results_cell2 hres.out rfl (load_blk hb1 Tryd.underlying36 rfl (by kernel_rfl)) rfl) rfl ⟨rfl, f0.trans fw1 (fun i hi h => by unfold eqB at h; omega)⟩
set_option maxRecDepth 100000 in
set_option maxHeartbeats 600000 in
theorem againYes_calls (w : World) (p : Nat) (c : ClV) (h : ClAt w p c) (hp : c.pend = true) (hn : 0 < c.n) (hn8 : c.n < 256) : Calls Tryd.prog 11 #[.pointer (some ⟨p, 0, none⟩)] w (fun e w' => e = .returned (.tuple #[.agg (msgC c.id (nextN c) c.num c.op), .bool true]) ∧ ClAt w' p c.turn ∧ Fr (eqB p) w w') := by
  have hb : BlkAt (w.alloc (.cells #[.int .u8 0, .int .u8 0, .int .u8 0, .int .u64 0, .int .u64 0, .int .u64 0, .int .u64 0, .int .u64 0, .int .u64 0, .int .u8 0, .string { data := #[] }, .string { data := #[] }, .int .u8 0, .int .u8 0, .int .i64 0, .slice none 0 0, .int .u8 0, .slice none 0 0, .slice none 0 0] 36)) w.heap.size 36 #[.int .u8 0, .int .u8 0, .int .u8 0, .int .u64 0, .int .u64 0, .int .u64 0, .int .u64 0, .int .u64 0, .int .u64 0, .int .u8 0, .string { data := #[] }, .string { data := #[] }, .int .u8 0, .int .u8 0, .int .i64 0, .slice none 0 0, .int .u8 0, .slice none 0 0, .slice none 0 0] := BlkAt.new _ _ _
  have f0 : Fr noB w (w.alloc (.cells #[.int .u8 0, .int .u8 0, .int .u8 0, .int .u64 0, .int .u64 0, .int .u64 0, .int .u64 0, .int .u64 0, .int .u64 0, .int .u8 0, .string { data := #[] }, .string { data := #[] }, .int .u8 0, .int .u8 0, .int .i64 0, .slice none 0 0, .int .u8 0, .slice none 0 0, .slice none 0 0] 36)) := (Fr.refl noB w).alloc _
  have h0 : BlkAt (w.alloc (.cells #[.int .u8 0, .int .u8 0, .int .u8 0, .int .u64 0, .int .u64 0, .int .u64 0, .int .u64 0, .int .u64 0, .int .u64 0, .int .u8 0, .string { data := #[] }, .string { data := #[] }, .int .u8 0, .int .u8 0, .int .i64 0, .slice none 0 0, .int .u8 0, .slice none 0 0, .slice none 0 0] 36)) p 89 #[.int .u8 c.id, .int .i64 c.n, .int .u64 c.num, .int .u8 c.op.k, .string c.op.a, .string c.op.b, .int .u8 c.op.n, .int .u8 c.op.r, .bool c.pend, .int .u8 c.node, .int .i64 c.ref] := BlkAt.al h _
  rw [hp] at h0
  have hlt : p < w.heap.size := BlkAt.lt h
  have hres : Hid (Tryd.f11.results = #[.cell 2 36, .tmp 3]) := by unfold Hid; kernel_rfl
  have HP := hid hp
  clear h hp
  obtain ⟨x0, x1, x2, x3, x4, x5, x6, x7, x8, x9, x10, xf⟩ := BlkAt.c11 h0
  obtain ⟨m, HM⟩ : ∃ m, Hid (nextN c = m) := ⟨_, hid rfl⟩
  have hw1 : IntKind.u8.wrap ((c.node : Int) + 1) = ((c.node + 1) % 256 : Nat) := by rw [IntKind.wrap_u8]; omega
  have hw2 : IntKind.u8.wrap (c.n : Int) = c.n := by rw [IntKind.wrap_u8]; omega
  have hm : (((c.node + 1) % 256 : Nat) : Int) % (c.n : Int) = (m : Nat) := by rw [← HM.out]; simp [nextN]
  have hc' : ∀ W, ClAt W p { c with node := m } → ClAt W p c.turn := fun W h => by rw [← HM.out] at h; exact h
  have hak := fun W h => ask_calls W p { c with node := m } h
  rw [HM.out]
  have hn' : 0 < (c.n : Int) := by omega
  generalize (c.node + 1) % 256 = r at *
  go_enter Tryd.func11, Tryd.ntmps11
  go_upto_region 1 with fail
  generalize (w.alloc (.cells #[.int .u8 0, .int .u8 0, .int .u8 0, .int .u64 0, .int .u64 0, .int .u64 0, .int .u64 0, .int .u64 0, .int .u64 0, .int .u8 0, .string { data := #[] }, .string { data := #[] }, .int .u8 0, .int .u8 0, .int .i64 0, .slice none 0 0, .int .u8 0, .slice none 0 0, .slice none 0 0] 36)) = wa at *
  obtain ⟨qb, hq⟩ : ∃ qb, w.heap.size = qb := ⟨_, rfl⟩
  rw [hq] at hb hlt ⊢
  go_upto_region 3 with fail
  clear x0 x1 x2 x3 x4 x5 x6 x7 x8 x9 x10 xf
  apply wp_region_calm (R := Fr (eqB (p))) (C := fun q W => Fr (eqB (p)) wa W ∧ BlkAt W (p) 89 (if q = 0 then #[.int .u8 c.id, .int .i64 c.n, .int .u64 c.num, .int .u8 c.op.k, .string c.op.a, .string c.op.b, .int .u8 c.op.n, .int .u8 c.op.r, .bool true, .int .u8 c.node, .int .i64 c.ref] else if q = 1 then #[.int .u8 c.id, .int .i64 c.n, .int .u64 c.num, .int .u8 c.op.k, .string c.op.a, .string c.op.b, .int .u8 c.op.n, .int .u8 c.op.r, .bool true, .int .u8 c.node, .int .i64 c.ref] else #[.int .u8 c.id, .int .i64 c.n, .int .u64 c.num, .int .u8 c.op.k, .string c.op.a, .string c.op.b, .int .u8 c.op.n, .int .u8 c.op.r, .bool true, .int .u8 m, .int .i64 c.ref])) [false, false, false, false, true, false, false, false, false, false, false, false, false, false, true]
    [eqv _, eqv _, eqv _, eqv _, eqv _, eqv _, eqv _, eqv _, eqv _, eqv _, eqv _, eqv _, eqv _, eqv _, anyv]
    (by kernel_rfl) (by kernel_rfl) (fun _ _ _ h1 h2 => h1.then' h2) ((Fr.refl _ _).drew) ⟨(Fr.refl _ _).drew, h0⟩ (by kernel_rfl)
  · refine ⟨?_, ?_, ?_, ?_, ?_, ?_, ?_, ?_, ?_, ?_, ?_, ?_, ?_, ?_, ?_, trivial⟩
    · rw [if_neg (by decide)]; intro kq
      exact calm_mv 0 rfl rfl (Or.inl rfl) (Fr.refl _) (by decide) fun v w hd => hd
    · rw [if_neg (by decide)]; intro kq
      exact calm_mv 0 rfl rfl (Or.inl rfl) (Fr.refl _) (by decide) fun v w hd => hd
    · rw [if_neg (by decide)]; intro kq
      intro a W K hC hd hK
      have d11 : _ = _ := hd 11 (by decide)
      refine wpOp_plain rfl rfl ?_
      go_wp2_with fail
      exact hK _ _ (Fr.refl _ _) hC rfl
    · rw [if_neg (by decide)]; intro kq
      intro a W K hC hd hK
      have d12 : _ = _ := hd 12 (by decide)
      refine wpOp_plain rfl rfl ?_
      have u0_1 : W.cell? ⟨p, 1, none⟩ = some (.int .i64 c.n) := by (have h9 := hC.2); repeat' (first | exact h9.cell rfl | (rcases BlkAt.ite_or h9 with h9 | h9))
      go_wp2_with fail
      exact hK _ _ (Fr.refl _ _) hC rfl
    · rw [if_pos (by decide)]
      intro a W K hC hd hK
      replace hC : (fun q W => Fr (eqB (p)) wa W ∧ BlkAt W (p) 89 (if q = 0 then #[.int .u8 c.id, .int .i64 c.n, .int .u64 c.num, .int .u8 c.op.k, .string c.op.a, .string c.op.b, .int .u8 c.op.n, .int .u8 c.op.r, .bool true, .int .u8 c.node, .int .i64 c.ref] else if q = 1 then #[.int .u8 c.id, .int .i64 c.n, .int .u64 c.num, .int .u8 c.op.k, .string c.op.a, .string c.op.b, .int .u8 c.op.n, .int .u8 c.op.r, .bool true, .int .u8 c.node, .int .i64 c.ref] else #[.int .u8 c.id, .int .i64 c.n, .int .u64 c.num, .int .u8 c.op.k, .string c.op.a, .string c.op.b, .int .u8 c.op.n, .int .u8 c.op.r, .bool true, .int .u8 m, .int .i64 c.ref])) 0 W := hC
      have d13 : _ = _ := hd 13 (by decide)
      refine wpOp_plain rfl rfl ?_
      have u0_1 : W.cell? ⟨p, 1, none⟩ = some (.int .i64 c.n) := by (have h9 := hC.2); repeat' (first | exact h9.cell rfl | (rcases BlkAt.ite_or h9 with h9 | h9))
      have hz0 : BlkAt W (p) 89 #[.int .u8 c.id, .int .i64 c.n, .int .u64 c.num, .int .u8 c.op.k, .string c.op.a, .string c.op.b, .int .u8 c.op.n, .int .u8 c.op.r, .bool true, .int .u8 c.node, .int .i64 c.ref] := hC.2
      obtain ⟨b0_0, b0_1, b0_2, b0_3, b0_4, b0_5, b0_6, b0_7, b0_8, b0_9, b0_10, zz0⟩ := BlkAt.c11 hz0
      have fs : Fr (eqB (p)) W W := (Fr.refl (eqB (p)) W)
      have hn0 : BlkAt W (p) 89 #[.int .u8 c.id, .int .i64 c.n, .int .u64 c.num, .int .u8 c.op.k, .string c.op.a, .string c.op.b, .int .u8 c.op.n, .int .u8 c.op.r, .bool true, .int .u8 c.node, .int .i64 c.ref] := hz0
      go_wp2_with fail
      exact hK _ _ (Fr.refl _ _) ⟨hC.1, hn0⟩ rfl
    · rw [if_neg (by decide)]; intro kq
      intro a W K hC hd hK
      have d14 : _ = _ := hd 14 (by decide)
      refine wpOp_plain rfl rfl ?_
      go_wp2_with fail
      exact hK _ _ (Fr.refl _ _) hC rfl
    · rw [if_neg (by decide)]; intro kq
      exact calm_mv 0 rfl rfl (Or.inl rfl) (Fr.refl _) (by decide) fun v w hd => hd
    · rw [if_neg (by decide)]; intro kq
      intro a W K hC hd hK
      have d16 : _ = _ := hd 16 (by decide)
      refine wpOp_plain rfl rfl ?_
      go_wp2_with fail
      exact hK _ _ (Fr.refl _ _) hC rfl
    · rw [if_neg (by decide)]; intro kq
      intro a W K hC hd hK
      have d17 : _ = _ := hd 17 (by decide)
      refine wpOp_plain rfl rfl ?_
      have u0_1 : W.cell? ⟨p, 1, none⟩ = some (.int .i64 c.n) := by (have h9 := hC.2); repeat' (first | exact h9.cell rfl | (rcases BlkAt.ite_or h9 with h9 | h9))
      go_wp2_with fail
      exact hK _ _ (Fr.refl _ _) hC rfl
    · rw [if_neg (by decide)]; intro kq
      intro a W K hC hd hK
      have d18 : _ = _ := hd 18 (by decide)
      refine wpOp_plain rfl rfl ?_
      have u0_1 : W.cell? ⟨p, 1, none⟩ = some (.int .i64 c.n) := by (have h9 := hC.2); repeat' (first | exact h9.cell rfl | (rcases BlkAt.ite_or h9 with h9 | h9))
      go_wp2_with fail
      exact hK _ _ (Fr.refl _ _) hC rfl
    · rw [if_neg (by decide)]; intro kq
      intro a W K hC hd hK
      have d19 : _ = _ := hd 19 (by decide)
      refine wpOp_plain rfl rfl ?_
      go_wp2_with fail
      exact hK _ _ (Fr.refl _ _) hC rfl
    · rw [if_neg (by decide)]; intro kq
      intro a W K hC hd hK
      have d15 : _ = _ := hd 15 (by decide)
      have d20 : _ = _ := hd 20 (by decide)
      refine wpOp_plain rfl rfl ?_
      go_wp2_with fail
      exact hK _ _ (Fr.refl _ _) hC rfl
    · rw [if_neg (by decide)]; intro kq
      intro a W K hC hd hK
      have d10 : _ = _ := hd 10 (by decide)
      refine wpOp_plain rfl rfl ?_
      go_wp2_with fail
      exact hK _ _ (Fr.refl _ _) hC rfl
    · rw [if_neg (by decide)]; intro kq
      intro a W K hC hd hK
      have d22 : _ = _ := hd 22 (by decide)
      refine wpOp_plain rfl rfl ?_
      have u0_1 : W.cell? ⟨p, 1, none⟩ = some (.int .i64 c.n) := by (have h9 := hC.2); repeat' (first | exact h9.cell rfl | (rcases BlkAt.ite_or h9 with h9 | h9))
      go_wp2_with fail
      exact hK _ _ (Fr.refl _ _) hC rfl
    · rw [if_pos (by decide)]
      intro a W K hC hd hK
      replace hC : (fun q W => Fr (eqB (p)) wa W ∧ BlkAt W (p) 89 (if q = 0 then #[.int .u8 c.id, .int .i64 c.n, .int .u64 c.num, .int .u8 c.op.k, .string c.op.a, .string c.op.b, .int .u8 c.op.n, .int .u8 c.op.r, .bool true, .int .u8 c.node, .int .i64 c.ref] else if q = 1 then #[.int .u8 c.id, .int .i64 c.n, .int .u64 c.num, .int .u8 c.op.k, .string c.op.a, .string c.op.b, .int .u8 c.op.n, .int .u8 c.op.r, .bool true, .int .u8 c.node, .int .i64 c.ref] else #[.int .u8 c.id, .int .i64 c.n, .int .u64 c.num, .int .u8 c.op.k, .string c.op.a, .string c.op.b, .int .u8 c.op.n, .int .u8 c.op.r, .bool true, .int .u8 m, .int .i64 c.ref])) 1 W := hC
      have d23 : _ = _ := hd 23 (by decide)
      have d21 : _ = _ := hd 21 (by decide)
      refine wpOp_plain rfl rfl ?_
      have u0_1 : W.cell? ⟨p, 1, none⟩ = some (.int .i64 c.n) := by (have h9 := hC.2); repeat' (first | exact h9.cell rfl | (rcases BlkAt.ite_or h9 with h9 | h9))
      have hz0 : BlkAt W (p) 89 #[.int .u8 c.id, .int .i64 c.n, .int .u64 c.num, .int .u8 c.op.k, .string c.op.a, .string c.op.b, .int .u8 c.op.n, .int .u8 c.op.r, .bool true, .int .u8 c.node, .int .i64 c.ref] := hC.2
      obtain ⟨b0_0, b0_1, b0_2, b0_3, b0_4, b0_5, b0_6, b0_7, b0_8, b0_9, b0_10, zz0⟩ := BlkAt.c11 hz0
      have fs : Fr (eqB (p)) W (W.setCell ⟨p, 9, none⟩ (.int .u8 m)) := ((Fr.refl (eqB (p)) W)).setCell (p := ⟨p, 9, none⟩) (Or.inl rfl) (.int .u8 m)
      have hn0 : BlkAt (W.setCell ⟨p, 9, none⟩ (.int .u8 m)) (p) 89 #[.int .u8 c.id, .int .i64 c.n, .int .u64 c.num, .int .u8 c.op.k, .string c.op.a, .string c.op.b, .int .u8 c.op.n, .int .u8 c.op.r, .bool true, .int .u8 m, .int .i64 c.ref] := (hz0).set 9 (.int .u8 m)
      go_wp2_with fail
      exact hK undef _ fs ⟨hC.1.then' fs, hn0⟩ trivial
  · intro vs w1 fw1 cw1 hV
    have v10 : vs 0 = _ := hV 0 _ _ rfl rfl (by decide)
    have v11 : vs 1 = _ := hV 1 _ _ rfl rfl (by decide)
    have v12 : vs 2 = _ := hV 2 _ _ rfl rfl (by decide)
    have v13 : vs 3 = _ := hV 3 _ _ rfl rfl (by decide)
    have v14 : vs 4 = _ := hV 4 _ _ rfl rfl (by decide)
    have v15 : vs 5 = _ := hV 5 _ _ rfl rfl (by decide)
    have v16 : vs 6 = _ := hV 6 _ _ rfl rfl (by decide)
    have v17 : vs 7 = _ := hV 7 _ _ rfl rfl (by decide)
    have v18 : vs 8 = _ := hV 8 _ _ rfl rfl (by decide)
    have v19 : vs 9 = _ := hV 9 _ _ rfl rfl (by decide)
    have v20 : vs 10 = _ := hV 10 _ _ rfl rfl (by decide)
    have v21 : vs 11 = _ := hV 11 _ _ rfl rfl (by decide)
    have v22 : vs 12 = _ := hV 12 _ _ rfl rfl (by decide)
    have v23 : vs 13 = _ := hV 13 _ _ rfl rfl (by decide)
    clear hV
    replace h0 : BlkAt w1 (p) 89 #[.int .u8 c.id, .int .i64 c.n, .int .u64 c.num, .int .u8 c.op.k, .string c.op.a, .string c.op.b, .int .u8 c.op.n, .int .u8 c.op.r, .bool true, .int .u8 m, .int .i64 c.ref] := cw1.2
    clear cw1
    simp only [putL, Act.put, Nat.reduceAdd, List.setIfInBounds_toArray, List.set_cons_zero, List.set_cons_succ, v10, v11, v12, v13, v14, v15, v16, v17, v18, v19, v20, v21, v22, v23]
    have hb1 := hb.fr fw1 (by unfold eqB; omega)
    have hc1 : ClAt w1 p { c with node := m } := by
      have := h0
      rw [← HP.out] at this
      exact this
    go_wp2_with fail
    refine (hak w1 hc1).mono ?_
    rintro e w2 ⟨rfl, f2⟩
    have hb2 := hb1.fr f2 id
    go_wp2_with (refine wpList_store_blk (P := Tryd.prog) (vs := [.int .u8 0, .int .u8 c.id, .int .u8 m, .int .u64 0, .int .u64 0, .int .u64 0, .int .u64 0, .int .u64 c.num, .int .u64 0, .int .u8 c.op.k, .string c.op.a, .string c.op.b, .int .u8 c.op.n, .int .u8 c.op.r, .int .i64 0, .slice none 0 0, .int .u8 0, .slice none 0 0, .slice none 0 0]) (D := [.int .u8 0, .int .u8 c.id, .int .u8 m, .int .u64 0, .int .u64 0, .int .u64 0, .int .u64 0, .int .u64 c.num, .int .u64 0, .int .u8 c.op.k, .string c.op.a, .string c.op.b, .int .u8 c.op.n, .int .u8 c.op.r, .int .i64 0, .slice none 0 0, .int .u8 0, .slice none 0 0, .slice none 0 0]) rfl rfl hb2 0 rfl rfl (by kernel_rfl) (by kernel_rfl) (by simp) rfl ?_; intro w3 fw3 hb3)
    exact bodyPost_ret (v := .tuple #[.agg (msgC c.id m c.num c.op), .bool true]) (results_cell2 hres.out rfl (load_blk hb3 Tryd.underlying36 rfl (by kernel_rfl)) rfl) rfl ⟨rfl, hc' _ (BlkAt.fr (BlkAt.fr hc1 f2 id) fw3 (by unfold eqB; omega)), (((f0.mono (fun _ _ h => h.elim)).then' fw1).then' (f2.mono fun _ _ h => h.elim)).trans fw3 (fun i hi h => by unfold eqB at h; omega)⟩

noncomputable def callE (c : ClV) (o : OpV) : Nat := if c.pend then 12 else if checkV o ≠ 0 then checkV o else if 1099511627776 ≤ c.num then 17 else 0
def callC (c : ClV) (o : OpV) : ClV := { c with num := c.num + 1, op := o, pend := true }
set_option maxRecDepth 100000 in
set_option maxHeartbeats 1200000 in
theorem callNo_calls (w : World) (p : Nat) (c : ClV) (o : OpV) (ht : SignsAt w) (ho : o.wf) (ha1 : o.a.size ≤ 1000000000000000) (hb1 : o.b.size ≤ 1000000000000000) (h : ClAt w p c) (he : callE c o ≠ 0) :
    Calls Tryd.prog 10 #[.pointer (some ⟨p, 0, none⟩), o.v] w (fun e w' => e = .returned (.tuple #[.agg (msgC 0 0 0 noOp), .int .i64 (callE c o)]) ∧ Fr noB w w') := by
  have hb : BlkAt ((w.alloc (.cells #[.int .u8 o.k, .string o.a, .string o.b, .int .u8 o.n, .int .u8 o.r] 24)).alloc (.cells #[.int .u8 0, .int .u8 0, .int .u8 0, .int .u64 0, .int .u64 0, .int .u64 0, .int .u64 0, .int .u64 0, .int .u64 0, .int .u8 0, .string { data := #[] }, .string { data := #[] }, .int .u8 0, .int .u8 0, .int .i64 0, .slice none 0 0, .int .u8 0, .slice none 0 0, .slice none 0 0] 36)) (w.heap.size + 1) 36 #[.int .u8 0, .int .u8 0, .int .u8 0, .int .u64 0, .int .u64 0, .int .u64 0, .int .u64 0, .int .u64 0, .int .u64 0, .int .u8 0, .string { data := #[] }, .string { data := #[] }, .int .u8 0, .int .u8 0, .int .i64 0, .slice none 0 0, .int .u8 0, .slice none 0 0, .slice none 0 0] := by
    have := BlkAt.new (w.alloc (.cells #[.int .u8 o.k, .string o.a, .string o.b, .int .u8 o.n, .int .u8 o.r] 24)) #[.int .u8 0, .int .u8 0, .int .u8 0, .int .u64 0, .int .u64 0, .int .u64 0, .int .u64 0, .int .u64 0, .int .u64 0, .int .u8 0, .string { data := #[] }, .string { data := #[] }, .int .u8 0, .int .u8 0, .int .i64 0, .slice none 0 0, .int .u8 0, .slice none 0 0, .slice none 0 0] 36
    rwa [al_size] at this
  have f0 : Fr noB w ((w.alloc (.cells #[.int .u8 o.k, .string o.a, .string o.b, .int .u8 o.n, .int .u8 o.r] 24)).alloc (.cells #[.int .u8 0, .int .u8 0, .int .u8 0, .int .u64 0, .int .u64 0, .int .u64 0, .int .u64 0, .int .u64 0, .int .u64 0, .int .u8 0, .string { data := #[] }, .string { data := #[] }, .int .u8 0, .int .u8 0, .int .i64 0, .slice none 0 0, .int .u8 0, .slice none 0 0, .slice none 0 0] 36)) := ((Fr.refl noB w).alloc _).alloc _
  have h0 : BlkAt ((w.alloc (.cells #[.int .u8 o.k, .string o.a, .string o.b, .int .u8 o.n, .int .u8 o.r] 24)).alloc (.cells #[.int .u8 0, .int .u8 0, .int .u8 0, .int .u64 0, .int .u64 0, .int .u64 0, .int .u64 0, .int .u64 0, .int .u64 0, .int .u8 0, .string { data := #[] }, .string { data := #[] }, .int .u8 0, .int .u8 0, .int .i64 0, .slice none 0 0, .int .u8 0, .slice none 0 0, .slice none 0 0] 36)) p 89 #[.int .u8 c.id, .int .i64 c.n, .int .u64 c.num, .int .u8 c.op.k, .string c.op.a, .string c.op.b, .int .u8 c.op.n, .int .u8 c.op.r, .bool c.pend, .int .u8 c.node, .int .i64 c.ref] := BlkAt.al (BlkAt.al h _) _
  have ho0 : BlkAt ((w.alloc (.cells #[.int .u8 o.k, .string o.a, .string o.b, .int .u8 o.n, .int .u8 o.r] 24)).alloc (.cells #[.int .u8 0, .int .u8 0, .int .u8 0, .int .u64 0, .int .u64 0, .int .u64 0, .int .u64 0, .int .u64 0, .int .u64 0, .int .u8 0, .string { data := #[] }, .string { data := #[] }, .int .u8 0, .int .u8 0, .int .i64 0, .slice none 0 0, .int .u8 0, .slice none 0 0, .slice none 0 0] 36)) w.heap.size 24 #[.int .u8 o.k, .string o.a, .string o.b, .int .u8 o.n, .int .u8 o.r] := BlkAt.al (BlkAt.new _ _ _) _
  have ht0 : SignsAt _ := TabS.fr ht f0 id
  have hlt : p < w.heap.size := BlkAt.lt h
  have hres : Hid (Tryd.f10.results = #[.cell 4 36, .tmp 5]) := by unfold Hid; kernel_rfl
  have hck := fun W h => check_calls W o h ho ha1 hb1
  obtain ⟨x0, x1, x2, x3, x4, xf⟩ := BlkAt.c5 ho0
  have HE : Hid (callE c o = if c.pend then 12 else if checkV o ≠ 0 then checkV o else if 1099511627776 ≤ c.num then 17 else 0) := rfl
  generalize callE c o = er at *
  obtain ⟨b1, hb1'⟩ : ∃ b, c.pend = b := ⟨_, rfl⟩
  obtain ⟨b2, hb2⟩ : ∃ b, ((checkV o : Int) != 0) = b := ⟨_, rfl⟩
  obtain ⟨b3, hb3⟩ : ∃ b, decide ((1099511627776 : Int) ≤ c.num) = b := ⟨_, rfl⟩
  have hcase : (b1 = true ∧ er = 12) ∨ (b1 = false ∧ b2 = true ∧ er = checkV o) ∨ (b1 = false ∧ b2 = false ∧ b3 = true ∧ er = 17) := by
    have hev := HE.out
    rw [hb1'] at hev
    have hq2 : (checkV o ≠ 0) ↔ b2 = true := by rw [← hb2]; simp
    have hq3 : (1099511627776 ≤ c.num) ↔ b3 = true := by rw [← hb3]; simp; omega
    cases b1
    · cases b2
      · cases b3
        · simp [hq2, hq3] at hev; exact absurd hev he
        · simp [hq2, hq3] at hev; simp [hev]
      · simp [hq2] at hev; simp [hev]
    · simp at hev; simp [hev]
  rw [hb1'] at h0
  clear h hb1' he HE ha1 hb1
  obtain ⟨y0, y1, y2, y3, y4, y5, y6, y7, y8, y9, y10, yf⟩ := BlkAt.c11 h0
  unfold OpV.v at hck ⊢
  generalize checkV o = ev at *
  go_enter Tryd.func10, Tryd.ntmps10
  go_upto_region 1 with fail
  generalize ((w.alloc (.cells #[.int .u8 o.k, .string o.a, .string o.b, .int .u8 o.n, .int .u8 o.r] 24)).alloc (.cells #[.int .u8 0, .int .u8 0, .int .u8 0, .int .u64 0, .int .u64 0, .int .u64 0, .int .u64 0, .int .u64 0, .int .u64 0, .int .u8 0, .string { data := #[] }, .string { data := #[] }, .int .u8 0, .int .u8 0, .int .i64 0, .slice none 0 0, .int .u8 0, .slice none 0 0, .slice none 0 0] 36)) = wa at *
  obtain ⟨qb, hq⟩ : ∃ qb, w.heap.size = qb := ⟨_, rfl⟩
  rw [hq] at hb hlt ho0 x0 x1 x2 x3 x4 xf ⊢
  go_wp2_with fail
  refine (hck wa ht0).mono ?_
  rintro e w1 ⟨rfl, f1⟩
  have hb1 := hb.fr f1 id
  have h1 := h0.fr f1 id
  clear y0 y1 y2 y3 y4 y5 y6 y7 y8 y9 y10 yf x0 x1 x2 x3 x4 xf hb h0 ho0
  obtain ⟨y0, y1, y2, y3, y4, y5, y6, y7, y8, y9, y10, yf⟩ := BlkAt.c11 h1
  rcases hcase with ⟨rfl, HER⟩ | ⟨rfl, rfl, HER⟩ | ⟨rfl, rfl, rfl, HER⟩
  all_goals
    replace HER := hid HER
    go_wp2_with (refine wpList_store_blk (P := Tryd.prog) (vs := [.int .u8 0, .int .u8 0, .int .u8 0, .int .u64 0, .int .u64 0, .int .u64 0, .int .u64 0, .int .u64 0, .int .u64 0, .int .u8 0, .string { data := #[] }, .string { data := #[] }, .int .u8 0, .int .u8 0, .int .i64 0, .slice none 0 0, .int .u8 0, .slice none 0 0, .slice none 0 0]) (D := [.int .u8 0, .int .u8 0, .int .u8 0, .int .u64 0, .int .u64 0, .int .u64 0, .int .u64 0, .int .u64 0, .int .u64 0, .int .u8 0, .string { data := #[] }, .string { data := #[] }, .int .u8 0, .int .u8 0, .int .i64 0, .slice none 0 0, .int .u8 0, .slice none 0 0, .slice none 0 0]) rfl rfl hb1 0 rfl rfl (by kernel_rfl) (by kernel_rfl) (by simp) rfl ?_; intro w3 fw3 hb3)
    rw [HER.out]
    exact bodyPost_ret (v := .tuple #[.agg (msgC 0 0 0 noOp), .int .i64 _]) (results_cell2 hres.out rfl (load_blk hb3 Tryd.underlying36 rfl (by kernel_rfl)) rfl) rfl ⟨rfl, (f0.then' f1).trans fw3 (fun i hi h => by unfold eqB at h; omega)⟩
set_option maxRecDepth 100000 in
set_option maxHeartbeats 1200000 in
theorem callYes_calls (w : World) (p : Nat) (c : ClV) (o : OpV) (ht : SignsAt w) (ho : o.wf) (ha1 : o.a.size ≤ 1000000000000000) (hb1 : o.b.size ≤ 1000000000000000) (h : ClAt w p c) (hp : c.pend = false) (hck0 : checkV o = 0) (hnum : c.num < 1099511627776) :
    Calls Tryd.prog 10 #[.pointer (some ⟨p, 0, none⟩), o.v] w (fun e w' => e = .returned (.tuple #[.agg (msgC c.id c.node (c.num + 1) o), .int .i64 0]) ∧ ClAt w' p (callC c o) ∧ Fr (eqB p) w w') := by
  have hb : BlkAt ((w.alloc (.cells #[.int .u8 o.k, .string o.a, .string o.b, .int .u8 o.n, .int .u8 o.r] 24)).alloc (.cells #[.int .u8 0, .int .u8 0, .int .u8 0, .int .u64 0, .int .u64 0, .int .u64 0, .int .u64 0, .int .u64 0, .int .u64 0, .int .u8 0, .string { data := #[] }, .string { data := #[] }, .int .u8 0, .int .u8 0, .int .i64 0, .slice none 0 0, .int .u8 0, .slice none 0 0, .slice none 0 0] 36)) (w.heap.size + 1) 36 #[.int .u8 0, .int .u8 0, .int .u8 0, .int .u64 0, .int .u64 0, .int .u64 0, .int .u64 0, .int .u64 0, .int .u64 0, .int .u8 0, .string { data := #[] }, .string { data := #[] }, .int .u8 0, .int .u8 0, .int .i64 0, .slice none 0 0, .int .u8 0, .slice none 0 0, .slice none 0 0] := by
    have := BlkAt.new (w.alloc (.cells #[.int .u8 o.k, .string o.a, .string o.b, .int .u8 o.n, .int .u8 o.r] 24)) #[.int .u8 0, .int .u8 0, .int .u8 0, .int .u64 0, .int .u64 0, .int .u64 0, .int .u64 0, .int .u64 0, .int .u64 0, .int .u8 0, .string { data := #[] }, .string { data := #[] }, .int .u8 0, .int .u8 0, .int .i64 0, .slice none 0 0, .int .u8 0, .slice none 0 0, .slice none 0 0] 36
    rwa [al_size] at this
  have f0 : Fr noB w ((w.alloc (.cells #[.int .u8 o.k, .string o.a, .string o.b, .int .u8 o.n, .int .u8 o.r] 24)).alloc (.cells #[.int .u8 0, .int .u8 0, .int .u8 0, .int .u64 0, .int .u64 0, .int .u64 0, .int .u64 0, .int .u64 0, .int .u64 0, .int .u8 0, .string { data := #[] }, .string { data := #[] }, .int .u8 0, .int .u8 0, .int .i64 0, .slice none 0 0, .int .u8 0, .slice none 0 0, .slice none 0 0] 36)) := ((Fr.refl noB w).alloc _).alloc _
  have h0 : BlkAt ((w.alloc (.cells #[.int .u8 o.k, .string o.a, .string o.b, .int .u8 o.n, .int .u8 o.r] 24)).alloc (.cells #[.int .u8 0, .int .u8 0, .int .u8 0, .int .u64 0, .int .u64 0, .int .u64 0, .int .u64 0, .int .u64 0, .int .u64 0, .int .u8 0, .string { data := #[] }, .string { data := #[] }, .int .u8 0, .int .u8 0, .int .i64 0, .slice none 0 0, .int .u8 0, .slice none 0 0, .slice none 0 0] 36)) p 89 #[.int .u8 c.id, .int .i64 c.n, .int .u64 c.num, .int .u8 c.op.k, .string c.op.a, .string c.op.b, .int .u8 c.op.n, .int .u8 c.op.r, .bool c.pend, .int .u8 c.node, .int .i64 c.ref] := BlkAt.al (BlkAt.al h _) _
  have ho0 : BlkAt ((w.alloc (.cells #[.int .u8 o.k, .string o.a, .string o.b, .int .u8 o.n, .int .u8 o.r] 24)).alloc (.cells #[.int .u8 0, .int .u8 0, .int .u8 0, .int .u64 0, .int .u64 0, .int .u64 0, .int .u64 0, .int .u64 0, .int .u64 0, .int .u8 0, .string { data := #[] }, .string { data := #[] }, .int .u8 0, .int .u8 0, .int .i64 0, .slice none 0 0, .int .u8 0, .slice none 0 0, .slice none 0 0] 36)) w.heap.size 24 #[.int .u8 o.k, .string o.a, .string o.b, .int .u8 o.n, .int .u8 o.r] := BlkAt.al (BlkAt.new _ _ _) _
  have ht0 : SignsAt _ := TabS.fr ht f0 id
  have hlt : p < w.heap.size := BlkAt.lt h
  have hres : Hid (Tryd.f10.results = #[.cell 4 36, .tmp 5]) := by unfold Hid; kernel_rfl
  have hck := fun W h => check_calls W o h ho ha1 hb1
  rw [hck0] at hck
  obtain ⟨x0, x1, x2, x3, x4, xf⟩ := BlkAt.c5 ho0
  have t3 : decide ((1099511627776 : Int) ≤ c.num) = false := decide_eq_false (by omega)
  have hwn : IntKind.u64.wrap ((c.num : Int) + 1) = (c.num + 1 : Nat) := by rw [IntKind.wrap_u64]; omega
  rw [hp] at h0
  have hak := fun W h => ask_calls W p (callC c o) h
  have hcl : ∀ W, BlkAt W p 89 #[.int .u8 c.id, .int .i64 c.n, .int .u64 (c.num + 1 : Nat), .int .u8 o.k, .string o.a, .string o.b, .int .u8 o.n, .int .u8 o.r, .bool true, .int .u8 c.node, .int .i64 c.ref] → ClAt W p (callC c o) := fun W h => h
  clear h hp hck0 ha1 hb1
  obtain ⟨y0, y1, y2, y3, y4, y5, y6, y7, y8, y9, y10, yf⟩ := BlkAt.c11 h0
  unfold OpV.v at hck ⊢
  go_enter Tryd.func10, Tryd.ntmps10
  go_upto_region 1 with fail
  generalize ((w.alloc (.cells #[.int .u8 o.k, .string o.a, .string o.b, .int .u8 o.n, .int .u8 o.r] 24)).alloc (.cells #[.int .u8 0, .int .u8 0, .int .u8 0, .int .u64 0, .int .u64 0, .int .u64 0, .int .u64 0, .int .u64 0, .int .u64 0, .int .u8 0, .string { data := #[] }, .string { data := #[] }, .int .u8 0, .int .u8 0, .int .i64 0, .slice none 0 0, .int .u8 0, .slice none 0 0, .slice none 0 0] 36)) = wa at *
  obtain ⟨qb, hq⟩ : ∃ qb, w.heap.size = qb := ⟨_, rfl⟩
  rw [hq] at hb hlt ho0 x0 x1 x2 x3 x4 xf ⊢
  go_wp2_with fail
  refine (hck wa ht0).mono ?_
  rintro e w1 ⟨rfl, f1⟩
  have hb1 := hb.fr f1 id
  have h1 := h0.fr f1 id
  have ho1 := ho0.fr f1 id
  have F1 := f0.then' f1
  clear y0 y1 y2 y3 y4 y5 y6 y7 y8 y9 y10 yf x0 x1 x2 x3 x4 xf hb h0 ho0 f0 f1 hck ht0 ht
  obtain ⟨y0, y1, y2, y3, y4, y5, y6, y7, y8, y9, y10, yf⟩ := BlkAt.c11 h1
  obtain ⟨x0, x1, x2, x3, x4, xf⟩ := BlkAt.c5 ho1
  go_wp2_with fail
  clear y0 y1 y2 y3 y4 y5 y6 y7 y8 y9 y10 yf x0 x1 x2 x3 x4 xf
  replace h1 : BlkAt (((((((w1.setCell ⟨p, 2, none⟩ (.int .u64 (c.num + 1))).setCell ⟨p, 3, none⟩ (.int .u8 o.k)).setCell ⟨p, 4, none⟩ (.string o.a)).setCell ⟨p, 5, none⟩ (.string o.b)).setCell ⟨p, 6, none⟩ (.int .u8 o.n)).setCell ⟨p, 7, none⟩ (.int .u8 o.r)).setCell ⟨p, 8, none⟩ (.bool true)) (p) 89 #[.int .u8 c.id, .int .i64 c.n, .int .u64 (c.num + 1), .int .u8 o.k, .string o.a, .string o.b, .int .u8 o.n, .int .u8 o.r, .bool true, .int .u8 c.node, .int .i64 c.ref] := (((((((h1).set 2 (.int .u64 (c.num + 1))).set 3 (.int .u8 o.k)).set 4 (.string o.a)).set 5 (.string o.b)).set 6 (.int .u8 o.n)).set 7 (.int .u8 o.r)).set 8 (.bool true)
  replace hb1 : BlkAt (((((((w1.setCell ⟨p, 2, none⟩ (.int .u64 (c.num + 1))).setCell ⟨p, 3, none⟩ (.int .u8 o.k)).setCell ⟨p, 4, none⟩ (.string o.a)).setCell ⟨p, 5, none⟩ (.string o.b)).setCell ⟨p, 6, none⟩ (.int .u8 o.n)).setCell ⟨p, 7, none⟩ (.int .u8 o.r)).setCell ⟨p, 8, none⟩ (.bool true)) ((qb + 1)) 36 #[.int .u8 0, .int .u8 0, .int .u8 0, .int .u64 0, .int .u64 0, .int .u64 0, .int .u64 0, .int .u64 0, .int .u64 0, .int .u8 0, .string { data := #[] }, .string { data := #[] }, .int .u8 0, .int .u8 0, .int .i64 0, .slice none 0 0, .int .u8 0, .slice none 0 0, .slice none 0 0] := (((((((hb1).fr (fr_set1 _ (p) 2 (.int .u64 (c.num + 1))) (by unfold eqB; omega)).fr (fr_set1 _ (p) 3 (.int .u8 o.k)) (by unfold eqB; omega)).fr (fr_set1 _ (p) 4 (.string o.a)) (by unfold eqB; omega)).fr (fr_set1 _ (p) 5 (.string o.b)) (by unfold eqB; omega)).fr (fr_set1 _ (p) 6 (.int .u8 o.n)) (by unfold eqB; omega)).fr (fr_set1 _ (p) 7 (.int .u8 o.r)) (by unfold eqB; omega)).fr (fr_set1 _ (p) 8 (.bool true)) (by unfold eqB; omega)
  have F2 : Fr (eqB p) w (((((((w1.setCell ⟨p, 2, none⟩ (.int .u64 (c.num + 1))).setCell ⟨p, 3, none⟩ (.int .u8 o.k)).setCell ⟨p, 4, none⟩ (.string o.a)).setCell ⟨p, 5, none⟩ (.string o.b)).setCell ⟨p, 6, none⟩ (.int .u8 o.n)).setCell ⟨p, 7, none⟩ (.int .u8 o.r)).setCell ⟨p, 8, none⟩ (.bool true)) :=
    (((((((F1.mono (fun _ _ h => h.elim)).then' (fr_set1 _ p _ _)).then' (fr_set1 _ p _ _)).then' (fr_set1 _ p _ _)).then' (fr_set1 _ p _ _)).then' (fr_set1 _ p _ _)).then' (fr_set1 _ p _ _)).then' (fr_set1 _ p _ _)
  generalize (((((((w1.setCell ⟨p, 2, none⟩ (.int .u64 (c.num + 1))).setCell ⟨p, 3, none⟩ (.int .u8 o.k)).setCell ⟨p, 4, none⟩ (.string o.a)).setCell ⟨p, 5, none⟩ (.string o.b)).setCell ⟨p, 6, none⟩ (.int .u8 o.n)).setCell ⟨p, 7, none⟩ (.int .u8 o.r)).setCell ⟨p, 8, none⟩ (.bool true)) = w2 at *
  have hc2 : ClAt w2 p (callC c o) := hcl _ h1
  refine (hak w2 hc2).mono ?_
  rintro e w3 ⟨rfl, f3⟩
  have hb3 := hb1.fr f3 id
  go_wp2_with (refine wpList_store_blk (P := Tryd.prog) (vs := [.int .u8 0, .int .u8 c.id, .int .u8 c.node, .int .u64 0, .int .u64 0, .int .u64 0, .int .u64 0, .int .u64 (c.num + 1 : Nat), .int .u64 0, .int .u8 o.k, .string o.a, .string o.b, .int .u8 o.n, .int .u8 o.r, .int .i64 0, .slice none 0 0, .int .u8 0, .slice none 0 0, .slice none 0 0]) (D := [.int .u8 0, .int .u8 c.id, .int .u8 c.node, .int .u64 0, .int .u64 0, .int .u64 0, .int .u64 0, .int .u64 (c.num + 1 : Nat), .int .u64 0, .int .u8 o.k, .string o.a, .string o.b, .int .u8 o.n, .int .u8 o.r, .int .i64 0, .slice none 0 0, .int .u8 0, .slice none 0 0, .slice none 0 0]) rfl rfl hb3 0 rfl rfl (by kernel_rfl) (by kernel_rfl) (by simp) rfl ?_; intro w4 fw4 hb4)
  exact bodyPost_ret (v := .tuple #[.agg (msgC c.id c.node (c.num + 1) o), .int .i64 0]) (results_cell2 hres.out rfl (load_blk hb4 Tryd.underlying36 rfl (by kernel_rfl)) rfl) rfl ⟨rfl, BlkAt.fr (BlkAt.fr hc2 f3 id) fw4 (by unfold eqB; omega), (F2.then' (f3.mono fun _ _ h => h.elim)).trans fw4 (fun i hi h => by unfold eqB at h; omega)⟩
end Go.Proofs.YtdngcheimohamaaDoor
/- interrexlaw31.lives. -/
namespace Go.Proofs.YtdngcheimohamaaDoor
open Go.RowKit
theorem wpList_store_msg {ops : Array Oper} {rest : List Oper} {op : Oper} {a : Act} {w : World} {Q : Exit → Act → World → Prop} {x y : Operand} {b id to num : Nat} {o : OpV} (hgd : op.guard = none) (ho : op.op = .store 36 x y) (hb : BlkAt w b 36 #[.int .u8 0, .int .u8 0, .int .u8 0, .int .u64 0, .int .u64 0, .int .u64 0, .int .u64 0, .int .u64 0, .int .u64 0, .int .u8 0, .string { data := #[] }, .string { data := #[] }, .int .u8 0, .int .u8 0, .int .i64 0, .slice none 0 0, .int .u8 0, .slice none 0 0, .slice none 0 0])
    (hx : a.eval x = .pointer (some ⟨b, 0, none⟩)) (hy : a.eval y = .agg (msgC id to num o)) (h : ∀ w', Fr (eqB b) w w' → BlkAt w' b 36 (msgC id to num o) → wpList Tryd.prog ops Q rest (a.put op.dst undef) w') : wpList Tryd.prog ops Q (op :: rest) a w :=
  wpList_store_blk hgd ho hb 0 (vs := (msgC id to num o).toList) (D := (msgC id to num o).toList) hx hy (by kernel_rfl) (by simp [msgC, Value.oneCell']) (by simp [msgC]) (by simp [msgC]) h
theorem msg_cells {w : World} {b id to num : Nat} {o : OpV} (h : BlkAt w b 36 (msgC id to num o)) : w.cell? ⟨b, 1, none⟩ = some (.int .u8 id) ∧ w.cell? ⟨b, 2, none⟩ = some (.int .u8 to) ∧ w.cell? ⟨b, 7, none⟩ = some (.int .u64 num) ∧
    w.cell? ⟨b, 9, none⟩ = some (.int .u8 o.k) ∧ w.cell? ⟨b, 10, none⟩ = some (.string o.a) ∧ w.cell? ⟨b, 11, none⟩ = some (.string o.b) ∧ w.cell? ⟨b, 12, none⟩ = some (.int .u8 o.n) ∧ w.cell? ⟨b, 13, none⟩ = some (.int .u8 o.r) :=
  ⟨h.cell rfl, h.cell rfl, h.cell rfl, h.cell rfl, h.cell rfl, h.cell rfl, h.cell rfl, h.cell rfl⟩
def opList : OpV := ⟨4, ⟨#[]⟩, ⟨#[]⟩, 0, 0⟩
theorem opList_wf : opList.wf := ⟨by decide, by decide, by decide⟩
theorem opList_bytes : (writeB opList (zOf opList)).length ≤ 64 := by decide
theorem opList_ok : checkV opList = 0 := by
  unfold checkV
  have h0 : bareFrom opList (zOf opList) = opList := by rw [OpV.eq_iff]; exact ⟨rfl, rfl, rfl, rfl, rfl⟩
  have h1 : bareB opList = true := by unfold bareB; rw [h0]; simp
  rw [if_neg (by decide), if_neg (by rw [h1]; decide), if_neg (by decide), if_neg (by decide), if_neg (by have := opList_bytes; omega)]
set_option maxRecDepth 100000 in
set_option maxHeartbeats 1200000 in
theorem lives31_calls (w : World) (ht : SignsAt w) : Calls Tryd.prog 8 #[] w (BoolPost w true) := by
  have hn := newC_calls w 1 3 (by decide) (by decide) (by decide) (by decide)
  have hca := fun W p hT h => callYes_calls W p ⟨1, 3, 0, noOp, false, 1 % 3, 0⟩ opList hT opList_wf (by decide) (by decide) h rfl opList_ok (by decide)
  have hag : ∀ W p, ClAt W p (callC ⟨1, 3, 0, noOp, false, 1 % 3, 0⟩ opList) → Calls Tryd.prog 11 #[.pointer (some ⟨p, 0, none⟩)] W (fun e w' => e = .returned (.tuple #[.agg (msgC 1 2 1 opList), .bool true]) ∧ Fr (eqB p) W w') := fun W p h => (againYes_calls W p _ h rfl (by decide) (by decide)).mono fun e w' ⟨h1, _, h3⟩ => ⟨h1, h3⟩
  go_enter Tryd.func8, Tryd.ntmps8
  go_wp2_with fail
  refine hn.mono ?_
  rintro e w1 ⟨p, hp, rfl, hc1, f1⟩
  have ht1 : SignsAt w1 := TabS.fr ht f1 id
  go_wp2_with fail
  refine (hca w1 p ht1 hc1).mono ?_
  rintro e w2 ⟨rfl, hc2, f2⟩
  have F2 : Fr noB w w2 := f1.trans f2 (fun i hi h => by unfold eqB at h; omega)
  have hlt := BlkAt.lt hc2
  clear hc1 f1 f2
  have hb2 : BlkAt (w2.alloc (.cells #[.int .u8 0, .int .u8 0, .int .u8 0, .int .u64 0, .int .u64 0, .int .u64 0, .int .u64 0, .int .u64 0, .int .u64 0, .int .u8 0, .string { data := #[] }, .string { data := #[] }, .int .u8 0, .int .u8 0, .int .i64 0, .slice none 0 0, .int .u8 0, .slice none 0 0, .slice none 0 0] 36)) w2.heap.size 36 #[.int .u8 0, .int .u8 0, .int .u8 0, .int .u64 0, .int .u64 0, .int .u64 0, .int .u64 0, .int .u64 0, .int .u64 0, .int .u8 0, .string { data := #[] }, .string { data := #[] }, .int .u8 0, .int .u8 0, .int .i64 0, .slice none 0 0, .int .u8 0, .slice none 0 0, .slice none 0 0] := BlkAt.new _ _ _
  have f2 : Fr noB w2 (w2.alloc (.cells #[.int .u8 0, .int .u8 0, .int .u8 0, .int .u64 0, .int .u64 0, .int .u64 0, .int .u64 0, .int .u64 0, .int .u64 0, .int .u8 0, .string { data := #[] }, .string { data := #[] }, .int .u8 0, .int .u8 0, .int .i64 0, .slice none 0 0, .int .u8 0, .slice none 0 0, .slice none 0 0] 36)) := (Fr.refl noB w2).alloc _
  go_wp2_with (refine wpList_store_msg rfl rfl hb2 rfl rfl ?_; intro w3 f3 hb3)
  have hc3 := BlkAt.fr (BlkAt.fr hc2 f2 id) f3 (by unfold eqB; omega)
  have F3 : Fr noB w w3 := (F2.then' f2).trans f3 (fun i hi h => by unfold eqB at h; have := F2.size; omega)
  have hs2 := F2.size
  generalize w2.heap.size = q2 at *
  have hq2 := hb3.lt
  clear hb2 f2 f3 hc2 F2
  refine (hag w3 p hc3).mono ?_
  rintro e w4 ⟨rfl, f4⟩
  have hb4 := hb3.fr f4 (by unfold eqB; omega)
  have F4 : Fr noB w w4 := F3.trans f4 (fun i hi h => by unfold eqB at h; omega)
  have hb5 : BlkAt (w4.alloc (.cells #[.int .u8 0, .int .u8 0, .int .u8 0, .int .u64 0, .int .u64 0, .int .u64 0, .int .u64 0, .int .u64 0, .int .u64 0, .int .u8 0, .string { data := #[] }, .string { data := #[] }, .int .u8 0, .int .u8 0, .int .i64 0, .slice none 0 0, .int .u8 0, .slice none 0 0, .slice none 0 0] 36)) w4.heap.size 36 #[.int .u8 0, .int .u8 0, .int .u8 0, .int .u64 0, .int .u64 0, .int .u64 0, .int .u64 0, .int .u64 0, .int .u64 0, .int .u8 0, .string { data := #[] }, .string { data := #[] }, .int .u8 0, .int .u8 0, .int .i64 0, .slice none 0 0, .int .u8 0, .slice none 0 0, .slice none 0 0] := BlkAt.new _ _ _
  have f5 : Fr noB w4 (w4.alloc (.cells #[.int .u8 0, .int .u8 0, .int .u8 0, .int .u64 0, .int .u64 0, .int .u64 0, .int .u64 0, .int .u64 0, .int .u64 0, .int .u8 0, .string { data := #[] }, .string { data := #[] }, .int .u8 0, .int .u8 0, .int .i64 0, .slice none 0 0, .int .u8 0, .slice none 0 0, .slice none 0 0] 36)) := (Fr.refl noB w4).alloc _
  have hq4 := hb4.lt
  have hs4 := F4.size
  clear F3 hb3 hc3 f4
  go_wp2_with (refine wpList_store_msg rfl rfl hb5 rfl rfl ?_; intro w6 f6 hb6; obtain ⟨x1, x2, x7, _, _, _, _, _⟩ := msg_cells hb6; obtain ⟨y1, y2, y7, _, _, _, _, _⟩ := msg_cells ((hb4.fr f5 id).fr f6 (by unfold eqB; omega)))
  go_ret
  exact ⟨rfl, (F4.then' f5).trans f6 (fun i hi h => by unfold eqB at h; omega)⟩
end Go.Proofs.YtdngcheimohamaaDoor
/- A map[uint8]bool as a function of a number. -/
namespace Go.Proofs.YtdngcheimohamaaDoor
open Go.RowKit Go.Maps

theorem Tryd.keyU8B : Keyed Tryd.prog 5 := int_keyed Tryd.underlying5
theorem Tryd.zeroB (w : World) : (zeroValue 4).run Tryd.prog w = .ok (.bool false) w := by kernel_rfl
theorem wf_u8B {n : Nat} (h : n < 256) : (Lit.int .u8 (n : Int)).wf = true := by
  simp [Lit.wf, IntKind.min, IntKind.max, IntKind.bits, IntKind.signed]; omega
theorem plainElem_bool_inv {H : Type} {P : Program} {e : TypeId} (he : P.underlying e = some .bool) {v : Value} {z : DataW H × List MemPlace} (h : plainElem P e v = some z) : ∃ x, v = .bool x ∧ z = (.lit (.bool x), []) := by
  unfold plainElem at h
  rw [he] at h
  cases v <;> simp at h
  subst h
  exact ⟨_, rfl, rfl⟩
/-- Block b is a map of at most n entries that reads as f. -/
def MapB (w : World) (b n : Nat) (f : Nat → Bool) : Prop :=
  ∃ D : DataW Unit, w.ownsMap Tryd.prog 5 (plainElem Tryd.prog 4) b n D ∧ IsMap D ∧ ∀ i, i < 256 → D.atKey (.int .u8 (i : Nat)) (.lit (.bool false)) = .lit (.bool (f i))
theorem MapB.new (w : World) : MapB (w.alloc (.map #[] 0)) w.heap.size 0 (fun _ => false) :=
  ⟨.map [], World.ownsMap_made _ _ _ _, isMap_empty, fun _ _ => rfl⟩
theorem MapB.fr {S : Nat → Prop} {w w' : World} {b n : Nat} {f : Nat → Bool} (h : MapB w b n f) (hf : Fr S w w') (hb : ¬ S b) : MapB w' b n f := by
  obtain ⟨D, h1, h2, h3⟩ := h
  obtain ⟨es, clock, hh, F, hs, hD⟩ := h1
  exact ⟨D, ⟨es, clock, hf.heap hh hb, F, hs, hD⟩, h2, h3⟩
theorem MapB.lt {w : World} {b n : Nat} {f : Nat → Bool} (h : MapB w b n f) : b < w.heap.size := by
  obtain ⟨D, h1, _⟩ := h; exact h1.lt
set_option maxRecDepth 10000 in
theorem MapB.look {w : World} {b n : Nat} {f : Nat → Bool} (h : MapB w b n f) {i : Nat} (hi : i < 256) :
    (Instr.lookup 43 (.map (some b)) (.int .u8 (i : Nat)) false).run Tryd.prog w = .ok (.bool (f i)) w := by
  obtain ⟨D, h1, h2, h3⟩ := h
  obtain ⟨v, ps, hr, hv⟩ := h1.lookup Tryd.keyU8B Tryd.underlying43 (Tryd.zeroB w) (plainElem_bool Tryd.underlying4 false) (key := .int .u8 (i : Nat)) (kl := .int .u8 (i : Nat)) (keyOf_int_mk Tryd.underlying5 (wf_u8B hi))
  rw [h3 i hi] at hv
  obtain ⟨x, rfl, hx⟩ := plainElem_bool_inv Tryd.underlying4 hv
  have e : DataW.lit (H := Unit) (.bool (f i)) = .lit (.bool x) := congrArg Prod.fst hx
  injection e with e; injection e with e
  rw [hr, e]
set_option maxRecDepth 10000 in
theorem MapB.put {w : World} {b n : Nat} {f : Nat → Bool} (h : MapB w b n f) (hn : n < maxLen) {i : Nat} (hi : i < 256) (c : Bool) :
    ∃ w', (Instr.mapUpdate 43 (.map (some b)) (.int .u8 (i : Nat)) (.bool c)).run Tryd.prog w = .ok () w' ∧ MapB w' b (n + 1) (fun j => if j = i then c else f j) ∧ Fr (eqB b) w w' := by
  obtain ⟨D, h1, h2, h3⟩ := h
  obtain ⟨w', hr, h4, h5⟩ := h1.update Tryd.keyU8B Tryd.underlying43 hn (key := .int .u8 (i : Nat)) (kl := .int .u8 (i : Nat)) (keyOf_int_mk Tryd.underlying5 (wf_u8B hi)) (plainElem_bool Tryd.underlying4 c)
  refine ⟨w', hr, ⟨_, h4, h2.put _ _, fun j hj => ?_⟩, Fr.grown (Fr.refl _ _) h5 (fun k hk => by cases hk; exact Or.inl rfl)⟩
  by_cases e : j = i
  · subst e
    rw [atKey_put_same h2 (by trivial)]; simp
  · rw [atKey_put_other (by intro h; injection h with _ h; exact e (by omega)), h3 j hj]; simp [e]
end Go.Proofs.YtdngcheimohamaaDoor
