/- op.Check, op.Bytes. -/
import Derived.Test.YtcaihinenfnekaaDoorOp5
namespace Go.Proofs.YtcaihinenfnekaaDoor
open Go.RowKit

theorem checkV_17 {o : OpV} (h : 17 ≤ o.k) : checkV o = 4 := by unfold checkV; rw [if_pos h]
theorem checkV_bare {o : OpV} (h : ¬ 17 ≤ o.k) (h2 : bareB o = false) : checkV o = 4 := by unfold checkV; rw [if_neg h, if_pos h2]
theorem checkV_rest {o : OpV} (h : ¬ 17 ≤ o.k) (h2 : bareB o = true) : checkV o = if (zOf o).all (rightV o) = false then 4 else if 64 < o.a.size + o.b.size then 3 else if 64 < (writeB o (zOf o)).length then 3 else 0 := by
  unfold checkV; rw [if_neg h, if_neg (by rw [h2]; decide)]

set_option maxRecDepth 100000 in
set_option maxHeartbeats 1600000 in
theorem check17_calls (w : World) (o : OpV) (h17 : 17 ≤ o.k) (hw : o.wf) : Calls Tryd.prog 41 #[o.v] w (IntPost w (checkV o)) := by
  rw [checkV_17 h17]
  have hk := hw.k
  have HK17 : Hid (decide ((17 : Int) ≤ o.k) = true) := decide_eq_true (by omega)
  have HM : Hid (Tryd.prog.eqGuardType Tryd.prog.depth 38 = false) := by unfold Hid; kernel_rfl
  have hv : o.v = .agg #[.int .u8 o.k, .string o.a, .string o.b, .int .u8 o.n, .int .u8 o.r] := rfl
  have hb0 : BlkAt (w.alloc (.cells #[.int .u8 o.k, .string o.a, .string o.b, .int .u8 o.n, .int .u8 o.r] 38)) w.heap.size 38 o.C := BlkAt.new _ _ _
  have f0 : Fr noB w (w.alloc (.cells #[.int .u8 o.k, .string o.a, .string o.b, .int .u8 o.n, .int .u8 o.r] 38)) := (Fr.refl noB w).alloc _
  have HB0 := hid hb0; clear hb0
  rw [hv]; clear hv
  go_enter Tryd.func41, Tryd.ntmps41
  go_wp2_with fail
  generalize w.alloc (.cells #[.int .u8 o.k, .string o.a, .string o.b, .int .u8 o.n, .int .u8 o.r] 38) = wa at *
  refine wp_region_calm (R := Fr noB) (C := fun _ w' => Fr noB wa w') [false, false, false, false, false, false, false, false, false, false]
    [eqv (.pointer (some ⟨w.heap.size, 0, none⟩)), eqv (.int .u8 o.k), eqv (.int .i64 o.k), eqv (.bool true), eqv (.bool true), eqv (undef), eqv (undef), eqv (undef), eqv (undef), eqv (.bool true)]
    (by kernel_rfl) (by kernel_rfl) (fun _ _ _ h1 h2 => h1.then' h2) ((Fr.refl _ _).drew) ((Fr.refl _ _).drew) (by kernel_rfl) ?_ ?_
  · refine ⟨?_, ?_, ?_, ?_, ?_, ?_, ?_, ?_, ?_, ?_, trivial⟩
    · rw [if_neg (by decide)]; intro kq
      intro a W K hC hd hK
      have d1 : a.tmps[1]?.getD undef = .pointer (some ⟨w.heap.size, 0, none⟩) := hd 1 (by decide)
      refine wpOp_plain rfl rfl ?_
      go_wp2_with fail
      exact hK _ _ (Fr.refl _ _) hC rfl
    · rw [if_neg (by decide)]; intro kq
      intro a W K hC hd hK
      have d5 : a.tmps[5]?.getD undef = .pointer (some ⟨w.heap.size, 0, none⟩) := hd 5 (by decide)
      have hbx := hC.heap HB0.out id
      have c0 : W.cell? ⟨w.heap.size, 0, none⟩ = some (.int .u8 o.k) := by rw [cell_of_row _ _ _ _ _ _ hbx]; rfl
      have c1 : W.cell? ⟨w.heap.size, 1, none⟩ = some (.string o.a) := by rw [cell_of_row _ _ _ _ _ _ hbx]; rfl
      have c2 : W.cell? ⟨w.heap.size, 2, none⟩ = some (.string o.b) := by rw [cell_of_row _ _ _ _ _ _ hbx]; rfl
      have c3 : W.cell? ⟨w.heap.size, 3, none⟩ = some (.int .u8 o.n) := by rw [cell_of_row _ _ _ _ _ _ hbx]; rfl
      have c4 : W.cell? ⟨w.heap.size, 4, none⟩ = some (.int .u8 o.r) := by rw [cell_of_row _ _ _ _ _ _ hbx]; rfl
      refine wpOp_plain rfl rfl ?_
      go_wp2_with fail
      exact hK _ _ (Fr.refl _ _) hC rfl
    · rw [if_neg (by decide)]; intro kq
      intro a W K hC hd hK
      have d6 : a.tmps[6]?.getD undef = .int .u8 o.k := hd 6 (by decide)
      refine wpOp_plain rfl rfl ?_
      go_wp2_with fail
      exact hK _ _ (Fr.refl _ _) hC (by show _ = _; simp <;> omega)
    · rw [if_neg (by decide)]; intro kq
      intro a W K hC hd hK
      have d7 : a.tmps[7]?.getD undef = .int .i64 o.k := hd 7 (by decide)
      refine wpOp_plain rfl rfl ?_
      have hdk : decide ((17 : Int) ≤ o.k) = true := HK17.out
      go_wp2_with fail
      exact hK _ _ (Fr.refl _ _) hC rfl
    · rw [if_neg (by decide)]; intro kq
      exact calm_mv 8 rfl rfl (Or.inl rfl) (Fr.refl _) (by decide) fun v w hd => hd
    · rw [if_neg (by decide)]; intro kq
      intro a W K hC hd hK
      have d1 : a.tmps[1]?.getD undef = .pointer (some ⟨w.heap.size, 0, none⟩) := hd 1 (by decide)
      have d9 : a.tmps[9]?.getD undef = .bool true := hd 9 (by decide)
      exact wpOp_skip rfl (wanted_of (want := false) (b := true) rfl rfl (by rw [eval_get]; exact d9)) (hK _ _ (Fr.refl _ _) hC rfl)
    · rw [if_neg (by decide)]; intro kq
      intro a W K hC hd hK
      have d1 : a.tmps[1]?.getD undef = .pointer (some ⟨w.heap.size, 0, none⟩) := hd 1 (by decide)
      have d9 : a.tmps[9]?.getD undef = .bool true := hd 9 (by decide)
      exact wpOp_skip rfl (wanted_of (want := false) (b := true) rfl rfl (by rw [eval_get]; exact d9)) (hK _ _ (Fr.refl _ _) hC rfl)
    · rw [if_neg (by decide)]; intro kq
      intro a W K hC hd hK
      have d11 : a.tmps[11]?.getD undef = undef := hd 11 (by decide)
      have d9 : a.tmps[9]?.getD undef = .bool true := hd 9 (by decide)
      exact wpOp_skip rfl (wanted_of (want := false) (b := true) rfl rfl (by rw [eval_get]; exact d9)) (hK _ _ (Fr.refl _ _) hC rfl)
    · rw [if_neg (by decide)]; intro kq
      intro a W K hC hd hK
      have d10 : a.tmps[10]?.getD undef = undef := hd 10 (by decide)
      have d12 : a.tmps[12]?.getD undef = undef := hd 12 (by decide)
      have d9 : a.tmps[9]?.getD undef = .bool true := hd 9 (by decide)
      exact wpOp_skip rfl (wanted_of (want := false) (b := true) rfl rfl (by rw [eval_get]; exact d9)) (hK _ _ (Fr.refl _ _) hC rfl)
    · rw [if_neg (by decide)]; intro kq
      intro a W K hC hd hK
      have d9 : a.tmps[9]?.getD undef = .bool true := hd 9 (by decide)
      have d13 : a.tmps[13]?.getD undef = undef := hd 13 (by decide)
      refine wpOp_plain rfl rfl ?_
      go_wp2_with fail
      exact hK _ _ (Fr.refl _ _) hC rfl
  · intro vs w8 fw8 cw8 hV
    have v14 : vs 9 = .bool true := hV 9 _ _ rfl rfl (by decide)
    clear hV
    simp only [putL, Act.put, Nat.reduceAdd, List.setIfInBounds_toArray, List.set_cons_zero, List.set_cons_succ, v14]
    go_wp2_with fail
    go_ret
    exact ⟨rfl, f0.then' fw8⟩

set_option maxRecDepth 100000 in
set_option maxHeartbeats 1600000 in
theorem checkB_calls (w : World) (o : OpV) (ht : SignsAt w) (h17 : ¬ 17 ≤ o.k) (hb : bareB o = false) (hw : o.wf) : Calls Tryd.prog 41 #[o.v] w (IntPost w (checkV o)) := by
  rw [checkV_bare h17 hb]
  have hk := hw.k
  have HK17 : Hid (decide ((17 : Int) ≤ o.k) = false) := decide_eq_false (by omega)
  have HK : Hid (o.k < 17) := by unfold Hid; omega
  have HNQ : Hid (∀ w, (binOp .neq 38 (.agg #[.int .u8 o.k, .string o.a, .string o.b, .int .u8 o.n, .int .u8 o.r]) (.agg #[.int .u8 (bareFrom o (zOf o)).k, .string (bareFrom o (zOf o)).a, .string (bareFrom o (zOf o)).b, .int .u8 (bareFrom o (zOf o)).n, .int .u8 (bareFrom o (zOf o)).r])).run Tryd.prog w = .ok (.bool true) w) := fun w => by
    rw [opNeq w o (bareFrom o (zOf o))]
    unfold bareB at hb
    rw [hb]; rfl
  clear hb h17
  have HM : Hid (Tryd.prog.eqGuardType Tryd.prog.depth 38 = false) := by unfold Hid; kernel_rfl
  have hv : o.v = .agg #[.int .u8 o.k, .string o.a, .string o.b, .int .u8 o.n, .int .u8 o.r] := rfl
  have hb0 : BlkAt (w.alloc (.cells #[.int .u8 o.k, .string o.a, .string o.b, .int .u8 o.n, .int .u8 o.r] 38)) w.heap.size 38 o.C := BlkAt.new _ _ _
  have f0 : Fr noB w (w.alloc (.cells #[.int .u8 o.k, .string o.a, .string o.b, .int .u8 o.n, .int .u8 o.r] 38)) := (Fr.refl noB w).alloc _
  have HB0 := hid hb0; clear hb0
  rw [hv]; clear hv
  go_enter Tryd.func41, Tryd.ntmps41
  go_wp2_with fail
  generalize w.alloc (.cells #[.int .u8 o.k, .string o.a, .string o.b, .int .u8 o.n, .int .u8 o.r] 38) = wa at *
  refine wp_region_calm (R := Fr noB) (C := fun _ w' => Fr noB wa w') [false, false, false, false, false, false, false, false, false, false]
    [eqv (.pointer (some ⟨w.heap.size, 0, none⟩)), eqv (.int .u8 o.k), eqv (.int .i64 o.k), eqv (.bool false), eqv (.bool false), eqv (.agg #[.int .u8 o.k, .string o.a, .string o.b, .int .u8 o.n, .int .u8 o.r]), eqv (.agg #[.int .u8 o.k, .string o.a, .string o.b, .int .u8 o.n, .int .u8 o.r]), eqv (.agg #[.int .u8 (bareFrom o (zOf o)).k, .string (bareFrom o (zOf o)).a, .string (bareFrom o (zOf o)).b, .int .u8 (bareFrom o (zOf o)).n, .int .u8 (bareFrom o (zOf o)).r]), eqv (.bool true), eqv (.bool true)]
    (by kernel_rfl) (by kernel_rfl) (fun _ _ _ h1 h2 => h1.then' h2) ((Fr.refl _ _).drew) ((Fr.refl _ _).drew) (by kernel_rfl) ?_ ?_
  · refine ⟨?_, ?_, ?_, ?_, ?_, ?_, ?_, ?_, ?_, ?_, trivial⟩
    · rw [if_neg (by decide)]; intro kq
      intro a W K hC hd hK
      have d1 : a.tmps[1]?.getD undef = .pointer (some ⟨w.heap.size, 0, none⟩) := hd 1 (by decide)
      refine wpOp_plain rfl rfl ?_
      go_wp2_with fail
      exact hK _ _ (Fr.refl _ _) hC rfl
    · rw [if_neg (by decide)]; intro kq
      intro a W K hC hd hK
      have d5 : a.tmps[5]?.getD undef = .pointer (some ⟨w.heap.size, 0, none⟩) := hd 5 (by decide)
      have hbx := hC.heap HB0.out id
      have c0 : W.cell? ⟨w.heap.size, 0, none⟩ = some (.int .u8 o.k) := by rw [cell_of_row _ _ _ _ _ _ hbx]; rfl
      have c1 : W.cell? ⟨w.heap.size, 1, none⟩ = some (.string o.a) := by rw [cell_of_row _ _ _ _ _ _ hbx]; rfl
      have c2 : W.cell? ⟨w.heap.size, 2, none⟩ = some (.string o.b) := by rw [cell_of_row _ _ _ _ _ _ hbx]; rfl
      have c3 : W.cell? ⟨w.heap.size, 3, none⟩ = some (.int .u8 o.n) := by rw [cell_of_row _ _ _ _ _ _ hbx]; rfl
      have c4 : W.cell? ⟨w.heap.size, 4, none⟩ = some (.int .u8 o.r) := by rw [cell_of_row _ _ _ _ _ _ hbx]; rfl
      refine wpOp_plain rfl rfl ?_
      go_wp2_with fail
      exact hK _ _ (Fr.refl _ _) hC rfl
    · rw [if_neg (by decide)]; intro kq
      intro a W K hC hd hK
      have d6 : a.tmps[6]?.getD undef = .int .u8 o.k := hd 6 (by decide)
      refine wpOp_plain rfl rfl ?_
      go_wp2_with fail
      exact hK _ _ (Fr.refl _ _) hC (by show _ = _; simp <;> omega)
    · rw [if_neg (by decide)]; intro kq
      intro a W K hC hd hK
      have d7 : a.tmps[7]?.getD undef = .int .i64 o.k := hd 7 (by decide)
      refine wpOp_plain rfl rfl ?_
      have hdk : decide ((17 : Int) ≤ o.k) = false := HK17.out
      go_wp2_with fail
      exact hK _ _ (Fr.refl _ _) hC rfl
    · rw [if_neg (by decide)]; intro kq
      exact calm_mv 8 rfl rfl (Or.inl rfl) (Fr.refl _) (by decide) fun v w hd => hd
    · rw [if_neg (by decide)]; intro kq
      intro a W K hC hd hK
      have d1 : a.tmps[1]?.getD undef = .pointer (some ⟨w.heap.size, 0, none⟩) := hd 1 (by decide)
      have d9 : a.tmps[9]?.getD undef = .bool false := hd 9 (by decide)
      have hbx := hC.heap HB0.out id
      have c0 : W.cell? ⟨w.heap.size, 0, none⟩ = some (.int .u8 o.k) := by rw [cell_of_row _ _ _ _ _ _ hbx]; rfl
      have c1 : W.cell? ⟨w.heap.size, 1, none⟩ = some (.string o.a) := by rw [cell_of_row _ _ _ _ _ _ hbx]; rfl
      have c2 : W.cell? ⟨w.heap.size, 2, none⟩ = some (.string o.b) := by rw [cell_of_row _ _ _ _ _ _ hbx]; rfl
      have c3 : W.cell? ⟨w.heap.size, 3, none⟩ = some (.int .u8 o.n) := by rw [cell_of_row _ _ _ _ _ _ hbx]; rfl
      have c4 : W.cell? ⟨w.heap.size, 4, none⟩ = some (.int .u8 o.r) := by rw [cell_of_row _ _ _ _ _ _ hbx]; rfl
      refine wpOp_want rfl (wanted_of (want := false) (b := false) rfl rfl (by rw [eval_get]; exact d9)) ?_
      go_wp2_with fail
      exact hK _ _ (Fr.refl _ _) hC rfl
    · rw [if_neg (by decide)]; intro kq
      intro a W K hC hd hK
      have d1 : a.tmps[1]?.getD undef = .pointer (some ⟨w.heap.size, 0, none⟩) := hd 1 (by decide)
      have d9 : a.tmps[9]?.getD undef = .bool false := hd 9 (by decide)
      have hbx := hC.heap HB0.out id
      have c0 : W.cell? ⟨w.heap.size, 0, none⟩ = some (.int .u8 o.k) := by rw [cell_of_row _ _ _ _ _ _ hbx]; rfl
      have c1 : W.cell? ⟨w.heap.size, 1, none⟩ = some (.string o.a) := by rw [cell_of_row _ _ _ _ _ _ hbx]; rfl
      have c2 : W.cell? ⟨w.heap.size, 2, none⟩ = some (.string o.b) := by rw [cell_of_row _ _ _ _ _ _ hbx]; rfl
      have c3 : W.cell? ⟨w.heap.size, 3, none⟩ = some (.int .u8 o.n) := by rw [cell_of_row _ _ _ _ _ _ hbx]; rfl
      have c4 : W.cell? ⟨w.heap.size, 4, none⟩ = some (.int .u8 o.r) := by rw [cell_of_row _ _ _ _ _ _ hbx]; rfl
      refine wpOp_want rfl (wanted_of (want := false) (b := false) rfl rfl (by rw [eval_get]; exact d9)) ?_
      go_wp2_with fail
      exact hK _ _ (Fr.refl _ _) hC rfl
    · rw [if_neg (by decide)]; intro kq
      intro a W K hC hd hK
      have d11 : a.tmps[11]?.getD undef = .agg #[.int .u8 o.k, .string o.a, .string o.b, .int .u8 o.n, .int .u8 o.r] := hd 11 (by decide)
      have d9 : a.tmps[9]?.getD undef = .bool false := hd 9 (by decide)
      refine wpOp_want rfl (wanted_of (want := false) (b := false) rfl rfl (by rw [eval_get]; exact d9)) ?_
      go_wp2_with fail
      refine (bare_calls W o (zOf o) (ht.fr0 (f0.then' hC)) (zOf_get HK.out)).mono ?_
      rintro e w9 ⟨rfl, f9⟩
      exact hK _ _ f9 (hC.then' f9) rfl
    · rw [if_neg (by decide)]; intro kq
      intro a W K hC hd hK
      have d10 : a.tmps[10]?.getD undef = .agg #[.int .u8 o.k, .string o.a, .string o.b, .int .u8 o.n, .int .u8 o.r] := hd 10 (by decide)
      have d12 : a.tmps[12]?.getD undef = .agg #[.int .u8 (bareFrom o (zOf o)).k, .string (bareFrom o (zOf o)).a, .string (bareFrom o (zOf o)).b, .int .u8 (bareFrom o (zOf o)).n, .int .u8 (bareFrom o (zOf o)).r] := hd 12 (by decide)
      have d9 : a.tmps[9]?.getD undef = .bool false := hd 9 (by decide)
      refine wpOp_want rfl (wanted_of (want := false) (b := false) rfl rfl (by rw [eval_get]; exact d9)) ?_
      have hnq : ∀ w, (binOp .neq 38 (.agg #[.int .u8 o.k, .string o.a, .string o.b, .int .u8 o.n, .int .u8 o.r]) (.agg #[.int .u8 (bareFrom o (zOf o)).k, .string (bareFrom o (zOf o)).a, .string (bareFrom o (zOf o)).b, .int .u8 (bareFrom o (zOf o)).n, .int .u8 (bareFrom o (zOf o)).r])).run Tryd.prog w = .ok (.bool true) w := HNQ.out
      have hm := HM.out
      go_wp2_with fail
      exact hK _ _ (Fr.refl _ _) hC rfl
    · rw [if_neg (by decide)]; intro kq
      intro a W K hC hd hK
      have d9 : a.tmps[9]?.getD undef = .bool false := hd 9 (by decide)
      have d13 : a.tmps[13]?.getD undef = .bool true := hd 13 (by decide)
      refine wpOp_plain rfl rfl ?_
      go_wp2_with fail
      exact hK _ _ (Fr.refl _ _) hC rfl
  · intro vs w8 fw8 cw8 hV
    have v14 : vs 9 = .bool true := hV 9 _ _ rfl rfl (by decide)
    clear hV
    simp only [putL, Act.put, Nat.reduceAdd, List.setIfInBounds_toArray, List.set_cons_zero, List.set_cons_succ, v14]
    go_wp2_with fail
    go_ret
    exact ⟨rfl, f0.then' fw8⟩

set_option maxRecDepth 100000 in
set_option maxHeartbeats 3200000 in
theorem checkR_calls (w : World) (o : OpV) (ht : SignsAt w) (h17 : ¬ 17 ≤ o.k) (hb : bareB o = true) (hw : o.wf) (ha1 : o.a.size ≤ 1000000000000000) (hb1 : o.b.size ≤ 1000000000000000) : Calls Tryd.prog 41 #[o.v] w (IntPost w (checkV o)) := by
  have HV0 := hid (checkV_rest h17 hb)
  generalize checkV o = v0 at *
  have hk := hw.k
  have HK17 : Hid (decide ((17 : Int) ≤ o.k) = false) := decide_eq_false (by omega)
  have HK : Hid (o.k < 17) := by unfold Hid; omega
  have hkb : 0 ≤ (o.k : Int) ∧ (o.k : Int) < 17 := ⟨by omega, by omega⟩
  have HNQ : Hid (∀ w, (binOp .neq 38 (.agg #[.int .u8 o.k, .string o.a, .string o.b, .int .u8 o.n, .int .u8 o.r]) (.agg #[.int .u8 (bareFrom o (zOf o)).k, .string (bareFrom o (zOf o)).a, .string (bareFrom o (zOf o)).b, .int .u8 (bareFrom o (zOf o)).n, .int .u8 (bareFrom o (zOf o)).r])).run Tryd.prog w = .ok (.bool false) w) := fun w => by
    rw [opNeq w o (bareFrom o (zOf o))]
    unfold bareB at hb
    rw [hb]; rfl
  clear hb h17
  have HM : Hid (Tryd.prog.eqGuardType Tryd.prog.depth 38 = false) := by unfold Hid; kernel_rfl
  have hv : o.v = .agg #[.int .u8 o.k, .string o.a, .string o.b, .int .u8 o.n, .int .u8 o.r] := rfl
  have hb0 : BlkAt (w.alloc (.cells #[.int .u8 o.k, .string o.a, .string o.b, .int .u8 o.n, .int .u8 o.r] 38)) w.heap.size 38 o.C := BlkAt.new _ _ _
  have f0 : Fr noB w (w.alloc (.cells #[.int .u8 o.k, .string o.a, .string o.b, .int .u8 o.n, .int .u8 o.r] 38)) := (Fr.refl noB w).alloc _
  have HB0 := hid hb0; clear hb0
  rw [hv]; clear hv
  go_enter Tryd.func41, Tryd.ntmps41
  go_wp2_with fail
  generalize w.alloc (.cells #[.int .u8 o.k, .string o.a, .string o.b, .int .u8 o.n, .int .u8 o.r] 38) = wa at *
  refine wp_region_calm (R := Fr noB) (C := fun _ w' => Fr noB wa w') [false, false, false, false, false, false, false, false, false, false]
    [eqv (.pointer (some ⟨w.heap.size, 0, none⟩)), eqv (.int .u8 o.k), eqv (.int .i64 o.k), eqv (.bool false), eqv (.bool false), eqv (.agg #[.int .u8 o.k, .string o.a, .string o.b, .int .u8 o.n, .int .u8 o.r]), eqv (.agg #[.int .u8 o.k, .string o.a, .string o.b, .int .u8 o.n, .int .u8 o.r]), eqv (.agg #[.int .u8 (bareFrom o (zOf o)).k, .string (bareFrom o (zOf o)).a, .string (bareFrom o (zOf o)).b, .int .u8 (bareFrom o (zOf o)).n, .int .u8 (bareFrom o (zOf o)).r]), eqv (.bool false), eqv (.bool false)]
    (by kernel_rfl) (by kernel_rfl) (fun _ _ _ h1 h2 => h1.then' h2) ((Fr.refl _ _).drew) ((Fr.refl _ _).drew) (by kernel_rfl) ?_ ?_
  · refine ⟨?_, ?_, ?_, ?_, ?_, ?_, ?_, ?_, ?_, ?_, trivial⟩
    · rw [if_neg (by decide)]; intro kq
      intro a W K hC hd hK
      have d1 : a.tmps[1]?.getD undef = .pointer (some ⟨w.heap.size, 0, none⟩) := hd 1 (by decide)
      refine wpOp_plain rfl rfl ?_
      go_wp2_with fail
      exact hK _ _ (Fr.refl _ _) hC rfl
    · rw [if_neg (by decide)]; intro kq
      intro a W K hC hd hK
      have d5 : a.tmps[5]?.getD undef = .pointer (some ⟨w.heap.size, 0, none⟩) := hd 5 (by decide)
      have hbx := hC.heap HB0.out id
      have c0 : W.cell? ⟨w.heap.size, 0, none⟩ = some (.int .u8 o.k) := by rw [cell_of_row _ _ _ _ _ _ hbx]; rfl
      have c1 : W.cell? ⟨w.heap.size, 1, none⟩ = some (.string o.a) := by rw [cell_of_row _ _ _ _ _ _ hbx]; rfl
      have c2 : W.cell? ⟨w.heap.size, 2, none⟩ = some (.string o.b) := by rw [cell_of_row _ _ _ _ _ _ hbx]; rfl
      have c3 : W.cell? ⟨w.heap.size, 3, none⟩ = some (.int .u8 o.n) := by rw [cell_of_row _ _ _ _ _ _ hbx]; rfl
      have c4 : W.cell? ⟨w.heap.size, 4, none⟩ = some (.int .u8 o.r) := by rw [cell_of_row _ _ _ _ _ _ hbx]; rfl
      refine wpOp_plain rfl rfl ?_
      go_wp2_with fail
      exact hK _ _ (Fr.refl _ _) hC rfl
    · rw [if_neg (by decide)]; intro kq
      intro a W K hC hd hK
      have d6 : a.tmps[6]?.getD undef = .int .u8 o.k := hd 6 (by decide)
      refine wpOp_plain rfl rfl ?_
      go_wp2_with fail
      exact hK _ _ (Fr.refl _ _) hC (by show _ = _; simp <;> omega)
    · rw [if_neg (by decide)]; intro kq
      intro a W K hC hd hK
      have d7 : a.tmps[7]?.getD undef = .int .i64 o.k := hd 7 (by decide)
      refine wpOp_plain rfl rfl ?_
      have hdk : decide ((17 : Int) ≤ o.k) = false := HK17.out
      go_wp2_with fail
      exact hK _ _ (Fr.refl _ _) hC rfl
    · rw [if_neg (by decide)]; intro kq
      exact calm_mv 8 rfl rfl (Or.inl rfl) (Fr.refl _) (by decide) fun v w hd => hd
    · rw [if_neg (by decide)]; intro kq
      intro a W K hC hd hK
      have d1 : a.tmps[1]?.getD undef = .pointer (some ⟨w.heap.size, 0, none⟩) := hd 1 (by decide)
      have d9 : a.tmps[9]?.getD undef = .bool false := hd 9 (by decide)
      have hbx := hC.heap HB0.out id
      have c0 : W.cell? ⟨w.heap.size, 0, none⟩ = some (.int .u8 o.k) := by rw [cell_of_row _ _ _ _ _ _ hbx]; rfl
      have c1 : W.cell? ⟨w.heap.size, 1, none⟩ = some (.string o.a) := by rw [cell_of_row _ _ _ _ _ _ hbx]; rfl
      have c2 : W.cell? ⟨w.heap.size, 2, none⟩ = some (.string o.b) := by rw [cell_of_row _ _ _ _ _ _ hbx]; rfl
      have c3 : W.cell? ⟨w.heap.size, 3, none⟩ = some (.int .u8 o.n) := by rw [cell_of_row _ _ _ _ _ _ hbx]; rfl
      have c4 : W.cell? ⟨w.heap.size, 4, none⟩ = some (.int .u8 o.r) := by rw [cell_of_row _ _ _ _ _ _ hbx]; rfl
      refine wpOp_want rfl (wanted_of (want := false) (b := false) rfl rfl (by rw [eval_get]; exact d9)) ?_
      go_wp2_with fail
      exact hK _ _ (Fr.refl _ _) hC rfl
    · rw [if_neg (by decide)]; intro kq
      intro a W K hC hd hK
      have d1 : a.tmps[1]?.getD undef = .pointer (some ⟨w.heap.size, 0, none⟩) := hd 1 (by decide)
      have d9 : a.tmps[9]?.getD undef = .bool false := hd 9 (by decide)
      have hbx := hC.heap HB0.out id
      have c0 : W.cell? ⟨w.heap.size, 0, none⟩ = some (.int .u8 o.k) := by rw [cell_of_row _ _ _ _ _ _ hbx]; rfl
      have c1 : W.cell? ⟨w.heap.size, 1, none⟩ = some (.string o.a) := by rw [cell_of_row _ _ _ _ _ _ hbx]; rfl
      have c2 : W.cell? ⟨w.heap.size, 2, none⟩ = some (.string o.b) := by rw [cell_of_row _ _ _ _ _ _ hbx]; rfl
      have c3 : W.cell? ⟨w.heap.size, 3, none⟩ = some (.int .u8 o.n) := by rw [cell_of_row _ _ _ _ _ _ hbx]; rfl
      have c4 : W.cell? ⟨w.heap.size, 4, none⟩ = some (.int .u8 o.r) := by rw [cell_of_row _ _ _ _ _ _ hbx]; rfl
      refine wpOp_want rfl (wanted_of (want := false) (b := false) rfl rfl (by rw [eval_get]; exact d9)) ?_
      go_wp2_with fail
      exact hK _ _ (Fr.refl _ _) hC rfl
    · rw [if_neg (by decide)]; intro kq
      intro a W K hC hd hK
      have d11 : a.tmps[11]?.getD undef = .agg #[.int .u8 o.k, .string o.a, .string o.b, .int .u8 o.n, .int .u8 o.r] := hd 11 (by decide)
      have d9 : a.tmps[9]?.getD undef = .bool false := hd 9 (by decide)
      refine wpOp_want rfl (wanted_of (want := false) (b := false) rfl rfl (by rw [eval_get]; exact d9)) ?_
      go_wp2_with fail
      refine (bare_calls W o (zOf o) (ht.fr0 (f0.then' hC)) (zOf_get HK.out)).mono ?_
      rintro e w9 ⟨rfl, f9⟩
      exact hK _ _ f9 (hC.then' f9) rfl
    · rw [if_neg (by decide)]; intro kq
      intro a W K hC hd hK
      have d10 : a.tmps[10]?.getD undef = .agg #[.int .u8 o.k, .string o.a, .string o.b, .int .u8 o.n, .int .u8 o.r] := hd 10 (by decide)
      have d12 : a.tmps[12]?.getD undef = .agg #[.int .u8 (bareFrom o (zOf o)).k, .string (bareFrom o (zOf o)).a, .string (bareFrom o (zOf o)).b, .int .u8 (bareFrom o (zOf o)).n, .int .u8 (bareFrom o (zOf o)).r] := hd 12 (by decide)
      have d9 : a.tmps[9]?.getD undef = .bool false := hd 9 (by decide)
      refine wpOp_want rfl (wanted_of (want := false) (b := false) rfl rfl (by rw [eval_get]; exact d9)) ?_
      have hnq : ∀ w, (binOp .neq 38 (.agg #[.int .u8 o.k, .string o.a, .string o.b, .int .u8 o.n, .int .u8 o.r]) (.agg #[.int .u8 (bareFrom o (zOf o)).k, .string (bareFrom o (zOf o)).a, .string (bareFrom o (zOf o)).b, .int .u8 (bareFrom o (zOf o)).n, .int .u8 (bareFrom o (zOf o)).r])).run Tryd.prog w = .ok (.bool false) w := HNQ.out
      have hm := HM.out
      go_wp2_with fail
      exact hK _ _ (Fr.refl _ _) hC rfl
    · rw [if_neg (by decide)]; intro kq
      intro a W K hC hd hK
      have d9 : a.tmps[9]?.getD undef = .bool false := hd 9 (by decide)
      have d13 : a.tmps[13]?.getD undef = .bool false := hd 13 (by decide)
      refine wpOp_plain rfl rfl ?_
      go_wp2_with fail
      exact hK _ _ (Fr.refl _ _) hC rfl
  · intro vs w8 fw8 cw8 hV
    have v14 : vs 9 = .bool false := hV 9 _ _ rfl rfl (by decide)
    clear hV
    simp only [putL, Act.put, Nat.reduceAdd, List.setIfInBounds_toArray, List.set_cons_zero, List.set_cons_succ, v14]
    have F8 : Fr noB w w8 := f0.then' fw8
    have hbx := HB0.out.fr fw8 id
    have c0 := hbx.cell (k := 0) (v := .int .u8 o.k) rfl
    have hz0 := zOf_get HK.out
    have cz : w8.cell? ⟨1, o.k, none⟩ = some (.string (mkS (zOf o))) := F8.cell (ht o.k _ hz0) id
    have hcv := Tryd.fromStr w8 (mkS (zOf o))
    have hwf := bytesW_fr w8 (mkS (zOf o))
    have hwr := bytesW_row w8 (mkS (zOf o))
    rw [mkS_data] at hwr
    rw [mkS_size] at hcv
    generalize Lib.bytesWorld w8 5 (mkS (zOf o)) = wc at *
    generalize (⟨w8.heap.size, 0, none⟩ : Addr) = ad at *
    have F9 : Fr noB w wc := F8.then' hwf
    have hbc := hbx.fr hwf id
    obtain ⟨n, hn⟩ : ∃ n, (zOf o).length = n := ⟨_, rfl⟩
    rw [hn] at hcv
    have HN := hid hn; clear hn
    have hz2 := signs_two _ (List.mem_of_getElem? hz0)
    rw [HN.out] at hz2
    clear hz0 hbx hwf
    go_wp2_with fail
    go_loopw [21] (fun i wr => ∃ j : Nat, j ≤ n ∧ i = .int .i64 j ∧ ((zOf o).take j).all (rightV o) = true ∧ Fr noB wc wr) (fun i _ => n - (intOf i).toNat)
    case atStart => exact ⟨0, Nat.zero_le _, rfl, by simp, Fr.refl _ _⟩
    case round =>
      obtain ⟨j, hj, rfl, hall, hf⟩ := hrel
      have hbr := hbc.fr hf id
      have x0 := hbr.cell (k := 0) (v := .int .u8 o.k) rfl
      have x1 := hbr.cell (k := 1) (v := .string o.a) rfl
      have x2 := hbr.cell (k := 2) (v := .string o.b) rfl
      have x3 := hbr.cell (k := 3) (v := .int .u8 o.n) rfl
      have x4 := hbr.cell (k := 4) (v := .int .u8 o.r) rfl
      by_cases hjn : j < n
      · obtain ⟨c, hc⟩ : ∃ c, (zOf o)[j]? = some c := ⟨_, List.getElem?_eq_getElem (by rw [HN.out]; exact hjn)⟩
        have hcx : wr.cell? (ad.add j) = some (.int .u8 c.toNat) := (hwr.fr0 hf).cell (by unfold bcells; rw [List.getElem?_map, hc]; rfl)
        have HT : Hid (((zOf o).take (j + 1)).all (rightV o) = rightV o c) := by unfold Hid; rw [take_snoc' hc, List.all_append, hall]; simp
        have HM2 := hid (List.mem_of_getElem? hc)
        clear hall hc
        by_cases hr : rightV o c = true
        · have hcl : ∀ W, Calls Tryd.prog 82 #[o.v, .int .u8 c.toNat] W (BoolPost W true) := fun W => by have := right_calls W o c; rw [hr] at this; exact this
          rw [hr] at HT
          have HR := hid hr; clear hr
          go_wp2_with fail
          refine (hcl _).mono ?_
          rintro e w9 ⟨rfl, f9⟩
          go_wp2_with fail
          go_roundw
          case rel => exact ⟨j + 1, by omega, by go_num, HT.out, hf.then' f9⟩
          case measure => simp [intOf]; omega
        · have hr' : rightV o c = false := by simpa using hr
          have hcl : ∀ W, Calls Tryd.prog 82 #[o.v, .int .u8 c.toNat] W (BoolPost W false) := fun W => by have := right_calls W o c; rw [hr'] at this; exact this
          have HV : Hid ((zOf o).all (rightV o) = false) := List.all_eq_false.2 ⟨c, HM2.out, hr⟩
          clear hr hr'
          go_wp2_with fail
          refine (hcl _).mono ?_
          rintro e w9 ⟨rfl, f9⟩
          go_wp2_with fail
          go_ret
          refine ⟨?_, (F9.then' hf).then' f9⟩
          rw [HV0.out, if_pos HV.out]; rfl
      · have : j = n := by omega
        subst this
        have HV : Hid ((zOf o).all (rightV o) = true) := by unfold Hid; rw [List.take_of_length_le (by rw [HN.out]; exact Nat.le_refl _)] at hall; exact hall
        clear hall hwr hbc
        by_cases h64 : 64 < o.a.size + o.b.size
        · have d1 : decide ((64 : Int) < (o.a.size : Int) + o.b.size) = true := decide_eq_true (by omega)
          have H64 := hid h64; clear h64
          go_wp2_with fail
          go_ret
          refine ⟨?_, F9.then' hf⟩
          rw [HV0.out, if_neg (by rw [HV.out]; decide), if_pos H64.out]; rfl
        · have d1 : decide ((64 : Int) < (o.a.size : Int) + o.b.size) = false := decide_eq_false (by omega)
          have H64 := hid h64
          have hcl := write_calls wr o (zOf o) (ht.fr0 (F9.then' hf)) (zOf_get HK.out) hw (by omega) (by omega)
          clear h64
          obtain ⟨m, hm⟩ : ∃ m, (writeB o (zOf o)).length = m := ⟨_, rfl⟩
          have HMM := hid hm
          unfold BytesPost at hcl
          rw [hm] at hcl
          clear hm
          go_wp2_with fail
          refine hcl.mono ?_
          rintro e w9 ⟨A, c, rfl, h9, f9⟩
          have HF := hid ((F9.then' hf).then' f9)
          clear h9 f9 hcl
          by_cases hm64 : 64 < m
          · have hm64' := hid hm64; clear hm64
            have d2 : decide ((64 : Int) < (m : Int)) = true := decide_eq_true (by have := hm64'.out; omega)
            go_wp2_with fail
            go_ret
            refine ⟨?_, HF.out⟩
            rw [HV0.out, if_neg (by rw [HV.out]; decide), if_neg H64.out, HMM.out, if_pos hm64'.out]; rfl
          · have hm64' := hid hm64; clear hm64
            have d2 : decide ((64 : Int) < (m : Int)) = false := decide_eq_false (by have := hm64'.out; omega)
            go_wp2_with fail
            go_ret
            refine ⟨?_, HF.out⟩
            rw [HV0.out, if_neg (by rw [HV.out]; decide), if_neg H64.out, HMM.out, if_neg hm64'.out]; rfl
theorem check_calls (w : World) (o : OpV) (ht : SignsAt w) (hw : o.wf) (ha1 : o.a.size ≤ 1000000000000000) (hb1 : o.b.size ≤ 1000000000000000) : Calls Tryd.prog 41 #[o.v] w (IntPost w (checkV o)) := by
  by_cases h : 17 ≤ o.k
  · exact check17_calls w o h hw
  · cases hb : bareB o
    · exact checkB_calls w o ht h hb hw
    · exact checkR_calls w o ht h hb hw ha1 hb1
end Go.Proofs.YtcaihinenfnekaaDoor
