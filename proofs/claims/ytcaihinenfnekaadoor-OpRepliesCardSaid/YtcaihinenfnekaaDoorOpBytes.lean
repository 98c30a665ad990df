/- interrexlaw14.OpBytes: the walk. -/
import Derived.Test.YtcaihinenfnekaaDoorOpReads
namespace Go.Proofs.YtcaihinenfnekaaDoor
open Go.RowKit

theorem own_nil {w : World} {base n : Nat} {e : TypeId} {size : Nat} {A : Option Addr} {m c : Nat} {xs : List Value} (h : w.ownsRow base e size (.slice A m c) n xs) : A = none → m = 0 ∧ c = 0 := by
  rintro rfl
  rcases h.2 with ⟨e1, _⟩ | ⟨g, cap, cur, e1, _⟩
  · injection e1 with _ h1 h2; exact ⟨h1, h2⟩
  · injection e1 with h1; cases h1
set_option maxRecDepth 100000 in
set_option maxHeartbeats 1600000 in
theorem opBytes_walk (w : World) (ht : SignsAt w) (o : OpV) (hw : o.wf) :
    Calls Tryd.prog 7 #[o.v] w (BoolPost w true) := by
  have hv : o.v = .agg #[.int .u8 o.k, .string o.a, .string o.b, .int .u8 o.n, .int .u8 o.r] := rfl
  have hb0 : BlkAt (w.alloc (.cells #[.int .u8 o.k, .string o.a, .string o.b, .int .u8 o.n, .int .u8 o.r] 38)) w.heap.size 38 #[.int .u8 o.k, .string o.a, .string o.b, .int .u8 o.n, .int .u8 o.r] := BlkAt.new _ _ _
  have f0 : Fr noB w (w.alloc (.cells #[.int .u8 o.k, .string o.a, .string o.b, .int .u8 o.n, .int .u8 o.r] 38)) := (Fr.refl noB w).alloc _
  by_cases hl : 200 < o.a.size ∨ 200 < o.b.size
  · obtain ⟨c1, hc1⟩ : ∃ c, decide ((200 : Int) < o.a.size) = c := ⟨_, rfl⟩
    have hc2 : c1 = false → decide ((200 : Int) < o.b.size) = true := fun h => by
      rw [h, decide_eq_false_iff_not] at hc1
      exact decide_eq_true (by omega)
    clear hl
    rw [hv]; clear hv
    have hlv := fun W hx => livesO_calls W hx
    cases c1
    all_goals
      first | (replace hc2 := hc2 rfl) | clear hc2
      go_enter Tryd.func7, Tryd.ntmps7
      go_wp2_with fail
      generalize (w.alloc (.cells #[.int .u8 o.k, .string o.a, .string o.b, .int .u8 o.n, .int .u8 o.r] 38)) = wa at *
      refine (hlv wa (ht.fr0 f0)).mono ?_
      rintro e w1 ⟨rfl, f1⟩
      obtain ⟨x0, x1, x2, x3, x4, xf⟩ := BlkAt.c5 (hb0.fr f1 id)
      have F1 := f0.then' f1
      clear hb0 f0 f1
      go_wp2_with fail
      refine (hlv w1 (ht.fr0 F1)).mono ?_
      rintro e w2 ⟨rfl, f2⟩
      go_wp2_with fail
      go_ret
      exact BoolPost.mk' rfl (F1.then' f2)
  · have d1 : decide ((200 : Int) < o.a.size) = false := decide_eq_false (by omega)
    have d2 : decide ((200 : Int) < o.b.size) = false := decide_eq_false (by omega)
    have ha1 : o.a.size ≤ 1000000000000000 := by omega
    have hb1 : o.b.size ≤ 1000000000000000 := by omega
    have hcR := fun W => checkO_calls W o hw (by omega) (by omega)
    have hck := fun W hx => check_calls W o hx hw ha1 hb1
    have htx := fun W => textO_calls W o hw (by omega) (by omega)
    rw [check_eq o] at hcR
    by_cases hc : checkV o = 0
    · have hby := fun W hx => bytesOk_calls W o hx hw hc
      have hwl : (writeB o (zOf o)).length ≤ 64 := (checkV_ok hc).2.2.2.2
      have hrd := opRead_write hw hc
      rw [textO_eq (checkV_ok hc).1 (by omega) (by omega)] at htx
      rw [hc] at hcR hck
      generalize writeB o (zOf o) = wb at *
      have hnq := fun W => opEqR W o
      rw [hv] at hcR hck htx hby ⊢
      have HRD := hid hrd
      have heq : ((mkS wb).toList == (mkS wb).toList) = true := by simp
      obtain ⟨m, hm⟩ : ∃ m, wb.length = m := ⟨_, rfl⟩
      have hle : decide ((m : Int) ≤ 64) = true := decide_eq_true (by omega)
      unfold BytesEPost at hby
      rw [hm] at hby
      have HM := hid hm
      have hv' := hv
      clear hrd hc hl hv ha1 hb1 hw hm hwl
      go_enter Tryd.func7, Tryd.ntmps7
      go_wp2_with fail
      generalize (w.alloc (.cells #[.int .u8 o.k, .string o.a, .string o.b, .int .u8 o.n, .int .u8 o.r] 38)) = wa at *
      refine (livesO_calls wa (ht.fr0 f0)).mono ?_
      rintro e w1 ⟨rfl, f1⟩
      replace hb0 := hb0.fr f1 id
      obtain ⟨u0, u1, u2, u3, u4, uf⟩ := BlkAt.c5 hb0
      replace hb0 := hb0.al (.cells #[.int .u8 o.k, .string o.a, .string o.b, .int .u8 o.n, .int .u8 o.r] 69)
      have hbx : BlkAt (w1.alloc (.cells #[.int .u8 o.k, .string o.a, .string o.b, .int .u8 o.n, .int .u8 o.r] 69)) w1.heap.size 69 #[.int .u8 o.k, .string o.a, .string o.b, .int .u8 o.n, .int .u8 o.r] := BlkAt.new _ _ _
      obtain ⟨x0, x1, x2, x3, x4, xf⟩ := BlkAt.c5 hb0
      have F2 := (f0.then' f1).alloc (.cells #[.int .u8 o.k, .string o.a, .string o.b, .int .u8 o.n, .int .u8 o.r] 69)
      clear f1
      go_wp2_with fail
      generalize hpx : w1.heap.size = px at *
      generalize (w1.alloc (.cells #[.int .u8 o.k, .string o.a, .string o.b, .int .u8 o.n, .int .u8 o.r] 69)) = w2 at *
      clear u0 u1 u2 u3 u4 uf x0 x1 x2 x3 x4 xf
      refine (hby w2 (ht.fr0 F2)).mono ?_
      rintro e w3 ⟨A2, c2, rfl, h3, f3⟩
      have F3 := F2.then' f3
      replace hb0 := hb0.fr f3 id
      replace hbx := hbx.fr f3 id
      have hr3 := own_row h3
      have hn3 := own_nil h3
      obtain ⟨x0, x1, x2, x3, x4, xf⟩ := BlkAt.c5 hbx
      clear f3 F2 h3 hby
      go_wp2_with fail
      refine (hcR w3).mono ?_
      rintro e w4 ⟨rfl, f4⟩
      have F4 := F3.then' f4
      replace hb0 := hb0.fr f4 id
      replace hbx := hbx.fr f4 id
      replace hr3 := hr3.fr0 f4
      clear x0 x1 x2 x3 x4 xf
      obtain ⟨x0, x1, x2, x3, x4, xf⟩ := BlkAt.c5 hb0
      clear f4 F3 hcR
      go_wp2_with fail
      refine (hck w4 (ht.fr0 F4)).mono ?_
      rintro e w5 ⟨rfl, f5⟩
      have F5 := F4.then' f5
      replace hb0 := hb0.fr f5 id
      replace hbx := hbx.fr f5 id
      replace hr3 := hr3.fr0 f5
      have hro := opRead_calls w5 A2 m c2 wb (ht.fr0 F5) hr3 HM.out hn3
      rw [HRD.out] at hro
      unfold OpEPost at hro
      rw [hv'] at hro
      clear f5 F4 hck x0 x1 x2 x3 x4 xf
      go_wp2_with fail
      refine hro.mono ?_
      rintro e w6 ⟨rfl, f6⟩
      have F7 := (F5.then' f6).alloc (.cells #[.int .u8 o.k, .string o.a, .string o.b, .int .u8 o.n, .int .u8 o.r] 38)
      replace hb0 := (hb0.fr f6 id).al (.cells #[.int .u8 o.k, .string o.a, .string o.b, .int .u8 o.n, .int .u8 o.r] 38)
      replace hbx := (hbx.fr f6 id).al (.cells #[.int .u8 o.k, .string o.a, .string o.b, .int .u8 o.n, .int .u8 o.r] 38)
      replace hr3 := (hr3.fr0 f6).fr0 ((Fr.refl noB _).alloc (.cells #[.int .u8 o.k, .string o.a, .string o.b, .int .u8 o.n, .int .u8 o.r] 38))
      have hby : BlkAt (w6.alloc (.cells #[.int .u8 o.k, .string o.a, .string o.b, .int .u8 o.n, .int .u8 o.r] 38)) w6.heap.size 38 #[.int .u8 o.k, .string o.a, .string o.b, .int .u8 o.n, .int .u8 o.r] := BlkAt.new _ _ _
      clear f6 F5 hro
      go_wp2_with fail
      generalize hpy : w6.heap.size = py at *
      generalize (w6.alloc (.cells #[.int .u8 o.k, .string o.a, .string o.b, .int .u8 o.n, .int .u8 o.r] 38)) = w7 at *
      apply wp_region_calm (R := Fr noB) (C := fun q W => Fr noB w7 W ∧ BlkAt W (w.heap.size) 38 #[.int .u8 o.k, .string o.a, .string o.b, .int .u8 o.n, .int .u8 o.r] ∧ BlkAt W (px) 69 #[.int .u8 o.k, .string o.a, .string o.b, .int .u8 o.n, .int .u8 o.r] ∧ BlkAt W (py) 38 #[.int .u8 o.k, .string o.a, .string o.b, .int .u8 o.n, .int .u8 o.r]) [false, false, false, false, false, false, false, false, false, false, false, false, false, false, false, false, false, false, false, false]
        [eqv _, eqv _, eqv _, eqv _, eqv _, eqv _, eqv _, eqv _, eqv _, eqv _, eqv _, eqv _, eqv _, eqv _, eqv _, eqv _, eqv _, eqv _, eqv _, eqv _]
        (by kernel_rfl) (by kernel_rfl) (fun _ _ _ h1 h2 => h1.then' h2) ((Fr.refl _ _).drew) ⟨(Fr.refl _ _).drew, hb0, hbx, hby⟩ (by kernel_rfl)
      · refine ⟨?_, ?_, ?_, ?_, ?_, ?_, ?_, ?_, ?_, ?_, ?_, ?_, ?_, ?_, ?_, ?_, ?_, ?_, ?_, ?_, trivial⟩
        · rw [if_neg (by decide)]; intro kq
          exact calm_mv 4 rfl rfl (Or.inl rfl) (Fr.refl _) (by decide) fun v w hd => hd
        · rw [if_neg (by decide)]; intro kq
          intro a W K hC hd hK
          have d49 : _ = _ := hd 49 (by decide)
          refine wpOp_plain rfl rfl ?_
          have hst := Tryd.toStr (hr3.fr0 hC.1) HM.out c2
          go_wp2_with fail
          exact hK _ _ (Fr.refl _ _) hC rfl
        · rw [if_neg (by decide)]; intro kq
          intro a W K hC hd hK
          have d3 : a.tmps[3]?.getD undef = .pointer (some ⟨px, 0, none⟩) := hd 3 (by decide)
          refine wpOp_plain rfl rfl ?_
          obtain ⟨x0_0, x0_1, x0_2, x0_3, x0_4, z0⟩ := BlkAt.c5 (hC.2.1)
          obtain ⟨x1_0, x1_1, x1_2, x1_3, x1_4, z1⟩ := BlkAt.c5 (hC.2.2.1)
          obtain ⟨x2_0, x2_1, x2_2, x2_3, x2_4, z2⟩ := BlkAt.c5 (hC.2.2.2)
          go_wp2_with fail
          exact hK _ _ (Fr.refl _ _) hC rfl
        · rw [if_neg (by decide)]; intro kq
          intro a W K hC hd hK
          have d51 : _ = _ := hd 51 (by decide)
          refine wpOp_plain rfl rfl ?_
          obtain ⟨x0_0, x0_1, x0_2, x0_3, x0_4, z0⟩ := BlkAt.c5 (hC.2.1)
          obtain ⟨x1_0, x1_1, x1_2, x1_3, x1_4, z1⟩ := BlkAt.c5 (hC.2.2.1)
          obtain ⟨x2_0, x2_1, x2_2, x2_3, x2_4, z2⟩ := BlkAt.c5 (hC.2.2.2)
          go_wp2_with fail
          refine (htx W).mono ?_
          rintro e w9 ⟨rfl, f9⟩
          exact hK _ _ f9 ⟨hC.1.then' f9, hC.2.1.fr f9 id, hC.2.2.1.fr f9 id, hC.2.2.2.fr f9 id⟩ rfl
        · rw [if_neg (by decide)]; intro kq
          intro a W K hC hd hK
          have d50 : _ = _ := hd 50 (by decide)
          have d52 : _ = _ := hd 52 (by decide)
          refine wpOp_plain rfl rfl ?_
          go_wp2_with fail
          exact hK _ _ (Fr.refl _ _) hC rfl
        · rw [if_neg (by decide)]; intro kq
          exact calm_mv 53 rfl rfl (Or.inl rfl) (Fr.refl _) (by decide) fun v w hd => hd
        · rw [if_neg (by decide)]; intro kq
          intro a W K hC hd hK
          have d4 : a.tmps[4]?.getD undef = .slice A2 m c2 := hd 4 (by decide)
          have d54 : _ = _ := hd 54 (by decide)
          first | (exact wpOp_skip rfl (wanted_of (want := true) (b := false) rfl rfl (by rw [eval_get]; exact d54)) (hK _ _ (Fr.refl _ _) hC rfl)) | (refine wpOp_want rfl (wanted_of (want := true) (b := true) rfl rfl (by rw [eval_get]; exact d54)) ?_)
          all_goals (
            go_wp2_with fail
            exact hK _ _ (Fr.refl _ _) hC rfl)
        · rw [if_neg (by decide)]; intro kq
          intro a W K hC hd hK
          have d55 : _ = _ := hd 55 (by decide)
          have d54 : _ = _ := hd 54 (by decide)
          first | (exact wpOp_skip rfl (wanted_of (want := true) (b := false) rfl rfl (by rw [eval_get]; exact d54)) (hK _ _ (Fr.refl _ _) hC rfl)) | (refine wpOp_want rfl (wanted_of (want := true) (b := true) rfl rfl (by rw [eval_get]; exact d54)) ?_)
          all_goals (
            obtain ⟨x0_0, x0_1, x0_2, x0_3, x0_4, z0⟩ := BlkAt.c5 (hC.2.1)
            obtain ⟨x1_0, x1_1, x1_2, x1_3, x1_4, z1⟩ := BlkAt.c5 (hC.2.2.1)
            obtain ⟨x2_0, x2_1, x2_2, x2_3, x2_4, z2⟩ := BlkAt.c5 (hC.2.2.2)
            go_wp2_with fail
            exact hK _ _ (Fr.refl _ _) hC rfl)
        · rw [if_neg (by decide)]; intro kq
          intro a W K hC hd hK
          have d56 : _ = _ := hd 56 (by decide)
          have d54 : _ = _ := hd 54 (by decide)
          first | (exact wpOp_skip rfl (wanted_of (want := true) (b := false) rfl rfl (by rw [eval_get]; exact d54)) (hK _ _ (Fr.refl _ _) hC rfl)) | (refine wpOp_want rfl (wanted_of (want := true) (b := true) rfl rfl (by rw [eval_get]; exact d54)) ?_)
          all_goals (
            go_wp2_with fail
            exact hK _ _ (Fr.refl _ _) hC rfl)
        · rw [if_neg (by decide)]; intro kq
          intro a W K hC hd hK
          have d54 : _ = _ := hd 54 (by decide)
          have d57 : _ = _ := hd 57 (by decide)
          refine wpOp_plain rfl rfl ?_
          go_wp2_with fail
          exact hK _ _ (Fr.refl _ _) hC rfl
        · rw [if_neg (by decide)]; intro kq
          exact calm_mv 58 rfl rfl (Or.inl rfl) (Fr.refl _) (by decide) fun v w hd => hd
        · rw [if_neg (by decide)]; intro kq
          intro a W K hC hd hK
          have d7 : a.tmps[7]?.getD undef = .int .i64 0 := hd 7 (by decide)
          have d59 : _ = _ := hd 59 (by decide)
          first | (exact wpOp_skip rfl (wanted_of (want := true) (b := false) rfl rfl (by rw [eval_get]; exact d59)) (hK _ _ (Fr.refl _ _) hC rfl)) | (refine wpOp_want rfl (wanted_of (want := true) (b := true) rfl rfl (by rw [eval_get]; exact d59)) ?_)
          all_goals (
            go_wp2_with fail
            exact hK _ _ (Fr.refl _ _) hC rfl)
        · rw [if_neg (by decide)]; intro kq
          intro a W K hC hd hK
          have d60 : _ = _ := hd 60 (by decide)
          have d59 : _ = _ := hd 59 (by decide)
          first | (exact wpOp_skip rfl (wanted_of (want := true) (b := false) rfl rfl (by rw [eval_get]; exact d59)) (hK _ _ (Fr.refl _ _) hC rfl)) | (refine wpOp_want rfl (wanted_of (want := true) (b := true) rfl rfl (by rw [eval_get]; exact d59)) ?_)
          all_goals (
            go_wp2_with fail
            exact hK _ _ (Fr.refl _ _) hC rfl)
        · rw [if_neg (by decide)]; intro kq
          intro a W K hC hd hK
          have d59 : _ = _ := hd 59 (by decide)
          have d61 : _ = _ := hd 61 (by decide)
          refine wpOp_plain rfl rfl ?_
          go_wp2_with fail
          exact hK _ _ (Fr.refl _ _) hC rfl
        · rw [if_neg (by decide)]; intro kq
          exact calm_mv 62 rfl rfl (Or.inl rfl) (Fr.refl _) (by decide) fun v w hd => hd
        · rw [if_neg (by decide)]; intro kq
          intro a W K hC hd hK
          have d6 : a.tmps[6]?.getD undef = .pointer (some ⟨py, 0, none⟩) := hd 6 (by decide)
          have d63 : _ = _ := hd 63 (by decide)
          first | (exact wpOp_skip rfl (wanted_of (want := true) (b := false) rfl rfl (by rw [eval_get]; exact d63)) (hK _ _ (Fr.refl _ _) hC rfl)) | (refine wpOp_want rfl (wanted_of (want := true) (b := true) rfl rfl (by rw [eval_get]; exact d63)) ?_)
          all_goals (
            obtain ⟨x0_0, x0_1, x0_2, x0_3, x0_4, z0⟩ := BlkAt.c5 (hC.2.1)
            obtain ⟨x1_0, x1_1, x1_2, x1_3, x1_4, z1⟩ := BlkAt.c5 (hC.2.2.1)
            obtain ⟨x2_0, x2_1, x2_2, x2_3, x2_4, z2⟩ := BlkAt.c5 (hC.2.2.2)
            go_wp2_with fail
            exact hK _ _ (Fr.refl _ _) hC rfl)
        · rw [if_neg (by decide)]; intro kq
          intro a W K hC hd hK
          have d1 : a.tmps[1]?.getD undef = .pointer (some ⟨w.heap.size, 0, none⟩) := hd 1 (by decide)
          have d63 : _ = _ := hd 63 (by decide)
          first | (exact wpOp_skip rfl (wanted_of (want := true) (b := false) rfl rfl (by rw [eval_get]; exact d63)) (hK _ _ (Fr.refl _ _) hC rfl)) | (refine wpOp_want rfl (wanted_of (want := true) (b := true) rfl rfl (by rw [eval_get]; exact d63)) ?_)
          all_goals (
            obtain ⟨x0_0, x0_1, x0_2, x0_3, x0_4, z0⟩ := BlkAt.c5 (hC.2.1)
            obtain ⟨x1_0, x1_1, x1_2, x1_3, x1_4, z1⟩ := BlkAt.c5 (hC.2.2.1)
            obtain ⟨x2_0, x2_1, x2_2, x2_3, x2_4, z2⟩ := BlkAt.c5 (hC.2.2.2)
            go_wp2_with fail
            exact hK _ _ (Fr.refl _ _) hC rfl)
        · rw [if_neg (by decide)]; intro kq
          intro a W K hC hd hK
          have d64 : _ = _ := hd 64 (by decide)
          have d65 : _ = _ := hd 65 (by decide)
          have d63 : _ = _ := hd 63 (by decide)
          first | (exact wpOp_skip rfl (wanted_of (want := true) (b := false) rfl rfl (by rw [eval_get]; exact d63)) (hK _ _ (Fr.refl _ _) hC rfl)) | (refine wpOp_want rfl (wanted_of (want := true) (b := true) rfl rfl (by rw [eval_get]; exact d63)) ?_)
          all_goals (
            go_wp2_with fail
            exact hK _ _ (Fr.refl _ _) hC rfl)
        · rw [if_neg (by decide)]; intro kq
          intro a W K hC hd hK
          have d63 : _ = _ := hd 63 (by decide)
          have d66 : _ = _ := hd 66 (by decide)
          refine wpOp_plain rfl rfl ?_
          go_wp2_with fail
          exact hK _ _ (Fr.refl _ _) hC rfl
        · rw [if_neg (by decide)]; intro kq
          exact calm_mv 67 rfl rfl (Or.inr rfl) (Fr.refl _) (by decide) fun v w hd => hd
      · intro vs w8 fw8 cw8 hV
        have v49 : vs 0 = _ := hV 0 _ _ rfl rfl (by decide)
        have v50 : vs 1 = _ := hV 1 _ _ rfl rfl (by decide)
        have v51 : vs 2 = _ := hV 2 _ _ rfl rfl (by decide)
        have v52 : vs 3 = _ := hV 3 _ _ rfl rfl (by decide)
        have v53 : vs 4 = _ := hV 4 _ _ rfl rfl (by decide)
        have v54 : vs 5 = _ := hV 5 _ _ rfl rfl (by decide)
        have v55 : vs 6 = _ := hV 6 _ _ rfl rfl (by decide)
        have v56 : vs 7 = _ := hV 7 _ _ rfl rfl (by decide)
        have v57 : vs 8 = _ := hV 8 _ _ rfl rfl (by decide)
        have v58 : vs 9 = _ := hV 9 _ _ rfl rfl (by decide)
        have v59 : vs 10 = _ := hV 10 _ _ rfl rfl (by decide)
        have v60 : vs 11 = _ := hV 11 _ _ rfl rfl (by decide)
        have v61 : vs 12 = _ := hV 12 _ _ rfl rfl (by decide)
        have v62 : vs 13 = _ := hV 13 _ _ rfl rfl (by decide)
        have v63 : vs 14 = _ := hV 14 _ _ rfl rfl (by decide)
        have v64 : vs 15 = _ := hV 15 _ _ rfl rfl (by decide)
        have v65 : vs 16 = _ := hV 16 _ _ rfl rfl (by decide)
        have v66 : vs 17 = _ := hV 17 _ _ rfl rfl (by decide)
        have v67 : vs 18 = _ := hV 18 _ _ rfl rfl (by decide)
        have v2 : vs 19 = _ := hV 19 _ _ rfl rfl (by decide)
        clear hV
        replace hb0 : BlkAt w8 (w.heap.size) 38 #[.int .u8 o.k, .string o.a, .string o.b, .int .u8 o.n, .int .u8 o.r] := cw8.2.1
        replace hbx : BlkAt w8 (px) 69 #[.int .u8 o.k, .string o.a, .string o.b, .int .u8 o.n, .int .u8 o.r] := cw8.2.2.1
        replace hby : BlkAt w8 (py) 38 #[.int .u8 o.k, .string o.a, .string o.b, .int .u8 o.n, .int .u8 o.r] := cw8.2.2.2
        replace F7 := F7.trans fw8 (fun i hi h => h.elim)
        clear cw8
        simp only [putL, Act.put, Nat.reduceAdd, List.setIfInBounds_toArray, List.set_cons_zero, List.set_cons_succ, v49, v50, v51, v52, v53, v54, v55, v56, v57, v58, v59, v60, v61, v62, v63, v64, v65, v66, v67, v2]
        go_wp2_with fail
        go_ret
        exact BoolPost.mk' rfl F7
    · have hby := fun W hx => bytesNo_calls W o hx hw ha1 hb1 hc
      generalize checkV o = cv at *
      have t1 : ((cv : Int) != 0) = true := by rw [bne_iff_ne]; omega
      rw [hv] at hcR hck hby ⊢
      clear hc hl hv ha1 hb1 hw htx
      go_enter Tryd.func7, Tryd.ntmps7
      go_wp2_with fail
      generalize (w.alloc (.cells #[.int .u8 o.k, .string o.a, .string o.b, .int .u8 o.n, .int .u8 o.r] 38)) = wa at *
      refine (livesO_calls wa (ht.fr0 f0)).mono ?_
      rintro e w1 ⟨rfl, f1⟩
      replace hb0 := hb0.fr f1 id
      obtain ⟨u0, u1, u2, u3, u4, uf⟩ := BlkAt.c5 hb0
      replace hb0 := hb0.al (.cells #[.int .u8 o.k, .string o.a, .string o.b, .int .u8 o.n, .int .u8 o.r] 69)
      have hbx : BlkAt (w1.alloc (.cells #[.int .u8 o.k, .string o.a, .string o.b, .int .u8 o.n, .int .u8 o.r] 69)) w1.heap.size 69 #[.int .u8 o.k, .string o.a, .string o.b, .int .u8 o.n, .int .u8 o.r] := BlkAt.new _ _ _
      obtain ⟨x0, x1, x2, x3, x4, xf⟩ := BlkAt.c5 hb0
      have F2 := (f0.then' f1).alloc (.cells #[.int .u8 o.k, .string o.a, .string o.b, .int .u8 o.n, .int .u8 o.r] 69)
      clear f1
      go_wp2_with fail
      generalize hpx : w1.heap.size = px at *
      generalize (w1.alloc (.cells #[.int .u8 o.k, .string o.a, .string o.b, .int .u8 o.n, .int .u8 o.r] 69)) = w2 at *
      clear u0 u1 u2 u3 u4 uf x0 x1 x2 x3 x4 xf
      refine (hby w2 (ht.fr0 F2)).mono ?_
      rintro e w3 ⟨rfl, f3⟩
      have F3 := F2.then' f3
      replace hb0 := hb0.fr f3 id
      replace hbx := hbx.fr f3 id
      obtain ⟨x0, x1, x2, x3, x4, xf⟩ := BlkAt.c5 hbx
      clear f3 F2 hby
      go_wp2_with fail
      refine (hcR w3).mono ?_
      rintro e w4 ⟨rfl, f4⟩
      have F4 := F3.then' f4
      replace hb0 := hb0.fr f4 id
      clear x0 x1 x2 x3 x4 xf
      obtain ⟨x0, x1, x2, x3, x4, xf⟩ := BlkAt.c5 hb0
      clear f4 F3 hcR
      go_wp2_with fail
      refine (hck w4 (ht.fr0 F4)).mono ?_
      rintro e w5 ⟨rfl, f5⟩
      have F5 := F4.then' f5
      go_wp2_with fail
      go_ret
      exact BoolPost.mk' rfl F5
end Go.Proofs.YtcaihinenfnekaaDoor
