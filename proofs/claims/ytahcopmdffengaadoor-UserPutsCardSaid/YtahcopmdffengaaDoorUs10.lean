/- The reference's bytes of a user. -/
import Derived.Test.YtahcopmdffengaaDoorUs7
import Derived.Test.YtahcopmdffengaaDoorRef1
import Derived.Test.YtahcopmdffengaaDoorCalmF
namespace Go.Proofs.YtahcopmdffengaaDoor
open Go.RowKit
theorem rowB_length' (l : List ByteArray) : (rowB l).length ≤ 2 + sumSz l := by
  have h1 := rows_length (l.take 65535)
  have h2 := sumSz_take_le l 65535
  unfold rowB
  rw [List.length_append, leB_length]
  omega
theorem checkU_schema {z : Int} {u : UsV} (h : checkU z u = 0) : z = 1 ∨ z = 2 := by
  unfold checkU at h
  by_cases hz : z = 1 ∨ z = 2
  · exact hz
  · rw [if_neg hz] at h; cases h
theorem checkU_gs {z : Int} {u : UsV} (h : checkU z u = 0) : u.gs.length ≤ 6 ∧ ∀ s ∈ u.gs, s.size ≤ 12 := by
  have hz := checkU_schema h
  unfold checkU at h
  rw [if_pos hz] at h
  by_cases h1 : nameS u.name = true
  · rw [if_pos h1] at h
    by_cases h2 : hashS u.hash = true
    · rw [if_pos h2] at h
      by_cases h3 : z = 2
      · rw [if_pos h3] at h
        by_cases h4 : mailOk u.mail = true
        · rw [if_pos h4] at h
          unfold groupsE at h
          by_cases h5 : 6 < u.gs.length
          · rw [if_pos h5] at h; cases h
          · rw [if_neg h5] at h
            by_cases h6 : u.gs.all nameS = true
            · exact ⟨by omega, fun s hs => nameS_le (List.all_eq_true.mp h6 s hs)⟩
            · rw [if_neg h6] at h; cases h
        · rw [if_neg h4] at h; cases h
      · rw [if_neg h3] at h
        by_cases h4 : u.mail.size = 0 ∧ u.dis = false ∧ u.gs = []
        · rw [h4.2.2]; simp
        · rw [if_neg h4] at h; cases h
    · rw [if_neg h2] at h; cases h
  · rw [if_neg h1] at h; cases h
def UT5 (x y : List UInt8) : Nat → Value → Prop
  | 0, v => v = .string (mkS x)
  | 1, v => v = .string (mkS x)
  | _, v => v = .string (mkS y)
set_option maxRecDepth 100000 in
set_option maxHeartbeats 3200000 in
theorem textU_calls (w : World) (z : Int) (u : UsV) (A : Option Addr) (n c : Nat) (hck : checkU z u = 0) (hx : RowAt w A (strs u.gs)) (HN : Hid (u.gs.length = n)) :
    Calls Tryd.prog 39 #[.int .i64 z, .agg (u.C (.slice A n c))] w (StrPost w (userB z u)) := by
  obtain ⟨s1, s2, s3, s4⟩ := checkU_sizes hck
  obtain ⟨s5, s6⟩ := checkU_gs hck
  have HZ := hid (checkU_schema hck)
  have hb0 : BlkAt (w.alloc (.cells (u.C (.slice A n c)) 35)) w.heap.size 35 (u.C (.slice A n c)) := BlkAt.new _ _ _
  have f0 : Fr noB w (w.alloc (.cells (u.C (.slice A n c)) 35)) := (Fr.refl noB w).alloc _
  have hn1 := fun W => textR_calls W u.name (by omega)
  have hn2 := fun W => textR_calls W u.hash (by omega)
  have hn3 := fun W => textR_calls W u.mail (by omega)
  have hn4 := fun W => truthR_calls W u.dis
  have hn5 := fun W f => rowR_calls W A n c u.gs (hx.fr0 f) HN (by omega) (by have := HN.out; omega)
  rw [textR_eq (by omega)] at hn1 hn2 hn3
  rw [rowR_eq (by omega) (fun s hs => by have := s6 s hs; omega)] at hn5
  have HU : Hid (userB z u = textB u.name ++ textB u.hash ++ if z = 2 then textB u.mail ++ leB 1 (if u.dis then 1 else 0) ++ rowB u.gs else []) := rfl
  have z1 := textB_len u.name
  have z2 := textB_len u.hash
  have z3 := textB_len u.mail
  have z4 := leB_length 1 (if u.dis then 1 else 0)
  have z5 := rowB_length' u.gs
  generalize textB u.name = b1 at *
  generalize textB u.hash = b2 at *
  generalize textB u.mail = b3 at *
  generalize leB 1 (if u.dis then 1 else 0) = b4 at *
  generalize rowB u.gs = b5 at *
  generalize userB z u = ub at *
  unfold UsV.C at *
  have g1 : (mkS b1).size + (mkS b2).size ≤ 9223372036854775807 := by rw [mkS_size, mkS_size]; omega
  have g2 : (mkS (b1 ++ b2)).size + (mkS b3).size ≤ 9223372036854775807 := by rw [mkS_size, mkS_size, List.length_append]; omega
  have g3 : (mkS (b1 ++ b2 ++ b3)).size + (mkS b4).size ≤ 9223372036854775807 := by rw [mkS_size, mkS_size]; simp only [List.length_append]; omega
  have g4 : (mkS (b1 ++ b2 ++ b3 ++ b4)).size + (mkS b5).size ≤ 9223372036854775807 := by rw [mkS_size, mkS_size]; simp only [List.length_append]; omega
  have m1 := mkS_append b1 b2
  have m2 := mkS_append (b1 ++ b2) b3
  have m3 := mkS_append (b1 ++ b2 ++ b3) b4
  have m4 := mkS_append (b1 ++ b2 ++ b3 ++ b4) b5
  have HU1 : Hid (z ≠ 2 → ub = b1 ++ b2) := fun h => by rw [HU.out, if_neg h, List.append_nil]
  have HU2 : Hid (z = 2 → ub = b1 ++ b2 ++ b3 ++ b4 ++ b5) := fun h => by rw [HU.out, if_pos h]; simp only [List.append_assoc]
  clear HU
  generalize b1 ++ b2 ++ b3 ++ b4 ++ b5 = c5 at *
  generalize b1 ++ b2 ++ b3 ++ b4 = c4 at *
  generalize b1 ++ b2 ++ b3 = c3 at *
  generalize b1 ++ b2 = c2 at *
  clear z1 z2 z3 z4 z5 s1 s2 s3 s4 s5 s6 hck HN
  generalize u.name = nm at *
  generalize u.hash = hs at *
  generalize u.mail = ml at *
  generalize u.dis = ds at *
  generalize u.gs = l at *
  go_enter Tryd.func39, Tryd.ntmps39
  go_upto_region 1 with fail
  generalize (w.alloc _) = wa at *
  apply wp_region_calm (R := Fr noB) (C := fun _ W => Fr noB wa W) [false, false, false, false, false, false, false, false]
    [eqv _, eqv _, eqv (.string (mkS b1)), eqv _, eqv _, eqv (.string (mkS b2)), eqv (.string (mkS c2)), eqv (.string (mkS c2))]
    (by kernel_rfl) (by kernel_rfl) (fun _ _ _ h1 h2 => h1.then' h2) ((Fr.refl _ _).drew) ((Fr.refl _ _).drew) (by kernel_rfl)
  · refine ⟨?_, ?_, ?_, ?_, ?_, ?_, ?_, ?_, trivial⟩
    · rw [if_neg (by decide)]; intro kq
      intro a W K hC hd hK
      have d3 : a.tmps[3]?.getD undef = .pointer (some ⟨w.heap.size, 0, none⟩) := hd 3 (by decide)
      refine wpOp_plain rfl rfl ?_
      obtain ⟨x0, x1, x2, x3, x4, xf⟩ := BlkAt.c5 (hb0.fr hC id)
      go_wp2_with fail
      exact hK _ _ (Fr.refl _ _) hC rfl
    · rw [if_neg (by decide)]; intro kq
      intro a W K hC hd hK
      have d6 : _ = _ := hd 6 (by decide)
      refine wpOp_plain rfl rfl ?_
      obtain ⟨x0, x1, x2, x3, x4, xf⟩ := BlkAt.c5 (hb0.fr hC id)
      go_wp2_with fail
      exact hK _ _ (Fr.refl _ _) hC rfl
    · rw [if_neg (by decide)]; intro kq
      intro a W K hC hd hK
      have d7 : _ = _ := hd 7 (by decide)
      refine wpOp_plain rfl rfl ?_
      obtain ⟨x0, x1, x2, x3, x4, xf⟩ := BlkAt.c5 (hb0.fr hC id)
      go_wp2_with fail
      refine (hn1 W).mono ?_
      rintro e9 w9 ⟨rfl, f9⟩
      exact hK _ _ f9 (hC.then' f9) rfl
    · rw [if_neg (by decide)]; intro kq
      intro a W K hC hd hK
      have d3 : a.tmps[3]?.getD undef = .pointer (some ⟨w.heap.size, 0, none⟩) := hd 3 (by decide)
      refine wpOp_plain rfl rfl ?_
      obtain ⟨x0, x1, x2, x3, x4, xf⟩ := BlkAt.c5 (hb0.fr hC id)
      go_wp2_with fail
      exact hK _ _ (Fr.refl _ _) hC rfl
    · rw [if_neg (by decide)]; intro kq
      intro a W K hC hd hK
      have d9 : _ = _ := hd 9 (by decide)
      refine wpOp_plain rfl rfl ?_
      obtain ⟨x0, x1, x2, x3, x4, xf⟩ := BlkAt.c5 (hb0.fr hC id)
      go_wp2_with fail
      exact hK _ _ (Fr.refl _ _) hC rfl
    · rw [if_neg (by decide)]; intro kq
      intro a W K hC hd hK
      have d10 : _ = _ := hd 10 (by decide)
      refine wpOp_plain rfl rfl ?_
      obtain ⟨x0, x1, x2, x3, x4, xf⟩ := BlkAt.c5 (hb0.fr hC id)
      go_wp2_with fail
      refine (hn2 W).mono ?_
      rintro e9 w9 ⟨rfl, f9⟩
      exact hK _ _ f9 (hC.then' f9) rfl
    · rw [if_neg (by decide)]; intro kq
      intro a W K hC hd hK
      have d8 : a.tmps[8]?.getD undef = .string (mkS b1) := hd 8 (by decide)
      have d11 : a.tmps[11]?.getD undef = .string (mkS b2) := hd 11 (by decide)
      refine wpOp_plain rfl rfl ?_
      go_wp2_with fail
      exact hK _ _ (Fr.refl _ _) hC rfl
    · rw [if_neg (by decide)]; intro kq
      exact calm_mv 12 rfl rfl (Or.inr rfl) (Fr.refl _) (by decide) fun v w hd => hd
  · intro vs w8 fw8 cw8 hV
    have v6 : vs 0 = _ := hV 0 _ _ rfl rfl (by decide)
    have v7 : vs 1 = _ := hV 1 _ _ rfl rfl (by decide)
    have v8 : vs 2 = .string (mkS b1) := hV 2 _ _ rfl rfl (by decide)
    have v9 : vs 3 = _ := hV 3 _ _ rfl rfl (by decide)
    have v10 : vs 4 = _ := hV 4 _ _ rfl rfl (by decide)
    have v11 : vs 5 = .string (mkS b2) := hV 5 _ _ rfl rfl (by decide)
    have v12 : vs 6 = .string (mkS c2) := hV 6 _ _ rfl rfl (by decide)
    have v5 : vs 7 = .string (mkS c2) := hV 7 _ _ rfl rfl (by decide)
    clear hV
    simp only [putL, Act.put, Nat.reduceAdd, List.setIfInBounds_toArray, List.set_cons_zero, List.set_cons_succ, v6, v7, v8, v9, v10, v11, v12, v5]
    rcases HZ.out with rfl | rfl
    · go_wp2_with fail
      go_ret
      exact ⟨by rw [HU1.out (by decide)]; rfl, f0.then' fw8⟩
    · go_upto_region 3 with fail
      have hb8 := hb0.fr fw8 id
      replace f0 := f0.then' fw8
      clear HU1 HZ v5 v6 v7 v8 v9 v10 v11 v12 m1 g1 hn1 hn2 fw8 cw8 hb0
      apply F.wp_region_calmL (R := Fr noB) (C := fun q ν W => Fr noB w8 W ∧ UT5 c2 c5 q (ν 5)) [true, false, false, false, false, false, false, false, false, false, false, false, false, true] [0, 0, 0, 0, 1, 0, 0, 0, 1, 0, 0, 0, 1, 1]
        [eqv (.string (mkS c2)), eqv (.pointer (some ⟨w.heap.size, 2, none⟩)), eqv (.string ml), eqv (.string (mkS b3)), eqv (.string (mkS c3)), eqv (.pointer (some ⟨w.heap.size, 3, none⟩)), eqv (.bool ds), eqv (.string (mkS b4)), eqv (.string (mkS c4)), eqv (.pointer (some ⟨w.heap.size, 4, none⟩)), eqv (.slice A n c), eqv (.string (mkS b5)), eqv (.string (mkS c5)), anyv]
        (by kernel_rfl) [13] (by kernel_rfl) (fun j hj V hV v w => by simp only [List.mem_cons, List.not_mem_nil, or_false] at hj; rcases hj with rfl; all_goals (cases hV; trivial)) (fun _ _ _ h1 h2 => h1.then' h2) ((Fr.refl _ _).drew) (by exact ⟨(Fr.refl _ _).drew, rfl⟩) (by kernel_rfl)
      · refine ⟨?_, ?_, ?_, ?_, ?_, ?_, ?_, ?_, ?_, ?_, ?_, ?_, ?_, ?_, trivial⟩
        · rw [if_pos (by decide)]
          intro a W K hC hd hK
          replace hC : (fun q ν W => Fr noB w8 W ∧ UT5 c2 c5 q (ν 5)) 0 (fun t => a.eval (.tmp t)) W := hC
          refine wpOp_plain rfl rfl ?_
          have d5 : a.tmps[5]?.getD undef = .string (mkS c2) := by rw [← eval_get]; exact hC.2
          have HC := hid hC
          clear hC hd
          go_wp2_with fail
          exact hK _ _ (Fr.refl _ _) ⟨HC.out.1, HC.out.2⟩ rfl
        · rw [if_neg (by decide)]; intro kq
          intro a W K hC hd hK
          have d3 : a.tmps[3]?.getD undef = .pointer (some ⟨w.heap.size, 0, none⟩) := hd 3 (by decide)
          refine wpOp_plain rfl rfl ?_
          obtain ⟨x0, x1, x2, x3, x4, xf⟩ := BlkAt.c5 (hb8.fr hC.1 id)
          have HC := hid hC
          clear hC hd
          go_wp2_with fail
          exact hK _ _ (Fr.refl _ _) HC.out rfl
        · rw [if_neg (by decide)]; intro kq
          intro a W K hC hd hK
          have d16 : a.tmps[16]?.getD undef = .pointer (some ⟨w.heap.size, 2, none⟩) := hd 16 (by decide)
          refine wpOp_plain rfl rfl ?_
          obtain ⟨x0, x1, x2, x3, x4, xf⟩ := BlkAt.c5 (hb8.fr hC.1 id)
          have HC := hid hC
          clear hC hd
          go_wp2_with fail
          exact hK _ _ (Fr.refl _ _) HC.out rfl
        · rw [if_neg (by decide)]; intro kq
          intro a W K hC hd hK
          have d17 : a.tmps[17]?.getD undef = .string ml := hd 17 (by decide)
          refine wpOp_plain rfl rfl ?_
          obtain ⟨x0, x1, x2, x3, x4, xf⟩ := BlkAt.c5 (hb8.fr hC.1 id)
          have HC := hid hC
          clear hC hd
          go_wp2_with fail
          refine (hn3 W).mono ?_
          rintro e9 w9 ⟨rfl, f9⟩
          exact hK _ _ f9 ⟨HC.out.1.then' f9, HC.out.2⟩ rfl
        · rw [if_neg (by decide)]; intro kq
          intro a W K hC hd hK
          have d15 : a.tmps[15]?.getD undef = .string (mkS c2) := hd 15 (by decide)
          have d18 : a.tmps[18]?.getD undef = .string (mkS b3) := hd 18 (by decide)
          refine wpOp_plain rfl rfl ?_
          have HC := hid hC
          clear hC hd
          go_wp2_with fail
          exact hK _ _ (Fr.refl _ _) HC.out rfl
        · rw [if_neg (by decide)]; intro kq
          intro a W K hC hd hK
          have d3 : a.tmps[3]?.getD undef = .pointer (some ⟨w.heap.size, 0, none⟩) := hd 3 (by decide)
          refine wpOp_plain rfl rfl ?_
          obtain ⟨x0, x1, x2, x3, x4, xf⟩ := BlkAt.c5 (hb8.fr hC.1 id)
          have HC := hid hC
          clear hC hd
          go_wp2_with fail
          exact hK _ _ (Fr.refl _ _) HC.out rfl
        · rw [if_neg (by decide)]; intro kq
          intro a W K hC hd hK
          have d20 : a.tmps[20]?.getD undef = .pointer (some ⟨w.heap.size, 3, none⟩) := hd 20 (by decide)
          refine wpOp_plain rfl rfl ?_
          obtain ⟨x0, x1, x2, x3, x4, xf⟩ := BlkAt.c5 (hb8.fr hC.1 id)
          have HC := hid hC
          clear hC hd
          go_wp2_with fail
          exact hK _ _ (Fr.refl _ _) HC.out rfl
        · rw [if_neg (by decide)]; intro kq
          intro a W K hC hd hK
          have d21 : a.tmps[21]?.getD undef = .bool ds := hd 21 (by decide)
          refine wpOp_plain rfl rfl ?_
          obtain ⟨x0, x1, x2, x3, x4, xf⟩ := BlkAt.c5 (hb8.fr hC.1 id)
          have HC := hid hC
          clear hC hd
          go_wp2_with fail
          refine (hn4 W).mono ?_
          rintro e9 w9 ⟨rfl, f9⟩
          exact hK _ _ f9 ⟨HC.out.1.then' f9, HC.out.2⟩ rfl
        · rw [if_neg (by decide)]; intro kq
          intro a W K hC hd hK
          have d19 : a.tmps[19]?.getD undef = .string (mkS c3) := hd 19 (by decide)
          have d22 : a.tmps[22]?.getD undef = .string (mkS b4) := hd 22 (by decide)
          refine wpOp_plain rfl rfl ?_
          have HC := hid hC
          clear hC hd
          go_wp2_with fail
          exact hK _ _ (Fr.refl _ _) HC.out rfl
        · rw [if_neg (by decide)]; intro kq
          intro a W K hC hd hK
          have d3 : a.tmps[3]?.getD undef = .pointer (some ⟨w.heap.size, 0, none⟩) := hd 3 (by decide)
          refine wpOp_plain rfl rfl ?_
          obtain ⟨x0, x1, x2, x3, x4, xf⟩ := BlkAt.c5 (hb8.fr hC.1 id)
          have HC := hid hC
          clear hC hd
          go_wp2_with fail
          exact hK _ _ (Fr.refl _ _) HC.out rfl
        · rw [if_neg (by decide)]; intro kq
          intro a W K hC hd hK
          have d24 : a.tmps[24]?.getD undef = .pointer (some ⟨w.heap.size, 4, none⟩) := hd 24 (by decide)
          refine wpOp_plain rfl rfl ?_
          obtain ⟨x0, x1, x2, x3, x4, xf⟩ := BlkAt.c5 (hb8.fr hC.1 id)
          have HC := hid hC
          clear hC hd
          go_wp2_with fail
          exact hK _ _ (Fr.refl _ _) HC.out rfl
        · rw [if_neg (by decide)]; intro kq
          intro a W K hC hd hK
          have d25 : a.tmps[25]?.getD undef = .slice A n c := hd 25 (by decide)
          refine wpOp_plain rfl rfl ?_
          obtain ⟨x0, x1, x2, x3, x4, xf⟩ := BlkAt.c5 (hb8.fr hC.1 id)
          have HC := hid hC
          clear hC hd
          go_wp2_with fail
          refine (hn5 W (f0.then' HC.out.1)).mono ?_
          rintro e9 w9 ⟨rfl, f9⟩
          exact hK _ _ f9 ⟨HC.out.1.then' f9, HC.out.2⟩ rfl
        · rw [if_neg (by decide)]; intro kq
          intro a W K hC hd hK
          have d23 : a.tmps[23]?.getD undef = .string (mkS c4) := hd 23 (by decide)
          have d26 : a.tmps[26]?.getD undef = .string (mkS b5) := hd 26 (by decide)
          refine wpOp_plain rfl rfl ?_
          have HC := hid hC
          clear hC hd
          go_wp2_with fail
          exact hK _ _ (Fr.refl _ _) HC.out rfl
        · rw [if_pos (by decide)]
          intro a W K hC hd hK
          replace hC : (fun q ν W => Fr noB w8 W ∧ UT5 c2 c5 q (ν 5)) 1 (fun t => a.eval (.tmp t)) W := hC
          have d27 : a.tmps[27]?.getD undef = .string (mkS c5) := hd 27 (by decide)
          refine wpOp_plain rfl rfl ?_
          have HC := hid hC
          clear hC hd
          go_wp2_with fail
          exact hK _ _ (Fr.refl _ _) ⟨HC.out.1, rfl⟩ trivial
      · intro vs w9 fw9 cw9 hV
        have v15 : vs 0 = .string (mkS c2) := hV 0 _ _ rfl rfl (by decide)
        have v16 : vs 1 = .pointer (some ⟨w.heap.size, 2, none⟩) := hV 1 _ _ rfl rfl (by decide)
        have v17 : vs 2 = .string ml := hV 2 _ _ rfl rfl (by decide)
        have v18 : vs 3 = .string (mkS b3) := hV 3 _ _ rfl rfl (by decide)
        have v19 : vs 4 = .string (mkS c3) := hV 4 _ _ rfl rfl (by decide)
        have v20 : vs 5 = .pointer (some ⟨w.heap.size, 3, none⟩) := hV 5 _ _ rfl rfl (by decide)
        have v21 : vs 6 = .bool ds := hV 6 _ _ rfl rfl (by decide)
        have v22 : vs 7 = .string (mkS b4) := hV 7 _ _ rfl rfl (by decide)
        have v23 : vs 8 = .string (mkS c4) := hV 8 _ _ rfl rfl (by decide)
        have v24 : vs 9 = .pointer (some ⟨w.heap.size, 4, none⟩) := hV 9 _ _ rfl rfl (by decide)
        have v25 : vs 10 = .slice A n c := hV 10 _ _ rfl rfl (by decide)
        have v26 : vs 11 = .string (mkS b5) := hV 11 _ _ rfl rfl (by decide)
        have v27 : vs 12 = .string (mkS c5) := hV 12 _ _ rfl rfl (by decide)
        have v5 : (anyv).V (vs 13) w9 := hV 13 _ _ rfl rfl (by decide)
        clear hV
        simp only [putL, Act.put, Nat.reduceAdd, List.setIfInBounds_toArray, List.set_cons_zero, List.set_cons_succ, v15, v16, v17, v18, v19, v20, v21, v22, v23, v24, v25, v26, v27]
        have v5' : vs 13 = .string (mkS c5) := cw9.2
        rw [v5']
        clear cw9
        go_wp2_with fail
        go_ret
        exact ⟨by rw [HU2.out trivial]; rfl, f0.then' fw9⟩
end Go.Proofs.YtahcopmdffengaaDoor
