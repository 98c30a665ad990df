/- user.Check. -/
import Derived.Test.YtahcopmdffengaaDoorUs2
namespace Go.Proofs.YtahcopmdffengaaDoor
open Go.RowKit
def Two (x y : Nat) : Stb (Fr noB) := ⟨fun v W => ∃ B T, v = .slice (some ⟨B, 0, none⟩) 2 2 ∧ BlkAt W B T #[.int .i64 x, .int .i64 y], fun _ _ _ h f => by obtain ⟨B, T, h1, h2⟩ := h; exact ⟨B, T, h1, h2.fr f id⟩⟩
/-- A user's cells, its groups' slice given. -/
def UsV.C (u : UsV) (s : Value) : Array Value := #[.string u.name, .string u.hash, .string u.mail, .bool u.dis, s]
def NatPost (w : World) (k : Nat) (e : Ending) (w' : World) : Prop := e = .returned (.int .i64 k) ∧ Fr noB w w'
set_option maxRecDepth 100000 in
set_option maxHeartbeats 1600000 in
theorem check_bad (w : World) (z : Int) (u : UsV) (s : Value) (h1 : z ≠ 1) (h2 : z ≠ 2) : Calls Tryd.prog 27 #[.int .i64 z, .agg (u.C s)] w (NatPost w (checkU z u)) := by
  have HV : Hid (checkU z u = 6) := by unfold Hid checkU; rw [if_neg (by omega)]
  have t1 : (z != 1) = true := by rw [bne_iff_ne]; exact h1
  have t2 : (z != 2) = true := by rw [bne_iff_ne]; exact h2
  have f0 : Fr noB w (w.alloc (.cells (u.C s) 35)) := (Fr.refl noB w).alloc _
  clear h1 h2
  unfold UsV.C at *
  go_enter Tryd.func27, Tryd.ntmps27
  go_wp2_with fail
  go_ret
  exact ⟨by rw [HV.out]; rfl, f0⟩
set_option maxRecDepth 100000 in
set_option maxHeartbeats 1600000 in
theorem check1_calls (w : World) (u : UsV) (A : Option Addr) (n c : Nat) (hrow : RowAt w A (strs u.gs)) (HN : Hid (u.gs.length = n)) :
    Calls Tryd.prog 27 #[.int .i64 1, .agg (u.C (.slice A n c))] w (NatPost w (checkU 1 u)) := by
  have hn1 := fun W => name_any W u.name
  have hn2 := fun W => hash_any W u.hash
  have hb0 : BlkAt (w.alloc (.cells (u.C (.slice A n c)) 35)) w.heap.size 35 (u.C (.slice A n c)) := BlkAt.new _ _ _
  have f0 : Fr noB w (w.alloc (.cells (u.C (.slice A n c)) 35)) := (Fr.refl noB w).alloc _
  have HV : Hid (checkU 1 u = firstE (errN (nameS u.name) 10) (errN (hashS u.hash) 4) ∧ firstE (errN (nameS u.name) 10) (errN (hashS u.hash) 4) ≠ 0 ∨ firstE (errN (nameS u.name) 10) (errN (hashS u.hash) 4) = 0 ∧ checkU 1 u = if u.mail.size = 0 ∧ u.dis = false ∧ u.gs.length = 0 then 0 else 12) := by
    unfold Hid checkU firstE errN
    cases nameS u.name <;> cases hashS u.hash <;> simp
  obtain ⟨k, hk⟩ : ∃ k, checkU 1 u = k := ⟨_, rfl⟩
  rw [hk] at HV ⊢
  obtain ⟨x, hx⟩ : ∃ x, errN (nameS u.name) 10 = x := ⟨_, rfl⟩
  obtain ⟨y, hy⟩ : ∃ x, errN (hashS u.hash) 4 = x := ⟨_, rfl⟩
  obtain ⟨e, he⟩ : ∃ e, firstE x y = e := ⟨_, rfl⟩
  have HE := hid he
  rw [hx] at hn1 HV
  rw [hy] at hn2 HV
  rw [he] at HV
  clear hx hy hk he
  have hie : u.mail.toList.isEmpty = decide (u.mail.size = 0) := by
    rw [Bool.eq_iff_iff, decide_eq_true_iff, List.isEmpty_iff_length_eq_zero, ByteArray.toList_eq]; simp
  rw [HN.out] at HV
  clear HN hrow
  unfold UsV.C at *
  generalize u.name = nm at *
  generalize u.hash = hs at *
  generalize u.mail = ml at *
  generalize u.dis = ds at *
  obtain ⟨b, hb⟩ : ∃ b, ((e : Int) != 0) = b := ⟨_, rfl⟩
  have HB : Hid (if b then e ≠ 0 else e = 0) := by
    unfold Hid; rw [← hb]; by_cases h : e = 0
    · subst h; simp
    · rw [if_pos (by rw [bne_iff_ne]; omega)]; exact h
  go_enter Tryd.func27, Tryd.ntmps27
  go_wp2_with fail
  generalize (w.alloc _) = wa at *
  apply wp_region_calm (R := Fr noB) (C := fun _ W => Fr noB wa W ∧ BlkAt W w.heap.size 35 #[.string nm, .string hs, .string ml, .bool ds, .slice A n c]) [false, false, false, false, false, false, false, false, false]
    [eqv _, eqv _, eqv _, eqv _, eqv _, eqv _, Two x y, eqv (.int .i64 (e : Nat)), eqv _]
    (by kernel_rfl) (by kernel_rfl) (fun _ _ _ h1 h2 => h1.then' h2) ((Fr.refl _ _).drew) ⟨(Fr.refl _ _).drew, hb0⟩ (by kernel_rfl)
  · refine ⟨?_, ?_, ?_, ?_, ?_, ?_, ?_, ?_, ?_, trivial⟩
    · rw [if_neg (by decide)]; intro kq
      intro a W K hC hd hK
      have d3 : a.tmps[3]?.getD undef = .pointer (some ⟨w.heap.size, 0, none⟩) := hd 3 (by decide)
      refine wpOp_plain rfl rfl ?_
      obtain ⟨x0, x1, x2, x3, x4, xf⟩ := BlkAt.c5 hC.2
      go_wp2_with fail
      exact hK _ _ (Fr.refl _ _) hC rfl
    · rw [if_neg (by decide)]; intro kq
      intro a W K hC hd hK
      have d12 : _ = _ := hd 12 (by decide)
      refine wpOp_plain rfl rfl ?_
      obtain ⟨x0, x1, x2, x3, x4, xf⟩ := BlkAt.c5 hC.2
      go_wp2_with fail
      exact hK _ _ (Fr.refl _ _) hC rfl
    · rw [if_neg (by decide)]; intro kq
      intro a W K hC hd hK
      have d13 : _ = _ := hd 13 (by decide)
      refine wpOp_plain rfl rfl ?_
      obtain ⟨x0, x1, x2, x3, x4, xf⟩ := BlkAt.c5 hC.2
      go_wp2_with fail
      refine (hn1 W).mono ?_
      rintro e9 w9 ⟨rfl, rfl⟩
      exact hK _ _ (Fr.refl _ _) hC rfl
    · rw [if_neg (by decide)]; intro kq
      intro a W K hC hd hK
      have d3 : a.tmps[3]?.getD undef = .pointer (some ⟨w.heap.size, 0, none⟩) := hd 3 (by decide)
      refine wpOp_plain rfl rfl ?_
      obtain ⟨x0, x1, x2, x3, x4, xf⟩ := BlkAt.c5 hC.2
      go_wp2_with fail
      exact hK _ _ (Fr.refl _ _) hC rfl
    · rw [if_neg (by decide)]; intro kq
      intro a W K hC hd hK
      have d15 : _ = _ := hd 15 (by decide)
      refine wpOp_plain rfl rfl ?_
      obtain ⟨x0, x1, x2, x3, x4, xf⟩ := BlkAt.c5 hC.2
      go_wp2_with fail
      exact hK _ _ (Fr.refl _ _) hC rfl
    · rw [if_neg (by decide)]; intro kq
      intro a W K hC hd hK
      have d16 : _ = _ := hd 16 (by decide)
      refine wpOp_plain rfl rfl ?_
      obtain ⟨x0, x1, x2, x3, x4, xf⟩ := BlkAt.c5 hC.2
      go_wp2_with fail
      refine (hn2 W).mono ?_
      rintro e9 w9 ⟨rfl, rfl⟩
      exact hK _ _ (Fr.refl _ _) hC rfl
    · rw [if_neg (by decide)]; intro kq
      intro a W K hC hd hK
      have d14 : _ = _ := hd 14 (by decide)
      have d17 : _ = _ := hd 17 (by decide)
      refine wpOp_plain rfl rfl ?_
      go_wp2_with fail
      have fs : Fr noB W (W.alloc (.cells #[.int .i64 x, .int .i64 y] 23)) := (Fr.refl _ W).alloc _
      exact hK _ _ fs ⟨hC.1.then' fs, hC.2.al _⟩ ⟨_, _, rfl, BlkAt.new _ _ _⟩
    · rw [if_neg (by decide)]; intro kq
      intro a W K hC hd hK
      have d18 : (Two x y).V (a.tmps[18]?.getD undef) W := hd 18 (by decide)
      refine wpOp_plain rfl rfl ?_
      obtain ⟨x0, x1, x2, x3, x4, xf⟩ := BlkAt.c5 hC.2
      obtain ⟨B9, T9, hv9, hb9⟩ := d18
      have d18 : a.tmps[18]?.getD undef = .slice (some ⟨B9, 0, none⟩) 2 2 := hv9
      go_wp2_with fail
      refine (firstE_calls W B9 T9 x y hb9).mono ?_
      rintro e9 w9 ⟨rfl, rfl⟩
      rw [HE.out]
      exact hK _ _ (Fr.refl _ _) hC rfl
    · rw [if_neg (by decide)]; intro kq
      exact calm_mv 19 rfl rfl (Or.inr rfl) (Fr.refl _) (by decide) fun v w hd => hd
  · intro vs w1 fw1 cw1 hV
    have v12 : vs 0 = _ := hV 0 _ _ rfl rfl (by decide)
    have v13 : vs 1 = _ := hV 1 _ _ rfl rfl (by decide)
    have v14 : vs 2 = _ := hV 2 _ _ rfl rfl (by decide)
    have v15 : vs 3 = _ := hV 3 _ _ rfl rfl (by decide)
    have v16 : vs 4 = _ := hV 4 _ _ rfl rfl (by decide)
    have v17 : vs 5 = _ := hV 5 _ _ rfl rfl (by decide)
    have v18 : (Two x y).V (vs 6) w1 := hV 6 _ _ rfl rfl (by decide)
    have v19 : vs 7 = .int .i64 (e : Nat) := hV 7 _ _ rfl rfl (by decide)
    have v5 : vs 8 = _ := hV 8 _ _ rfl rfl (by decide)
    clear hV
    simp only [putL, Act.put, Nat.reduceAdd, List.setIfInBounds_toArray, List.set_cons_zero, List.set_cons_succ, v12, v13, v14, v15, v16, v17, v19, v5]
    obtain ⟨x0, x1, x2, x3, x4, xf⟩ := BlkAt.c5 cw1.2
    have fw := f0.then' fw1
    clear v18
    cases b
    · have HE0 := hid (show e = 0 from HB.out)
      have HK : Hid (k = if ml.size = 0 ∧ ds = false ∧ n = 0 then 0 else 12) := by
        rcases HV.out with ⟨_, h2⟩ | ⟨_, h2⟩
        · exact absurd HE0.out h2
        · exact h2
      obtain ⟨vm, hvm⟩ : ∃ v, decide (ml.size = 0) = v := ⟨_, rfl⟩
      obtain ⟨vn, hvn⟩ : ∃ v, decide (0 < n) = v := ⟨_, rfl⟩
      have HR : Hid (k = if vm && !ds && !vn then 0 else 12) := by
        unfold Hid
        rw [HK.out, ← hvm, ← hvn]
        by_cases g1 : ml.size = 0 <;> cases ds <;> by_cases g2 : n = 0 <;> simp [g1, g2] <;> omega
      rw [hvm] at hie
      clear HK HV hvm
      cases vm <;> cases ds <;> cases vn
      all_goals
        go_wp2_with fail
        go_ret
        exact ⟨by rw [HR.out]; rfl, fw⟩
    · have HK : Hid (k = e) := by
        rcases HV.out with ⟨h1, _⟩ | ⟨h2, _⟩
        · exact h1
        · exact absurd h2 HB.out
      go_wp2_with fail
      go_ret
      exact ⟨by rw [HK.out]; rfl, fw⟩
set_option maxRecDepth 100000 in
set_option maxHeartbeats 1600000 in
theorem check2_calls (w : World) (u : UsV) (A : Option Addr) (n c : Nat) (hrow : RowAt w A (strs u.gs)) (HN : Hid (u.gs.length = n)) :
    Calls Tryd.prog 27 #[.int .i64 2, .agg (u.C (.slice A n c))] w (NatPost w (checkU 2 u)) := by
  have hn1 := fun W => name_any W u.name
  have hn2 := fun W => hash_any W u.hash
  have hn3 := fun W => mailU_calls W u.mail
  have hn4 := fun W h => groups_calls W A n c u.gs h HN
  have hb0 : BlkAt (w.alloc (.cells (u.C (.slice A n c)) 35)) w.heap.size 35 (u.C (.slice A n c)) := BlkAt.new _ _ _
  have f0 : Fr noB w (w.alloc (.cells (u.C (.slice A n c)) 35)) := (Fr.refl noB w).alloc _
  have HV : Hid (checkU 2 u = firstE (errN (nameS u.name) 10) (errN (hashS u.hash) 4) ∧ firstE (errN (nameS u.name) 10) (errN (hashS u.hash) 4) ≠ 0 ∨ firstE (errN (nameS u.name) 10) (errN (hashS u.hash) 4) = 0 ∧ checkU 2 u = firstE (errN (mailOk u.mail) 11) (groupsE u.gs)) := by
    unfold Hid checkU firstE errN
    cases nameS u.name <;> cases hashS u.hash <;> simp
    all_goals (cases mailOk u.mail <;> simp)
  obtain ⟨k, hk⟩ : ∃ k, checkU 2 u = k := ⟨_, rfl⟩
  rw [hk] at HV ⊢
  obtain ⟨x, hx⟩ : ∃ x, errN (nameS u.name) 10 = x := ⟨_, rfl⟩
  obtain ⟨y, hy⟩ : ∃ x, errN (hashS u.hash) 4 = x := ⟨_, rfl⟩
  obtain ⟨e, he⟩ : ∃ e, firstE x y = e := ⟨_, rfl⟩
  have HE := hid he
  rw [hx] at hn1 HV
  rw [hy] at hn2 HV
  rw [he] at HV
  clear hx hy hk he
  obtain ⟨p, hp⟩ : ∃ x, errN (mailOk u.mail) 11 = x := ⟨_, rfl⟩
  obtain ⟨q, hq⟩ : ∃ x, groupsE u.gs = x := ⟨_, rfl⟩
  obtain ⟨l, hl⟩ : ∃ e, firstE p q = e := ⟨_, rfl⟩
  have HL := hid hl
  rw [hp] at hn3 HV
  rw [hq] at hn4 HV
  rw [hl] at HV
  clear hp hq hl HN
  unfold UsV.C at *
  generalize u.name = nm at *
  generalize u.hash = hs at *
  generalize u.mail = ml at *
  generalize u.dis = ds at *
  obtain ⟨b, hb⟩ : ∃ b, ((e : Int) != 0) = b := ⟨_, rfl⟩
  have HB : Hid (if b then e ≠ 0 else e = 0) := by
    unfold Hid; rw [← hb]; by_cases h : e = 0
    · subst h; simp
    · rw [if_pos (by rw [bne_iff_ne]; omega)]; exact h
  go_enter Tryd.func27, Tryd.ntmps27
  go_wp2_with fail
  generalize (w.alloc _) = wa at *
  apply wp_region_calm (R := Fr noB) (C := fun _ W => Fr noB wa W ∧ BlkAt W w.heap.size 35 #[.string nm, .string hs, .string ml, .bool ds, .slice A n c]) [false, false, false, false, false, false, false, false, false]
    [eqv _, eqv _, eqv _, eqv _, eqv _, eqv _, Two x y, eqv (.int .i64 (e : Nat)), eqv _]
    (by kernel_rfl) (by kernel_rfl) (fun _ _ _ h1 h2 => h1.then' h2) ((Fr.refl _ _).drew) ⟨(Fr.refl _ _).drew, hb0⟩ (by kernel_rfl)
  · refine ⟨?_, ?_, ?_, ?_, ?_, ?_, ?_, ?_, ?_, trivial⟩
    · rw [if_neg (by decide)]; intro kq
      intro a W K hC hd hK
      have d3 : a.tmps[3]?.getD undef = .pointer (some ⟨w.heap.size, 0, none⟩) := hd 3 (by decide)
      refine wpOp_plain rfl rfl ?_
      obtain ⟨x0, x1, x2, x3, x4, xf⟩ := BlkAt.c5 hC.2
      go_wp2_with fail
      exact hK _ _ (Fr.refl _ _) hC rfl
    · rw [if_neg (by decide)]; intro kq
      intro a W K hC hd hK
      have d12 : _ = _ := hd 12 (by decide)
      refine wpOp_plain rfl rfl ?_
      obtain ⟨x0, x1, x2, x3, x4, xf⟩ := BlkAt.c5 hC.2
      go_wp2_with fail
      exact hK _ _ (Fr.refl _ _) hC rfl
    · rw [if_neg (by decide)]; intro kq
      intro a W K hC hd hK
      have d13 : _ = _ := hd 13 (by decide)
      refine wpOp_plain rfl rfl ?_
      obtain ⟨x0, x1, x2, x3, x4, xf⟩ := BlkAt.c5 hC.2
      go_wp2_with fail
      refine (hn1 W).mono ?_
      rintro e9 w9 ⟨rfl, rfl⟩
      exact hK _ _ (Fr.refl _ _) hC rfl
    · rw [if_neg (by decide)]; intro kq
      intro a W K hC hd hK
      have d3 : a.tmps[3]?.getD undef = .pointer (some ⟨w.heap.size, 0, none⟩) := hd 3 (by decide)
      refine wpOp_plain rfl rfl ?_
      obtain ⟨x0, x1, x2, x3, x4, xf⟩ := BlkAt.c5 hC.2
      go_wp2_with fail
      exact hK _ _ (Fr.refl _ _) hC rfl
    · rw [if_neg (by decide)]; intro kq
      intro a W K hC hd hK
      have d15 : _ = _ := hd 15 (by decide)
      refine wpOp_plain rfl rfl ?_
      obtain ⟨x0, x1, x2, x3, x4, xf⟩ := BlkAt.c5 hC.2
      go_wp2_with fail
      exact hK _ _ (Fr.refl _ _) hC rfl
    · rw [if_neg (by decide)]; intro kq
      intro a W K hC hd hK
      have d16 : _ = _ := hd 16 (by decide)
      refine wpOp_plain rfl rfl ?_
      obtain ⟨x0, x1, x2, x3, x4, xf⟩ := BlkAt.c5 hC.2
      go_wp2_with fail
      refine (hn2 W).mono ?_
      rintro e9 w9 ⟨rfl, rfl⟩
      exact hK _ _ (Fr.refl _ _) hC rfl
    · rw [if_neg (by decide)]; intro kq
      intro a W K hC hd hK
      have d14 : _ = _ := hd 14 (by decide)
      have d17 : _ = _ := hd 17 (by decide)
      refine wpOp_plain rfl rfl ?_
      go_wp2_with fail
      have fs : Fr noB W (W.alloc (.cells #[.int .i64 x, .int .i64 y] 23)) := (Fr.refl _ W).alloc _
      exact hK _ _ fs ⟨hC.1.then' fs, hC.2.al _⟩ ⟨_, _, rfl, BlkAt.new _ _ _⟩
    · rw [if_neg (by decide)]; intro kq
      intro a W K hC hd hK
      have d18 : (Two x y).V (a.tmps[18]?.getD undef) W := hd 18 (by decide)
      refine wpOp_plain rfl rfl ?_
      obtain ⟨x0, x1, x2, x3, x4, xf⟩ := BlkAt.c5 hC.2
      obtain ⟨B9, T9, hv9, hb9⟩ := d18
      have d18 : a.tmps[18]?.getD undef = .slice (some ⟨B9, 0, none⟩) 2 2 := hv9
      go_wp2_with fail
      refine (firstE_calls W B9 T9 x y hb9).mono ?_
      rintro e9 w9 ⟨rfl, rfl⟩
      rw [HE.out]
      exact hK _ _ (Fr.refl _ _) hC rfl
    · rw [if_neg (by decide)]; intro kq
      exact calm_mv 19 rfl rfl (Or.inr rfl) (Fr.refl _) (by decide) fun v w hd => hd
  · intro vs w1 fw1 cw1 hV
    have v12 : vs 0 = _ := hV 0 _ _ rfl rfl (by decide)
    have v13 : vs 1 = _ := hV 1 _ _ rfl rfl (by decide)
    have v14 : vs 2 = _ := hV 2 _ _ rfl rfl (by decide)
    have v15 : vs 3 = _ := hV 3 _ _ rfl rfl (by decide)
    have v16 : vs 4 = _ := hV 4 _ _ rfl rfl (by decide)
    have v17 : vs 5 = _ := hV 5 _ _ rfl rfl (by decide)
    have v18 : (Two x y).V (vs 6) w1 := hV 6 _ _ rfl rfl (by decide)
    have v19 : vs 7 = .int .i64 (e : Nat) := hV 7 _ _ rfl rfl (by decide)
    have v5 : vs 8 = _ := hV 8 _ _ rfl rfl (by decide)
    clear hV
    simp only [putL, Act.put, Nat.reduceAdd, List.setIfInBounds_toArray, List.set_cons_zero, List.set_cons_succ, v12, v13, v14, v15, v16, v17, v19, v5]
    obtain ⟨x0, x1, x2, x3, x4, xf⟩ := BlkAt.c5 cw1.2
    have fw := f0.then' fw1
    clear v18
    cases b
    · have HE0 := hid (show e = 0 from HB.out)
      have HK : Hid (k = l) := by
        rcases HV.out with ⟨_, h2⟩ | ⟨_, h2⟩
        · exact absurd HE0.out h2
        · exact h2
      have hb1 := cw1.2
      clear HV HB
      go_wp2_with fail
      apply wp_region_calm (R := Fr noB) (C := fun _ W => Fr noB w1 W ∧ BlkAt W w.heap.size 35 #[.string nm, .string hs, .string ml, .bool ds, .slice A n c]) [false, false, false, false, false, false, false, false, false]
        [eqv _, eqv _, eqv _, eqv _, eqv _, eqv _, Two p q, eqv (.int .i64 (l : Nat)), eqv _]
        (by kernel_rfl) (by kernel_rfl) (fun _ _ _ h1 h2 => h1.then' h2) ((Fr.refl _ _).drew) ⟨(Fr.refl _ _).drew, hb1⟩ (by kernel_rfl)
      · refine ⟨?_, ?_, ?_, ?_, ?_, ?_, ?_, ?_, ?_, trivial⟩
        · rw [if_neg (by decide)]; intro kq
          intro a W K hC hd hK
          have d3 : a.tmps[3]?.getD undef = .pointer (some ⟨w.heap.size, 0, none⟩) := hd 3 (by decide)
          refine wpOp_plain rfl rfl ?_
          obtain ⟨x0, x1, x2, x3, x4, xf⟩ := BlkAt.c5 hC.2
          go_wp2_with fail
          exact hK _ _ (Fr.refl _ _) hC rfl
        · rw [if_neg (by decide)]; intro kq
          intro a W K hC hd hK
          have d25 : _ = _ := hd 25 (by decide)
          refine wpOp_plain rfl rfl ?_
          obtain ⟨x0, x1, x2, x3, x4, xf⟩ := BlkAt.c5 hC.2
          go_wp2_with fail
          exact hK _ _ (Fr.refl _ _) hC rfl
        · rw [if_neg (by decide)]; intro kq
          intro a W K hC hd hK
          have d26 : _ = _ := hd 26 (by decide)
          refine wpOp_plain rfl rfl ?_
          obtain ⟨x0, x1, x2, x3, x4, xf⟩ := BlkAt.c5 hC.2
          go_wp2_with fail
          refine (hn3 W).mono ?_
          rintro e9 w9 ⟨rfl, f9⟩
          exact hK _ _ f9 ⟨hC.1.then' f9, hC.2.fr f9 id⟩ rfl
        · rw [if_neg (by decide)]; intro kq
          intro a W K hC hd hK
          have d3 : a.tmps[3]?.getD undef = .pointer (some ⟨w.heap.size, 0, none⟩) := hd 3 (by decide)
          refine wpOp_plain rfl rfl ?_
          obtain ⟨x0, x1, x2, x3, x4, xf⟩ := BlkAt.c5 hC.2
          go_wp2_with fail
          exact hK _ _ (Fr.refl _ _) hC rfl
        · rw [if_neg (by decide)]; intro kq
          intro a W K hC hd hK
          have d28 : _ = _ := hd 28 (by decide)
          refine wpOp_plain rfl rfl ?_
          obtain ⟨x0, x1, x2, x3, x4, xf⟩ := BlkAt.c5 hC.2
          go_wp2_with fail
          exact hK _ _ (Fr.refl _ _) hC rfl
        · rw [if_neg (by decide)]; intro kq
          intro a W K hC hd hK
          have d29 : _ = _ := hd 29 (by decide)
          refine wpOp_plain rfl rfl ?_
          obtain ⟨x0, x1, x2, x3, x4, xf⟩ := BlkAt.c5 hC.2
          go_wp2_with fail
          refine (hn4 W (hrow.fr0 (fw.then' hC.1))).mono ?_
          rintro e9 w9 ⟨rfl, f9⟩
          exact hK _ _ f9 ⟨hC.1.then' f9, hC.2.fr f9 id⟩ rfl
        · rw [if_neg (by decide)]; intro kq
          intro a W K hC hd hK
          have d27 : _ = _ := hd 27 (by decide)
          have d30 : _ = _ := hd 30 (by decide)
          refine wpOp_plain rfl rfl ?_
          go_wp2_with fail
          have fs : Fr noB W (W.alloc (.cells #[.int .i64 p, .int .i64 q] 23)) := (Fr.refl _ W).alloc _
          exact hK _ _ fs ⟨hC.1.then' fs, hC.2.al _⟩ ⟨_, _, rfl, BlkAt.new _ _ _⟩
        · rw [if_neg (by decide)]; intro kq
          intro a W K hC hd hK
          have d31 : (Two p q).V (a.tmps[31]?.getD undef) W := hd 31 (by decide)
          refine wpOp_plain rfl rfl ?_
          obtain ⟨x0, x1, x2, x3, x4, xf⟩ := BlkAt.c5 hC.2
          obtain ⟨B9, T9, hv9, hb9⟩ := d31
          have d31 : a.tmps[31]?.getD undef = .slice (some ⟨B9, 0, none⟩) 2 2 := hv9
          go_wp2_with fail
          refine (firstE_calls W B9 T9 p q hb9).mono ?_
          rintro e9 w9 ⟨rfl, rfl⟩
          rw [HL.out]
          exact hK _ _ (Fr.refl _ _) hC rfl
        · rw [if_neg (by decide)]; intro kq
          exact calm_mv 32 rfl rfl (Or.inr rfl) (Fr.refl _) (by decide) fun v w hd => hd
      · intro vs w2 fw2 cw2 hV
        have v25 : vs 0 = _ := hV 0 _ _ rfl rfl (by decide)
        have v26 : vs 1 = _ := hV 1 _ _ rfl rfl (by decide)
        have v27 : vs 2 = _ := hV 2 _ _ rfl rfl (by decide)
        have v28 : vs 3 = _ := hV 3 _ _ rfl rfl (by decide)
        have v29 : vs 4 = _ := hV 4 _ _ rfl rfl (by decide)
        have v30 : vs 5 = _ := hV 5 _ _ rfl rfl (by decide)
        have v31 : (Two p q).V (vs 6) w2 := hV 6 _ _ rfl rfl (by decide)
        have v32 : vs 7 = .int .i64 (l : Nat) := hV 7 _ _ rfl rfl (by decide)
        have v4 : vs 8 = _ := hV 8 _ _ rfl rfl (by decide)
        clear hV
        simp only [putL, Act.put, Nat.reduceAdd, List.setIfInBounds_toArray, List.set_cons_zero, List.set_cons_succ, v25, v26, v27, v28, v29, v30, v32, v4]
        go_wp2_with fail
        go_ret
        exact ⟨by rw [HK.out]; rfl, fw.then' fw2⟩
    · have HK : Hid (k = e) := by
        rcases HV.out with ⟨h1, _⟩ | ⟨h2, _⟩
        · exact h1
        · exact absurd h2 HB.out
      go_wp2_with fail
      go_ret
      exact ⟨by rw [HK.out]; rfl, fw⟩
theorem check_calls06 (w : World) (z : Int) (u : UsV) (A : Option Addr) (n c : Nat) (hrow : RowAt w A (strs u.gs)) (HN : Hid (u.gs.length = n)) :
    Calls Tryd.prog 27 #[.int .i64 z, .agg (u.C (.slice A n c))] w (NatPost w (checkU z u)) := by
  by_cases h1 : z = 1
  · subst h1; exact check1_calls w u A n c hrow HN
  · by_cases h2 : z = 2
    · subst h2; exact check2_calls w u A n c hrow HN
    · exact check_bad w z u _ h1 h2
end Go.Proofs.YtahcopmdffengaaDoor
