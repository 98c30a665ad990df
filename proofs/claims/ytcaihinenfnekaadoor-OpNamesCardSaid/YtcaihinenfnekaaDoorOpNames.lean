/- interrexlaw14.OpNames: the walk. -/
import Derived.Test.YtcaihinenfnekaaDoorOp7
namespace Go.Proofs.YtcaihinenfnekaaDoor
open Go.RowKit

theorem nameV_ne {k : Nat} (h : k < 17) : nameV k ≠ [] := by
  have : ∀ k : Fin 17, nameV (k.val : Int) ≠ [] := by decide
  exact this ⟨k, h⟩
theorem nameV_inj {i k : Nat} (h : i < 17) (h' : k < 17) (he : nameV i = nameV k) : i = k := by
  have : ∀ i k : Fin 17, nameV (i.val : Int) = nameV (k.val : Int) → i = k := by decide
  exact congrArg Fin.val (this ⟨i, h⟩ ⟨k, h'⟩ he)
theorem mkS_nil_toList : (mkS []).toList = [] := mkS_toList []
theorem same3_calls (a b : Nat) (A B : Option Addr) (c d n n' : Nat) (l m : List ByteArray) (w : World) (ha : RowAt w A (strs l)) (hb : RowAt w B (strs m)) (HN : Hid (l.length = n)) (HN' : Hid (m.length = n')) (hl : n ≤ 9223372036854775807) (S : Bool)
    (hS : (decide (a % 3 = b % 3) && (decide (a % 3 ≠ 0) || decide (l = m))) = S) :
    Calls Tryd.prog 19 #[.agg #[.int .i64 ((a : Int) % 3), .slice A n c], .agg #[.int .i64 ((b : Int) % 3), .slice B n' d]] w (BoolPost w S) := by
  have := sameRep_calls w (a % 3) (b % 3) A B c d n n' l m ha hb HN HN' hl
  rw [hS] at this
  push_cast at this
  exact this

set_option maxRecDepth 100000 in
set_option maxHeartbeats 3200000 in
theorem names_walk (w : World) (ht : SignsAt w) (hN : NamesAt w) (i k : Int) (a b : Nat) (A B : Option Addr) (c d n n' : Nat) (l m : List ByteArray) (ha : RowAt w A (strs l)) (hb : RowAt w B (strs m)) (HN : Hid (l.length = n)) (HN' : Hid (m.length = n'))
    (hl : n ≤ 9223372036854775807) (hl' : n' ≤ 9223372036854775807) (ha8 : a < 256) (hb8 : b < 256) :
    Calls Tryd.prog 3 #[.int .i64 i, .int .i64 k, .int .u8 a, .int .u8 b, .slice A n c, .slice B n' d] w (BoolPost w true) := by
  have hS0 := mkS_nil_toList
  by_cases h1 : 10 < n
  · have d1 : decide ((10 : Int) < n) = true := decide_eq_true (by omega)
    go_enter Tryd.func3, Tryd.ntmps3
    go_wp2_with fail
    refine (livesO_calls w ht).mono ?_
    rintro e w1 ⟨rfl, f1⟩
    go_wp2_with fail

    refine (livesO_calls w1 (ht.fr0 f1)).mono ?_
    rintro e w2 ⟨rfl, f2⟩
    go_wp2_with fail
    go_ret
    exact BoolPost.mk' rfl (f1.then' f2)
  · have d1 : decide ((10 : Int) < n) = false := decide_eq_false (by omega)
    by_cases h2 : 10 < n'
    · have d2 : decide ((10 : Int) < n') = true := decide_eq_true (by omega)
      go_enter Tryd.func3, Tryd.ntmps3
      go_wp2_with fail
      refine (livesO_calls w ht).mono ?_
      rintro e w1 ⟨rfl, f1⟩
      go_wp2_with fail

      refine (livesO_calls w1 (ht.fr0 f1)).mono ?_
      rintro e w2 ⟨rfl, f2⟩
      go_wp2_with fail
      go_ret
      exact BoolPost.mk' rfl (f1.then' f2)
    · have d2 : decide ((10 : Int) < n') = false := decide_eq_false (by omega)
      clear h1 h2
      by_cases h3 : i < 0
      · have d3 : decide (0 ≤ i) = false := decide_eq_false (by omega)
        have hnv := nameV_out (Or.inl h3)
        by_cases g1 : a % 3 = b % 3
        · have t1 : ((a : Int) % 3 == (b : Int) % 3) = true := by rw [beq_iff_eq]; omega
          by_cases g2 : a % 3 = 0
          · have t2 : ((a : Int) % 3 != 0) = false := by rw [bne_eq_false_iff_eq]; omega
            have HG : Hid ((decide (a % 3 = b % 3) && (decide (a % 3 ≠ 0) || decide (l = m))) = decide (l = m)) := by unfold Hid; rw [decide_eq_true g1, decide_eq_false (fun h => h g2)]; rfl
            clear g1 g2
            go_enter Tryd.func3, Tryd.ntmps3
            go_wp2_with fail
            refine (livesO_calls w ht).mono ?_
            rintro e w1 ⟨rfl, f1⟩
            go_wp2_with fail

            refine (from_calls _ i).mono ?_
            rintro e w2 ⟨rfl, f2⟩
            go_wp2_with fail
            refine (fromR_calls _ i).mono ?_
            rintro e w3 ⟨rfl, f3⟩
            have F3 := (f1.then' f2).then' f3
            generalize fromV i = fi
            clear f1 f2 f3

            have hnc := name_calls w3 i (hN.fr0 F3)
            rw [hnv] at hnc
            go_wp2_with fail
            refine hnc.mono ?_
            rintro e w4 ⟨rfl, f4⟩
            have FX := F3.then' f4
            clear f4 hnc F3
            go_wp2_with fail
            refine (same3_calls a b A B c d n n' l m _ ((ha.fr0 FX).fr0 (((Fr.refl noB _).alloc _).alloc _)) ((hb.fr0 FX).fr0 (((Fr.refl noB _).alloc _).alloc _)) HN HN' hl (decide (l = m)) HG.out).mono ?_
            rintro e w8 ⟨rfl, f8⟩
            have FY : Fr noB w w8 := ((FX.alloc _).alloc _).then' f8
            clear f8
            go_wp2_with fail
            refine (sameTexts_calls w8 A B c d n n' l m (ha.fr0 FY) (hb.fr0 FY) HN HN' hl).mono ?_
            rintro e w9 ⟨rfl, f9⟩
            go_wp2_with fail
            go_ret
            exact BoolPost.mk' (by simp) (FY.then' f9)
          · have t2 : ((a : Int) % 3 != 0) = true := by rw [bne_iff_ne]; omega
            have HG : Hid ((decide (a % 3 = b % 3) && (decide (a % 3 ≠ 0) || decide (l = m))) = true) := by unfold Hid; rw [decide_eq_true g1, decide_eq_true g2]; rfl
            clear g1 g2
            go_enter Tryd.func3, Tryd.ntmps3
            go_wp2_with fail
            refine (livesO_calls w ht).mono ?_
            rintro e w1 ⟨rfl, f1⟩
            go_wp2_with fail

            refine (from_calls _ i).mono ?_
            rintro e w2 ⟨rfl, f2⟩
            go_wp2_with fail
            refine (fromR_calls _ i).mono ?_
            rintro e w3 ⟨rfl, f3⟩
            have F3 := (f1.then' f2).then' f3
            generalize fromV i = fi
            clear f1 f2 f3

            have hnc := name_calls w3 i (hN.fr0 F3)
            rw [hnv] at hnc
            go_wp2_with fail
            refine hnc.mono ?_
            rintro e w4 ⟨rfl, f4⟩
            have FX := F3.then' f4
            clear f4 hnc F3
            go_wp2_with fail
            refine (same3_calls a b A B c d n n' l m _ ((ha.fr0 FX).fr0 (((Fr.refl noB _).alloc _).alloc _)) ((hb.fr0 FX).fr0 (((Fr.refl noB _).alloc _).alloc _)) HN HN' hl true HG.out).mono ?_
            rintro e w8 ⟨rfl, f8⟩
            have FY : Fr noB w w8 := ((FX.alloc _).alloc _).then' f8
            clear f8
            go_wp2_with fail
            go_ret
            exact BoolPost.mk' (by simp) FY
        · have t1 : ((a : Int) % 3 == (b : Int) % 3) = false := by rw [beq_eq_false_iff_ne]; omega
          have HG : Hid ((decide (a % 3 = b % 3) && (decide (a % 3 ≠ 0) || decide (l = m))) = false) := by unfold Hid; rw [decide_eq_false g1]; rfl
          clear g1
          go_enter Tryd.func3, Tryd.ntmps3
          go_wp2_with fail
          refine (livesO_calls w ht).mono ?_
          rintro e w1 ⟨rfl, f1⟩
          go_wp2_with fail

          refine (from_calls _ i).mono ?_
          rintro e w2 ⟨rfl, f2⟩
          go_wp2_with fail
          refine (fromR_calls _ i).mono ?_
          rintro e w3 ⟨rfl, f3⟩
          have F3 := (f1.then' f2).then' f3
          generalize fromV i = fi
          clear f1 f2 f3

          have hnc := name_calls w3 i (hN.fr0 F3)
          rw [hnv] at hnc
          go_wp2_with fail
          refine hnc.mono ?_
          rintro e w4 ⟨rfl, f4⟩
          have FX := F3.then' f4
          clear f4 hnc F3
          go_wp2_with fail
          refine (same3_calls a b A B c d n n' l m _ ((ha.fr0 FX).fr0 (((Fr.refl noB _).alloc _).alloc _)) ((hb.fr0 FX).fr0 (((Fr.refl noB _).alloc _).alloc _)) HN HN' hl false HG.out).mono ?_
          rintro e w8 ⟨rfl, f8⟩
          have FY : Fr noB w w8 := ((FX.alloc _).alloc _).then' f8
          clear f8
          go_wp2_with fail
          go_ret
          exact BoolPost.mk' (by simp) FY
      · have d3 : decide (0 ≤ i) = true := decide_eq_true (by omega)
        by_cases h4 : 17 ≤ i
        · have d4 : decide (i < 17) = false := decide_eq_false (by omega)
          have hnv := nameV_out (Or.inr h4)
          by_cases g1 : a % 3 = b % 3
          · have t1 : ((a : Int) % 3 == (b : Int) % 3) = true := by rw [beq_iff_eq]; omega
            by_cases g2 : a % 3 = 0
            · have t2 : ((a : Int) % 3 != 0) = false := by rw [bne_eq_false_iff_eq]; omega
              have HG : Hid ((decide (a % 3 = b % 3) && (decide (a % 3 ≠ 0) || decide (l = m))) = decide (l = m)) := by unfold Hid; rw [decide_eq_true g1, decide_eq_false (fun h => h g2)]; rfl
              clear g1 g2
              go_enter Tryd.func3, Tryd.ntmps3
              go_wp2_with fail
              refine (livesO_calls w ht).mono ?_
              rintro e w1 ⟨rfl, f1⟩
              go_wp2_with fail

              refine (from_calls _ i).mono ?_
              rintro e w2 ⟨rfl, f2⟩
              go_wp2_with fail
              refine (fromR_calls _ i).mono ?_
              rintro e w3 ⟨rfl, f3⟩
              have F3 := (f1.then' f2).then' f3
              generalize fromV i = fi
              clear f1 f2 f3

              have hnc := name_calls w3 i (hN.fr0 F3)
              rw [hnv] at hnc
              go_wp2_with fail
              refine hnc.mono ?_
              rintro e w4 ⟨rfl, f4⟩
              have FX := F3.then' f4
              clear f4 hnc F3
              go_wp2_with fail
              refine (same3_calls a b A B c d n n' l m _ ((ha.fr0 FX).fr0 (((Fr.refl noB _).alloc _).alloc _)) ((hb.fr0 FX).fr0 (((Fr.refl noB _).alloc _).alloc _)) HN HN' hl (decide (l = m)) HG.out).mono ?_
              rintro e w8 ⟨rfl, f8⟩
              have FY : Fr noB w w8 := ((FX.alloc _).alloc _).then' f8
              clear f8
              go_wp2_with fail
              refine (sameTexts_calls w8 A B c d n n' l m (ha.fr0 FY) (hb.fr0 FY) HN HN' hl).mono ?_
              rintro e w9 ⟨rfl, f9⟩
              go_wp2_with fail
              go_ret
              exact BoolPost.mk' (by simp) (FY.then' f9)
            · have t2 : ((a : Int) % 3 != 0) = true := by rw [bne_iff_ne]; omega
              have HG : Hid ((decide (a % 3 = b % 3) && (decide (a % 3 ≠ 0) || decide (l = m))) = true) := by unfold Hid; rw [decide_eq_true g1, decide_eq_true g2]; rfl
              clear g1 g2
              go_enter Tryd.func3, Tryd.ntmps3
              go_wp2_with fail
              refine (livesO_calls w ht).mono ?_
              rintro e w1 ⟨rfl, f1⟩
              go_wp2_with fail

              refine (from_calls _ i).mono ?_
              rintro e w2 ⟨rfl, f2⟩
              go_wp2_with fail
              refine (fromR_calls _ i).mono ?_
              rintro e w3 ⟨rfl, f3⟩
              have F3 := (f1.then' f2).then' f3
              generalize fromV i = fi
              clear f1 f2 f3

              have hnc := name_calls w3 i (hN.fr0 F3)
              rw [hnv] at hnc
              go_wp2_with fail
              refine hnc.mono ?_
              rintro e w4 ⟨rfl, f4⟩
              have FX := F3.then' f4
              clear f4 hnc F3
              go_wp2_with fail
              refine (same3_calls a b A B c d n n' l m _ ((ha.fr0 FX).fr0 (((Fr.refl noB _).alloc _).alloc _)) ((hb.fr0 FX).fr0 (((Fr.refl noB _).alloc _).alloc _)) HN HN' hl true HG.out).mono ?_
              rintro e w8 ⟨rfl, f8⟩
              have FY : Fr noB w w8 := ((FX.alloc _).alloc _).then' f8
              clear f8
              go_wp2_with fail
              go_ret
              exact BoolPost.mk' (by simp) FY
          · have t1 : ((a : Int) % 3 == (b : Int) % 3) = false := by rw [beq_eq_false_iff_ne]; omega
            have HG : Hid ((decide (a % 3 = b % 3) && (decide (a % 3 ≠ 0) || decide (l = m))) = false) := by unfold Hid; rw [decide_eq_false g1]; rfl
            clear g1
            go_enter Tryd.func3, Tryd.ntmps3
            go_wp2_with fail
            refine (livesO_calls w ht).mono ?_
            rintro e w1 ⟨rfl, f1⟩
            go_wp2_with fail

            refine (from_calls _ i).mono ?_
            rintro e w2 ⟨rfl, f2⟩
            go_wp2_with fail
            refine (fromR_calls _ i).mono ?_
            rintro e w3 ⟨rfl, f3⟩
            have F3 := (f1.then' f2).then' f3
            generalize fromV i = fi
            clear f1 f2 f3

            have hnc := name_calls w3 i (hN.fr0 F3)
            rw [hnv] at hnc
            go_wp2_with fail
            refine hnc.mono ?_
            rintro e w4 ⟨rfl, f4⟩
            have FX := F3.then' f4
            clear f4 hnc F3
            go_wp2_with fail
            refine (same3_calls a b A B c d n n' l m _ ((ha.fr0 FX).fr0 (((Fr.refl noB _).alloc _).alloc _)) ((hb.fr0 FX).fr0 (((Fr.refl noB _).alloc _).alloc _)) HN HN' hl false HG.out).mono ?_
            rintro e w8 ⟨rfl, f8⟩
            have FY : Fr noB w w8 := ((FX.alloc _).alloc _).then' f8
            clear f8
            go_wp2_with fail
            go_ret
            exact BoolPost.mk' (by simp) FY
        · have d4 : decide (i < 17) = true := decide_eq_true (by omega)
          obtain ⟨ii, hii⟩ : ∃ ii : Nat, i = ii := ⟨i.toNat, by omega⟩
          have hi17 : ii < 17 := by omega
          obtain ⟨si, hsi0⟩ : ∃ s, nameV i = s := ⟨_, rfl⟩
          have hns : (mkS si).toList.isEmpty = false := by rw [mkS_toList, ← hsi0, hii, List.isEmpty_eq_false_iff]; exact nameV_ne hi17
          have hsi := hid hsi0
          by_cases h5 : k < 0
          · have d5 : decide (0 ≤ k) = false := decide_eq_false (by omega)
            clear hsi0 hii
            by_cases g1 : a % 3 = b % 3
            · have t1 : ((a : Int) % 3 == (b : Int) % 3) = true := by rw [beq_iff_eq]; omega
              by_cases g2 : a % 3 = 0
              · have t2 : ((a : Int) % 3 != 0) = false := by rw [bne_eq_false_iff_eq]; omega
                have HG : Hid ((decide (a % 3 = b % 3) && (decide (a % 3 ≠ 0) || decide (l = m))) = decide (l = m)) := by unfold Hid; rw [decide_eq_true g1, decide_eq_false (fun h => h g2)]; rfl
                clear g1 g2
                go_enter Tryd.func3, Tryd.ntmps3
                go_wp2_with fail
                refine (livesO_calls w ht).mono ?_
                rintro e w1 ⟨rfl, f1⟩
                go_wp2_with fail

                refine (from_calls _ i).mono ?_
                rintro e w2 ⟨rfl, f2⟩
                go_wp2_with fail
                refine (fromR_calls _ i).mono ?_
                rintro e w3 ⟨rfl, f3⟩
                have F3 := (f1.then' f2).then' f3
                generalize fromV i = fi
                clear f1 f2 f3

                have hnc := name_calls w3 i (hN.fr0 F3)
                rw [hsi.out] at hnc
                go_wp2_with fail
                refine hnc.mono ?_
                rintro e w4 ⟨rfl, f4⟩
                have FX := F3.then' f4
                clear f4 hnc F3
                go_wp2_with fail
                refine (same3_calls a b A B c d n n' l m _ ((ha.fr0 FX).fr0 (((Fr.refl noB _).alloc _).alloc _)) ((hb.fr0 FX).fr0 (((Fr.refl noB _).alloc _).alloc _)) HN HN' hl (decide (l = m)) HG.out).mono ?_
                rintro e w8 ⟨rfl, f8⟩
                have FY : Fr noB w w8 := ((FX.alloc _).alloc _).then' f8
                clear f8
                go_wp2_with fail
                refine (sameTexts_calls w8 A B c d n n' l m (ha.fr0 FY) (hb.fr0 FY) HN HN' hl).mono ?_
                rintro e w9 ⟨rfl, f9⟩
                go_wp2_with fail
                go_ret
                exact BoolPost.mk' (by simp) (FY.then' f9)
              · have t2 : ((a : Int) % 3 != 0) = true := by rw [bne_iff_ne]; omega
                have HG : Hid ((decide (a % 3 = b % 3) && (decide (a % 3 ≠ 0) || decide (l = m))) = true) := by unfold Hid; rw [decide_eq_true g1, decide_eq_true g2]; rfl
                clear g1 g2
                go_enter Tryd.func3, Tryd.ntmps3
                go_wp2_with fail
                refine (livesO_calls w ht).mono ?_
                rintro e w1 ⟨rfl, f1⟩
                go_wp2_with fail

                refine (from_calls _ i).mono ?_
                rintro e w2 ⟨rfl, f2⟩
                go_wp2_with fail
                refine (fromR_calls _ i).mono ?_
                rintro e w3 ⟨rfl, f3⟩
                have F3 := (f1.then' f2).then' f3
                generalize fromV i = fi
                clear f1 f2 f3

                have hnc := name_calls w3 i (hN.fr0 F3)
                rw [hsi.out] at hnc
                go_wp2_with fail
                refine hnc.mono ?_
                rintro e w4 ⟨rfl, f4⟩
                have FX := F3.then' f4
                clear f4 hnc F3
                go_wp2_with fail
                refine (same3_calls a b A B c d n n' l m _ ((ha.fr0 FX).fr0 (((Fr.refl noB _).alloc _).alloc _)) ((hb.fr0 FX).fr0 (((Fr.refl noB _).alloc _).alloc _)) HN HN' hl true HG.out).mono ?_
                rintro e w8 ⟨rfl, f8⟩
                have FY : Fr noB w w8 := ((FX.alloc _).alloc _).then' f8
                clear f8
                go_wp2_with fail
                go_ret
                exact BoolPost.mk' (by simp) FY
            · have t1 : ((a : Int) % 3 == (b : Int) % 3) = false := by rw [beq_eq_false_iff_ne]; omega
              have HG : Hid ((decide (a % 3 = b % 3) && (decide (a % 3 ≠ 0) || decide (l = m))) = false) := by unfold Hid; rw [decide_eq_false g1]; rfl
              clear g1
              go_enter Tryd.func3, Tryd.ntmps3
              go_wp2_with fail
              refine (livesO_calls w ht).mono ?_
              rintro e w1 ⟨rfl, f1⟩
              go_wp2_with fail

              refine (from_calls _ i).mono ?_
              rintro e w2 ⟨rfl, f2⟩
              go_wp2_with fail
              refine (fromR_calls _ i).mono ?_
              rintro e w3 ⟨rfl, f3⟩
              have F3 := (f1.then' f2).then' f3
              generalize fromV i = fi
              clear f1 f2 f3

              have hnc := name_calls w3 i (hN.fr0 F3)
              rw [hsi.out] at hnc
              go_wp2_with fail
              refine hnc.mono ?_
              rintro e w4 ⟨rfl, f4⟩
              have FX := F3.then' f4
              clear f4 hnc F3
              go_wp2_with fail
              refine (same3_calls a b A B c d n n' l m _ ((ha.fr0 FX).fr0 (((Fr.refl noB _).alloc _).alloc _)) ((hb.fr0 FX).fr0 (((Fr.refl noB _).alloc _).alloc _)) HN HN' hl false HG.out).mono ?_
              rintro e w8 ⟨rfl, f8⟩
              have FY : Fr noB w w8 := ((FX.alloc _).alloc _).then' f8
              clear f8
              go_wp2_with fail
              go_ret
              exact BoolPost.mk' (by simp) FY
          · have d5 : decide (0 ≤ k) = true := decide_eq_true (by omega)
            by_cases h6 : 17 ≤ k
            · have d6 : decide (k < 17) = false := decide_eq_false (by omega)
              clear hsi0 hii
              by_cases g1 : a % 3 = b % 3
              · have t1 : ((a : Int) % 3 == (b : Int) % 3) = true := by rw [beq_iff_eq]; omega
                by_cases g2 : a % 3 = 0
                · have t2 : ((a : Int) % 3 != 0) = false := by rw [bne_eq_false_iff_eq]; omega
                  have HG : Hid ((decide (a % 3 = b % 3) && (decide (a % 3 ≠ 0) || decide (l = m))) = decide (l = m)) := by unfold Hid; rw [decide_eq_true g1, decide_eq_false (fun h => h g2)]; rfl
                  clear g1 g2
                  go_enter Tryd.func3, Tryd.ntmps3
                  go_wp2_with fail
                  refine (livesO_calls w ht).mono ?_
                  rintro e w1 ⟨rfl, f1⟩
                  go_wp2_with fail

                  refine (from_calls _ i).mono ?_
                  rintro e w2 ⟨rfl, f2⟩
                  go_wp2_with fail
                  refine (fromR_calls _ i).mono ?_
                  rintro e w3 ⟨rfl, f3⟩
                  have F3 := (f1.then' f2).then' f3
                  generalize fromV i = fi
                  clear f1 f2 f3

                  have hnc := name_calls w3 i (hN.fr0 F3)
                  rw [hsi.out] at hnc
                  go_wp2_with fail
                  refine hnc.mono ?_
                  rintro e w4 ⟨rfl, f4⟩
                  have FX := F3.then' f4
                  clear f4 hnc F3
                  go_wp2_with fail
                  refine (same3_calls a b A B c d n n' l m _ ((ha.fr0 FX).fr0 (((Fr.refl noB _).alloc _).alloc _)) ((hb.fr0 FX).fr0 (((Fr.refl noB _).alloc _).alloc _)) HN HN' hl (decide (l = m)) HG.out).mono ?_
                  rintro e w8 ⟨rfl, f8⟩
                  have FY : Fr noB w w8 := ((FX.alloc _).alloc _).then' f8
                  clear f8
                  go_wp2_with fail
                  refine (sameTexts_calls w8 A B c d n n' l m (ha.fr0 FY) (hb.fr0 FY) HN HN' hl).mono ?_
                  rintro e w9 ⟨rfl, f9⟩
                  go_wp2_with fail
                  go_ret
                  exact BoolPost.mk' (by simp) (FY.then' f9)
                · have t2 : ((a : Int) % 3 != 0) = true := by rw [bne_iff_ne]; omega
                  have HG : Hid ((decide (a % 3 = b % 3) && (decide (a % 3 ≠ 0) || decide (l = m))) = true) := by unfold Hid; rw [decide_eq_true g1, decide_eq_true g2]; rfl
                  clear g1 g2
                  go_enter Tryd.func3, Tryd.ntmps3
                  go_wp2_with fail
                  refine (livesO_calls w ht).mono ?_
                  rintro e w1 ⟨rfl, f1⟩
                  go_wp2_with fail

                  refine (from_calls _ i).mono ?_
                  rintro e w2 ⟨rfl, f2⟩
                  go_wp2_with fail
                  refine (fromR_calls _ i).mono ?_
                  rintro e w3 ⟨rfl, f3⟩
                  have F3 := (f1.then' f2).then' f3
                  generalize fromV i = fi
                  clear f1 f2 f3

                  have hnc := name_calls w3 i (hN.fr0 F3)
                  rw [hsi.out] at hnc
                  go_wp2_with fail
                  refine hnc.mono ?_
                  rintro e w4 ⟨rfl, f4⟩
                  have FX := F3.then' f4
                  clear f4 hnc F3
                  go_wp2_with fail
                  refine (same3_calls a b A B c d n n' l m _ ((ha.fr0 FX).fr0 (((Fr.refl noB _).alloc _).alloc _)) ((hb.fr0 FX).fr0 (((Fr.refl noB _).alloc _).alloc _)) HN HN' hl true HG.out).mono ?_
                  rintro e w8 ⟨rfl, f8⟩
                  have FY : Fr noB w w8 := ((FX.alloc _).alloc _).then' f8
                  clear f8
                  go_wp2_with fail
                  go_ret
                  exact BoolPost.mk' (by simp) FY
              · have t1 : ((a : Int) % 3 == (b : Int) % 3) = false := by rw [beq_eq_false_iff_ne]; omega
                have HG : Hid ((decide (a % 3 = b % 3) && (decide (a % 3 ≠ 0) || decide (l = m))) = false) := by unfold Hid; rw [decide_eq_false g1]; rfl
                clear g1
                go_enter Tryd.func3, Tryd.ntmps3
                go_wp2_with fail
                refine (livesO_calls w ht).mono ?_
                rintro e w1 ⟨rfl, f1⟩
                go_wp2_with fail

                refine (from_calls _ i).mono ?_
                rintro e w2 ⟨rfl, f2⟩
                go_wp2_with fail
                refine (fromR_calls _ i).mono ?_
                rintro e w3 ⟨rfl, f3⟩
                have F3 := (f1.then' f2).then' f3
                generalize fromV i = fi
                clear f1 f2 f3

                have hnc := name_calls w3 i (hN.fr0 F3)
                rw [hsi.out] at hnc
                go_wp2_with fail
                refine hnc.mono ?_
                rintro e w4 ⟨rfl, f4⟩
                have FX := F3.then' f4
                clear f4 hnc F3
                go_wp2_with fail
                refine (same3_calls a b A B c d n n' l m _ ((ha.fr0 FX).fr0 (((Fr.refl noB _).alloc _).alloc _)) ((hb.fr0 FX).fr0 (((Fr.refl noB _).alloc _).alloc _)) HN HN' hl false HG.out).mono ?_
                rintro e w8 ⟨rfl, f8⟩
                have FY : Fr noB w w8 := ((FX.alloc _).alloc _).then' f8
                clear f8
                go_wp2_with fail
                go_ret
                exact BoolPost.mk' (by simp) FY
            · have d6 : decide (k < 17) = true := decide_eq_true (by omega)
              obtain ⟨kk, hkk⟩ : ∃ kk : Nat, k = kk := ⟨k.toNat, by omega⟩
              have hk17 : kk < 17 := by omega
              obtain ⟨sk, hsk0⟩ : ∃ s, nameV k = s := ⟨_, rfl⟩
              have hsk := hid hsk0
              obtain ⟨q, hq⟩ : ∃ q : Bool, (i == k) = q := ⟨_, rfl⟩
              have hqs : ((mkS si).toList == (mkS sk).toList) = q := by
                rw [mkS_toList, mkS_toList, ← hq, ← hsi0, ← hsk0, Bool.eq_iff_iff, beq_iff_eq, beq_iff_eq]
                constructor
                · intro h; rw [hii, hkk] at h ⊢; rw [nameV_inj hi17 hk17 h]
                · intro h; rw [h]
              clear hsi0 hii hsk0 hkk
              by_cases g1 : a % 3 = b % 3
              · have t1 : ((a : Int) % 3 == (b : Int) % 3) = true := by rw [beq_iff_eq]; omega
                by_cases g2 : a % 3 = 0
                · have t2 : ((a : Int) % 3 != 0) = false := by rw [bne_eq_false_iff_eq]; omega
                  have HG : Hid ((decide (a % 3 = b % 3) && (decide (a % 3 ≠ 0) || decide (l = m))) = decide (l = m)) := by unfold Hid; rw [decide_eq_true g1, decide_eq_false (fun h => h g2)]; rfl
                  clear g1 g2
                  go_enter Tryd.func3, Tryd.ntmps3
                  go_wp2_with fail
                  refine (livesO_calls w ht).mono ?_
                  rintro e w1 ⟨rfl, f1⟩
                  go_wp2_with fail

                  refine (from_calls _ i).mono ?_
                  rintro e w2 ⟨rfl, f2⟩
                  go_wp2_with fail
                  refine (fromR_calls _ i).mono ?_
                  rintro e w3 ⟨rfl, f3⟩
                  have F3 := (f1.then' f2).then' f3
                  generalize fromV i = fi
                  clear f1 f2 f3

                  have hnc := name_calls w3 i (hN.fr0 F3)
                  rw [hsi.out] at hnc
                  go_wp2_with fail
                  refine hnc.mono ?_
                  rintro e w4 ⟨rfl, f4⟩
                  have F4 := F3.then' f4
                  clear f4 hnc F3
                  have hnc := name_calls w4 i (hN.fr0 F4)
                  rw [hsi.out] at hnc
                  go_wp2_with fail
                  refine hnc.mono ?_
                  rintro e w5 ⟨rfl, f5⟩
                  have F5 := F4.then' f5
                  clear f5 hnc F4
                  have hnk := name_calls w5 k (hN.fr0 F5)
                  rw [hsk.out] at hnk
                  go_wp2_with fail
                  refine hnk.mono ?_
                  rintro e w6 ⟨rfl, f6⟩
                  have FX := F5.then' f6
                  clear f6 hnk F5
                  go_wp2_with fail
                  refine (same3_calls a b A B c d n n' l m _ ((ha.fr0 FX).fr0 (((Fr.refl noB _).alloc _).alloc _)) ((hb.fr0 FX).fr0 (((Fr.refl noB _).alloc _).alloc _)) HN HN' hl (decide (l = m)) HG.out).mono ?_
                  rintro e w8 ⟨rfl, f8⟩
                  have FY : Fr noB w w8 := ((FX.alloc _).alloc _).then' f8
                  clear f8
                  go_wp2_with fail
                  refine (sameTexts_calls w8 A B c d n n' l m (ha.fr0 FY) (hb.fr0 FY) HN HN' hl).mono ?_
                  rintro e w9 ⟨rfl, f9⟩
                  go_wp2_with fail
                  go_ret
                  exact BoolPost.mk' (by simp) (FY.then' f9)
                · have t2 : ((a : Int) % 3 != 0) = true := by rw [bne_iff_ne]; omega
                  have HG : Hid ((decide (a % 3 = b % 3) && (decide (a % 3 ≠ 0) || decide (l = m))) = true) := by unfold Hid; rw [decide_eq_true g1, decide_eq_true g2]; rfl
                  clear g1 g2
                  go_enter Tryd.func3, Tryd.ntmps3
                  go_wp2_with fail
                  refine (livesO_calls w ht).mono ?_
                  rintro e w1 ⟨rfl, f1⟩
                  go_wp2_with fail

                  refine (from_calls _ i).mono ?_
                  rintro e w2 ⟨rfl, f2⟩
                  go_wp2_with fail
                  refine (fromR_calls _ i).mono ?_
                  rintro e w3 ⟨rfl, f3⟩
                  have F3 := (f1.then' f2).then' f3
                  generalize fromV i = fi
                  clear f1 f2 f3

                  have hnc := name_calls w3 i (hN.fr0 F3)
                  rw [hsi.out] at hnc
                  go_wp2_with fail
                  refine hnc.mono ?_
                  rintro e w4 ⟨rfl, f4⟩
                  have F4 := F3.then' f4
                  clear f4 hnc F3
                  have hnc := name_calls w4 i (hN.fr0 F4)
                  rw [hsi.out] at hnc
                  go_wp2_with fail
                  refine hnc.mono ?_
                  rintro e w5 ⟨rfl, f5⟩
                  have F5 := F4.then' f5
                  clear f5 hnc F4
                  have hnk := name_calls w5 k (hN.fr0 F5)
                  rw [hsk.out] at hnk
                  go_wp2_with fail
                  refine hnk.mono ?_
                  rintro e w6 ⟨rfl, f6⟩
                  have FX := F5.then' f6
                  clear f6 hnk F5
                  go_wp2_with fail
                  refine (same3_calls a b A B c d n n' l m _ ((ha.fr0 FX).fr0 (((Fr.refl noB _).alloc _).alloc _)) ((hb.fr0 FX).fr0 (((Fr.refl noB _).alloc _).alloc _)) HN HN' hl true HG.out).mono ?_
                  rintro e w8 ⟨rfl, f8⟩
                  have FY : Fr noB w w8 := ((FX.alloc _).alloc _).then' f8
                  clear f8
                  go_wp2_with fail
                  go_ret
                  exact BoolPost.mk' (by simp) FY
              · have t1 : ((a : Int) % 3 == (b : Int) % 3) = false := by rw [beq_eq_false_iff_ne]; omega
                have HG : Hid ((decide (a % 3 = b % 3) && (decide (a % 3 ≠ 0) || decide (l = m))) = false) := by unfold Hid; rw [decide_eq_false g1]; rfl
                clear g1
                go_enter Tryd.func3, Tryd.ntmps3
                go_wp2_with fail
                refine (livesO_calls w ht).mono ?_
                rintro e w1 ⟨rfl, f1⟩
                go_wp2_with fail

                refine (from_calls _ i).mono ?_
                rintro e w2 ⟨rfl, f2⟩
                go_wp2_with fail
                refine (fromR_calls _ i).mono ?_
                rintro e w3 ⟨rfl, f3⟩
                have F3 := (f1.then' f2).then' f3
                generalize fromV i = fi
                clear f1 f2 f3

                have hnc := name_calls w3 i (hN.fr0 F3)
                rw [hsi.out] at hnc
                go_wp2_with fail
                refine hnc.mono ?_
                rintro e w4 ⟨rfl, f4⟩
                have F4 := F3.then' f4
                clear f4 hnc F3
                have hnc := name_calls w4 i (hN.fr0 F4)
                rw [hsi.out] at hnc
                go_wp2_with fail
                refine hnc.mono ?_
                rintro e w5 ⟨rfl, f5⟩
                have F5 := F4.then' f5
                clear f5 hnc F4
                have hnk := name_calls w5 k (hN.fr0 F5)
                rw [hsk.out] at hnk
                go_wp2_with fail
                refine hnk.mono ?_
                rintro e w6 ⟨rfl, f6⟩
                have FX := F5.then' f6
                clear f6 hnk F5
                go_wp2_with fail
                refine (same3_calls a b A B c d n n' l m _ ((ha.fr0 FX).fr0 (((Fr.refl noB _).alloc _).alloc _)) ((hb.fr0 FX).fr0 (((Fr.refl noB _).alloc _).alloc _)) HN HN' hl false HG.out).mono ?_
                rintro e w8 ⟨rfl, f8⟩
                have FY : Fr noB w w8 := ((FX.alloc _).alloc _).then' f8
                clear f8
                go_wp2_with fail
                go_ret
                exact BoolPost.mk' (by simp) FY

theorem names_law (w : World) (hN : NamesAt w) (ht : SignsAt w) (i : Int) (_ : (Lit.int .i64 i).wf = true) (k : Int) (_ : (Lit.int .i64 k).wf = true) (a : Int) (wa : (Lit.int .u8 a).wf = true) (b : Int) (wb : (Lit.int .u8 b).wf = true)
    (A : Option Addr) (n c : Nat) (l : List ByteArray) (o : RowAt w A (strs l) ∧ l.length = n ∧ n ≤ c ∧ c ≤ maxLen ∧ (∀ s ∈ l, s.size ≤ maxLen) ∧ (A = none → n = 0 ∧ c = 0))
    (B : Option Addr) (m d : Nat) (l' : List ByteArray) (o' : RowAt w B (strs l') ∧ l'.length = m ∧ m ≤ d ∧ d ≤ maxLen ∧ (∀ s ∈ l', s.size ≤ maxLen) ∧ (B = none → m = 0 ∧ d = 0)) :
    Calls Tryd.prog 3 #[.int .i64 i, .int .i64 k, .int .u8 a, .int .u8 b, .slice A n c, .slice B m d] w (BoolPost w true) := by
  simp [Lit.wf, IntKind.min, IntKind.max, IntKind.bits, IntKind.signed] at wa wb
  obtain ⟨a', rfl⟩ : ∃ x : Nat, a = x := ⟨a.toNat, by omega⟩
  obtain ⟨b', rfl⟩ : ∃ x : Nat, b = x := ⟨b.toNat, by omega⟩
  obtain ⟨h1, h2, h3, h4, _⟩ := o
  obtain ⟨g1, g2, g3, g4, _⟩ := o'
  unfold maxLen at *
  exact names_walk w ht hN i k a' b' A B c d n m l l' h1 g1 h2 g2 (by omega) (by omega) (by omega) (by omega)
end Go.Proofs.YtcaihinenfnekaaDoor
