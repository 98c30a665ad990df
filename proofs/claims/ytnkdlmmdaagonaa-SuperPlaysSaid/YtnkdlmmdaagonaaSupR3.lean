/- interrexref22.Text. -/
import Derived.Test.YtnkdlmmdaagonaaSup2b
import Derived.Test.YtnkdlmmdaagonaaRef1
import Derived.Test.YtnkdlmmdaagonaaCalmF
import Derived.Test.YtnkdlmmdaagonaaConv
namespace Go.Proofs.Ytnkdlmmdaagonaa
open Go.RowKit
def UTS (a b : List UInt8) : Nat → Value → Prop
  | 0, v => v = .string (mkS a)
  | 1, v => v = .string (mkS a)
  | _, v => v = .string (mkS b)
def RowTwo (bs : List UInt8) : Stb (Fr noB) := ⟨fun v W => ∃ q, v = .slice (some ⟨q, 0, none⟩) 2 2 ∧ RowAt W (some ⟨q, 0, none⟩) (bcells bs), fun _ _ _ ⟨q, h1, h2⟩ f => ⟨q, h1, h2.fr0 f⟩⟩
set_option maxRecDepth 100000 in
set_option maxHeartbeats 6400000 in
theorem textS_calls (w : World) (s : SuV) (hw : s.wf) :
    Calls Try.prog 35 #[s.v] w (StrPost w (superB s)) := by
  have f0 : Fr noB w (w.alloc (.cells s.C.toArray 64)) := (Fr.refl noB w).alloc _
  have hb0 : BlkAt (w.alloc (.cells s.C.toArray 64)) w.heap.size 64 s.C.toArray := BlkAt.new _ _ _
  have hT : Hid (superB s = sealB (leB 8 s.seq ++ leB 8 s.view ++ leB 8 s.normal ++ leB 8 s.gen ++ (leB 1 s.half ++ leB 1 s.slot) ++ leB 8 s.base ++ leB 4 s.size ++ leB 4 s.sum)) := by
    unfold Hid superB bodyS; simp only [List.append_assoc]
  generalize superB s = te at *
  obtain ⟨seq, view, normal, gen, half, slot, base, size, sum⟩ := s
  obtain ⟨w1, w2, w3, w4, w5, w6, w7, w8, w9⟩ := hw
  unfold SuV.C at f0 hb0
  unfold SuV.v SuV.C
  simp only [] at *
  have hk8 : size ≤ 18446744073709551615 := by omega
  have hk9 : sum ≤ 18446744073709551615 := by omega
  have hn1 := fun W => numR_calls W seq 8 (by omega) (by omega)
  have hn2 := fun W => numR_calls W view 8 (by omega) (by omega)
  have hn3 := fun W => numR_calls W normal 8 (by omega) (by omega)
  have hn4 := fun W => numR_calls W gen 8 (by omega) (by omega)
  have hn7 := fun W => numR_calls W base 8 (by omega) (by omega)
  have hn8 := fun W => numR_calls W size 4 (by omega) (by omega)
  have hn9 := fun W => numR_calls W sum 4 (by omega) (by omega)
  have hrow : ∀ W : World, RowAt (W.alloc (.cells #[.int .u8 half, .int .u8 slot] 5)) (some ⟨W.heap.size, 0, none⟩) (bcells (leB 1 half ++ leB 1 slot)) := fun W => by
    have h := new_row W #[.int .u8 half, .int .u8 slot] 5
    have e : bcells (leB 1 half ++ leB 1 slot) = (#[Value.int .u8 half, Value.int .u8 slot] : Array Value).toList := by simp [leB, bcells]; omega
    rw [e]; exact h
  have z1 := leB_length 8 seq
  generalize leB 8 seq = b1 at *
  have z2 := leB_length 8 view
  generalize leB 8 view = b2 at *
  have z3 := leB_length 8 normal
  generalize leB 8 normal = b3 at *
  have z4 := leB_length 8 gen
  generalize leB 8 gen = b4 at *
  have z7 := leB_length 8 base
  generalize leB 8 base = b7 at *
  have z8 := leB_length 4 size
  generalize leB 4 size = b8 at *
  have z9 := leB_length 4 sum
  generalize leB 4 sum = b9 at *
  have z5 : (leB 1 half ++ leB 1 slot).length = 2 := by rw [List.length_append, leB_length, leB_length]
  generalize leB 1 half ++ leB 1 slot = b5 at *
  have g1 : (mkS b1).size + (mkS b2).size ≤ 9223372036854775807 := by rw [mkS_size, mkS_size]; omega
  have m1 := mkS_append b1 b2
  have g2 : (mkS (b1 ++ b2)).size + (mkS b3).size ≤ 9223372036854775807 := by rw [mkS_size, mkS_size]; simp only [List.length_append]; omega
  have m2 := mkS_append (b1 ++ b2) b3
  have g3 : (mkS (b1 ++ b2 ++ b3)).size + (mkS b4).size ≤ 9223372036854775807 := by rw [mkS_size, mkS_size]; simp only [List.length_append]; omega
  have m3 := mkS_append (b1 ++ b2 ++ b3) b4
  have g4 : (mkS (b1 ++ b2 ++ b3 ++ b4)).size + (mkS b5).size ≤ 9223372036854775807 := by rw [mkS_size, mkS_size]; simp only [List.length_append]; omega
  have m4 := mkS_append (b1 ++ b2 ++ b3 ++ b4) b5
  have g5 : (mkS (b1 ++ b2 ++ b3 ++ b4 ++ b5)).size + (mkS b7).size ≤ 9223372036854775807 := by rw [mkS_size, mkS_size]; simp only [List.length_append]; omega
  have m5 := mkS_append (b1 ++ b2 ++ b3 ++ b4 ++ b5) b7
  have g6 : (mkS (b1 ++ b2 ++ b3 ++ b4 ++ b5 ++ b7)).size + (mkS b8).size ≤ 9223372036854775807 := by rw [mkS_size, mkS_size]; simp only [List.length_append]; omega
  have m6 := mkS_append (b1 ++ b2 ++ b3 ++ b4 ++ b5 ++ b7) b8
  have g7 : (mkS (b1 ++ b2 ++ b3 ++ b4 ++ b5 ++ b7 ++ b8)).size + (mkS b9).size ≤ 9223372036854775807 := by rw [mkS_size, mkS_size]; simp only [List.length_append]; omega
  have m7 := mkS_append (b1 ++ b2 ++ b3 ++ b4 ++ b5 ++ b7 ++ b8) b9
  have hsl := fun W => sealR_calls W (mkS (b1 ++ b2 ++ b3 ++ b4 ++ b5 ++ b7 ++ b8 ++ b9)) (by rw [mkS_size]; simp only [List.length_append]; omega)
  rw [mkS_data] at hsl
  generalize b1 ++ b2 ++ b3 ++ b4 ++ b5 ++ b7 ++ b8 ++ b9 = c8 at *
  generalize b1 ++ b2 ++ b3 ++ b4 ++ b5 ++ b7 ++ b8 = c7 at *
  generalize b1 ++ b2 ++ b3 ++ b4 ++ b5 ++ b7 = c6 at *
  generalize b1 ++ b2 ++ b3 ++ b4 ++ b5 = c5 at *
  generalize b1 ++ b2 ++ b3 ++ b4 = c4 at *
  generalize b1 ++ b2 ++ b3 = c3 at *
  generalize b1 ++ b2 = c2 at *
  clear z1 z2 z3 z4 z7 z8 z9 w1 w2 w3 w4 w5 w6 w7
  go_enter Try.func35, Try.ntmps35
  go_upto_region 1 with fail
  generalize (w.alloc (.cells #[.int .u64 seq, .int .u64 view, .int .u64 normal, .int .u64 gen, .int .u8 half, .int .u8 slot, .int .u64 base, .int .u32 size, .int .u32 sum] 64)) = wa at *
  apply wp_region_calm (R := Fr noB) (C := fun _ W => Fr noB wa W) [false, false, false, false, false, false, false, false, false, false, false, false, false, false, false, false]
    [eqv _, eqv _, eqv (.string (mkS b1)), eqv _, eqv _, eqv (.string (mkS b2)), eqv (.string (mkS c2)), eqv _, eqv _, eqv (.string (mkS b3)), eqv (.string (mkS c3)), eqv _, eqv _, eqv (.string (mkS b4)), eqv (.string (mkS c4)), eqv (.string (mkS c4))]
    (by kernel_rfl) (by kernel_rfl) (fun _ _ _ h1 h2 => h1.then' h2) ((Fr.refl _ _).drew) ((Fr.refl _ _).drew) (by kernel_rfl)
  · refine ⟨?_, ?_, ?_, ?_, ?_, ?_, ?_, ?_, ?_, ?_, ?_, ?_, ?_, ?_, ?_, ?_, trivial⟩
    · rw [if_neg (by decide)]; intro kq
      intro a W K hC hd hK
      have d1 : a.tmps[1]?.getD undef = .pointer (some ⟨w.heap.size, 0, none⟩) := hd 1 (by decide)
      refine wpOp_plain rfl rfl ?_
      obtain ⟨x0, x1, x2, x3, x4, x5, x6, x7, x8, xf⟩ := BlkAt.c9 (hb0.fr hC id)
      go_wp2_with fail
      exact hK _ _ (Fr.refl _ _) hC rfl
    · rw [if_neg (by decide)]; intro kq
      intro a W K hC hd hK
      have d4 : _ = _ := hd 4 (by decide)
      refine wpOp_plain rfl rfl ?_
      obtain ⟨x0, x1, x2, x3, x4, x5, x6, x7, x8, xf⟩ := BlkAt.c9 (hb0.fr hC id)
      go_wp2_with fail
      exact hK _ _ (Fr.refl _ _) hC rfl
    · rw [if_neg (by decide)]; intro kq
      intro a W K hC hd hK
      have d5 : _ = _ := hd 5 (by decide)
      refine wpOp_plain rfl rfl ?_
      obtain ⟨x0, x1, x2, x3, x4, x5, x6, x7, x8, xf⟩ := BlkAt.c9 (hb0.fr hC id)
      go_wp2_with fail
      refine (hn1 W).mono ?_
      rintro e9 w9 ⟨rfl, f9⟩
      exact hK _ _ f9 (hC.then' f9) rfl
    · rw [if_neg (by decide)]; intro kq
      intro a W K hC hd hK
      have d1 : a.tmps[1]?.getD undef = .pointer (some ⟨w.heap.size, 0, none⟩) := hd 1 (by decide)
      refine wpOp_plain rfl rfl ?_
      obtain ⟨x0, x1, x2, x3, x4, x5, x6, x7, x8, xf⟩ := BlkAt.c9 (hb0.fr hC id)
      go_wp2_with fail
      exact hK _ _ (Fr.refl _ _) hC rfl
    · rw [if_neg (by decide)]; intro kq
      intro a W K hC hd hK
      have d7 : _ = _ := hd 7 (by decide)
      refine wpOp_plain rfl rfl ?_
      obtain ⟨x0, x1, x2, x3, x4, x5, x6, x7, x8, xf⟩ := BlkAt.c9 (hb0.fr hC id)
      go_wp2_with fail
      exact hK _ _ (Fr.refl _ _) hC rfl
    · rw [if_neg (by decide)]; intro kq
      intro a W K hC hd hK
      have d8 : _ = _ := hd 8 (by decide)
      refine wpOp_plain rfl rfl ?_
      obtain ⟨x0, x1, x2, x3, x4, x5, x6, x7, x8, xf⟩ := BlkAt.c9 (hb0.fr hC id)
      go_wp2_with fail
      refine (hn2 W).mono ?_
      rintro e9 w9 ⟨rfl, f9⟩
      exact hK _ _ f9 (hC.then' f9) rfl
    · rw [if_neg (by decide)]; intro kq
      intro a W K hC hd hK
      have d6 : a.tmps[6]?.getD undef = .string (mkS b1) := hd 6 (by decide)
      have d9 : a.tmps[9]?.getD undef = .string (mkS b2) := hd 9 (by decide)
      refine wpOp_plain rfl rfl ?_
      go_wp2_with fail
      exact hK _ _ (Fr.refl _ _) hC rfl
    · rw [if_neg (by decide)]; intro kq
      intro a W K hC hd hK
      have d1 : a.tmps[1]?.getD undef = .pointer (some ⟨w.heap.size, 0, none⟩) := hd 1 (by decide)
      refine wpOp_plain rfl rfl ?_
      obtain ⟨x0, x1, x2, x3, x4, x5, x6, x7, x8, xf⟩ := BlkAt.c9 (hb0.fr hC id)
      go_wp2_with fail
      exact hK _ _ (Fr.refl _ _) hC rfl
    · rw [if_neg (by decide)]; intro kq
      intro a W K hC hd hK
      have d11 : _ = _ := hd 11 (by decide)
      refine wpOp_plain rfl rfl ?_
      obtain ⟨x0, x1, x2, x3, x4, x5, x6, x7, x8, xf⟩ := BlkAt.c9 (hb0.fr hC id)
      go_wp2_with fail
      exact hK _ _ (Fr.refl _ _) hC rfl
    · rw [if_neg (by decide)]; intro kq
      intro a W K hC hd hK
      have d12 : _ = _ := hd 12 (by decide)
      refine wpOp_plain rfl rfl ?_
      obtain ⟨x0, x1, x2, x3, x4, x5, x6, x7, x8, xf⟩ := BlkAt.c9 (hb0.fr hC id)
      go_wp2_with fail
      refine (hn3 W).mono ?_
      rintro e9 w9 ⟨rfl, f9⟩
      exact hK _ _ f9 (hC.then' f9) rfl
    · rw [if_neg (by decide)]; intro kq
      intro a W K hC hd hK
      have d10 : a.tmps[10]?.getD undef = .string (mkS c2) := hd 10 (by decide)
      have d13 : a.tmps[13]?.getD undef = .string (mkS b3) := hd 13 (by decide)
      refine wpOp_plain rfl rfl ?_
      go_wp2_with fail
      exact hK _ _ (Fr.refl _ _) hC rfl
    · rw [if_neg (by decide)]; intro kq
      intro a W K hC hd hK
      have d1 : a.tmps[1]?.getD undef = .pointer (some ⟨w.heap.size, 0, none⟩) := hd 1 (by decide)
      refine wpOp_plain rfl rfl ?_
      obtain ⟨x0, x1, x2, x3, x4, x5, x6, x7, x8, xf⟩ := BlkAt.c9 (hb0.fr hC id)
      go_wp2_with fail
      exact hK _ _ (Fr.refl _ _) hC rfl
    · rw [if_neg (by decide)]; intro kq
      intro a W K hC hd hK
      have d15 : _ = _ := hd 15 (by decide)
      refine wpOp_plain rfl rfl ?_
      obtain ⟨x0, x1, x2, x3, x4, x5, x6, x7, x8, xf⟩ := BlkAt.c9 (hb0.fr hC id)
      go_wp2_with fail
      exact hK _ _ (Fr.refl _ _) hC rfl
    · rw [if_neg (by decide)]; intro kq
      intro a W K hC hd hK
      have d16 : _ = _ := hd 16 (by decide)
      refine wpOp_plain rfl rfl ?_
      obtain ⟨x0, x1, x2, x3, x4, x5, x6, x7, x8, xf⟩ := BlkAt.c9 (hb0.fr hC id)
      go_wp2_with fail
      refine (hn4 W).mono ?_
      rintro e9 w9 ⟨rfl, f9⟩
      exact hK _ _ f9 (hC.then' f9) rfl
    · rw [if_neg (by decide)]; intro kq
      intro a W K hC hd hK
      have d14 : a.tmps[14]?.getD undef = .string (mkS c3) := hd 14 (by decide)
      have d17 : a.tmps[17]?.getD undef = .string (mkS b4) := hd 17 (by decide)
      refine wpOp_plain rfl rfl ?_
      go_wp2_with fail
      exact hK _ _ (Fr.refl _ _) hC rfl
    · rw [if_neg (by decide)]; intro kq
      exact calm_mv 18 rfl rfl (Or.inr rfl) (Fr.refl _) (by decide) fun v w hd => hd
  · intro vs w8 fw8 cw8 hV
    have v3 : vs 15 = .string (mkS c4) := hV 15 _ _ rfl rfl (by decide)
    clear hV
    simp only [putL, Act.put, Nat.reduceAdd, List.setIfInBounds_toArray, List.set_cons_zero, List.set_cons_succ, v3]
    have F8 := f0.then' fw8
    have hb8 := hb0.fr fw8 id
    clear cw8 fw8 f0 hb0 hn1 hn2 hn3 hn4 g1 g2 g3 m1 m2 m3
    go_wp2_with fail
    apply F.wp_region_calmL (R := Fr noB) (C := fun q ν W => Fr noB w8 W ∧ UTS c4 c8 q (ν 3)) [true, false, false, false, false, false, false, false, false, false, false, false, false, false, false, false, false, false, false, false, false, false, true] [0, 0, 0, 0, 0, 0, 0, 1, 0, 0, 0, 1, 0, 0, 0, 0, 1, 0, 0, 0, 0, 1, 1]
      [eqv (.string (mkS c4)), eqv (.pointer (some ⟨w.heap.size, 4, none⟩)), eqv (.int .u8 half), eqv (.pointer (some ⟨w.heap.size, 5, none⟩)), eqv (.int .u8 slot), RowTwo b5, eqv (.string (mkS b5)), eqv (.string (mkS c5)), eqv (.pointer (some ⟨w.heap.size, 6, none⟩)), eqv (.int .u64 base), eqv (.string (mkS b7)), eqv (.string (mkS c6)), eqv (.pointer (some ⟨w.heap.size, 7, none⟩)), eqv (.int .u32 size), eqv (.int .u64 size), eqv (.string (mkS b8)), eqv (.string (mkS c7)), eqv (.pointer (some ⟨w.heap.size, 8, none⟩)), eqv (.int .u32 sum), eqv (.int .u64 sum), eqv (.string (mkS b9)), eqv (.string (mkS c8)), anyv]
      (by kernel_rfl) [22] (by kernel_rfl) (fun j hj V hV v w => by simp only [List.mem_cons, List.not_mem_nil, or_false] at hj; rcases hj with rfl; all_goals (cases hV; trivial)) (fun _ _ _ h1 h2 => h1.then' h2) ((Fr.refl _ _).drew) (by exact ⟨(Fr.refl _ _).drew, rfl⟩) (by kernel_rfl)
    · refine ⟨?_, ?_, ?_, ?_, ?_, ?_, ?_, ?_, ?_, ?_, ?_, ?_, ?_, ?_, ?_, ?_, ?_, ?_, ?_, ?_, ?_, ?_, ?_, trivial⟩
      · rw [if_pos (by decide)]
        intro a W K hC hd hK
        replace hC : (fun q ν W => Fr noB w8 W ∧ UTS c4 c8 q (ν 3)) 0 (fun t => a.eval (.tmp t)) W := hC
        refine wpOp_plain rfl rfl ?_
        have d3 : a.tmps[3]?.getD undef = .string (mkS c4) := by rw [← eval_get]; exact hC.2
        have HC := hid hC
        clear hC hd
        go_wp2_with fail
        exact hK _ _ (Fr.refl _ _) ⟨HC.out.1, HC.out.2⟩ rfl
      · rw [if_neg (by decide)]; intro kq
        intro a W K hC hd hK
        have d1 : a.tmps[1]?.getD undef = .pointer (some ⟨w.heap.size, 0, none⟩) := hd 1 (by decide)
        refine wpOp_plain rfl rfl ?_
        obtain ⟨x0, x1, x2, x3, x4, x5, x6, x7, x8, xf⟩ := BlkAt.c9 (hb8.fr hC.1 id)
        have HC := hid hC
        clear hC hd
        go_wp2_with fail
        exact hK _ _ (Fr.refl _ _) HC.out rfl
      · rw [if_neg (by decide)]; intro kq
        intro a W K hC hd hK
        have d20 : a.tmps[20]?.getD undef = .pointer (some ⟨w.heap.size, 4, none⟩) := hd 20 (by decide)
        refine wpOp_plain rfl rfl ?_
        obtain ⟨x0, x1, x2, x3, x4, x5, x6, x7, x8, xf⟩ := BlkAt.c9 (hb8.fr hC.1 id)
        have HC := hid hC
        clear hC hd
        go_wp2_with fail
        exact hK _ _ (Fr.refl _ _) HC.out rfl
      · rw [if_neg (by decide)]; intro kq
        intro a W K hC hd hK
        have d1 : a.tmps[1]?.getD undef = .pointer (some ⟨w.heap.size, 0, none⟩) := hd 1 (by decide)
        refine wpOp_plain rfl rfl ?_
        obtain ⟨x0, x1, x2, x3, x4, x5, x6, x7, x8, xf⟩ := BlkAt.c9 (hb8.fr hC.1 id)
        have HC := hid hC
        clear hC hd
        go_wp2_with fail
        exact hK _ _ (Fr.refl _ _) HC.out rfl
      · rw [if_neg (by decide)]; intro kq
        intro a W K hC hd hK
        have d22 : a.tmps[22]?.getD undef = .pointer (some ⟨w.heap.size, 5, none⟩) := hd 22 (by decide)
        refine wpOp_plain rfl rfl ?_
        obtain ⟨x0, x1, x2, x3, x4, x5, x6, x7, x8, xf⟩ := BlkAt.c9 (hb8.fr hC.1 id)
        have HC := hid hC
        clear hC hd
        go_wp2_with fail
        exact hK _ _ (Fr.refl _ _) HC.out rfl
      · rw [if_neg (by decide)]; intro kq
        intro a W K hC hd hK
        have d21 : a.tmps[21]?.getD undef = .int .u8 half := hd 21 (by decide)
        have d23 : a.tmps[23]?.getD undef = .int .u8 slot := hd 23 (by decide)
        refine wpOp_plain rfl rfl ?_
        have HC := hid hC
        clear hC hd
        go_wp2_with fail
        have fa := (Fr.refl noB W).alloc (.cells #[.int .u8 half, .int .u8 slot] 5)
        exact hK _ _ fa ⟨HC.out.1.then' fa, HC.out.2⟩ ⟨W.heap.size, rfl, hrow W⟩
      · rw [if_neg (by decide)]; intro kq
        intro a W K hC hd hK
        have d24 : (RowTwo b5).V (a.tmps[24]?.getD undef) W := hd 24 (by decide)
        refine wpOp_plain rfl rfl ?_
        obtain ⟨q9, d24, hr9⟩ := d24
        have hst := Try.toStr hr9 z5 2
        have HC := hid hC
        clear hC hd
        go_wp2_with fail
        exact hK _ _ (Fr.refl _ _) HC.out rfl
      · rw [if_neg (by decide)]; intro kq
        intro a W K hC hd hK
        have d19 : a.tmps[19]?.getD undef = .string (mkS c4) := hd 19 (by decide)
        have d25 : a.tmps[25]?.getD undef = .string (mkS b5) := hd 25 (by decide)
        refine wpOp_plain rfl rfl ?_
        have HC := hid hC
        clear hC hd
        go_wp2_with fail
        exact hK _ _ (Fr.refl _ _) HC.out rfl
      · rw [if_neg (by decide)]; intro kq
        intro a W K hC hd hK
        have d1 : a.tmps[1]?.getD undef = .pointer (some ⟨w.heap.size, 0, none⟩) := hd 1 (by decide)
        refine wpOp_plain rfl rfl ?_
        obtain ⟨x0, x1, x2, x3, x4, x5, x6, x7, x8, xf⟩ := BlkAt.c9 (hb8.fr hC.1 id)
        have HC := hid hC
        clear hC hd
        go_wp2_with fail
        exact hK _ _ (Fr.refl _ _) HC.out rfl
      · rw [if_neg (by decide)]; intro kq
        intro a W K hC hd hK
        have d27 : a.tmps[27]?.getD undef = .pointer (some ⟨w.heap.size, 6, none⟩) := hd 27 (by decide)
        refine wpOp_plain rfl rfl ?_
        obtain ⟨x0, x1, x2, x3, x4, x5, x6, x7, x8, xf⟩ := BlkAt.c9 (hb8.fr hC.1 id)
        have HC := hid hC
        clear hC hd
        go_wp2_with fail
        exact hK _ _ (Fr.refl _ _) HC.out rfl
      · rw [if_neg (by decide)]; intro kq
        intro a W K hC hd hK
        have d28 : a.tmps[28]?.getD undef = .int .u64 base := hd 28 (by decide)
        refine wpOp_plain rfl rfl ?_
        obtain ⟨x0, x1, x2, x3, x4, x5, x6, x7, x8, xf⟩ := BlkAt.c9 (hb8.fr hC.1 id)
        have HC := hid hC
        clear hC hd
        go_wp2_with fail
        refine (hn7 W).mono ?_
        rintro e9 w9 ⟨rfl, f9⟩
        exact hK _ _ f9 ⟨HC.out.1.then' f9, HC.out.2⟩ rfl
      · rw [if_neg (by decide)]; intro kq
        intro a W K hC hd hK
        have d26 : a.tmps[26]?.getD undef = .string (mkS c5) := hd 26 (by decide)
        have d29 : a.tmps[29]?.getD undef = .string (mkS b7) := hd 29 (by decide)
        refine wpOp_plain rfl rfl ?_
        have HC := hid hC
        clear hC hd
        go_wp2_with fail
        exact hK _ _ (Fr.refl _ _) HC.out rfl
      · rw [if_neg (by decide)]; intro kq
        intro a W K hC hd hK
        have d1 : a.tmps[1]?.getD undef = .pointer (some ⟨w.heap.size, 0, none⟩) := hd 1 (by decide)
        refine wpOp_plain rfl rfl ?_
        obtain ⟨x0, x1, x2, x3, x4, x5, x6, x7, x8, xf⟩ := BlkAt.c9 (hb8.fr hC.1 id)
        have HC := hid hC
        clear hC hd
        go_wp2_with fail
        exact hK _ _ (Fr.refl _ _) HC.out rfl
      · rw [if_neg (by decide)]; intro kq
        intro a W K hC hd hK
        have d31 : a.tmps[31]?.getD undef = .pointer (some ⟨w.heap.size, 7, none⟩) := hd 31 (by decide)
        refine wpOp_plain rfl rfl ?_
        obtain ⟨x0, x1, x2, x3, x4, x5, x6, x7, x8, xf⟩ := BlkAt.c9 (hb8.fr hC.1 id)
        have HC := hid hC
        clear hC hd
        go_wp2_with fail
        exact hK _ _ (Fr.refl _ _) HC.out rfl
      · rw [if_neg (by decide)]; intro kq
        intro a W K hC hd hK
        have d32 : a.tmps[32]?.getD undef = .int .u32 size := hd 32 (by decide)
        refine wpOp_plain rfl rfl ?_
        have HC := hid hC
        clear hC hd
        go_wp2_with fail
        exact hK _ _ (Fr.refl _ _) HC.out rfl
      · rw [if_neg (by decide)]; intro kq
        intro a W K hC hd hK
        have d33 : a.tmps[33]?.getD undef = .int .u64 size := hd 33 (by decide)
        refine wpOp_plain rfl rfl ?_
        obtain ⟨x0, x1, x2, x3, x4, x5, x6, x7, x8, xf⟩ := BlkAt.c9 (hb8.fr hC.1 id)
        have HC := hid hC
        clear hC hd
        go_wp2_with fail
        refine (hn8 W).mono ?_
        rintro e9 w9 ⟨rfl, f9⟩
        exact hK _ _ f9 ⟨HC.out.1.then' f9, HC.out.2⟩ rfl
      · rw [if_neg (by decide)]; intro kq
        intro a W K hC hd hK
        have d30 : a.tmps[30]?.getD undef = .string (mkS c6) := hd 30 (by decide)
        have d34 : a.tmps[34]?.getD undef = .string (mkS b8) := hd 34 (by decide)
        refine wpOp_plain rfl rfl ?_
        have HC := hid hC
        clear hC hd
        go_wp2_with fail
        exact hK _ _ (Fr.refl _ _) HC.out rfl
      · rw [if_neg (by decide)]; intro kq
        intro a W K hC hd hK
        have d1 : a.tmps[1]?.getD undef = .pointer (some ⟨w.heap.size, 0, none⟩) := hd 1 (by decide)
        refine wpOp_plain rfl rfl ?_
        obtain ⟨x0, x1, x2, x3, x4, x5, x6, x7, x8, xf⟩ := BlkAt.c9 (hb8.fr hC.1 id)
        have HC := hid hC
        clear hC hd
        go_wp2_with fail
        exact hK _ _ (Fr.refl _ _) HC.out rfl
      · rw [if_neg (by decide)]; intro kq
        intro a W K hC hd hK
        have d36 : a.tmps[36]?.getD undef = .pointer (some ⟨w.heap.size, 8, none⟩) := hd 36 (by decide)
        refine wpOp_plain rfl rfl ?_
        obtain ⟨x0, x1, x2, x3, x4, x5, x6, x7, x8, xf⟩ := BlkAt.c9 (hb8.fr hC.1 id)
        have HC := hid hC
        clear hC hd
        go_wp2_with fail
        exact hK _ _ (Fr.refl _ _) HC.out rfl
      · rw [if_neg (by decide)]; intro kq
        intro a W K hC hd hK
        have d37 : a.tmps[37]?.getD undef = .int .u32 sum := hd 37 (by decide)
        refine wpOp_plain rfl rfl ?_
        have HC := hid hC
        clear hC hd
        go_wp2_with fail
        exact hK _ _ (Fr.refl _ _) HC.out rfl
      · rw [if_neg (by decide)]; intro kq
        intro a W K hC hd hK
        have d38 : a.tmps[38]?.getD undef = .int .u64 sum := hd 38 (by decide)
        refine wpOp_plain rfl rfl ?_
        obtain ⟨x0, x1, x2, x3, x4, x5, x6, x7, x8, xf⟩ := BlkAt.c9 (hb8.fr hC.1 id)
        have HC := hid hC
        clear hC hd
        go_wp2_with fail
        refine (hn9 W).mono ?_
        rintro e9 w9 ⟨rfl, f9⟩
        exact hK _ _ f9 ⟨HC.out.1.then' f9, HC.out.2⟩ rfl
      · rw [if_neg (by decide)]; intro kq
        intro a W K hC hd hK
        have d35 : a.tmps[35]?.getD undef = .string (mkS c7) := hd 35 (by decide)
        have d39 : a.tmps[39]?.getD undef = .string (mkS b9) := hd 39 (by decide)
        refine wpOp_plain rfl rfl ?_
        have HC := hid hC
        clear hC hd
        go_wp2_with fail
        exact hK _ _ (Fr.refl _ _) HC.out rfl
      · rw [if_pos (by decide)]
        intro a W K hC hd hK
        replace hC : (fun q ν W => Fr noB w8 W ∧ UTS c4 c8 q (ν 3)) 1 (fun t => a.eval (.tmp t)) W := hC
        have d40 : a.tmps[40]?.getD undef = .string (mkS c8) := hd 40 (by decide)
        refine wpOp_plain rfl rfl ?_
        have HC := hid hC
        clear hC hd
        go_wp2_with fail
        exact hK _ _ (Fr.refl _ _) ⟨HC.out.1, rfl⟩ trivial
    · intro vs w9 fw9 cw9 hV
      have v19 : vs 0 = .string (mkS c4) := hV 0 _ _ rfl rfl (by decide)
      have v20 : vs 1 = .pointer (some ⟨w.heap.size, 4, none⟩) := hV 1 _ _ rfl rfl (by decide)
      have v21 : vs 2 = .int .u8 half := hV 2 _ _ rfl rfl (by decide)
      have v22 : vs 3 = .pointer (some ⟨w.heap.size, 5, none⟩) := hV 3 _ _ rfl rfl (by decide)
      have v23 : vs 4 = .int .u8 slot := hV 4 _ _ rfl rfl (by decide)
      have v24 : (RowTwo b5).V (vs 5) w9 := hV 5 _ _ rfl rfl (by decide)
      have v25 : vs 6 = .string (mkS b5) := hV 6 _ _ rfl rfl (by decide)
      have v26 : vs 7 = .string (mkS c5) := hV 7 _ _ rfl rfl (by decide)
      have v27 : vs 8 = .pointer (some ⟨w.heap.size, 6, none⟩) := hV 8 _ _ rfl rfl (by decide)
      have v28 : vs 9 = .int .u64 base := hV 9 _ _ rfl rfl (by decide)
      have v29 : vs 10 = .string (mkS b7) := hV 10 _ _ rfl rfl (by decide)
      have v30 : vs 11 = .string (mkS c6) := hV 11 _ _ rfl rfl (by decide)
      have v31 : vs 12 = .pointer (some ⟨w.heap.size, 7, none⟩) := hV 12 _ _ rfl rfl (by decide)
      have v32 : vs 13 = .int .u32 size := hV 13 _ _ rfl rfl (by decide)
      have v33 : vs 14 = .int .u64 size := hV 14 _ _ rfl rfl (by decide)
      have v34 : vs 15 = .string (mkS b8) := hV 15 _ _ rfl rfl (by decide)
      have v35 : vs 16 = .string (mkS c7) := hV 16 _ _ rfl rfl (by decide)
      have v36 : vs 17 = .pointer (some ⟨w.heap.size, 8, none⟩) := hV 17 _ _ rfl rfl (by decide)
      have v37 : vs 18 = .int .u32 sum := hV 18 _ _ rfl rfl (by decide)
      have v38 : vs 19 = .int .u64 sum := hV 19 _ _ rfl rfl (by decide)
      have v39 : vs 20 = .string (mkS b9) := hV 20 _ _ rfl rfl (by decide)
      have v40 : vs 21 = .string (mkS c8) := hV 21 _ _ rfl rfl (by decide)
      have v3 : (anyv).V (vs 22) w9 := hV 22 _ _ rfl rfl (by decide)
      clear hV
      simp only [putL, Act.put, Nat.reduceAdd, List.setIfInBounds_toArray, List.set_cons_zero, List.set_cons_succ, v19, v20, v21, v22, v23, v25, v26, v27, v28, v29, v30, v31, v32, v33, v34, v35, v36, v37, v38, v39, v40]
      have v3' : vs 22 = .string (mkS c8) := cw9.2
      rw [v3']
      have F9 := F8.then' fw9
      clear cw9 fw9 hb8 hn7 hn8 hn9 g4 g5 g6 g7 m4 m5 m6 m7
      go_wp2_with fail
      refine (hsl w9).mono ?_
      rintro ed w10 ⟨rfl, f10⟩
      go_wp2_with fail
      go_ret
      exact ⟨by rw [hT.out]; rfl, F9.then' f10⟩
end Go.Proofs.Ytnkdlmmdaagonaa
