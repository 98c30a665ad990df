/- interrexref14.Put. -/
import Derived.Test.YtcaihinenfnekaaDoorOpGet
namespace Go.Proofs.YtcaihinenfnekaaDoor
open Go.RowKit

def repR (e : Nat) (l : List ByteArray) : List UInt8 := leB 1 e ++ rowR (if e = 0 then l else [])
theorem rowR_length (ss : List ByteArray) : (rowR ss).length = 2 + sumSz ss := by unfold rowR; rw [List.length_append, leB_length, rowsR_length]
set_option maxRecDepth 100000 in
set_option maxHeartbeats 1600000 in
theorem opPutR0_calls (w : World) (e : Nat) (A : Option Addr) (n c : Nat) (l : List ByteArray) (he : e < 256) (hx : RowAt w A (strs l)) (HN : Hid (l.length = n)) (hsum : sumSz l ≤ 100000000000) (hn : n ≤ 1000000000000) (h0 : e = 0) :
    Calls Tryd.prog 56 #[.agg #[.int .i64 e, .slice A n c]] w (StrPost w (repR e l)) := by
  have t1 : ((e : Int) != 0) = false := by rw [bne_eq_false_iff_eq]; omega
  have HB : Hid (repR e l = leB 1 e ++ rowR l) := by unfold Hid repR; rw [if_pos h0]
  have hb0 : BlkAt (w.alloc (.cells #[.int .i64 e, .slice A n c] 103)) w.heap.size 103 #[.int .i64 e, .slice A n c] := BlkAt.new _ _ _
  have f0 : Fr noB w (w.alloc (.cells #[.int .i64 e, .slice A n c] 103)) := (Fr.refl noB w).alloc _
  have hwrap : IntKind.u64.wrap (e : Int) = e := by rw [IntKind.wrap_u64]; omega
  have hx0 : RowAt (w.alloc (.cells #[.int .i64 e, .slice A n c] 103)) A (strs l) := hx.fr0 f0
  have HE := hid he
  have hnum := fun W => numR_calls W e 1 (by omega) (by omega)
  have hcat : (mkS (leB 1 e)).size + (mkS (rowR l)).size ≤ 9223372036854775807 := by rw [mkS_size, mkS_size, leB_length, rowR_length]; omega
  clear h0 hx he
  go_enter Tryd.func56, Tryd.ntmps56
  go_wp2_with fail
  generalize (w.alloc (.cells #[.int .i64 e, .slice A n c] 103)) = wa at *
  apply wp_region_calm (R := Fr noB) (C := fun q W => Fr noB wa W ∧ BlkAt W (w.heap.size) 103 #[.int .i64 e, .slice A n c]) [false, false, false, false, false, false, false, false, false]
    [eqv _, eqv _, eqv _, eqv (.string (mkS (leB 1 e))), eqv _, eqv _, eqv (.string (mkS (rowR l))), eqv _, eqv _]
    (by kernel_rfl) (by kernel_rfl) (fun _ _ _ h1 h2 => h1.then' h2) ((Fr.refl _ _).drew) ⟨(Fr.refl _ _).drew, hb0⟩ (by kernel_rfl)
  · refine ⟨?_, ?_, ?_, ?_, ?_, ?_, ?_, ?_, ?_, trivial⟩
    · rw [if_neg (by decide)]; intro kq
      intro a W K hC hd hK
      have d1 : a.tmps[1]?.getD undef = .pointer (some ⟨w.heap.size, 0, none⟩) := hd 1 (by decide)
      refine wpOp_plain rfl rfl ?_
      obtain ⟨x0_0, x0_1, z0⟩ := BlkAt.c2 (hC.2)
      go_wp2_with fail
      exact hK _ _ (Fr.refl _ _) hC rfl
    · rw [if_neg (by decide)]; intro kq
      intro a W K hC hd hK
      have d7 : _ = _ := hd 7 (by decide)
      refine wpOp_plain rfl rfl ?_
      obtain ⟨x0_0, x0_1, z0⟩ := BlkAt.c2 (hC.2)
      go_wp2_with fail
      exact hK _ _ (Fr.refl _ _) hC rfl
    · rw [if_neg (by decide)]; intro kq
      intro a W K hC hd hK
      have d8 : _ = _ := hd 8 (by decide)
      refine wpOp_plain rfl rfl ?_
      go_wp2_with fail
      exact hK _ _ (Fr.refl _ _) hC rfl
    · rw [if_neg (by decide)]; intro kq
      intro a W K hC hd hK
      have d9 : _ = _ := hd 9 (by decide)
      refine wpOp_plain rfl rfl ?_
      obtain ⟨x0_0, x0_1, z0⟩ := BlkAt.c2 (hC.2)
      go_wp2_with fail
      refine (hnum W).mono ?_
      rintro e9 w9 ⟨rfl, f9⟩
      exact hK _ _ f9 ⟨hC.1.then' f9, hC.2.fr f9 id⟩ rfl
    · rw [if_neg (by decide)]; intro kq
      intro a W K hC hd hK
      have d1 : a.tmps[1]?.getD undef = .pointer (some ⟨w.heap.size, 0, none⟩) := hd 1 (by decide)
      refine wpOp_plain rfl rfl ?_
      obtain ⟨x0_0, x0_1, z0⟩ := BlkAt.c2 (hC.2)
      go_wp2_with fail
      exact hK _ _ (Fr.refl _ _) hC rfl
    · rw [if_neg (by decide)]; intro kq
      intro a W K hC hd hK
      have d11 : _ = _ := hd 11 (by decide)
      refine wpOp_plain rfl rfl ?_
      obtain ⟨x0_0, x0_1, z0⟩ := BlkAt.c2 (hC.2)
      go_wp2_with fail
      exact hK _ _ (Fr.refl _ _) hC rfl
    · rw [if_neg (by decide)]; intro kq
      intro a W K hC hd hK
      have d12 : _ = _ := hd 12 (by decide)
      refine wpOp_plain rfl rfl ?_
      obtain ⟨x0_0, x0_1, z0⟩ := BlkAt.c2 (hC.2)
      go_wp2_with fail
      refine (rowR_calls W A n c l (hx0.fr0 hC.1) HN (by omega) (by omega)).mono ?_
      rintro e9 w9 ⟨rfl, f9⟩
      exact hK _ _ f9 ⟨hC.1.then' f9, hC.2.fr f9 id⟩ rfl
    · rw [if_neg (by decide)]; intro kq
      intro a W K hC hd hK
      have d10 : a.tmps[10]?.getD undef = .string (mkS (leB 1 e)) := hd 10 (by decide)
      have d13 : a.tmps[13]?.getD undef = .string (mkS (rowR l)) := hd 13 (by decide)
      refine wpOp_plain rfl rfl ?_
      go_wp2_with fail
      exact hK _ _ (Fr.refl _ _) hC rfl
    · rw [if_neg (by decide)]; intro kq
      exact calm_mv 14 rfl rfl (Or.inr rfl) (Fr.refl _) (by decide) fun v w hd => hd
  · intro vs w8 fw8 cw8 hV
    have v7 : vs 0 = _ := hV 0 _ _ rfl rfl (by decide)
    have v8 : vs 1 = _ := hV 1 _ _ rfl rfl (by decide)
    have v9 : vs 2 = _ := hV 2 _ _ rfl rfl (by decide)
    have v10 : vs 3 = .string (mkS (leB 1 e)) := hV 3 _ _ rfl rfl (by decide)
    have v11 : vs 4 = _ := hV 4 _ _ rfl rfl (by decide)
    have v12 : vs 5 = _ := hV 5 _ _ rfl rfl (by decide)
    have v13 : vs 6 = .string (mkS (rowR l)) := hV 6 _ _ rfl rfl (by decide)
    have v14 : vs 7 = _ := hV 7 _ _ rfl rfl (by decide)
    have v2 : vs 8 = _ := hV 8 _ _ rfl rfl (by decide)
    clear hV
    replace hb0 : BlkAt w8 (w.heap.size) 103 #[.int .i64 e, .slice A n c] := cw8.2
    replace f0 := f0.trans fw8 (fun i hi h => h.elim)
    clear cw8
    simp only [putL, Act.put, Nat.reduceAdd, List.setIfInBounds_toArray, List.set_cons_zero, List.set_cons_succ, v7, v8, v9, v10, v11, v12, v13, v14, v2]
    go_wp2_with fail
    go_ret
    exact ⟨by rw [HB.out, ← mkS_append]; rfl, f0⟩
set_option maxRecDepth 100000 in
set_option maxHeartbeats 1600000 in
theorem opPutR1_calls (w : World) (e : Nat) (A : Option Addr) (n c : Nat) (l : List ByteArray) (he : e < 256) (hx : RowAt w A (strs l)) (HN : Hid (l.length = n)) (hsum : sumSz l ≤ 100000000000) (hn : n ≤ 1000000000000) (h0 : e ≠ 0) :
    Calls Tryd.prog 56 #[.agg #[.int .i64 e, .slice A n c]] w (StrPost w (repR e l)) := by
  have t1 : ((e : Int) != 0) = true := by rw [bne_iff_ne]; omega
  have HB : Hid (repR e l = leB 1 e ++ rowR []) := by unfold Hid repR; rw [if_neg h0]
  have hb0 : BlkAt (w.alloc (.cells #[.int .i64 e, .slice none 0 0] 103)) w.heap.size 103 #[.int .i64 e, .slice none 0 0] := BlkAt.new _ _ _
  have f0 : Fr noB w (w.alloc (.cells #[.int .i64 e, .slice none 0 0] 103)) := (Fr.refl noB w).alloc _
  have hwrap : IntKind.u64.wrap (e : Int) = e := by rw [IntKind.wrap_u64]; omega
  have hx0 : RowAt (w.alloc (.cells #[.int .i64 e, .slice none 0 0] 103)) none (strs ([] : List ByteArray)) := RowAt.nil _ _
  have HE := hid he
  have hnum := fun W => numR_calls W e 1 (by omega) (by omega)
  have hcat : (mkS (leB 1 e)).size + (mkS (rowR [])).size ≤ 9223372036854775807 := by rw [mkS_size, mkS_size, leB_length, rowR_length]; simp [sumSz]
  clear h0 hx he
  go_enter Tryd.func56, Tryd.ntmps56
  go_wp2_with fail
  generalize (w.alloc (.cells #[.int .i64 e, .slice none 0 0] 103)) = wa at *
  apply wp_region_calm (R := Fr noB) (C := fun q W => Fr noB wa W ∧ BlkAt W (w.heap.size) 103 #[.int .i64 e, .slice none 0 0]) [false, false, false, false, false, false, false, false, false]
    [eqv _, eqv _, eqv _, eqv (.string (mkS (leB 1 e))), eqv _, eqv _, eqv (.string (mkS (rowR []))), eqv _, eqv _]
    (by kernel_rfl) (by kernel_rfl) (fun _ _ _ h1 h2 => h1.then' h2) ((Fr.refl _ _).drew) ⟨(Fr.refl _ _).drew, hb0⟩ (by kernel_rfl)
  · refine ⟨?_, ?_, ?_, ?_, ?_, ?_, ?_, ?_, ?_, trivial⟩
    · rw [if_neg (by decide)]; intro kq
      intro a W K hC hd hK
      have d1 : a.tmps[1]?.getD undef = .pointer (some ⟨w.heap.size, 0, none⟩) := hd 1 (by decide)
      refine wpOp_plain rfl rfl ?_
      obtain ⟨x0_0, x0_1, z0⟩ := BlkAt.c2 (hC.2)
      go_wp2_with fail
      exact hK _ _ (Fr.refl _ _) hC rfl
    · rw [if_neg (by decide)]; intro kq
      intro a W K hC hd hK
      have d7 : _ = _ := hd 7 (by decide)
      refine wpOp_plain rfl rfl ?_
      obtain ⟨x0_0, x0_1, z0⟩ := BlkAt.c2 (hC.2)
      go_wp2_with fail
      exact hK _ _ (Fr.refl _ _) hC rfl
    · rw [if_neg (by decide)]; intro kq
      intro a W K hC hd hK
      have d8 : _ = _ := hd 8 (by decide)
      refine wpOp_plain rfl rfl ?_
      go_wp2_with fail
      exact hK _ _ (Fr.refl _ _) hC rfl
    · rw [if_neg (by decide)]; intro kq
      intro a W K hC hd hK
      have d9 : _ = _ := hd 9 (by decide)
      refine wpOp_plain rfl rfl ?_
      obtain ⟨x0_0, x0_1, z0⟩ := BlkAt.c2 (hC.2)
      go_wp2_with fail
      refine (hnum W).mono ?_
      rintro e9 w9 ⟨rfl, f9⟩
      exact hK _ _ f9 ⟨hC.1.then' f9, hC.2.fr f9 id⟩ rfl
    · rw [if_neg (by decide)]; intro kq
      intro a W K hC hd hK
      have d1 : a.tmps[1]?.getD undef = .pointer (some ⟨w.heap.size, 0, none⟩) := hd 1 (by decide)
      refine wpOp_plain rfl rfl ?_
      obtain ⟨x0_0, x0_1, z0⟩ := BlkAt.c2 (hC.2)
      go_wp2_with fail
      exact hK _ _ (Fr.refl _ _) hC rfl
    · rw [if_neg (by decide)]; intro kq
      intro a W K hC hd hK
      have d11 : _ = _ := hd 11 (by decide)
      refine wpOp_plain rfl rfl ?_
      obtain ⟨x0_0, x0_1, z0⟩ := BlkAt.c2 (hC.2)
      go_wp2_with fail
      exact hK _ _ (Fr.refl _ _) hC rfl
    · rw [if_neg (by decide)]; intro kq
      intro a W K hC hd hK
      have d12 : _ = _ := hd 12 (by decide)
      refine wpOp_plain rfl rfl ?_
      obtain ⟨x0_0, x0_1, z0⟩ := BlkAt.c2 (hC.2)
      go_wp2_with fail
      refine (rowR_calls W none 0 0 [] (RowAt.nil _ _) rfl (by simp [sumSz]) (by omega)).mono ?_
      rintro e9 w9 ⟨rfl, f9⟩
      exact hK _ _ f9 ⟨hC.1.then' f9, hC.2.fr f9 id⟩ rfl
    · rw [if_neg (by decide)]; intro kq
      intro a W K hC hd hK
      have d10 : a.tmps[10]?.getD undef = .string (mkS (leB 1 e)) := hd 10 (by decide)
      have d13 : a.tmps[13]?.getD undef = .string (mkS (rowR [])) := hd 13 (by decide)
      refine wpOp_plain rfl rfl ?_
      go_wp2_with fail
      exact hK _ _ (Fr.refl _ _) hC rfl
    · rw [if_neg (by decide)]; intro kq
      exact calm_mv 14 rfl rfl (Or.inr rfl) (Fr.refl _) (by decide) fun v w hd => hd
  · intro vs w8 fw8 cw8 hV
    have v7 : vs 0 = _ := hV 0 _ _ rfl rfl (by decide)
    have v8 : vs 1 = _ := hV 1 _ _ rfl rfl (by decide)
    have v9 : vs 2 = _ := hV 2 _ _ rfl rfl (by decide)
    have v10 : vs 3 = .string (mkS (leB 1 e)) := hV 3 _ _ rfl rfl (by decide)
    have v11 : vs 4 = _ := hV 4 _ _ rfl rfl (by decide)
    have v12 : vs 5 = _ := hV 5 _ _ rfl rfl (by decide)
    have v13 : vs 6 = .string (mkS (rowR [])) := hV 6 _ _ rfl rfl (by decide)
    have v14 : vs 7 = _ := hV 7 _ _ rfl rfl (by decide)
    have v2 : vs 8 = _ := hV 8 _ _ rfl rfl (by decide)
    clear hV
    replace hb0 : BlkAt w8 (w.heap.size) 103 #[.int .i64 e, .slice none 0 0] := cw8.2
    replace f0 := f0.trans fw8 (fun i hi h => h.elim)
    clear cw8
    simp only [putL, Act.put, Nat.reduceAdd, List.setIfInBounds_toArray, List.set_cons_zero, List.set_cons_succ, v7, v8, v9, v10, v11, v12, v13, v14, v2]
    go_wp2_with fail
    go_ret
    exact ⟨by rw [HB.out, ← mkS_append]; rfl, f0⟩
theorem opPutR_calls (w : World) (e : Nat) (A : Option Addr) (n c : Nat) (l : List ByteArray) (he : e < 256) (hx : RowAt w A (strs l)) (HN : Hid (l.length = n)) (hsum : sumSz l ≤ 100000000000) (hn : n ≤ 1000000000000) :
    Calls Tryd.prog 56 #[.agg #[.int .i64 e, .slice A n c]] w (StrPost w (repR e l)) := by
  by_cases h0 : e = 0
  · exact opPutR0_calls w e A n c l he hx HN hsum hn h0
  · exact opPutR1_calls w e A n c l he hx HN hsum hn h0
end Go.Proofs.YtcaihinenfnekaaDoor
