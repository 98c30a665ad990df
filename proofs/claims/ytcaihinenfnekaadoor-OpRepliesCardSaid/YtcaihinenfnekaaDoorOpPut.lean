/- op.Put. -/
import Derived.Test.YtcaihinenfnekaaDoorOp7
import Derived.Test.YtcaihinenfnekaaDoorWr5
import Derived.Test.YtcaihinenfnekaaDoorCalmH
namespace Go.Proofs.YtcaihinenfnekaaDoor
open Go.RowKit

theorem rowB_length (l : List ByteArray) : (rowB l).length ≤ 2 + sumSz l := by
  have h1 := rows_length (l.take 65535)
  have h2 := sumSz_take_le l 65535
  unfold rowB
  rw [List.length_append, leB_length]
  omega
/-- A reply's bytes. -/
def repB (e : Nat) (l : List ByteArray) : List UInt8 := leB 1 e ++ rowB (if e = 0 then l else [])
/-- The state of Put's region: the writer is made, the error is written, the texts are, the bytes are handed out. -/
def PutRC (w : World) (n0 : Nat) (bs : List UInt8) (xs : List UInt8) : Nat → Value → Value → World → Prop
  | 0, _, _, W => W.heap.size = n0
  | 1, _, _, W => WrAt W (upB n0) n0 []
  | 2, _, _, W => WrAt W (upB n0) n0 bs
  | 3, _, _, W => WrAt W (upB n0) n0 xs
  | 4, v, _, W => ∃ A c, v = .slice A xs.length c ∧ W.ownsRow w.heap.size 5 1 (.slice A xs.length c) xs.length (bcells xs)
  | _, _, v, W => ∃ A c, v = .slice A xs.length c ∧ W.ownsRow w.heap.size 5 1 (.slice A xs.length c) xs.length (bcells xs)
theorem WrAt.made {w : World} {n0 : Nat} (h : w.heap.size = n0) : WrAt (w.alloc (.cells #[.slice none 0 0] 150)) (upB n0) n0 [] := by
  subst h; exact WrAt.new w
theorem WrAt.upn {w w' : World} {n0 : Nat} {p : Nat} {bs : List UInt8} (h : WrAt w' (andNew (upB n0) w) p bs) (hs : n0 ≤ w.heap.size) : WrAt w' (upB n0) p bs :=
  h.mono fun k _ hk => hk.elim id fun q => Nat.le_trans hs q

set_option maxRecDepth 100000 in
set_option maxHeartbeats 1600000 in
theorem opPut_calls (w : World) (e : Nat) (A : Option Addr) (n c : Nat) (l : List ByteArray) (he : e < 256) (hx : RowAt w A (strs l)) (hn : l.length = n) (hcap : n ≤ c) (hcm : c ≤ 9223372036854775807) (hsum : sumSz l ≤ 100000000000) (hA : ∀ a, A = some a → 0 < n → a.block < w.heap.size) :
    Calls Tryd.prog 55 #[.agg #[.int .i64 e, .slice A n c]] w (BytesPost w (repB e l)) := by
  by_cases h0 : e = 0
  · have t1 : ((e : Int) != 0) = false := by rw [bne_eq_false_iff_eq]; omega
    have HB : Hid (repB e l = leB 1 e ++ rowB l) := by unfold Hid repB; rw [if_pos h0]
    have hb0 : BlkAt (w.alloc (.cells #[.int .i64 e, .slice A n c] 28)) w.heap.size 28 #[.int .i64 e, .slice A n c] := BlkAt.new _ _ _
    have f0 : Fr noB w (w.alloc (.cells #[.int .i64 e, .slice A n c] 28)) := (Fr.refl noB w).alloc _
    have hx0 := hx.fr0 f0
    have hs0 := al_size w (.cells #[.int .i64 e, .slice A n c] 28)
    clear h0 hx
    go_enter Tryd.func55, Tryd.ntmps55
    go_wp2_with fail
    generalize (w.alloc (.cells #[.int .i64 e, .slice A n c] 28)) = wa at *
    obtain ⟨n0, hn0⟩ : ∃ n0, wa.heap.size = n0 := ⟨_, rfl⟩
    have hwrap : IntKind.u8.wrap (e : Int) = e := by rw [IntKind.wrap_u8]; omega
    have HE := hid he
    obtain ⟨xs, hxs⟩ : ∃ xs, leB 1 e ++ rowB l = xs := ⟨_, rfl⟩
    have hlb : xs.length ≤ 1000000000000 := by
      have := rowB_length l
      rw [← hxs, List.length_append, leB_length]; omega
    rw [hxs] at HB
    have HXS := hid hxs
    clear hxs
    clear he
    apply H.wp_region_calmL (R := Fr (upB n0)) (C := fun q ν W => Fr (upB n0) wa W ∧ BlkAt W w.heap.size 28 #[.int .i64 e, .slice A n c] ∧ RowAt W A (strs l) ∧ PutRC w n0 (leB 1 e) xs q (ν 16) (ν 2) W) [false, true, false, false, false, true, false, false, true, true, true] [0, 0, 0, 0, 0, 1, 0, 0, 2, 3, 4]
      [eqv _, eqv (.pointer (some ⟨n0, 0, none⟩)), eqv _, eqv _, eqv _, eqv (.pointer (some ⟨n0, 0, none⟩)), eqv _, eqv _, eqv (.pointer (some ⟨n0, 0, none⟩)), anyv, anyv]
      (by kernel_rfl) (by kernel_rfl) (fun _ _ _ h1 h2 => h1.then' h2) ((Fr.refl _ _).drew) ⟨(Fr.refl _ _).drew, hb0, hx0, hn0⟩ (by kernel_rfl)
    · refine ⟨?_, ?_, ?_, ?_, ?_, ?_, ?_, ?_, ?_, ?_, ?_, trivial⟩
      · rw [if_neg (by decide)]; intro kq
        intro a W K hC hd hK
        refine wpOp_plain rfl rfl ?_
        go_wp2_with fail
        exact hK _ _ (Fr.refl _ _) hC rfl
      · rw [if_pos (by decide)]
        intro a W K hC hd hK
        replace hC : (fun q ν W => Fr (upB n0) wa W ∧ BlkAt W w.heap.size 28 #[.int .i64 e, .slice A n c] ∧ RowAt W A (strs l) ∧ PutRC w n0 (leB 1 e) xs q (ν 16) (ν 2) W) 0 (fun t => a.eval (.tmp t)) W := hC
        have d7 : _ = _ := hd 7 (by decide)
        refine wpOp_plain rfl rfl ?_
        have hwn := WrAt.new W
        have hz : W.heap.size = n0 := hC.2.2.2
        go_wp2_with fail
        have fs : Fr (upB n0) W (W.alloc (.cells #[.slice none 0 0] 150)) := (Fr.refl _ W).alloc _
        exact hK _ _ fs ⟨hC.1.then' fs, hC.2.1.al _, hC.2.2.1.fr0 ((Fr.refl noB W).alloc _), WrAt.made hz⟩ rfl
      · rw [if_neg (by decide)]; intro kq
        intro a W K hC hd hK
        have d1 : a.tmps[1]?.getD undef = .pointer (some ⟨w.heap.size, 0, none⟩) := hd 1 (by decide)
        refine wpOp_plain rfl rfl ?_
        obtain ⟨x0, x1, xf⟩ := BlkAt.c2 hC.2.1
        go_wp2_with fail
        exact hK _ _ (Fr.refl _ _) hC rfl
      · rw [if_neg (by decide)]; intro kq
        intro a W K hC hd hK
        have d9 : _ = _ := hd 9 (by decide)
        refine wpOp_plain rfl rfl ?_
        obtain ⟨x0, x1, xf⟩ := BlkAt.c2 hC.2.1
        go_wp2_with fail
        exact hK _ _ (Fr.refl _ _) hC rfl
      · rw [if_neg (by decide)]; intro kq
        intro a W K hC hd hK
        have d10 : _ = _ := hd 10 (by decide)
        refine wpOp_plain rfl rfl ?_
        go_wp2_with fail
        exact hK _ _ (Fr.refl _ _) hC rfl
      · rw [if_pos (by decide)]
        intro a W K hC hd hK
        replace hC : (fun q ν W => Fr (upB n0) wa W ∧ BlkAt W w.heap.size 28 #[.int .i64 e, .slice A n c] ∧ RowAt W A (strs l) ∧ PutRC w n0 (leB 1 e) xs q (ν 16) (ν 2) W) 1 (fun t => a.eval (.tmp t)) W := hC
        have d8 : a.tmps[8]?.getD undef = .pointer (some ⟨n0, 0, none⟩) := hd 8 (by decide)
        have d11 : _ = _ := hd 11 (by decide)
        refine wpOp_plain rfl rfl ?_
        obtain ⟨x0, x1, xf⟩ := BlkAt.c2 hC.2.1
        go_wp2_with fail
        refine (byte_calls W (upB n0) n0 [] e hC.2.2.2 HE.out (by simp)).mono ?_
        rintro e9 w9 ⟨rfl, h9, f9⟩
        rw [List.nil_append] at h9
        exact hK _ _ f9 ⟨hC.1.then' f9, hC.2.1.fr f9 (fun h => by unfold upB at h; omega), hC.2.2.1.fr f9 (fun a ea hb _ hu => by have := hA a ea (by simp only [strs, List.length_map] at hb; omega); unfold upB at hu; omega), h9.upn (by have := hC.1.size; omega)⟩ rfl
      · rw [if_neg (by decide)]; intro kq
        intro a W K hC hd hK
        have d1 : a.tmps[1]?.getD undef = .pointer (some ⟨w.heap.size, 0, none⟩) := hd 1 (by decide)
        refine wpOp_plain rfl rfl ?_
        obtain ⟨x0, x1, xf⟩ := BlkAt.c2 hC.2.1
        go_wp2_with fail
        exact hK _ _ (Fr.refl _ _) hC rfl
      · rw [if_neg (by decide)]; intro kq
        intro a W K hC hd hK
        have d13 : _ = _ := hd 13 (by decide)
        refine wpOp_plain rfl rfl ?_
        obtain ⟨x0, x1, xf⟩ := BlkAt.c2 hC.2.1
        go_wp2_with fail
        exact hK _ _ (Fr.refl _ _) hC rfl
      · rw [if_pos (by decide)]
        intro a W K hC hd hK
        replace hC : (fun q ν W => Fr (upB n0) wa W ∧ BlkAt W w.heap.size 28 #[.int .i64 e, .slice A n c] ∧ RowAt W A (strs l) ∧ PutRC w n0 (leB 1 e) xs q (ν 16) (ν 2) W) 2 (fun t => a.eval (.tmp t)) W := hC
        have d12 : a.tmps[12]?.getD undef = .pointer (some ⟨n0, 0, none⟩) := hd 12 (by decide)
        have d14 : _ = _ := hd 14 (by decide)
        refine wpOp_plain rfl rfl ?_
        obtain ⟨x0, x1, xf⟩ := BlkAt.c2 hC.2.1
        go_wp2_with fail
        refine (row_calls_any W (upB n0) n0 (leB 1 e) A n c l hC.2.2.2 hC.2.2.1 hn hcap hcm (fun hp a ea hu => by have := hA a ea hp; unfold upB at hu; omega) (by rw [leB_length]; omega)).mono ?_
        rintro e9 w9 ⟨rfl, h9, f9⟩
        rw [HXS.out] at h9
        exact hK _ _ f9 ⟨hC.1.then' f9, hC.2.1.fr f9 (fun h => by unfold upB at h; omega), hC.2.2.1.fr f9 (fun a ea hb _ hu => by have := hA a ea (by simp only [strs, List.length_map] at hb; omega); unfold upB at hu; omega), h9.upn (by have := hC.1.size; omega)⟩ rfl
      · rw [if_pos (by decide)]
        intro a W K hC hd hK
        replace hC : (fun q ν W => Fr (upB n0) wa W ∧ BlkAt W w.heap.size 28 #[.int .i64 e, .slice A n c] ∧ RowAt W A (strs l) ∧ PutRC w n0 (leB 1 e) xs q (ν 16) (ν 2) W) 3 (fun t => a.eval (.tmp t)) W := hC
        have d15 : a.tmps[15]?.getD undef = .pointer (some ⟨n0, 0, none⟩) := hd 15 (by decide)
        refine wpOp_plain rfl rfl ?_
        obtain ⟨x0, x1, xf⟩ := BlkAt.c2 hC.2.1
        go_wp2_with fail
        refine (bytes_calls W (upB n0) n0 xs hC.2.2.2 hlb).mono ?_
        rintro e9 w9 ⟨A9, c9, rfl, h9, f9⟩
        exact hK _ _ (f9.up0 n0) ⟨hC.1.then' (f9.up0 n0), hC.2.1.fr f9 id, hC.2.2.1.fr0 f9, A9, c9, rfl, own_mono h9 (fun g hg => by have := (h9.lt g hg).1; have := hC.1.size; omega)⟩ trivial
      · rw [if_pos (by decide)]
        intro a W K hC hd hK
        replace hC : (fun q ν W => Fr (upB n0) wa W ∧ BlkAt W w.heap.size 28 #[.int .i64 e, .slice A n c] ∧ RowAt W A (strs l) ∧ PutRC w n0 (leB 1 e) xs q (ν 16) (ν 2) W) 4 (fun t => a.eval (.tmp t)) W := hC
        have d16 : (anyv).V (a.tmps[16]?.getD undef) W := hd 16 (by decide)
        refine wpOp_plain rfl rfl ?_
        obtain ⟨A9, c9, hv9, h9⟩ := hC.2.2.2
        have d16 : a.tmps[16]?.getD undef = .slice A9 xs.length c9 := by rw [← eval_get]; exact hv9
        go_wp2_with fail
        exact hK _ _ (Fr.refl _ _) ⟨hC.1, hC.2.1, hC.2.2.1, A9, c9, rfl, h9⟩ trivial
    · intro vs w8 fw8 cw8 hV
      have v7 : vs 0 = _ := hV 0 _ _ rfl rfl (by decide)
      have v8 : vs 1 = .pointer (some ⟨n0, 0, none⟩) := hV 1 _ _ rfl rfl (by decide)
      have v9 : vs 2 = _ := hV 2 _ _ rfl rfl (by decide)
      have v10 : vs 3 = _ := hV 3 _ _ rfl rfl (by decide)
      have v11 : vs 4 = _ := hV 4 _ _ rfl rfl (by decide)
      have v12 : vs 5 = .pointer (some ⟨n0, 0, none⟩) := hV 5 _ _ rfl rfl (by decide)
      have v13 : vs 6 = _ := hV 6 _ _ rfl rfl (by decide)
      have v14 : vs 7 = _ := hV 7 _ _ rfl rfl (by decide)
      have v15 : vs 8 = .pointer (some ⟨n0, 0, none⟩) := hV 8 _ _ rfl rfl (by decide)
      have v16 : (anyv).V (vs 9) w8 := hV 9 _ _ rfl rfl (by decide)
      have v2 : (anyv).V (vs 10) w8 := hV 10 _ _ rfl rfl (by decide)
      clear hV
      simp only [putL, Act.put, Nat.reduceAdd, List.setIfInBounds_toArray, List.set_cons_zero, List.set_cons_succ, v7, v8, v9, v10, v11, v12, v13, v14, v15]
      obtain ⟨A9, c9, hv9, h9⟩ := cw8.2.2.2
      have v2' : vs 10 = .slice A9 xs.length c9 := hv9
      have w2 : vs 10 = .slice A9 xs.length c9 := v2'
      rw [w2]
      clear hv9 v2' w2 cw8
      go_wp2_with fail
      go_ret
      rw [HB.out]
      exact ⟨A9, c9, rfl, h9, f0.trans fw8 (fun i hi h => by unfold upB at h; omega)⟩
  · have t1 : ((e : Int) != 0) = true := by rw [bne_iff_ne]; omega
    have HB : Hid (repB e l = leB 1 e ++ rowB []) := by unfold Hid repB; rw [if_neg h0]
    have hb0 : BlkAt (w.alloc (.cells #[.int .i64 e, .slice none 0 0] 28)) w.heap.size 28 #[.int .i64 e, .slice none 0 0] := BlkAt.new _ _ _
    have f0 : Fr noB w (w.alloc (.cells #[.int .i64 e, .slice none 0 0] 28)) := (Fr.refl noB w).alloc _
    have hs0 := al_size w (.cells #[.int .i64 e, .slice none 0 0] 28)
    clear h0 hx
    go_enter Tryd.func55, Tryd.ntmps55
    go_wp2_with fail
    generalize (w.alloc (.cells #[.int .i64 e, .slice none 0 0] 28)) = wa at *
    obtain ⟨n0, hn0⟩ : ∃ n0, wa.heap.size = n0 := ⟨_, rfl⟩
    have hwrap : IntKind.u8.wrap (e : Int) = e := by rw [IntKind.wrap_u8]; omega
    have HE := hid he
    obtain ⟨xs, hxs⟩ : ∃ xs, leB 1 e ++ rowB ([] : List ByteArray) = xs := ⟨_, rfl⟩
    have hlb : xs.length ≤ 1000000000000 := by
      have := rowB_length []
      rw [← hxs, List.length_append, leB_length]; simp [sumSz] at this; omega
    rw [hxs] at HB
    have HXS := hid hxs
    clear hxs
    clear he
    apply H.wp_region_calmL (R := Fr (upB n0)) (C := fun q ν W => Fr (upB n0) wa W ∧ BlkAt W w.heap.size 28 #[.int .i64 e, .slice none 0 0] ∧ RowAt W none (strs ([] : List ByteArray)) ∧ PutRC w n0 (leB 1 e) xs q (ν 16) (ν 2) W) [false, true, false, false, false, true, false, false, true, true, true] [0, 0, 0, 0, 0, 1, 0, 0, 2, 3, 4]
      [eqv _, eqv (.pointer (some ⟨n0, 0, none⟩)), eqv _, eqv _, eqv _, eqv (.pointer (some ⟨n0, 0, none⟩)), eqv _, eqv _, eqv (.pointer (some ⟨n0, 0, none⟩)), anyv, anyv]
      (by kernel_rfl) (by kernel_rfl) (fun _ _ _ h1 h2 => h1.then' h2) ((Fr.refl _ _).drew) ⟨(Fr.refl _ _).drew, hb0, RowAt.nil _ _, hn0⟩ (by kernel_rfl)
    · refine ⟨?_, ?_, ?_, ?_, ?_, ?_, ?_, ?_, ?_, ?_, ?_, trivial⟩
      · rw [if_neg (by decide)]; intro kq
        intro a W K hC hd hK
        refine wpOp_plain rfl rfl ?_
        go_wp2_with fail
        exact hK _ _ (Fr.refl _ _) hC rfl
      · rw [if_pos (by decide)]
        intro a W K hC hd hK
        replace hC : (fun q ν W => Fr (upB n0) wa W ∧ BlkAt W w.heap.size 28 #[.int .i64 e, .slice none 0 0] ∧ RowAt W none (strs ([] : List ByteArray)) ∧ PutRC w n0 (leB 1 e) xs q (ν 16) (ν 2) W) 0 (fun t => a.eval (.tmp t)) W := hC
        have d7 : _ = _ := hd 7 (by decide)
        refine wpOp_plain rfl rfl ?_
        have hwn := WrAt.new W
        have hz : W.heap.size = n0 := hC.2.2.2
        go_wp2_with fail
        have fs : Fr (upB n0) W (W.alloc (.cells #[.slice none 0 0] 150)) := (Fr.refl _ W).alloc _
        exact hK _ _ fs ⟨hC.1.then' fs, hC.2.1.al _, RowAt.nil _ _, WrAt.made hz⟩ rfl
      · rw [if_neg (by decide)]; intro kq
        intro a W K hC hd hK
        have d1 : a.tmps[1]?.getD undef = .pointer (some ⟨w.heap.size, 0, none⟩) := hd 1 (by decide)
        refine wpOp_plain rfl rfl ?_
        obtain ⟨x0, x1, xf⟩ := BlkAt.c2 hC.2.1
        go_wp2_with fail
        exact hK _ _ (Fr.refl _ _) hC rfl
      · rw [if_neg (by decide)]; intro kq
        intro a W K hC hd hK
        have d9 : _ = _ := hd 9 (by decide)
        refine wpOp_plain rfl rfl ?_
        obtain ⟨x0, x1, xf⟩ := BlkAt.c2 hC.2.1
        go_wp2_with fail
        exact hK _ _ (Fr.refl _ _) hC rfl
      · rw [if_neg (by decide)]; intro kq
        intro a W K hC hd hK
        have d10 : _ = _ := hd 10 (by decide)
        refine wpOp_plain rfl rfl ?_
        go_wp2_with fail
        exact hK _ _ (Fr.refl _ _) hC rfl
      · rw [if_pos (by decide)]
        intro a W K hC hd hK
        replace hC : (fun q ν W => Fr (upB n0) wa W ∧ BlkAt W w.heap.size 28 #[.int .i64 e, .slice none 0 0] ∧ RowAt W none (strs ([] : List ByteArray)) ∧ PutRC w n0 (leB 1 e) xs q (ν 16) (ν 2) W) 1 (fun t => a.eval (.tmp t)) W := hC
        have d8 : a.tmps[8]?.getD undef = .pointer (some ⟨n0, 0, none⟩) := hd 8 (by decide)
        have d11 : _ = _ := hd 11 (by decide)
        refine wpOp_plain rfl rfl ?_
        obtain ⟨x0, x1, xf⟩ := BlkAt.c2 hC.2.1
        go_wp2_with fail
        refine (byte_calls W (upB n0) n0 [] e hC.2.2.2 HE.out (by simp)).mono ?_
        rintro e9 w9 ⟨rfl, h9, f9⟩
        rw [List.nil_append] at h9
        exact hK _ _ f9 ⟨hC.1.then' f9, hC.2.1.fr f9 (fun h => by unfold upB at h; omega), RowAt.nil _ _, h9.upn (by have := hC.1.size; omega)⟩ rfl
      · rw [if_neg (by decide)]; intro kq
        intro a W K hC hd hK
        have d1 : a.tmps[1]?.getD undef = .pointer (some ⟨w.heap.size, 0, none⟩) := hd 1 (by decide)
        refine wpOp_plain rfl rfl ?_
        obtain ⟨x0, x1, xf⟩ := BlkAt.c2 hC.2.1
        go_wp2_with fail
        exact hK _ _ (Fr.refl _ _) hC rfl
      · rw [if_neg (by decide)]; intro kq
        intro a W K hC hd hK
        have d13 : _ = _ := hd 13 (by decide)
        refine wpOp_plain rfl rfl ?_
        obtain ⟨x0, x1, xf⟩ := BlkAt.c2 hC.2.1
        go_wp2_with fail
        exact hK _ _ (Fr.refl _ _) hC rfl
      · rw [if_pos (by decide)]
        intro a W K hC hd hK
        replace hC : (fun q ν W => Fr (upB n0) wa W ∧ BlkAt W w.heap.size 28 #[.int .i64 e, .slice none 0 0] ∧ RowAt W none (strs ([] : List ByteArray)) ∧ PutRC w n0 (leB 1 e) xs q (ν 16) (ν 2) W) 2 (fun t => a.eval (.tmp t)) W := hC
        have d12 : a.tmps[12]?.getD undef = .pointer (some ⟨n0, 0, none⟩) := hd 12 (by decide)
        have d14 : _ = _ := hd 14 (by decide)
        refine wpOp_plain rfl rfl ?_
        obtain ⟨x0, x1, xf⟩ := BlkAt.c2 hC.2.1
        go_wp2_with fail
        refine (row_calls_any W (upB n0) n0 (leB 1 e) none 0 0 [] hC.2.2.2 hC.2.2.1 rfl (Nat.le_refl _) (by decide) (fun _ a ea => by cases ea) (by rw [leB_length]; simp [sumSz])).mono ?_
        rintro e9 w9 ⟨rfl, h9, f9⟩
        rw [HXS.out] at h9
        exact hK _ _ f9 ⟨hC.1.then' f9, hC.2.1.fr f9 (fun h => by unfold upB at h; omega), RowAt.nil _ _, h9.upn (by have := hC.1.size; omega)⟩ rfl
      · rw [if_pos (by decide)]
        intro a W K hC hd hK
        replace hC : (fun q ν W => Fr (upB n0) wa W ∧ BlkAt W w.heap.size 28 #[.int .i64 e, .slice none 0 0] ∧ RowAt W none (strs ([] : List ByteArray)) ∧ PutRC w n0 (leB 1 e) xs q (ν 16) (ν 2) W) 3 (fun t => a.eval (.tmp t)) W := hC
        have d15 : a.tmps[15]?.getD undef = .pointer (some ⟨n0, 0, none⟩) := hd 15 (by decide)
        refine wpOp_plain rfl rfl ?_
        obtain ⟨x0, x1, xf⟩ := BlkAt.c2 hC.2.1
        go_wp2_with fail
        refine (bytes_calls W (upB n0) n0 xs hC.2.2.2 hlb).mono ?_
        rintro e9 w9 ⟨A9, c9, rfl, h9, f9⟩
        exact hK _ _ (f9.up0 n0) ⟨hC.1.then' (f9.up0 n0), hC.2.1.fr f9 id, RowAt.nil _ _, A9, c9, rfl, own_mono h9 (fun g hg => by have := (h9.lt g hg).1; have := hC.1.size; omega)⟩ trivial
      · rw [if_pos (by decide)]
        intro a W K hC hd hK
        replace hC : (fun q ν W => Fr (upB n0) wa W ∧ BlkAt W w.heap.size 28 #[.int .i64 e, .slice none 0 0] ∧ RowAt W none (strs ([] : List ByteArray)) ∧ PutRC w n0 (leB 1 e) xs q (ν 16) (ν 2) W) 4 (fun t => a.eval (.tmp t)) W := hC
        have d16 : (anyv).V (a.tmps[16]?.getD undef) W := hd 16 (by decide)
        refine wpOp_plain rfl rfl ?_
        obtain ⟨A9, c9, hv9, h9⟩ := hC.2.2.2
        have d16 : a.tmps[16]?.getD undef = .slice A9 xs.length c9 := by rw [← eval_get]; exact hv9
        go_wp2_with fail
        exact hK _ _ (Fr.refl _ _) ⟨hC.1, hC.2.1, hC.2.2.1, A9, c9, rfl, h9⟩ trivial
    · intro vs w8 fw8 cw8 hV
      have v7 : vs 0 = _ := hV 0 _ _ rfl rfl (by decide)
      have v8 : vs 1 = .pointer (some ⟨n0, 0, none⟩) := hV 1 _ _ rfl rfl (by decide)
      have v9 : vs 2 = _ := hV 2 _ _ rfl rfl (by decide)
      have v10 : vs 3 = _ := hV 3 _ _ rfl rfl (by decide)
      have v11 : vs 4 = _ := hV 4 _ _ rfl rfl (by decide)
      have v12 : vs 5 = .pointer (some ⟨n0, 0, none⟩) := hV 5 _ _ rfl rfl (by decide)
      have v13 : vs 6 = _ := hV 6 _ _ rfl rfl (by decide)
      have v14 : vs 7 = _ := hV 7 _ _ rfl rfl (by decide)
      have v15 : vs 8 = .pointer (some ⟨n0, 0, none⟩) := hV 8 _ _ rfl rfl (by decide)
      have v16 : (anyv).V (vs 9) w8 := hV 9 _ _ rfl rfl (by decide)
      have v2 : (anyv).V (vs 10) w8 := hV 10 _ _ rfl rfl (by decide)
      clear hV
      simp only [putL, Act.put, Nat.reduceAdd, List.setIfInBounds_toArray, List.set_cons_zero, List.set_cons_succ, v7, v8, v9, v10, v11, v12, v13, v14, v15]
      obtain ⟨A9, c9, hv9, h9⟩ := cw8.2.2.2
      have v2' : vs 10 = .slice A9 xs.length c9 := hv9
      have w2 : vs 10 = .slice A9 xs.length c9 := v2'
      rw [w2]
      clear hv9 v2' w2 cw8
      go_wp2_with fail
      go_ret
      rw [HB.out]
      exact ⟨A9, c9, rfl, h9, f0.trans fw8 (fun i hi h => by unfold upB at h; omega)⟩
end Go.Proofs.YtcaihinenfnekaaDoor
