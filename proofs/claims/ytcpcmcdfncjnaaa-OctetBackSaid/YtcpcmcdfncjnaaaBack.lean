/- interrexlaw01.OctetBack: the walk. -/
import Derived.Test.YtcpcmcdfncjnaaaBackLaw
import Derived.Test.YtcpcmcdfncjnaaaReads
namespace Go.Proofs.Ytcpcmcdfncjnaaa
open Go.RowKit

set_option maxRecDepth 100000 in
set_option maxHeartbeats 6400000 in
theorem back_walk (w : World) (A : Option Addr) (n c : Nat) (l : List Item) (h : ItemsAt w A l) (HN : Hid (l.length = n)) (hn : n ≤ maxLen) (hok : ∀ i ∈ l, ItemOK i) :
    Calls Try.prog 9 #[.slice A n c] w (BoolPost w true) := by
  have hlv := @lives1_calls
  cases hfew : fewB l with
  | false =>
    have HF := hid hfew; clear hfew
    go_enter Try.func9, Try.ntmps9
    go_wp2_with (go_at_call 14; refine (hlv _).mono ?_; rintro e w1 ⟨rfl, f1⟩)
    have hfc := few_calls w1 A c l ⟨h.row.fr0 f1, fun i hi => (h.sub i hi).fr0 f1⟩ (by rw [HN.out]; exact hn) (fun i hi => (hok i hi).m)
    rw [HN.out, HF.out] at hfc
    refine hfc.mono ?_
    rintro e w2 ⟨rfl, f2⟩
    go_wp2_with (go_at_call 14; refine (hlv _).mono ?_; rintro e w3 ⟨rfl, f3⟩)
    go_ret
    exact ⟨rfl, (f1.then' f2).then' f3⟩
  | true =>
    obtain ⟨h30, hall⟩ := fewB_spec hfew
    have HF := hid hfew; clear hfew
    rw [HN.out] at h30
    go_enter Try.func9, Try.ntmps9
    go_wp2_with (go_at_call 14; refine (hlv _).mono ?_; rintro e w1 ⟨rfl, f1⟩)
    have hfc := few_calls w1 A c l ⟨h.row.fr0 f1, fun i hi => (h.sub i hi).fr0 f1⟩ (by rw [HN.out]; exact hn) (fun i hi => (hok i hi).m)
    rw [HN.out, HF.out] at hfc
    refine hfc.mono ?_
    clear hfc
    rintro e w2 ⟨rfl, f2⟩
    have f02 : Fr noB w w2 := f1.then' f2
    clear f1 f2
    have hw3 := WrAt.new w2
    have f03 : Fr noB w (w2.alloc (.cells #[.slice none 0 0] 32)) := f02.alloc _
    have z2 := f02.size
    go_wp2_with fail
    generalize w2.alloc (.cells #[.slice none 0 0] 32) = w3 at *
    generalize w2.heap.size = p at *
    go_loopw [21] (fun i wr => ∃ k : Nat, k ≤ n ∧ i = .int .i64 k ∧ WrAt wr (upB p) p (allB (l.take k)) ∧ Fr (upB w.heap.size) w wr) (fun i _ => n - (intOf i).toNat)
    case atStart => exact ⟨0, Nat.zero_le _, rfl, hw3, f03.up0 _⟩
    case round =>
      obtain ⟨k, hk, rfl, hw, hf⟩ := hrel
      by_cases hkn : k < n
      · obtain ⟨it, hit⟩ : ∃ it, l[k]? = some it := ⟨_, List.getElem?_eq_getElem (by rw [HN.out]; exact hkn)⟩
        obtain ⟨ad, rfl⟩ := h.row.some_flat (by simp [Item.cells]) hit
        obtain ⟨c0, c1, c2, c3, c4, c5, c6, c7⟩ := ((h.row.seg 8 Item.cells_length hit).fr hf (by
          have := (h.row.seg 8 Item.cells_length hit) 0 _ rfl
          have := World.block_lt_of_cell? w _ this
          rw [add_block] at this
          unfold upB; omega)).c8
        have hmem := List.mem_of_getElem? hit
        have q1 := hall it hmem
        have q2 := hok it hmem
        have q3 := allB_length (l.take k) (fun i hi => hall i (List.mem_of_mem_take hi))
        have q4 : (allB (l.take k)).length ≤ 60000 := by rw [List.length_take] at q3; omega
        have q5 := Item.all_length q1
        have HS := hid (allB_snoc hit)
        have hsub := h.sub it hmem
        obtain ⟨hk256, hx, hc, hm, _⟩ := q2
        have HI : Hid (it.parts.flatten = it.all) := rfl
        generalize allB (l.take k) = bs at *
        generalize it.all = al at *
        obtain ⟨k', x, is, s, LA, Lc, L, most, long, ee⟩ := it
        simp only [Item.parts, Item.ok, Bool.and_eq_true, decide_eq_true_eq, List.all_eq_true] at *
        clear hit hmem hall q3
        obtain ⟨⟨hs100, hL10⟩, hL50⟩ := q1
        have hsum : sumSz L ≤ 520 := sumSz_50 hL10 hL50
        have hpl : ∀ q, (bs ++ (List.take q [leB 1 k', leB 2 x, leB 4 x, leB 8 x, leB 1 (if is then 1 else 0), textB s, rowB L, s.data.toList]).flatten).length ≤ 70000 := fun q => by
          have := parts_length [leB 1 k', leB 2 x, leB 4 x, leB 8 x, leB 1 (if is then 1 else 0), textB s, rowB L, s.data.toList] q
          rw [HI.out] at this
          rw [List.length_append]; omega
        have HPL := hid hpl
        have hw0 : WrAt (wr.alloc (.cells #[.int .u8 k', .int .u64 x, .bool is, .string s, .slice LA L.length Lc, .int .i64 most, .int .i64 long, .int .i64 ee] 27)) (upB p) p bs := hw.fr ((Fr.refl noB _).alloc _) (fun _ _ _ => id)
        have hfp : ∀ b, footW p (wr.alloc (.cells #[.int .u8 k', .int .u64 x, .bool is, .string s, .slice LA L.length Lc, .int .i64 most, .int .i64 long, .int .i64 ee] 27)) b → p ≤ b ∧ b < wr.heap.size := fun b hb => by
          obtain h1 := (hw.cut.fr ((Fr.refl noB _).alloc (.cells #[.int .u8 k', .int .u64 x, .bool is, .string s, .slice LA L.length Lc, .int .i64 most, .int .i64 long, .int .i64 ee] 27)) (fun _ _ _ => id)).foot_le hb
          exact h1
        have hbox : ∀ W, RW p (wr.alloc (.cells #[.int .u8 k', .int .u64 x, .bool is, .string s, .slice LA L.length Lc, .int .i64 most, .int .i64 long, .int .i64 ee] 27)) W → SegAt W ⟨wr.heap.size, 0, none⟩ [.int .u8 k', .int .u64 x, .bool is, .string s, .slice LA L.length Lc, .int .i64 most, .int .i64 long, .int .i64 ee] := fun W f j u hu => by
          refine f.fr.cell ((new_row wr #[.int .u8 k', .int .u64 x, .bool is, .string s, .slice LA L.length Lc, .int .i64 most, .int .i64 long, .int .i64 ee] _).cell hu) ?_
          rw [add_block]
          intro h
          exact Nat.lt_irrefl _ (hfp _ h).2
        have hlt : 0 < L.length → ∀ a, LA = some a → a.block < w.heap.size := fun h0 a e => by
          subst e; exact hsub.lt (by simpa [strs] using h0)
        have hrow : ∀ W, RW p (wr.alloc (.cells #[.int .u8 k', .int .u64 x, .bool is, .string s, .slice LA L.length Lc, .int .i64 most, .int .i64 long, .int .i64 ee] 27)) W → RowAt W LA (strs L) := fun W f =>
          ((hsub.up hf).fr0 ((Fr.refl noB _).alloc _)).fr f.fr (fun a e h0 _ hb => by
            have h1 := hlt (by simpa [strs] using h0) a e
            have h2 := (hfp _ hb).1
            omega)
        have hdis : ∀ W, RW p (wr.alloc (.cells #[.int .u8 k', .int .u64 x, .bool is, .string s, .slice LA L.length Lc, .int .i64 most, .int .i64 long, .int .i64 ee] 27)) W → 0 < L.length → ∀ a, LA = some a → ¬ footW p W a.block := fun W f h0 a e hb => by
          have h1 := hlt h0 a e
          have h3 := hf.size
          rcases f.foot _ hb with h2 | h2
          · have := (hfp _ h2).1; omega
          · simp at h2; omega
        have hz : (wr.alloc (.cells #[.int .u8 k', .int .u64 x, .bool is, .string s, .slice LA L.length Lc, .int .i64 most, .int .i64 long, .int .i64 ee] 27)).heap.size = wr.heap.size + 1 := by simp
        have hfa : Fr (upB w.heap.size) w (wr.alloc (.cells #[.int .u8 k', .int .u64 x, .bool is, .string s, .slice LA L.length Lc, .int .i64 most, .int .i64 long, .int .i64 ee] 27)) := hf.alloc _
        have hzr := hf.size
        have hpb : p < wr.heap.size := by obtain ⟨A, c, T, _, h, _⟩ := hw.ex; exact (Array.getElem?_eq_some_iff.1 h).1
        go_wp2_with fail
        generalize wr.alloc (.cells #[.int .u8 k', .int .u64 x, .bool is, .string s, .slice LA L.length Lc, .int .i64 most, .int .i64 long, .int .i64 ee] 27) = wa at *
        clear hw hf hsub c0 c1 c2 c3 c4 c5 c6 c7
        generalize wr.heap.size = ib at *
        have HT : ∃ tb, Hid (tb = (if is then 1 else 0)) := ⟨_, rfl⟩
        obtain ⟨tb, HT⟩ := HT
        simp only [← HT.out] at HI HPL hpl ⊢
        clear hpl
        refine wp_region_calmL (R := RW p) (C := BackC p wa bs [leB 1 k', leB 2 x, leB 4 x, leB 8 x, leB 1 tb, textB s, rowB L, s.data.toList]) [false, false, false, true, false, false, false, true, false, false, false, true, false, false, true, false, false, true, false, false, true, false, false, true, false, false, false, true] [0, 0, 0, 0, 0, 0, 0, 1, 0, 0, 0, 2, 0, 0, 3, 0, 0, 4, 0, 0, 5, 0, 0, 6, 0, 0, 0, 7]
          [eqv (.pointer (some ⟨p, 0, none⟩)), eqv (.pointer (some ⟨ib, 0, none⟩)), eqv (.int .u8 k'), eqv (.pointer (some ⟨p, 0, none⟩)), eqv (.pointer (some ⟨ib, 1, none⟩)), eqv (.int .u64 x), eqv (.int .u16 ((x % 65536 : Nat) : Int)), eqv (.pointer (some ⟨p, 0, none⟩)), eqv (.pointer (some ⟨ib, 1, none⟩)), eqv (.int .u64 x), eqv (.int .u32 ((x % 4294967296 : Nat) : Int)), eqv (.pointer (some ⟨p, 0, none⟩)), eqv (.pointer (some ⟨ib, 1, none⟩)), eqv (.int .u64 x), eqv (.pointer (some ⟨p, 0, none⟩)), eqv (.pointer (some ⟨ib, 2, none⟩)), eqv (.bool is), eqv (.pointer (some ⟨p, 0, none⟩)), eqv (.pointer (some ⟨ib, 3, none⟩)), eqv (.string s), eqv (.pointer (some ⟨p, 0, none⟩)), eqv (.pointer (some ⟨ib, 4, none⟩)), eqv (.slice LA L.length Lc), eqv (.pointer (some ⟨p, 0, none⟩)), eqv (.pointer (some ⟨ib, 3, none⟩)), eqv (.string s), OutV p s.data.toList, eqv (.pointer (some ⟨p, 0, none⟩))]
          (by kernel_rfl) (by kernel_rfl) (fun _ _ _ h1 h2 => h1.trans h2) (RW.drew _ _) (BackC.start hw0) (by kernel_rfl) ?_ ?_
        · refine ⟨?_, ?_, ?_, ?_, ?_, ?_, ?_, ?_, ?_, ?_, ?_, ?_, ?_, ?_, ?_, ?_, ?_, ?_, ?_, ?_, ?_, ?_, ?_, ?_, ?_, ?_, ?_, ?_, trivial⟩
          · rw [if_neg (by decide)]; intro kq
            exact calm_mv 3 rfl rfl (Or.inl rfl) (RW.refl p) (by decide) fun v w hd => hd
          · rw [if_neg (by decide)]; intro kq
            intro a W K hC hd hK
            have d5 : a.tmps[5]?.getD undef = .pointer (some ⟨ib, 0, none⟩) := hd 5 (by decide)
            refine wpOp_plain rfl rfl ?_
            go_wp2_with fail
            exact hK _ _ (RW.refl _ _) hC rfl
          · rw [if_neg (by decide)]; intro kq
            intro a W K hC hd hK
            have d26 : a.tmps[26]?.getD undef = .pointer (some ⟨ib, 0, none⟩) := hd 26 (by decide)
            obtain ⟨b0, b1, b2, b3, b4, b5, b6, b7⟩ := (hbox W hC.1).c8z
            refine wpOp_plain rfl rfl ?_
            go_wp2_with fail
            exact hK _ _ (RW.refl _ _) hC rfl
          · rw [if_pos (by decide)]
            intro a W K hC hd hK
            replace hC : (BackC p wa bs [leB 1 k', leB 2 x, leB 4 x, leB 8 x, leB 1 tb, textB s, rowB L, s.data.toList]) 0 W := hC
            have d25 : a.tmps[25]?.getD undef = .pointer (some ⟨p, 0, none⟩) := hd 25 (by decide)
            have d27 : a.tmps[27]?.getD undef = .int .u8 k' := hd 27 (by decide)
            refine wpOp_plain rfl rfl ?_
            have hq := HPL.out 0
            go_wp2_with fail
            refine (byte_calls W (footW p W) p (bs ++ (List.take 0 [leB 1 k', leB 2 x, leB 4 x, leB 8 x, leB 1 tb, textB s, rowB L, s.data.toList]).flatten) k' hC.2 hk256 (by omega)).mono ?_
            rintro e w' ⟨rfl, h1, f1⟩
            have hs := hC.step rfl h1 f1
            exact hK _ _ hs.1 hs.2 rfl
          · rw [if_neg (by decide)]; intro kq
            intro a W K hC hd hK
            have d5 : a.tmps[5]?.getD undef = .pointer (some ⟨ib, 0, none⟩) := hd 5 (by decide)
            refine wpOp_plain rfl rfl ?_
            go_wp2_with fail
            exact hK _ _ (RW.refl _ _) hC rfl
          · rw [if_neg (by decide)]; intro kq
            intro a W K hC hd hK
            have d29 : a.tmps[29]?.getD undef = .pointer (some ⟨ib, 1, none⟩) := hd 29 (by decide)
            obtain ⟨b0, b1, b2, b3, b4, b5, b6, b7⟩ := (hbox W hC.1).c8z
            refine wpOp_plain rfl rfl ?_
            go_wp2_with fail
            exact hK _ _ (RW.refl _ _) hC rfl
          · rw [if_neg (by decide)]; intro kq
            intro a W K hC hd hK
            have d30 : a.tmps[30]?.getD undef = .int .u64 x := hd 30 (by decide)
            refine wpOp_plain rfl rfl ?_
            go_wp2_with fail
            exact hK _ _ (RW.refl _ _) hC (by show _ = _; rw [u16_wrap])
          · rw [if_pos (by decide)]
            intro a W K hC hd hK
            replace hC : (BackC p wa bs [leB 1 k', leB 2 x, leB 4 x, leB 8 x, leB 1 tb, textB s, rowB L, s.data.toList]) 1 W := hC
            have d28 : a.tmps[28]?.getD undef = .pointer (some ⟨p, 0, none⟩) := hd 28 (by decide)
            have d31 : a.tmps[31]?.getD undef = .int .u16 ((x % 65536 : Nat) : Int) := hd 31 (by decide)
            refine wpOp_plain rfl rfl ?_
            have hq := HPL.out 1
            go_wp2_with fail
            refine (two_calls W (footW p W) p (bs ++ (List.take 1 [leB 1 k', leB 2 x, leB 4 x, leB 8 x, leB 1 tb, textB s, rowB L, s.data.toList]).flatten) (x % 65536) hC.2 (by omega) (by omega)).mono ?_
            rintro e w' ⟨rfl, h1, f1⟩
            rw [show leB 2 (x % 65536) = leB 2 x from leB_mod 2 x] at h1
            have hs := hC.step rfl h1 f1
            exact hK _ _ hs.1 hs.2 rfl
          · rw [if_neg (by decide)]; intro kq
            intro a W K hC hd hK
            have d5 : a.tmps[5]?.getD undef = .pointer (some ⟨ib, 0, none⟩) := hd 5 (by decide)
            refine wpOp_plain rfl rfl ?_
            go_wp2_with fail
            exact hK _ _ (RW.refl _ _) hC rfl
          · rw [if_neg (by decide)]; intro kq
            intro a W K hC hd hK
            have d33 : a.tmps[33]?.getD undef = .pointer (some ⟨ib, 1, none⟩) := hd 33 (by decide)
            obtain ⟨b0, b1, b2, b3, b4, b5, b6, b7⟩ := (hbox W hC.1).c8z
            refine wpOp_plain rfl rfl ?_
            go_wp2_with fail
            exact hK _ _ (RW.refl _ _) hC rfl
          · rw [if_neg (by decide)]; intro kq
            intro a W K hC hd hK
            have d34 : a.tmps[34]?.getD undef = .int .u64 x := hd 34 (by decide)
            refine wpOp_plain rfl rfl ?_
            go_wp2_with fail
            exact hK _ _ (RW.refl _ _) hC (by show _ = _; simp)
          · rw [if_pos (by decide)]
            intro a W K hC hd hK
            replace hC : (BackC p wa bs [leB 1 k', leB 2 x, leB 4 x, leB 8 x, leB 1 tb, textB s, rowB L, s.data.toList]) 2 W := hC
            have d32 : a.tmps[32]?.getD undef = .pointer (some ⟨p, 0, none⟩) := hd 32 (by decide)
            have d35 : a.tmps[35]?.getD undef = .int .u32 ((x % 4294967296 : Nat) : Int) := hd 35 (by decide)
            refine wpOp_plain rfl rfl ?_
            have hq := HPL.out 2
            go_wp2_with fail
            refine (four_calls W (footW p W) p (bs ++ (List.take 2 [leB 1 k', leB 2 x, leB 4 x, leB 8 x, leB 1 tb, textB s, rowB L, s.data.toList]).flatten) (x % 4294967296) hC.2 (by omega) (by omega)).mono ?_
            rintro e w' ⟨rfl, h1, f1⟩
            rw [show leB 4 (x % 4294967296) = leB 4 x from leB_mod 4 x] at h1
            have hs := hC.step rfl h1 f1
            exact hK _ _ hs.1 hs.2 rfl
          · rw [if_neg (by decide)]; intro kq
            intro a W K hC hd hK
            have d5 : a.tmps[5]?.getD undef = .pointer (some ⟨ib, 0, none⟩) := hd 5 (by decide)
            refine wpOp_plain rfl rfl ?_
            go_wp2_with fail
            exact hK _ _ (RW.refl _ _) hC rfl
          · rw [if_neg (by decide)]; intro kq
            intro a W K hC hd hK
            have d37 : a.tmps[37]?.getD undef = .pointer (some ⟨ib, 1, none⟩) := hd 37 (by decide)
            obtain ⟨b0, b1, b2, b3, b4, b5, b6, b7⟩ := (hbox W hC.1).c8z
            refine wpOp_plain rfl rfl ?_
            go_wp2_with fail
            exact hK _ _ (RW.refl _ _) hC rfl
          · rw [if_pos (by decide)]
            intro a W K hC hd hK
            replace hC : (BackC p wa bs [leB 1 k', leB 2 x, leB 4 x, leB 8 x, leB 1 tb, textB s, rowB L, s.data.toList]) 3 W := hC
            have d36 : a.tmps[36]?.getD undef = .pointer (some ⟨p, 0, none⟩) := hd 36 (by decide)
            have d38 : a.tmps[38]?.getD undef = .int .u64 x := hd 38 (by decide)
            refine wpOp_plain rfl rfl ?_
            have hq := HPL.out 3
            go_wp2_with fail
            refine (eight_calls W (footW p W) p (bs ++ (List.take 3 [leB 1 k', leB 2 x, leB 4 x, leB 8 x, leB 1 tb, textB s, rowB L, s.data.toList]).flatten) x hC.2 (by omega)).mono ?_
            rintro e w' ⟨rfl, h1, f1⟩
            have hs := hC.step rfl h1 f1
            exact hK _ _ hs.1 hs.2 rfl
          · rw [if_neg (by decide)]; intro kq
            intro a W K hC hd hK
            have d5 : a.tmps[5]?.getD undef = .pointer (some ⟨ib, 0, none⟩) := hd 5 (by decide)
            refine wpOp_plain rfl rfl ?_
            go_wp2_with fail
            exact hK _ _ (RW.refl _ _) hC rfl
          · rw [if_neg (by decide)]; intro kq
            intro a W K hC hd hK
            have d40 : a.tmps[40]?.getD undef = .pointer (some ⟨ib, 2, none⟩) := hd 40 (by decide)
            obtain ⟨b0, b1, b2, b3, b4, b5, b6, b7⟩ := (hbox W hC.1).c8z
            refine wpOp_plain rfl rfl ?_
            go_wp2_with fail
            exact hK _ _ (RW.refl _ _) hC rfl
          · rw [if_pos (by decide)]
            intro a W K hC hd hK
            replace hC : (BackC p wa bs [leB 1 k', leB 2 x, leB 4 x, leB 8 x, leB 1 tb, textB s, rowB L, s.data.toList]) 4 W := hC
            have d39 : a.tmps[39]?.getD undef = .pointer (some ⟨p, 0, none⟩) := hd 39 (by decide)
            have d41 : a.tmps[41]?.getD undef = .bool is := hd 41 (by decide)
            refine wpOp_plain rfl rfl ?_
            have hq := HPL.out 4
            go_wp2_with fail
            refine (truth_calls W (footW p W) p (bs ++ (List.take 4 [leB 1 k', leB 2 x, leB 4 x, leB 8 x, leB 1 tb, textB s, rowB L, s.data.toList]).flatten) is hC.2 (by omega)).mono ?_
            rintro e w' ⟨rfl, h1, f1⟩
            rw [← HT.out] at h1
            have hs := hC.step rfl h1 f1
            exact hK _ _ hs.1 hs.2 rfl
          · rw [if_neg (by decide)]; intro kq
            intro a W K hC hd hK
            have d5 : a.tmps[5]?.getD undef = .pointer (some ⟨ib, 0, none⟩) := hd 5 (by decide)
            refine wpOp_plain rfl rfl ?_
            go_wp2_with fail
            exact hK _ _ (RW.refl _ _) hC rfl
          · rw [if_neg (by decide)]; intro kq
            intro a W K hC hd hK
            have d43 : a.tmps[43]?.getD undef = .pointer (some ⟨ib, 3, none⟩) := hd 43 (by decide)
            obtain ⟨b0, b1, b2, b3, b4, b5, b6, b7⟩ := (hbox W hC.1).c8z
            refine wpOp_plain rfl rfl ?_
            go_wp2_with fail
            exact hK _ _ (RW.refl _ _) hC rfl
          · rw [if_pos (by decide)]
            intro a W K hC hd hK
            replace hC : (BackC p wa bs [leB 1 k', leB 2 x, leB 4 x, leB 8 x, leB 1 tb, textB s, rowB L, s.data.toList]) 5 W := hC
            have d42 : a.tmps[42]?.getD undef = .pointer (some ⟨p, 0, none⟩) := hd 42 (by decide)
            have d44 : a.tmps[44]?.getD undef = .string s := hd 44 (by decide)
            refine wpOp_plain rfl rfl ?_
            have hq := HPL.out 5
            go_wp2_with fail
            refine (text_calls W (footW p W) p (bs ++ (List.take 5 [leB 1 k', leB 2 x, leB 4 x, leB 8 x, leB 1 tb, textB s, rowB L, s.data.toList]).flatten) s hC.2 (by unfold maxLen; omega) (by omega)).mono ?_
            rintro e w' ⟨rfl, h1, f1⟩
            have hs := hC.step rfl h1 f1
            exact hK _ _ hs.1 hs.2 rfl
          · rw [if_neg (by decide)]; intro kq
            intro a W K hC hd hK
            have d5 : a.tmps[5]?.getD undef = .pointer (some ⟨ib, 0, none⟩) := hd 5 (by decide)
            refine wpOp_plain rfl rfl ?_
            go_wp2_with fail
            exact hK _ _ (RW.refl _ _) hC rfl
          · rw [if_neg (by decide)]; intro kq
            intro a W K hC hd hK
            have d46 : a.tmps[46]?.getD undef = .pointer (some ⟨ib, 4, none⟩) := hd 46 (by decide)
            obtain ⟨b0, b1, b2, b3, b4, b5, b6, b7⟩ := (hbox W hC.1).c8z
            refine wpOp_plain rfl rfl ?_
            go_wp2_with fail
            exact hK _ _ (RW.refl _ _) hC rfl
          · rw [if_pos (by decide)]
            intro a W K hC hd hK
            replace hC : (BackC p wa bs [leB 1 k', leB 2 x, leB 4 x, leB 8 x, leB 1 tb, textB s, rowB L, s.data.toList]) 6 W := hC
            have d45 : a.tmps[45]?.getD undef = .pointer (some ⟨p, 0, none⟩) := hd 45 (by decide)
            have d47 : a.tmps[47]?.getD undef = .slice LA L.length Lc := hd 47 (by decide)
            refine wpOp_plain rfl rfl ?_
            have hq := HPL.out 6
            go_wp2_with fail
            refine (row_calls_small W (footW p W) p (bs ++ (List.take 6 [leB 1 k', leB 2 x, leB 4 x, leB 8 x, leB 1 tb, textB s, rowB L, s.data.toList]).flatten) LA L.length Lc L hC.2 (hrow W hC.1) rfl hc (hdis W hC.1) (by omega) (by omega)).mono ?_
            rintro e w' ⟨rfl, h1, f1⟩
            have hs := hC.step rfl h1 f1
            exact hK _ _ hs.1 hs.2 rfl
          · rw [if_neg (by decide)]; intro kq
            intro a W K hC hd hK
            have d5 : a.tmps[5]?.getD undef = .pointer (some ⟨ib, 0, none⟩) := hd 5 (by decide)
            refine wpOp_plain rfl rfl ?_
            go_wp2_with fail
            exact hK _ _ (RW.refl _ _) hC rfl
          · rw [if_neg (by decide)]; intro kq
            intro a W K hC hd hK
            have d49 : a.tmps[49]?.getD undef = .pointer (some ⟨ib, 3, none⟩) := hd 49 (by decide)
            obtain ⟨b0, b1, b2, b3, b4, b5, b6, b7⟩ := (hbox W hC.1).c8z
            refine wpOp_plain rfl rfl ?_
            go_wp2_with fail
            exact hK _ _ (RW.refl _ _) hC rfl
          · rw [if_neg (by decide)]; intro kq
            intro a W K hC hd hK
            have d50 : a.tmps[50]?.getD undef = .string s := hd 50 (by decide)
            refine wpOp_plain rfl rfl ?_
            have hcv := Try.fromStr W s
            have hqu := hC.quiet (bytesW_fr W s)
            have hsz : s.data.toList.length = s.size := by simp
            go_wp2_with fail
            exact hK _ _ hqu.1 hqu.2 ⟨W.heap.size, _, by rw [hsz], by rw [Lib.bytesWorld_size]; exact Nat.lt_succ_self _, fun h => by have := ((hC.2.fr (bytesW_fr W s) fun _ _ _ => id).foot_le h); exact Nat.lt_irrefl _ (hC.2.foot_lt this), bytesW_row W s⟩
          · rw [if_pos (by decide)]
            intro a W K hC hd hK
            replace hC : (BackC p wa bs [leB 1 k', leB 2 x, leB 4 x, leB 8 x, leB 1 tb, textB s, rowB L, s.data.toList]) 7 W := hC
            have d48 : a.tmps[48]?.getD undef = .pointer (some ⟨p, 0, none⟩) := hd 48 (by decide)
            have d51 : (OutV p s.data.toList).V (a.tmps[51]?.getD undef) W := hd 51 (by decide)
            refine wpOp_plain rfl rfl ?_
            obtain ⟨g, cg, e5, g1, g2, g3⟩ := d51
            have hsz : s.data.toList.length = s.size := by simp
            have hq := HPL.out 7
            go_wp2_with fail
            refine (raw_calls W (footW p W) p (bs ++ (List.take 7 [leB 1 k', leB 2 x, leB 4 x, leB 8 x, leB 1 tb, textB s, rowB L, s.data.toList]).flatten) (some ⟨g, 0, none⟩) s.data.toList.length cg s.data.toList hC.2 g3 rfl (fun e => by cases e) (by omega)).mono ?_
            rintro e w' ⟨rfl, h1, f1⟩
            have hs := hC.step rfl h1 f1
            exact hK _ _ hs.1 hs.2 rfl
        · intro vs w9 fw9 cw9 hV
          clear hV
          simp only [putL, Act.put, List.setIfInBounds_toArray, List.set_cons_zero, List.set_cons_succ]
          have e8 : WrAt w9 (footW p w9) p (bs ++ al) := by rw [← HI.out]; exact cw9.2
          have hge : ∀ k, footW p w9 k → p ≤ k := fun k hk => (fw9.foot k hk).elim (fun h => (hfp k h).1) fun h => by omega
          have e9 := e8.mono (T := upB p) fun k _ hk => hge k hk
          have f9 : Fr (upB w.heap.size) w w9 := hfa.then' (fw9.fr.mono fun k _ hk => by have := (hfp k hk).1; unfold upB; omega)
          clear cw9 fw9 e8 hge hbox hrow hdis hfp hw0 hfa HPL HI
          go_wp2_with fail
          go_roundw
          case rel => exact ⟨k + 1, by omega, by go_num, by rw [HS.out]; exact e9, f9⟩
          case measure => simp [intOf]; omega
      · have : k = n := by omega
        subst this
        rw [List.take_of_length_le (by rw [HN.out]; exact Nat.le_refl _)] at hw
        have hal := allB_length l hall
        have HAL : Hid ((allB l).length ≤ 60000) := by unfold Hid; rw [HN.out] at hal; omega
        clear hal hw3 f03 f02
        go_wp2_with fail
        refine (bytes_calls wr (upB p) p (allB l) hw (by have := HAL.out; omega)).mono ?_
        rintro e w5 ⟨B, d, rfl, r1, r2⟩
        have f5 : Fr (upB w.heap.size) w w5 := hf.then' (r2.mono fun _ _ h => h.elim)
        have r3 := own_row r1
        have r4 : B = none → (allB l).length = 0 ∧ d = 0 := fun e => by
          subst e
          rcases r1.2 with ⟨e, _⟩ | ⟨g, cap, cur, e, _⟩
          · injection e with _ h1 h2; exact ⟨h1, h2⟩
          · injection e with h; cases h
        clear hf hw r1 r2
        have HB : Hid ((allB l).length = (allB l).length) := rfl
        generalize hbl : (allB l).length = bl at *
        have HBL := hid hbl; clear hbl HB
        go_wp2_with fail
        refine (of_calls w5 B bl d (allB l) r3 HBL.out r4 (by have := HAL.out; omega)).mono ?_
        rintro e w6 ⟨q, rfl, q1, q2, q3, q4⟩
        have f6 : Fr (upB w.heap.size) w w6 := f5.then' (q4.mono fun _ _ h => h.elim)
        obtain ⟨U, hU⟩ : ∃ U, U = cutB (upB w5.heap.size) w6 := ⟨_, rfl⟩
        have hU1 : ∀ k, U k → w.heap.size ≤ k ∧ k < w6.heap.size := fun k hk => by
          subst hU
          have := f5.size
          exact ⟨Nat.le_trans this hk.1, hk.2⟩
        have q5 : RdAt w6 U q ⟨allB l, 0⟩ := by subst hU; exact q3.cut
        have z6 := f6.size
        clear hU q3 q4 r3 r4 f5
        go_wp2_with fail
        go_loopw [59] (fun i wr => ∃ j : Nat, j ≤ k ∧ i = .int .i64 j ∧ RdAt wr U q ⟨allB (l.drop j), 0⟩ ∧ Fr (upB w.heap.size) w wr ∧ w6.heap.size ≤ wr.heap.size) (fun i _ => k - (intOf i).toNat)
        case atStart => exact ⟨0, Nat.zero_le _, rfl, by rw [List.drop_zero]; exact q5, f6, Nat.le_refl _⟩
        case round =>
          clear q5 f6 hk hkn
          obtain ⟨j, hj, rfl, hr, hf, hzz⟩ := hrel
          by_cases hjn : j < k
          · obtain ⟨it, hit⟩ : ∃ it, l[j]? = some it := ⟨_, List.getElem?_eq_getElem (by rw [HN.out]; exact hjn)⟩
            obtain ⟨ad, rfl⟩ := h.row.some_flat (by simp [Item.cells]) hit
            obtain ⟨c0, c1, c2, c3, c4, c5, c6, c7⟩ := ((h.row.seg 8 Item.cells_length hit).fr hf (by
              have := (h.row.seg 8 Item.cells_length hit) 0 _ rfl
              have := World.block_lt_of_cell? w _ this
              rw [add_block] at this
              unfold upB; omega)).c8
            have hmem := List.mem_of_getElem? hit
            have q1 := hall it hmem
            have q2 := hok it hmem
            have hlen := allB_length (l.drop j) (fun i hi => hall i (List.mem_of_mem_drop hi))
            have q4 : (allB (l.drop j)).length ≤ 60000 := by rw [List.length_drop, HN.out] at hlen; omega
            have hsub := h.sub it hmem
            obtain ⟨hk256, hx, hc, hm, _⟩ := q2
            have HI : Hid (it.parts.flatten ++ allB (l.drop (j + 1)) = allB (l.drop j)) := (allB_drop hit).symm
            generalize allB (l.drop j) = bs at *
            have HY : ∃ ys, Hid (ys = allB (l.drop (j + 1))) := ⟨_, rfl⟩
            obtain ⟨ys, HY⟩ := HY
            rw [← HY.out] at HI
            obtain ⟨k', x, is, s, LA, Lc, L, most, long, ee⟩ := it
            simp only [Item.parts, Item.ok, Bool.and_eq_true, decide_eq_true_eq, List.all_eq_true] at *
            clear hit hmem hall hlen
            obtain ⟨⟨hs100, hL10⟩, hL50⟩ := q1
            have hpl : ∀ q, ((List.drop q [leB 1 k', leB 2 x, leB 4 x, leB 8 x, leB 1 (if is then 1 else 0), textB s, rowB L, s.data.toList]).flatten ++ ys).length ≤ 60000 := fun q => by
              have h1 : ([leB 1 k', leB 2 x, leB 4 x, leB 8 x, leB 1 (if is then 1 else 0), textB s, rowB L, s.data.toList].flatten).length = ((List.take q [leB 1 k', leB 2 x, leB 4 x, leB 8 x, leB 1 (if is then 1 else 0), textB s, rowB L, s.data.toList]).flatten).length + ((List.drop q [leB 1 k', leB 2 x, leB 4 x, leB 8 x, leB 1 (if is then 1 else 0), textB s, rowB L, s.data.toList]).flatten).length := by
                rw [← List.length_append, ← List.flatten_append, List.take_append_drop]
              have h2 := HI.out
              have h3 : ([leB 1 k', leB 2 x, leB 4 x, leB 8 x, leB 1 (if is then 1 else 0), textB s, rowB L, s.data.toList].flatten ++ ys).length ≤ 60000 := by rw [h2]; exact q4
              rw [List.length_append] at h3 ⊢; omega
            have HPL := hid hpl
            have hU2 : ∀ b, U b → w.heap.size ≤ b ∧ b < wr.heap.size := fun b hb => ⟨(hU1 b hb).1, Nat.lt_of_lt_of_le (hU1 b hb).2 hzz⟩
            have hr0 : RdAt (wr.alloc (.cells #[.int .u8 k', .int .u64 x, .bool is, .string s, .slice LA L.length Lc, .int .i64 most, .int .i64 long, .int .i64 ee] 27)) U q ⟨bs, 0⟩ := hr.fr ((Fr.refl noB _).alloc _) (fun _ _ _ => id)
            have hbox : ∀ W, Fr U (wr.alloc (.cells #[.int .u8 k', .int .u64 x, .bool is, .string s, .slice LA L.length Lc, .int .i64 most, .int .i64 long, .int .i64 ee] 27)) W → SegAt W ⟨wr.heap.size, 0, none⟩ [.int .u8 k', .int .u64 x, .bool is, .string s, .slice LA L.length Lc, .int .i64 most, .int .i64 long, .int .i64 ee] := fun W f j u hu => by
              refine f.cell ((new_row wr #[.int .u8 k', .int .u64 x, .bool is, .string s, .slice LA L.length Lc, .int .i64 most, .int .i64 long, .int .i64 ee] _).cell hu) ?_
              rw [add_block]
              intro h
              exact Nat.lt_irrefl _ (hU2 _ h).2
            have hlt : 0 < L.length → ∀ a, LA = some a → a.block < w.heap.size := fun h0 a e => by
              subst e; exact hsub.lt (by simpa [strs] using h0)
            have hrow : ∀ W, Fr U (wr.alloc (.cells #[.int .u8 k', .int .u64 x, .bool is, .string s, .slice LA L.length Lc, .int .i64 most, .int .i64 long, .int .i64 ee] 27)) W → RowAt W LA (strs L) := fun W f =>
              ((hsub.up hf).fr0 ((Fr.refl noB _).alloc _)).fr f (fun a e h0 _ hb => by
                have h1 := hlt (by simpa [strs] using h0) a e
                have h2 := (hU2 _ hb).1
                omega)
            have hz : (wr.alloc (.cells #[.int .u8 k', .int .u64 x, .bool is, .string s, .slice LA L.length Lc, .int .i64 most, .int .i64 long, .int .i64 ee] 27)).heap.size = wr.heap.size + 1 := by simp
            have hfa : Fr (upB w.heap.size) w (wr.alloc (.cells #[.int .u8 k', .int .u64 x, .bool is, .string s, .slice LA L.length Lc, .int .i64 most, .int .i64 long, .int .i64 ee] 27)) := hf.alloc _
            have hzr := hf.size
            go_wp2_with fail
            generalize wr.alloc (.cells #[.int .u8 k', .int .u64 x, .bool is, .string s, .slice LA L.length Lc, .int .i64 most, .int .i64 long, .int .i64 ee] 27) = wa at *
            clear hr hf hsub c0 c1 c2 c3 c4 c5 c6 c7 hpl
            generalize wr.heap.size = ib at *
            have hUa : ∀ b, U b → b < wa.heap.size := fun b hb => by have := (hU2 b hb).2; omega
            have HT : ∃ tb, Hid (tb = (if is then 1 else 0)) := ⟨_, rfl⟩
            obtain ⟨tb, HT⟩ := HT
            simp only [← HT.out] at HI HPL ⊢
            refine wp_region_calmL (R := Fr U) (C := BackR U q wa [leB 1 k', leB 2 x, leB 4 x, leB 8 x, leB 1 tb, textB s, rowB L, s.data.toList] ys) [false, true, false, false, false, false, false, true, false, false, false, false, false, false, false, true, false, false, false, false, false, false, false, true, false, false, false, false, false, false, true, false, false, false, false, false, false, true, false, false, false, false, false, false, true, false, false, false, false, false, false, false, false, false, false, true, false, false, false, false, false] [0, 0, 0, 0, 1, 1, 1, 1, 1, 1, 1, 2, 2, 2, 2, 2, 2, 2, 2, 3, 3, 3, 3, 3, 3, 3, 4, 4, 4, 4, 4, 4, 4, 5, 5, 5, 5, 5, 5, 5, 6, 6, 6, 6, 6, 6, 6, 7, 7, 7, 7, 7, 7, 7, 7, 7, 8, 7, 7, 8, 8]
              [eqv (.pointer (some ⟨q, 0, none⟩)), eqv (.int .u8 k'), eqv (.pointer (some ⟨ib, 0, none⟩)), eqv (.int .u8 k'), eqv (.bool false), eqv (.bool false), eqv (.pointer (some ⟨q, 0, none⟩)), eqv (.int .u16 ((x % 65536 : Nat) : Int)), eqv (.pointer (some ⟨ib, 1, none⟩)), eqv (.int .u64 x), eqv (.int .u16 ((x % 65536 : Nat) : Int)), eqv (.bool false), eqv (.bool false), eqv (.bool false), eqv (.pointer (some ⟨q, 0, none⟩)), eqv (.int .u32 ((x % 4294967296 : Nat) : Int)), eqv (.pointer (some ⟨ib, 1, none⟩)), eqv (.int .u64 x), eqv (.int .u32 ((x % 4294967296 : Nat) : Int)), eqv (.bool false), eqv (.bool false), eqv (.bool false), eqv (.pointer (some ⟨q, 0, none⟩)), eqv (.int .u64 x), eqv (.pointer (some ⟨ib, 1, none⟩)), eqv (.int .u64 x), eqv (.bool false), eqv (.bool false), eqv (.bool false), eqv (.pointer (some ⟨q, 0, none⟩)), eqv (.bool is), eqv (.pointer (some ⟨ib, 2, none⟩)), eqv (.bool is), eqv (.bool false), eqv (.bool false), eqv (.bool false), eqv (.pointer (some ⟨q, 0, none⟩)), eqv (.string s), eqv (.pointer (some ⟨ib, 3, none⟩)), eqv (.string s), eqv (.bool false), eqv (.bool false), eqv (.bool false), eqv (.pointer (some ⟨q, 0, none⟩)), StrsU U L, eqv (.pointer (some ⟨ib, 4, none⟩)), eqv (.slice LA L.length Lc), eqv (.bool true), eqv (.bool false), eqv (.bool false), eqv (.bool false), eqv (.pointer (some ⟨q, 0, none⟩)), eqv (.pointer (some ⟨ib, 3, none⟩)), eqv (.string s), eqv (.int .i64 s.size), BytsU U s.data.toList, eqv (.string s), eqv (.pointer (some ⟨ib, 3, none⟩)), eqv (.string s), eqv (.bool false), eqv (.bool false)]
              (by kernel_rfl) (by kernel_rfl) (fun _ _ _ h1 h2 => h1.then' h2) ((Fr.refl _ _).drew) (BackR.start hr0 HI.out) (by kernel_rfl) ?_ ?_
            · refine ⟨?_, ?_, ?_, ?_, ?_, ?_, ?_, ?_, ?_, ?_, ?_, ?_, ?_, ?_, ?_, ?_, ?_, ?_, ?_, ?_, ?_, ?_, ?_, ?_, ?_, ?_, ?_, ?_, ?_, ?_, ?_, ?_, ?_, ?_, ?_, ?_, ?_, ?_, ?_, ?_, ?_, ?_, ?_, ?_, ?_, ?_, ?_, ?_, ?_, ?_, ?_, ?_, ?_, ?_, ?_, ?_, ?_, ?_, ?_, ?_, ?_, trivial⟩
              · rw [if_neg (by decide)]; intro kq
                exact calm_mv 6 rfl rfl (Or.inl rfl) (Fr.refl _) (by decide) fun v w hd => hd
              · rw [if_pos (by decide)]
                intro a W K hC hd hK
                replace hC : (BackR U q wa [leB 1 k', leB 2 x, leB 4 x, leB 8 x, leB 1 tb, textB s, rowB L, s.data.toList] ys) 0 W := hC
                have d63 : a.tmps[63]?.getD undef = .pointer (some ⟨q, 0, none⟩) := hd 63 (by decide)
                refine wpOp_plain rfl rfl ?_
                have hfl : (List.drop 0 [leB 1 k', leB 2 x, leB 4 x, leB 8 x, leB 1 tb, textB s, rowB L, s.data.toList]).flatten ++ ys = leB 1 k' ++ ((List.drop 1 [leB 1 k', leB 2 x, leB 4 x, leB 8 x, leB 1 tb, textB s, rowB L, s.data.toList]).flatten ++ ys) := by simp only [List.drop_succ_cons, List.drop_zero, List.flatten_cons, List.append_assoc]
                have hcl := byteRd_calls W U q (⟨leB 1 k' ++ ((List.drop 1 [leB 1 k', leB 2 x, leB 4 x, leB 8 x, leB 1 tb, textB s, rowB L, s.data.toList]).flatten ++ ys), 0⟩ : Rd)
                have hC2 := hC.2
                rw [hfl] at hC2
                replace hcl := hcl hC2
                rw [rNum_app] at hcl
                clear hC2 hfl
                go_wp2_with fail
                refine hcl.mono ?_
                rintro e w' ⟨rfl, h1, f1⟩
                exact hK _ _ f1 (hC.step rfl h1 f1) (by show _ = _; (try simp only []); rw [Nat.mod_eq_of_lt (by simpa using hk256)])
              · rw [if_neg (by decide)]; intro kq
                intro a W K hC hd hK
                have d8 : a.tmps[8]?.getD undef = .pointer (some ⟨ib, 0, none⟩) := hd 8 (by decide)
                refine wpOp_plain rfl rfl ?_
                go_wp2_with fail
                exact hK _ _ (Fr.refl _ _) hC rfl
              · rw [if_neg (by decide)]; intro kq
                intro a W K hC hd hK
                have d65 : a.tmps[65]?.getD undef = .pointer (some ⟨ib, 0, none⟩) := hd 65 (by decide)
                obtain ⟨b0, b1, b2, b3, b4, b5, b6, b7⟩ := (hbox W hC.1).c8z
                refine wpOp_plain rfl rfl ?_
                go_wp2_with fail
                exact hK _ _ (Fr.refl _ _) hC rfl
              · rw [if_neg (by decide)]; intro kq
                intro a W K hC hd hK
                have d64 : a.tmps[64]?.getD undef = .int .u8 k' := hd 64 (by decide)
                have d66 : a.tmps[66]?.getD undef = .int .u8 k' := hd 66 (by decide)
                have hself : (s.toList == s.toList) = true := by simp
                refine wpOp_plain rfl rfl ?_
                go_wp2_with fail
                exact hK _ _ (Fr.refl _ _) hC (by show _ = _; simp)
              · rw [if_neg (by decide)]; intro kq
                exact calm_mv 67 rfl rfl (Or.inl rfl) (Fr.refl _) (by decide) fun v w hd => hd
              · rw [if_neg (by decide)]; intro kq
                intro a W K hC hd hK
                have d6 : a.tmps[6]?.getD undef = .pointer (some ⟨q, 0, none⟩) := hd 6 (by decide)
                have d68 : a.tmps[68]?.getD undef = .bool false := hd 68 (by decide)
                refine wpOp_want rfl (wanted_of (want := false) (b := false) rfl rfl (by rw [eval_get]; exact d68)) ?_
                go_wp2_with fail
                exact hK _ _ (Fr.refl _ _) hC rfl
              · rw [if_pos (by decide)]
                intro a W K hC hd hK
                replace hC : (BackR U q wa [leB 1 k', leB 2 x, leB 4 x, leB 8 x, leB 1 tb, textB s, rowB L, s.data.toList] ys) 1 W := hC
                have d69 : a.tmps[69]?.getD undef = .pointer (some ⟨q, 0, none⟩) := hd 69 (by decide)
                have d68 : a.tmps[68]?.getD undef = .bool false := hd 68 (by decide)
                refine wpOp_want rfl (wanted_of (want := false) (b := false) rfl rfl (by rw [eval_get]; exact d68)) ?_
                have hfl : (List.drop 1 [leB 1 k', leB 2 x, leB 4 x, leB 8 x, leB 1 tb, textB s, rowB L, s.data.toList]).flatten ++ ys = leB 2 x ++ ((List.drop 2 [leB 1 k', leB 2 x, leB 4 x, leB 8 x, leB 1 tb, textB s, rowB L, s.data.toList]).flatten ++ ys) := by simp only [List.drop_succ_cons, List.drop_zero, List.flatten_cons, List.append_assoc]
                have hcl := twoRd_calls W U q (⟨leB 2 x ++ ((List.drop 2 [leB 1 k', leB 2 x, leB 4 x, leB 8 x, leB 1 tb, textB s, rowB L, s.data.toList]).flatten ++ ys), 0⟩ : Rd)
                have hC2 := hC.2
                rw [hfl] at hC2
                replace hcl := hcl hC2
                rw [rNum_app] at hcl
                clear hC2 hfl
                go_wp2_with fail
                refine hcl.mono ?_
                rintro e w' ⟨rfl, h1, f1⟩
                exact hK _ _ f1 (hC.step rfl h1 f1) rfl
              · rw [if_neg (by decide)]; intro kq
                intro a W K hC hd hK
                have d8 : a.tmps[8]?.getD undef = .pointer (some ⟨ib, 0, none⟩) := hd 8 (by decide)
                have d68 : a.tmps[68]?.getD undef = .bool false := hd 68 (by decide)
                refine wpOp_want rfl (wanted_of (want := false) (b := false) rfl rfl (by rw [eval_get]; exact d68)) ?_
                go_wp2_with fail
                exact hK _ _ (Fr.refl _ _) hC rfl
              · rw [if_neg (by decide)]; intro kq
                intro a W K hC hd hK
                have d71 : a.tmps[71]?.getD undef = .pointer (some ⟨ib, 1, none⟩) := hd 71 (by decide)
                have d68 : a.tmps[68]?.getD undef = .bool false := hd 68 (by decide)
                obtain ⟨b0, b1, b2, b3, b4, b5, b6, b7⟩ := (hbox W hC.1).c8z
                refine wpOp_want rfl (wanted_of (want := false) (b := false) rfl rfl (by rw [eval_get]; exact d68)) ?_
                go_wp2_with fail
                exact hK _ _ (Fr.refl _ _) hC rfl
              · rw [if_neg (by decide)]; intro kq
                intro a W K hC hd hK
                have d72 : a.tmps[72]?.getD undef = .int .u64 x := hd 72 (by decide)
                have d68 : a.tmps[68]?.getD undef = .bool false := hd 68 (by decide)
                refine wpOp_want rfl (wanted_of (want := false) (b := false) rfl rfl (by rw [eval_get]; exact d68)) ?_
                go_wp2_with fail
                exact hK _ _ (Fr.refl _ _) hC (by show _ = _; rw [u16_wrap])
              · rw [if_neg (by decide)]; intro kq
                intro a W K hC hd hK
                have d70 : a.tmps[70]?.getD undef = .int .u16 ((x % 65536 : Nat) : Int) := hd 70 (by decide)
                have d73 : a.tmps[73]?.getD undef = .int .u16 ((x % 65536 : Nat) : Int) := hd 73 (by decide)
                have d68 : a.tmps[68]?.getD undef = .bool false := hd 68 (by decide)
                have hself : (s.toList == s.toList) = true := by simp
                refine wpOp_want rfl (wanted_of (want := false) (b := false) rfl rfl (by rw [eval_get]; exact d68)) ?_
                go_wp2_with fail
                exact hK _ _ (Fr.refl _ _) hC (by show _ = _; simp)
              · rw [if_neg (by decide)]; intro kq
                intro a W K hC hd hK
                have d68 : a.tmps[68]?.getD undef = .bool false := hd 68 (by decide)
                have d74 : a.tmps[74]?.getD undef = .bool false := hd 74 (by decide)
                refine wpOp_plain rfl rfl ?_
                go_wp2_with fail
                exact hK _ _ (Fr.refl _ _) hC rfl
              · rw [if_neg (by decide)]; intro kq
                exact calm_mv 75 rfl rfl (Or.inl rfl) (Fr.refl _) (by decide) fun v w hd => hd
              · rw [if_neg (by decide)]; intro kq
                intro a W K hC hd hK
                have d6 : a.tmps[6]?.getD undef = .pointer (some ⟨q, 0, none⟩) := hd 6 (by decide)
                have d76 : a.tmps[76]?.getD undef = .bool false := hd 76 (by decide)
                refine wpOp_want rfl (wanted_of (want := false) (b := false) rfl rfl (by rw [eval_get]; exact d76)) ?_
                go_wp2_with fail
                exact hK _ _ (Fr.refl _ _) hC rfl
              · rw [if_pos (by decide)]
                intro a W K hC hd hK
                replace hC : (BackR U q wa [leB 1 k', leB 2 x, leB 4 x, leB 8 x, leB 1 tb, textB s, rowB L, s.data.toList] ys) 2 W := hC
                have d77 : a.tmps[77]?.getD undef = .pointer (some ⟨q, 0, none⟩) := hd 77 (by decide)
                have d76 : a.tmps[76]?.getD undef = .bool false := hd 76 (by decide)
                refine wpOp_want rfl (wanted_of (want := false) (b := false) rfl rfl (by rw [eval_get]; exact d76)) ?_
                have hfl : (List.drop 2 [leB 1 k', leB 2 x, leB 4 x, leB 8 x, leB 1 tb, textB s, rowB L, s.data.toList]).flatten ++ ys = leB 4 x ++ ((List.drop 3 [leB 1 k', leB 2 x, leB 4 x, leB 8 x, leB 1 tb, textB s, rowB L, s.data.toList]).flatten ++ ys) := by simp only [List.drop_succ_cons, List.drop_zero, List.flatten_cons, List.append_assoc]
                have hcl := fourRd_calls W U q (⟨leB 4 x ++ ((List.drop 3 [leB 1 k', leB 2 x, leB 4 x, leB 8 x, leB 1 tb, textB s, rowB L, s.data.toList]).flatten ++ ys), 0⟩ : Rd)
                have hC2 := hC.2
                rw [hfl] at hC2
                replace hcl := hcl hC2
                rw [rNum_app] at hcl
                clear hC2 hfl
                go_wp2_with fail
                refine hcl.mono ?_
                rintro e w' ⟨rfl, h1, f1⟩
                exact hK _ _ f1 (hC.step rfl h1 f1) rfl
              · rw [if_neg (by decide)]; intro kq
                intro a W K hC hd hK
                have d8 : a.tmps[8]?.getD undef = .pointer (some ⟨ib, 0, none⟩) := hd 8 (by decide)
                have d76 : a.tmps[76]?.getD undef = .bool false := hd 76 (by decide)
                refine wpOp_want rfl (wanted_of (want := false) (b := false) rfl rfl (by rw [eval_get]; exact d76)) ?_
                go_wp2_with fail
                exact hK _ _ (Fr.refl _ _) hC rfl
              · rw [if_neg (by decide)]; intro kq
                intro a W K hC hd hK
                have d79 : a.tmps[79]?.getD undef = .pointer (some ⟨ib, 1, none⟩) := hd 79 (by decide)
                have d76 : a.tmps[76]?.getD undef = .bool false := hd 76 (by decide)
                obtain ⟨b0, b1, b2, b3, b4, b5, b6, b7⟩ := (hbox W hC.1).c8z
                refine wpOp_want rfl (wanted_of (want := false) (b := false) rfl rfl (by rw [eval_get]; exact d76)) ?_
                go_wp2_with fail
                exact hK _ _ (Fr.refl _ _) hC rfl
              · rw [if_neg (by decide)]; intro kq
                intro a W K hC hd hK
                have d80 : a.tmps[80]?.getD undef = .int .u64 x := hd 80 (by decide)
                have d76 : a.tmps[76]?.getD undef = .bool false := hd 76 (by decide)
                refine wpOp_want rfl (wanted_of (want := false) (b := false) rfl rfl (by rw [eval_get]; exact d76)) ?_
                go_wp2_with fail
                exact hK _ _ (Fr.refl _ _) hC (by show _ = _; simp)
              · rw [if_neg (by decide)]; intro kq
                intro a W K hC hd hK
                have d78 : a.tmps[78]?.getD undef = .int .u32 ((x % 4294967296 : Nat) : Int) := hd 78 (by decide)
                have d81 : a.tmps[81]?.getD undef = .int .u32 ((x % 4294967296 : Nat) : Int) := hd 81 (by decide)
                have d76 : a.tmps[76]?.getD undef = .bool false := hd 76 (by decide)
                have hself : (s.toList == s.toList) = true := by simp
                refine wpOp_want rfl (wanted_of (want := false) (b := false) rfl rfl (by rw [eval_get]; exact d76)) ?_
                go_wp2_with fail
                exact hK _ _ (Fr.refl _ _) hC (by show _ = _; simp)
              · rw [if_neg (by decide)]; intro kq
                intro a W K hC hd hK
                have d76 : a.tmps[76]?.getD undef = .bool false := hd 76 (by decide)
                have d82 : a.tmps[82]?.getD undef = .bool false := hd 82 (by decide)
                refine wpOp_plain rfl rfl ?_
                go_wp2_with fail
                exact hK _ _ (Fr.refl _ _) hC rfl
              · rw [if_neg (by decide)]; intro kq
                exact calm_mv 83 rfl rfl (Or.inl rfl) (Fr.refl _) (by decide) fun v w hd => hd
              · rw [if_neg (by decide)]; intro kq
                intro a W K hC hd hK
                have d6 : a.tmps[6]?.getD undef = .pointer (some ⟨q, 0, none⟩) := hd 6 (by decide)
                have d84 : a.tmps[84]?.getD undef = .bool false := hd 84 (by decide)
                refine wpOp_want rfl (wanted_of (want := false) (b := false) rfl rfl (by rw [eval_get]; exact d84)) ?_
                go_wp2_with fail
                exact hK _ _ (Fr.refl _ _) hC rfl
              · rw [if_pos (by decide)]
                intro a W K hC hd hK
                replace hC : (BackR U q wa [leB 1 k', leB 2 x, leB 4 x, leB 8 x, leB 1 tb, textB s, rowB L, s.data.toList] ys) 3 W := hC
                have d85 : a.tmps[85]?.getD undef = .pointer (some ⟨q, 0, none⟩) := hd 85 (by decide)
                have d84 : a.tmps[84]?.getD undef = .bool false := hd 84 (by decide)
                refine wpOp_want rfl (wanted_of (want := false) (b := false) rfl rfl (by rw [eval_get]; exact d84)) ?_
                have hfl : (List.drop 3 [leB 1 k', leB 2 x, leB 4 x, leB 8 x, leB 1 tb, textB s, rowB L, s.data.toList]).flatten ++ ys = leB 8 x ++ ((List.drop 4 [leB 1 k', leB 2 x, leB 4 x, leB 8 x, leB 1 tb, textB s, rowB L, s.data.toList]).flatten ++ ys) := by simp only [List.drop_succ_cons, List.drop_zero, List.flatten_cons, List.append_assoc]
                have hcl := eightRd_calls W U q (⟨leB 8 x ++ ((List.drop 4 [leB 1 k', leB 2 x, leB 4 x, leB 8 x, leB 1 tb, textB s, rowB L, s.data.toList]).flatten ++ ys), 0⟩ : Rd)
                have hC2 := hC.2
                rw [hfl] at hC2
                replace hcl := hcl hC2
                rw [rNum_app] at hcl
                clear hC2 hfl
                go_wp2_with fail
                refine hcl.mono ?_
                rintro e w' ⟨rfl, h1, f1⟩
                exact hK _ _ f1 (hC.step rfl h1 f1) (by show _ = _; (try simp only []); rw [Nat.mod_eq_of_lt (by show x < 18446744073709551616; omega)])
              · rw [if_neg (by decide)]; intro kq
                intro a W K hC hd hK
                have d8 : a.tmps[8]?.getD undef = .pointer (some ⟨ib, 0, none⟩) := hd 8 (by decide)
                have d84 : a.tmps[84]?.getD undef = .bool false := hd 84 (by decide)
                refine wpOp_want rfl (wanted_of (want := false) (b := false) rfl rfl (by rw [eval_get]; exact d84)) ?_
                go_wp2_with fail
                exact hK _ _ (Fr.refl _ _) hC rfl
              · rw [if_neg (by decide)]; intro kq
                intro a W K hC hd hK
                have d87 : a.tmps[87]?.getD undef = .pointer (some ⟨ib, 1, none⟩) := hd 87 (by decide)
                have d84 : a.tmps[84]?.getD undef = .bool false := hd 84 (by decide)
                obtain ⟨b0, b1, b2, b3, b4, b5, b6, b7⟩ := (hbox W hC.1).c8z
                refine wpOp_want rfl (wanted_of (want := false) (b := false) rfl rfl (by rw [eval_get]; exact d84)) ?_
                go_wp2_with fail
                exact hK _ _ (Fr.refl _ _) hC rfl
              · rw [if_neg (by decide)]; intro kq
                intro a W K hC hd hK
                have d86 : a.tmps[86]?.getD undef = .int .u64 x := hd 86 (by decide)
                have d88 : a.tmps[88]?.getD undef = .int .u64 x := hd 88 (by decide)
                have d84 : a.tmps[84]?.getD undef = .bool false := hd 84 (by decide)
                have hself : (s.toList == s.toList) = true := by simp
                refine wpOp_want rfl (wanted_of (want := false) (b := false) rfl rfl (by rw [eval_get]; exact d84)) ?_
                go_wp2_with fail
                exact hK _ _ (Fr.refl _ _) hC (by show _ = _; simp)
              · rw [if_neg (by decide)]; intro kq
                intro a W K hC hd hK
                have d84 : a.tmps[84]?.getD undef = .bool false := hd 84 (by decide)
                have d89 : a.tmps[89]?.getD undef = .bool false := hd 89 (by decide)
                refine wpOp_plain rfl rfl ?_
                go_wp2_with fail
                exact hK _ _ (Fr.refl _ _) hC rfl
              · rw [if_neg (by decide)]; intro kq
                exact calm_mv 90 rfl rfl (Or.inl rfl) (Fr.refl _) (by decide) fun v w hd => hd
              · rw [if_neg (by decide)]; intro kq
                intro a W K hC hd hK
                have d6 : a.tmps[6]?.getD undef = .pointer (some ⟨q, 0, none⟩) := hd 6 (by decide)
                have d91 : a.tmps[91]?.getD undef = .bool false := hd 91 (by decide)
                refine wpOp_want rfl (wanted_of (want := false) (b := false) rfl rfl (by rw [eval_get]; exact d91)) ?_
                go_wp2_with fail
                exact hK _ _ (Fr.refl _ _) hC rfl
              · rw [if_pos (by decide)]
                intro a W K hC hd hK
                replace hC : (BackR U q wa [leB 1 k', leB 2 x, leB 4 x, leB 8 x, leB 1 tb, textB s, rowB L, s.data.toList] ys) 4 W := hC
                have d92 : a.tmps[92]?.getD undef = .pointer (some ⟨q, 0, none⟩) := hd 92 (by decide)
                have d91 : a.tmps[91]?.getD undef = .bool false := hd 91 (by decide)
                refine wpOp_want rfl (wanted_of (want := false) (b := false) rfl rfl (by rw [eval_get]; exact d91)) ?_
                have hfl : (List.drop 4 [leB 1 k', leB 2 x, leB 4 x, leB 8 x, leB 1 tb, textB s, rowB L, s.data.toList]).flatten ++ ys = leB 1 tb ++ ((List.drop 5 [leB 1 k', leB 2 x, leB 4 x, leB 8 x, leB 1 tb, textB s, rowB L, s.data.toList]).flatten ++ ys) := by simp only [List.drop_succ_cons, List.drop_zero, List.flatten_cons, List.append_assoc]
                have hcl := truthRd_calls W U q (⟨leB 1 tb ++ ((List.drop 5 [leB 1 k', leB 2 x, leB 4 x, leB 8 x, leB 1 tb, textB s, rowB L, s.data.toList]).flatten ++ ys), 0⟩ : Rd)
                have hC2 := hC.2
                rw [hfl] at hC2
                replace hcl := hcl hC2
                rw [rTruth_app is _ tb HT.out] at hcl
                clear hC2 hfl
                go_wp2_with fail
                refine hcl.mono ?_
                rintro e w' ⟨rfl, h1, f1⟩
                exact hK _ _ f1 (hC.step rfl h1 f1) rfl
              · rw [if_neg (by decide)]; intro kq
                intro a W K hC hd hK
                have d8 : a.tmps[8]?.getD undef = .pointer (some ⟨ib, 0, none⟩) := hd 8 (by decide)
                have d91 : a.tmps[91]?.getD undef = .bool false := hd 91 (by decide)
                refine wpOp_want rfl (wanted_of (want := false) (b := false) rfl rfl (by rw [eval_get]; exact d91)) ?_
                go_wp2_with fail
                exact hK _ _ (Fr.refl _ _) hC rfl
              · rw [if_neg (by decide)]; intro kq
                intro a W K hC hd hK
                have d94 : a.tmps[94]?.getD undef = .pointer (some ⟨ib, 2, none⟩) := hd 94 (by decide)
                have d91 : a.tmps[91]?.getD undef = .bool false := hd 91 (by decide)
                obtain ⟨b0, b1, b2, b3, b4, b5, b6, b7⟩ := (hbox W hC.1).c8z
                refine wpOp_want rfl (wanted_of (want := false) (b := false) rfl rfl (by rw [eval_get]; exact d91)) ?_
                go_wp2_with fail
                exact hK _ _ (Fr.refl _ _) hC rfl
              · rw [if_neg (by decide)]; intro kq
                intro a W K hC hd hK
                have d93 : a.tmps[93]?.getD undef = .bool is := hd 93 (by decide)
                have d95 : a.tmps[95]?.getD undef = .bool is := hd 95 (by decide)
                have d91 : a.tmps[91]?.getD undef = .bool false := hd 91 (by decide)
                have hself : (s.toList == s.toList) = true := by simp
                refine wpOp_want rfl (wanted_of (want := false) (b := false) rfl rfl (by rw [eval_get]; exact d91)) ?_
                go_wp2_with fail
                exact hK _ _ (Fr.refl _ _) hC (by show _ = _; simp)
              · rw [if_neg (by decide)]; intro kq
                intro a W K hC hd hK
                have d91 : a.tmps[91]?.getD undef = .bool false := hd 91 (by decide)
                have d96 : a.tmps[96]?.getD undef = .bool false := hd 96 (by decide)
                refine wpOp_plain rfl rfl ?_
                go_wp2_with fail
                exact hK _ _ (Fr.refl _ _) hC rfl
              · rw [if_neg (by decide)]; intro kq
                exact calm_mv 97 rfl rfl (Or.inl rfl) (Fr.refl _) (by decide) fun v w hd => hd
              · rw [if_neg (by decide)]; intro kq
                intro a W K hC hd hK
                have d6 : a.tmps[6]?.getD undef = .pointer (some ⟨q, 0, none⟩) := hd 6 (by decide)
                have d98 : a.tmps[98]?.getD undef = .bool false := hd 98 (by decide)
                refine wpOp_want rfl (wanted_of (want := false) (b := false) rfl rfl (by rw [eval_get]; exact d98)) ?_
                go_wp2_with fail
                exact hK _ _ (Fr.refl _ _) hC rfl
              · rw [if_pos (by decide)]
                intro a W K hC hd hK
                replace hC : (BackR U q wa [leB 1 k', leB 2 x, leB 4 x, leB 8 x, leB 1 tb, textB s, rowB L, s.data.toList] ys) 5 W := hC
                have d99 : a.tmps[99]?.getD undef = .pointer (some ⟨q, 0, none⟩) := hd 99 (by decide)
                have d98 : a.tmps[98]?.getD undef = .bool false := hd 98 (by decide)
                refine wpOp_want rfl (wanted_of (want := false) (b := false) rfl rfl (by rw [eval_get]; exact d98)) ?_
                have hfl : (List.drop 5 [leB 1 k', leB 2 x, leB 4 x, leB 8 x, leB 1 tb, textB s, rowB L, s.data.toList]).flatten ++ ys = textB s ++ ((List.drop 6 [leB 1 k', leB 2 x, leB 4 x, leB 8 x, leB 1 tb, textB s, rowB L, s.data.toList]).flatten ++ ys) := by simp only [List.drop_succ_cons, List.drop_zero, List.flatten_cons, List.append_assoc]
                have hcl := (fun h => textRd_calls W U q (⟨textB s ++ ((List.drop 6 [leB 1 k', leB 2 x, leB 4 x, leB 8 x, leB 1 tb, textB s, rowB L, s.data.toList]).flatten ++ ys), 0⟩ : Rd) 100 h (by omega) (by omega))
                have hC2 := hC.2
                rw [hfl] at hC2
                replace hcl := hcl hC2
                rw [rText_app s _ 100 (by omega) (by omega)] at hcl
                clear hC2 hfl
                go_wp2_with fail
                refine hcl.mono ?_
                rintro e w' ⟨rfl, h1, f1⟩
                exact hK _ _ f1 (hC.step rfl h1 f1) (by show _ = _; (try simp only []); rw [mkS_of])
              · rw [if_neg (by decide)]; intro kq
                intro a W K hC hd hK
                have d8 : a.tmps[8]?.getD undef = .pointer (some ⟨ib, 0, none⟩) := hd 8 (by decide)
                have d98 : a.tmps[98]?.getD undef = .bool false := hd 98 (by decide)
                refine wpOp_want rfl (wanted_of (want := false) (b := false) rfl rfl (by rw [eval_get]; exact d98)) ?_
                go_wp2_with fail
                exact hK _ _ (Fr.refl _ _) hC rfl
              · rw [if_neg (by decide)]; intro kq
                intro a W K hC hd hK
                have d101 : a.tmps[101]?.getD undef = .pointer (some ⟨ib, 3, none⟩) := hd 101 (by decide)
                have d98 : a.tmps[98]?.getD undef = .bool false := hd 98 (by decide)
                obtain ⟨b0, b1, b2, b3, b4, b5, b6, b7⟩ := (hbox W hC.1).c8z
                refine wpOp_want rfl (wanted_of (want := false) (b := false) rfl rfl (by rw [eval_get]; exact d98)) ?_
                go_wp2_with fail
                exact hK _ _ (Fr.refl _ _) hC rfl
              · rw [if_neg (by decide)]; intro kq
                intro a W K hC hd hK
                have d100 : a.tmps[100]?.getD undef = .string s := hd 100 (by decide)
                have d102 : a.tmps[102]?.getD undef = .string s := hd 102 (by decide)
                have d98 : a.tmps[98]?.getD undef = .bool false := hd 98 (by decide)
                have hself : (s.toList == s.toList) = true := by simp
                refine wpOp_want rfl (wanted_of (want := false) (b := false) rfl rfl (by rw [eval_get]; exact d98)) ?_
                go_wp2_with fail
                exact hK _ _ (Fr.refl _ _) hC (by show _ = _; simp)
              · rw [if_neg (by decide)]; intro kq
                intro a W K hC hd hK
                have d98 : a.tmps[98]?.getD undef = .bool false := hd 98 (by decide)
                have d103 : a.tmps[103]?.getD undef = .bool false := hd 103 (by decide)
                refine wpOp_plain rfl rfl ?_
                go_wp2_with fail
                exact hK _ _ (Fr.refl _ _) hC rfl
              · rw [if_neg (by decide)]; intro kq
                exact calm_mv 104 rfl rfl (Or.inl rfl) (Fr.refl _) (by decide) fun v w hd => hd
              · rw [if_neg (by decide)]; intro kq
                intro a W K hC hd hK
                have d6 : a.tmps[6]?.getD undef = .pointer (some ⟨q, 0, none⟩) := hd 6 (by decide)
                have d105 : a.tmps[105]?.getD undef = .bool false := hd 105 (by decide)
                refine wpOp_want rfl (wanted_of (want := false) (b := false) rfl rfl (by rw [eval_get]; exact d105)) ?_
                go_wp2_with fail
                exact hK _ _ (Fr.refl _ _) hC rfl
              · rw [if_pos (by decide)]
                intro a W K hC hd hK
                replace hC : (BackR U q wa [leB 1 k', leB 2 x, leB 4 x, leB 8 x, leB 1 tb, textB s, rowB L, s.data.toList] ys) 6 W := hC
                have d106 : a.tmps[106]?.getD undef = .pointer (some ⟨q, 0, none⟩) := hd 106 (by decide)
                have d105 : a.tmps[105]?.getD undef = .bool false := hd 105 (by decide)
                refine wpOp_want rfl (wanted_of (want := false) (b := false) rfl rfl (by rw [eval_get]; exact d105)) ?_
                have hfl : (List.drop 6 [leB 1 k', leB 2 x, leB 4 x, leB 8 x, leB 1 tb, textB s, rowB L, s.data.toList]).flatten ++ ys = rowB L ++ ((List.drop 7 [leB 1 k', leB 2 x, leB 4 x, leB 8 x, leB 1 tb, textB s, rowB L, s.data.toList]).flatten ++ ys) := by simp only [List.drop_succ_cons, List.drop_zero, List.flatten_cons, List.append_assoc]
                have hcl := (fun h => rowRd_calls W U q (⟨rowB L ++ ((List.drop 7 [leB 1 k', leB 2 x, leB 4 x, leB 8 x, leB 1 tb, textB s, rowB L, s.data.toList]).flatten ++ ys), 0⟩ : Rd) 10 50 h (fun b hb => by have := hUa b hb; have := hC.1.size; omega) (by omega) (by omega) (by omega) (by omega))
                have hC2 := hC.2
                rw [hfl] at hC2
                replace hcl := hcl hC2
                rw [rRow_app L _ 10 50 (by omega) (by omega) (fun t ht => by have := hL50 t ht; omega)] at hcl
                clear hC2 hfl
                go_wp2_with fail
                refine hcl.mono ?_
                rintro e w' ⟨A4, n4, c4, rfl, hn4, hr4, h1, f1⟩
                exact hK _ _ f1 (hC.step rfl h1 f1) ⟨A4, n4, c4, rfl, hn4, own_row hr4, fun ad e hu => by have := (hr4.lt _ (by rw [e]; rfl)).1; have := hC.1.size; have := hUa _ hu; omega⟩
              · rw [if_neg (by decide)]; intro kq
                intro a W K hC hd hK
                have d8 : a.tmps[8]?.getD undef = .pointer (some ⟨ib, 0, none⟩) := hd 8 (by decide)
                have d105 : a.tmps[105]?.getD undef = .bool false := hd 105 (by decide)
                refine wpOp_want rfl (wanted_of (want := false) (b := false) rfl rfl (by rw [eval_get]; exact d105)) ?_
                go_wp2_with fail
                exact hK _ _ (Fr.refl _ _) hC rfl
              · rw [if_neg (by decide)]; intro kq
                intro a W K hC hd hK
                have d108 : a.tmps[108]?.getD undef = .pointer (some ⟨ib, 4, none⟩) := hd 108 (by decide)
                have d105 : a.tmps[105]?.getD undef = .bool false := hd 105 (by decide)
                obtain ⟨b0, b1, b2, b3, b4, b5, b6, b7⟩ := (hbox W hC.1).c8z
                refine wpOp_want rfl (wanted_of (want := false) (b := false) rfl rfl (by rw [eval_get]; exact d105)) ?_
                go_wp2_with fail
                exact hK _ _ (Fr.refl _ _) hC rfl
              · rw [if_neg (by decide)]; intro kq
                intro a W K hC hd hK
                have d107 : (StrsU U L).V (a.tmps[107]?.getD undef) W := hd 107 (by decide)
                have d109 : a.tmps[109]?.getD undef = .slice LA L.length Lc := hd 109 (by decide)
                have d105 : a.tmps[105]?.getD undef = .bool false := hd 105 (by decide)
                refine wpOp_want rfl (wanted_of (want := false) (b := false) rfl rfl (by rw [eval_get]; exact d105)) ?_
                obtain ⟨A4, n4, c4, e4, hn4, hr4, _⟩ := d107
                have hr2 : RowAt W LA (strs L) := hrow W hC.1
                have hn63 : n4 ≤ 9223372036854775807 := by have := hn4.out; omega
                go_wp2_with fail
                refine (same_calls W A4 LA c4 Lc n4 L.length L L hr4 hr2 hn4 rfl hn63).mono ?_
                rintro e w' ⟨rfl, f1⟩
                exact hK _ _ (f1.mono fun _ _ h => h.elim) (hC.quiet f1) (by show _ = _; simp)
              · rw [if_neg (by decide)]; intro kq
                intro a W K hC hd hK
                have d110 : a.tmps[110]?.getD undef = .bool true := hd 110 (by decide)
                have d105 : a.tmps[105]?.getD undef = .bool false := hd 105 (by decide)
                refine wpOp_want rfl (wanted_of (want := false) (b := false) rfl rfl (by rw [eval_get]; exact d105)) ?_
                go_wp2_with fail
                exact hK _ _ (Fr.refl _ _) hC rfl
              · rw [if_neg (by decide)]; intro kq
                intro a W K hC hd hK
                have d105 : a.tmps[105]?.getD undef = .bool false := hd 105 (by decide)
                have d111 : a.tmps[111]?.getD undef = .bool false := hd 111 (by decide)
                refine wpOp_plain rfl rfl ?_
                go_wp2_with fail
                exact hK _ _ (Fr.refl _ _) hC rfl
              · rw [if_neg (by decide)]; intro kq
                exact calm_mv 112 rfl rfl (Or.inl rfl) (Fr.refl _) (by decide) fun v w hd => hd
              · rw [if_neg (by decide)]; intro kq
                intro a W K hC hd hK
                have d6 : a.tmps[6]?.getD undef = .pointer (some ⟨q, 0, none⟩) := hd 6 (by decide)
                have d113 : a.tmps[113]?.getD undef = .bool false := hd 113 (by decide)
                refine wpOp_want rfl (wanted_of (want := false) (b := false) rfl rfl (by rw [eval_get]; exact d113)) ?_
                go_wp2_with fail
                exact hK _ _ (Fr.refl _ _) hC rfl
              · rw [if_neg (by decide)]; intro kq
                intro a W K hC hd hK
                have d8 : a.tmps[8]?.getD undef = .pointer (some ⟨ib, 0, none⟩) := hd 8 (by decide)
                have d113 : a.tmps[113]?.getD undef = .bool false := hd 113 (by decide)
                refine wpOp_want rfl (wanted_of (want := false) (b := false) rfl rfl (by rw [eval_get]; exact d113)) ?_
                go_wp2_with fail
                exact hK _ _ (Fr.refl _ _) hC rfl
              · rw [if_neg (by decide)]; intro kq
                intro a W K hC hd hK
                have d115 : a.tmps[115]?.getD undef = .pointer (some ⟨ib, 3, none⟩) := hd 115 (by decide)
                have d113 : a.tmps[113]?.getD undef = .bool false := hd 113 (by decide)
                obtain ⟨b0, b1, b2, b3, b4, b5, b6, b7⟩ := (hbox W hC.1).c8z
                refine wpOp_want rfl (wanted_of (want := false) (b := false) rfl rfl (by rw [eval_get]; exact d113)) ?_
                go_wp2_with fail
                exact hK _ _ (Fr.refl _ _) hC rfl
              · rw [if_neg (by decide)]; intro kq
                intro a W K hC hd hK
                have d116 : a.tmps[116]?.getD undef = .string s := hd 116 (by decide)
                have d113 : a.tmps[113]?.getD undef = .bool false := hd 113 (by decide)
                refine wpOp_want rfl (wanted_of (want := false) (b := false) rfl rfl (by rw [eval_get]; exact d113)) ?_
                go_wp2_with fail
                exact hK _ _ (Fr.refl _ _) hC rfl
              · rw [if_pos (by decide)]
                intro a W K hC hd hK
                replace hC : (BackR U q wa [leB 1 k', leB 2 x, leB 4 x, leB 8 x, leB 1 tb, textB s, rowB L, s.data.toList] ys) 7 W := hC
                have d114 : a.tmps[114]?.getD undef = .pointer (some ⟨q, 0, none⟩) := hd 114 (by decide)
                have d117 : a.tmps[117]?.getD undef = .int .i64 s.size := hd 117 (by decide)
                have d113 : a.tmps[113]?.getD undef = .bool false := hd 113 (by decide)
                refine wpOp_want rfl (wanted_of (want := false) (b := false) rfl rfl (by rw [eval_get]; exact d113)) ?_
                have hfl : (List.drop 7 [leB 1 k', leB 2 x, leB 4 x, leB 8 x, leB 1 tb, textB s, rowB L, s.data.toList]).flatten ++ ys = s.data.toList ++ ((List.drop 8 [leB 1 k', leB 2 x, leB 4 x, leB 8 x, leB 1 tb, textB s, rowB L, s.data.toList]).flatten ++ ys) := by simp only [List.drop_succ_cons, List.drop_zero, List.flatten_cons, List.append_assoc]
                have hcl := (fun h => rawRd_calls W U q (⟨s.data.toList ++ ((List.drop 8 [leB 1 k', leB 2 x, leB 4 x, leB 8 x, leB 1 tb, textB s, rowB L, s.data.toList]).flatten ++ ys), 0⟩ : Rd) (s.size : Int) h (by have h5 := HPL.out 7; rw [hfl] at h5; exact Nat.le_trans h5 (by omega)) (by omega) (by omega))
                have hC2 := hC.2
                rw [hfl] at hC2
                replace hcl := hcl hC2
                rw [rRaw_app s _] at hcl
                clear hC2 hfl
                go_wp2_with fail
                refine hcl.mono ?_
                rintro e w' ⟨A4, n4, c4, rfl, hn4, hr4, h1, f1⟩
                exact hK _ _ f1 (hC.step rfl h1 f1) ⟨A4, n4, c4, rfl, hn4.out, own_row hr4, fun ad e hu => by have := (hr4.lt _ (by rw [e]; rfl)).1; have := hC.1.size; have := hUa _ hu; omega⟩
              · rw [if_neg (by decide)]; intro kq
                intro a W K hC hd hK
                have d118 : (BytsU U s.data.toList).V (a.tmps[118]?.getD undef) W := hd 118 (by decide)
                have d113 : a.tmps[113]?.getD undef = .bool false := hd 113 (by decide)
                refine wpOp_want rfl (wanted_of (want := false) (b := false) rfl rfl (by rw [eval_get]; exact d113)) ?_
                obtain ⟨A4, n4, c4, e4, hn4, hr4, _⟩ := d118
                have hcv := Try.toStr hr4 hn4 c4
                rw [mkS_of] at hcv
                go_wp2_with fail
                exact hK _ _ (Fr.refl _ _) hC rfl
              · rw [if_neg (by decide)]; intro kq
                intro a W K hC hd hK
                have d8 : a.tmps[8]?.getD undef = .pointer (some ⟨ib, 0, none⟩) := hd 8 (by decide)
                have d113 : a.tmps[113]?.getD undef = .bool false := hd 113 (by decide)
                refine wpOp_want rfl (wanted_of (want := false) (b := false) rfl rfl (by rw [eval_get]; exact d113)) ?_
                go_wp2_with fail
                exact hK _ _ (Fr.refl _ _) hC rfl
              · rw [if_neg (by decide)]; intro kq
                intro a W K hC hd hK
                have d120 : a.tmps[120]?.getD undef = .pointer (some ⟨ib, 3, none⟩) := hd 120 (by decide)
                have d113 : a.tmps[113]?.getD undef = .bool false := hd 113 (by decide)
                obtain ⟨b0, b1, b2, b3, b4, b5, b6, b7⟩ := (hbox W hC.1).c8z
                refine wpOp_want rfl (wanted_of (want := false) (b := false) rfl rfl (by rw [eval_get]; exact d113)) ?_
                go_wp2_with fail
                exact hK _ _ (Fr.refl _ _) hC rfl
              · rw [if_neg (by decide)]; intro kq
                intro a W K hC hd hK
                have d119 : a.tmps[119]?.getD undef = .string s := hd 119 (by decide)
                have d121 : a.tmps[121]?.getD undef = .string s := hd 121 (by decide)
                have d113 : a.tmps[113]?.getD undef = .bool false := hd 113 (by decide)
                have hself : (s.toList == s.toList) = true := by simp
                refine wpOp_want rfl (wanted_of (want := false) (b := false) rfl rfl (by rw [eval_get]; exact d113)) ?_
                go_wp2_with fail
                exact hK _ _ (Fr.refl _ _) hC (by show _ = _; simp)
              · rw [if_neg (by decide)]; intro kq
                intro a W K hC hd hK
                have d113 : a.tmps[113]?.getD undef = .bool false := hd 113 (by decide)
                have d122 : a.tmps[122]?.getD undef = .bool false := hd 122 (by decide)
                refine wpOp_plain rfl rfl ?_
                go_wp2_with fail
                exact hK _ _ (Fr.refl _ _) hC rfl
            · intro vs w9 fw9 cw9 hV
              have v123 : vs 60 = .bool false := hV 60 _ _ rfl rfl (by decide)
              clear hV
              simp only [putL, Act.put, List.setIfInBounds_toArray, List.set_cons_zero, List.set_cons_succ, v123]
              have e9 : RdAt w9 U q ⟨ys, 0⟩ := cw9.2
              have f9 : Fr (upB w.heap.size) w w9 := hfa.then' (fw9.mono fun k _ hk => (hU2 k hk).1)
              have s9 : w6.heap.size ≤ w9.heap.size := by have := fw9.size; omega
              clear cw9 fw9 hbox hrow hUa hU2 hfa HPL HI
              go_wp2_with fail
              go_roundw
              case rel => exact ⟨j + 1, by omega, by go_num, by rw [← HY.out]; exact e9, f9, s9⟩
              case measure => simp [intOf]; omega
          · have : j = k := by omega
            subst this
            rw [List.drop_eq_nil_of_le (by rw [HN.out]; exact Nat.le_refl _)] at hr
            have hend := endRd_calls wr U q _ hr
            have he0 : rEnd ⟨allB [], 0⟩ = 0 := rfl
            rw [he0] at hend
            go_wp2_with fail
            refine hend.mono ?_
            rintro e w9 ⟨rfl, rfl⟩
            go_wp2_with fail
            go_ret
            exact ⟨rfl, hf.none⟩
theorem back_law (w : World) (A : Option Addr) (n c : Nat) (l : List Item) (o : ItemsAt w A l ∧ l.length = n ∧ n ≤ c ∧ c ≤ maxLen ∧ (∀ i ∈ l, ItemOK i) ∧ (A = none → n = 0 ∧ c = 0)) :
    Calls Try.prog 9 #[.slice A n c] w (BoolPost w true) :=
  back_walk w A n c l o.1 o.2.1 (Nat.le_trans o.2.2.1 o.2.2.2.1) o.2.2.2.2.1
end Go.Proofs.Ytcpcmcdfncjnaaa
