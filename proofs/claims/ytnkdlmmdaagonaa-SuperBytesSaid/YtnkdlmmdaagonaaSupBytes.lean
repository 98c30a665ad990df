/- SuperBytes. -/
import Derived.Test.YtnkdlmmdaagonaaSupR1
import Derived.Test.YtnkdlmmdaagonaaSupR3
import Derived.Test.YtnkdlmmdaagonaaSup6
import Derived.Test.YtnkdlmmdaagonaaSupEq
import Derived.Test.YtnkdlmmdaagonaaFew
import Derived.Test.YtnkdlmmdaagonaaConv
import Derived.Test.YtnkdlmmdaagonaaOpenBytes
import Derived.Test.YtnkdlmmdaagonaaOpenSu
namespace Go.Proofs.Ytnkdlmmdaagonaa
open Go.RowKit
set_option maxRecDepth 100000 in
set_option maxHeartbeats 6400000 in
theorem superBytes_walk (w : World) (s : SuV) (hw : s.wf) (A : Option Addr) (n c : Nat) (bs : List UInt8) (hx : RowAt w A (bcells bs)) (hn : bs.length = n) (hB : A = none → n = 0 ∧ c = 0) :
    Calls Try.prog 6 #[s.v, .slice A n c] w (BoolPost w true) := by
  have f0 : Fr noB w (w.alloc (.cells s.C.toArray 61)) := (Fr.refl noB w).alloc _
  have hb0 : BlkAt (w.alloc (.cells s.C.toArray 61)) w.heap.size 61 s.C.toArray := BlkAt.new _ _ _
  have hlv := fun W => lives22_calls W
  by_cases h100 : 100 < n
  · have d1 : decide ((100 : Int) < n) = true := decide_eq_true (by omega)
    obtain ⟨seq, view, normal, gen, half, slot, base, size, sum⟩ := s
    unfold SuV.C at f0 hb0
    unfold SuV.v SuV.C
    simp only [] at *
    go_enter Try.func6, Try.ntmps6
    go_upto_region 1 with fail
    generalize (w.alloc (.cells #[.int .u64 seq, .int .u64 view, .int .u64 normal, .int .u64 gen, .int .u8 half, .int .u8 slot, .int .u64 base, .int .u32 size, .int .u32 sum] 61)) = wa at *
    go_wp2_with fail
    refine (hlv wa).mono ?_
    rintro e w1 ⟨rfl, f1⟩
    go_wp2_with fail
    refine (hlv w1).mono ?_
    rintro e w2 ⟨rfl, f2⟩
    go_wp2_with fail
    go_ret
    exact BoolPost.mk' rfl ((f0.then' f1).then' f2)
  · have d1 : decide ((100 : Int) < n) = false := decide_eq_false (by omega)
    have hck := fun W => checkS_calls W s
    have hcr := fun W => checkSR_calls W s
    by_cases hc0 : checkS s = 0
    · have hby := fun W => suBytesOk_calls W s hw hc0
      have htx := fun W => textS_calls W s hw
      have hl := superB_length s
      have hap := suRead_app hw hc0 bs
      have hrd := fun W B d h1 h2 h3 h4 => suRead_calls W B (54 + n) d (superB s ++ bs) h1 h2 h3 h4
      rw [hap] at hrd
      rw [hc0] at hck hcr
      unfold BytesSPost at hby
      rw [hl] at hby
      unfold StrPost at htx
      unfold SuEPost at hrd
      generalize superB s = sb at *
      have HNQ : ∀ W, (binOp .eql 61 s.v s.v).run Try.prog W = .ok (.bool true) W := fun W => by rw [suEql]; simp
      have HM : Try.prog.eqGuardType Try.prog.depth 61 = false := Try.gSu
      obtain ⟨seq, view, normal, gen, half, slot, base, size, sum⟩ := s
      unfold SuV.C at f0 hb0
      unfold SuV.v SuV.C at *
      simp only [] at *
      have hlb : (sb ++ bs).length = 54 + n := by rw [List.length_append]; omega
      have hn100 : n ≤ 100 := by omega
      have hlv1 := hlv (w.alloc (.cells #[.int .u64 seq, .int .u64 view, .int .u64 normal, .int .u64 gen, .int .u8 half, .int .u8 slot, .int .u64 base, .int .u32 size, .int .u32 sum] 61))
      have HNQp := hid HNQ
      have HMp := hid HM
      have heq : ((mkS sb).toList == (mkS sb).toList) = true := by simp
      clear hlv hap hc0 h100 hw HNQ HM
      go_enter Try.func6, Try.ntmps6
      go_upto_region 1 with fail
      generalize (w.alloc (.cells #[.int .u64 seq, .int .u64 view, .int .u64 normal, .int .u64 gen, .int .u8 half, .int .u8 slot, .int .u64 base, .int .u32 size, .int .u32 sum] 61)) = wa at *
      obtain ⟨x0, x1, x2, x3, x4, x5, x6, x7, x8, xf⟩ := BlkAt.c9 hb0
      go_wp2_with fail
      refine hlv1.mono ?_
      rintro e' w1 ⟨rfl, f1⟩
      have F1 := f0.then' f1
      replace hb0 := hb0.fr f1 id
      clear hlv1 x0 x1 x2 x3 x4 x5 x6 x7 x8 xf f0 f1
      obtain ⟨x0, x1, x2, x3, x4, x5, x6, x7, x8, xf⟩ := BlkAt.c9 hb0
      go_wp2_with fail
      refine (hby w1).mono ?_
      rintro e' w2 ⟨A2, c2, rfl, hA2, f2⟩
      have F2 := F1.then' f2
      replace hb0 := hb0.fr f2 id
      have hr2 := own_row hA2
      have hnil2 := own_nilU hA2
      clear hby x0 x1 x2 x3 x4 x5 x6 x7 x8 xf F1 f2 hA2
      obtain ⟨x0, x1, x2, x3, x4, x5, x6, x7, x8, xf⟩ := BlkAt.c9 hb0
      go_wp2_with fail
      refine (hcr w2).mono ?_
      rintro e' w3 ⟨rfl, f3⟩
      have F3 := F2.then' f3
      replace hb0 := hb0.fr f3 id
      replace hr2 := hr2.fr0 f3
      clear hcr x0 x1 x2 x3 x4 x5 x6 x7 x8 xf F2 f3
      obtain ⟨x0, x1, x2, x3, x4, x5, x6, x7, x8, xf⟩ := BlkAt.c9 hb0
      go_wp2_with fail
      refine (hck w3).mono ?_
      rintro e' w4 ⟨rfl, f4⟩
      have F4 := F3.then' f4
      replace hb0 := hb0.fr f4 id
      replace hr2 := hr2.fr0 f4
      clear hck x0 x1 x2 x3 x4 x5 x6 x7 x8 xf F3 f4
      have fe := (Fr.refl noB w4).alloc (.cells #[] 5)
      have hr4 := hr2.fr0 fe
      have hown : (w4.alloc (.cells #[] 5)).ownsRow 0 5 1 (.slice (some ⟨w4.heap.size, 0, none⟩) 0 0) 0 [] := World.ownsRow_made w4 #[] 0 (Nat.zero_le _) (by unfold maxLen; omega) rfl
      go_wp2_with (at_builtin; refine wpList_app Try.app8 rfl (.tmp 38) (.tmp 39) rfl _ 0 [] rfl hown A2 54 c2 (bcells sb) rfl (by rw [bcells_length, hl, Nat.mul_one]) hr4 (bcells_one _) hnil2 (by omega) (by omega) ?_)
      intro B5 d5 w5 hown5 hg hat
      have f5 : Fr noB w4 w5 := Fr.grown ((Fr.refl noB w4).alloc _) hg (fun k hk => Or.inr (by simp [Value.ownBlock] at hk; omega))
      have hb5 : ∀ g, (Value.slice B5 54 d5).ownBlock = some g → w4.heap.size ≤ g := fun g e => by
        rcases hat with h | h <;> (rw [e] at h; simp [Value.ownBlock] at h; omega)
      have hx5 := hx.fr0 (F4.then' f5)
      clear hg hat hown hr4 fe
      go_wp2_with (at_builtin; refine wpList_app Try.app8 rfl (.tmp 40) (.tmp 41) rfl _ 54 _ rfl hown5 A n c (bcells bs) rfl (by rw [bcells_length, hn, Nat.mul_one]) hx5 (bcells_one _) hB (by omega) (by omega) ?_)
      intro B6 d6 w6 hown6 hg hat
      have f6 : Fr noB w4 w6 := Fr.grown f5 hg (fun k hk => Or.inr (hb5 k hk))
      have hc6 := own_capB hown6
      have hr6 : RowAt w6 B6 (bcells (sb ++ bs)) := by rw [bcells_append]; exact own_row hown6
      have F6 := F4.then' f6
      replace hb0 := hb0.fr f6 id
      replace hr2 := hr2.fr0 f6
      clear hg hat hown5 hown6 hb5 f5 hx5 f6 F4
      go_wp2_with fail
      refine (hrd w6 B6 d6 hr6 hlb hc6.1 hc6.2).mono ?_
      rintro e' w7 ⟨rfl, f7⟩
      have F7 := F6.then' f7
      replace hb0 := hb0.fr f7 id
      replace hr2 := hr2.fr0 f7
      have fs := (Fr.refl noB w7).alloc (.cells #[.int .u64 seq, .int .u64 view, .int .u64 normal, .int .u64 gen, .int .u8 half, .int .u8 slot, .int .u64 base, .int .u32 size, .int .u32 sum] 61)
      have F8 := F7.then' fs
      have hbx := BlkAt.new w7 #[.int .u64 seq, .int .u64 view, .int .u64 normal, .int .u64 gen, .int .u8 half, .int .u8 slot, .int .u64 base, .int .u32 size, .int .u32 sum] 61
      replace hb0 := hb0.fr fs id
      replace hr2 := hr2.fr0 fs
      obtain ⟨xb, hxb⟩ : ∃ z, w7.heap.size = z := ⟨_, rfl⟩
      rw [hxb] at hbx
      clear hrd hr6 hc6 F6 F7 f7 fs
      go_upto_region 9 with fail
      generalize (w7.alloc (.cells #[.int .u64 seq, .int .u64 view, .int .u64 normal, .int .u64 gen, .int .u8 half, .int .u8 slot, .int .u64 base, .int .u32 size, .int .u32 sum] 61)) = w8 at *
      clear hxb
      apply wp_region_calm (R := Fr noB) (C := fun _ w' => Fr noB w8 w') [false, false, false, false, false, false, false, false, false, false, false, false, false, false, false, false, false, false, false, false]
        [eqv _, eqv (.string (mkS sb)), eqv _, eqv (.string (mkS sb)), eqv (.bool true), eqv (.bool true), eqv _, eqv (.int .i64 54), eqv (.bool true), eqv (.bool true), eqv (.bool true), eqv (.int .i64 0), eqv (.bool true), eqv (.bool true), eqv (.bool true), eqv _, eqv _, eqv (.bool true), eqv (.bool true), eqv (.bool true)]
        (by kernel_rfl) (by kernel_rfl) (fun _ _ _ h1 h2 => h1.then' h2) ((Fr.refl _ _).drew) ((Fr.refl _ _).drew) (by kernel_rfl)
      · refine ⟨?_, ?_, ?_, ?_, ?_, ?_, ?_, ?_, ?_, ?_, ?_, ?_, ?_, ?_, ?_, ?_, ?_, ?_, ?_, ?_, trivial⟩
        · rw [if_neg (by decide)]; intro kq
          exact calm_mv 5 rfl rfl (Or.inl rfl) (Fr.refl _) (by decide) fun v w hd => hd
        · rw [if_neg (by decide)]; intro kq
          intro a W K hC hd hK
          have d46 : _ = _ := hd 46 (by decide)
          refine wpOp_plain rfl rfl ?_
          have hst := Try.toStr (hr2.fr0 hC) hl c2
          go_wp2_with fail
          exact hK _ _ (Fr.refl _ _) hC rfl
        · rw [if_neg (by decide)]; intro kq
          intro a W K hC hd hK
          have d2 : a.tmps[2]?.getD undef = .pointer (some ⟨w.heap.size, 0, none⟩) := hd 2 (by decide)
          refine wpOp_plain rfl rfl ?_
          obtain ⟨x0, x1, x2, x3, x4, x5, x6, x7, x8, xf⟩ := BlkAt.c9 (hb0.fr hC id)
          obtain ⟨y0, y1, y2, y3, y4, y5, y6, y7, y8, yf⟩ := BlkAt.c9 (hbx.fr hC id)
          go_wp2_with fail
          exact hK _ _ (Fr.refl _ _) hC rfl
        · rw [if_neg (by decide)]; intro kq
          intro a W K hC hd hK
          have d48 : _ = _ := hd 48 (by decide)
          refine wpOp_plain rfl rfl ?_
          obtain ⟨x0, x1, x2, x3, x4, x5, x6, x7, x8, xf⟩ := BlkAt.c9 (hb0.fr hC id)
          obtain ⟨y0, y1, y2, y3, y4, y5, y6, y7, y8, yf⟩ := BlkAt.c9 (hbx.fr hC id)
          go_wp2_with fail
          refine (htx W).mono ?_
          rintro e9 w9 ⟨rfl, f9⟩
          exact hK _ _ f9 (hC.then' f9) rfl
        · rw [if_neg (by decide)]; intro kq
          intro a W K hC hd hK
          have d47 : a.tmps[47]?.getD undef = .string (mkS sb) := hd 47 (by decide)
          have d49 : a.tmps[49]?.getD undef = .string (mkS sb) := hd 49 (by decide)
          refine wpOp_plain rfl rfl ?_
          go_wp2_with fail
          exact hK _ _ (Fr.refl _ _) hC rfl
        · rw [if_neg (by decide)]; intro kq
          exact calm_mv 50 rfl rfl (Or.inl rfl) (Fr.refl _) (by decide) fun v w hd => hd
        · rw [if_neg (by decide)]; intro kq
          intro a W K hC hd hK
          have d5 : a.tmps[5]?.getD undef = .slice A2 54 c2 := hd 5 (by decide)
          have d51 : a.tmps[51]?.getD undef = .bool true := hd 51 (by decide)
          first | (exact wpOp_skip rfl (wanted_of (want := true) (b := false) rfl rfl (by rw [eval_get]; exact d51)) (hK _ _ (Fr.refl _ _) hC rfl)) | (refine wpOp_want rfl (wanted_of (want := true) (b := true) rfl rfl (by rw [eval_get]; exact d51)) ?_)
          all_goals (
            go_wp2_with fail
            exact hK _ _ (Fr.refl _ _) hC rfl)
        · rw [if_neg (by decide)]; intro kq
          intro a W K hC hd hK
          have d52 : _ = _ := hd 52 (by decide)
          have d51 : a.tmps[51]?.getD undef = .bool true := hd 51 (by decide)
          first | (exact wpOp_skip rfl (wanted_of (want := true) (b := false) rfl rfl (by rw [eval_get]; exact d51)) (hK _ _ (Fr.refl _ _) hC rfl)) | (refine wpOp_want rfl (wanted_of (want := true) (b := true) rfl rfl (by rw [eval_get]; exact d51)) ?_)
          all_goals (
            obtain ⟨x0, x1, x2, x3, x4, x5, x6, x7, x8, xf⟩ := BlkAt.c9 (hb0.fr hC id)
            obtain ⟨y0, y1, y2, y3, y4, y5, y6, y7, y8, yf⟩ := BlkAt.c9 (hbx.fr hC id)
            go_wp2_with fail
            exact hK _ _ (Fr.refl _ _) hC rfl)
        · rw [if_neg (by decide)]; intro kq
          intro a W K hC hd hK
          have d53 : a.tmps[53]?.getD undef = .int .i64 54 := hd 53 (by decide)
          have d51 : a.tmps[51]?.getD undef = .bool true := hd 51 (by decide)
          first | (exact wpOp_skip rfl (wanted_of (want := true) (b := false) rfl rfl (by rw [eval_get]; exact d51)) (hK _ _ (Fr.refl _ _) hC rfl)) | (refine wpOp_want rfl (wanted_of (want := true) (b := true) rfl rfl (by rw [eval_get]; exact d51)) ?_)
          all_goals (
            go_wp2_with fail
            exact hK _ _ (Fr.refl _ _) hC rfl)
        · rw [if_neg (by decide)]; intro kq
          intro a W K hC hd hK
          have d51 : a.tmps[51]?.getD undef = .bool true := hd 51 (by decide)
          have d54 : a.tmps[54]?.getD undef = .bool true := hd 54 (by decide)
          refine wpOp_plain rfl rfl ?_
          go_wp2_with fail
          exact hK _ _ (Fr.refl _ _) hC rfl
        · rw [if_neg (by decide)]; intro kq
          exact calm_mv 55 rfl rfl (Or.inl rfl) (Fr.refl _) (by decide) fun v w hd => hd
        · rw [if_neg (by decide)]; intro kq
          intro a W K hC hd hK
          have d8 : a.tmps[8]?.getD undef = .int .i64 0 := hd 8 (by decide)
          have d56 : a.tmps[56]?.getD undef = .bool true := hd 56 (by decide)
          first | (exact wpOp_skip rfl (wanted_of (want := true) (b := false) rfl rfl (by rw [eval_get]; exact d56)) (hK _ _ (Fr.refl _ _) hC rfl)) | (refine wpOp_want rfl (wanted_of (want := true) (b := true) rfl rfl (by rw [eval_get]; exact d56)) ?_)
          all_goals (
            go_wp2_with fail
            exact hK _ _ (Fr.refl _ _) hC rfl)
        · rw [if_neg (by decide)]; intro kq
          intro a W K hC hd hK
          have d57 : a.tmps[57]?.getD undef = .int .i64 0 := hd 57 (by decide)
          have d56 : a.tmps[56]?.getD undef = .bool true := hd 56 (by decide)
          first | (exact wpOp_skip rfl (wanted_of (want := true) (b := false) rfl rfl (by rw [eval_get]; exact d56)) (hK _ _ (Fr.refl _ _) hC rfl)) | (refine wpOp_want rfl (wanted_of (want := true) (b := true) rfl rfl (by rw [eval_get]; exact d56)) ?_)
          all_goals (
            go_wp2_with fail
            exact hK _ _ (Fr.refl _ _) hC rfl)
        · rw [if_neg (by decide)]; intro kq
          intro a W K hC hd hK
          have d56 : a.tmps[56]?.getD undef = .bool true := hd 56 (by decide)
          have d58 : a.tmps[58]?.getD undef = .bool true := hd 58 (by decide)
          refine wpOp_plain rfl rfl ?_
          go_wp2_with fail
          exact hK _ _ (Fr.refl _ _) hC rfl
        · rw [if_neg (by decide)]; intro kq
          exact calm_mv 59 rfl rfl (Or.inl rfl) (Fr.refl _) (by decide) fun v w hd => hd
        · rw [if_neg (by decide)]; intro kq
          intro a W K hC hd hK
          have d7 : a.tmps[7]?.getD undef = .pointer (some ⟨xb, 0, none⟩) := hd 7 (by decide)
          have d60 : a.tmps[60]?.getD undef = .bool true := hd 60 (by decide)
          first | (exact wpOp_skip rfl (wanted_of (want := true) (b := false) rfl rfl (by rw [eval_get]; exact d60)) (hK _ _ (Fr.refl _ _) hC rfl)) | (refine wpOp_want rfl (wanted_of (want := true) (b := true) rfl rfl (by rw [eval_get]; exact d60)) ?_)
          all_goals (
            obtain ⟨x0, x1, x2, x3, x4, x5, x6, x7, x8, xf⟩ := BlkAt.c9 (hb0.fr hC id)
            obtain ⟨y0, y1, y2, y3, y4, y5, y6, y7, y8, yf⟩ := BlkAt.c9 (hbx.fr hC id)
            go_wp2_with fail
            exact hK _ _ (Fr.refl _ _) hC rfl)
        · rw [if_neg (by decide)]; intro kq
          intro a W K hC hd hK
          have d2 : a.tmps[2]?.getD undef = .pointer (some ⟨w.heap.size, 0, none⟩) := hd 2 (by decide)
          have d60 : a.tmps[60]?.getD undef = .bool true := hd 60 (by decide)
          first | (exact wpOp_skip rfl (wanted_of (want := true) (b := false) rfl rfl (by rw [eval_get]; exact d60)) (hK _ _ (Fr.refl _ _) hC rfl)) | (refine wpOp_want rfl (wanted_of (want := true) (b := true) rfl rfl (by rw [eval_get]; exact d60)) ?_)
          all_goals (
            obtain ⟨x0, x1, x2, x3, x4, x5, x6, x7, x8, xf⟩ := BlkAt.c9 (hb0.fr hC id)
            obtain ⟨y0, y1, y2, y3, y4, y5, y6, y7, y8, yf⟩ := BlkAt.c9 (hbx.fr hC id)
            go_wp2_with fail
            exact hK _ _ (Fr.refl _ _) hC rfl)
        · rw [if_neg (by decide)]; intro kq
          intro a W K hC hd hK
          have d61 : _ = _ := hd 61 (by decide)
          have d62 : _ = _ := hd 62 (by decide)
          have d60 : a.tmps[60]?.getD undef = .bool true := hd 60 (by decide)
          first | (exact wpOp_skip rfl (wanted_of (want := true) (b := false) rfl rfl (by rw [eval_get]; exact d60)) (hK _ _ (Fr.refl _ _) hC rfl)) | (refine wpOp_want rfl (wanted_of (want := true) (b := true) rfl rfl (by rw [eval_get]; exact d60)) ?_)
          all_goals (
            have HNQ := HNQp.out
            have HM := HMp.out
            go_wp2_with fail
            exact hK _ _ (Fr.refl _ _) hC rfl)
        · rw [if_neg (by decide)]; intro kq
          intro a W K hC hd hK
          have d60 : a.tmps[60]?.getD undef = .bool true := hd 60 (by decide)
          have d63 : a.tmps[63]?.getD undef = .bool true := hd 63 (by decide)
          refine wpOp_plain rfl rfl ?_
          go_wp2_with fail
          exact hK _ _ (Fr.refl _ _) hC rfl
        · rw [if_neg (by decide)]; intro kq
          exact calm_mv 64 rfl rfl (Or.inr rfl) (Fr.refl _) (by decide) fun v w hd => hd
      · intro vs w9 fw9 cw9 hV
        have v4 : vs 19 = .bool true := hV 19 _ _ rfl rfl (by decide)
        clear hV
        simp only [putL, Act.put, Nat.reduceAdd, List.setIfInBounds_toArray, List.set_cons_zero, List.set_cons_succ, v4]
        go_wp2_with fail
        go_ret
        exact ⟨rfl, F8.then' cw9⟩
    · have hby := fun W => suBytesNo_calls W s hc0
      have t2 : ((checkS s : Int) != 0) = true := by rw [bne_iff_ne]; omega
      generalize checkS s = cv at *
      obtain ⟨seq, view, normal, gen, half, slot, base, size, sum⟩ := s
      unfold SuV.C at f0 hb0
      unfold SuV.v SuV.C at *
      simp only [] at *
      have hlv1 := hlv (w.alloc (.cells #[.int .u64 seq, .int .u64 view, .int .u64 normal, .int .u64 gen, .int .u8 half, .int .u8 slot, .int .u64 base, .int .u32 size, .int .u32 sum] 61))
      have hcc : ((cv : Int) != cv) = false := by simp
      clear hlv hc0 h100 hw
      go_enter Try.func6, Try.ntmps6
      go_upto_region 1 with fail
      generalize (w.alloc (.cells #[.int .u64 seq, .int .u64 view, .int .u64 normal, .int .u64 gen, .int .u8 half, .int .u8 slot, .int .u64 base, .int .u32 size, .int .u32 sum] 61)) = wa at *
      go_wp2_with fail
      refine hlv1.mono ?_
      rintro e' w1 ⟨rfl, f1⟩
      have F1 := f0.then' f1
      replace hb0 := hb0.fr f1 id
      clear hlv1 f0 f1
      obtain ⟨x0, x1, x2, x3, x4, x5, x6, x7, x8, xf⟩ := BlkAt.c9 hb0
      go_wp2_with fail
      refine (hby w1).mono ?_
      rintro e' w2 ⟨rfl, f2⟩
      have F2 := F1.then' f2
      replace hb0 := hb0.fr f2 id
      clear hby x0 x1 x2 x3 x4 x5 x6 x7 x8 xf F1 f2
      obtain ⟨x0, x1, x2, x3, x4, x5, x6, x7, x8, xf⟩ := BlkAt.c9 hb0
      go_wp2_with fail
      refine (hcr w2).mono ?_
      rintro e' w3 ⟨rfl, f3⟩
      have F3 := F2.then' f3
      replace hb0 := hb0.fr f3 id
      clear hcr x0 x1 x2 x3 x4 x5 x6 x7 x8 xf F2 f3
      obtain ⟨x0, x1, x2, x3, x4, x5, x6, x7, x8, xf⟩ := BlkAt.c9 hb0
      go_wp2_with fail
      refine (hck w3).mono ?_
      rintro e' w4 ⟨rfl, f4⟩
      have F4 := F3.then' f4
      clear hck x0 x1 x2 x3 x4 x5 x6 x7 x8 xf F3 f4
      go_wp2_with fail
      go_ret
      exact ⟨rfl, F4⟩
theorem superBytes_law (w : World) (s : SuV) (hw : s.wf) (A : Option Addr) (n c : Nat) (bs : List UInt8) (o : RowAt w A (bcells bs) ∧ bs.length = n ∧ n ≤ c ∧ c ≤ maxLen ∧ (A = none → n = 0 ∧ c = 0)) :
    Calls Try.prog 6 #[s.v, .slice A n c] w (BoolPost w true) :=
  superBytes_walk w s hw A n c bs o.1 o.2.1 o.2.2.2.2
end Go.Proofs.Ytnkdlmmdaagonaa
