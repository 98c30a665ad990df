/- interrexlaw14.OpReplies: the walk. -/
import Derived.Test.YtcaihinenfnekaaDoorRepLaw
import Derived.Test.YtcaihinenfnekaaDoorOpBytes
import Derived.Deep.Cut
namespace Go.Proofs.YtcaihinenfnekaaDoor
open Go.RowKit

/-- A slice that reads these bytes. -/
def SlB (bs : List UInt8) : Stb (Fr noB) :=
  ⟨fun v w => ∃ A m c, v = .slice A m c ∧ bs.length = m ∧ RowAt w A (bcells bs), fun _ _ _ ⟨A, m, c, e, hm, h⟩ f => ⟨A, m, c, e, hm, h.fr0 f⟩⟩
theorem RepPost.use {w w' : World} {q : (Nat × List ByteArray) × Nat} {e : Ending} (h : RepPost w q e w') :
    ∃ A n c, e = .returned (.tuple #[.agg #[.int .i64 (q.1.1 : Nat), .slice A n c], .int .i64 (q.2 : Nat)]) ∧ Hid (q.1.2.length = n) ∧ RowAt w' A (strs q.1.2) ∧ (∀ ad, A = some ad → 0 < n → ad.block < w'.heap.size) ∧ n ≤ c ∧ c ≤ 9223372036854775807 ∧ Fr noB w w' := by
  obtain ⟨A, n, c, h1, h2, h3, _, h5, h6, h7⟩ := h
  exact ⟨A, n, c, h1, h2, h3, fun ad e hn => by subst e; exact h3.lt (by simp only [strs, List.length_map]; rw [h2.out]; exact hn), h5, h6, h7⟩
set_option maxRecDepth 100000 in
set_option maxHeartbeats 3200000 in
theorem opReplies_walk (w : World) (ht : SignsAt w) (code : Nat) (A : Option Addr) (n c : Nat) (l : List ByteArray) (hx : RowAt w A (strs l)) (hn : l.length = n) (hcap : n ≤ c) (hcm : c ≤ 9223372036854775807)
    (B : Option Addr) (m d : Nat) (b : List UInt8) (hy : RowAt w B (bcells b)) (hm : b.length = m) (hB : B = none → m = 0 ∧ d = 0) :
    Calls Tryd.prog 10 #[.int .u8 code, .slice A n c, .slice B m d] w (BoolPost w true) := by
  by_cases hlong : 10 < n ∨ 300 < m
  · obtain ⟨c1, hc1⟩ : ∃ x, decide ((10 : Int) < n) = x := ⟨_, rfl⟩
    have hc2 : c1 = false → decide ((300 : Int) < m) = true := fun h => by
      rw [h, decide_eq_false_iff_not] at hc1
      exact decide_eq_true (by omega)
    clear hlong hx hy hn hm
    have hlv := fun W hx => livesO_calls W hx
    cases c1
    all_goals
      first | (replace hc2 := hc2 rfl) | clear hc2
      go_enter Tryd.func10, Tryd.ntmps10
      go_wp2_with fail
      refine (hlv w ht).mono ?_
      rintro e w1 ⟨rfl, f1⟩
      go_wp2_with fail
      refine (hlv w1 (ht.fr0 f1)).mono ?_
      rintro e w2 ⟨rfl, f2⟩
      go_wp2_with fail
      go_ret
      exact BoolPost.mk' rfl (f1.then' f2)
  · have d1 : decide ((10 : Int) < n) = false := decide_eq_false (by omega)
    have d2 : decide ((300 : Int) < m) = false := decide_eq_false (by omega)
    have hn10 : n ≤ 10 := by omega
    have hm300 : m ≤ 300 := by omega
    have HN := hid hn
    have HM := hid hm
    clear hlong hn hm
    go_enter Tryd.func10, Tryd.ntmps10
    go_wp2_with fail
    refine (livesO_calls w ht).mono ?_
    rintro e w1 ⟨rfl, f1⟩
    replace hx := hx.fr0 f1
    replace hy := hy.fr0 f1
    have hA : ∀ ad, A = some ad → 0 < n → ad.block < w1.heap.size := fun ad e h => by subst e; exact hx.lt (by simp only [strs, List.length_map]; rw [HN.out]; exact h)
    clear ht
    go_wp2_with fail
    go_loop [32] (fun i => ∃ k : Nat, k ≤ n ∧ i = .int .i64 k ∧ ∀ s ∈ l.take k, s.size ≤ 50) (fun i => n - (intOf i).toNat)
    case atStart => exact ⟨0, Nat.zero_le _, rfl, fun s hs => by simp at hs⟩
    case round =>
      obtain ⟨k, hk, rfl, hall⟩ := hrel
      by_cases hkn : k < n
      · obtain ⟨s, hs⟩ : ∃ s, l[k]? = some s := ⟨_, List.getElem?_eq_getElem (by rw [HN.out]; exact hkn)⟩
        obtain ⟨ad, rfl⟩ := strs_pos hx hs
        have hcx := hx.cell (strs_get hs)
        have HS : Hid (s.size ≤ 50 → ∀ x ∈ l.take (k + 1), x.size ≤ 50) := fun h x hx' => by
          rw [take_snoc' hs, List.mem_append] at hx'
          rcases hx' with h1 | h1
          · exact hall x h1
          · simp at h1; subst h1; exact h
        clear hall hs
        by_cases b3 : s.size ≤ 50
        · go_wp2_with fail
          go_round
          case rel => exact ⟨k + 1, by omega, by go_num, HS.out b3⟩
          case measure => simp [intOf]; omega
        · go_wp2_with fail
          go_ret
          exact BoolPost.mk' rfl f1
      · have : k = n := by omega
        subst this
        rw [List.take_of_length_le (by rw [HN.out]; exact Nat.le_refl _)] at hall
        have HALL := hid hall
        clear hall
        obtain ⟨e, he⟩ : ∃ e, code % 19 = e := ⟨_, rfl⟩
        have he19 : e < 19 := by omega
        have hce : (code : Int) % 19 = e := by omega
        have hsum : sumSz l ≤ 1000 := by have := sumSz_few l 50 HALL.out; rw [HN.out] at this; omega
        have hgp := repGet_put (e := e) (l := l) he19 (by rw [HN.out]; omega) (fun s hs => by have := HALL.out s hs; omega)
        have hRB := repB_repR (e := e) (l := l) (by rw [HN.out]; omega) (fun s hs => by have := HALL.out s hs; omega)
        have HE19 := hid he19
        clear he he19
        have hput := fun W hx hA => opPut_calls W e A k c l (by have := HE19.out; omega) hx HN.out hcap hcm (by omega) hA
        have hputR := fun W hx => opPutR_calls W e A k c l (by have := HE19.out; omega) hx HN (by omega) (by omega)
        rw [hRB] at hputR
        clear hRB
        have hlb : (repB e l).length ≤ 1000000000 := by
          have h1 := rowB_length (if e = 0 then l else [])
          have h2 : sumSz (if e = 0 then l else []) ≤ 1000 := by split; exact hsum; simp [sumSz]
          unfold repB; rw [List.length_append, leB_length]; omega
        generalize repB e l = bs at *
        obtain ⟨m1, hm1⟩ : ∃ m1, bs.length = m1 := ⟨_, rfl⟩
        rw [hm1] at hlb
        have HM1 := hid hm1
        have HGP := hid hgp
        unfold BytesPost at hput
        rw [hm1] at hput
        clear hm1 hgp
        go_wp2_with fail
        have hb9 : BlkAt (w1.alloc (.cells #[.int .i64 e, .slice A k c] 28)) w1.heap.size 28 #[.int .i64 e, .slice A k c] := BlkAt.new _ _ _
        have F1 := f1.alloc (.cells #[.int .i64 e, .slice A k c] 28)
        have hs9 := al_size w1 (.cells #[.int .i64 e, .slice A k c] 28)
        replace hx := hx.fr0 ((Fr.refl noB w1).alloc (.cells #[.int .i64 e, .slice A k c] 28))
        replace hy := hy.fr0 ((Fr.refl noB w1).alloc (.cells #[.int .i64 e, .slice A k c] 28))
        replace hA : ∀ ad, A = some ad → 0 < k → ad.block < (w1.alloc (.cells #[.int .i64 e, .slice A k c] 28)).heap.size := fun ad e h => by have := hA ad e h; omega
        generalize hp9 : w1.heap.size = p9 at *
        generalize (w1.alloc (.cells #[.int .i64 e, .slice A k c] 28)) = w2 at *
        refine (hput w2 hx hA).mono ?_
        rintro e0 w3 ⟨A1, c1, rfl, h3, f3⟩
        replace hb9 := hb9.fr f3 id
        have F3 := F1.then' f3
        have hr1 := own_row h3
        have hn1 := own_nil h3
        replace hx := hx.fr0 f3
        replace hy := hy.fr0 f3
        clear f3 h3 F1 f1 hs9
        go_upto_region 11 with fail
        apply wp_region_calm (R := Fr noB) (C := fun q W => Fr noB w3 W ∧ BlkAt W (p9) 28 #[.int .i64 e, .slice A k c]) [false, false, false, false, false, false, false, false]
          [eqv _, eqv _, eqv _, eqv _, eqv _, eqv _, eqv _, eqv (.bool false)]
          (by kernel_rfl) (by kernel_rfl) (fun _ _ _ h1 h2 => h1.then' h2) ((Fr.refl _ _).drew) ⟨(Fr.refl _ _).drew, hb9⟩ (by kernel_rfl)
        · refine ⟨?_, ?_, ?_, ?_, ?_, ?_, ?_, ?_, trivial⟩
          · rw [if_neg (by decide)]; intro kq
            exact calm_mv 10 rfl rfl (Or.inl rfl) (Fr.refl _) (by decide) fun v w hd => hd
          · rw [if_neg (by decide)]; intro kq
            intro a W K hC hd hK
            have d47 : _ = _ := hd 47 (by decide)
            refine wpOp_plain rfl rfl ?_
            have hst := Tryd.toStr (hr1.fr0 hC.1) HM1.out c1
            go_wp2_with fail
            exact hK _ _ (Fr.refl _ _) hC rfl
          · rw [if_neg (by decide)]; intro kq
            intro a W K hC hd hK
            have d9 : a.tmps[9]?.getD undef = .pointer (some ⟨p9, 0, none⟩) := hd 9 (by decide)
            refine wpOp_plain rfl rfl ?_
            obtain ⟨x0_0, x0_1, z0⟩ := BlkAt.c2 (hC.2)
            go_wp2_with fail
            exact hK _ _ (Fr.refl _ _) hC rfl
          · rw [if_neg (by decide)]; intro kq
            intro a W K hC hd hK
            have d49 : _ = _ := hd 49 (by decide)
            refine wpOp_plain rfl rfl ?_
            obtain ⟨x0_0, x0_1, z0⟩ := BlkAt.c2 (hC.2)
            go_wp2_with fail
            exact hK _ _ (Fr.refl _ _) hC rfl
          · rw [if_neg (by decide)]; intro kq
            exact calm_mv 1 rfl rfl (Or.inl rfl) (Fr.refl _) (by decide) fun v w hd => hd
          · rw [if_neg (by decide)]; intro kq
            intro a W K hC hd hK
            have d50 : _ = _ := hd 50 (by decide)
            have d51 : _ = _ := hd 51 (by decide)
            refine wpOp_plain rfl rfl ?_
            go_wp2_with fail
            exact hK _ _ (Fr.refl _ _) hC rfl
          · rw [if_neg (by decide)]; intro kq
            intro a W K hC hd hK
            have d52 : _ = _ := hd 52 (by decide)
            refine wpOp_plain rfl rfl ?_
            obtain ⟨x0_0, x0_1, z0⟩ := BlkAt.c2 (hC.2)
            go_wp2_with fail
            refine (hputR W (hx.fr0 hC.1)).mono ?_
            rintro e9 w9 ⟨rfl, f9⟩
            exact hK _ _ f9 ⟨hC.1.then' f9, hC.2.fr f9 id⟩ rfl
          · rw [if_neg (by decide)]; intro kq
            intro a W K hC hd hK
            have d48 : _ = _ := hd 48 (by decide)
            have d53 : _ = _ := hd 53 (by decide)
            refine wpOp_plain rfl rfl ?_
            go_wp2_with fail
            exact hK _ _ (Fr.refl _ _) hC rfl
        · intro vs w4 fw4 cw4 hV
          have v47 : vs 0 = _ := hV 0 _ _ rfl rfl (by decide)
          have v48 : vs 1 = _ := hV 1 _ _ rfl rfl (by decide)
          have v49 : vs 2 = _ := hV 2 _ _ rfl rfl (by decide)
          have v50 : vs 3 = _ := hV 3 _ _ rfl rfl (by decide)
          have v51 : vs 4 = _ := hV 4 _ _ rfl rfl (by decide)
          have v52 : vs 5 = _ := hV 5 _ _ rfl rfl (by decide)
          have v53 : vs 6 = _ := hV 6 _ _ rfl rfl (by decide)
          have v54 : vs 7 = .bool false := hV 7 _ _ rfl rfl (by decide)
          clear hV
          replace hb9 : BlkAt w4 (p9) 28 #[.int .i64 e, .slice A k c] := cw4.2
          replace F3 := F3.trans fw4 (fun i hi h => h.elim)
          clear cw4
          simp only [putL, Act.put, Nat.reduceAdd, List.setIfInBounds_toArray, List.set_cons_zero, List.set_cons_succ, v47, v48, v49, v50, v51, v52, v53, v54]
          replace hx := hx.fr0 fw4
          replace hy := hy.fr0 fw4
          replace hr1 := hr1.fr0 fw4
          clear fw4 hput hputR
          have hget := opGet_calls w4 A1 m1 c1 bs hr1 HM1.out hn1 (by omega)
          rw [HGP.out] at hget
          by_cases h0 : e = 0
          · skip
            rw [if_pos h0] at hget
            have t0 : ((e : Int) != 0) = false := by rw [bne_eq_false_iff_eq]; omega
            have t0' : ((e : Int) == 0) = true := by rw [beq_iff_eq]; omega
            clear h0
            go_wp2_with fail
            refine hget.mono ?_
            rintro e0 w5 he5
            obtain ⟨A2, n2, c2, rfl, HN2, hr2, hlt2, hcap2, hcm2, f5⟩ := he5.use
            simp only [] at HN2 hr2
            clear he5 hget
            replace hx := hx.fr0 f5
            replace hy := hy.fr0 f5
            replace hb9 := (hb9.fr f5 id).al (.cells #[.int .i64 e, .slice A2 n2 c2] 28)
            replace F3 := (F3.then' f5).alloc (.cells #[.int .i64 e, .slice A2 n2 c2] 28)
            have hb11 : BlkAt (w5.alloc (.cells #[.int .i64 e, .slice A2 n2 c2] 28)) w5.heap.size 28 #[.int .i64 e, .slice A2 n2 c2] := BlkAt.new _ _ _
            replace hx := hx.fr0 ((Fr.refl noB w5).alloc (.cells #[.int .i64 e, .slice A2 n2 c2] 28))
            replace hy := hy.fr0 ((Fr.refl noB w5).alloc (.cells #[.int .i64 e, .slice A2 n2 c2] 28))
            replace hr2 := hr2.fr0 ((Fr.refl noB w5).alloc (.cells #[.int .i64 e, .slice A2 n2 c2] 28))
            clear f5
            go_upto_region 14 with fail
            generalize w5.heap.size = p11 at *
            generalize (w5.alloc (.cells #[.int .i64 e, .slice A2 n2 c2] 28)) = w6 at *
            obtain ⟨x0, x1, xf⟩ := BlkAt.c2 hb9
            obtain ⟨y0, y1, yf⟩ := BlkAt.c2 hb11
            have hs1 := fun W hx hy => sameRep_calls W e e A2 A c2 c n2 k l l hx hy HN2 HN (by have := HN2.out; omega)
            have hs2 := fun W hx hy => sameRep_calls W e e A A2 c c2 k n2 l l hx hy HN HN2 (by have := HN.out; omega)
            have hs3 := fun W hx hy => sameTexts_calls W A2 A c2 c n2 k l l hx hy HN2 HN (by have := HN2.out; omega)
            have hsm : (decide (e = e) && (decide (e ≠ 0) || decide (l = l))) = true := by simp
            rw [hsm] at hs1 hs2
            clear hsm
            rw [decide_eq_true rfl] at hs3
            go_wp2_with fail
            refine (hs1 w6 hr2 hx).mono ?_
            rintro e0 w7 ⟨rfl, f9⟩
            replace hx := hx.fr0 f9
            replace hy := hy.fr0 f9
            replace hr2 := hr2.fr0 f9
            replace hb9 := hb9.fr f9 id
            replace hb11 := hb11.fr f9 id
            replace F3 := F3.then' f9
            clear f9 x0 x1 xf y0 y1 yf
            obtain ⟨x0, x1, xf⟩ := BlkAt.c2 hb9
            obtain ⟨y0, y1, yf⟩ := BlkAt.c2 hb11
            go_wp2_with fail
            refine (hs2 w7 hx hr2).mono ?_
            rintro e0 w8 ⟨rfl, f9⟩
            replace hx := hx.fr0 f9
            replace hy := hy.fr0 f9
            replace hr2 := hr2.fr0 f9
            replace hb9 := hb9.fr f9 id
            replace hb11 := hb11.fr f9 id
            replace F3 := F3.then' f9
            clear f9 x0 x1 xf y0 y1 yf
            obtain ⟨x0, x1, xf⟩ := BlkAt.c2 hb9
            obtain ⟨y0, y1, yf⟩ := BlkAt.c2 hb11
            go_wp2_with fail
            refine (hs3 w8 hr2 hx).mono ?_
            rintro e0 w9 ⟨rfl, f9⟩
            replace hx := hx.fr0 f9
            replace hy := hy.fr0 f9
            replace hr2 := hr2.fr0 f9
            replace hb9 := hb9.fr f9 id
            replace hb11 := hb11.fr f9 id
            replace F3 := F3.then' f9
            clear f9 x0 x1 xf y0 y1 yf
            obtain ⟨x0, x1, xf⟩ := BlkAt.c2 hb9
            obtain ⟨y0, y1, yf⟩ := BlkAt.c2 hb11
            clear hs1 hs2
            have hgb := fun W hy => opGet_calls W B m d b hy HM.out hB (by omega)
            have hgr := fun W => opGetR_calls W b (by have := HM.out; omega)
            have hok : (repGet b).2 = 0 → (repGet b).1.1 < 256 ∧ repB (repGet b).1.1 (repGet b).1.2 = b ∧ (repGet b).1.2.length ≤ 400 ∧ ∀ s ∈ (repGet b).1.2, s.size ≤ 400 := fun h => repGet_ok (by rw [← h])
            generalize repGet b = q at *
            obtain ⟨⟨e2, l2⟩, f⟩ := q
            simp only [] at hok hgb hgr
            have HOK := hid hok
            clear hok
            go_wp2_with fail
            refine (hgb w9 hy).mono ?_
            rintro e0 w10 he10
            obtain ⟨A3, n3, c3, rfl, HN3, hr3, hlt3, hcap3, hcm3, f10⟩ := he10.use
            simp only [] at HN3 hr3
            clear he10 hgb
            replace hy := hy.fr0 f10
            replace hb9 := hb9.fr f10 id
            have F10 := (F3.then' f10).alloc (.cells #[.int .i64 e2, .slice A3 n3 c3] 28)
            have hb13 : BlkAt (w10.alloc (.cells #[.int .i64 e2, .slice A3 n3 c3] 28)) w10.heap.size 28 #[.int .i64 e2, .slice A3 n3 c3] := BlkAt.new _ _ _
            replace hy := hy.fr0 ((Fr.refl noB w10).alloc (.cells #[.int .i64 e2, .slice A3 n3 c3] 28))
            replace hr3 := hr3.fr0 ((Fr.refl noB w10).alloc (.cells #[.int .i64 e2, .slice A3 n3 c3] 28))
            replace hlt3 : ∀ ad, A3 = some ad → 0 < n3 → ad.block < (w10.alloc (.cells #[.int .i64 e2, .slice A3 n3 c3] 28)).heap.size := fun ad e h => by have := hlt3 ad e h; rw [al_size]; omega
            clear f10 F3 hb9 hb11 x0 x1 xf y0 y1 yf hr2 hx
            go_upto_region 17 with fail
            generalize w10.heap.size = p13 at *
            generalize (w10.alloc (.cells #[.int .i64 e2, .slice A3 n3 c3] 28)) = w11 at *
            have hst := Tryd.toStr hy HM.out d
            go_wp2_with fail
            refine (hgr w11).mono ?_
            rintro e0 w12 ⟨A4, n4, c4, rfl, HN4, hr4, _, f12⟩
            simp only [] at HN4 hr4
            replace hy := (hy.fr0 f12).fr0 ((Fr.refl noB w12).alloc (.cells #[.int .i64 e2, .slice A4 n4 c4] 103))
            replace hr3 := (hr3.fr0 f12).fr0 ((Fr.refl noB w12).alloc (.cells #[.int .i64 e2, .slice A4 n4 c4] 103))
            replace hr4 := hr4.fr0 ((Fr.refl noB w12).alloc (.cells #[.int .i64 e2, .slice A4 n4 c4] 103))
            replace hlt3 : ∀ ad, A3 = some ad → 0 < n3 → ad.block < (w12.alloc (.cells #[.int .i64 e2, .slice A4 n4 c4] 103)).heap.size := fun ad e h => by have := hlt3 ad e h; have := f12.size; rw [al_size]; omega
            replace hb13 := (hb13.fr f12 id).al (.cells #[.int .i64 e2, .slice A4 n4 c4] 103)
            have hb15 : BlkAt (w12.alloc (.cells #[.int .i64 e2, .slice A4 n4 c4] 103)) w12.heap.size 103 #[.int .i64 e2, .slice A4 n4 c4] := BlkAt.new _ _ _
            have F13 := (F10.then' f12).alloc (.cells #[.int .i64 e2, .slice A4 n4 c4] 103)
            clear f12 F10 hst hgr
            go_upto_region 18 with fail
            generalize w12.heap.size = p15 at *
            generalize (w12.alloc (.cells #[.int .i64 e2, .slice A4 n4 c4] 103)) = w13 at *
            have hst3 := fun W hx hy => sameTexts_calls W A3 A4 c3 c4 n3 n4 l2 l2 hx hy HN3 HN4 (by omega)
            rw [decide_eq_true rfl] at hst3
            obtain ⟨x0, x1, xf⟩ := BlkAt.c2 hb13
            obtain ⟨y0, y1, yf⟩ := BlkAt.c2 hb15
            go_wp2_with fail
            refine (hst3 w13 hr3 hr4).mono ?_
            rintro e0 w14 ⟨rfl, f14⟩
            have F14 := F13.then' f14
            replace hy := hy.fr0 f14
            replace hr3 := hr3.fr0 f14
            replace hb13 := hb13.fr f14 id
            replace hlt3 : ∀ ad, A3 = some ad → 0 < n3 → ad.block < w14.heap.size := fun ad e h => by have := hlt3 ad e h; have := f14.size; omega
            clear f14 F13 x0 x1 xf y0 y1 yf hr4 hb15 hst3
            by_cases hf : f = 0
            · have t9 : ((f : Int) != 0) = false := by rw [bne_eq_false_iff_eq]; omega
              obtain ⟨g1, g2, g3, g4⟩ := HOK.out hf
              have hsum2 : sumSz l2 ≤ 1000000 := by have := sumSz_few l2 400 g4; have := HN3.out; omega
              have hp3 := fun W hx hA => opPut_calls W e2 A3 n3 c3 l2 g1 hx HN3.out hcap3 hcm3 (by omega) hA
              rw [g2] at hp3
              unfold BytesPost at hp3
              rw [HM.out] at hp3
              clear hf g1 g2 g3 g4
              go_upto_region 20 with fail
              apply wp_region_calm (R := Fr noB) (C := fun q W => Fr noB w14 W ∧ BlkAt W p13 28 #[.int .i64 e2, .slice A3 n3 c3]) [false, false, false, false, false, false, false, false, false, false, false]
                [eqv _, eqv _, eqv _, eqv _, SlB b, eqv (.string (mkS b)), eqv _, eqv _, eqv _, eqv _, eqv _]
                (by kernel_rfl) (by kernel_rfl) (fun _ _ _ h1 h2 => h1.then' h2) ((Fr.refl _ _).drew) ⟨(Fr.refl _ _).drew, hb13⟩ (by kernel_rfl)
              · refine ⟨?_, ?_, ?_, ?_, ?_, ?_, ?_, ?_, ?_, ?_, ?_, trivial⟩
                · rw [if_neg (by decide)]; intro kq
                  exact calm_mv 14 rfl rfl (Or.inl rfl) (Fr.refl _) (by decide) fun v w hd => hd
                · rw [if_neg (by decide)]; intro kq
                  intro a W K hC hd hK
                  have d126 : _ = _ := hd 126 (by decide)
                  refine wpOp_plain rfl rfl ?_
                  go_wp2_with fail
                  exact hK _ _ (Fr.refl _ _) hC rfl
                · rw [if_neg (by decide)]; intro kq
                  exact calm_mv 127 rfl rfl (Or.inl rfl) (Fr.refl _) (by decide) fun v w hd => hd
                · rw [if_neg (by decide)]; intro kq
                  intro a W K hC hd hK
                  have d13 : a.tmps[13]?.getD undef = .pointer (some ⟨p13, 0, none⟩) := hd 13 (by decide)
                  have d128 : _ = _ := hd 128 (by decide)
                  first | (exact wpOp_skip rfl (wanted_of (want := false) (b := true) rfl rfl (by rw [eval_get]; exact d128)) (hK _ _ (Fr.refl _ _) hC rfl)) | (refine wpOp_want rfl (wanted_of (want := false) (b := false) rfl rfl (by rw [eval_get]; exact d128)) ?_)
                  all_goals (
                    obtain ⟨x0, x1, xf⟩ := BlkAt.c2 hC.2
                    go_wp2_with fail
                    exact hK _ _ (Fr.refl _ _) hC rfl)
                · rw [if_neg (by decide)]; intro kq
                  intro a W K hC hd hK
                  have d129 : _ = _ := hd 129 (by decide)
                  have d128 : _ = _ := hd 128 (by decide)
                  first | (exact wpOp_skip rfl (wanted_of (want := false) (b := true) rfl rfl (by rw [eval_get]; exact d128)) (hK _ _ (Fr.refl _ _) hC rfl)) | (refine wpOp_want rfl (wanted_of (want := false) (b := false) rfl rfl (by rw [eval_get]; exact d128)) ?_)
                  all_goals (
                    obtain ⟨x0, x1, xf⟩ := BlkAt.c2 hC.2
                    go_wp2_with fail
                    refine (hp3 W (hr3.fr0 hC.1) (fun ad e h => by have := hlt3 ad e h; have := hC.1.size; omega)).mono ?_
                    rintro e9 w9 ⟨A9, c9, rfl, h9, f9⟩
                    exact hK _ _ f9 ⟨hC.1.then' f9, hC.2.fr f9 id⟩ ⟨A9, m, c9, rfl, HM.out, own_row h9⟩)
                · rw [if_neg (by decide)]; intro kq
                  intro a W K hC hd hK
                  have d130 : (SlB b).V (a.tmps[130]?.getD undef) W := hd 130 (by decide)
                  have d128 : _ = _ := hd 128 (by decide)
                  first | (exact wpOp_skip rfl (wanted_of (want := false) (b := true) rfl rfl (by rw [eval_get]; exact d128)) (hK _ _ (Fr.refl _ _) hC rfl)) | (refine wpOp_want rfl (wanted_of (want := false) (b := false) rfl rfl (by rw [eval_get]; exact d128)) ?_)
                  all_goals (
                    obtain ⟨A9, m9, c9, d9, hm9, h9⟩ := d130
                    have hst := Tryd.toStr h9 hm9 c9
                    go_wp2_with fail
                    exact hK _ _ (Fr.refl _ _) hC rfl)
                · rw [if_neg (by decide)]; intro kq
                  intro a W K hC hd hK
                  have d2 : a.tmps[2]?.getD undef = .slice B m d := hd 2 (by decide)
                  have d128 : _ = _ := hd 128 (by decide)
                  first | (exact wpOp_skip rfl (wanted_of (want := false) (b := true) rfl rfl (by rw [eval_get]; exact d128)) (hK _ _ (Fr.refl _ _) hC rfl)) | (refine wpOp_want rfl (wanted_of (want := false) (b := false) rfl rfl (by rw [eval_get]; exact d128)) ?_)
                  all_goals (
                    go_wp2_with fail
                    exact hK _ _ (Fr.refl _ _) hC rfl)
                · rw [if_neg (by decide)]; intro kq
                  intro a W K hC hd hK
                  have d132 : _ = _ := hd 132 (by decide)
                  have d128 : _ = _ := hd 128 (by decide)
                  first | (exact wpOp_skip rfl (wanted_of (want := false) (b := true) rfl rfl (by rw [eval_get]; exact d128)) (hK _ _ (Fr.refl _ _) hC rfl)) | (refine wpOp_want rfl (wanted_of (want := false) (b := false) rfl rfl (by rw [eval_get]; exact d128)) ?_)
                  all_goals (
                    have hst := Tryd.toStr (hy.fr0 hC.1) HM.out d
                    go_wp2_with fail
                    exact hK _ _ (Fr.refl _ _) hC rfl)
                · rw [if_neg (by decide)]; intro kq
                  intro a W K hC hd hK
                  have d131 : a.tmps[131]?.getD undef = .string (mkS b) := hd 131 (by decide)
                  have d133 : _ = _ := hd 133 (by decide)
                  have d128 : _ = _ := hd 128 (by decide)
                  first | (exact wpOp_skip rfl (wanted_of (want := false) (b := true) rfl rfl (by rw [eval_get]; exact d128)) (hK _ _ (Fr.refl _ _) hC rfl)) | (refine wpOp_want rfl (wanted_of (want := false) (b := false) rfl rfl (by rw [eval_get]; exact d128)) ?_)
                  all_goals (
                    go_wp2_with fail
                    exact hK _ _ (Fr.refl _ _) hC rfl)
                · rw [if_neg (by decide)]; intro kq
                  intro a W K hC hd hK
                  have d128 : _ = _ := hd 128 (by decide)
                  have d134 : _ = _ := hd 134 (by decide)
                  refine wpOp_plain rfl rfl ?_
                  go_wp2_with fail
                  exact hK _ _ (Fr.refl _ _) hC rfl
                · rw [if_neg (by decide)]; intro kq
                  exact calm_mv 135 rfl rfl (Or.inr rfl) (Fr.refl _) (by decide) fun v w hd => hd
              · intro vs w15 fw15 cw15 hV
                have v126 : vs 0 = _ := hV 0 _ _ rfl rfl (by decide)
                have v127 : vs 1 = _ := hV 1 _ _ rfl rfl (by decide)
                have v128 : vs 2 = _ := hV 2 _ _ rfl rfl (by decide)
                have v129 : vs 3 = _ := hV 3 _ _ rfl rfl (by decide)
                have v130 : (SlB b).V (vs 4) w15 := hV 4 _ _ rfl rfl (by decide)
                have v131 : vs 5 = .string (mkS b) := hV 5 _ _ rfl rfl (by decide)
                have v132 : vs 6 = _ := hV 6 _ _ rfl rfl (by decide)
                have v133 : vs 7 = _ := hV 7 _ _ rfl rfl (by decide)
                have v134 : vs 8 = _ := hV 8 _ _ rfl rfl (by decide)
                have v135 : vs 9 = _ := hV 9 _ _ rfl rfl (by decide)
                have v6 : vs 10 = _ := hV 10 _ _ rfl rfl (by decide)
                clear hV
                simp only [putL, Act.put, Nat.reduceAdd, List.setIfInBounds_toArray, List.set_cons_zero, List.set_cons_succ, v126, v127, v128, v129, v131, v132, v133, v134, v135, v6]
                go_wp2_with fail
                go_ret
                exact BoolPost.mk' rfl (F14.then' fw15)
            · have t9 : ((f : Int) != 0) = true := by rw [bne_iff_ne]; omega
              clear hf
              go_upto_region 20 with fail
              apply wp_region_calm (R := Fr noB) (C := fun q W => Fr noB w14 W) [false, false, false, false, false, false, false, false, false, false, false]
                [eqv _, eqv _, eqv _, eqv _, eqv _, eqv _, eqv _, eqv _, eqv _, eqv _, eqv _]
                (by kernel_rfl) (by kernel_rfl) (fun _ _ _ h1 h2 => h1.then' h2) ((Fr.refl _ _).drew) ((Fr.refl _ _).drew) (by kernel_rfl)
              · refine ⟨?_, ?_, ?_, ?_, ?_, ?_, ?_, ?_, ?_, ?_, ?_, trivial⟩
                · rw [if_neg (by decide)]; intro kq
                  exact calm_mv 14 rfl rfl (Or.inl rfl) (Fr.refl _) (by decide) fun v w hd => hd
                · rw [if_neg (by decide)]; intro kq
                  intro a W K hC hd hK
                  have d126 : _ = _ := hd 126 (by decide)
                  refine wpOp_plain rfl rfl ?_
                  go_wp2_with fail
                  exact hK _ _ (Fr.refl _ _) hC rfl
                · rw [if_neg (by decide)]; intro kq
                  exact calm_mv 127 rfl rfl (Or.inl rfl) (Fr.refl _) (by decide) fun v w hd => hd
                · rw [if_neg (by decide)]; intro kq
                  intro a W K hC hd hK
                  have d13 : a.tmps[13]?.getD undef = .pointer (some ⟨p13, 0, none⟩) := hd 13 (by decide)
                  have d128 : _ = _ := hd 128 (by decide)
                  first | (exact wpOp_skip rfl (wanted_of (want := false) (b := true) rfl rfl (by rw [eval_get]; exact d128)) (hK _ _ (Fr.refl _ _) hC rfl)) | (refine wpOp_want rfl (wanted_of (want := false) (b := false) rfl rfl (by rw [eval_get]; exact d128)) ?_)
                  all_goals (
                    go_wp2_with fail
                    exact hK _ _ (Fr.refl _ _) hC rfl)
                · rw [if_neg (by decide)]; intro kq
                  intro a W K hC hd hK
                  have d129 : _ = _ := hd 129 (by decide)
                  have d128 : _ = _ := hd 128 (by decide)
                  first | (exact wpOp_skip rfl (wanted_of (want := false) (b := true) rfl rfl (by rw [eval_get]; exact d128)) (hK _ _ (Fr.refl _ _) hC rfl)) | (refine wpOp_want rfl (wanted_of (want := false) (b := false) rfl rfl (by rw [eval_get]; exact d128)) ?_)
                  all_goals (
                    go_wp2_with fail
                    exact hK _ _ (Fr.refl _ _) hC rfl)
                · rw [if_neg (by decide)]; intro kq
                  intro a W K hC hd hK
                  have d130 : _ = _ := hd 130 (by decide)
                  have d128 : _ = _ := hd 128 (by decide)
                  first | (exact wpOp_skip rfl (wanted_of (want := false) (b := true) rfl rfl (by rw [eval_get]; exact d128)) (hK _ _ (Fr.refl _ _) hC rfl)) | (refine wpOp_want rfl (wanted_of (want := false) (b := false) rfl rfl (by rw [eval_get]; exact d128)) ?_)
                  all_goals (
                    go_wp2_with fail
                    exact hK _ _ (Fr.refl _ _) hC rfl)
                · rw [if_neg (by decide)]; intro kq
                  intro a W K hC hd hK
                  have d2 : a.tmps[2]?.getD undef = .slice B m d := hd 2 (by decide)
                  have d128 : _ = _ := hd 128 (by decide)
                  first | (exact wpOp_skip rfl (wanted_of (want := false) (b := true) rfl rfl (by rw [eval_get]; exact d128)) (hK _ _ (Fr.refl _ _) hC rfl)) | (refine wpOp_want rfl (wanted_of (want := false) (b := false) rfl rfl (by rw [eval_get]; exact d128)) ?_)
                  all_goals (
                    go_wp2_with fail
                    exact hK _ _ (Fr.refl _ _) hC rfl)
                · rw [if_neg (by decide)]; intro kq
                  intro a W K hC hd hK
                  have d132 : _ = _ := hd 132 (by decide)
                  have d128 : _ = _ := hd 128 (by decide)
                  first | (exact wpOp_skip rfl (wanted_of (want := false) (b := true) rfl rfl (by rw [eval_get]; exact d128)) (hK _ _ (Fr.refl _ _) hC rfl)) | (refine wpOp_want rfl (wanted_of (want := false) (b := false) rfl rfl (by rw [eval_get]; exact d128)) ?_)
                  all_goals (
                    go_wp2_with fail
                    exact hK _ _ (Fr.refl _ _) hC rfl)
                · rw [if_neg (by decide)]; intro kq
                  intro a W K hC hd hK
                  have d131 : _ = _ := hd 131 (by decide)
                  have d133 : _ = _ := hd 133 (by decide)
                  have d128 : _ = _ := hd 128 (by decide)
                  first | (exact wpOp_skip rfl (wanted_of (want := false) (b := true) rfl rfl (by rw [eval_get]; exact d128)) (hK _ _ (Fr.refl _ _) hC rfl)) | (refine wpOp_want rfl (wanted_of (want := false) (b := false) rfl rfl (by rw [eval_get]; exact d128)) ?_)
                  all_goals (
                    go_wp2_with fail
                    exact hK _ _ (Fr.refl _ _) hC rfl)
                · rw [if_neg (by decide)]; intro kq
                  intro a W K hC hd hK
                  have d128 : _ = _ := hd 128 (by decide)
                  have d134 : _ = _ := hd 134 (by decide)
                  refine wpOp_plain rfl rfl ?_
                  go_wp2_with fail
                  exact hK _ _ (Fr.refl _ _) hC rfl
                · rw [if_neg (by decide)]; intro kq
                  exact calm_mv 135 rfl rfl (Or.inr rfl) (Fr.refl _) (by decide) fun v w hd => hd
              · intro vs w15 fw15 cw15 hV
                have v126 : vs 0 = _ := hV 0 _ _ rfl rfl (by decide)
                have v127 : vs 1 = _ := hV 1 _ _ rfl rfl (by decide)
                have v128 : vs 2 = _ := hV 2 _ _ rfl rfl (by decide)
                have v129 : vs 3 = _ := hV 3 _ _ rfl rfl (by decide)
                have v130 : vs 4 = _ := hV 4 _ _ rfl rfl (by decide)
                have v131 : vs 5 = _ := hV 5 _ _ rfl rfl (by decide)
                have v132 : vs 6 = _ := hV 6 _ _ rfl rfl (by decide)
                have v133 : vs 7 = _ := hV 7 _ _ rfl rfl (by decide)
                have v134 : vs 8 = _ := hV 8 _ _ rfl rfl (by decide)
                have v135 : vs 9 = _ := hV 9 _ _ rfl rfl (by decide)
                have v6 : vs 10 = _ := hV 10 _ _ rfl rfl (by decide)
                clear hV
                simp only [putL, Act.put, Nat.reduceAdd, List.setIfInBounds_toArray, List.set_cons_zero, List.set_cons_succ, v126, v127, v128, v129, v130, v131, v132, v133, v134, v135, v6]
                go_wp2_with fail
                go_ret
                exact BoolPost.mk' rfl (F14.then' fw15)
          · skip
            rw [if_neg h0] at hget
            have t0 : ((e : Int) != 0) = true := by rw [bne_iff_ne]; omega
            have t0' : ((e : Int) == 0) = false := by rw [beq_eq_false_iff_ne]; omega
            clear h0
            go_wp2_with fail
            refine hget.mono ?_
            rintro e0 w5 he5
            obtain ⟨A2, n2, c2, rfl, HN2, hr2, hlt2, hcap2, hcm2, f5⟩ := he5.use
            simp only [] at HN2 hr2
            clear he5 hget
            replace hx := hx.fr0 f5
            replace hy := hy.fr0 f5
            have hn20 : n2 = 0 := by have := HN2.out; simpa using this.symm
            subst hn20
            replace hb9 := (hb9.fr f5 id).al (.cells #[.int .i64 e, .slice A2 0 c2] 28)
            replace F3 := (F3.then' f5).alloc (.cells #[.int .i64 e, .slice A2 0 c2] 28)
            have hb11 : BlkAt (w5.alloc (.cells #[.int .i64 e, .slice A2 0 c2] 28)) w5.heap.size 28 #[.int .i64 e, .slice A2 0 c2] := BlkAt.new _ _ _
            replace hx := hx.fr0 ((Fr.refl noB w5).alloc (.cells #[.int .i64 e, .slice A2 0 c2] 28))
            replace hy := hy.fr0 ((Fr.refl noB w5).alloc (.cells #[.int .i64 e, .slice A2 0 c2] 28))
            replace hr2 := hr2.fr0 ((Fr.refl noB w5).alloc (.cells #[.int .i64 e, .slice A2 0 c2] 28))
            clear f5
            go_upto_region 14 with fail
            generalize w5.heap.size = p11 at *
            generalize (w5.alloc (.cells #[.int .i64 e, .slice A2 0 c2] 28)) = w6 at *
            obtain ⟨x0, x1, xf⟩ := BlkAt.c2 hb9
            obtain ⟨y0, y1, yf⟩ := BlkAt.c2 hb11
            have hsm1 : (decide (e = e) && (decide (e ≠ 0) || decide (([] : List ByteArray) = l))) = true := by rw [bne_iff_ne] at t0; simp; omega
            have hsm2 : (decide (e = e) && (decide (e ≠ 0) || decide (l = []))) = true := by rw [bne_iff_ne] at t0; simp; omega
            have hs1 := fun W hx hy => sameRep_calls W e e A2 A c2 c 0 k [] l hx hy rfl HN (by decide)
            have hs2 := fun W hx hy => sameRep_calls W e e A A2 c c2 k 0 l [] hx hy HN rfl (by have := HN.out; omega)
            rw [hsm1] at hs1
            rw [hsm2] at hs2
            clear hsm1 hsm2
            go_wp2_with fail
            refine (hs1 w6 hr2 hx).mono ?_
            rintro e0 w7 ⟨rfl, f9⟩
            replace hx := hx.fr0 f9
            replace hy := hy.fr0 f9
            replace hr2 := hr2.fr0 f9
            replace hb9 := hb9.fr f9 id
            replace hb11 := hb11.fr f9 id
            replace F3 := F3.then' f9
            clear f9 x0 x1 xf y0 y1 yf
            obtain ⟨x0, x1, xf⟩ := BlkAt.c2 hb9
            obtain ⟨y0, y1, yf⟩ := BlkAt.c2 hb11
            go_wp2_with fail
            refine (hs2 w7 hx hr2).mono ?_
            rintro e0 w8 ⟨rfl, f9⟩
            replace hx := hx.fr0 f9
            replace hy := hy.fr0 f9
            replace hr2 := hr2.fr0 f9
            replace hb9 := hb9.fr f9 id
            replace hb11 := hb11.fr f9 id
            replace F3 := F3.then' f9
            clear f9 x0 x1 xf y0 y1 yf
            obtain ⟨x0, x1, xf⟩ := BlkAt.c2 hb9
            obtain ⟨y0, y1, yf⟩ := BlkAt.c2 hb11
            clear hs1 hs2
            have hgb := fun W hy => opGet_calls W B m d b hy HM.out hB (by omega)
            have hgr := fun W => opGetR_calls W b (by have := HM.out; omega)
            have hok : (repGet b).2 = 0 → (repGet b).1.1 < 256 ∧ repB (repGet b).1.1 (repGet b).1.2 = b ∧ (repGet b).1.2.length ≤ 400 ∧ ∀ s ∈ (repGet b).1.2, s.size ≤ 400 := fun h => repGet_ok (by rw [← h])
            generalize repGet b = q at *
            obtain ⟨⟨e2, l2⟩, f⟩ := q
            simp only [] at hok hgb hgr
            have HOK := hid hok
            clear hok
            go_wp2_with fail
            refine (hgb w8 hy).mono ?_
            rintro e0 w10 he10
            obtain ⟨A3, n3, c3, rfl, HN3, hr3, hlt3, hcap3, hcm3, f10⟩ := he10.use
            simp only [] at HN3 hr3
            clear he10 hgb
            replace hy := hy.fr0 f10
            replace hb9 := hb9.fr f10 id
            have F10 := (F3.then' f10).alloc (.cells #[.int .i64 e2, .slice A3 n3 c3] 28)
            have hb13 : BlkAt (w10.alloc (.cells #[.int .i64 e2, .slice A3 n3 c3] 28)) w10.heap.size 28 #[.int .i64 e2, .slice A3 n3 c3] := BlkAt.new _ _ _
            replace hy := hy.fr0 ((Fr.refl noB w10).alloc (.cells #[.int .i64 e2, .slice A3 n3 c3] 28))
            replace hr3 := hr3.fr0 ((Fr.refl noB w10).alloc (.cells #[.int .i64 e2, .slice A3 n3 c3] 28))
            replace hlt3 : ∀ ad, A3 = some ad → 0 < n3 → ad.block < (w10.alloc (.cells #[.int .i64 e2, .slice A3 n3 c3] 28)).heap.size := fun ad e h => by have := hlt3 ad e h; rw [al_size]; omega
            clear f10 F3 hb9 hb11 x0 x1 xf y0 y1 yf hr2 hx
            go_upto_region 17 with fail
            generalize w10.heap.size = p13 at *
            generalize (w10.alloc (.cells #[.int .i64 e2, .slice A3 n3 c3] 28)) = w11 at *
            have hst := Tryd.toStr hy HM.out d
            go_wp2_with fail
            refine (hgr w11).mono ?_
            rintro e0 w12 ⟨A4, n4, c4, rfl, HN4, hr4, _, f12⟩
            simp only [] at HN4 hr4
            replace hy := (hy.fr0 f12).fr0 ((Fr.refl noB w12).alloc (.cells #[.int .i64 e2, .slice A4 n4 c4] 103))
            replace hr3 := (hr3.fr0 f12).fr0 ((Fr.refl noB w12).alloc (.cells #[.int .i64 e2, .slice A4 n4 c4] 103))
            replace hr4 := hr4.fr0 ((Fr.refl noB w12).alloc (.cells #[.int .i64 e2, .slice A4 n4 c4] 103))
            replace hlt3 : ∀ ad, A3 = some ad → 0 < n3 → ad.block < (w12.alloc (.cells #[.int .i64 e2, .slice A4 n4 c4] 103)).heap.size := fun ad e h => by have := hlt3 ad e h; have := f12.size; rw [al_size]; omega
            replace hb13 := (hb13.fr f12 id).al (.cells #[.int .i64 e2, .slice A4 n4 c4] 103)
            have hb15 : BlkAt (w12.alloc (.cells #[.int .i64 e2, .slice A4 n4 c4] 103)) w12.heap.size 103 #[.int .i64 e2, .slice A4 n4 c4] := BlkAt.new _ _ _
            have F13 := (F10.then' f12).alloc (.cells #[.int .i64 e2, .slice A4 n4 c4] 103)
            clear f12 F10 hst hgr
            go_upto_region 18 with fail
            generalize w12.heap.size = p15 at *
            generalize (w12.alloc (.cells #[.int .i64 e2, .slice A4 n4 c4] 103)) = w13 at *
            have hst3 := fun W hx hy => sameTexts_calls W A3 A4 c3 c4 n3 n4 l2 l2 hx hy HN3 HN4 (by omega)
            rw [decide_eq_true rfl] at hst3
            obtain ⟨x0, x1, xf⟩ := BlkAt.c2 hb13
            obtain ⟨y0, y1, yf⟩ := BlkAt.c2 hb15
            go_wp2_with fail
            refine (hst3 w13 hr3 hr4).mono ?_
            rintro e0 w14 ⟨rfl, f14⟩
            have F14 := F13.then' f14
            replace hy := hy.fr0 f14
            replace hr3 := hr3.fr0 f14
            replace hb13 := hb13.fr f14 id
            replace hlt3 : ∀ ad, A3 = some ad → 0 < n3 → ad.block < w14.heap.size := fun ad e h => by have := hlt3 ad e h; have := f14.size; omega
            clear f14 F13 x0 x1 xf y0 y1 yf hr4 hb15 hst3
            by_cases hf : f = 0
            · have t9 : ((f : Int) != 0) = false := by rw [bne_eq_false_iff_eq]; omega
              obtain ⟨g1, g2, g3, g4⟩ := HOK.out hf
              have hsum2 : sumSz l2 ≤ 1000000 := by have := sumSz_few l2 400 g4; have := HN3.out; omega
              have hp3 := fun W hx hA => opPut_calls W e2 A3 n3 c3 l2 g1 hx HN3.out hcap3 hcm3 (by omega) hA
              rw [g2] at hp3
              unfold BytesPost at hp3
              rw [HM.out] at hp3
              clear hf g1 g2 g3 g4
              go_upto_region 20 with fail
              apply wp_region_calm (R := Fr noB) (C := fun q W => Fr noB w14 W ∧ BlkAt W p13 28 #[.int .i64 e2, .slice A3 n3 c3]) [false, false, false, false, false, false, false, false, false, false, false]
                [eqv _, eqv _, eqv _, eqv _, SlB b, eqv (.string (mkS b)), eqv _, eqv _, eqv _, eqv _, eqv _]
                (by kernel_rfl) (by kernel_rfl) (fun _ _ _ h1 h2 => h1.then' h2) ((Fr.refl _ _).drew) ⟨(Fr.refl _ _).drew, hb13⟩ (by kernel_rfl)
              · refine ⟨?_, ?_, ?_, ?_, ?_, ?_, ?_, ?_, ?_, ?_, ?_, trivial⟩
                · rw [if_neg (by decide)]; intro kq
                  exact calm_mv 14 rfl rfl (Or.inl rfl) (Fr.refl _) (by decide) fun v w hd => hd
                · rw [if_neg (by decide)]; intro kq
                  intro a W K hC hd hK
                  have d126 : _ = _ := hd 126 (by decide)
                  refine wpOp_plain rfl rfl ?_
                  go_wp2_with fail
                  exact hK _ _ (Fr.refl _ _) hC rfl
                · rw [if_neg (by decide)]; intro kq
                  exact calm_mv 127 rfl rfl (Or.inl rfl) (Fr.refl _) (by decide) fun v w hd => hd
                · rw [if_neg (by decide)]; intro kq
                  intro a W K hC hd hK
                  have d13 : a.tmps[13]?.getD undef = .pointer (some ⟨p13, 0, none⟩) := hd 13 (by decide)
                  have d128 : _ = _ := hd 128 (by decide)
                  first | (exact wpOp_skip rfl (wanted_of (want := false) (b := true) rfl rfl (by rw [eval_get]; exact d128)) (hK _ _ (Fr.refl _ _) hC rfl)) | (refine wpOp_want rfl (wanted_of (want := false) (b := false) rfl rfl (by rw [eval_get]; exact d128)) ?_)
                  all_goals (
                    obtain ⟨x0, x1, xf⟩ := BlkAt.c2 hC.2
                    go_wp2_with fail
                    exact hK _ _ (Fr.refl _ _) hC rfl)
                · rw [if_neg (by decide)]; intro kq
                  intro a W K hC hd hK
                  have d129 : _ = _ := hd 129 (by decide)
                  have d128 : _ = _ := hd 128 (by decide)
                  first | (exact wpOp_skip rfl (wanted_of (want := false) (b := true) rfl rfl (by rw [eval_get]; exact d128)) (hK _ _ (Fr.refl _ _) hC rfl)) | (refine wpOp_want rfl (wanted_of (want := false) (b := false) rfl rfl (by rw [eval_get]; exact d128)) ?_)
                  all_goals (
                    obtain ⟨x0, x1, xf⟩ := BlkAt.c2 hC.2
                    go_wp2_with fail
                    refine (hp3 W (hr3.fr0 hC.1) (fun ad e h => by have := hlt3 ad e h; have := hC.1.size; omega)).mono ?_
                    rintro e9 w9 ⟨A9, c9, rfl, h9, f9⟩
                    exact hK _ _ f9 ⟨hC.1.then' f9, hC.2.fr f9 id⟩ ⟨A9, m, c9, rfl, HM.out, own_row h9⟩)
                · rw [if_neg (by decide)]; intro kq
                  intro a W K hC hd hK
                  have d130 : (SlB b).V (a.tmps[130]?.getD undef) W := hd 130 (by decide)
                  have d128 : _ = _ := hd 128 (by decide)
                  first | (exact wpOp_skip rfl (wanted_of (want := false) (b := true) rfl rfl (by rw [eval_get]; exact d128)) (hK _ _ (Fr.refl _ _) hC rfl)) | (refine wpOp_want rfl (wanted_of (want := false) (b := false) rfl rfl (by rw [eval_get]; exact d128)) ?_)
                  all_goals (
                    obtain ⟨A9, m9, c9, d9, hm9, h9⟩ := d130
                    have hst := Tryd.toStr h9 hm9 c9
                    go_wp2_with fail
                    exact hK _ _ (Fr.refl _ _) hC rfl)
                · rw [if_neg (by decide)]; intro kq
                  intro a W K hC hd hK
                  have d2 : a.tmps[2]?.getD undef = .slice B m d := hd 2 (by decide)
                  have d128 : _ = _ := hd 128 (by decide)
                  first | (exact wpOp_skip rfl (wanted_of (want := false) (b := true) rfl rfl (by rw [eval_get]; exact d128)) (hK _ _ (Fr.refl _ _) hC rfl)) | (refine wpOp_want rfl (wanted_of (want := false) (b := false) rfl rfl (by rw [eval_get]; exact d128)) ?_)
                  all_goals (
                    go_wp2_with fail
                    exact hK _ _ (Fr.refl _ _) hC rfl)
                · rw [if_neg (by decide)]; intro kq
                  intro a W K hC hd hK
                  have d132 : _ = _ := hd 132 (by decide)
                  have d128 : _ = _ := hd 128 (by decide)
                  first | (exact wpOp_skip rfl (wanted_of (want := false) (b := true) rfl rfl (by rw [eval_get]; exact d128)) (hK _ _ (Fr.refl _ _) hC rfl)) | (refine wpOp_want rfl (wanted_of (want := false) (b := false) rfl rfl (by rw [eval_get]; exact d128)) ?_)
                  all_goals (
                    have hst := Tryd.toStr (hy.fr0 hC.1) HM.out d
                    go_wp2_with fail
                    exact hK _ _ (Fr.refl _ _) hC rfl)
                · rw [if_neg (by decide)]; intro kq
                  intro a W K hC hd hK
                  have d131 : a.tmps[131]?.getD undef = .string (mkS b) := hd 131 (by decide)
                  have d133 : _ = _ := hd 133 (by decide)
                  have d128 : _ = _ := hd 128 (by decide)
                  first | (exact wpOp_skip rfl (wanted_of (want := false) (b := true) rfl rfl (by rw [eval_get]; exact d128)) (hK _ _ (Fr.refl _ _) hC rfl)) | (refine wpOp_want rfl (wanted_of (want := false) (b := false) rfl rfl (by rw [eval_get]; exact d128)) ?_)
                  all_goals (
                    go_wp2_with fail
                    exact hK _ _ (Fr.refl _ _) hC rfl)
                · rw [if_neg (by decide)]; intro kq
                  intro a W K hC hd hK
                  have d128 : _ = _ := hd 128 (by decide)
                  have d134 : _ = _ := hd 134 (by decide)
                  refine wpOp_plain rfl rfl ?_
                  go_wp2_with fail
                  exact hK _ _ (Fr.refl _ _) hC rfl
                · rw [if_neg (by decide)]; intro kq
                  exact calm_mv 135 rfl rfl (Or.inr rfl) (Fr.refl _) (by decide) fun v w hd => hd
              · intro vs w15 fw15 cw15 hV
                have v126 : vs 0 = _ := hV 0 _ _ rfl rfl (by decide)
                have v127 : vs 1 = _ := hV 1 _ _ rfl rfl (by decide)
                have v128 : vs 2 = _ := hV 2 _ _ rfl rfl (by decide)
                have v129 : vs 3 = _ := hV 3 _ _ rfl rfl (by decide)
                have v130 : (SlB b).V (vs 4) w15 := hV 4 _ _ rfl rfl (by decide)
                have v131 : vs 5 = .string (mkS b) := hV 5 _ _ rfl rfl (by decide)
                have v132 : vs 6 = _ := hV 6 _ _ rfl rfl (by decide)
                have v133 : vs 7 = _ := hV 7 _ _ rfl rfl (by decide)
                have v134 : vs 8 = _ := hV 8 _ _ rfl rfl (by decide)
                have v135 : vs 9 = _ := hV 9 _ _ rfl rfl (by decide)
                have v6 : vs 10 = _ := hV 10 _ _ rfl rfl (by decide)
                clear hV
                simp only [putL, Act.put, Nat.reduceAdd, List.setIfInBounds_toArray, List.set_cons_zero, List.set_cons_succ, v126, v127, v128, v129, v131, v132, v133, v134, v135, v6]
                go_wp2_with fail
                go_ret
                exact BoolPost.mk' rfl (F14.then' fw15)
            · have t9 : ((f : Int) != 0) = true := by rw [bne_iff_ne]; omega
              clear hf
              go_upto_region 20 with fail
              apply wp_region_calm (R := Fr noB) (C := fun q W => Fr noB w14 W) [false, false, false, false, false, false, false, false, false, false, false]
                [eqv _, eqv _, eqv _, eqv _, eqv _, eqv _, eqv _, eqv _, eqv _, eqv _, eqv _]
                (by kernel_rfl) (by kernel_rfl) (fun _ _ _ h1 h2 => h1.then' h2) ((Fr.refl _ _).drew) ((Fr.refl _ _).drew) (by kernel_rfl)
              · refine ⟨?_, ?_, ?_, ?_, ?_, ?_, ?_, ?_, ?_, ?_, ?_, trivial⟩
                · rw [if_neg (by decide)]; intro kq
                  exact calm_mv 14 rfl rfl (Or.inl rfl) (Fr.refl _) (by decide) fun v w hd => hd
                · rw [if_neg (by decide)]; intro kq
                  intro a W K hC hd hK
                  have d126 : _ = _ := hd 126 (by decide)
                  refine wpOp_plain rfl rfl ?_
                  go_wp2_with fail
                  exact hK _ _ (Fr.refl _ _) hC rfl
                · rw [if_neg (by decide)]; intro kq
                  exact calm_mv 127 rfl rfl (Or.inl rfl) (Fr.refl _) (by decide) fun v w hd => hd
                · rw [if_neg (by decide)]; intro kq
                  intro a W K hC hd hK
                  have d13 : a.tmps[13]?.getD undef = .pointer (some ⟨p13, 0, none⟩) := hd 13 (by decide)
                  have d128 : _ = _ := hd 128 (by decide)
                  first | (exact wpOp_skip rfl (wanted_of (want := false) (b := true) rfl rfl (by rw [eval_get]; exact d128)) (hK _ _ (Fr.refl _ _) hC rfl)) | (refine wpOp_want rfl (wanted_of (want := false) (b := false) rfl rfl (by rw [eval_get]; exact d128)) ?_)
                  all_goals (
                    go_wp2_with fail
                    exact hK _ _ (Fr.refl _ _) hC rfl)
                · rw [if_neg (by decide)]; intro kq
                  intro a W K hC hd hK
                  have d129 : _ = _ := hd 129 (by decide)
                  have d128 : _ = _ := hd 128 (by decide)
                  first | (exact wpOp_skip rfl (wanted_of (want := false) (b := true) rfl rfl (by rw [eval_get]; exact d128)) (hK _ _ (Fr.refl _ _) hC rfl)) | (refine wpOp_want rfl (wanted_of (want := false) (b := false) rfl rfl (by rw [eval_get]; exact d128)) ?_)
                  all_goals (
                    go_wp2_with fail
                    exact hK _ _ (Fr.refl _ _) hC rfl)
                · rw [if_neg (by decide)]; intro kq
                  intro a W K hC hd hK
                  have d130 : _ = _ := hd 130 (by decide)
                  have d128 : _ = _ := hd 128 (by decide)
                  first | (exact wpOp_skip rfl (wanted_of (want := false) (b := true) rfl rfl (by rw [eval_get]; exact d128)) (hK _ _ (Fr.refl _ _) hC rfl)) | (refine wpOp_want rfl (wanted_of (want := false) (b := false) rfl rfl (by rw [eval_get]; exact d128)) ?_)
                  all_goals (
                    go_wp2_with fail
                    exact hK _ _ (Fr.refl _ _) hC rfl)
                · rw [if_neg (by decide)]; intro kq
                  intro a W K hC hd hK
                  have d2 : a.tmps[2]?.getD undef = .slice B m d := hd 2 (by decide)
                  have d128 : _ = _ := hd 128 (by decide)
                  first | (exact wpOp_skip rfl (wanted_of (want := false) (b := true) rfl rfl (by rw [eval_get]; exact d128)) (hK _ _ (Fr.refl _ _) hC rfl)) | (refine wpOp_want rfl (wanted_of (want := false) (b := false) rfl rfl (by rw [eval_get]; exact d128)) ?_)
                  all_goals (
                    go_wp2_with fail
                    exact hK _ _ (Fr.refl _ _) hC rfl)
                · rw [if_neg (by decide)]; intro kq
                  intro a W K hC hd hK
                  have d132 : _ = _ := hd 132 (by decide)
                  have d128 : _ = _ := hd 128 (by decide)
                  first | (exact wpOp_skip rfl (wanted_of (want := false) (b := true) rfl rfl (by rw [eval_get]; exact d128)) (hK _ _ (Fr.refl _ _) hC rfl)) | (refine wpOp_want rfl (wanted_of (want := false) (b := false) rfl rfl (by rw [eval_get]; exact d128)) ?_)
                  all_goals (
                    go_wp2_with fail
                    exact hK _ _ (Fr.refl _ _) hC rfl)
                · rw [if_neg (by decide)]; intro kq
                  intro a W K hC hd hK
                  have d131 : _ = _ := hd 131 (by decide)
                  have d133 : _ = _ := hd 133 (by decide)
                  have d128 : _ = _ := hd 128 (by decide)
                  first | (exact wpOp_skip rfl (wanted_of (want := false) (b := true) rfl rfl (by rw [eval_get]; exact d128)) (hK _ _ (Fr.refl _ _) hC rfl)) | (refine wpOp_want rfl (wanted_of (want := false) (b := false) rfl rfl (by rw [eval_get]; exact d128)) ?_)
                  all_goals (
                    go_wp2_with fail
                    exact hK _ _ (Fr.refl _ _) hC rfl)
                · rw [if_neg (by decide)]; intro kq
                  intro a W K hC hd hK
                  have d128 : _ = _ := hd 128 (by decide)
                  have d134 : _ = _ := hd 134 (by decide)
                  refine wpOp_plain rfl rfl ?_
                  go_wp2_with fail
                  exact hK _ _ (Fr.refl _ _) hC rfl
                · rw [if_neg (by decide)]; intro kq
                  exact calm_mv 135 rfl rfl (Or.inr rfl) (Fr.refl _) (by decide) fun v w hd => hd
              · intro vs w15 fw15 cw15 hV
                have v126 : vs 0 = _ := hV 0 _ _ rfl rfl (by decide)
                have v127 : vs 1 = _ := hV 1 _ _ rfl rfl (by decide)
                have v128 : vs 2 = _ := hV 2 _ _ rfl rfl (by decide)
                have v129 : vs 3 = _ := hV 3 _ _ rfl rfl (by decide)
                have v130 : vs 4 = _ := hV 4 _ _ rfl rfl (by decide)
                have v131 : vs 5 = _ := hV 5 _ _ rfl rfl (by decide)
                have v132 : vs 6 = _ := hV 6 _ _ rfl rfl (by decide)
                have v133 : vs 7 = _ := hV 7 _ _ rfl rfl (by decide)
                have v134 : vs 8 = _ := hV 8 _ _ rfl rfl (by decide)
                have v135 : vs 9 = _ := hV 9 _ _ rfl rfl (by decide)
                have v6 : vs 10 = _ := hV 10 _ _ rfl rfl (by decide)
                clear hV
                simp only [putL, Act.put, Nat.reduceAdd, List.setIfInBounds_toArray, List.set_cons_zero, List.set_cons_succ, v126, v127, v128, v129, v130, v131, v132, v133, v134, v135, v6]
                go_wp2_with fail
                go_ret
                exact BoolPost.mk' rfl (F14.then' fw15)
theorem opReplies_law (w : World) (ht : SignsAt w) (a : Int) (wa : (Lit.int .u8 a).wf = true) (A : Option Addr) (n c : Nat) (l : List ByteArray) (ol : RowAt w A (strs l) ∧ l.length = n ∧ n ≤ c ∧ c ≤ maxLen ∧ (∀ s ∈ l, s.size ≤ maxLen) ∧ (A = none → n = 0 ∧ c = 0))
    (B : Option Addr) (m d : Nat) (b : List UInt8) (ob : RowAt w B (bcells b) ∧ b.length = m ∧ m ≤ d ∧ d ≤ maxLen ∧ (B = none → m = 0 ∧ d = 0)) :
    Calls Tryd.prog 10 #[.int .u8 a, .slice A n c, .slice B m d] w (BoolPost w true) := by
  simp [Lit.wf, IntKind.min, IntKind.max, IntKind.bits, IntKind.signed] at wa
  obtain ⟨a', rfl⟩ : ∃ x : Nat, a = x := ⟨a.toNat, by omega⟩
  obtain ⟨h1, h2, h3, h4, _⟩ := ol
  unfold maxLen at *
  exact opReplies_walk w ht a' A n c l h1 h2 h3 (by omega) B m d b ob.1 ob.2.1 ob.2.2.2.2
end Go.Proofs.YtcaihinenfnekaaDoor
