/- SlotSafe's walk. -/
import Derived.Test.YtnkdlmmdaagonaaSlotL3
import Derived.Test.YtnkdlmmdaagonaaSlot6
import Derived.Test.YtnkdlmmdaagonaaSlot8
import Derived.Test.YtnkdlmmdaagonaaFew
import Derived.Test.YtnkdlmmdaagonaaOpenActK
import Derived.Deep.Cut
namespace Go.Proofs.Ytnkdlmmdaagonaa
open Go.RowKit
/-- Some bytes in new memory. -/
def FilV (base : Nat) (X : List UInt8) (v : Value) (W : World) : Prop := ∃ A m c, v = .slice A m c ∧ Hid (X.length = m) ∧ m < 6000 ∧ m ≤ c ∧ c ≤ 9223372036854775807 ∧ (A = none → m = 0 ∧ c = 0) ∧ RowAt W A (bcells X) ∧ ∀ ad, A = some ad → base ≤ ad.block
def FilS (base : Nat) : Stb (Fr noB) := ⟨fun v W => ∃ X, FilV base X v W, fun v W W' ⟨X, A, m, c, h1, h2, h3, h4, h5, h6, h7, h8⟩ f => ⟨X, A, m, c, h1, h2, h3, h4, h5, h6, h7.fr0 f, h8⟩⟩
set_option maxRecDepth 100000 in
set_option maxHeartbeats 12800000 in
theorem slotSafe_walk (w : World) (a b : ActK) (ha : a.ok w) (hb : b.ok w) (wh : Nat) (hwh : wh < 256) (af : Int) (haf : -9223372036854775808 ≤ af ∧ af ≤ 9223372036854775807) (mk : Nat) (hmk : mk ≤ 18446744073709551615) :
    Calls Try.prog 5 #[.agg a.C.toArray, .agg b.C.toArray, .int .u8 wh, .int .i64 af, .int .u64 mk] w (BoolPost w true) := by
  have f0 := ((Fr.refl noB w).alloc (.cells a.C.toArray 25)).alloc (.cells b.C.toArray 25)
  have b5 := (BlkAt.new w a.C.toArray 25).al (.cells b.C.toArray 25)
  have b6 := BlkAt.new (w.alloc (.cells a.C.toArray 25)) b.C.toArray 25
  simp only [al_size] at b6
  have hlv := fun W => lives24_calls W
  have hfw := fun W A c hr => few24_calls W A 2 c [a, b] hr rfl (by omega)
  have hfa := fun W (f : Fr noB w W) h2 => filled_calls W a ⟨ha.kind, ha.slot, ha.n, ha.row.fr0 f, ha.len, ha.cap, ha.max, ha.nil, ha.mask⟩ h2
  have hfb := fun W (f : Fr noB w W) h2 => filled_calls W b ⟨hb.kind, hb.slot, hb.n, hb.row.fr0 f, hb.len, hb.cap, hb.max, hb.nil, hb.mask⟩ h2
  have HFW : Hid (fewA [a, b] = (decide (a.m ≤ 200) && decide (b.m ≤ 200))) := by unfold Hid fewA; simp
  have hrow2 : ∀ W : World, RowAt (W.alloc (.cells (a.C ++ b.C).toArray 25)) (some ⟨W.heap.size, 0, none⟩) ([a, b].flatMap ActK.C) := fun W => by
    have h := new_row W (a.C ++ b.C).toArray 25
    simpa using h
  obtain ⟨ak, asl, an, aA, am, ac, ab, amk⟩ := a
  obtain ⟨bk, bsl, bn, bA, bm, bc, bb, bmk⟩ := b
  obtain ⟨few, hfew⟩ : ∃ v, fewA [(⟨ak, asl, an, aA, am, ac, ab, amk⟩ : ActK), ⟨bk, bsl, bn, bA, bm, bc, bb, bmk⟩] = v := ⟨_, rfl⟩
  rw [hfew] at HFW hfw
  clear hfew ha hb
  unfold ActK.C at *
  simp only [List.cons_append, List.nil_append] at *
  have hlv1 := hlv (((w.alloc (.cells #[.int .u8 ak, .int .u8 asl, .int .i64 an, .slice aA am ac, .int .u64 amk] 25)).alloc (.cells #[.int .u8 bk, .int .u8 bsl, .int .i64 bn, .slice bA bm bc, .int .u64 bmk] 25)))
  go_enter Try.func5, Try.ntmps5
  go_upto_region 1 with fail
  generalize ((w.alloc (.cells #[.int .u8 ak, .int .u8 asl, .int .i64 an, .slice aA am ac, .int .u64 amk] 25)).alloc (.cells #[.int .u8 bk, .int .u8 bsl, .int .i64 bn, .slice bA bm bc, .int .u64 bmk] 25)) = wa at *
  go_wp2_with fail
  refine hlv1.mono ?_
  rintro ed w1 ⟨rfl, f1⟩
  have F1 := f0.then' f1
  replace b5 := b5.fr f1 id
  replace b6 := b6.fr f1 id
  clear hlv1 f0 f1
  obtain ⟨x0, x1, x2, x3, x4, xf⟩ := BlkAt.c5 b5
  obtain ⟨y0, y1, y2, y3, y4, yf⟩ := BlkAt.c5 b6
  have fr := (Fr.refl noB w1).alloc (.cells #[.int .u8 ak, .int .u8 asl, .int .i64 an, .slice aA am ac, .int .u64 amk, .int .u8 bk, .int .u8 bsl, .int .i64 bn, .slice bA bm bc, .int .u64 bmk] 25)
  have hfw1 := hfw _ _ 2 (hrow2 w1)
  clear hfw hrow2
  go_wp2_with fail
  refine hfw1.mono ?_
  rintro ed w2 ⟨rfl, f2⟩
  have F2 := (F1.then' fr).then' f2
  replace b5 := (b5.fr fr id).fr f2 id
  replace b6 := (b6.fr fr id).fr f2 id
  clear hfw1 F1 fr f2 x0 x1 x2 x3 x4 xf y0 y1 y2 y3 y4 yf
  cases few
  · have hlv2 := hlv w2
    clear hlv
    go_wp2_with fail
    refine hlv2.mono ?_
    rintro ed w3 ⟨rfl, f3⟩
    go_wp2_with fail
    go_ret
    exact ⟨rfl, F2.then' f3⟩
  · have h2 : am ≤ 200 ∧ bm ≤ 200 := by
      have := HFW.out
      simp only [Bool.true_eq, Bool.and_eq_true, decide_eq_true_eq] at this
      exact this
    clear HFW hlv
    obtain ⟨sw, hsw⟩ : ∃ z, wh % 2 = z := ⟨_, rfl⟩
    have esw : (wh : Int) % 2 = (sw : Nat) := by omega
    have hsw2 : sw ≤ 1 := by omega
    clear hsw
    have hfa' := fun W f => hfa W f h2.1
    have hfb' := fun W f => hfb W f h2.2
    clear hfa hfb
    go_wp2_with fail
    apply wp_region_calm (R := Fr noB) (C := fun _ W => Fr noB w2 W) [false, false, false, false, false, false]
      [eqv (.agg #[.int .u8 ak, .int .u8 asl, .int .i64 an, .slice aA am ac, .int .u64 amk]), FilS w.heap.size, eqv (.agg #[.int .u8 bk, .int .u8 bsl, .int .i64 bn, .slice bA bm bc, .int .u64 bmk]), FilS w.heap.size, FilS w.heap.size, FilS w.heap.size]
      (by kernel_rfl) (by kernel_rfl) (fun _ _ _ h1 h2 => h1.then' h2) ((Fr.refl _ _).drew) ((Fr.refl _ _).drew) (by kernel_rfl)
    · refine ⟨?_, ?_, ?_, ?_, ?_, ?_, trivial⟩
      · rw [if_neg (by decide)]; intro kq
        intro a W K hC hd hK
        have d5 : a.tmps[5]?.getD undef = .pointer (some ⟨w.heap.size, 0, none⟩) := hd 5 (by decide)
        refine wpOp_plain rfl rfl ?_
        obtain ⟨x0, x1, x2, x3, x4, xf⟩ := BlkAt.c5 (b5.fr hC id)
        obtain ⟨y0, y1, y2, y3, y4, yf⟩ := BlkAt.c5 (b6.fr hC id)
        go_wp2_with fail
        exact hK _ _ (Fr.refl _ _) hC rfl
      · rw [if_neg (by decide)]; intro kq
        intro a W K hC hd hK
        have d37 : a.tmps[37]?.getD undef = .agg #[.int .u8 ak, .int .u8 asl, .int .i64 an, .slice aA am ac, .int .u64 amk] := hd 37 (by decide)
        refine wpOp_plain rfl rfl ?_
        obtain ⟨x0, x1, x2, x3, x4, xf⟩ := BlkAt.c5 (b5.fr hC id)
        obtain ⟨y0, y1, y2, y3, y4, yf⟩ := BlkAt.c5 (b6.fr hC id)
        go_wp2_with fail
        refine (hfa' W (F2.then' hC)).mono ?_
        rintro e9 w9 ⟨X9, A9, m9, c9, rfl, q1, q2, q3, q4, q5, q6, q7, f9⟩
        exact hK _ _ f9 (hC.then' f9) ⟨X9, A9, m9, c9, rfl, q1, q2, q3, q4, q5, q6, fun ad e => Nat.le_trans (F2.then' hC).size (q7 ad e)⟩
      · rw [if_neg (by decide)]; intro kq
        intro a W K hC hd hK
        have d6 : a.tmps[6]?.getD undef = .pointer (some ⟨w.heap.size + 1, 0, none⟩) := hd 6 (by decide)
        refine wpOp_plain rfl rfl ?_
        obtain ⟨x0, x1, x2, x3, x4, xf⟩ := BlkAt.c5 (b5.fr hC id)
        obtain ⟨y0, y1, y2, y3, y4, yf⟩ := BlkAt.c5 (b6.fr hC id)
        go_wp2_with fail
        exact hK _ _ (Fr.refl _ _) hC rfl
      · rw [if_neg (by decide)]; intro kq
        intro a W K hC hd hK
        have d39 : a.tmps[39]?.getD undef = .agg #[.int .u8 bk, .int .u8 bsl, .int .i64 bn, .slice bA bm bc, .int .u64 bmk] := hd 39 (by decide)
        refine wpOp_plain rfl rfl ?_
        obtain ⟨x0, x1, x2, x3, x4, xf⟩ := BlkAt.c5 (b5.fr hC id)
        obtain ⟨y0, y1, y2, y3, y4, yf⟩ := BlkAt.c5 (b6.fr hC id)
        go_wp2_with fail
        refine (hfb' W (F2.then' hC)).mono ?_
        rintro e9 w9 ⟨X9, A9, m9, c9, rfl, q1, q2, q3, q4, q5, q6, q7, f9⟩
        exact hK _ _ f9 (hC.then' f9) ⟨X9, A9, m9, c9, rfl, q1, q2, q3, q4, q5, q6, fun ad e => Nat.le_trans (F2.then' hC).size (q7 ad e)⟩
      · rw [if_neg (by decide)]; intro kq
        exact calm_mv 38 rfl rfl (Or.inr rfl) (Fr.refl _) (by decide) fun v w hd => hd
      · rw [if_neg (by decide)]; intro kq
        exact calm_mv 40 rfl rfl (Or.inr rfl) (Fr.refl _) (by decide) fun v w hd => hd
    · intro vs w3 fw3 cw3 hV
      have v11 : (FilS w.heap.size).V (vs 4) w3 := hV 4 _ _ rfl rfl (by decide)
      have v12 : (FilS w.heap.size).V (vs 5) w3 := hV 5 _ _ rfl rfl (by decide)
      clear hV
      simp only [putL, Act.put, Nat.reduceAdd, List.setIfInBounds_toArray, List.set_cons_zero, List.set_cons_succ]
      obtain ⟨X, A1, m1, c1, e1, hl1, hm1, hc1, hx1, hn1, hr1, hb1⟩ := v11
      obtain ⟨Y, A2, m2, c2, e2, hl2, hm2, hc2, hx2, hn2, hr2, hb2⟩ := v12
      rw [e1, e2]
      have F3 := F2.then' cw3
      clear e1 e2 cw3 fw3 F2 hfa' hfb' b5 b6
      go_wp2_with fail
      refine (new_calls w3 122 (by omega)).mono ?_
      rintro ed w4 ⟨p, rfl, hp, h4, f4, hdb⟩
      have F4 := F3.then' f4
      have hA1 : ∀ a, A1 = some a → 0 < m1 → ¬ devB p w4 a.block := fun a e h0 g => by
        subst e
        have := hr1.lt (by rw [bcells_length, hl1.out]; exact h0)
        have := hdb _ g; omega
      have hA2 : ∀ a, A2 = some a → 0 < m2 → a.block < w3.heap.size := fun a e h0 => by
        subst e; exact hr2.lt (by rw [bcells_length, hl2.out]; exact h0)
      have hA1' : ∀ a, A1 = some a → 0 < m1 → a.block < w3.heap.size := fun a e h0 => by
        subst e; exact hr1.lt (by rw [bcells_length, hl1.out]; exact h0)
      have hp1 := slotPut_calls w4 p (newD 122) sw A1 m1 c1 X h4 (hr1.fr0 f4) hl1.out hc1 hx1 hn1 hA1 (by decide)
      have hst1 := fun W (f : RowAt W A1 (bcells X)) => Try.toStr f hl1.out c1
      have hst2 := fun W (f : RowAt W A2 (bcells Y)) => Try.toStr f hl2.out c2
      clear hA1
      by_cases hlong : 5632 < m1
      · have t1 : decide ((5632 : Int) < m1) = true := decide_eq_true (by omega)
        rw [putA_long hsw2 (by rw [hl1.out]; exact hlong)] at hp1
        unfold SlotPPost at hp1
        simp only [] at hp1
        have hwt := fun W g => waiting_calls W p (newD 122) g
        rw [show (newD 122).wait.length = 0 from rfl] at hwt
        generalize newD 122 = d0 at *
        go_wp2_with fail
        refine hp1.mono ?_
        rintro ed w5 ⟨rfl, h5, s5⟩
        go_wp2_with fail
        refine (hwt w5 h5).mono ?_
        rintro ed w6 ⟨rfl, rfl⟩
        have FF : Fr noB w w5 := F4.trans s5.fr (fun i hi h => by have := hdb i h; have := F3.size; omega)
        go_wp2_with fail
        go_ret
        exact ⟨rfl, FF⟩
      · have t1 : decide ((5632 : Int) < m1) = false := decide_eq_false (by omega)
        obtain ⟨L1, L2, L3, L4, L5, L6, L7, L8⟩ := slotSafe_law (sw := sw) (X := X) (Y := Y) (af := af) (mk := mk) hsw2 (by rw [hl1.out]; omega)
        obtain ⟨⟨D1, n1, u1, q1⟩, hP1⟩ : ∃ q, putA (newD 122) sw X = q := ⟨_, rfl⟩
        rw [hP1] at hp1 L1 L2 L3 L4 L5 L6 L7 L8
        simp only [Prod.mk.injEq] at L1
        obtain ⟨rfl, rfl, rfl⟩ := L1
        obtain ⟨⟨D2, g2⟩, hF2⟩ : ∃ q, flushD D1 = q := ⟨_, rfl⟩
        simp only [] at hp1 L2 L3 L4 L5 L6 L7 L8
        rw [hF2] at L2 L4 L5 L6 L7 L8
        simp only [] at L2 L4 L5 L6 L7 L8
        subst L2
        have hfl := fun W g => flush_calls W p D1 g
        rw [hF2] at hfl
        have har := fun W g => arm_calls W p D2 af mk g haf.2 hmk
        unfold laterD at L5 L6 L7 L8
        have hwar : (armD D2 af mk).wait.length ≤ 1000000 := by
          have : (armD D2 af mk).wait = [] := by unfold armD; split <;> exact L4
          rw [this]; exact Nat.zero_le _
        have hpu := fun W g h1 h2 => slotPut_calls W p (armD D2 af mk) (1 - sw) A2 m2 c2 Y g h1 hl2.out hc2 hx2 hn2 h2 hwar
        obtain ⟨⟨D4, n4, u4, q4⟩, hP4⟩ : ∃ q, putA (armD D2 af mk) (1 - sw) Y = q := ⟨_, rfl⟩
        have hv4 := putA_vals (d := armD D2 af mk) (s := 1 - sw) (x := Y) (by omega)
        rw [hP4] at hpu L5 L6 L7 L8 hv4
        simp only [] at hv4
        simp only [] at hpu L5 L6 L7 L8
        obtain ⟨⟨D5, g5⟩, hF5⟩ : ∃ q, flushD D4 = q := ⟨_, rfl⟩
        have hfl5 := fun W g => flush_calls W p D4 g
        rw [hF5] at hfl5 L5 L6 L7 L8
        simp only [] at hfl5 L5 L6 L7 L8
        have hcu := fun W g => cut_calls W p mk D5 g hmk
        have hst := fun W g => start_calls W p (cutD mk D5) g
        generalize armD D2 af mk = D3 at *
        obtain ⟨D7, hD7⟩ : ∃ D, ({ cutD mk D5 with down := false } : DevV) = D := ⟨_, rfl⟩
        have L5' : D7.kept.length = 122 := by rw [← hD7]; exact L5
        have L6' : D7.wait = [] := by rw [← hD7]; exact L6
        rw [hD7] at L7 L8 hst
        clear L5 L6 hD7
        generalize cutD mk D5 = D6 at *
        rw [hl1.out] at L7 hp1
        have hge := fun W g => slotGet_calls W p D7 sw m1 (crcSum X) g (by omega) (by omega) (not32_lt _) (by omega) (by rw [L6']; exact Nat.zero_le _)
        rw [L7] at hge
        unfold SlotPPost at hp1 hpu
        unfold GetPostS at hge
        unfold DPost at hfl har hfl5 hcu hst
        simp only [] at hp1 hpu hge hfl hfl5
        have hcx : crcSum X < 4294967296 := not32_lt _
        generalize crcSum X = cx at *
        clear hP1 hF2 hP4 hF5 L7
        go_wp2_with fail
        refine hp1.mono ?_
        rintro ed w5 ⟨rfl, h5, s5⟩
        clear hp1
        go_wp2_with fail
        refine (hfl w5 h5).mono ?_
        rintro ed w6 ⟨rfl, h6, s6⟩
        clear hfl
        go_wp2_with fail
        refine (har w6 h6).mono ?_
        rintro ed w7 ⟨rfl, h7, s7⟩
        clear har
        have S7 := (s5.trans s6).trans s7
        have F7 : Fr noB w w7 := F4.trans S7.fr (fun i hi h => by have := hdb i h; have := F3.size; omega)
        have hdb7 : ∀ j, devB p w7 j → w3.heap.size ≤ j := fun j hj => (S7.foot j hj).elim (hdb j) fun h => by have := f4.size; omega
        have hr27 : RowAt w7 A2 (bcells Y) := (hr2.fr0 f4).fr S7.fr (fun a e h0 _ g => by
          have := hdb _ g
          have := hA2 a e (by rw [bcells_length, hl2.out] at h0; exact h0); omega)
        have hpu7 := hpu w7 h7 hr27 (fun a e h0 g => by have := hdb7 _ g; have := hA2 a e h0; omega)
        clear hpu hr27
        have esb : (1 : Int) - sw = ((1 - sw : Nat) : Int) := by omega
        go_wp2_with fail
        refine hpu7.mono ?_
        rintro ed w8 ⟨rfl, h8, s8⟩
        clear hpu7
        go_wp2_with fail
        refine (hfl5 w8 h8).mono ?_
        rintro ed w9 ⟨rfl, h9, s9⟩
        clear hfl5
        go_wp2_with fail
        refine (hcu w9 h9).mono ?_
        rintro ed w10 ⟨rfl, h10, s10⟩
        clear hcu
        go_wp2_with fail
        refine (hst w10 h10).mono ?_
        rintro ed w11 ⟨rfl, h11, s11⟩
        clear hst
        go_wp2_with fail
        refine (hge w11 h11).mono ?_
        rintro ed w12 ⟨A3, m3, c3, rfl, hl3, hr3, f12⟩
        clear hge
        have S11 := ((s8.trans s9).trans s10).trans s11
        have F12 : Fr noB w w12 := (F7.trans S11.fr (fun i hi h => by have := hdb7 i h; have := F3.size; omega)).then' f12
        have hall := S7.trans S11
        have hr1c : RowAt w12 A1 (bcells X) := ((hr1.fr0 f4).fr hall.fr (fun a e h0 _ g => by
          have := hdb _ g
          have := hA1' a e (by rw [bcells_length, hl1.out] at h0; exact h0); omega)).fr0 f12
        have hr2c : RowAt w12 A2 (bcells Y) := ((hr2.fr0 f4).fr hall.fr (fun a e h0 _ g => by
          have := hdb _ g
          have := hA2 a e (by rw [bcells_length, hl2.out] at h0; exact h0); omega)).fr0 f12
        have hs1 := hst1 w12 hr1c
        have hs3 := Try.toStr (l := X) (n := m3) hr3 hl3.out c3
        have heq : ((mkS X).toList != (mkS X).toList) = false := by simp
        have heq2 : ((mkS X).toList == (mkS X).toList) = true := by simp
        obtain ⟨v1, hv1⟩ : ∃ v, ((q4 : Int) != 0) = v := ⟨_, rfl⟩
        obtain ⟨v2, hv2⟩ : ∃ v, ((g5 : Int) != 0) = v := ⟨_, rfl⟩
        cases v1
        · cases v2
          · have hq4 : q4 = 0 := by
              have : (q4 : Int) = 0 := by simpa using hv1
              omega
            have hg5 : g5 = 0 := by
              have : (g5 : Int) = 0 := by simpa using hv2
              omega
            obtain ⟨en4, eu4⟩ := hv4 hq4
            have L9 := L8 hq4 hg5
            have hge2 := slotGet_calls w12 p D7 (1 - sw) n4 u4 (h11.fr0 f12) (by omega) (by have := hl2.out; omega) (by rw [eu4]; exact not32_lt _) (by omega) (by rw [L6']; exact Nat.zero_le _)
            rw [L9] at hge2
            unfold GetPostS at hge2
            clear L8 L9 hv4 en4 eu4 hq4 hg5
            go_wp2_with fail
            refine hge2.mono ?_
            rintro ed w13 ⟨A4, m4, c4, rfl, hl4, hr4, f13⟩
            have hs4 := Try.toStr (l := Y) (n := m4) hr4 hl4.out c4
            have hs5 := hst2 w13 (hr2c.fr0 f13)
            have heq3 : ((mkS Y).toList == (mkS Y).toList) = true := by simp
            clear hge2 hst1 hst2 hs1 hs3
            go_wp2_with fail
            go_ret
            exact ⟨rfl, F12.then' f13⟩
          · clear L8 hv4
            go_wp2_with fail
            go_ret
            exact ⟨rfl, F12⟩
        · clear L8 hv4
          go_wp2_with fail
          go_ret
          exact ⟨rfl, F12⟩
theorem slotSafe_act (w : World) (a : ActK) (ha : a.ok w) (b : ActK) (hb : b.ok w) (k : Int) (hk : (Lit.int .u8 k).wf = true) (i : Int) (hi : (Lit.int .i64 i).wf = true) (m : Int) (hm : (Lit.int .u64 m).wf = true) :
    Calls Try.prog 5 #[.agg a.C.toArray, .agg b.C.toArray, .int .u8 k, .int .i64 i, .int .u64 m] w (BoolPost w true) := by
  obtain ⟨h0, h1⟩ := u8_natK hk
  obtain ⟨x, rfl⟩ := Int.eq_ofNat_of_zero_le h0
  obtain ⟨h2, h3⟩ := u64_natK hm
  obtain ⟨y, rfl⟩ := Int.eq_ofNat_of_zero_le h2
  exact slotSafe_walk w a b ha hb x (by omega) i (i64_okK hi) y (by omega)
end Go.Proofs.Ytnkdlmmdaagonaa
