/- super.Read. -/
import Derived.Test.YtnkdlmmdaagonaaSupB
import Derived.Deep.Cut
namespace Go.Proofs.Ytnkdlmmdaagonaa
open Go.RowKit
def SuEPost (w : World) (q : SuV × Nat) (e : Ending) (w' : World) : Prop := e = .returned (.tuple #[q.1.v, .int .i64 (q.2 : Nat)]) ∧ Fr noB w w'
theorem fr_setU9 (w : World) (b : Nat) (u0 u1 u2 u3 u4 u5 u6 u7 u8 : Value) : Fr (eqB b) w (((((((((w.setCell ⟨b, 0, none⟩ u0).setCell ⟨b, 1, none⟩ u1).setCell ⟨b, 2, none⟩ u2).setCell ⟨b, 3, none⟩ u3).setCell ⟨b, 4, none⟩ u4).setCell ⟨b, 5, none⟩ u5).setCell ⟨b, 6, none⟩ u6).setCell ⟨b, 7, none⟩ u7).setCell ⟨b, 8, none⟩ u8) :=
  (((((((((fr_set1 w b 0 u0).then' (fr_set1 _ b 1 u1)).then' (fr_set1 _ b 2 u2)).then' (fr_set1 _ b 3 u3)).then' (fr_set1 _ b 4 u4)).then' (fr_set1 _ b 5 u5)).then' (fr_set1 _ b 6 u6)).then' (fr_set1 _ b 7 u7)).then' (fr_set1 _ b 8 u8))
def SuOC (n1 : Nat) : Nat → World → Prop
  | 0, W => W.heap.size = n1
  | 1, W => TabAt W n1 false
  | _, _ => True
/-- A slice of what was opened. -/
def OpSU (p : Nat) (x : List UInt8) : Stb (Fr (eqB p)) :=
  ⟨fun v W => ∃ B k d, v = .slice B k d ∧ Hid (x.length = k) ∧ RowAt W B (bcells x) ∧ (∀ a, B = some a → a.block ≠ p),
   fun _ _ _ ⟨B, k, d, h1, h2, h3, h4⟩ f => ⟨B, k, d, h1, h2, h3.fr f (fun ad e _ _ => h4 ad e), h4⟩⟩
def OpTU (p : Nat) (x : List UInt8) (q : Nat) : Stb (Fr (eqB p)) :=
  ⟨fun v W => ∃ s, v = .tuple #[s, .int .i64 q] ∧ (OpSU p x).V s W,
   fun _ _ _ ⟨s, h1, h2⟩ f => ⟨s, h1, (OpSU p x).st _ _ _ h2 f⟩⟩
set_option maxRecDepth 100000 in
set_option maxHeartbeats 3200000 in
theorem suRead_calls (w : World) (A : Option Addr) (n c : Nat) (bs : List UInt8) (hx : RowAt w A (bcells bs)) (hn : bs.length = n) (hnc : n ≤ c) (hc : c ≤ 9223372036854775807) :
    Calls Try.prog 34 #[.slice A n c] w (SuEPost w (suRead bs)) := by
  have hb0 : BlkAt (w.alloc (.cells #[.int .u64 0, .int .u64 0, .int .u64 0, .int .u64 0, .int .u8 0, .int .u8 0, .int .u64 0, .int .u32 0, .int .u32 0] 61)) w.heap.size 61 #[.int .u64 0, .int .u64 0, .int .u64 0, .int .u64 0, .int .u8 0, .int .u8 0, .int .u64 0, .int .u32 0, .int .u32 0] := BlkAt.new _ _ _
  have f0 : Fr noB w (w.alloc (.cells #[.int .u64 0, .int .u64 0, .int .u64 0, .int .u64 0, .int .u8 0, .int .u8 0, .int .u64 0, .int .u32 0, .int .u32 0] 61)) := (Fr.refl noB w).alloc _
  have HRES : Hid (Try.f34.results = #[.cell 2 61, .tmp 3]) := by unfold Hid; kernel_rfl
  by_cases h54 : n < 54
  · have HR : Hid (suRead bs = (zeroS, 2)) := by unfold Hid suRead; rw [if_pos (by omega)]
    have t1 : decide ((n : Int) < 54) = true := by simp; omega
    have FF := f0.trans (fr_setU9 _ w.heap.size (.int .u64 0) (.int .u64 0) (.int .u64 0) (.int .u64 0) (.int .u8 0) (.int .u8 0) (.int .u64 0) (.int .u32 0) (.int .u32 0)) (fun i hi h => by unfold eqB at h; omega)
    clear hn hnc hc hx h54 f0
    go_enter Try.func34, Try.ntmps34
    go_upto_region 1 with fail
    generalize (w.alloc _) = wa at *
    obtain ⟨y0, y1, y2, y3, y4, y5, y6, y7, y8, yf⟩ := BlkAt.c9 hb0
    go_wp2_with fail
    have hr := HRES.out
    exact bodyPost_ret (v := .tuple #[zeroS.v, .int .i64 2]) (by simp [results, hr, go_sem, zeroS, SuV.v, SuV.C, y0, y1, y2, y3, y4, y5, y6, y7, y8]) rfl ⟨by rw [HR.out] <;> rfl, FF⟩
  · have t1 : decide ((n : Int) < 54) = false := by simp; omega
    have hL54 : (bs.take 54).length = 54 := by rw [List.length_take]; omega
    obtain ⟨ad, rfl⟩ := hx.some_of (by rw [bcells_length]; omega)
    have hx54 : RowAt w (some ad) (bcells (bs.take 54)) := fun j u hu => by
      refine ⟨_, rfl, hx.cell ?_⟩
      simp only [bcells, List.map_take] at hu
      rw [List.getElem?_take] at hu
      split at hu
      · exact hu
      · cases hu
    have HR : Hid (suRead bs = if (openB (bs.take 54)).2 ≠ 0 then (zeroS, (openB (bs.take 54)).2) else if checkS (suX (openB (bs.take 54)).1) ≠ 0 then (zeroS, checkS (suX (openB (bs.take 54)).1)) else (suX (openB (bs.take 54)).1, 0)) := by
      unfold Hid suRead; rw [if_neg (by omega)]
    have hol : (openB (bs.take 54)).2 = 0 → (openB (bs.take 54)).1.length = 50 := fun h => by rw [openB_len h, hL54]
    have hop := fun W p cc ht hr h1 h2 hA => open_calls W p false (some ad) 54 cc (bs.take 54) ht hr hL54 (by omega) h1 h2 hA
    rw [if_neg (by decide)] at hop
    obtain ⟨⟨x, q⟩, hq⟩ : ∃ z, openB (bs.take 54) = z := ⟨_, rfl⟩
    rw [hq] at HR hol hop
    simp only [] at HR hol
    generalize bs.take 54 = b54 at *
    have hcb : 54 ≤ c := by omega
    clear hn hq h54 hx
    have had := hx54.lt (by rw [bcells_length, hL54]; omega)
    have HX := hid hx54
    clear hx54 hL54
    obtain ⟨n1, hn1⟩ : ∃ n1, (w.alloc (.cells #[.int .u64 0, .int .u64 0, .int .u64 0, .int .u64 0, .int .u8 0, .int .u8 0, .int .u64 0, .int .u32 0, .int .u32 0] 61)).heap.size = n1 := ⟨_, rfl⟩
    have hn1' : w.heap.size < n1 := by rw [← hn1]; simp
    go_enter Try.func34, Try.ntmps34
    go_upto_region 3 with fail
    generalize (w.alloc _) = wa at *
    apply wp_region_calmL (R := Fr (eqB n1)) (C := fun q W => Fr (eqB n1) wa W ∧ Fr noB wa W ∧ SuOC n1 q W) [true, false, false, true, false, false, false, false, false] [0, 0, 0, 1, 2, 2, 2, 2, 2]
      [eqv (.pointer (some ⟨n1, 0, none⟩)), eqv _, eqv (.slice (some ad) 54 c), OpTU n1 x q, OpTU n1 x q, OpSU n1 x, eqv (.int .i64 q), OpSU n1 x, eqv (.int .i64 q)]
      (by kernel_rfl) (by kernel_rfl) (fun _ _ _ h1 h2 => h1.then' h2) ((Fr.refl _ _).drew) ⟨(Fr.refl _ _).drew, (Fr.refl _ _).drew, hn1⟩ (by kernel_rfl)
    · refine ⟨?_, ?_, ?_, ?_, ?_, ?_, ?_, ?_, ?_, trivial⟩
      · rw [if_pos (by decide)]
        intro a W K hC hd hK
        replace hC : (fun q W => Fr (eqB n1) wa W ∧ Fr noB wa W ∧ SuOC n1 q W) 0 W := hC
        refine wpOp_plain rfl rfl ?_
        have hz : W.heap.size = n1 := hC.2.2
        go_wp2_with fail
        refine (newT_calls W).mono ?_
        rintro e9 w9 ⟨rfl, h9, f9, s9⟩
        rw [hz] at h9
        exact hK _ _ (f9.mono fun _ _ h => h.elim) ⟨hC.1.then' (f9.mono fun _ _ h => h.elim), hC.2.1.then' f9, h9⟩ (by rw [hz]; rfl)
      · rw [if_neg (by decide)]; intro kq
        exact calm_mv 0 rfl rfl (Or.inl rfl) (Fr.refl _) (by decide) fun v w hd => hd
      · rw [if_neg (by decide)]; intro kq
        intro a W K hC hd hK
        have d15 : _ = _ := hd 15 (by decide)
        refine wpOp_plain rfl rfl ?_
        go_wp2_with fail
        exact hK _ _ (Fr.refl _ _) hC rfl
      · rw [if_pos (by decide)]
        intro a W K hC hd hK
        replace hC : (fun q W => Fr (eqB n1) wa W ∧ Fr noB wa W ∧ SuOC n1 q W) 1 W := hC
        have d14 : a.tmps[14]?.getD undef = .pointer (some ⟨n1, 0, none⟩) := hd 14 (by decide)
        have d16 : a.tmps[16]?.getD undef = .slice (some ad) 54 c := hd 16 (by decide)
        refine wpOp_plain rfl rfl ?_
        have ht : TabAt W n1 false := hC.2.2
        go_wp2_with fail
        refine (hop W n1 c ht ((HX.out.fr0 (f0.then' hC.2.1))) hcb hc (fun a e _ => by cases e; omega)).mono ?_
        rintro e9 w9 ⟨B, k, d, rfl, h1, h2, h3, -, f9⟩
        have hh := hC.2.1.size
        exact hK _ _ f9 ⟨hC.1.then' f9, hC.2.1.trans f9 (fun i hi h => by unfold eqB at h; omega), trivial⟩ ⟨_, rfl, B, k, d, rfl, h1, h2, fun a e => by have := h3 a e; have := ht.lt; omega⟩
      · rw [if_neg (by decide)]; intro kq
        exact calm_mv 17 rfl rfl (Or.inl rfl) (Fr.refl _) (by decide) fun v w hd => hd
      · rw [if_neg (by decide)]; intro kq
        intro a W K hC hd hK
        have d13 : (OpTU n1 x q).V (a.tmps[13]?.getD undef) W := hd 13 (by decide)
        refine wpOp_plain rfl rfl ?_
        obtain ⟨s, e13, hs⟩ := d13
        go_wp2_with fail
        exact hK _ _ (Fr.refl _ _) hC hs
      · rw [if_neg (by decide)]; intro kq
        intro a W K hC hd hK
        have d13 : (OpTU n1 x q).V (a.tmps[13]?.getD undef) W := hd 13 (by decide)
        refine wpOp_plain rfl rfl ?_
        obtain ⟨s, e13, hs⟩ := d13
        go_wp2_with fail
        exact hK _ _ (Fr.refl _ _) hC rfl
      · rw [if_neg (by decide)]; intro kq
        exact calm_mv 18 rfl rfl (Or.inr rfl) (Fr.refl _) (by decide) fun v w hd => hd
      · rw [if_neg (by decide)]; intro kq
        exact calm_mv 19 rfl rfl (Or.inr rfl) (Fr.refl _) (by decide) fun v w hd => hd
    · intro vs w2 fw2 cw2 hV
      have v4 : (OpSU n1 x).V (vs 7) w2 := hV 7 _ _ rfl rfl (by decide)
      have v5 : vs 8 = .int .i64 q := hV 8 _ _ rfl rfl (by decide)
      clear hV
      simp only [putL, Act.put, Nat.reduceAdd, List.setIfInBounds_toArray, List.set_cons_zero, List.set_cons_succ, v5]
      obtain ⟨B, k, d, e4, HK, hB, hBn⟩ := v4
      rw [e4]
      have F2 : Fr noB w w2 := f0.then' cw2.2.1
      have hb2 := hb0.fr cw2.2.1 id
      clear e4 v5 hop HX f0 hb0 cw2 fw2 hBn had hn1 hn1' t1
      by_cases h0 : q = 0
      · subst h0
        have hx50 := hol rfl
        have hk50 : k = 50 := by have := HK.out; omega
        subst hk50
        rw [if_neg (by decide)] at HR
        obtain ⟨ab, rfl⟩ := hB.some_of (by rw [bcells_length]; omega)
        obtain ⟨r1, k1, q1⟩ := pair_exU (suR1 x)
        obtain ⟨r2, k2, q2⟩ := pair_exU (suR2 x)
        obtain ⟨r3, k3, q3⟩ := pair_exU (suR3 x)
        obtain ⟨r4, k4, q4⟩ := pair_exU (suR4 x)
        obtain ⟨r5, k5, q5⟩ := pair_exU (suR5 x)
        obtain ⟨r6, k6, q6⟩ := pair_exU (suR6 x)
        obtain ⟨r7, k7, q7⟩ := pair_exU (suR7 x)
        obtain ⟨r8, k8, q8⟩ := pair_exU (suR8 x)
        obtain ⟨r9, k9, q9⟩ := pair_exU (suR9 x)
        have e1 : rNum ⟨x, 0⟩ 8 = (r1, k1) := q1
        have e2 : rNum r1 8 = (r2, k2) := by rw [← q2]; unfold suR2; rw [q1]
        have e3 : rNum r2 8 = (r3, k3) := by rw [← q3]; unfold suR3; rw [q2]
        have e4 : rNum r3 8 = (r4, k4) := by rw [← q4]; unfold suR4; rw [q3]
        have e5 : rNum r4 1 = (r5, k5) := by rw [← q5]; unfold suR5; rw [q4]
        have e6 : rNum r5 1 = (r6, k6) := by rw [← q6]; unfold suR6; rw [q5]
        have e7 : rNum r6 8 = (r7, k7) := by rw [← q7]; unfold suR7; rw [q6]
        have e8 : rNum r7 4 = (r8, k8) := by rw [← q8]; unfold suR8; rw [q7]
        have e9 : rNum r8 4 = (r9, k9) := by rw [← q9]; unfold suR9; rw [q8]
        have HX : suX x = ⟨k1, k2, k3, k4, k5, k6, k7, k8, k9⟩ := by unfold suX; rw [q1, q2, q3, q4, q5, q6, q7, q8, q9]
        rw [HX] at HR
        have c1 := fun W S p h => eightRd_calls W S p ⟨x, 0⟩ h
        rw [e1] at c1
        have c2 := fun W S p h => eightRd_calls W S p r1 h
        rw [e2] at c2
        have c3 := fun W S p h => eightRd_calls W S p r2 h
        rw [e3] at c3
        have c4 := fun W S p h => eightRd_calls W S p r3 h
        rw [e4] at c4
        have c5 := fun W S p h => byteRd_calls W S p r4 h
        rw [e5] at c5
        have c6 := fun W S p h => byteRd_calls W S p r5 h
        rw [e6] at c6
        have c7 := fun W S p h => eightRd_calls W S p r6 h
        rw [e7] at c7
        have c8 := fun W S p h => fourRd_calls W S p r7 h
        rw [e8] at c8
        have c9 := fun W S p h => fourRd_calls W S p r8 h
        rw [e9] at c9
        simp only [] at c1 c2 c3 c4 c5 c6 c7 c8 c9
        clear q1 q2 q3 q4 q5 q6 q7 q8 q9 e1 e2 e3 e4 e5 e6 e7 e8 e9 HX hol
        have hck := fun W => checkS_calls W ⟨k1, k2, k3, k4, k5, k6, k7, k8, k9⟩
        generalize checkS ⟨k1, k2, k3, k4, k5, k6, k7, k8, k9⟩ = cv at *
        unfold SuV.v SuV.C at hck
        simp only [] at hck
        obtain ⟨m2, hm2⟩ : ∃ m, w2.heap.size = m := ⟨_, rfl⟩
        have hoc := of_calls w2 (some ab) 50 d x hB hx50 (fun e => nomatch e) (by omega)
        unfold OfPost at hoc
        rw [hm2] at hoc
        have hqm : w.heap.size < m2 := by have := hb2.lt; omega
        clear hB hx50 HK hm2
        go_wp2_with fail
        refine hoc.mono ?_
        rintro ed w3 ⟨p, rfl, hp1, hp2, h3, f3⟩
        have F3 := F2.then' f3
        replace hb2 := hb2.fr f3 id
        clear hoc F2 f3
        go_wp2_with fail
        refine (c1 _ _ p h3).mono ?_
        rintro ed w4 ⟨rfl, h4, f4⟩
        go_wp2_with fail
        refine (c2 _ _ p h4).mono ?_
        rintro ed w5 ⟨rfl, h5, f5⟩
        go_wp2_with fail
        refine (c3 _ _ p h5).mono ?_
        rintro ed w6 ⟨rfl, h6, f6⟩
        go_wp2_with fail
        refine (c4 _ _ p h6).mono ?_
        rintro ed w7 ⟨rfl, h7, f7⟩
        go_wp2_with fail
        refine (c5 _ _ p h7).mono ?_
        rintro ed w8 ⟨rfl, h8, f8⟩
        go_wp2_with fail
        refine (c6 _ _ p h8).mono ?_
        rintro ed w9 ⟨rfl, h9, f9⟩
        go_wp2_with fail
        refine (c7 _ _ p h9).mono ?_
        rintro ed w10 ⟨rfl, h10, f10⟩
        go_wp2_with fail
        refine (c8 _ _ p h10).mono ?_
        rintro ed w11 ⟨rfl, h11, f11⟩
        go_wp2_with fail
        refine (c9 _ _ p h11).mono ?_
        rintro ed w12 ⟨rfl, h12, f12⟩
        have fr := f4.then' (f5.then' (f6.then' (f7.then' (f8.then' (f9.then' (f10.then' (f11.then' f12)))))))
        have F12 : Fr noB w w12 := F3.trans fr (fun i hi h => by unfold upB at h; omega)
        replace hb2 := hb2.fr fr (fun h => by unfold upB at h; omega)
        clear c1 c2 c3 c4 c5 c6 c7 c8 c9 h3 h4 h5 h6 h7 h8 h9 h10 h11 h12 f4 f5 f6 f7 f8 f9 f10 f11 f12 fr F3
        have f13 := (Fr.refl noB w12).alloc (.cells #[.int .u64 k1, .int .u64 k2, .int .u64 k3, .int .u64 k4, .int .u8 k5, .int .u8 k6, .int .u64 k7, .int .u32 k8, .int .u32 k9] 61)
        have hbo : BlkAt (w12.alloc (.cells #[.int .u64 k1, .int .u64 k2, .int .u64 k3, .int .u64 k4, .int .u8 k5, .int .u8 k6, .int .u64 k7, .int .u32 k8, .int .u32 k9] 61)) w12.heap.size 61 #[.int .u64 k1, .int .u64 k2, .int .u64 k3, .int .u64 k4, .int .u8 k5, .int .u8 k6, .int .u64 k7, .int .u32 k8, .int .u32 k9] := BlkAt.new _ _ _
        have F13 := F12.then' f13
        replace hb2 := hb2.fr f13 id
        go_upto_region 8 with fail
        generalize (w12.alloc (.cells #[.int .u64 k1, .int .u64 k2, .int .u64 k3, .int .u64 k4, .int .u8 k5, .int .u8 k6, .int .u64 k7, .int .u32 k8, .int .u32 k9] 61)) = w13 at *
        clear f13 F12
        obtain ⟨x0, x1, x2, x3, x4, x5, x6, x7, x8, xf⟩ := BlkAt.c9 hbo
        go_wp2_with fail
        refine (hck w13).mono ?_
        rintro ed w14 ⟨rfl, f14⟩
        have F14 := F13.then' f14
        replace hb2 := hb2.fr f14 id
        replace hbo := hbo.fr f14 id
        clear x0 x1 x2 x3 x4 x5 x6 x7 x8 xf hck f14 F13
        obtain ⟨x0, x1, x2, x3, x4, x5, x6, x7, x8, xf⟩ := BlkAt.c9 hbo
        obtain ⟨y0, y1, y2, y3, y4, y5, y6, y7, y8, yf⟩ := BlkAt.c9 hb2
        by_cases h2 : cv = 0
        · rw [if_neg (by omega)] at HR
          subst h2
          have FF := F14.trans (fr_setU9 w14 w.heap.size (.int .u64 k1) (.int .u64 k2) (.int .u64 k3) (.int .u64 k4) (.int .u8 k5) (.int .u8 k6) (.int .u64 k7) (.int .u32 k8) (.int .u32 k9)) (fun i hi h => by unfold eqB at h; omega)
          go_wp2_with fail
          have hr := HRES.out
          exact bodyPost_ret (v := .tuple #[(⟨k1, k2, k3, k4, k5, k6, k7, k8, k9⟩ : SuV).v, .int .i64 0]) (by simp [results, hr, go_sem, SuV.v, SuV.C, y0, y1, y2, y3, y4, y5, y6, y7, y8]) rfl ⟨by rw [HR.out] <;> rfl, FF⟩
        · rw [if_pos h2] at HR
          have t2 : ((cv : Int) != 0) = true := by rw [bne_iff_ne]; omega
          clear h2
          have FF := F14.trans (fr_setU9 w14 w.heap.size (.int .u64 0) (.int .u64 0) (.int .u64 0) (.int .u64 0) (.int .u8 0) (.int .u8 0) (.int .u64 0) (.int .u32 0) (.int .u32 0)) (fun i hi h => by unfold eqB at h; omega)
          go_wp2_with fail
          have hr := HRES.out
          exact bodyPost_ret (v := .tuple #[zeroS.v, .int .i64 cv]) (by simp [results, hr, go_sem, zeroS, SuV.v, SuV.C, y0, y1, y2, y3, y4, y5, y6, y7, y8]) rfl ⟨by rw [HR.out] <;> rfl, FF⟩
      · rw [if_pos h0] at HR
        have t2 : ((q : Int) != 0) = true := by rw [bne_iff_ne]; omega
        have FF := F2.trans (fr_setU9 w2 w.heap.size (.int .u64 0) (.int .u64 0) (.int .u64 0) (.int .u64 0) (.int .u8 0) (.int .u8 0) (.int .u64 0) (.int .u32 0) (.int .u32 0)) (fun i hi h => by unfold eqB at h; omega)
        obtain ⟨y0, y1, y2, y3, y4, y5, y6, y7, y8, yf⟩ := BlkAt.c9 hb2
        clear h0 hol hB HK
        go_wp2_with fail
        have hr := HRES.out
        exact bodyPost_ret (v := .tuple #[zeroS.v, .int .i64 q]) (by simp [results, hr, go_sem, zeroS, SuV.v, SuV.C, y0, y1, y2, y3, y4, y5, y6, y7, y8]) rfl ⟨by rw [HR.out] <;> rfl, FF⟩
end Go.Proofs.Ytnkdlmmdaagonaa
