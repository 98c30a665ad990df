/- The reference's Read of a super block. -/
import Derived.Test.YtnkdlmmdaagonaaSupR1
import Derived.Test.YtnkdlmmdaagonaaSup5
import Derived.Test.YtnkdlmmdaagonaaRef3
import Derived.Test.YtnkdlmmdaagonaaCrcOpens
import Derived.Test.YtnkdlmmdaagonaaCalmH
namespace Go.Proofs.Ytnkdlmmdaagonaa
open Go.RowKit
theorem mkS_mid (bs : List UInt8) (i j : Nat) : (mkS bs).extract i j = mkS ((bs.drop i).take (j - i)) := by
  rw [← mkS_of ((mkS bs).extract i j)]
  congr 1
  rw [ByteArray.data_extract, Array.toList_extract, List.extract_eq_take_drop, mkS_data]
theorem mkS_byte (x : List UInt8) (i : Nat) (h : i < (mkS x).size) : ((mkS x)[i]'h).toNat = leV ((x.drop i).take 1) := by
  have hi : i < x.length := by rw [mkS_size] at h; exact h
  rw [List.drop_eq_getElem_cons hi, List.take_succ_cons, List.take_zero]
  have e : (mkS x)[i]'h = x[i] := by
    show (mkS x).data[i]'h = x[i]
    rfl
  rw [e]
  simp [leV]
/-- The new block by its stages. -/
def SuRC (n1 : Nat) (cells : Array Value) : Nat → World → Prop
  | 0, W => W.heap.size = n1
  | 1, W => BlkAt W n1 64 #[.int .u64 0, .int .u64 0, .int .u64 0, .int .u64 0, .int .u8 0, .int .u8 0, .int .u64 0, .int .u32 0, .int .u32 0]
  | _, W => BlkAt W n1 64 cells
set_option maxRecDepth 100000 in
set_option maxHeartbeats 6400000 in
theorem suReadR_calls (w : World) (s : ByteArray) (hs : s.size ≤ 100000000) :
    Calls Try.prog 36 #[.string s] w (SuEPost w (suRead s.data.toList)) := by
  have hb0 : BlkAt (w.alloc (.cells #[.int .u64 0, .int .u64 0, .int .u64 0, .int .u64 0, .int .u8 0, .int .u8 0, .int .u64 0, .int .u32 0, .int .u32 0] 64)) w.heap.size 64 #[.int .u64 0, .int .u64 0, .int .u64 0, .int .u64 0, .int .u8 0, .int .u8 0, .int .u64 0, .int .u32 0, .int .u32 0] := BlkAt.new _ _ _
  have f0 : Fr noB w (w.alloc (.cells #[.int .u64 0, .int .u64 0, .int .u64 0, .int .u64 0, .int .u8 0, .int .u8 0, .int .u64 0, .int .u32 0, .int .u32 0] 64)) := (Fr.refl noB w).alloc _
  have HRES : Hid (Try.f36.results = #[.cell 2 64, .tmp 3]) := by unfold Hid; kernel_rfl
  have hlen : s.data.toList.length = s.size := by simp
  obtain ⟨n, hn⟩ : ∃ n, s.size = n := ⟨_, rfl⟩
  by_cases h54 : n < 54
  · have HR : Hid (suRead s.data.toList = (zeroS, 2)) := by unfold Hid suRead; rw [if_pos (by omega)]
    have t1 : decide ((n : Int) < 54) = true := by simp; omega
    have FF := f0.trans (fr_setU9 _ w.heap.size (.int .u64 0) (.int .u64 0) (.int .u64 0) (.int .u64 0) (.int .u8 0) (.int .u8 0) (.int .u64 0) (.int .u32 0) (.int .u32 0)) (fun i hi h => by unfold eqB at h; omega)
    clear hlen hs h54 f0
    go_enter Try.func36, Try.ntmps36
    go_upto_region 1 with fail
    generalize (w.alloc _) = wa at *
    obtain ⟨y0, y1, y2, y3, y4, y5, y6, y7, y8, yf⟩ := BlkAt.c9 hb0
    go_wp2_with fail
    have hr := HRES.out
    exact bodyPost_ret (v := .tuple #[zeroS.v, .int .i64 2]) (by simp [results, hr, go_sem, zeroS, SuV.v, SuV.C, y0, y1, y2, y3, y4, y5, y6, y7, y8]) rfl ⟨by rw [HR.out] <;> rfl, FF⟩
  · have t1 : decide ((n : Int) < 54) = false := by simp; omega
    have HR : Hid (suRead s.data.toList = if (openB (s.data.toList.take 54)).2 ≠ 0 then (zeroS, (openB (s.data.toList.take 54)).2) else if checkS (suX (openB (s.data.toList.take 54)).1) ≠ 0 then (zeroS, checkS (suX (openB (s.data.toList.take 54)).1)) else (suX (openB (s.data.toList.take 54)).1, 0)) := by
      unfold Hid suRead; rw [if_neg (by omega)]
    have hL54 : (s.data.toList.take 54).length = 54 := by rw [List.length_take]; omega
    have hol : (openB (s.data.toList.take 54)).2 = 0 → (openB (s.data.toList.take 54)).1.length = 50 := fun h => by rw [openB_len h, hL54]
    have hop := fun W => openR_calls W (s.extract 0 54) (by rw [ByteArray.size_extract]; omega)
    rw [extract_take] at hop
    obtain ⟨⟨x, q⟩, hq⟩ : ∃ z, openB (s.data.toList.take 54) = z := ⟨_, rfl⟩
    rw [hq] at HR hol hop
    simp only [] at HR hol hop
    have hn54 : 54 ≤ n := by omega
    clear hq hL54 hlen hs h54
    go_enter Try.func36, Try.ntmps36
    go_upto_region 1 with fail
    generalize (w.alloc _) = wa at *
    go_wp2_with fail
    refine (hop wa).mono ?_
    rintro ed w1 ⟨rfl, f1⟩
    have F1 := f0.then' f1
    replace hb0 := hb0.fr f1 id
    clear hop f0 f1
    by_cases h0 : q = 0
    · subst h0
      have hx50 := hol rfl
      rw [if_neg (by decide)] at HR
      have hsz : (mkS x).size = 50 := by rw [mkS_size]; exact hx50
      have hv : ∀ i j, j - i ≤ 8 → ∀ W, Calls Try.prog 70 #[.string ((mkS x).extract i j)] W (fun e w' => e = .returned (.int .u64 (leV ((x.drop i).take (j - i)) : Nat)) ∧ W = w') := fun i j h W => by
        rw [mkS_mid]; exact valueR_calls W _ (by rw [List.length_take]; omega)
      rw [suX_eq hx50] at HR
      have c1 := hv 0 8 (by omega)
      have c2 := hv 8 16 (by omega)
      have c3 := hv 16 24 (by omega)
      have c4 := hv 24 32 (by omega)
      have c7 := hv 34 42 (by omega)
      have c8 := hv 42 46 (by omega)
      have c9 := hv 46 50 (by omega)
      simp only [List.drop_zero, Nat.sub_zero, Nat.reduceSub] at c1 c2 c3 c4 c7 c8 c9
      have g4 : (256 : Nat) ^ 4 = 4294967296 := by decide
      have hk8 : leV ((x.drop 42).take 4) < 4294967296 := by have := leV_lt ((x.drop 42).take 4); rw [List.length_take, List.length_drop, hx50, show min 4 (50 - 42) = 4 by decide, g4] at this; exact this
      have hk9 : leV ((x.drop 46).take 4) < 4294967296 := by have := leV_lt ((x.drop 46).take 4); rw [List.length_take, List.length_drop, hx50, show min 4 (50 - 46) = 4 by decide, g4] at this; exact this
      have hb5 := fun h => mkS_byte x 32 h
      have hb6 := fun h => mkS_byte x 33 h
      generalize leV (x.take 8) = k1 at *
      generalize leV ((x.drop 8).take 8) = k2 at *
      generalize leV ((x.drop 16).take 8) = k3 at *
      generalize leV ((x.drop 24).take 8) = k4 at *
      generalize leV ((x.drop 32).take 1) = k5 at *
      generalize leV ((x.drop 33).take 1) = k6 at *
      generalize leV ((x.drop 34).take 8) = k7 at *
      generalize leV ((x.drop 42).take 4) = k8 at *
      generalize leV ((x.drop 46).take 4) = k9 at *
      have hck := fun W => checkSR_calls W ⟨k1, k2, k3, k4, k5, k6, k7, k8, k9⟩
      generalize checkS ⟨k1, k2, k3, k4, k5, k6, k7, k8, k9⟩ = cv at *
      unfold SuV.v SuV.C at hck
      simp only [] at hck
      generalize mkS x = X at *
      obtain ⟨n1, hn1⟩ : ∃ z, w1.heap.size = z := ⟨_, rfl⟩
      have hwn : w.heap.size < n1 := by have := hb0.lt; omega
      clear hv hol hx50 g4
      go_upto_region 6 with fail
      apply wp_region_calmL (R := Fr (eqB n1)) (C := fun q W => Fr noB w1 W ∧ SuRC n1 #[.int .u64 k1, .int .u64 k2, .int .u64 k3, .int .u64 k4, .int .u8 k5, .int .u8 k6, .int .u64 k7, .int .u32 k8, .int .u32 k9] q W) [false, false, false, false, false, false, false, false, false, false, false, false, false, false, false, false, false, false, false, false, false, false, false, false, false, false, false, false, true, true] [0, 0, 0, 0, 0, 0, 0, 0, 0, 0, 0, 0, 0, 0, 0, 0, 0, 0, 0, 0, 0, 0, 0, 0, 0, 0, 0, 0, 0, 1]
        [eqv _, eqv (.string (X.extract 0 8)), eqv (.int .u64 k1), eqv _, eqv (.string (X.extract 8 16)), eqv (.int .u64 k2), eqv _, eqv (.string (X.extract 16 24)), eqv (.int .u64 k3), eqv _, eqv (.string (X.extract 24 32)), eqv (.int .u64 k4), eqv _, eqv (.int .u8 k5), eqv _, eqv (.int .u8 k6), eqv _, eqv (.string (X.extract 34 42)), eqv (.int .u64 k7), eqv _, eqv (.string (X.extract 42 46)), eqv (.int .u64 k8), eqv (.int .u32 k8), eqv _, eqv (.string (X.extract 46 50)), eqv (.int .u64 k9), eqv (.int .u32 k9), eqv _, eqv (.pointer (some ⟨n1, 0, none⟩)), anyv]
        (by kernel_rfl) (by kernel_rfl) (fun _ _ _ h1 h2 => h1.then' h2) ((Fr.refl _ _).drew) ⟨(Fr.refl _ _).drew, hn1⟩ (by kernel_rfl)
      · refine ⟨?_, ?_, ?_, ?_, ?_, ?_, ?_, ?_, ?_, ?_, ?_, ?_, ?_, ?_, ?_, ?_, ?_, ?_, ?_, ?_, ?_, ?_, ?_, ?_, ?_, ?_, ?_, ?_, ?_, ?_, trivial⟩
        · rw [if_neg (by decide)]; intro kq
          exact calm_mv 4 rfl rfl (Or.inl rfl) (Fr.refl _) (by decide) fun v w hd => hd
        · rw [if_neg (by decide)]; intro kq
          intro a W K hC hd hK
          have d22 : _ = _ := hd 22 (by decide)
          refine wpOp_plain rfl rfl ?_
          go_wp2_with fail
          exact hK _ _ (Fr.refl _ _) hC rfl
        · rw [if_neg (by decide)]; intro kq
          intro a W K hC hd hK
          have d23 : a.tmps[23]?.getD undef = .string (X.extract 0 8) := hd 23 (by decide)
          refine wpOp_plain rfl rfl ?_
          go_wp2_with fail
          refine (c1 W).mono ?_
          rintro e9 w9 ⟨rfl, rfl⟩
          exact hK _ _ (Fr.refl _ _) hC rfl
        · rw [if_neg (by decide)]; intro kq
          exact calm_mv 4 rfl rfl (Or.inl rfl) (Fr.refl _) (by decide) fun v w hd => hd
        · rw [if_neg (by decide)]; intro kq
          intro a W K hC hd hK
          have d25 : _ = _ := hd 25 (by decide)
          refine wpOp_plain rfl rfl ?_
          go_wp2_with fail
          exact hK _ _ (Fr.refl _ _) hC rfl
        · rw [if_neg (by decide)]; intro kq
          intro a W K hC hd hK
          have d26 : a.tmps[26]?.getD undef = .string (X.extract 8 16) := hd 26 (by decide)
          refine wpOp_plain rfl rfl ?_
          go_wp2_with fail
          refine (c2 W).mono ?_
          rintro e9 w9 ⟨rfl, rfl⟩
          exact hK _ _ (Fr.refl _ _) hC rfl
        · rw [if_neg (by decide)]; intro kq
          exact calm_mv 4 rfl rfl (Or.inl rfl) (Fr.refl _) (by decide) fun v w hd => hd
        · rw [if_neg (by decide)]; intro kq
          intro a W K hC hd hK
          have d28 : _ = _ := hd 28 (by decide)
          refine wpOp_plain rfl rfl ?_
          go_wp2_with fail
          exact hK _ _ (Fr.refl _ _) hC rfl
        · rw [if_neg (by decide)]; intro kq
          intro a W K hC hd hK
          have d29 : a.tmps[29]?.getD undef = .string (X.extract 16 24) := hd 29 (by decide)
          refine wpOp_plain rfl rfl ?_
          go_wp2_with fail
          refine (c3 W).mono ?_
          rintro e9 w9 ⟨rfl, rfl⟩
          exact hK _ _ (Fr.refl _ _) hC rfl
        · rw [if_neg (by decide)]; intro kq
          exact calm_mv 4 rfl rfl (Or.inl rfl) (Fr.refl _) (by decide) fun v w hd => hd
        · rw [if_neg (by decide)]; intro kq
          intro a W K hC hd hK
          have d31 : _ = _ := hd 31 (by decide)
          refine wpOp_plain rfl rfl ?_
          go_wp2_with fail
          exact hK _ _ (Fr.refl _ _) hC rfl
        · rw [if_neg (by decide)]; intro kq
          intro a W K hC hd hK
          have d32 : a.tmps[32]?.getD undef = .string (X.extract 24 32) := hd 32 (by decide)
          refine wpOp_plain rfl rfl ?_
          go_wp2_with fail
          refine (c4 W).mono ?_
          rintro e9 w9 ⟨rfl, rfl⟩
          exact hK _ _ (Fr.refl _ _) hC rfl
        · rw [if_neg (by decide)]; intro kq
          exact calm_mv 4 rfl rfl (Or.inl rfl) (Fr.refl _) (by decide) fun v w hd => hd
        · rw [if_neg (by decide)]; intro kq
          intro a W K hC hd hK
          have d34 : _ = _ := hd 34 (by decide)
          refine wpOp_plain rfl rfl ?_
          go_wp2_with fail
          exact hK _ _ (Fr.refl _ _) hC rfl
        · rw [if_neg (by decide)]; intro kq
          exact calm_mv 4 rfl rfl (Or.inl rfl) (Fr.refl _) (by decide) fun v w hd => hd
        · rw [if_neg (by decide)]; intro kq
          intro a W K hC hd hK
          have d36 : _ = _ := hd 36 (by decide)
          refine wpOp_plain rfl rfl ?_
          go_wp2_with fail
          exact hK _ _ (Fr.refl _ _) hC rfl
        · rw [if_neg (by decide)]; intro kq
          exact calm_mv 4 rfl rfl (Or.inl rfl) (Fr.refl _) (by decide) fun v w hd => hd
        · rw [if_neg (by decide)]; intro kq
          intro a W K hC hd hK
          have d38 : _ = _ := hd 38 (by decide)
          refine wpOp_plain rfl rfl ?_
          go_wp2_with fail
          exact hK _ _ (Fr.refl _ _) hC rfl
        · rw [if_neg (by decide)]; intro kq
          intro a W K hC hd hK
          have d39 : a.tmps[39]?.getD undef = .string (X.extract 34 42) := hd 39 (by decide)
          refine wpOp_plain rfl rfl ?_
          go_wp2_with fail
          refine (c7 W).mono ?_
          rintro e9 w9 ⟨rfl, rfl⟩
          exact hK _ _ (Fr.refl _ _) hC rfl
        · rw [if_neg (by decide)]; intro kq
          exact calm_mv 4 rfl rfl (Or.inl rfl) (Fr.refl _) (by decide) fun v w hd => hd
        · rw [if_neg (by decide)]; intro kq
          intro a W K hC hd hK
          have d41 : _ = _ := hd 41 (by decide)
          refine wpOp_plain rfl rfl ?_
          go_wp2_with fail
          exact hK _ _ (Fr.refl _ _) hC rfl
        · rw [if_neg (by decide)]; intro kq
          intro a W K hC hd hK
          have d42 : a.tmps[42]?.getD undef = .string (X.extract 42 46) := hd 42 (by decide)
          refine wpOp_plain rfl rfl ?_
          go_wp2_with fail
          refine (c8 W).mono ?_
          rintro e9 w9 ⟨rfl, rfl⟩
          exact hK _ _ (Fr.refl _ _) hC rfl
        · rw [if_neg (by decide)]; intro kq
          intro a W K hC hd hK
          have d43 : a.tmps[43]?.getD undef = .int .u64 k8 := hd 43 (by decide)
          refine wpOp_plain rfl rfl ?_
          go_wp2_with fail
          exact hK _ _ (Fr.refl _ _) hC rfl
        · rw [if_neg (by decide)]; intro kq
          exact calm_mv 4 rfl rfl (Or.inl rfl) (Fr.refl _) (by decide) fun v w hd => hd
        · rw [if_neg (by decide)]; intro kq
          intro a W K hC hd hK
          have d45 : _ = _ := hd 45 (by decide)
          refine wpOp_plain rfl rfl ?_
          go_wp2_with fail
          exact hK _ _ (Fr.refl _ _) hC rfl
        · rw [if_neg (by decide)]; intro kq
          intro a W K hC hd hK
          have d46 : a.tmps[46]?.getD undef = .string (X.extract 46 50) := hd 46 (by decide)
          refine wpOp_plain rfl rfl ?_
          go_wp2_with fail
          refine (c9 W).mono ?_
          rintro e9 w9 ⟨rfl, rfl⟩
          exact hK _ _ (Fr.refl _ _) hC rfl
        · rw [if_neg (by decide)]; intro kq
          intro a W K hC hd hK
          have d47 : a.tmps[47]?.getD undef = .int .u64 k9 := hd 47 (by decide)
          refine wpOp_plain rfl rfl ?_
          go_wp2_with fail
          exact hK _ _ (Fr.refl _ _) hC rfl
        · rw [if_neg (by decide)]; intro kq
          intro a W K hC hd hK
          have d24 : a.tmps[24]?.getD undef = .int .u64 k1 := hd 24 (by decide)
          have d27 : a.tmps[27]?.getD undef = .int .u64 k2 := hd 27 (by decide)
          have d30 : a.tmps[30]?.getD undef = .int .u64 k3 := hd 30 (by decide)
          have d33 : a.tmps[33]?.getD undef = .int .u64 k4 := hd 33 (by decide)
          have d35 : a.tmps[35]?.getD undef = .int .u8 k5 := hd 35 (by decide)
          have d37 : a.tmps[37]?.getD undef = .int .u8 k6 := hd 37 (by decide)
          have d40 : a.tmps[40]?.getD undef = .int .u64 k7 := hd 40 (by decide)
          have d44 : a.tmps[44]?.getD undef = .int .u32 k8 := hd 44 (by decide)
          have d48 : a.tmps[48]?.getD undef = .int .u32 k9 := hd 48 (by decide)
          refine wpOp_plain rfl rfl ?_
          go_wp2_with fail
          exact hK _ _ (Fr.refl _ _) hC rfl
        · rw [if_pos (by decide)]
          intro a W K hC hd hK
          replace hC : (fun q W => Fr noB w1 W ∧ SuRC n1 #[.int .u64 k1, .int .u64 k2, .int .u64 k3, .int .u64 k4, .int .u8 k5, .int .u8 k6, .int .u64 k7, .int .u32 k8, .int .u32 k9] q W) 0 W := hC
          refine wpOp_plain rfl rfl ?_
          have hz : W.heap.size = n1 := hC.2
          go_wp2_with fail
          have fa := (Fr.refl noB W).alloc (.cells #[.int .u64 0, .int .u64 0, .int .u64 0, .int .u64 0, .int .u8 0, .int .u8 0, .int .u64 0, .int .u32 0, .int .u32 0] 64)
          have ba := BlkAt.new W #[.int .u64 0, .int .u64 0, .int .u64 0, .int .u64 0, .int .u8 0, .int .u8 0, .int .u64 0, .int .u32 0, .int .u32 0] 64
          rw [hz] at ba
          exact hK _ _ (fa.mono fun _ _ h => h.elim) ⟨hC.1.then' fa, ba⟩ rfl
        · rw [if_pos (by decide)]
          intro a W K hC hd hK
          replace hC : (fun q W => Fr noB w1 W ∧ SuRC n1 #[.int .u64 k1, .int .u64 k2, .int .u64 k3, .int .u64 k4, .int .u8 k5, .int .u8 k6, .int .u64 k7, .int .u32 k8, .int .u32 k9] q W) 1 W := hC
          have d6 : a.tmps[6]?.getD undef = .pointer (some ⟨n1, 0, none⟩) := hd 6 (by decide)
          have d49 : _ = _ := hd 49 (by decide)
          refine wpOp_plain rfl rfl ?_
          have hb : BlkAt W n1 64 #[.int .u64 0, .int .u64 0, .int .u64 0, .int .u64 0, .int .u8 0, .int .u8 0, .int .u64 0, .int .u32 0, .int .u32 0] := hC.2
          obtain ⟨x0, x1, x2, x3, x4, x5, x6, x7, x8, xf⟩ := BlkAt.c9 hb
          have fs := fr_setU9 W n1 (.int .u64 k1) (.int .u64 k2) (.int .u64 k3) (.int .u64 k4) (.int .u8 k5) (.int .u8 k6) (.int .u64 k7) (.int .u32 k8) (.int .u32 k9)
          have hs := hb.setU9 (.int .u64 k1) (.int .u64 k2) (.int .u64 k3) (.int .u64 k4) (.int .u8 k5) (.int .u8 k6) (.int .u64 k7) (.int .u32 k8) (.int .u32 k9)
          go_wp2_with fail
          exact hK undef _ fs ⟨hC.1.trans fs (fun i hi h => by unfold eqB at h; omega), hs⟩ trivial
      · intro vs w2 fw2 cw2 hV
        have v6 : vs 28 = .pointer (some ⟨n1, 0, none⟩) := hV 28 _ _ rfl rfl (by decide)
        clear hV
        simp only [putL, Act.put, Nat.reduceAdd, List.setIfInBounds_toArray, List.set_cons_zero, List.set_cons_succ, v6]
        have F2 : Fr noB w w2 := F1.then' cw2.1
        have hbo : BlkAt w2 n1 64 #[.int .u64 k1, .int .u64 k2, .int .u64 k3, .int .u64 k4, .int .u8 k5, .int .u8 k6, .int .u64 k7, .int .u32 k8, .int .u32 k9] := cw2.2
        replace hb0 := hb0.fr cw2.1 id
        clear cw2 fw2 F1 c1 c2 c3 c4 c7 c8 c9 hb5 hb6 hn1
        obtain ⟨x0, x1, x2, x3, x4, x5, x6, x7, x8, xf⟩ := BlkAt.c9 hbo
        go_wp2_with fail
        refine (hck w2).mono ?_
        rintro ed w14 ⟨rfl, f14⟩
        have F14 := F2.then' f14
        replace hb0 := hb0.fr f14 id
        replace hbo := hbo.fr f14 id
        clear x0 x1 x2 x3 x4 x5 x6 x7 x8 xf hck f14 F2
        obtain ⟨x0, x1, x2, x3, x4, x5, x6, x7, x8, xf⟩ := BlkAt.c9 hbo
        obtain ⟨y0, y1, y2, y3, y4, y5, y6, y7, y8, yf⟩ := BlkAt.c9 hb0
        by_cases h2 : cv = 0
        · rw [if_neg (by omega)] at HR
          subst h2
          have FF := F14.trans (fr_setU9 w14 w.heap.size (.int .u64 k1) (.int .u64 k2) (.int .u64 k3) (.int .u64 k4) (.int .u8 k5) (.int .u8 k6) (.int .u64 k7) (.int .u32 k8) (.int .u32 k9)) (fun i hi h => by unfold eqB at h; omega)
          go_wp2_with fail
          have hr := HRES.out
          exact bodyPost_ret (v := .tuple #[(⟨k1, k2, k3, k4, k5, k6, k7, k8, k9⟩ : SuV).v, .int .i64 0]) (by simp [results, hr, go_sem, SuV.v, SuV.C, y0, y1, y2, y3, y4, y5, y6, y7, y8]) rfl ⟨by rw [HR.out] <;> rfl, FF⟩
        · rw [if_pos h2] at HR
          have t2 : ((cv : Int) != 0) = true := by rw [bne_iff_ne]; omega
          clear h2
          have FF := F14.trans (fr_setU9 w14 w.heap.size (.int .u64 0) (.int .u64 0) (.int .u64 0) (.int .u64 0) (.int .u8 0) (.int .u8 0) (.int .u64 0) (.int .u32 0) (.int .u32 0)) (fun i hi h => by unfold eqB at h; omega)
          go_wp2_with fail
          have hr := HRES.out
          exact bodyPost_ret (v := .tuple #[zeroS.v, .int .i64 cv]) (by simp [results, hr, go_sem, zeroS, SuV.v, SuV.C, y0, y1, y2, y3, y4, y5, y6, y7, y8]) rfl ⟨by rw [HR.out] <;> rfl, FF⟩
    · rw [if_pos h0] at HR
      have t2 : ((q : Int) != 0) = true := by rw [bne_iff_ne]; omega
      have FF := F1.trans (fr_setU9 w1 w.heap.size (.int .u64 0) (.int .u64 0) (.int .u64 0) (.int .u64 0) (.int .u8 0) (.int .u8 0) (.int .u64 0) (.int .u32 0) (.int .u32 0)) (fun i hi h => by unfold eqB at h; omega)
      obtain ⟨y0, y1, y2, y3, y4, y5, y6, y7, y8, yf⟩ := BlkAt.c9 hb0
      clear h0 hol
      go_wp2_with fail
      have hr := HRES.out
      exact bodyPost_ret (v := .tuple #[zeroS.v, .int .i64 q]) (by simp [results, hr, go_sem, zeroS, SuV.v, SuV.C, y0, y1, y2, y3, y4, y5, y6, y7, y8]) rfl ⟨by rw [HR.out] <;> rfl, FF⟩
end Go.Proofs.Ytnkdlmmdaagonaa
