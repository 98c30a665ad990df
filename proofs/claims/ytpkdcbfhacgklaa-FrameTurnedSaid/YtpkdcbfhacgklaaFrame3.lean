/- interrexref03: Put, Size, Get; interrexlaw03.lives. -/
import Derived.Test.YtpkdcbfhacgklaaFrame2
import Derived.Test.YtpkdcbfhacgklaaCrcOpens
import Derived.Test.YtpkdcbfhacgklaaRef3
import Derived.Test.YtpkdcbfhacgklaaConv
namespace Go.Proofs.Ytpkdcbfhacgklaa
open Go.RowKit
def SlB (bs : List UInt8) : Stb (Fr noB) :=
  ⟨fun v w => ∃ A m c, v = .slice A m c ∧ bs.length = m ∧ RowAt w A (bcells bs), fun _ _ _ ⟨A, m, c, e, hm, h⟩ f => ⟨A, m, c, e, hm, h.fr0 f⟩⟩
theorem mkS_sub (b : List UInt8) (i j : Nat) : (mkS b).extract i j = mkS ((b.drop i).take (j - i)) := by
  apply ByteArray.ext; apply Array.ext'
  simp [mkS]
set_option maxRecDepth 100000 in
set_option maxHeartbeats 1600000 in
theorem putFR_calls (w : World) (k : Nat) (b : List UInt8) (hk : k < 256) (hn : b.length ≤ 65526) :
    Calls Try.prog 26 #[.int .u8 k, .string (mkS b)] w (fun e w' => e = .returned (.tuple #[.string (mkS (frameB k b)), .int .i64 0]) ∧ Fr noB w w') := by
  have hsz : (mkS b).size = b.length := mkS_size _
  have d0 : wrap64 (((mkS b).size : Int) + 10) = ((mkS b).size : Int) + 10 := by unfold wrap64; omega
  have d1 : decide ((65536 : Int) < ((mkS b).size : Int) + 10) = false := decide_eq_false (by omega)
  have hwrap : IntKind.u64.wrap ((mkS b).size : Int) = (mkS b).size := by rw [IntKind.wrap_u64]; omega
  have hnum := fun W => numR_calls W (mkS b).size 4 (by omega) (by decide)
  have hseal := fun W => sealR_calls W (mkS (frB k b)) (by rw [mkS_size, frB_length]; omega)
  rw [mkS_data] at hseal
  obtain ⟨o1, ho1⟩ : ∃ x, (⟨#[1]⟩ : ByteArray) = x := ⟨_, rfl⟩
  obtain ⟨sk, hsk⟩ : ∃ x, mkS (leB 1 k) = x := ⟨_, rfl⟩
  obtain ⟨s4, hs4⟩ : ∃ x, mkS (leB 4 (mkS b).size) = x := ⟨_, rfl⟩
  obtain ⟨s13, h13⟩ : ∃ x, o1 ++ sk = x := ⟨_, rfl⟩
  obtain ⟨s18, h18⟩ : ∃ x, s13 ++ s4 = x := ⟨_, rfl⟩
  have ho : o1 = mkS (leB 1 1) := by rw [← ho1]; decide
  have h13' : s13 = mkS (leB 1 1 ++ leB 1 k) := by rw [← h13, ho, ← hsk, mkS_append]
  have h18' : s18 = mkS (leB 1 1 ++ leB 1 k ++ leB 4 b.length) := by rw [← h18, h13', ← hs4, hsz, mkS_append]
  have HFB : Hid (s18 ++ mkS b = mkS (frB k b)) := by unfold Hid frB; rw [h18', mkS_append]
  have Z1 : Hid (o1.size + sk.size ≤ 9223372036854775807) := by unfold Hid; rw [ho, ← hsk]; simp only [mkS_size, leB_length]; omega
  have Z2 : Hid (s13.size + s4.size ≤ 9223372036854775807) := by unfold Hid; rw [h13', ← hs4]; simp only [mkS_size, List.length_append, leB_length]; omega
  have Z3 : Hid (s18.size + (mkS b).size ≤ 9223372036854775807) := by unfold Hid; rw [h18']; simp only [mkS_size, List.length_append, leB_length]; omega
  have H13 := hid h13
  have H18 := hid h18
  have HSK := hid hsk
  have HS4 := hid hs4
  have HO1 := hid ho1
  clear ho h13' h18' h13 h18 hs4 ho1
  have hkw : ∀ W : World, RowAt (W.alloc (.cells #[.int .u8 k] 5)) (some ⟨W.heap.size, 0, none⟩) (bcells (leB 1 k)) := fun W => by
    have := new_row W #[.int .u8 k] 5
    have e : bcells (leB 1 k) = (#[Value.int .u8 k] : Array Value).toList := by simp [leB, bcells]; omega
    rw [e]; exact this
  clear hsk
  generalize hfb : frB k b = fb at *
  have HFF := hid hfb
  clear hfb
  generalize hs : mkS b = s at *
  have HS := hid hs
  have HK := hid hk
  have HL : Hid ((frameB k b).length = b.length + 10) := frameB_length k b
  have HFR : Hid (frameB k b = sealB fb) := by unfold Hid frameB; rw [← HFF.out]
  clear hk hsz hs
  go_enter Try.func26, Try.ntmps26
  go_wp2_with fail
  apply wp_region_calm (R := Fr noB) (C := fun q W => Fr noB w W) [false, false, false, false, false, false, false, false, false, false, false, false, false, false]
    [eqv _, SlB (leB 1 k), eqv (.string sk), eqv (.string s13), eqv _, eqv _, eqv _, eqv (.string s4), eqv (.string s18), eqv _, eqv (.string (mkS fb)), eqv _, eqv _, eqv _]
    (by kernel_rfl) (by kernel_rfl) (fun _ _ _ h1 h2 => h1.then' h2) ((Fr.refl _ _).drew) ((Fr.refl _ _).drew) (by kernel_rfl)
  · refine ⟨?_, ?_, ?_, ?_, ?_, ?_, ?_, ?_, ?_, ?_, ?_, ?_, ?_, ?_, trivial⟩
    · rw [if_neg (by decide)]; intro kq
      exact calm_mv 0 rfl rfl (Or.inl rfl) (Fr.refl _) (by decide) fun v w hd => hd
    · rw [if_neg (by decide)]; intro kq
      intro a W K hC hd hK
      have d10 : _ = _ := hd 10 (by decide)
      refine wpOp_plain rfl rfl ?_
      have hr9 := hkw W
      go_wp2_with fail
      exact hK _ _ ((Fr.refl noB W).alloc _) (hC.alloc _) ⟨_, 1, 1, rfl, leB_length 1 k, hr9⟩
    · rw [if_neg (by decide)]; intro kq
      intro a W K hC hd hK
      have d11 : (SlB (leB 1 k)).V (a.tmps[11]?.getD undef) W := hd 11 (by decide)
      refine wpOp_plain rfl rfl ?_
      obtain ⟨A9, m9, c9, d11, hm9, h9⟩ := d11
      have hst := Try.toStr h9 hm9 c9
      rw [HSK.out] at hst
      go_wp2_with fail
      exact hK _ _ (Fr.refl _ _) hC rfl
    · rw [if_neg (by decide)]; intro kq
      intro a W K hC hd hK
      have d12 : a.tmps[12]?.getD undef = .string sk := hd 12 (by decide)
      refine wpOp_plain rfl rfl ?_
      have hk9 := HO1.out
      have z9 := Z1.out
      rw [hk9]
      clear hk9
      go_wp2_with fail
      exact hK (.string (o1 ++ sk)) _ (Fr.refl _ _) hC (congrArg Value.string H13.out)
    · rw [if_neg (by decide)]; intro kq
      exact calm_mv 1 rfl rfl (Or.inl rfl) (Fr.refl _) (by decide) fun v w hd => hd
    · rw [if_neg (by decide)]; intro kq
      intro a W K hC hd hK
      have d14 : _ = _ := hd 14 (by decide)
      refine wpOp_plain rfl rfl ?_
      go_wp2_with fail
      exact hK _ _ (Fr.refl _ _) hC rfl
    · rw [if_neg (by decide)]; intro kq
      intro a W K hC hd hK
      have d15 : _ = _ := hd 15 (by decide)
      refine wpOp_plain rfl rfl ?_
      go_wp2_with fail
      exact hK _ _ (Fr.refl _ _) hC rfl
    · rw [if_neg (by decide)]; intro kq
      intro a W K hC hd hK
      have d16 : _ = _ := hd 16 (by decide)
      refine wpOp_plain rfl rfl ?_
      go_wp2_with fail
      refine (hnum W).mono ?_
      rintro e9 w9 ⟨rfl, f9⟩
      exact hK _ _ f9 (hC.then' f9) (congrArg Value.string HS4.out)
    · rw [if_neg (by decide)]; intro kq
      intro a W K hC hd hK
      have d13 : a.tmps[13]?.getD undef = .string s13 := hd 13 (by decide)
      have d17 : a.tmps[17]?.getD undef = .string s4 := hd 17 (by decide)
      refine wpOp_plain rfl rfl ?_
      have z9 := Z2.out
      go_wp2_with fail
      exact hK (.string (s13 ++ s4)) _ (Fr.refl _ _) hC (congrArg Value.string H18.out)
    · rw [if_neg (by decide)]; intro kq
      exact calm_mv 1 rfl rfl (Or.inl rfl) (Fr.refl _) (by decide) fun v w hd => hd
    · rw [if_neg (by decide)]; intro kq
      intro a W K hC hd hK
      have d18 : a.tmps[18]?.getD undef = .string s18 := hd 18 (by decide)
      have d19 : _ = _ := hd 19 (by decide)
      refine wpOp_plain rfl rfl ?_
      have z9 := Z3.out
      go_wp2_with fail
      exact hK (.string (s18 ++ s)) _ (Fr.refl _ _) hC (congrArg Value.string HFB.out)
    · rw [if_neg (by decide)]; intro kq
      intro a W K hC hd hK
      have d20 : a.tmps[20]?.getD undef = .string (mkS fb) := hd 20 (by decide)
      refine wpOp_plain rfl rfl ?_
      go_wp2_with fail
      refine (hseal W).mono ?_
      rintro e9 w9 ⟨rfl, f9⟩
      exact hK _ _ f9 (hC.then' f9) rfl
    · rw [if_neg (by decide)]; intro kq
      exact calm_mv 21 rfl rfl (Or.inr rfl) (Fr.refl _) (by decide) fun v w hd => hd
    · rw [if_neg (by decide)]; intro kq
      intro a W K hC hd hK
      refine wpOp_plain rfl rfl ?_
      go_wp2_with fail
      exact hK _ _ (Fr.refl _ _) hC rfl
  · intro vs w8 fw8 cw8 hV
    have v10 : vs 0 = _ := hV 0 _ _ rfl rfl (by decide)
    have v11 : (SlB (leB 1 k)).V (vs 1) w8 := hV 1 _ _ rfl rfl (by decide)
    have v12 : vs 2 = .string sk := hV 2 _ _ rfl rfl (by decide)
    have v13 : vs 3 = .string s13 := hV 3 _ _ rfl rfl (by decide)
    have v14 : vs 4 = _ := hV 4 _ _ rfl rfl (by decide)
    have v15 : vs 5 = _ := hV 5 _ _ rfl rfl (by decide)
    have v16 : vs 6 = _ := hV 6 _ _ rfl rfl (by decide)
    have v17 : vs 7 = .string s4 := hV 7 _ _ rfl rfl (by decide)
    have v18 : vs 8 = .string s18 := hV 8 _ _ rfl rfl (by decide)
    have v19 : vs 9 = _ := hV 9 _ _ rfl rfl (by decide)
    have v20 : vs 10 = .string (mkS fb) := hV 10 _ _ rfl rfl (by decide)
    have v21 : vs 11 = _ := hV 11 _ _ rfl rfl (by decide)
    have v4 : vs 12 = _ := hV 12 _ _ rfl rfl (by decide)
    have v5 : vs 13 = _ := hV 13 _ _ rfl rfl (by decide)
    clear hV
    simp only [putL, Act.put, Nat.reduceAdd, List.setIfInBounds_toArray, List.set_cons_zero, List.set_cons_succ, v10, v12, v13, v14, v15, v16, v17, v18, v19, v20, v21, v4, v5]
    go_wp2_with fail
    go_ret2
    rw [HFR.out]
    exact ⟨rfl, fw8⟩
theorem putFR_long (w : World) (k : Nat) (s : ByteArray) (hn : 65526 < s.size) (hm : s.size ≤ 1000000000000) :
    Calls Try.prog 26 #[.int .u8 k, .string s] w (fun e w' => e = .returned (.tuple #[.string ⟨#[]⟩, .int .i64 3]) ∧ w = w') := by
  have d0 : wrap64 ((s.size : Int) + 10) = (s.size : Int) + 10 := by unfold wrap64; omega
  have d1 : decide ((65536 : Int) < (s.size : Int) + 10) = true := decide_eq_true (by omega)
  go_enter Try.func26, Try.ntmps26
  go_wp2_with fail
  go_ret2
  exact ⟨rfl, rfl⟩
set_option maxRecDepth 100000 in
set_option maxHeartbeats 1600000 in
theorem sizeR_calls (w : World) (b : List UInt8) (hn : b.length ≤ 1000000000000) :
    Calls Try.prog 30 #[.string (mkS b)] w (fun e w' => e = .returned (.tuple #[.int .u64 ((sizeV b).1 : Nat), .int .i64 ((sizeV b).2 : Nat)]) ∧ w' = w) := by
  have hsz : (mkS b).size = b.length := mkS_size _
  by_cases h10 : b.length < 10
  · have d1 : decide (((mkS b).size : Int) < 10) = true := decide_eq_true (by omega)
    have HV : Hid (sizeV b = (0, 2)) := by unfold Hid sizeV; rw [if_pos h10]
    clear h10 hsz
    generalize mkS b = s at *
    go_enter Try.func30, Try.ntmps30
    go_wp2_with fail
    go_ret2
    exact ⟨by rw [HV.out]; rfl, rfl⟩
  · have d1 : decide (((mkS b).size : Int) < 10) = false := decide_eq_false (by omega)
    obtain ⟨x, hx⟩ : ∃ x, b[0]? = some x := ⟨_, List.getElem?_eq_getElem (by omega)⟩
    have hh : b.headD 0 = x := by
      cases b with
      | nil => simp at hx
      | cons y b => simp at hx; exact hx
    have hx0 : ∀ h : 0 < (mkS b).size, ((mkS b)[0]'h) = x := fun h => by
      rw [hsz] at h
      rw [List.getElem?_eq_getElem h] at hx
      cases hx; rfl
    have hsub : (mkS b).extract 2 6 = mkS ((b.drop 2).take 4) := mkS_sub b 2 6
    have hs0 : 0 < (mkS b).size := by omega
    have hs2 : 6 ≤ (mkS b).size := by omega
    have hs3 : (mkS b).size ≤ 9223372036854775807 := by omega
    have hval := valueR_calls w ((b.drop 2).take 4) (by rw [List.length_take]; omega)
    by_cases h1 : x = 1
    · have t1 : ((x.toNat : Int) != 1) = false := by rw [bne_eq_false_iff_eq, h1]; rfl
      have HV : Hid (sizeV b = (leV ((b.drop 2).take 4) + 10, 0)) := by unfold Hid sizeV; rw [if_neg h10, if_neg (by rw [hh]; simp [h1])]
      have h4 := leV4_lt b
      generalize leV ((b.drop 2).take 4) = v at *
      have hw3 : IntKind.u64.wrap ((v : Int) + 10) = ((v + 10 : Nat) : Int) := by rw [IntKind.wrap_u64]; omega
      clear hh hx h1 h4 h10 hsz hn
      generalize mkS ((b.drop 2).take 4) = s4 at *
      generalize mkS b = s at *
      go_enter Try.func30, Try.ntmps30
      go_wp2_with fail
      refine hval.mono ?_
      rintro e w1 ⟨rfl, rfl⟩
      go_wp2_with fail
      go_ret2
      exact ⟨by rw [HV.out]; rfl, rfl⟩
    · have t1 : ((x.toNat : Int) != 1) = true := by
        rw [bne_iff_ne]; intro h; exact h1 (UInt8.toNat_inj.1 (by simpa using (by omega : x.toNat = 1)))
      have HV : Hid (sizeV b = (0, 6)) := by unfold Hid sizeV; rw [if_neg h10, if_pos (by rw [hh]; exact h1)]
      clear hh hx h1 h10 hsz hn hval hsub
      generalize mkS b = s at *
      go_enter Try.func30, Try.ntmps30
      go_wp2_with fail
      go_ret2
      exact ⟨by rw [HV.out]; rfl, rfl⟩
def FGetR (w : World) (q : (Nat × List UInt8) × Nat) (e : Ending) (w' : World) : Prop := e = .returned (.tuple #[.int .u8 (q.1.1 : Nat), .string (mkS q.1.2), .int .i64 (q.2 : Nat)]) ∧ Fr noB w w'
set_option maxRecDepth 100000 in
set_option maxHeartbeats 1600000 in
theorem getFR_calls (w : World) (b : List UInt8) (hn : b.length ≤ 1000000) :
    Calls Try.prog 28 #[.string (mkS b)] w (FGetR w (frGet b)) := by
  have hsz : (mkS b).size = b.length := mkS_size _
  by_cases hl : 65536 < b.length
  · have d1 : decide ((65536 : Int) < (mkS b).size) = true := decide_eq_true (by omega)
    have HV : Hid (frGet b = ((0, []), 3)) := by unfold Hid frGet; rw [if_pos hl]
    clear hl hsz
    generalize mkS b = s at *
    go_enter Try.func28, Try.ntmps28
    go_wp2_with fail
    go_ret3
    rw [HV.out]
    exact ⟨rfl, Fr.refl _ _⟩
  · have d1 : decide ((65536 : Int) < (mkS b).size) = false := decide_eq_false (by omega)
    have hsv := sizeR_calls w b (by omega)
    have hop := openR_calls w (mkS b) (by omega)
    rw [mkS_data] at hop
    have HV : Hid (frGet b = if (sizeV b).2 ≠ 0 then ((0, []), (sizeV b).2) else if b.length < (sizeV b).1 then ((0, []), 2) else if (sizeV b).1 < b.length then ((0, []), 3) else if (openB b).2 ≠ 0 then ((0, []), (openB b).2) else ((((openB b).1.getD 1 0).toNat, (openB b).1.drop 6), 0)) := by
      show frGet b = _
      conv => lhs; unfold frGet
      rw [if_neg hl]
    have hz := sizeV_lt b
    have hz10 : (sizeV b).2 = 0 → 10 ≤ b.length := fun h0 => by
      unfold sizeV at h0
      split at h0
      · cases h0
      · omega
    have hob : (openB b).2 = 0 → 10 ≤ b.length → (openB b).1.length = b.length - 4 := fun h0 h1 => openB_len h0 (by omega)
    rw [← hsz] at HV hz10 hob hn hl
    generalize frGet b = res at *
    generalize sizeV b = sv at *
    generalize openB b = ob at *
    obtain ⟨v, ev⟩ := sv
    obtain ⟨al, ae⟩ := ob
    simp only [] at *
    clear hsz
    generalize mkS b = s at *
    have HZ := hid hz
    have HL := hid hl
    clear hz hl
    go_enter Try.func28, Try.ntmps28
    go_wp2_with fail
    refine hsv.mono ?_
    rintro e w1 ⟨rfl, rfl⟩
    by_cases he : ev = 0
    · have t1 : ((ev : Int) != 0) = false := by rw [bne_eq_false_iff_eq]; omega
      have hn10 := hz10 he
      rw [if_neg (by rw [he]; decide)] at HV
      have hw1 : IntKind.u64.wrap (s.size : Int) = s.size := by rw [IntKind.wrap_u64]; omega
      clear he hz10
      by_cases h1 : s.size < v
      · have d2 : decide (s.size < v) = true := decide_eq_true h1
        rw [if_pos h1] at HV
        clear h1
        go_wp2_with fail
        go_ret3
        rw [HV.out]
        exact ⟨rfl, Fr.refl _ _⟩
      · have d2 : decide (s.size < v) = false := decide_eq_false h1
        rw [if_neg h1] at HV
        by_cases h2 : v < s.size
        · have d3 : decide (v < s.size) = true := decide_eq_true h2
          rw [if_pos h2] at HV
          clear h1 h2
          go_wp2_with fail
          go_ret3
          rw [HV.out]
          exact ⟨rfl, Fr.refl _ _⟩
        · have d3 : decide (v < s.size) = false := decide_eq_false h2
          rw [if_neg h2] at HV
          clear h1 h2
          go_wp2_with fail
          refine hop.mono ?_
          rintro e w2 ⟨rfl, f2⟩
          clear hop
          by_cases ha : ae = 0
          · have t2 : ((ae : Int) != 0) = false := by rw [bne_eq_false_iff_eq]; omega
            have hk := hob ha hn10
            rw [if_neg (by rw [ha]; decide)] at HV
            clear ha hob
            obtain ⟨x, hx⟩ : ∃ x, al[1]? = some x := ⟨_, List.getElem?_eq_getElem (by omega)⟩
            have hgx : al.getD 1 0 = x := by rw [List.getD_eq_getElem?_getD, hx]; rfl
            rw [hgx] at HV
            have haz : (mkS al).size = al.length := mkS_size _
            have hx1 : ∀ h : 1 < (mkS al).size, ((mkS al)[1]'h) = x := fun h => by
              rw [haz] at h
              rw [List.getElem?_eq_getElem h] at hx
              cases hx; rfl
            have hs1 : 1 < (mkS al).size := by omega
            have hs6 : 6 ≤ (mkS al).size := by omega
            have hsm : (mkS al).size ≤ 9223372036854775807 := by omega
            have hex : (mkS al).extract 6 (mkS al).size = mkS (al.drop 6) := by rw [haz]; exact mkS_from al 6
            have HK := hid hk
            clear hx hgx haz hk
            generalize hsd : mkS (al.drop 6) = sd at *
            have HSD := hid hsd
            clear hsd
            generalize mkS al = sa at *
            go_wp2_with fail
            apply wp_region_calm (R := Fr noB) (C := fun q W => Fr noB w2 W) [false, false, false, false, false, false, false]
              [eqv _, eqv _, eqv _, eqv _, eqv _, eqv _, eqv _]
              (by kernel_rfl) (by kernel_rfl) (fun _ _ _ h1 h2 => h1.then' h2) ((Fr.refl _ _).drew) ((Fr.refl _ _).drew) (by kernel_rfl)
            · refine ⟨?_, ?_, ?_, ?_, ?_, ?_, ?_, trivial⟩
              · rw [if_neg (by decide)]; intro kq
                exact calm_mv 7 rfl rfl (Or.inl rfl) (Fr.refl _) (by decide) fun v w hd => hd
              · rw [if_neg (by decide)]; intro kq
                intro a W K hC hd hK
                have d38 : _ = _ := hd 38 (by decide)
                refine wpOp_plain rfl rfl ?_
                go_wp2_with fail
                exact hK _ _ (Fr.refl _ _) hC rfl
              · rw [if_neg (by decide)]; intro kq
                exact calm_mv 7 rfl rfl (Or.inl rfl) (Fr.refl _) (by decide) fun v w hd => hd
              · rw [if_neg (by decide)]; intro kq
                intro a W K hC hd hK
                have d40 : _ = _ := hd 40 (by decide)
                refine wpOp_plain rfl rfl ?_
                go_wp2_with fail
                exact hK _ _ (Fr.refl _ _) hC rfl
              · rw [if_neg (by decide)]; intro kq
                exact calm_mv 39 rfl rfl (Or.inr rfl) (Fr.refl _) (by decide) fun v w hd => hd
              · rw [if_neg (by decide)]; intro kq
                exact calm_mv 41 rfl rfl (Or.inr rfl) (Fr.refl _) (by decide) fun v w hd => hd
              · rw [if_neg (by decide)]; intro kq
                intro a W K hC hd hK
                refine wpOp_plain rfl rfl ?_
                go_wp2_with fail
                exact hK _ _ (Fr.refl _ _) hC rfl
            · intro vs w8 fw8 cw8 hV
              have v38 : vs 0 = _ := hV 0 _ _ rfl rfl (by decide)
              have v39 : vs 1 = _ := hV 1 _ _ rfl rfl (by decide)
              have v40 : vs 2 = _ := hV 2 _ _ rfl rfl (by decide)
              have v41 : vs 3 = _ := hV 3 _ _ rfl rfl (by decide)
              have v2 : vs 4 = _ := hV 4 _ _ rfl rfl (by decide)
              have v3 : vs 5 = _ := hV 5 _ _ rfl rfl (by decide)
              have v4 : vs 6 = _ := hV 6 _ _ rfl rfl (by decide)
              clear hV
              simp only [putL, Act.put, Nat.reduceAdd, List.setIfInBounds_toArray, List.set_cons_zero, List.set_cons_succ, v38, v39, v40, v41, v2, v3, v4]
              go_wp2_with fail
              go_ret3
              rw [HV.out]
              refine ⟨?_, f2.then' fw8⟩
              simp only []
              rw [HSD.out]; rfl
          · have t2 : ((ae : Int) != 0) = true := by rw [bne_iff_ne]; omega
            rw [if_pos ha] at HV
            clear ha hob
            go_wp2_with fail
            go_ret3
            rw [HV.out]
            exact ⟨rfl, f2⟩
    · have t1 : ((ev : Int) != 0) = true := by rw [bne_iff_ne]; omega
      rw [if_pos he] at HV
      clear he hz10
      go_wp2_with fail
      go_ret3
      rw [HV.out]
      exact ⟨rfl, Fr.refl _ _⟩
end Go.Proofs.Ytpkdcbfhacgklaa
