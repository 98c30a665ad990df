/- strings.Index, Count, Cut at one byte. -/
import Derived.Test.YtahcopmdffengaaDoorNm4
import Derived.Lib.Bytealg
import Derived.Lib.Walk
namespace Go.Proofs.YtahcopmdffengaaDoor
open Go.RowKit
/-- The place of the first c, or the length. -/
def atB (c : UInt8) : List UInt8 → Nat
  | [] => 0
  | b :: l => if b = c then 0 else atB c l + 1
theorem atB_le (c : UInt8) : ∀ l, atB c l ≤ l.length
  | [] => Nat.le_refl _
  | b :: l => by unfold atB; have := atB_le c l; split <;> simp; omega
theorem indexByte_at (c : UInt8) : ∀ l, Lib.indexByte l c = if atB c l < l.length then (atB c l : Int) else -1
  | [] => rfl
  | b :: l => by
    have ih := indexByte_at c l
    unfold Lib.indexByte atB
    by_cases h : b = c
    · simp [h]
    · have hb : (b == c) = false := by simpa using h
      rw [hb, if_neg h]
      simp only [Bool.false_eq_true, if_false]
      by_cases h2 : atB c l < l.length
      · rw [if_pos h2] at ih
        have h3 : (Lib.indexByte l c == -1) = false := by rw [ih, beq_eq_false_iff_ne]; omega
        rw [h3, ih, if_pos (show atB c l + 1 < (b :: l).length by simp; omega)]
        simp
      · rw [if_neg h2] at ih
        have h3 : (Lib.indexByte l c == -1) = true := by rw [ih]; rfl
        rw [h3, if_neg (show ¬ atB c l + 1 < (b :: l).length by simp; omega)]
        simp
theorem count_pos (c : UInt8) : ∀ l : List UInt8, 0 < l.count c ↔ atB c l < l.length
  | [] => by simp [atB]
  | b :: l => by
    have ih := count_pos c l
    unfold atB
    by_cases h : b = c
    · simp [h]
    · rw [List.count_cons_of_ne h, ih, if_neg h]; simp
def ixV (c : UInt8) (l : List UInt8) : Int := if atB c l < l.length then (atB c l : Int) else -1
set_option maxRecDepth 100000 in
set_option maxHeartbeats 400000 in
theorem indexByte_calls (w : World) (s : ByteArray) (c : UInt8) : Calls Tryd.prog 94 #[.string s, .int .u8 (c.toNat : Nat)] w (fun e w' => e = .returned (.int .i64 (ixV c s.data.toList)) ∧ w = w') := by
  have hv : ixV c s.data.toList = Lib.indexByte s.data.toList c := by unfold ixV; rw [indexByte_at]
  rw [hv]
  have hcc : ((c.toNat : Nat) : Int).toNat.toUInt8 = c := by simp
  go_enter Tryd.func94, Tryd.ntmps94
  go_wp2_with fail
  rw [run_callFunc_extern Tryd.func101 (by kernel_rfl) (by kernel_rfl) (by kernel_rfl) (e := Extern.BytealgIndexByte.indexByte) (by kernel_rfl), Lib.run_indexByteString]
  simp only [Result.andThen]
  rw [Oper.upon_value]
  go_wp2_with fail
  go_ret
  exact ⟨rfl, rfl⟩
theorem self_one (s : ByteArray) (c : UInt8) (h : (([c] : List UInt8) == s.toList) = true) : s.data.toList = [c] := by
  rw [← ByteArray.toList_eq]; exact (beq_iff_eq.1 h).symm
set_option maxRecDepth 100000 in
set_option maxHeartbeats 400000 in
theorem indexL_calls (w : World) (s : ByteArray) (c : UInt8) : Calls Tryd.prog 86 #[.string s, .string ⟨#[c]⟩] w (fun e w' => e = .returned (.int .i64 (ixV c s.data.toList)) ∧ w = w') := by
  have hib := indexByte_calls w s c
  obtain ⟨b, hb⟩ : ∃ b, (([c] : List UInt8) == s.toList) = b := ⟨_, rfl⟩
  cases b
  · generalize ixV c s.data.toList = v at *
    go_enter Tryd.func86, Tryd.ntmps86
    go_wp2_with (refine hib.mono ?_; rintro e w' ⟨rfl, rfl⟩)
    go_ret
    exact ⟨rfl, rfl⟩
  · have hv : ixV c s.data.toList = 0 := by rw [self_one s c hb]; simp [ixV, atB]
    rw [hv]
    clear hib hv
    go_enter Tryd.func86, Tryd.ntmps86
    go_wp2_with fail
    go_ret
    exact ⟨rfl, rfl⟩
set_option maxRecDepth 100000 in
theorem indexS_calls (w : World) (s : ByteArray) (c : UInt8) : Calls Tryd.prog 89 #[.string s, .string ⟨#[c]⟩] w (fun e w' => e = .returned (.int .i64 (ixV c s.data.toList)) ∧ w = w') := by
  have hib := indexL_calls w s c
  generalize ixV c s.data.toList = v at *
  go_enter Tryd.func89, Tryd.ntmps89
  go_wp2_with (refine hib.mono ?_; rintro e w' ⟨rfl, rfl⟩)
  go_ret
  exact ⟨rfl, rfl⟩
set_option maxRecDepth 100000 in
set_option maxHeartbeats 400000 in
theorem countS_calls (w : World) (s : ByteArray) (c : UInt8) : Calls Tryd.prog 88 #[.string s, .string ⟨#[c]⟩] w (fun e w' => e = .returned (.int .i64 (s.data.toList.count c : Nat)) ∧ w = w') := by
  go_enter Tryd.func88, Tryd.ntmps88
  go_wp2_with fail
  rw [run_callFunc_extern Tryd.func100 (by kernel_rfl) (by kernel_rfl) (by kernel_rfl) (e := Extern.BytealgCount.count) (by kernel_rfl), Lib.run_countString]
  simp only [Result.andThen]
  rw [Oper.upon_value]
  go_wp2_with fail
  go_ret
  exact ⟨rfl, rfl⟩
/-! ### Cut -/
theorem ext_take (s : ByteArray) (k : Nat) : s.extract 0 k = mkS (s.data.toList.take k) := by
  apply ByteArray.ext
  rw [ByteArray.data_extract]
  apply Array.ext'
  rw [Array.toList_extract, List.extract_eq_take_drop, List.drop_zero, Nat.sub_zero]
  rfl
theorem ext_drop (s : ByteArray) (k : Nat) : s.extract k s.size = mkS (s.data.toList.drop k) := by
  apply ByteArray.ext
  rw [ByteArray.data_extract]
  apply Array.ext'
  rw [Array.toList_extract, List.extract_eq_take_drop, List.take_of_length_le (by rw [List.length_drop]; exact Nat.le_refl _)]
  rfl
set_option maxRecDepth 100000 in
set_option maxHeartbeats 400000 in
theorem cutL_calls (w : World) (s : ByteArray) (c : UInt8) (hs : s.size ≤ 1000000) : Calls Tryd.prog 74 #[.string s, .string ⟨#[c]⟩] w
    (fun e w' => e = .returned (.tuple (if atB c s.data.toList < s.data.toList.length then #[.string (mkS (s.data.toList.take (atB c s.data.toList))), .string (mkS (s.data.toList.drop (atB c s.data.toList + 1))), .bool true] else #[.string s, .string ⟨#[]⟩, .bool false])) ∧ Fr noB w w') := by
  have hres : Hid (Tryd.f74.results = #[.tmp 4, .tmp 5, .tmp 6]) := by unfold Hid; kernel_rfl
  have hix := indexL_calls w s c
  have htk := ext_take s (atB c s.data.toList)
  have hdr := ext_drop s (atB c s.data.toList + 1)
  have hle := atB_le c s.data.toList
  have hlen : s.data.toList.length = s.size := by simp
  by_cases h : atB c s.data.toList < s.data.toList.length
  · rw [if_pos h]
    have hv : ixV c s.data.toList = (atB c s.data.toList : Int) := by unfold ixV; rw [if_pos h]
    rw [hv] at hix
    generalize hT : mkS (s.data.toList.take (atB c s.data.toList)) = t1 at *
    generalize hD : mkS (s.data.toList.drop (atB c s.data.toList + 1)) = t2 at *
    rw [hlen] at h hle
    generalize atB c s.data.toList = k at *
    clear hv hT hD hlen
    have hkb : 0 ≤ (k : Int) ∧ (k : Int) < s.size := ⟨by omega, by omega⟩
    go_enter Tryd.func74, Tryd.ntmps74
    go_wp2_with (refine hix.mono ?_; rintro e w' ⟨rfl, rfl⟩)
    apply wp_region_calm (R := Fr noB) (C := fun q' W => Fr noB w W) [false, false, false, false, false, false, false, false, false, false, false, false]
      [eqv _, eqv _, eqv (.string t1), eqv _, eqv _, eqv _, eqv _, eqv _, eqv (.string t2), eqv (.string t1), eqv (.string t2), eqv _]
      (by kernel_rfl) (by kernel_rfl) (fun _ _ _ h1 h2 => h1.then' h2) ((Fr.refl _ _).drew) ((Fr.refl _ _).drew) (by kernel_rfl)
    · refine ⟨?_, ?_, ?_, ?_, ?_, ?_, ?_, ?_, ?_, ?_, ?_, ?_, trivial⟩
      · rw [if_neg (by decide)]; intro kq
        exact calm_mv 0 rfl rfl (Or.inl rfl) (Fr.refl _) (by decide) fun v w hd => hd
      · rw [if_neg (by decide)]; intro kq
        exact calm_mv 7 rfl rfl (Or.inl rfl) (Fr.refl _) (by decide) fun v w hd => hd
      · rw [if_neg (by decide)]; intro kq
        intro a W K hC hd hK
        have d13 : _ = _ := hd 13 (by decide)
        have d14 : _ = _ := hd 14 (by decide)
        refine wpOp_plain rfl rfl ?_
        go_wp2_with fail
        exact hK _ _ (Fr.refl _ _) hC rfl
      · rw [if_neg (by decide)]; intro kq
        exact calm_mv 0 rfl rfl (Or.inl rfl) (Fr.refl _) (by decide) fun v w hd => hd
      · rw [if_neg (by decide)]; intro kq
        exact calm_mv 7 rfl rfl (Or.inl rfl) (Fr.refl _) (by decide) fun v w hd => hd
      · rw [if_neg (by decide)]; intro kq
        exact calm_mv 1 rfl rfl (Or.inl rfl) (Fr.refl _) (by decide) fun v w hd => hd
      · rw [if_neg (by decide)]; intro kq
        intro a W K hC hd hK
        have d18 : _ = _ := hd 18 (by decide)
        refine wpOp_plain rfl rfl ?_
        go_wp2_with fail
        exact hK _ _ (Fr.refl _ _) hC rfl
      · rw [if_neg (by decide)]; intro kq
        intro a W K hC hd hK
        have d17 : _ = _ := hd 17 (by decide)
        have d19 : _ = _ := hd 19 (by decide)
        refine wpOp_plain rfl rfl ?_
        go_wp2_with fail
        exact hK _ _ (Fr.refl _ _) hC rfl
      · rw [if_neg (by decide)]; intro kq
        intro a W K hC hd hK
        have d16 : _ = _ := hd 16 (by decide)
        have d20 : _ = _ := hd 20 (by decide)
        refine wpOp_plain rfl rfl ?_
        go_wp2_with fail
        exact hK _ _ (Fr.refl _ _) hC rfl
      · rw [if_neg (by decide)]; intro kq
        exact calm_mv 15 rfl rfl (Or.inr rfl) (Fr.refl _) (by decide) fun v w hd => hd
      · rw [if_neg (by decide)]; intro kq
        exact calm_mv 21 rfl rfl (Or.inr rfl) (Fr.refl _) (by decide) fun v w hd => hd
      · rw [if_neg (by decide)]; intro kq
        intro a W K hC hd hK
        refine wpOp_plain rfl rfl ?_
        go_wp2_with fail
        exact hK _ _ (Fr.refl _ _) hC rfl
    · intro vs w9 fw9 cw9 hV
      have v13 : vs 0 = _ := hV 0 _ _ rfl rfl (by decide)
      have v14 : vs 1 = _ := hV 1 _ _ rfl rfl (by decide)
      have v15 : vs 2 = .string t1 := hV 2 _ _ rfl rfl (by decide)
      have v16 : vs 3 = _ := hV 3 _ _ rfl rfl (by decide)
      have v17 : vs 4 = _ := hV 4 _ _ rfl rfl (by decide)
      have v18 : vs 5 = _ := hV 5 _ _ rfl rfl (by decide)
      have v19 : vs 6 = _ := hV 6 _ _ rfl rfl (by decide)
      have v20 : vs 7 = _ := hV 7 _ _ rfl rfl (by decide)
      have v21 : vs 8 = .string t2 := hV 8 _ _ rfl rfl (by decide)
      have v4 : vs 9 = .string t1 := hV 9 _ _ rfl rfl (by decide)
      have v5 : vs 10 = .string t2 := hV 10 _ _ rfl rfl (by decide)
      have v6 : vs 11 = _ := hV 11 _ _ rfl rfl (by decide)
      clear hV
      simp only [putL, Act.put, Nat.reduceAdd, List.setIfInBounds_toArray, List.set_cons_zero, List.set_cons_succ, v13, v14, v15, v16, v17, v18, v19, v20, v21, v4, v5, v6]
      go_wp2_with fail
      have hr := hres.out
      exact bodyPost_ret (v := .tuple #[.string t1, .string t2, .bool true]) (by simp [results, hr, go_sem]) rfl ⟨rfl, fw9⟩
  · rw [if_neg h]
    have hv : ixV c s.data.toList = -1 := by unfold ixV; rw [if_neg h]
    rw [hv] at hix
    clear hv htk hdr hle hlen h
    go_enter Tryd.func74, Tryd.ntmps74
    go_wp2_with (refine hix.mono ?_; rintro e w' ⟨rfl, rfl⟩)
    have hr := hres.out
    exact bodyPost_ret (v := .tuple #[.string s, .string ⟨#[]⟩, .bool false]) (by simp [results, hr, go_sem]) rfl ⟨rfl, Fr.refl _ _⟩
set_option maxRecDepth 100000 in
theorem cutS_calls (w : World) (s : ByteArray) (c : UInt8) (hs : s.size ≤ 1000000) : Calls Tryd.prog 41 #[.string s, .string ⟨#[c]⟩] w
    (fun e w' => e = .returned (.tuple (if atB c s.data.toList < s.data.toList.length then #[.string (mkS (s.data.toList.take (atB c s.data.toList))), .string (mkS (s.data.toList.drop (atB c s.data.toList + 1))), .bool true] else #[.string s, .string ⟨#[]⟩, .bool false])) ∧ Fr noB w w') := by
  have hc := cutL_calls w s c hs
  have hres : Hid (Tryd.f41.results = #[.tmp 4, .tmp 5, .tmp 6]) := by unfold Hid; kernel_rfl
  by_cases h : atB c s.data.toList < s.data.toList.length
  · rw [if_pos h] at hc ⊢
    generalize mkS (s.data.toList.take (atB c s.data.toList)) = t1 at *
    generalize mkS (s.data.toList.drop (atB c s.data.toList + 1)) = t2 at *
    clear h
    go_enter Tryd.func41, Tryd.ntmps41
    go_wp2_with fail
    refine hc.mono ?_
    rintro e w1 ⟨rfl, f1⟩
    go_wp2_with fail
    have hr := hres.out
    exact bodyPost_ret (v := .tuple #[.string t1, .string t2, .bool true]) (by simp [results, hr, go_sem]) rfl ⟨rfl, f1⟩
  · rw [if_neg h] at hc ⊢
    clear h
    go_enter Tryd.func41, Tryd.ntmps41
    go_wp2_with fail
    refine hc.mono ?_
    rintro e w1 ⟨rfl, f1⟩
    go_wp2_with fail
    have hr := hres.out
    exact bodyPost_ret (v := .tuple #[.string s, .string ⟨#[]⟩, .bool false]) (by simp [results, hr, go_sem]) rfl ⟨rfl, f1⟩
end Go.Proofs.YtahcopmdffengaaDoor
