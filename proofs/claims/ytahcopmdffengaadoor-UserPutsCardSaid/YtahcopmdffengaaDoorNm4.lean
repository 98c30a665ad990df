/- interrexref05.Fold. -/
import Derived.Test.YtahcopmdffengaaDoorNm3
import Derived.Test.YtahcopmdffengaaDoorCalm
namespace Go.Proofs.YtahcopmdffengaaDoor
open Go.RowKit
def greatS : ByteArray := ⟨#[65, 66, 67, 68, 69, 70, 71, 72, 73, 74, 75, 76, 77, 78, 79, 80, 81, 82, 83, 84, 85, 86, 87, 88, 89, 90]⟩
theorem great_at : ∀ k, k < 26 → (greatS.data.toList.getD k 0).toNat = 65 + k := by decide
/-- What stands for a sign behind k rounds. -/
def roundC (b : UInt8) (k : Nat) : UInt8 := if 65 ≤ b.toNat ∧ b.toNat < 65 + k then UInt8.ofNat (b.toNat + 32) else b
theorem roundC_zero (b : UInt8) : roundC b 0 = b := by unfold roundC; rw [if_neg (by omega)]
theorem roundC_all (b : UInt8) : roundC b 26 = foldC b := by
  unfold roundC foldC
  by_cases h : 65 ≤ b.toNat ∧ b.toNat ≤ 90
  · rw [if_pos h, if_pos (by omega)]
  · rw [if_neg h, if_neg (by omega)]
theorem roundC_hit {b : UInt8} {k : Nat} (hk : k < 26) (h : b.toNat = 65 + k) : roundC b (k + 1) = UInt8.ofNat (97 + k) := by
  unfold roundC; rw [if_pos (by omega), show b.toNat + 32 = 97 + k by omega]
theorem roundC_miss {b : UInt8} {k : Nat} (h : b.toNat ≠ 65 + k) : roundC b (k + 1) = roundC b k := by
  unfold roundC
  by_cases h1 : 65 ≤ b.toNat ∧ b.toNat < 65 + k
  · rw [if_pos h1, if_pos (by omega)]
  · rw [if_neg h1, if_neg (by omega)]
theorem extract_one (s : ByteArray) {k : Nat} {b : UInt8} (hb : s.data.toList[k]? = some b) : s.extract k (k + 1) = mkS [b] := by
  have hk : k < s.data.size := by have := (List.getElem?_eq_some_iff.1 hb).1; simpa using this
  apply ByteArray.ext
  rw [ByteArray.data_extract]
  apply Array.ext'
  rw [Array.toList_extract, List.extract_eq_take_drop, show k + 1 - k = 1 by omega]
  have h1 := List.drop_eq_getElem_cons (l := s.data.toList) (i := k) (by simpa using hk)
  rw [h1]
  obtain ⟨h2, h3⟩ := List.getElem?_eq_some_iff.1 hb
  rw [h3]; simp [mkS]
theorem letters_at : ∀ k, k < 26 → lettersS.data.toList[k]? = some (UInt8.ofNat (97 + k)) := by decide
set_option maxRecDepth 100000 in
set_option maxHeartbeats 800000 in
theorem foldR_calls (w : World) (s : ByteArray) (hs : s.size ≤ 1000000) : Calls Tryd.prog 15 #[.string s] w (StrPost w (foldL s.data.toList)) := by
  have hx := str_at s
  obtain ⟨bs, hbs⟩ : ∃ bs, s.data.toList = bs := ⟨_, rfl⟩
  have hlen : bs.length = s.size := by rw [← hbs]; simp
  rw [hbs] at hx ⊢
  have HL := hid hlen
  have HX := hid hx
  clear hlen hx
  go_enter Tryd.func15, Tryd.ntmps15
  go_wp2_with fail
  go_loopw [4, 5] (fun v i wr => ∃ k : Nat, k ≤ s.size ∧ i = .int .i64 k ∧ v = .string (mkS (foldL (bs.take k))) ∧ Fr noB w wr) (fun _ i _ => s.size - (intOf i).toNat)
  case atStart => exact ⟨0, Nat.zero_le _, rfl, rfl, Fr.refl _ _⟩
  case round =>
    obtain ⟨k, hk, rfl, rfl, hf⟩ := hrel
    by_cases hkn : k < s.size
    · have hlt : k < bs.length := by rw [HL.out]; exact hkn
      obtain ⟨b, hb⟩ : ∃ b, bs[k]? = some b := ⟨_, List.getElem?_eq_getElem hlt⟩
      have hex := extract_one s (k := k) (b := b) (by rw [hbs]; exact hb)
      rw [← roundC_zero b] at hex
      have hfl : foldL (bs.take (k + 1)) = foldL (bs.take k) ++ [foldC b] := by
        unfold foldL
        rw [List.take_succ_eq_append_getElem hlt, List.map_append]
        obtain ⟨h2, h3⟩ := List.getElem?_eq_some_iff.1 hb
        rw [h3]; rfl
      have HFL := hid hfl
      have hsz : (mkS (foldL (bs.take k))).size + (mkS [foldC b]).size ≤ 9223372036854775807 := by
        rw [mkS_size, mkS_size]; unfold foldL; rw [List.length_map, List.length_take]; simp; omega
      have hgd : (bs.getD k 0).toNat = b.toNat := by rw [List.getD_eq_getElem?_getD, hb]; rfl
      have hx0 : ∀ h : k < s.size, (s[k]'h).toNat = b.toNat := fun h => by rw [HX.out k h, hgd]
      clear hfl hgd hb
      go_upto_region 7 with fail
      go_wp2_with fail
      clear hex
      go_loopw [6, 19] (fun v i wx => ∃ j : Nat, j ≤ 26 ∧ i = .int .i64 j ∧ v = .string (mkS [roundC b j]) ∧ Fr noB w wx) (fun _ i _ => 26 - (intOf i).toNat)
      case atStart => exact ⟨0, by omega, rfl, rfl, hf⟩
      case round =>
        clear hf
        obtain ⟨j, hj, rfl, rfl, hf⟩ := hrel
        by_cases hj26 : j < 26
        · have hgr : ∀ h : j < greatS.size, (greatS[j]'h).toNat = 65 + j := fun h => by rw [str_at greatS j h, great_at j hj26]
          have hlx := extract_one lettersS (letters_at j hj26)
          obtain ⟨g, hg⟩ : ∃ g, 65 + j = g := ⟨_, rfl⟩
          obtain ⟨lb, hlb⟩ : ∃ lb, UInt8.ofNat (97 + j) = lb := ⟨_, rfl⟩
          have hhit := fun h => roundC_hit (b := b) hj26 h
          have hmiss := fun h => roundC_miss (b := b) (k := j) h
          rw [hg] at hgr hhit hmiss
          rw [hlb] at hlx hhit
          unfold greatS at hgr
          unfold lettersS at hlx
          have hjb : 0 ≤ (j : Int) ∧ (j : Int) < 26 := ⟨by omega, by omega⟩
          have hkb : 0 ≤ (k : Int) ∧ (k : Int) < s.size := ⟨by omega, by omega⟩
          by_cases heq : b.toNat = g
          · have HRC := hid (hhit heq)
            have te : ((b.toNat : Int) == (g : Int)) = true := by rw [heq]; simp
            clear heq hhit hmiss hg hlb
            generalize b.toNat = c at *
            go_wp2_with fail
            apply wp_region_calm (R := Fr noB) (C := fun q' W => Fr noB wr W) [false, false, false, false, false, false, false]
              [eqv _, eqv _, eqv (.int .u8 (c : Nat)), eqv _, eqv _, eqv (.int .u8 g), eqv (.bool true)]
              (by kernel_rfl) (by kernel_rfl) (fun _ _ _ h1 h2 => h1.then' h2) ((Fr.refl _ _).drew) ((Fr.refl _ _).drew) (by kernel_rfl)
            · refine ⟨?_, ?_, ?_, ?_, ?_, ?_, ?_, trivial⟩
              · rw [if_neg (by decide)]; intro kq
                exact calm_mv 0 rfl rfl (Or.inl rfl) (Fr.refl _) (by decide) fun v w hd => hd
              · rw [if_neg (by decide)]; intro kq
                exact calm_mv 5 rfl rfl (Or.inl rfl) (Fr.refl _) (by decide) fun v w hd => hd
              · rw [if_neg (by decide)]; intro kq
                intro a W K hC hd hK
                have d22 : _ = _ := hd 22 (by decide)
                have d23 : _ = _ := hd 23 (by decide)
                refine wpOp_plain rfl rfl ?_
                go_wp2_with fail
                exact hK _ _ (Fr.refl _ _) hC rfl
              · rw [if_neg (by decide)]; intro kq
                exact calm_mv 3 rfl rfl (Or.inl rfl) (Fr.refl _) (by decide) fun v w hd => hd
              · rw [if_neg (by decide)]; intro kq
                exact calm_mv 7 rfl rfl (Or.inl rfl) (Fr.refl _) (by decide) fun v w hd => hd
              · rw [if_neg (by decide)]; intro kq
                intro a W K hC hd hK
                have d25 : _ = _ := hd 25 (by decide)
                have d26 : _ = _ := hd 26 (by decide)
                refine wpOp_plain rfl rfl ?_
                go_wp2_with fail
                exact hK _ _ (Fr.refl _ _) hC rfl
              · rw [if_neg (by decide)]; intro kq
                intro a W K hC hd hK
                have d24 : a.tmps[24]?.getD undef = .int .u8 (c : Nat) := hd 24 (by decide)
                have d27 : a.tmps[27]?.getD undef = .int .u8 g := hd 27 (by decide)
                refine wpOp_plain rfl rfl ?_
                go_wp2_with fail
                exact hK _ _ (Fr.refl _ _) hC rfl
            · intro vs w9 fw9 cw9 hV
              have v22 : vs 0 = _ := hV 0 _ _ rfl rfl (by decide)
              have v23 : vs 1 = _ := hV 1 _ _ rfl rfl (by decide)
              have v24 : vs 2 = .int .u8 (c : Nat) := hV 2 _ _ rfl rfl (by decide)
              have v25 : vs 3 = _ := hV 3 _ _ rfl rfl (by decide)
              have v26 : vs 4 = _ := hV 4 _ _ rfl rfl (by decide)
              have v27 : vs 5 = .int .u8 g := hV 5 _ _ rfl rfl (by decide)
              have v28 : vs 6 = .bool true := hV 6 _ _ rfl rfl (by decide)
              clear hV
              simp only [putL, Act.put, Nat.reduceAdd, List.setIfInBounds_toArray, List.set_cons_zero, List.set_cons_succ, v22, v23, v24, v25, v26, v27, v28]
              have F9 := hf.then' fw9
              go_wp2_with fail
              go_roundw
              case rel => exact ⟨j + 1, by omega, by go_num, by rw [HRC.out], F9⟩
              case measure => simp [intOf]; omega
          · have HRC := hid (hmiss heq)
            have te : ((b.toNat : Int) == (g : Int)) = false := by rw [beq_eq_false_iff_ne]; omega
            clear heq hhit hmiss hg hlb
            generalize b.toNat = c at *
            go_wp2_with fail
            apply wp_region_calm (R := Fr noB) (C := fun q' W => Fr noB wr W) [false, false, false, false, false, false, false]
              [eqv _, eqv _, eqv (.int .u8 (c : Nat)), eqv _, eqv _, eqv (.int .u8 g), eqv (.bool false)]
              (by kernel_rfl) (by kernel_rfl) (fun _ _ _ h1 h2 => h1.then' h2) ((Fr.refl _ _).drew) ((Fr.refl _ _).drew) (by kernel_rfl)
            · refine ⟨?_, ?_, ?_, ?_, ?_, ?_, ?_, trivial⟩
              · rw [if_neg (by decide)]; intro kq
                exact calm_mv 0 rfl rfl (Or.inl rfl) (Fr.refl _) (by decide) fun v w hd => hd
              · rw [if_neg (by decide)]; intro kq
                exact calm_mv 5 rfl rfl (Or.inl rfl) (Fr.refl _) (by decide) fun v w hd => hd
              · rw [if_neg (by decide)]; intro kq
                intro a W K hC hd hK
                have d22 : _ = _ := hd 22 (by decide)
                have d23 : _ = _ := hd 23 (by decide)
                refine wpOp_plain rfl rfl ?_
                go_wp2_with fail
                exact hK _ _ (Fr.refl _ _) hC rfl
              · rw [if_neg (by decide)]; intro kq
                exact calm_mv 3 rfl rfl (Or.inl rfl) (Fr.refl _) (by decide) fun v w hd => hd
              · rw [if_neg (by decide)]; intro kq
                exact calm_mv 7 rfl rfl (Or.inl rfl) (Fr.refl _) (by decide) fun v w hd => hd
              · rw [if_neg (by decide)]; intro kq
                intro a W K hC hd hK
                have d25 : _ = _ := hd 25 (by decide)
                have d26 : _ = _ := hd 26 (by decide)
                refine wpOp_plain rfl rfl ?_
                go_wp2_with fail
                exact hK _ _ (Fr.refl _ _) hC rfl
              · rw [if_neg (by decide)]; intro kq
                intro a W K hC hd hK
                have d24 : a.tmps[24]?.getD undef = .int .u8 (c : Nat) := hd 24 (by decide)
                have d27 : a.tmps[27]?.getD undef = .int .u8 g := hd 27 (by decide)
                refine wpOp_plain rfl rfl ?_
                go_wp2_with fail
                exact hK _ _ (Fr.refl _ _) hC rfl
            · intro vs w9 fw9 cw9 hV
              have v22 : vs 0 = _ := hV 0 _ _ rfl rfl (by decide)
              have v23 : vs 1 = _ := hV 1 _ _ rfl rfl (by decide)
              have v24 : vs 2 = .int .u8 (c : Nat) := hV 2 _ _ rfl rfl (by decide)
              have v25 : vs 3 = _ := hV 3 _ _ rfl rfl (by decide)
              have v26 : vs 4 = _ := hV 4 _ _ rfl rfl (by decide)
              have v27 : vs 5 = .int .u8 g := hV 5 _ _ rfl rfl (by decide)
              have v28 : vs 6 = .bool false := hV 6 _ _ rfl rfl (by decide)
              clear hV
              simp only [putL, Act.put, Nat.reduceAdd, List.setIfInBounds_toArray, List.set_cons_zero, List.set_cons_succ, v22, v23, v24, v25, v26, v27, v28]
              have F9 := hf.then' fw9
              go_wp2_with fail
              go_roundw
              case rel => exact ⟨j + 1, by omega, by go_num, by rw [HRC.out], F9⟩
              case measure => simp [intOf]; omega
        · obtain rfl : j = 26 := by omega
          rw [roundC_all]
          go_wp2_with fail
          go_roundw
          case rel => exact ⟨k + 1, by omega, by go_num, by rw [HFL.out, mkS_append], hf⟩
          case measure => simp [intOf]; omega
    · obtain rfl : k = s.size := by omega
      rw [List.take_of_length_le (by rw [HL.out]; exact Nat.le_refl _)]
      go_wp2_with fail
      go_ret
      exact ⟨rfl, hf⟩
end Go.Proofs.YtahcopmdffengaaDoor
