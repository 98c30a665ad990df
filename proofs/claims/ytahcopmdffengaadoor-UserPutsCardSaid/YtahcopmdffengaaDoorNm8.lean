/- interrexref05.Mail. -/
import Derived.Test.YtahcopmdffengaaDoorNm7
namespace Go.Proofs.YtahcopmdffengaaDoor
open Go.RowKit
def scanR : List UInt8 → Nat → Nat → Bool
  | [], st, lo => !(decide (st = 0) || decide (lo = 0))
  | b :: l, st, lo => if b = 46 then (if lo = 0 then false else scanR l (st + 1) 0) else if mailB b.toNat then scanR l st (lo + 1) else false
theorem split_ne (c : UInt8) : ∀ l : List UInt8, ∃ p ps, splitL c l = p :: ps
  | [] => ⟨_, _, rfl⟩
  | b :: l => by
    unfold splitL
    split
    · exact ⟨_, _, rfl⟩
    · split <;> exact ⟨_, _, rfl⟩
theorem scan_split : ∀ (l : List UInt8) (st lo : Nat) (p : List UInt8) (ps : List (List UInt8)), splitL 46 l = p :: ps →
    scanR l st lo = ((decide (0 < lo) || decide (p ≠ [])) && (p.all fun b => mailB b.toNat) && (ps.all labelB && decide (1 ≤ st + ps.length)))
  | [], st, lo, p, ps, h => by
    simp [splitL] at h
    obtain ⟨rfl, rfl⟩ := h
    unfold scanR
    by_cases h1 : st = 0 <;> by_cases h2 : lo = 0
    · simp [h1, h2]
    · simp [h1, h2]
    · simp [h1, h2]
    · simp [h1, h2]; omega
  | b :: l, st, lo, p, ps, h => by
    obtain ⟨p', ps', h'⟩ := split_ne 46 l
    unfold splitL at h
    unfold scanR
    by_cases hb : b = 46
    · rw [if_pos hb] at h
      rw [if_pos hb]
      simp at h
      obtain ⟨rfl, rfl⟩ := h
      by_cases hlo : lo = 0
      · simp [hlo]
      · rw [if_neg hlo, scan_split l (st + 1) 0 p' ps' h', h']
        simp [labelB, Nat.pos_of_ne_zero hlo, Bool.and_assoc]
        rw [show st + 1 + ps'.length = st + (ps'.length + 1) by omega]
    · rw [if_neg hb, h'] at h
      rw [if_neg hb]
      simp at h
      obtain ⟨rfl, rfl⟩ := h
      by_cases hm : mailB b.toNat = true
      · rw [if_pos hm, scan_split l st (lo + 1) p' ps' h']
        simp [hm]
      · rw [if_neg hm]
        simp [hm]
theorem scan_mail (l : List UInt8) : scanR l 0 0 = (decide (2 ≤ (splitL 46 l).length) && (splitL 46 l).all labelB) := by
  obtain ⟨p, ps, h⟩ := split_ne 46 l
  rw [scan_split l 0 0 p ps h, h]
  simp [labelB, Bool.and_assoc]
  rw [Bool.eq_iff_iff]; simp; constructor
  · rintro ⟨h1, h2, h3, h4⟩; exact ⟨by omega, h1, h2, h3⟩
  · rintro ⟨h1, h2, h3, h4⟩; exact ⟨h2, h3, h4, by omega⟩
theorem at_get (c : UInt8) : ∀ l : List UInt8, atB c l < l.length → l[atB c l]? = some c
  | [], h => by simp [atB] at h
  | b :: l, h => by
    unfold atB at h ⊢
    by_cases hb : b = c
    · rw [if_pos hb]; simp [hb]
    · rw [if_neg hb] at h ⊢
      simpa using at_get c l (by simp at h; omega)
theorem at_ne (c : UInt8) : ∀ (l : List UInt8) (k : Nat), k < atB c l → ∀ b, l[k]? = some b → b ≠ c
  | [], k, h, b, hb => by simp at hb
  | a :: l, k, h, b, hb => by
    unfold atB at h
    by_cases ha : a = c
    · rw [if_pos ha] at h; omega
    · rw [if_neg ha] at h
      cases k with
      | zero => simp at hb; subst hb; exact ha
      | succ k => exact at_ne c l k (by omega) b (by simpa using hb)
set_option maxRecDepth 100000 in
set_option maxHeartbeats 800000 in
theorem mailR_calls (w : World) (s : ByteArray) (hs : s.size ≤ 1000000) : Calls Tryd.prog 13 #[.string s] w (fun e w' => e = .returned (.tuple #[.string (mailT s), .bool (mailV s)]) ∧ Fr noB w w') := by
  obtain ⟨b0, hb0⟩ : ∃ b, decide ((20 : Int) < s.size) = b := ⟨_, rfl⟩
  cases b0
  · have hle : s.size ≤ 20 := by have := of_decide_eq_false hb0; omega
    have HV : Hid (mailV s = mailOK (foldL s.data.toList)) := by unfold Hid mailV; rw [decide_eq_true hle, Bool.true_and]
    have HT : Hid (mailT s = if mailOK (foldL s.data.toList) then mkS (foldL s.data.toList) else ⟨#[]⟩) := by unfold Hid mailT; rw [HV.out]
    have hfo := foldR_calls w s hs
    have hfl : (foldL s.data.toList).length ≤ 20 := by unfold foldL; rw [List.length_map]; simpa using hle
    generalize foldL s.data.toList = l at *
    obtain ⟨s1, hs1⟩ : ∃ s1, mkS l = s1 := ⟨_, rfl⟩
    have hz1 : s1.size = l.length := by rw [← hs1, mkS_size]
    have hl1 : s1.data.toList = l := by rw [← hs1]; rfl
    have hx := str_at s1
    rw [hl1] at hx
    have HX := hid hx
    have htk := ext_take s1 (atB 64 l)
    rw [hl1] at htk
    have HA := hid (at_get 64 l)
    have HB := hid (at_ne 64 l)
    have hale := atB_le 64 l
    unfold StrPost at hfo
    rw [hs1] at hfo HT
    have HZ := hid hz1
    have hna := fun W => nameR_calls W (mkS (l.take (atB 64 l))) (by rw [mkS_size, List.length_take]; omega)
    have hin := fun W c => inS_calls W c alnumS (by decide)
    have HSC := hid (scan_mail (l.drop (atB 64 l + 1)))
    have HOK : Hid (mailOK l = (decide (atB 64 l < l.length) && nameS (mkS (l.take (atB 64 l))) && (decide (2 ≤ (splitL 46 (l.drop (atB 64 l + 1))).length) && (splitL 46 (l.drop (atB 64 l + 1))).all labelB))) := rfl
    rw [← HSC.out] at HOK
    generalize mkS (l.take (atB 64 l)) = p at *
    obtain ⟨at', hat'⟩ : ∃ a, atB 64 l = a := ⟨_, rfl⟩
    rw [hat'] at htk HA HB hale HOK
    have hres : Hid (Tryd.f13.results = #[.tmp 2, .tmp 3]) := by unfold Hid; kernel_rfl
    have hs20 : s1.size ≤ 20 := by rw [hz1]; exact hfl
    have hale2 : at' ≤ s1.size := by rw [hz1]; exact hale
    clear hle hx hl1 hs1 hz1 hat' HSC
    go_enter Tryd.func13, Tryd.ntmps13
    go_wp2_with fail
    refine hfo.mono ?_
    rintro e w1 ⟨rfl, f1⟩
    clear hfo
    go_wp2_with fail
    go_loop [4] (fun i => ∃ k : Nat, k ≤ at' ∧ i = .int .i64 k) (fun i => at' - (intOf i).toNat)
    case atStart => exact ⟨0, Nat.zero_le _, rfl⟩
    case round =>
      obtain ⟨k, hk, rfl⟩ := hrel
      by_cases hka : k < at'
      · have hks : k < s1.size := by omega
        obtain ⟨b, hb⟩ : ∃ b, l[k]? = some b := ⟨_, List.getElem?_eq_getElem (by rw [← HZ.out]; exact hks)⟩
        have hne := HB.out k hka b hb
        have hgd : (l.getD k 0).toNat = b.toNat := by rw [List.getD_eq_getElem?_getD, hb]; rfl
        have hx0 : ∀ h : k < s1.size, (s1[k]'h).toNat = b.toNat := fun h => by rw [HX.out k h, hgd]
        have tn : ((b.toNat : Int) != 64) = true := by
          rw [bne_iff_ne]; intro h; exact hne (UInt8.toNat_inj.1 (by simpa using (by omega : b.toNat = 64)))
        have hkb : (k : Int) < s1.size := by omega
        have tk : decide ((k : Int) < s1.size) = true := decide_eq_true hkb
        clear hne hgd hb
        generalize b.toNat = c at *
        go_wp2_with fail
        go_round
        case rel => exact ⟨k + 1, by omega, by go_num⟩
        case measure => simp [intOf]; omega
      · obtain rfl : k = at' := by omega
        by_cases hks : k < s1.size
        · have h64 := HA.out (by rw [← HZ.out]; exact hks)
          have hgd : (l.getD k 0).toNat = 64 := by rw [List.getD_eq_getElem?_getD, h64]; rfl
          have hx0 : ∀ h : k < s1.size, (s1[k]'h).toNat = 64 := fun h => by rw [HX.out k h, hgd]
          have hkb : (k : Int) < s1.size := by omega
          have tk : decide ((k : Int) < s1.size) = true := decide_eq_true hkb
          have te : ((k : Int) == (s1.size : Int)) = false := by rw [beq_eq_false_iff_ne]; omega
          have te2 : (k == s1.size) = false := by rw [beq_eq_false_iff_ne]; omega
          rw [decide_eq_true (by rw [← HZ.out]; exact hks), Bool.true_and] at HOK
          have hna1 := hna w1
          generalize nameS p = b1 at *
          clear h64 hgd hna
          cases b1
          · have hm : mailOK l = false := by rw [HOK.out]; rfl
            rw [hm] at HV HT
            have HM := hid hm
            clear hm
            go_wp2_with (refine hna1.mono ?_; rintro e w' ⟨rfl, rfl⟩)
            go_ret2
            exact ⟨by rw [HV.out, HT.out]; rfl, f1⟩
          · have hk1 : (k : Int) + 1 ≤ s1.size := by omega
            rw [Bool.true_and] at HOK
            go_wp2_with (refine hna1.mono ?_; rintro e w' ⟨rfl, rfl⟩)
            clear hx0 hna1
            go_loopw [5, 6, 7] (fun sv lv i wr => ∃ j st lo : Nat, k + 1 ≤ j ∧ j ≤ s1.size ∧ st ≤ 100 ∧ lo ≤ 100 ∧ st + j ≤ 100 ∧ lo + st ≤ j ∧ i = .int .i64 j ∧ sv = .int .i64 st ∧ lv = .int .i64 lo ∧ mailOK l = scanR (l.drop j) st lo ∧ Fr noB w wr) (fun _ _ i _ => s1.size - (intOf i).toNat)
            case atStart => exact ⟨k + 1, 0, 0, by omega, by omega, by omega, by omega, by omega, by omega, by go_num, rfl, rfl, HOK.out, f1⟩
            case round =>
              obtain ⟨j, st, lo, hj1, hj2, hst, hlo, hsj, hls, rfl, rfl, rfl, hsc, hf⟩ := hrel
              by_cases hjs : j < s1.size
              · obtain ⟨b, hb⟩ : ∃ b, l[j]? = some b := ⟨_, List.getElem?_eq_getElem (by rw [← HZ.out]; exact hjs)⟩
                have hgd : (l.getD j 0).toNat = b.toNat := by rw [List.getD_eq_getElem?_getD, hb]; rfl
                have hx0 : ∀ h : j < s1.size, (s1[j]'h).toNat = b.toNat := fun h => by rw [HX.out j h, hgd]
                have hdr : l.drop j = b :: l.drop (j + 1) := by
                  obtain ⟨h1, h2⟩ := List.getElem?_eq_some_iff.1 hb
                  rw [List.drop_eq_getElem_cons h1, h2]
                rw [hdr] at hsc
                have hsr : scanR (b :: l.drop (j + 1)) st lo = if b = 46 then (if lo = 0 then false else scanR (l.drop (j + 1)) (st + 1) 0) else if mailB b.toNat then scanR (l.drop (j + 1)) st (lo + 1) else false := rfl
                rw [hsr] at hsc
                have hinc := hin wr b.toNat
                rw [in_alnum _ (UInt8.toNat_lt _)] at hinc
                unfold alnumS at hinc
                have hjb : 0 ≤ (j : Int) ∧ (j : Int) < s1.size := ⟨by omega, by omega⟩
                clear hgd hdr hsr hb
                by_cases h46 : b = 46
                · rw [if_pos h46] at hsc
                  have t46 : ((b.toNat : Int) == 46) = true := by rw [h46]; rfl
                  clear h46 hinc
                  generalize b.toNat = c at *
                  by_cases hl0 : lo = 0
                  · subst hl0
                    rw [if_pos rfl] at hsc
                    rw [hsc] at HV HT
                    have HM := hid hsc
                    clear hsc
                    go_wp2_with fail
                    go_ret2
                    exact ⟨by rw [HV.out, HT.out]; rfl, hf⟩
                  · rw [if_neg hl0] at hsc
                    have tl0 : ((lo : Int) == 0) = false := by rw [beq_eq_false_iff_ne]; omega
                    have HM := hid hsc
                    clear hsc hl0
                    go_wp2_with fail
                    go_roundw
                    case rel => exact ⟨j + 1, st + 1, 0, by omega, by omega, by omega, by omega, by omega, by omega, by go_num, by go_num, rfl, HM.out, hf⟩
                    case measure => simp [intOf]; omega
                · rw [if_neg h46] at hsc
                  have t46 : ((b.toNat : Int) == 46) = false := by
                    rw [beq_eq_false_iff_ne]; intro h; exact h46 (UInt8.toNat_inj.1 (by simpa using (by omega : b.toNat = 46)))
                  clear h46
                  generalize mailB b.toNat = bm at *
                  generalize b.toNat = c at *
                  cases bm
                  · simp only [Bool.false_eq_true, if_false] at hsc
                    rw [hsc] at HV HT
                    have HM := hid hsc
                    clear hsc
                    go_wp2_with (refine hinc.mono ?_; rintro e w' ⟨rfl, rfl⟩)
                    go_ret2
                    exact ⟨by rw [HV.out, HT.out]; rfl, hf⟩
                  · simp only [if_true] at hsc
                    have HM := hid hsc
                    clear hsc
                    go_wp2_with (refine hinc.mono ?_; rintro e w' ⟨rfl, rfl⟩)
                    go_roundw
                    case rel => exact ⟨j + 1, st, lo + 1, by omega, by omega, by omega, by omega, by omega, by omega, by go_num, rfl, by go_num, HM.out, hf⟩
                    case measure => simp [intOf]; omega
              · have hjl : l.drop j = [] := List.drop_of_length_le (by rw [← HZ.out]; omega)
                rw [hjl] at hsc
                have hsr : scanR [] st lo = !(decide (st = 0) || decide (lo = 0)) := rfl
                rw [hsr] at hsc
                have tjs : decide ((j : Int) < s1.size) = false := decide_eq_false (by omega)
                obtain ⟨v1, h1⟩ : ∃ v, ((st : Int) == 0) = v := ⟨_, rfl⟩
                obtain ⟨v2, h2⟩ : ∃ v, ((lo : Int) == 0) = v := ⟨_, rfl⟩
                have e1 : decide (st = 0) = v1 := by rw [← h1, Bool.eq_iff_iff]; simp
                have e2 : decide (lo = 0) = v2 := by rw [← h2, Bool.eq_iff_iff]; simp
                rw [e1, e2] at hsc
                rw [hsc] at HV HT
                have HM := hid hsc
                clear hsc e1 e2 hjl hsr
                cases v1 <;> cases v2
                all_goals
                  go_wp2_with fail
                  go_ret2
                  exact ⟨by rw [HV.out, HT.out]; rfl, hf⟩
        · have hke : k = s1.size := by omega
          have tk : decide ((k : Int) < s1.size) = false := decide_eq_false (by omega)
          have te : ((k : Int) == (s1.size : Int)) = true := by rw [hke]; simp
          have te2 : (k == s1.size) = true := by rw [hke]; simp
          have hm : mailOK l = false := by rw [HOK.out, decide_eq_false (by rw [← HZ.out]; exact hks)]; rfl
          rw [hm] at HV HT
          have HM := hid hm
          clear hm hke
          go_wp2_with fail
          go_ret2
          exact ⟨by rw [HV.out, HT.out]; rfl, f1⟩
  · have HV : Hid (mailV s = false) := by unfold Hid mailV; rw [decide_eq_false (by have := of_decide_eq_true hb0; omega)]; rfl
    have HT : Hid (mailT s = ⟨#[]⟩) := by unfold Hid mailT; rw [HV.out]; rfl
    go_enter Tryd.func13, Tryd.ntmps13
    go_wp2_with fail
    go_ret2
    exact ⟨by rw [HV.out, HT.out]; rfl, Fr.refl _ _⟩
end Go.Proofs.YtahcopmdffengaaDoor
