/- interrexlaw05: lives; NameTells, NameMails: the walks. -/
import Derived.Test.YtahcopmdffengaaDoorNm8
import Derived.Test.YtahcopmdffengaaDoorSame
namespace Go.Proofs.YtahcopmdffengaaDoor
open Go.RowKit
set_option maxRecDepth 100000 in
set_option maxHeartbeats 400000 in
theorem lives05_calls (w : World) : Calls Tryd.prog 11 #[] w (BoolPost w true) := by
  have hm := mail_calls w ⟨#[65, 110, 110, 46, 66, 64, 88, 46, 111, 114, 103]⟩ (by decide)
  have hv : mailV ⟨#[65, 110, 110, 46, 66, 64, 88, 46, 111, 114, 103]⟩ = true := by decide +kernel
  have ht : mailT ⟨#[65, 110, 110, 46, 66, 64, 88, 46, 111, 114, 103]⟩ = ⟨#[97, 110, 110, 46, 98, 64, 120, 46, 111, 114, 103]⟩ := by unfold mailT; rw [hv]; rfl
  have hn := fun W => name_calls05 W ⟨#[97, 45]⟩ (by decide)
  have hn0 : nameS ⟨#[97, 45]⟩ = false := by decide +kernel
  rw [hv, ht] at hm
  rw [hn0] at hn
  simp only [errN, if_true, Bool.false_eq_true, if_false] at hm hn
  clear hv ht hn0
  go_enter Tryd.func11, Tryd.ntmps11
  go_wp2_with fail
  refine hm.mono ?_
  rintro e w1 ⟨rfl, f1⟩
  go_wp2_with (refine (hn _).mono ?_; rintro e w' ⟨rfl, rfl⟩)
  go_ret
  exact ⟨rfl, f1⟩
set_option maxRecDepth 100000 in
set_option maxHeartbeats 400000 in
theorem tells_long (w : World) (s : ByteArray) (h : decide ((100 : Int) < s.size) = true) : Calls Tryd.prog 5 #[.string s] w (BoolPost w true) := by
  have hl := fun W => lives05_calls W
  go_enter Tryd.func5, Tryd.ntmps5
  go_wp2_with fail
  refine (hl w).mono ?_
  rintro e w1 ⟨rfl, f1⟩
  go_wp2_with fail
  refine (hl w1).mono ?_
  rintro e w2 ⟨rfl, f2⟩
  go_wp2_with fail
  go_ret
  exact ⟨rfl, f1.then' f2⟩
set_option maxRecDepth 100000 in
set_option maxHeartbeats 400000 in
theorem mails_long (w : World) (s : ByteArray) (h : decide ((100 : Int) < s.size) = true) : Calls Tryd.prog 3 #[.string s] w (BoolPost w true) := by
  have hl := fun W => lives05_calls W
  go_enter Tryd.func3, Tryd.ntmps3
  go_wp2_with fail
  refine (hl w).mono ?_
  rintro e w1 ⟨rfl, f1⟩
  go_wp2_with fail
  refine (hl w1).mono ?_
  rintro e w2 ⟨rfl, f2⟩
  go_wp2_with fail
  go_ret
  exact ⟨rfl, f1.then' f2⟩
set_option maxRecDepth 100000 in
set_option maxHeartbeats 400000 in
theorem partsN_long (w : World) (s : ByteArray) (h : decide ((100 : Int) < s.size) = true) : Calls Tryd.prog 4 #[.string s] w (BoolPost w true) := by
  have hl := fun W => lives05_calls W
  go_enter Tryd.func4, Tryd.ntmps4
  go_wp2_with fail
  refine (hl w).mono ?_
  rintro e w1 ⟨rfl, f1⟩
  go_wp2_with fail
  refine (hl w1).mono ?_
  rintro e w2 ⟨rfl, f2⟩
  go_wp2_with fail
  go_ret
  exact ⟨rfl, f1.then' f2⟩
set_option maxRecDepth 100000 in
set_option maxHeartbeats 800000 in
theorem tells_walk (w : World) (s : ByteArray) : Calls Tryd.prog 5 #[.string s] w (BoolPost w true) := by
  obtain ⟨b0, hb0⟩ : ∃ b, decide ((100 : Int) < s.size) = b := ⟨_, rfl⟩
  cases b0
  · have hs : s.size ≤ 1000000 := by have := of_decide_eq_false hb0; omega
    have hl := fun W => lives05_calls W
    have h1 := fun W => name_calls05 W s hs
    have h2 := fun W => prefix_calls05 W s hs
    have h3 := fun W => hash_calls05 W s hs
    have g1 := fun W => nameR_calls W s hs
    have g2 := fun W => prefR_calls W s hs
    have g3 := fun W => hashR_calls05 W s hs
    generalize nameS s = v1 at *
    generalize prefS s = v2 at *
    generalize hashS s = v3 at *
    clear hs
    cases v1 <;> cases v2 <;> cases v3
    all_goals
      simp only [errN, if_true, Bool.false_eq_true, if_false] at h1 h2 h3
      go_enter Tryd.func5, Tryd.ntmps5
      go_wp2_with fail
      refine (hl w).mono ?_
      rintro e w1 ⟨rfl, f1⟩
      go_wp2_with (first | (go_at_call 16; refine (h1 _).mono ?_; rintro e w' ⟨rfl, rfl⟩) | (go_at_call 17; refine (h2 _).mono ?_; rintro e w' ⟨rfl, rfl⟩) | (go_at_call 18; refine (h3 _).mono ?_; rintro e w' ⟨rfl, rfl⟩) | (go_at_call 19; refine (g1 _).mono ?_; rintro e w' ⟨rfl, rfl⟩) | (go_at_call 20; refine (g2 _).mono ?_; rintro e w' ⟨rfl, rfl⟩) | (go_at_call 21; refine (g3 _).mono ?_; rintro e w' ⟨rfl, rfl⟩))
      go_ret
      exact ⟨rfl, f1⟩
  · exact tells_long w s hb0
theorem foldC_twice (c : UInt8) : foldC (foldC c) = foldC c := by
  unfold foldC
  by_cases h : 65 ≤ c.toNat ∧ c.toNat ≤ 90
  · rw [if_pos h]
    have : (UInt8.ofNat (c.toNat + 32)).toNat = c.toNat + 32 := by simp; omega
    rw [this, if_neg (by omega)]
  · rw [if_neg h, if_neg h]
theorem foldL_twice (l : List UInt8) : foldL (foldL l) = foldL l := by
  unfold foldL; rw [List.map_map]; congr 1; funext c; exact foldC_twice c
theorem mailV_twice {s : ByteArray} (h : mailV s = true) : mailV (mailT s) = true ∧ mailT (mailT s) = mailT s ∧ (mailT s).size = s.size := by
  have ht : mailT s = mkS (foldL s.data.toList) := by unfold mailT; rw [if_pos h]
  have hsz : (mkS (foldL s.data.toList)).size = s.size := by rw [mkS_size]; unfold foldL; rw [List.length_map]; simp
  have hv : mailV (mkS (foldL s.data.toList)) = true := by
    unfold mailV at h ⊢
    rw [hsz, mkS_data, foldL_twice]; exact h
  rw [ht]
  refine ⟨hv, ?_, hsz⟩
  unfold mailT
  rw [if_pos hv, mkS_data, foldL_twice]
set_option maxRecDepth 100000 in
set_option maxHeartbeats 800000 in
theorem mails_walk (w : World) (s : ByteArray) : Calls Tryd.prog 3 #[.string s] w (BoolPost w true) := by
  obtain ⟨b0, hb0⟩ : ∃ b, decide ((100 : Int) < s.size) = b := ⟨_, rfl⟩
  cases b0
  · have hs : s.size ≤ 1000000 := by have := of_decide_eq_false hb0; omega
    have hl := fun W => lives05_calls W
    have hm := fun W => mail_calls W s hs
    have hr := fun W => mailR_calls W s hs
    have hf := fun W => fold_calls W s hs
    have hg := fun W => foldR_calls W s hs
    have hff := fun W => fold_calls W (mkS (foldL s.data.toList)) (by rw [mkS_size]; unfold foldL; rw [List.length_map]; simpa using hs)
    rw [mkS_data, foldL_twice] at hff
    have hdup := fun h => mailV_twice (s := s) h
    have hmt : (mailT s).size ≤ 1000000 := by
      unfold mailT; split
      · rw [mkS_size]; unfold foldL; rw [List.length_map]; simpa using hs
      · decide
    have hm2 := fun W => mail_calls W (mailT s) hmt
    unfold StrPost at hf hg hff
    generalize mkS (foldL s.data.toList) = fs at *
    obtain ⟨v, hv⟩ : ∃ v, mailV s = v := ⟨_, rfl⟩
    rw [hv] at hm hr hdup
    cases v
    · generalize mailT s = t at *
      simp only [errN, Bool.false_eq_true, if_false] at hm
      clear hdup hm2 hmt hs hv
      go_enter Tryd.func3, Tryd.ntmps3
      go_wp2_with fail
      refine (hl w).mono ?_
      rintro e w1 ⟨rfl, f1⟩
      go_wp2_with fail
      refine (hm w1).mono ?_
      rintro e w2 ⟨rfl, f2⟩
      go_wp2_with fail
      refine (hr w2).mono ?_
      rintro e w3 ⟨rfl, f3⟩
      go_wp2_with fail
      refine (hf w3).mono ?_
      rintro e w4 ⟨rfl, f4⟩
      go_wp2_with fail
      refine (hg w4).mono ?_
      rintro e w5 ⟨rfl, f5⟩
      go_wp2_with fail
      refine (hf w5).mono ?_
      rintro e w6 ⟨rfl, f6⟩
      go_wp2_with fail
      refine (hff w6).mono ?_
      rintro e w7 ⟨rfl, f7⟩
      go_wp2_with fail
      refine (hf w7).mono ?_
      rintro e w8 ⟨rfl, f8⟩
      go_wp2_with fail
      go_ret
      exact ⟨rfl, ((((((f1.then' f2).then' f3).then' f4).then' f5).then' f6).then' f7).then' f8⟩
    · obtain ⟨d1, d2, d3⟩ := hdup rfl
      rw [d1, d2] at hm2
      have HD := hid d3
      have d4 : ((mailT s).size : Int) = (s.size : Int) := by rw [d3]
      generalize mailT s = t at *
      simp only [errN, if_true] at hm hm2
      clear hmt hs hv d1 d2 d3
      go_enter Tryd.func3, Tryd.ntmps3
      go_wp2_with fail
      refine (hl w).mono ?_
      rintro e w1 ⟨rfl, f1⟩
      go_wp2_with fail
      refine (hm w1).mono ?_
      rintro e w2 ⟨rfl, f2⟩
      go_wp2_with fail
      refine (hr w2).mono ?_
      rintro e w3 ⟨rfl, f3⟩
      go_wp2_with fail
      refine (hf w3).mono ?_
      rintro e w4 ⟨rfl, f4⟩
      go_wp2_with fail
      refine (hg w4).mono ?_
      rintro e w5 ⟨rfl, f5⟩
      go_wp2_with fail
      refine (hf w5).mono ?_
      rintro e w6 ⟨rfl, f6⟩
      go_wp2_with fail
      refine (hff w6).mono ?_
      rintro e w7 ⟨rfl, f7⟩
      go_wp2_with fail
      refine (hf w7).mono ?_
      rintro e w8 ⟨rfl, f8⟩
      go_wp2_with fail
      refine (hm2 w8).mono ?_
      rintro e w9 ⟨rfl, f9⟩
      go_wp2_with fail
      go_ret
      exact ⟨rfl, (((((((f1.then' f2).then' f3).then' f4).then' f5).then' f6).then' f7).then' f8).then' f9⟩
  · exact mails_long w s hb0
end Go.Proofs.YtahcopmdffengaaDoor
