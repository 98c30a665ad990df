/- interrexlaw03.FrameGets: the walk. -/
import Derived.Test.YtpkdcbfhacgklaaFrame4
import Derived.Test.YtpkdcbfhacgklaaZeros
import Derived.Test.YtpkdcbfhacgklaaOpenBytes
namespace Go.Proofs.Ytpkdcbfhacgklaa
open Go.RowKit

set_option maxRecDepth 100000 in
set_option maxHeartbeats 6400000 in
theorem frGets_walk (w : World) (A : Option Addr) (n c : Nat) (b : List UInt8) (lg : Bool) (hr : RowAt w A (bcells b)) (HN : Hid (b.length = n)) (hnc : n ≤ c) (hc : c ≤ maxLen) (hnil : A = none → n = 0 ∧ c = 0) :
    Calls Try.prog 6 #[.slice A n c, .bool lg] w (BoolPost w true) := by
  have hlv := @lives03_calls
  unfold maxLen at hc
  by_cases h300 : 300 < n
  · have t12 : decide (300 < (n : Int)) = true := by simp; omega
    clear hr
    go_enter Try.func6, Try.ntmps6
    go_wp2_with fail
    refine (hlv _).mono ?_
    rintro e w1 ⟨rfl, f1⟩
    go_wp2_with fail
    refine (hlv _).mono ?_
    rintro e w2 ⟨rfl, f2⟩
    go_wp2_with fail
    go_ret
    exact ⟨rfl, f1.then' f2⟩
  · have t12 : decide (300 < (n : Int)) = false := by simp; omega
    have hlt : ∀ a, A = some a → 0 < n → a.block < w.heap.size := fun a e h0 => by
      subst e; exact hr.lt (by rw [bcells_length, HN.out]; exact h0)
    cases lg with
    | false =>
      go_enter Try.func6, Try.ntmps6
      go_wp2_with fail
      refine (hlv _).mono ?_
      rintro e w1 ⟨rfl, f1⟩
      have hr1 := hr.fr0 f1
      have z1 := f1.size
      clear hr
      go_wp2_with fail
      refine (newF_calls w1).mono ?_
      rintro e w6 ⟨rfl, h6, f6, z6⟩
      have Z6 := hid z6; clear z6
      have hr6 := (hr1).fr0 f6
      have hget := getF_calls w6 w1.heap.size false A n c b h6 hr6 HN hnc hc (fun a e h0 he => by have := hlt a e h0; omega)
      have zz6 := f6.size
      clear h6
      go_wp2_with fail
      refine hget.mono ?_
      clear hget
      rintro e w7 ⟨B, m, d, rfl, HM, hrB, _, _, f7⟩
      have hr7 := hr6.fr f7 (fun a e h0 _ he => by unfold eqB at he; have := hlt a e (by rw [bcells_length, HN.out] at h0; exact h0); omega)
      have F7 : Hid (Fr noB w w7) := (((f1.up0 w.heap.size).then' (f6.up0 _)).then' (f7.mono fun b _ hb => by unfold eqB at hb; unfold upB; have := f1.size; omega)).none
      have hgr := getFR_calls w7 b (by rw [HN.out]; omega)
      have hcv := Try.toStr hr7 HN.out c
      generalize frGet b = q at *
      obtain ⟨⟨k, bd⟩, er⟩ := q
      simp only [] at *
      clear hr6 hr7 f7
      generalize mkS b = sb at *
      go_wp2_with fail
      refine hgr.mono ?_
      clear hgr hcv
      rintro e w8 ⟨rfl, f8⟩
      have hrB8 := hrB.fr0 f8
      have hcb := Try.toStr hrB8 HM.out d
      clear hrB hrB8
      simp only [] at *
      generalize mkS bd = sd at *
      go_wp2_with fail
      go_ret
      exact ⟨by simp, F7.out.then' f8⟩
    | true =>
      go_enter Try.func6, Try.ntmps6
      go_wp2_with fail
      refine (hlv _).mono ?_
      rintro e w1 ⟨rfl, f1⟩
      have hr1 := hr.fr0 (f1.alloc (.cells #[] 5))
      have z1 := f1.size
      have hown : (w1.alloc (.cells #[] 5)).ownsRow 0 5 1 (.slice (some ⟨w1.heap.size, 0, none⟩) 0 0) 0 [] := World.ownsRow_made w1 #[] 0 (Nat.zero_le _) (by unfold maxLen; omega) rfl
      clear hr
      go_wp2_with (at_builtin; refine wpList_app Try.app8 rfl (.tmp 20) (.tmp 21) rfl _ 0 [] rfl hown A n c (bcells b) rfl (by rw [bcells_length, HN.out, Nat.mul_one]) hr1 (bcells_one _) hnil (by omega) (by omega) ?_)
      intro B d w2 hown2 hg hat
      have f12 : Fr noB w1 w2 := Fr.grown ((Fr.refl noB w1).alloc _) hg (fun k hk => Or.inr (by simp [Value.ownBlock] at hk; omega))
      have hb2 : ∀ g, (Value.slice B n d).ownBlock = some g → w1.heap.size ≤ g := fun g e => by
        rcases hat with h | h <;> (rw [e] at h; simp [Value.ownBlock] at h; omega)
      obtain ⟨k5, hk5i, hk5⟩ : ∃ k5 : Nat, (65537 : Int) = (k5 : Int) ∧ k5 = 65537 := ⟨65537, rfl, rfl⟩
      clear hg hat hown hr1
      go_wp2_with (at_builtin; refine wpList_app_zeros Try.app8 Try.underlying3 rfl (.tmp 22) _ rfl _ n _ rfl hown2 .i64 k5 (congrArg (Value.int .i64) hk5i) (by omega) (by omega) ?_)
      intro B3 d3 w3 hown3 hg hat
      have z2 := f12.size
      have f3 : Fr noB w1 w3 := Fr.grown f12 hg (fun k hk => Or.inr (hb2 k hk))
      have hb3 : ∀ g, (Value.slice B3 (n + k5) d3).ownBlock = some g → w1.heap.size ≤ g ∧ g < w3.heap.size := fun g e => by
        refine ⟨?_, own_lt hown3 e⟩
        rcases hat with h | h
        · exact hb2 g (h.symm.trans e)
        · rw [e] at h; simp at h; omega
      have hc3 := own_capB hown3
      have hr3 : RowAt w3 B3 (bcells (b ++ zs k5)) := by rw [bcells_append]; exact own_row hown3
      obtain ⟨n5, hn5⟩ : ∃ n5, n + k5 = n5 := ⟨_, rfl⟩
      rw [hn5] at hc3 hb3 ⊢
      have HN5 : Hid ((b ++ zs k5).length = n5) := by unfold Hid; rw [List.length_append, zs_length, HN.out, hn5]
      have hlt3 : ∀ a, B3 = some a → 0 < n5 → a.block < w3.heap.size := fun a e _ => (hb3 a.block (by rw [e]; rfl)).2
      have f03 := f1.then' f3
      generalize b ++ zs k5 = b5 at *
      have hcc := hc3.2
      have hcn := hc3.1
      clear hg hat hown2 hown3 hb2 hb3 f12 f3 hc3
      go_wp2_with fail
      refine (newF_calls w3).mono ?_
      rintro e w6 ⟨rfl, h6, f6, z6⟩
      have Z6 := hid z6; clear z6
      have hr6 := (hr3).fr0 f6
      have hget := getF_calls w6 w3.heap.size false B3 n5 d3 b5 h6 hr6 HN5 hcn hcc (fun a e h0 he => by have := hlt3 a e h0; omega)
      have zz6 := f6.size
      clear h6
      go_wp2_with fail
      refine hget.mono ?_
      clear hget
      rintro e w7 ⟨B, m, d, rfl, HM, hrB, _, _, f7⟩
      have hr7 := hr6.fr f7 (fun a e h0 _ he => by unfold eqB at he; have := hlt3 a e (by rw [bcells_length, HN5.out] at h0; exact h0); omega)
      have F7 : Hid (Fr noB w w7) := (((f03.up0 w.heap.size).then' (f6.up0 _)).then' (f7.mono fun b _ hb => by unfold eqB at hb; unfold upB; have := f03.size; omega)).none
      have hgr := getFR_calls w7 b5 (by rw [HN5.out]; omega)
      have hcv := Try.toStr hr7 HN5.out d3
      generalize frGet b5 = q at *
      obtain ⟨⟨k, bd⟩, er⟩ := q
      simp only [] at *
      clear hr6 hr7 f7
      generalize mkS b5 = sb at *
      go_wp2_with fail
      refine hgr.mono ?_
      clear hgr hcv
      rintro e w8 ⟨rfl, f8⟩
      have hrB8 := hrB.fr0 f8
      have hcb := Try.toStr hrB8 HM.out d
      clear hrB hrB8
      simp only [] at *
      generalize mkS bd = sd at *
      go_wp2_with fail
      go_ret
      exact ⟨by simp, F7.out.then' f8⟩
theorem frGets_law (w : World) (A : Option Addr) (n c : Nat) (b : List UInt8) (o : RowAt w A (bcells b) ∧ b.length = n ∧ n ≤ c ∧ c ≤ maxLen ∧ (A = none → n = 0 ∧ c = 0)) (lg : Bool) :
    Calls Try.prog 6 #[.slice A n c, .bool lg] w (BoolPost w true) :=
  frGets_walk w A n c b lg o.1 o.2.1 o.2.2.1 o.2.2.2.1 o.2.2.2.2
end Go.Proofs.Ytpkdcbfhacgklaa
