/- interrexlaw02.CrcSums: the walk. -/
import Derived.Test.YtcpcmcdfncjnaaaSeal
import Derived.Test.YtcpcmcdfncjnaaaBackLaw
import Derived.Test.YtcpcmcdfncjnaaaOpenBytes
namespace Go.Proofs.Ytcpcmcdfncjnaaa
open Go.RowKit

def SumsC (p : Nat) (wa : World) (k : Nat) (W : World) : Prop := Fr (eqB p) wa W ∧ TabAt W p (if k = 0 then false else true)
theorem TabAt.newZ (w : World) : TabAt (w.alloc (.cells Try.zeroCells109 109)) w.heap.size false := by
  have hsz : Try.zeroCells109.size = 260 := by kernel_rfl
  have h0 : Try.zeroCells109[0]? = some (.int .u32 0) := by kernel_rfl
  have h1 : Try.zeroCells109[1]? = some (.int .i32 0) := by kernel_rfl
  have h3 : Try.zeroCells109[3]? = some (.int .u32 0) := by kernel_rfl
  exact ⟨_, heap_alloc_new w _, ⟨hsz, h0, h1, h3, fun i hi => ⟨_, Array.getElem?_eq_getElem (by omega)⟩, fun i _ x hx => by simp at hx⟩⟩
set_option maxRecDepth 100000 in
set_option maxHeartbeats 6400000 in
theorem sums_walk (w : World) (A : Option Addr) (n c : Nat) (b : List UInt8) (hr : RowAt w A (bcells b)) (HN : Hid (b.length = n)) (hnc : n ≤ c) (hc : c ≤ maxLen) (hnil : A = none → n = 0 ∧ c = 0) :
    Calls Try.prog 11 #[.slice A n c] w (BoolPost w true) := by
  have hlv := @lives2_calls
  unfold maxLen at hc
  by_cases h300 : 300 < n
  · have t12 : decide (300 < (n : Int)) = true := by simp; omega
    go_enter Try.func11, Try.ntmps11
    go_wp2_with fail
    refine (hlv _).mono ?_
    rintro e w1 ⟨rfl, f1⟩
    go_wp2_with fail
    refine (hlv _).mono ?_
    rintro e w2 ⟨rfl, f2⟩
    go_wp2_with fail
    go_ret
    exact ⟨rfl, f1.then' f2⟩
  · have t12 : decide (300 < (n : Int)) = false := by simp; omega
    have hlt : ∀ a, A = some a → 0 < n → a.block < w.heap.size := fun a e h0 => by
      subst e; exact hr.lt (by rw [bcells_length, HN.out]; exact h0)
    go_enter Try.func11, Try.ntmps11
    go_wp2_with fail
    refine (hlv _).mono ?_
    rintro e w1 ⟨rfl, f1⟩
    have hr1 := hr.fr0 (f1.alloc (.cells #[] 5))
    have hr2 := hr.fr0 f1
    have z1 := f1.size
    have hown : (w1.alloc (.cells #[] 5)).ownsRow 0 5 1 (.slice (some ⟨w1.heap.size, 0, none⟩) 0 0) 0 [] := World.ownsRow_made w1 #[] 0 (Nat.zero_le _) (by unfold maxLen; omega) rfl
    go_wp2_with (at_builtin; refine wpList_app Try.app8 rfl (.tmp 13) (.tmp 14) rfl _ 0 [] rfl hown A n c (bcells b) rfl (by rw [bcells_length, HN.out, Nat.mul_one]) hr1 (bcells_one _) hnil (by omega) (by omega) ?_)
    intro B d w2 hown2 hg hat
    have f12 : Fr noB w1 w2 := Fr.grown ((Fr.refl noB w1).alloc _) hg (fun k hk => Or.inr (by simp [Value.ownBlock] at hk; omega))
    have hr3 := hr2.fr0 f12
    have hnB : B = none → n = 0 ∧ d = 0 := fun e => by
      subst e
      rcases hown2.2 with ⟨e, _⟩ | ⟨g, cap, cur, e, _⟩
      · injection e with _ h1 h2; exact ⟨by simpa using h1, h2⟩
      · injection e with h; cases h
    have hrB := own_row hown2
    (try simp only [Nat.zero_add, List.nil_append] at hrB)
    have hltB : ∀ a, B = some a → a.block < w2.heap.size := fun a e => own_lt hown2 (by rw [e]; rfl)
    have f02 : Fr noB w w2 := f1.then' f12
    have ht0 := TabAt.newZ w2
    have f3 : Fr noB w2 (w2.alloc (.cells Try.zeroCells109 109)) := (Fr.refl noB w2).alloc _
    have hr0 := hr3.fr0 f3
    have ho0 := hrB.fr0 f3
    have z2 := f02.size
    clear hg hat hown hown2 f12 hr1 hr2 hr hr3 hrB
    go_wp2_with fail
    generalize hwa : w2.alloc (.cells Try.zeroCells109 109) = wa at *
    have HWA := hid hwa; clear hwa
    generalize hp : w2.heap.size = p at *
    have HP := hid hp; clear hp
    have hA0 : ∀ a, A = some a → 0 < n → a.block ≠ p := fun a e h0 => by have := hlt a e h0; omega
    have hO0 : ∀ a, B = some a → a.block ≠ p := fun a e => by have := hltB a e; omega
    have HF3 : Hid (Fr noB w wa) := f02.then' f3
    clear f3 f02 f1
    (try simp only [Nat.zero_add])
    have HNIL := hid hnB; clear hnB
    obtain ⟨sm, HSM⟩ : ∃ sm, Hid (crcSum b = sm) := ⟨_, rfl⟩
    obtain ⟨TT, HTT⟩ : ∃ TT, Hid (TT = mkS (sealB b)) := ⟨_, rfl⟩
    refine wp_region_calmL (R := Fr (eqB p)) (C := SumsC p wa) [false, true, false, false, false, false, false, false, true, false, false, false, false, false, false, false, false, false, false, false, false, false, false] [0, 0, 0, 0, 1, 1, 1, 1, 1, 2, 1, 1, 2, 2, 2, 2, 2, 2, 2, 2, 2, 2, 2]
      [eqv (.slice B n d), eqv (.int .u32 sm), eqv (.slice A n c), eqv (.string (mkS b)), eqv (.int .u32 sm), eqv (.bool true), eqv (.bool true), eqv (.slice B n d), BytsU (eqB p) (sealB b), eqv (.string TT), eqv (.slice A n c), eqv (.string (mkS b)), eqv (.string TT), eqv (.bool true), eqv (.bool true), eqv (.bool true), eqv (.slice B n d), eqv (.string (mkS b)), eqv (.slice A n c), eqv (.string (mkS b)), eqv (.bool true), eqv (.bool true), eqv (.bool true)]
      (by kernel_rfl) (by kernel_rfl) (fun _ _ _ h1 h2 => h1.then' h2) ((Fr.refl _ _).drew) ⟨(Fr.refl _ _).drew, ht0.fr ((Fr.refl noB _).drew) id⟩ (by kernel_rfl) ?_ ?_
    · refine ⟨?_, ?_, ?_, ?_, ?_, ?_, ?_, ?_, ?_, ?_, ?_, ?_, ?_, ?_, ?_, ?_, ?_, ?_, ?_, ?_, ?_, ?_, ?_, trivial⟩
      · rw [if_neg (by decide)]; intro kq
        exact calm_mv 3 rfl rfl (Or.inl rfl) (Fr.refl _) (by decide) fun v w hd => hd
      · rw [if_pos (by decide)]
        intro a W K hC hd hK
        replace hC : (SumsC p wa) 0 W := hC
        have d4 : a.tmps[4]?.getD undef = .pointer (some ⟨p, 0, none⟩) := hd 4 (by decide)
        have d16 : a.tmps[16]?.getD undef = .slice B n d := hd 16 (by decide)
        refine wpOp_plain rfl rfl ?_
        have hcl := sumT_calls W p false B n d b hC.2 (ho0.fr hC.1 (fun a e h0 _ he => hO0 a e he)) HN (by omega) (fun a e _ => hO0 a e)
        rw [HSM.out] at hcl
        go_wp2_with fail
        refine hcl.mono ?_
        rintro e w' ⟨rfl, h1, f1⟩
        exact hK _ _ f1 ⟨hC.1.then' f1, h1⟩ rfl
      · rw [if_neg (by decide)]; intro kq
        exact calm_mv 0 rfl rfl (Or.inl rfl) (Fr.refl _) (by decide) fun v w hd => hd
      · rw [if_neg (by decide)]; intro kq
        intro a W K hC hd hK
        have d18 : a.tmps[18]?.getD undef = .slice A n c := hd 18 (by decide)
        refine wpOp_plain rfl rfl ?_
        have hcv := Try.toStr (hr0.fr hC.1 (fun a e h0 _ he => hA0 a e (by rw [bcells_length, HN.out] at h0; exact h0) he)) HN.out c
        go_wp2_with fail
        exact hK _ _ (Fr.refl _ _) hC rfl
      · rw [if_neg (by decide)]; intro kq
        intro a W K hC hd hK
        have d19 : a.tmps[19]?.getD undef = .string (mkS b) := hd 19 (by decide)
        refine wpOp_plain rfl rfl ?_
        have hcl := sumR_calls W (mkS b) (by rw [mkS_size, HN.out]; omega)
        rw [mkS_data, HSM.out] at hcl
        go_wp2_with fail
        refine hcl.mono ?_
        rintro e w' ⟨rfl, f1⟩
        exact hK _ _ (f1.mono fun _ _ h => h.elim) ⟨hC.1.then' (f1.mono fun _ _ h => h.elim), hC.2.fr f1 id⟩ rfl
      · rw [if_neg (by decide)]; intro kq
        intro a W K hC hd hK
        have d17 : a.tmps[17]?.getD undef = .int .u32 sm := hd 17 (by decide)
        have d20 : a.tmps[20]?.getD undef = .int .u32 sm := hd 20 (by decide)
        refine wpOp_plain rfl rfl ?_
        go_wp2_with fail
        exact hK _ _ (Fr.refl _ _) hC (by show _ = _; simp)
      · rw [if_neg (by decide)]; intro kq
        exact calm_mv 21 rfl rfl (Or.inl rfl) (Fr.refl _) (by decide) fun v w hd => hd
      · rw [if_neg (by decide)]; intro kq
        intro a W K hC hd hK
        have d3 : a.tmps[3]?.getD undef = .slice B n d := hd 3 (by decide)
        have d22 : a.tmps[22]?.getD undef = .bool true := hd 22 (by decide)
        refine wpOp_want rfl (wanted_of (want := true) (b := true) rfl rfl (by rw [eval_get]; exact d22)) ?_
        go_wp2_with fail
        exact hK _ _ (Fr.refl _ _) hC rfl
      · rw [if_pos (by decide)]
        intro a W K hC hd hK
        replace hC : (SumsC p wa) 1 W := hC
        have d4 : a.tmps[4]?.getD undef = .pointer (some ⟨p, 0, none⟩) := hd 4 (by decide)
        have d23 : a.tmps[23]?.getD undef = .slice B n d := hd 23 (by decide)
        have d22 : a.tmps[22]?.getD undef = .bool true := hd 22 (by decide)
        refine wpOp_want rfl (wanted_of (want := true) (b := true) rfl rfl (by rw [eval_get]; exact d22)) ?_
        have hcl := seal_calls W p true B n d b hC.2 (ho0.fr hC.1 (fun a e h0 _ he => hO0 a e he)) HN (by omega) HNIL.out (fun a e _ => hO0 a e)
        go_wp2_with fail
        refine hcl.mono ?_
        rintro e w' ⟨A4, c4, rfl, hr4, h1, f1⟩
        exact hK _ _ f1 ⟨hC.1.then' f1, h1⟩ ⟨A4, _, c4, rfl, rfl, own_row hr4, fun ad e hu => by have := (hr4.lt ad.block (by rw [e]; rfl)).1; have := hC.2.lt; unfold eqB at hu; omega⟩
      · rw [if_neg (by decide)]; intro kq
        intro a W K hC hd hK
        have d24 : (BytsU (eqB p) (sealB b)).V (a.tmps[24]?.getD undef) W := hd 24 (by decide)
        have d22 : a.tmps[22]?.getD undef = .bool true := hd 22 (by decide)
        refine wpOp_want rfl (wanted_of (want := true) (b := true) rfl rfl (by rw [eval_get]; exact d22)) ?_
        obtain ⟨A4, n4, c4, e4, hn4, hr4, _⟩ := d24
        have hcv := Try.toStr hr4 hn4 c4
        rw [← HTT.out] at hcv
        go_wp2_with fail
        exact hK _ _ (Fr.refl _ _) hC rfl
      · rw [if_neg (by decide)]; intro kq
        intro a W K hC hd hK
        have d0 : a.tmps[0]?.getD undef = .slice A n c := hd 0 (by decide)
        have d22 : a.tmps[22]?.getD undef = .bool true := hd 22 (by decide)
        refine wpOp_want rfl (wanted_of (want := true) (b := true) rfl rfl (by rw [eval_get]; exact d22)) ?_
        go_wp2_with fail
        exact hK _ _ (Fr.refl _ _) hC rfl
      · rw [if_neg (by decide)]; intro kq
        intro a W K hC hd hK
        have d26 : a.tmps[26]?.getD undef = .slice A n c := hd 26 (by decide)
        have d22 : a.tmps[22]?.getD undef = .bool true := hd 22 (by decide)
        refine wpOp_want rfl (wanted_of (want := true) (b := true) rfl rfl (by rw [eval_get]; exact d22)) ?_
        have hcv := Try.toStr (hr0.fr hC.1 (fun a e h0 _ he => hA0 a e (by rw [bcells_length, HN.out] at h0; exact h0) he)) HN.out c
        go_wp2_with fail
        exact hK _ _ (Fr.refl _ _) hC rfl
      · rw [if_neg (by decide)]; intro kq
        intro a W K hC hd hK
        have d27 : a.tmps[27]?.getD undef = .string (mkS b) := hd 27 (by decide)
        have d22 : a.tmps[22]?.getD undef = .bool true := hd 22 (by decide)
        refine wpOp_want rfl (wanted_of (want := true) (b := true) rfl rfl (by rw [eval_get]; exact d22)) ?_
        have hcl := sealR_calls W (mkS b) (by rw [mkS_size, HN.out]; omega)
        unfold StrPost at hcl
        rw [mkS_data, ← HTT.out] at hcl
        go_wp2_with fail
        refine hcl.mono ?_
        rintro e w' ⟨rfl, f1⟩
        exact hK _ _ (f1.mono fun _ _ h => h.elim) ⟨hC.1.then' (f1.mono fun _ _ h => h.elim), hC.2.fr f1 id⟩ rfl
      · rw [if_neg (by decide)]; intro kq
        intro a W K hC hd hK
        have d25 : a.tmps[25]?.getD undef = .string TT := hd 25 (by decide)
        have d28 : a.tmps[28]?.getD undef = .string TT := hd 28 (by decide)
        have d22 : a.tmps[22]?.getD undef = .bool true := hd 22 (by decide)
        refine wpOp_want rfl (wanted_of (want := true) (b := true) rfl rfl (by rw [eval_get]; exact d22)) ?_
        have hself : (TT.toList == TT.toList) = true := by simp
        go_wp2_with fail
        exact hK _ _ (Fr.refl _ _) hC (by show _ = _; simp)
      · rw [if_neg (by decide)]; intro kq
        intro a W K hC hd hK
        have d22 : a.tmps[22]?.getD undef = .bool true := hd 22 (by decide)
        have d29 : a.tmps[29]?.getD undef = .bool true := hd 29 (by decide)
        refine wpOp_plain rfl rfl ?_
        go_wp2_with fail
        exact hK _ _ (Fr.refl _ _) hC rfl
      · rw [if_neg (by decide)]; intro kq
        exact calm_mv 30 rfl rfl (Or.inl rfl) (Fr.refl _) (by decide) fun v w hd => hd
      · rw [if_neg (by decide)]; intro kq
        intro a W K hC hd hK
        have d3 : a.tmps[3]?.getD undef = .slice B n d := hd 3 (by decide)
        have d31 : a.tmps[31]?.getD undef = .bool true := hd 31 (by decide)
        refine wpOp_want rfl (wanted_of (want := true) (b := true) rfl rfl (by rw [eval_get]; exact d31)) ?_
        go_wp2_with fail
        exact hK _ _ (Fr.refl _ _) hC rfl
      · rw [if_neg (by decide)]; intro kq
        intro a W K hC hd hK
        have d32 : a.tmps[32]?.getD undef = .slice B n d := hd 32 (by decide)
        have d31 : a.tmps[31]?.getD undef = .bool true := hd 31 (by decide)
        refine wpOp_want rfl (wanted_of (want := true) (b := true) rfl rfl (by rw [eval_get]; exact d31)) ?_
        have hcv := Try.toStr (ho0.fr hC.1 (fun a e h0 _ he => hO0 a e he)) HN.out d
        go_wp2_with fail
        exact hK _ _ (Fr.refl _ _) hC rfl
      · rw [if_neg (by decide)]; intro kq
        intro a W K hC hd hK
        have d0 : a.tmps[0]?.getD undef = .slice A n c := hd 0 (by decide)
        have d31 : a.tmps[31]?.getD undef = .bool true := hd 31 (by decide)
        refine wpOp_want rfl (wanted_of (want := true) (b := true) rfl rfl (by rw [eval_get]; exact d31)) ?_
        go_wp2_with fail
        exact hK _ _ (Fr.refl _ _) hC rfl
      · rw [if_neg (by decide)]; intro kq
        intro a W K hC hd hK
        have d34 : a.tmps[34]?.getD undef = .slice A n c := hd 34 (by decide)
        have d31 : a.tmps[31]?.getD undef = .bool true := hd 31 (by decide)
        refine wpOp_want rfl (wanted_of (want := true) (b := true) rfl rfl (by rw [eval_get]; exact d31)) ?_
        have hcv := Try.toStr (hr0.fr hC.1 (fun a e h0 _ he => hA0 a e (by rw [bcells_length, HN.out] at h0; exact h0) he)) HN.out c
        go_wp2_with fail
        exact hK _ _ (Fr.refl _ _) hC rfl
      · rw [if_neg (by decide)]; intro kq
        intro a W K hC hd hK
        have d33 : a.tmps[33]?.getD undef = .string (mkS b) := hd 33 (by decide)
        have d35 : a.tmps[35]?.getD undef = .string (mkS b) := hd 35 (by decide)
        have d31 : a.tmps[31]?.getD undef = .bool true := hd 31 (by decide)
        refine wpOp_want rfl (wanted_of (want := true) (b := true) rfl rfl (by rw [eval_get]; exact d31)) ?_
        have hself : ((mkS b).toList == (mkS b).toList) = true := by simp
        go_wp2_with fail
        exact hK _ _ (Fr.refl _ _) hC (by show _ = _; simp)
      · rw [if_neg (by decide)]; intro kq
        intro a W K hC hd hK
        have d31 : a.tmps[31]?.getD undef = .bool true := hd 31 (by decide)
        have d36 : a.tmps[36]?.getD undef = .bool true := hd 36 (by decide)
        refine wpOp_plain rfl rfl ?_
        go_wp2_with fail
        exact hK _ _ (Fr.refl _ _) hC rfl
      · rw [if_neg (by decide)]; intro kq
        exact calm_mv 37 rfl rfl (Or.inr rfl) (Fr.refl _) (by decide) fun v w hd => hd
    · intro vs w9 fw9 cw9 hV
      have v2 : vs 22 = .bool true := hV 22 _ _ rfl rfl (by decide)
      clear hV
      simp only [putL, Act.put, Nat.reduceAdd, List.setIfInBounds_toArray, List.set_cons_zero, List.set_cons_succ, v2]
      go_wp2_with fail
      go_ret
      have hfin : Fr (upB w.heap.size) w w9 := (HF3.out.up0 w.heap.size).then' (fw9.mono fun k _ he => by unfold eqB at he; unfold upB; omega)
      exact ⟨rfl, hfin.none⟩
theorem sums_law (w : World) (A : Option Addr) (n c : Nat) (b : List UInt8) (o : RowAt w A (bcells b) ∧ b.length = n ∧ n ≤ c ∧ c ≤ maxLen ∧ (A = none → n = 0 ∧ c = 0)) :
    Calls Try.prog 11 #[.slice A n c] w (BoolPost w true) :=
  sums_walk w A n c b o.1 o.2.1 o.2.2.1 o.2.2.2.1 o.2.2.2.2
end Go.Proofs.Ytcpcmcdfncjnaaa
