/- op.Get. -/
import Derived.Test.YtcaihinenfnekaaDoorOpPut
import Derived.Test.YtcaihinenfnekaaDoorOp8
import Derived.Test.YtcaihinenfnekaaDoorRef5
namespace Go.Proofs.YtcaihinenfnekaaDoor
open Go.RowKit

/-- op.Get, as a function. -/
def repR1 (bs : List UInt8) : Rd := if 18 < (rNum ⟨bs, 0⟩ 1).2 then rFail (rNum ⟨bs, 0⟩ 1).1 4 else (rNum ⟨bs, 0⟩ 1).1
def repR3 (bs : List UInt8) : Rd := if (rNum ⟨bs, 0⟩ 1).2 ≠ 0 ∧ 0 < (rRow (repR1 bs) 400 400).2.length then rFail (rRow (repR1 bs) 400 400).1 4 else (rRow (repR1 bs) 400 400).1
def repGet (bs : List UInt8) : (Nat × List ByteArray) × Nat :=
  if rEnd (repR3 bs) = 0 then (((rNum ⟨bs, 0⟩ 1).2, (rRow (repR1 bs) 400 400).2), 0) else ((0, []), rEnd (repR3 bs))
/-- What a reply's Get leaves: memory that is new. -/
def RepPost (w : World) (q : (Nat × List ByteArray) × Nat) (e : Ending) (w' : World) : Prop :=
  ∃ A n c, e = .returned (.tuple #[.agg #[.int .i64 (q.1.1 : Nat), .slice A n c], .int .i64 (q.2 : Nat)]) ∧ Hid (q.1.2.length = n) ∧ RowAt w' A (strs q.1.2) ∧ (∀ ad, A = some ad → w.heap.size ≤ ad.block) ∧ n ≤ c ∧ c ≤ 9223372036854775807 ∧ Fr noB w w'
theorem own_cap {w : World} {base n : Nat} {e : TypeId} {size : Nat} {A : Option Addr} {m c : Nat} {xs : List Value} (h : w.ownsRow base e size (.slice A m c) n xs) : m ≤ c ∧ c ≤ 9223372036854775807 ∧ ∀ ad, A = some ad → base ≤ ad.block := by
  rcases h.2 with ⟨e1, _⟩ | ⟨g, cap, cur, e1, hb, _, hc, hm, _⟩
  · injection e1 with h0 h1 h2; subst h0 h1 h2; exact ⟨Nat.le_refl _, by decide, fun _ h => by cases h⟩
  · injection e1 with h0 h1 h2; subst h0 h1 h2; exact ⟨hc, Nat.le_trans hm (by decide), fun ad h => by cases h; exact hb⟩

set_option maxRecDepth 100000 in
set_option maxHeartbeats 1600000 in
theorem opGet_calls (w : World) (A : Option Addr) (n c : Nat) (bs : List UInt8) (hx : RowAt w A (bcells bs)) (hn : bs.length = n) (hB : A = none → n = 0 ∧ c = 0) (hl : n ≤ 1000000000000) :
    Calls Tryd.prog 57 #[.slice A n c] w (RepPost w (repGet bs)) := by
  have hb0 : BlkAt (w.alloc (.cells #[.int .i64 0, .slice none 0 0] 28)) w.heap.size 28 #[.int .i64 0, .slice none 0 0] := BlkAt.new _ _ _
  have f0 : Fr noB w (w.alloc (.cells #[.int .i64 0, .slice none 0 0] 28)) := (Fr.refl noB w).alloc _
  have hz0 := al_size w (.cells #[.int .i64 0, .slice none 0 0] 28)
  have hoc := of_calls (w.alloc (.cells #[.int .i64 0, .slice none 0 0] 28)) A n c bs (hx.fr0 f0) hn hB hl
  have hr : Hid (Tryd.f57.results = #[.cell 2 28, .tmp 3]) := by unfold Hid; kernel_rfl
  have HV : Hid (repGet bs = if rEnd (repR3 bs) = 0 then (((rNum ⟨bs, 0⟩ 1).2, (rRow (repR1 bs) 400 400).2), 0) else ((0, []), rEnd (repR3 bs))) := rfl
  have H3 : Hid (repR3 bs = if (rNum ⟨bs, 0⟩ 1).2 ≠ 0 ∧ 0 < (rRow (repR1 bs) 400 400).2.length then rFail (rRow (repR1 bs) 400 400).1 4 else (rRow (repR1 bs) 400 400).1) := rfl
  have H1 : Hid (repR1 bs = if 18 < (rNum ⟨bs, 0⟩ 1).2 then rFail (rNum ⟨bs, 0⟩ 1).1 4 else (rNum ⟨bs, 0⟩ 1).1) := rfl
  clear hn hx hl hB
  go_enter Tryd.func57, Tryd.ntmps57
  go_wp2_with fail
  generalize (w.alloc (.cells #[.int .i64 0, .slice none 0 0] 28)) = wa at *
  refine hoc.mono ?_
  rintro e w1 ⟨p, rfl, hp1, hp2, h1, f1⟩
  obtain ⟨S, hS, HSd⟩ : ∃ S : Nat → Prop, RdAt w1 S p ⟨bs, 0⟩ ∧ ∀ k, S k → w.heap.size < k ∧ k < w1.heap.size := ⟨_, h1.inn, fun k hk => by have := hk.1; unfold upB at this; omega⟩
  replace hb0 := hb0.fr f1 id
  replace f0 := f0.then' f1
  clear h1 f1 hoc
  go_wp2_with fail
  have hb := byteRd_calls w1 S p ⟨bs, 0⟩ hS
  have hk2 := rNum_lt ⟨bs, 0⟩ 1
  generalize rNum ⟨bs, 0⟩ 1 = q1 at *
  obtain ⟨r, k⟩ := q1
  simp only [] at *
  refine hb.mono ?_
  rintro e w2 ⟨rfl, h2, f2⟩
  replace hb0 := hb0.fr f2 (fun h => by have := HSd _ h; omega)
  replace f0 := f0.trans f2 (fun i hi h => by have := HSd _ h; omega)
  have hs2 := f2.size
  clear hS hb f2
  have hne : ((k : Int) != 0) = decide (k ≠ 0) := by by_cases h : k = 0 <;> simp [h]
  obtain ⟨c1, hc1⟩ : ∃ c, ((k : Int) != 0) = c := ⟨_, rfl⟩
  have HC1 : Hid (c1 = true ↔ k ≠ 0) := by unfold Hid; rw [← hc1, hne, decide_eq_true_eq]
  clear hne
  by_cases h18 : 18 < k
  · have d1 : decide ((18 : Int) < k) = true := decide_eq_true (by omega)
    rw [if_pos h18] at H1
    rw [H1.out] at HV H3
    clear H1 h18
    go_wp2_with fail
    refine (fail_calls w2 S p r 4 h2).mono ?_
    generalize rFail r 4 = r1 at *
    rintro e w3 ⟨rfl, h3, f3⟩
    replace hb0 := hb0.fr f3 (fun h => by have := HSd _ h; omega)
    replace f0 := f0.trans f3 (fun i hi h => by have := HSd _ h; omega)
    have hs3 := f3.size
    clear h2 f3
    have HSd' : ∀ j, S j → j < w3.heap.size := fun j hj => by have := (HSd j hj).2; omega
    have hrow := rowRd_calls w3 S p r1 400 400 h3 HSd' (by decide) (by decide) (by decide) (by decide)
    generalize rRow r1 400 400 = q2 at *
    obtain ⟨r2, l2⟩ := q2
    simp only [] at *
    go_wp2_with fail
    refine hrow.mono ?_
    rintro e w5 ⟨A1, n1, c1', rfl, HN1, h5, hr5, f5⟩
    have hcap := own_cap h5
    have hro := own_row h5
    replace hb0 := hb0.fr f5 (fun h => by have := HSd _ h; omega)
    replace f0 := f0.trans f5 (fun i hi h => by have := HSd _ h; omega)
    have hs5 := f5.size
    clear hrow h5 f5
    obtain ⟨c2, hc2⟩ : ∃ c, decide (0 < n1) = c := ⟨_, rfl⟩
    have HC2 : Hid (c2 = true ↔ 0 < l2.length) := by unfold Hid; rw [← hc2, decide_eq_true_eq, HN1.out]
    by_cases hb : c1 = true ∧ c2 = true
    · obtain ⟨rfl, rfl⟩ := hb
      rw [if_pos ⟨HC1.out.1 rfl, HC2.out.1 rfl⟩] at H3
      rw [H3.out] at HV
      clear H3
      go_wp2_with fail
      refine (fail_calls w5 S p r2 4 hr5).mono ?_
      generalize rFail r2 4 = r3 at *
      rintro e w6 ⟨rfl, h6, f6⟩
      replace hb0 := hb0.fr f6 (fun h => by have := HSd _ h; omega)
      replace hro := hro.fr f6 (fun ad e _ _ h => by have := hcap.2.2 ad e; have := (HSd _ h).2; omega)
      replace f0 := f0.trans f6 (fun i hi h => by have := HSd _ h; omega)
      clear f6 hr5
      obtain ⟨x0, x1, xf⟩ := BlkAt.c2 hb0
      have hE := endRd_calls w6 S p r3 h6
      by_cases h0 : rEnd r3 = 0
      · rw [if_pos h0] at HV
        rw [h0] at hE
        have FF := f0.trans ((fr_set1 w6 w.heap.size 0 (.int .i64 k)).then' (fr_set1 _ w.heap.size 1 (.slice A1 n1 c1'))) (fun i hi h => by unfold eqB at h; omega)
        have hro' := (hro.fr (fr_set1 w6 w.heap.size 0 (.int .i64 k)) (fun ad e _ _ h => by have := hcap.2.2 ad e; unfold eqB at h; omega)).fr (fr_set1 _ w.heap.size 1 (.slice A1 n1 c1')) (fun ad e _ _ h => by have := hcap.2.2 ad e; unfold eqB at h; omega)
        clear h0
        go_wp2_with fail
        refine hE.mono ?_
        rintro e w9 ⟨rfl, rfl⟩
        go_wp2_with fail
        have hr := hr.out
        exact bodyPost_ret (v := .tuple #[.agg #[.int .i64 k, .slice A1 n1 c1'], .int .i64 0]) (by simp [results, hr, go_sem, x0, x1]) rfl ⟨A1, n1, c1', by rw [HV.out] <;> rfl, by rw [HV.out]; exact HN1, by rw [HV.out]; exact hro', fun ad e => by have := hcap.2.2 ad e; omega, hcap.1, hcap.2.1, FF⟩
      · rw [if_neg h0] at HV
        generalize rEnd r3 = re at *
        have t1 : ((re : Int) != 0) = true := by rw [bne_iff_ne]; omega
        have FF := f0.trans ((fr_set1 w6 w.heap.size 0 (.int .i64 0)).then' (fr_set1 _ w.heap.size 1 (.slice none 0 0))) (fun i hi h => by unfold eqB at h; omega)
        clear h0
        go_wp2_with fail
        refine hE.mono ?_
        rintro e w9 ⟨rfl, rfl⟩
        go_wp2_with fail
        have hr := hr.out
        exact bodyPost_ret (v := .tuple #[.agg #[.int .i64 0, .slice none 0 0], .int .i64 re]) (by simp [results, hr, go_sem, x0, x1]) rfl ⟨none, 0, 0, by rw [HV.out] <;> rfl, by rw [HV.out]; exact rfl, RowAt.nil _ _ |> (by rw [HV.out]; exact ·), fun ad e => (by cases e), Nat.le_refl _, by decide, FF⟩
    · rw [if_neg (fun h => hb ⟨HC1.out.2 h.1, HC2.out.2 h.2⟩)] at H3
      rw [H3.out] at HV
      clear H3
      obtain ⟨c3, hc3⟩ : ∃ c, (c1 && c2) = c := ⟨_, rfl⟩
      have hb' : c1 = false ∨ c1 = true ∧ c2 = false := by
        cases c1
        · exact Or.inl rfl
        · cases c2
          · exact Or.inr ⟨rfl, rfl⟩
          · exact absurd ⟨rfl, rfl⟩ hb
      clear hb hc3
      rcases hb' with rfl | ⟨rfl, rfl⟩
      all_goals
        obtain ⟨x0, x1, xf⟩ := BlkAt.c2 hb0
        have hE := endRd_calls w5 S p r2 hr5
        by_cases h0 : rEnd r2 = 0
        · rw [if_pos h0] at HV
          rw [h0] at hE
          have FF := f0.trans ((fr_set1 w5 w.heap.size 0 (.int .i64 k)).then' (fr_set1 _ w.heap.size 1 (.slice A1 n1 c1'))) (fun i hi h => by unfold eqB at h; omega)
          have hro' := (hro.fr (fr_set1 w5 w.heap.size 0 (.int .i64 k)) (fun ad e _ _ h => by have := hcap.2.2 ad e; unfold eqB at h; omega)).fr (fr_set1 _ w.heap.size 1 (.slice A1 n1 c1')) (fun ad e _ _ h => by have := hcap.2.2 ad e; unfold eqB at h; omega)
          clear h0
          go_wp2_with fail
          refine hE.mono ?_
          rintro e w9 ⟨rfl, rfl⟩
          go_wp2_with fail
          have hr := hr.out
          exact bodyPost_ret (v := .tuple #[.agg #[.int .i64 k, .slice A1 n1 c1'], .int .i64 0]) (by simp [results, hr, go_sem, x0, x1]) rfl ⟨A1, n1, c1', by rw [HV.out] <;> rfl, by rw [HV.out]; exact HN1, by rw [HV.out]; exact hro', fun ad e => by have := hcap.2.2 ad e; omega, hcap.1, hcap.2.1, FF⟩
        · rw [if_neg h0] at HV
          generalize rEnd r2 = re at *
          have t1 : ((re : Int) != 0) = true := by rw [bne_iff_ne]; omega
          have FF := f0.trans ((fr_set1 w5 w.heap.size 0 (.int .i64 0)).then' (fr_set1 _ w.heap.size 1 (.slice none 0 0))) (fun i hi h => by unfold eqB at h; omega)
          clear h0
          go_wp2_with fail
          refine hE.mono ?_
          rintro e w9 ⟨rfl, rfl⟩
          go_wp2_with fail
          have hr := hr.out
          exact bodyPost_ret (v := .tuple #[.agg #[.int .i64 0, .slice none 0 0], .int .i64 re]) (by simp [results, hr, go_sem, x0, x1]) rfl ⟨none, 0, 0, by rw [HV.out] <;> rfl, by rw [HV.out]; exact rfl, RowAt.nil _ _ |> (by rw [HV.out]; exact ·), fun ad e => (by cases e), Nat.le_refl _, by decide, FF⟩
  · have d1 : decide ((18 : Int) < k) = false := decide_eq_false (by omega)
    rw [if_neg h18] at H1
    rw [H1.out] at HV H3
    clear H1 h18
    have HSd' : ∀ j, S j → j < w2.heap.size := fun j hj => by have := (HSd j hj).2; omega
    have hrow := rowRd_calls w2 S p r 400 400 h2 HSd' (by decide) (by decide) (by decide) (by decide)
    generalize rRow r 400 400 = q2 at *
    obtain ⟨r2, l2⟩ := q2
    simp only [] at *
    go_wp2_with fail
    refine hrow.mono ?_
    rintro e w5 ⟨A1, n1, c1', rfl, HN1, h5, hr5, f5⟩
    have hcap := own_cap h5
    have hro := own_row h5
    replace hb0 := hb0.fr f5 (fun h => by have := HSd _ h; omega)
    replace f0 := f0.trans f5 (fun i hi h => by have := HSd _ h; omega)
    have hs5 := f5.size
    clear hrow h5 f5
    obtain ⟨c2, hc2⟩ : ∃ c, decide (0 < n1) = c := ⟨_, rfl⟩
    have HC2 : Hid (c2 = true ↔ 0 < l2.length) := by unfold Hid; rw [← hc2, decide_eq_true_eq, HN1.out]
    by_cases hb : c1 = true ∧ c2 = true
    · obtain ⟨rfl, rfl⟩ := hb
      rw [if_pos ⟨HC1.out.1 rfl, HC2.out.1 rfl⟩] at H3
      rw [H3.out] at HV
      clear H3
      go_wp2_with fail
      refine (fail_calls w5 S p r2 4 hr5).mono ?_
      generalize rFail r2 4 = r3 at *
      rintro e w6 ⟨rfl, h6, f6⟩
      replace hb0 := hb0.fr f6 (fun h => by have := HSd _ h; omega)
      replace hro := hro.fr f6 (fun ad e _ _ h => by have := hcap.2.2 ad e; have := (HSd _ h).2; omega)
      replace f0 := f0.trans f6 (fun i hi h => by have := HSd _ h; omega)
      clear f6 hr5
      obtain ⟨x0, x1, xf⟩ := BlkAt.c2 hb0
      have hE := endRd_calls w6 S p r3 h6
      by_cases h0 : rEnd r3 = 0
      · rw [if_pos h0] at HV
        rw [h0] at hE
        have FF := f0.trans ((fr_set1 w6 w.heap.size 0 (.int .i64 k)).then' (fr_set1 _ w.heap.size 1 (.slice A1 n1 c1'))) (fun i hi h => by unfold eqB at h; omega)
        have hro' := (hro.fr (fr_set1 w6 w.heap.size 0 (.int .i64 k)) (fun ad e _ _ h => by have := hcap.2.2 ad e; unfold eqB at h; omega)).fr (fr_set1 _ w.heap.size 1 (.slice A1 n1 c1')) (fun ad e _ _ h => by have := hcap.2.2 ad e; unfold eqB at h; omega)
        clear h0
        go_wp2_with fail
        refine hE.mono ?_
        rintro e w9 ⟨rfl, rfl⟩
        go_wp2_with fail
        have hr := hr.out
        exact bodyPost_ret (v := .tuple #[.agg #[.int .i64 k, .slice A1 n1 c1'], .int .i64 0]) (by simp [results, hr, go_sem, x0, x1]) rfl ⟨A1, n1, c1', by rw [HV.out] <;> rfl, by rw [HV.out]; exact HN1, by rw [HV.out]; exact hro', fun ad e => by have := hcap.2.2 ad e; omega, hcap.1, hcap.2.1, FF⟩
      · rw [if_neg h0] at HV
        generalize rEnd r3 = re at *
        have t1 : ((re : Int) != 0) = true := by rw [bne_iff_ne]; omega
        have FF := f0.trans ((fr_set1 w6 w.heap.size 0 (.int .i64 0)).then' (fr_set1 _ w.heap.size 1 (.slice none 0 0))) (fun i hi h => by unfold eqB at h; omega)
        clear h0
        go_wp2_with fail
        refine hE.mono ?_
        rintro e w9 ⟨rfl, rfl⟩
        go_wp2_with fail
        have hr := hr.out
        exact bodyPost_ret (v := .tuple #[.agg #[.int .i64 0, .slice none 0 0], .int .i64 re]) (by simp [results, hr, go_sem, x0, x1]) rfl ⟨none, 0, 0, by rw [HV.out] <;> rfl, by rw [HV.out]; exact rfl, RowAt.nil _ _ |> (by rw [HV.out]; exact ·), fun ad e => (by cases e), Nat.le_refl _, by decide, FF⟩
    · rw [if_neg (fun h => hb ⟨HC1.out.2 h.1, HC2.out.2 h.2⟩)] at H3
      rw [H3.out] at HV
      clear H3
      obtain ⟨c3, hc3⟩ : ∃ c, (c1 && c2) = c := ⟨_, rfl⟩
      have hb' : c1 = false ∨ c1 = true ∧ c2 = false := by
        cases c1
        · exact Or.inl rfl
        · cases c2
          · exact Or.inr ⟨rfl, rfl⟩
          · exact absurd ⟨rfl, rfl⟩ hb
      clear hb hc3
      rcases hb' with rfl | ⟨rfl, rfl⟩
      all_goals
        obtain ⟨x0, x1, xf⟩ := BlkAt.c2 hb0
        have hE := endRd_calls w5 S p r2 hr5
        by_cases h0 : rEnd r2 = 0
        · rw [if_pos h0] at HV
          rw [h0] at hE
          have FF := f0.trans ((fr_set1 w5 w.heap.size 0 (.int .i64 k)).then' (fr_set1 _ w.heap.size 1 (.slice A1 n1 c1'))) (fun i hi h => by unfold eqB at h; omega)
          have hro' := (hro.fr (fr_set1 w5 w.heap.size 0 (.int .i64 k)) (fun ad e _ _ h => by have := hcap.2.2 ad e; unfold eqB at h; omega)).fr (fr_set1 _ w.heap.size 1 (.slice A1 n1 c1')) (fun ad e _ _ h => by have := hcap.2.2 ad e; unfold eqB at h; omega)
          clear h0
          go_wp2_with fail
          refine hE.mono ?_
          rintro e w9 ⟨rfl, rfl⟩
          go_wp2_with fail
          have hr := hr.out
          exact bodyPost_ret (v := .tuple #[.agg #[.int .i64 k, .slice A1 n1 c1'], .int .i64 0]) (by simp [results, hr, go_sem, x0, x1]) rfl ⟨A1, n1, c1', by rw [HV.out] <;> rfl, by rw [HV.out]; exact HN1, by rw [HV.out]; exact hro', fun ad e => by have := hcap.2.2 ad e; omega, hcap.1, hcap.2.1, FF⟩
        · rw [if_neg h0] at HV
          generalize rEnd r2 = re at *
          have t1 : ((re : Int) != 0) = true := by rw [bne_iff_ne]; omega
          have FF := f0.trans ((fr_set1 w5 w.heap.size 0 (.int .i64 0)).then' (fr_set1 _ w.heap.size 1 (.slice none 0 0))) (fun i hi h => by unfold eqB at h; omega)
          clear h0
          go_wp2_with fail
          refine hE.mono ?_
          rintro e w9 ⟨rfl, rfl⟩
          go_wp2_with fail
          have hr := hr.out
          exact bodyPost_ret (v := .tuple #[.agg #[.int .i64 0, .slice none 0 0], .int .i64 re]) (by simp [results, hr, go_sem, x0, x1]) rfl ⟨none, 0, 0, by rw [HV.out] <;> rfl, by rw [HV.out]; exact rfl, RowAt.nil _ _ |> (by rw [HV.out]; exact ·), fun ad e => (by cases e), Nat.le_refl _, by decide, FF⟩
end Go.Proofs.YtcaihinenfnekaaDoor
