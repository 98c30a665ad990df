/- super.Save. -/
import Derived.Test.YtnkdlmmdaagonaaSup2b
import Derived.Test.YtnkdlmmdaagonaaSup3
import Derived.Test.YtnkdlmmdaagonaaDev12
namespace Go.Proofs.Ytnkdlmmdaagonaa
open Go.RowKit
/-- A save: the device behind it, and the error's number. -/
def saveD (d : DevV) (s : SuV) : DevV × Nat :=
  if checkS s ≠ 0 then (d, checkS s) else if (writeD d (s.seq % 2 : Nat) (superB s)).2 ≠ 0 then writeD d (s.seq % 2 : Nat) (superB s) else flushD (writeD d (s.seq % 2 : Nat) (superB s)).1
theorem DevAt.not_u {w : World} {p : Nat} {d : DevV} (h : DevAt w p d) {a : Nat} {C : Array Value} (hb : BlkAt w a 5 C) : ¬ devB p w a := by
  obtain ⟨KA, kn, kc, WA, wn, wc, ks, ws, h⟩ := h
  exact h.not_b hb
set_option maxRecDepth 100000 in
set_option maxHeartbeats 3200000 in
theorem save_calls (w : World) (p : Nat) (d : DevV) (s : SuV) (h : DevAt w p d) (hw : s.wf) (hwl : d.wait.length ≤ 1000000000) :
    Calls Try.prog 38 #[.pointer (some ⟨p, 0, none⟩), s.v] w (DPost w p (saveD d s).1 (.int .i64 ((saveD d s).2 : Nat))) := by
  have f0 : Fr noB w (w.alloc (.cells s.C.toArray 61)) := (Fr.refl noB w).alloc _
  have hb0 : BlkAt (w.alloc (.cells s.C.toArray 61)) w.heap.size 61 s.C.toArray := BlkAt.new _ _ _
  by_cases hc : checkS s = 0
  · have HS : Hid (saveD d s = if (writeD d (s.seq % 2 : Nat) (superB s)).2 ≠ 0 then writeD d (s.seq % 2 : Nat) (superB s) else flushD (writeD d (s.seq % 2 : Nat) (superB s)).1) := by
      unfold Hid saveD; rw [if_neg (by omega)]
    have hby := suBytesOk_calls (w.alloc (.cells s.C.toArray 61)) s hw hc
    have hl := superB_length s
    have hwr := fun W A c (g : DevAt W p d) hx hB hbB hnc => write_calls W p d (s.seq % 2 : Nat) A 54 c (superB s) g hx hl hB hbB hwl hnc
    generalize writeD d (s.seq % 2 : Nat) (superB s) = wd at *
    generalize saveD d s = sd at *
    unfold BytesSPost at hby
    rw [hl] at hby
    generalize superB s = sb at *
    obtain ⟨wd1, we⟩ := wd
    simp only [] at hwr HS
    obtain ⟨seq, view, normal, gen, half, slot, base, size, sum⟩ := s
    unfold SuV.C at f0 hb0 hby
    unfold SuV.v SuV.C at *
    simp only [] at *
    obtain ⟨sq, hsq⟩ : ∃ z, seq % 2 = z := ⟨_, rfl⟩
    have hsq2 : sq < 2 := by omega
    clear hc hw hl
    go_enter Try.func38, Try.ntmps38
    go_upto_region 1 with fail
    generalize (w.alloc _) = wa at *
    obtain ⟨x0, x1, x2, x3, x4, x5, x6, x7, x8, xf⟩ := BlkAt.c9 hb0
    go_wp2_with fail
    refine hby.mono ?_
    rintro ed w1 ⟨A, c, rfl, hA, f1⟩
    have F1 := f0.then' f1
    have h1 := h.fr0 F1
    have hrow := own_row hA
    have hnil := own_nilU hA
    have hcap := own_capB hA
    have hty : ∀ a, A = some a → ¬ devB p w1 a.block := fun a e => by
      obtain ⟨C, hC⟩ := own_typ hA (k := a.block) (by subst e; rfl)
      exact h1.not_u hC
    have S1 := DStep.of0 h F1
    replace hb0 := hb0.fr f1 id
    clear hby hA x0 x1 x2 x3 x4 x5 x6 x7 x8 xf f0 f1 h
    obtain ⟨x0, x1, x2, x3, x4, x5, x6, x7, x8, xf⟩ := BlkAt.c9 hb0
    have hwr' := hwr w1 A c h1 hrow hnil (fun a e _ => hty a e) hcap.1
    have hfl := fun W g => flush_calls W p wd1 g
    generalize flushD wd1 = fd at *
    obtain ⟨fd1, fe⟩ := fd
    have hr2 : ((seq : Int) % 2) = (sq : Nat) := by omega
    rw [hsq] at hwr'
    clear hwr hty hrow hnil hsq
    by_cases h0 : we = 0
    · subst h0
      have HS2 : Hid (sd = (fd1, fe)) := by unfold Hid; rw [HS.out]; rfl
      clear HS
      go_wp2_with fail
      refine hwr'.mono ?_
      rintro ed w2 ⟨rfl, h2, s2⟩
      have S2 := S1.trans s2
      clear hwr' S1 s2 x0 x1 x2 x3 x4 x5 x6 x7 x8 xf
      go_wp2_with fail
      refine (hfl w2 h2).mono ?_
      rintro ed w3 ⟨rfl, h3, s3⟩
      go_wp2_with fail
      go_ret
      rw [HS2.out]
      exact ⟨rfl, h3, S2.trans s3⟩
    · have HS2 : Hid (sd = (wd1, we)) := by unfold Hid; rw [HS.out, if_pos h0]
      have t1 : ((we : Int) != 0) = true := by rw [bne_iff_ne]; omega
      clear HS h0
      go_wp2_with fail
      refine hwr'.mono ?_
      rintro ed w2 ⟨rfl, h2, s2⟩
      have S2 := S1.trans s2
      clear hwr' S1 s2 x0 x1 x2 x3 x4 x5 x6 x7 x8 xf
      go_wp2_with fail
      go_ret
      rw [HS2.out]
      exact ⟨rfl, h2, S2⟩
  · have HS : Hid (saveD d s = (d, checkS s)) := by unfold Hid saveD; rw [if_pos hc]
    rw [HS.out]
    have hby := suBytesNo_calls (w.alloc (.cells s.C.toArray 61)) s hc
    have t1 : ((checkS s : Int) != 0) = true := by rw [bne_iff_ne]; omega
    clear HS
    generalize checkS s = cv at *
    obtain ⟨seq, view, normal, gen, half, slot, base, size, sum⟩ := s
    unfold SuV.C at f0 hb0 hby
    unfold SuV.v SuV.C at *
    simp only [] at *
    clear hc hw
    go_enter Try.func38, Try.ntmps38
    go_upto_region 1 with fail
    generalize (w.alloc _) = wa at *
    obtain ⟨x0, x1, x2, x3, x4, x5, x6, x7, x8, xf⟩ := BlkAt.c9 hb0
    go_wp2_with fail
    refine hby.mono ?_
    rintro ed w1 ⟨rfl, f1⟩
    have F1 := f0.then' f1
    clear hby x0 x1 x2 x3 x4 x5 x6 x7 x8 xf
    go_wp2_with fail
    go_ret
    exact ⟨rfl, h.fr0 F1, DStep.of0 h F1⟩
end Go.Proofs.Ytnkdlmmdaagonaa
