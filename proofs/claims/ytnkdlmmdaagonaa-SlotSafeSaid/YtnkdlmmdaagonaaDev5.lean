/- block.Device: Cut, burn, Flush. -/
import Derived.Test.YtnkdlmmdaagonaaDev4
namespace Go.Proofs.Ytnkdlmmdaagonaa
open Go.RowKit
def cutD (m : Nat) (d : DevV) : DevV := if d.down then d else { keepD (bitM m) d with down := true, fuse := -1 }
def burnD (d : DevV) : DevV × Nat := if d.fuse < 0 then (d, 0) else if 0 < d.fuse then ({ d with fuse := d.fuse - 1 }, 0) else (cutD d.mask d, 15)
def flushD (d : DevV) : DevV × Nat := if d.down then (d, 15) else if (burnD d).2 = 0 then (keepD (fun _ => true) (burnD d).1, 0) else burnD d
theorem DStep.of0 {p : Nat} {w w' : World} {d : DevV} (h : DevAt w p d) (f : Fr noB w w') : DStep p w w' := by
  obtain ⟨KA, kn, kc, WA, wn, wc, ks, ws, h⟩ := h
  exact ⟨f.mono fun _ _ g => g.elim, fun k hk => .inl (devB_cells h.blk (h.blk.fr f id) rfl rfl k hk)⟩
set_option maxRecDepth 100000 in
set_option maxHeartbeats 1600000 in
theorem cut_calls (w : World) (p m : Nat) (d : DevV) (h : DevAt w p d) (h64 : m ≤ 18446744073709551615) : Calls Try.prog 22 #[.pointer (some ⟨p, 0, none⟩), .int .u64 m] w (DPost w p (cutD m d) (.tuple #[])) := by
  have hm : BlkAt (w.alloc (.cells #[.int .u64 m] 23)) w.heap.size 23 #[.int .u64 m] := BlkAt.new _ _ _
  have fa : Fr noB w (w.alloc (.cells #[.int .u64 m] 23)) := (Fr.refl noB w).alloc _
  have s0 := DStep.of0 h fa
  have h0 := h.fr0 fa
  obtain ⟨dn, hdn⟩ : ∃ v, d.down = v := ⟨_, rfl⟩
  have HC : Hid (cutD m d = if dn then d else { keepD (bitM m) d with down := true, fuse := -1 }) := by unfold Hid cutD; rw [hdn]
  have hk := keepCut_calls _ p w.heap.size m d h0 hm h64
  obtain ⟨KA, kn, kc, WA, wn, wc, ks, ws, hR⟩ := h0
  obtain ⟨x0, x1, x2, x3, x4, xf⟩ := BlkAt.c5 hR.blk
  rw [hdn] at x2
  clear hdn
  cases dn
  · go_enter Try.func22, Try.ntmps22
    go_wp2_with fail
    refine hk.mono ?_
    rintro e w1 ⟨rfl, h1, s1⟩
    obtain ⟨KA', kn', kc', WA', wn', wc', ks', ws', hR1⟩ := h1
    clear x0 x1 x2 x3 x4 xf
    obtain ⟨x0, x1, x2, x3, x4, xf⟩ := BlkAt.c5 hR1.blk
    have xf2 := xf 2
    have xf3 := xf 3
    have hT := hid (hR1.turn (d' := { keepD (bitM m) d with down := true, fuse := -1 }) ((fr_set1 w1 p 2 (.bool true)).then' (fr_set1 _ p 3 (.int .i64 (-1)))) ((hR1.blk.set 2 (.bool true)).set 3 (.int .i64 (-1))) rfl rfl (by simp only; omega) hR1.mb)
    clear hR1
    go_wp2_with fail
    go_end0
    exact ⟨rfl, by rw [HC.out]; exact hT.out.1, (s0.trans s1).trans hT.out.2⟩
  · go_enter Try.func22, Try.ntmps22
    go_wp2_with fail
    go_end0
    exact ⟨rfl, by rw [HC.out]; exact ⟨_, _, _, _, _, _, _, _, hR⟩, s0⟩
set_option maxRecDepth 100000 in
set_option maxHeartbeats 1600000 in
theorem burn_calls (w : World) (p : Nat) (d : DevV) (h : DevAt w p d) : Calls Try.prog 42 #[.pointer (some ⟨p, 0, none⟩)] w (DPost w p (burnD d).1 (.int .i64 ((burnD d).2 : Nat))) := by
  obtain ⟨KA, kn, kc, WA, wn, wc, ks, ws, hR⟩ := h
  have h : DevAt w p d := ⟨_, _, _, _, _, _, _, _, hR⟩
  obtain ⟨x0, x1, x2, x3, x4, xf⟩ := BlkAt.c5 hR.blk
  have xf3 := xf 3
  have hfz := hR.fz
  by_cases h1 : d.fuse < 0
  · have HB : Hid (burnD d = (d, 0)) := by unfold Hid burnD; rw [if_pos h1]
    have t1 : decide (d.fuse < 0) = true := decide_eq_true h1
    rw [HB.out]
    go_enter Try.func42, Try.ntmps42
    go_wp2_with fail
    go_ret
    exact ⟨rfl, h, DStep.refl _ _⟩
  · have t1 : decide (d.fuse < 0) = false := decide_eq_false h1
    by_cases h2 : 0 < d.fuse
    · have HB : Hid (burnD d = ({ d with fuse := d.fuse - 1 }, 0)) := by unfold Hid burnD; rw [if_neg h1, if_pos h2]
      have t2 : decide (0 < d.fuse) = true := decide_eq_true h2
      rw [HB.out]
      have hT := hid (hR.turn (d' := { d with fuse := d.fuse - 1 }) (fr_set1 w p 3 (.int .i64 (d.fuse - 1))) (hR.blk.set 3 (.int .i64 (d.fuse - 1))) rfl rfl (by simp only; omega) hR.mb)
      have hf1 : -9223372036854775808 ≤ d.fuse - 1 := by omega
      have hf2 : d.fuse - 1 ≤ 9223372036854775807 := by omega
      go_enter Try.func42, Try.ntmps42
      go_wp2_with fail
      go_ret
      exact ⟨rfl, hT.out⟩
    · have HB : Hid (burnD d = (cutD d.mask d, 15)) := by unfold Hid burnD; rw [if_neg h1, if_neg h2]
      have t2 : decide (0 < d.fuse) = false := decide_eq_false h2
      have hc := cut_calls w p d.mask d h hR.mb
      rw [HB.out]
      go_enter Try.func42, Try.ntmps42
      go_wp2_with fail
      refine hc.mono ?_
      rintro e w1 ⟨rfl, h3, s3⟩
      go_wp2_with fail
      go_ret
      exact ⟨rfl, h3, s3⟩
set_option maxRecDepth 100000 in
set_option maxHeartbeats 1600000 in
theorem flush_calls (w : World) (p : Nat) (d : DevV) (h : DevAt w p d) : Calls Try.prog 20 #[.pointer (some ⟨p, 0, none⟩)] w (DPost w p (flushD d).1 (.int .i64 ((flushD d).2 : Nat))) := by
  have hbu := burn_calls w p d h
  obtain ⟨dn, hdn⟩ : ∃ v, d.down = v := ⟨_, rfl⟩
  have HF : Hid (flushD d = if dn then (d, 15) else if (burnD d).2 = 0 then (keepD (fun _ => true) (burnD d).1, 0) else burnD d) := by unfold Hid flushD; rw [hdn]
  obtain ⟨KA, kn, kc, WA, wn, wc, ks, ws, hR⟩ := h
  have h : DevAt w p d := ⟨_, _, _, _, _, _, _, _, hR⟩
  obtain ⟨x0, x1, x2, x3, x4, xf⟩ := BlkAt.c5 hR.blk
  rw [hdn] at x2
  clear hdn hR
  generalize flushD d = fd at *
  generalize burnD d = bd at *
  obtain ⟨b, e⟩ := bd
  simp only at hbu HF
  cases dn
  · by_cases he : e = 0
    · subst he
      have HF2 : Hid (fd = (keepD (fun _ => true) b, 0)) := HF.out
      rw [HF2.out]
      go_enter Try.func20, Try.ntmps20
      go_wp2_with fail
      refine hbu.mono ?_
      rintro e w1 ⟨rfl, h1, s1⟩
      go_wp2_with fail
      refine (keepAll_calls w1 p b h1).mono ?_
      rintro e w2 ⟨rfl, h2, s2⟩
      go_wp2_with fail
      go_ret
      exact ⟨rfl, h2, s1.trans s2⟩
    · have HF2 : Hid (fd = (b, e)) := by unfold Hid; rw [HF.out]; simp [he]
      rw [HF2.out]
      have t1 : ((e : Int) != 0) = true := by rw [bne_iff_ne]; omega
      go_enter Try.func20, Try.ntmps20
      go_wp2_with fail
      refine hbu.mono ?_
      rintro e w1 ⟨rfl, h1, s1⟩
      go_wp2_with fail
      go_ret
      exact ⟨rfl, h1, s1⟩
  · have HF2 : Hid (fd = (d, 15)) := HF.out
    rw [HF2.out]
    go_enter Try.func20, Try.ntmps20
    go_wp2_with fail
    go_ret
    exact ⟨rfl, h, DStep.refl _ _⟩
end Go.Proofs.Ytnkdlmmdaagonaa
