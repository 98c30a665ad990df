/- block.Device: keep, of those that a mask tells. -/
import Derived.Test.YtnkdlmmdaagonaaDev3
import Derived.Laws.Bits64b
namespace Go.Proofs.Ytnkdlmmdaagonaa
open Go.RowKit
/-- The k-th of a mask's 64 bits, again and again. -/
def bitM (m k : Nat) : Bool := decide (m / 2 ^ (k % 64) % 2 = 1)
theorem DevR.not_u {w : World} {p : Nat} {d : DevV} {KA : Option Addr} {kn kc : Nat} {WA : Option Addr} {wn wc : Nat} {ks : List Value} {ws : List (Nat × Value)} (h : DevR w p d KA kn kc WA wn wc ks ws) {a : Nat} {C : Array Value} (hb : BlkAt w a 23 C) : ¬ devB p w a := by
  rintro (rfl | ⟨D, hD, hv⟩)
  · have := h.blk; unfold BlkAt at this hb; rw [this] at hb; simp at hb
  · have h1 := h.blk
    unfold BlkAt at h1 hb
    rw [h1] at hD
    have e : D = #[.slice KA kn kc, .slice WA wn wc, .bool d.down, .int .i64 d.fuse, .int .u64 (d.mask : Nat)] := by
      simp only [Option.some.injEq, Obj.cells.injEq, true_and, and_true] at hD; exact hD.symm
    subst e
    rcases hv with ⟨v, e1, e2⟩ | ⟨v, e1, e2⟩
    · simp at e1; subst e1
      obtain ⟨C', hC'⟩ := own_typ h.hk e2
      rw [hb] at hC'; simp at hC'
    · simp at e1; subst e1
      obtain ⟨C', hC'⟩ := own_typ h.hw e2
      rw [hb] at hC'; simp at hC'
theorem and1_u64 (a : Nat) (ha : a < 18446744073709551616) : bits .and .u64 (a : Int) 1 = ((a % 2 : Nat) : Int) := by
  have := bits_and_u64_nat a 1 ha (by decide)
  rw [Nat.and_one_is_mod] at this
  exact this
theorem bit_and (m k : Nat) (hm : m ≤ 18446744073709551615) : (bits .and .u64 ((m : Int) / 2 ^ (k % 64)) 1 == 1) = bitM m k := by
  have e : ((m : Int) / 2 ^ (k % 64)) = ((m / 2 ^ (k % 64) : Nat) : Int) := by push_cast; rfl
  rw [e, and1_u64 _ (Nat.lt_of_le_of_lt (Nat.div_le_self _ _) (by omega))]
  unfold bitM
  generalize m / 2 ^ (k % 64) % 2 = x
  rw [Bool.eq_iff_iff, beq_iff_eq, decide_eq_true_iff]; omega
theorem cut1_calls (w : World) (mb m k : Nat) (h64 : m ≤ 18446744073709551615) (hm : BlkAt w mb 23 #[.int .u64 m]) : Calls Try.prog 54 #[.int .i64 k, .pointer (some ⟨mb, 0, none⟩)] w (fun e w' => e = .returned (.bool (bitM m k)) ∧ w = w') := by
  obtain ⟨x0, xf⟩ := BlkAt.c1 hm
  go_enter Try.func54, Try.ntmps54
  go_wp2_with fail
  go_ret
  exact ⟨by rw [← bit_and m k h64]; rfl, rfl⟩
set_option maxRecDepth 100000 in
set_option maxHeartbeats 3200000 in
theorem keepCut_calls (w : World) (p mb m : Nat) (d : DevV) (h : DevAt w p d) (hm : BlkAt w mb 23 #[.int .u64 m]) (h64 : m ≤ 18446744073709551615) : Calls Try.prog 51 #[.pointer (some ⟨p, 0, none⟩), .func (.func 54) #[] #[.pointer (some ⟨mb, 0, none⟩)]] w (DPost w p (keepD (bitM m) d) (.tuple #[])) := by
  obtain ⟨KA, kn, kc, WA, wn, wc, ks, ws, h⟩ := h
  obtain ⟨x0, x1, x2, x3, x4, xf⟩ := BlkAt.c5 h.blk
  have hwm := own_maxD h.hw
  have hmB : ¬ devB p w mb := h.not_u hm
  go_enter Try.func51, Try.ntmps51
  go_wp2_with fail
  go_loopw [11] (fun i wr => ∃ (k : Nat) (ks' : List Value) (K' : List (List UInt8)), k ≤ wn ∧ i = .int .i64 k ∧ DevR wr p { d with kept := K' } KA kn kc WA wn wc ks' ws ∧ Hid (keepL (bitM m) k (d.wait.drop k) K' = keepL (bitM m) 0 d.wait d.kept) ∧ Fr (devB p w) w wr ∧ Hid (∀ x, devB p wr x → devB p w x)) (fun i _ => wn - (intOf i).toNat)
  case atStart => exact ⟨0, ks, d.kept, Nat.zero_le _, rfl, h, rfl, Fr.refl _ _, fun _ hx => hx⟩
  case round =>
    obtain ⟨k, ks', K', hk, rfl, hR, HK, hf, HB⟩ := hrel
    by_cases hkn : k < wn
    · obtain ⟨⟨i, bs⟩, hx⟩ : ∃ x, d.wait[k]? = some x := ⟨_, List.getElem?_eq_getElem (by rw [h.wl]; exact hkn)⟩
      obtain ⟨v, hv, hs⟩ := hR.wb k (i, bs) hx
      simp only at hv hs
      obtain ⟨gw, cap, hgw⟩ := ownsRow_succD hR.hw (by omega)
      obtain ⟨rfl, rfl⟩ := (by simpa using hgw : WA = some ⟨gw, 0, none⟩ ∧ wc = cap)
      obtain ⟨c0, c1⟩ := waitC_get hv
      have ca : wr.cell? ⟨gw, k * 2, none⟩ = some (.int .i64 i) := by rw [hR.hw.cellAt _ (by omega)]; exact c0
      have cb : wr.cell? ⟨gw, k * 2 + 1, none⟩ = some v := by rw [hR.hw.cellAt _ (by omega)]; exact c1
      obtain ⟨av, hvv, hba, hbl⟩ := hs
      subst hvv
      have hs : slotB wr (.slice (some ⟨av, 0, none⟩) 128 128) bs := ⟨av, rfl, hba, hbl⟩
      go_upto_region 3 with fail
      have h5 : BlkAt (wr.alloc (.cells #[.int .i64 i, .slice (some ⟨av, 0, none⟩) 128 128] 90)) wr.heap.size 90 #[.int .i64 i, .slice (some ⟨av, 0, none⟩) 128 128] := BlkAt.new _ _ _
      have fa := (Fr.refl noB wr).alloc (.cells #[.int .i64 i, .slice (some ⟨av, 0, none⟩) 128 128] 90)
      have hR4 := hR.fr fa (fun _ g => g.elim) (fun _ _ g => g.elim)
      have hs4 : slotB (wr.alloc (.cells #[.int .i64 i, .slice (some ⟨av, 0, none⟩) 128 128] 90)) (.slice (some ⟨av, 0, none⟩) 128 128) bs := ⟨av, rfl, hba.fr fa id, hbl⟩
      obtain ⟨b5, hb5⟩ : ∃ x, wr.heap.size = x := ⟨_, rfl⟩
      have hi : i < kn := by have h1 := hR.wk _ (List.mem_of_getElem? hx); have h2 := hR.kl; simp only at h1 h2; omega
      obtain ⟨gk, capk, hgk⟩ := ownsRow_succD hR.hk (by omega)
      obtain ⟨rfl, rfl⟩ := (by simpa using hgk : KA = some ⟨gk, 0, none⟩ ∧ kc = capk)
      have hgl : gk < wr.heap.size := (hR.hk.lt gk rfl).2
      have hpl := hR.blk.lt
      have hgp : gk ≠ p := fun e => by
        obtain ⟨C, hC⟩ := own_typ hR.hk (k := gk) rfl
        have := hR.blk; unfold BlkAt at this
        subst e; rw [this] at hC; simp at hC
      have hgB : devB p wr gk := .inr ⟨_, hR.blk, .inl ⟨_, rfl, rfl⟩⟩
      rw [hb5] at h5 hgl hpl ⊢
      have HX := hid (keepL_step (is := bitM m) K' hx)
      generalize hw4 : (wr.alloc _) = w4 at *
      clear hw4 ca cb hb5 hs hba hR
      have hm4 : BlkAt w4 mb 23 #[.int .u64 m] := (hm.fr hf hmB).fr fa id
      go_wp2_with fail
      refine (cut1_calls w4 mb m k h64 hm4).mono ?_
      rintro e w' ⟨rfl, rfl⟩
      obtain ⟨bt, hbt⟩ : ∃ b, bitM m k = b := ⟨_, rfl⟩
      rw [hbt] at HX ⊢
      have HBT := hid hbt
      clear hbt
      cases bt
      · have HK1 : Hid (keepL (bitM m) (k + 1) (d.wait.drop (k + 1)) K' = keepL (bitM m) 0 d.wait d.kept) := by
          unfold Hid; rw [← HK.out, HX.out]; simp
        have fw : Fr (devB p w) w w4 := hf.then' (fa.mono fun _ _ h => h.elim)
        have HB1 : Hid (∀ x, devB p w4 x → devB p w x) := fun x hx => devB_cells h.blk hR4.blk rfl rfl x hx
        go_wp2_with fail
        go_roundw
        case rel => exact ⟨k + 1, _, K', by omega, by go_num, hR4, HK1, fw, HB1⟩
        case measure => simp [intOf]; omega
      · go_wp2_with fail
        apply wp_region_calm (R := Fr (eqB gk)) (C := fun q W => KeepC w4 gk i (.slice (some ⟨av, 0, none⟩) 128 128) q W) [false, false, false, false, false, false, false, false, false, true]
          [eqv _, eqv _, eqv _, eqv _, eqv _, eqv _, eqv _, eqv _, eqv _, anyv]
          (by kernel_rfl) (by kernel_rfl) (fun _ _ _ h1 h2 => h1.then' h2) ((Fr.refl _ _).drew) ((Fr.refl noB w4).drew) (by kernel_rfl)
        · refine ⟨?_, ?_, ?_, ?_, ?_, ?_, ?_, ?_, ?_, ?_, trivial⟩
          · rw [if_neg (by decide)]; intro kq
            exact calm_mv 0 rfl rfl (Or.inl rfl) (Fr.refl _) (by decide) fun v w hd => hd
          · rw [if_neg (by decide)]; intro kq
            intro a W K hC hd hK
            have d19 : _ = _ := hd 19 (by decide)
            refine wpOp_plain rfl rfl ?_
            go_wp2_with fail
            exact hK _ _ (Fr.refl _ _) hC rfl
          · rw [if_neg (by decide)]; intro kq
            intro a W K hC hd hK
            have d20 : _ = _ := hd 20 (by decide)
            refine wpOp_plain rfl rfl ?_
            obtain ⟨y0, y1, y2, y3, y4, yf⟩ := BlkAt.c5 (KeepC.blk hC hR4.blk (Ne.symm hgp))
            obtain ⟨z0, z1, zf⟩ := BlkAt.c2 (KeepC.blk hC h5 (by omega))
            go_wp2_with fail
            exact hK _ _ (Fr.refl _ _) hC rfl
          · rw [if_neg (by decide)]; intro kq
            intro a W K hC hd hK
            have d21 : _ = _ := hd 21 (by decide)
            refine wpOp_plain rfl rfl ?_
            obtain ⟨y0, y1, y2, y3, y4, yf⟩ := BlkAt.c5 (KeepC.blk hC hR4.blk (Ne.symm hgp))
            obtain ⟨z0, z1, zf⟩ := BlkAt.c2 (KeepC.blk hC h5 (by omega))
            go_wp2_with fail
            exact hK _ _ (Fr.refl _ _) hC rfl
          · rw [if_neg (by decide)]; intro kq
            intro a W K hC hd hK
            have d5 : a.tmps[5]?.getD undef = .pointer (some ⟨b5, 0, none⟩) := hd 5 (by decide)
            refine wpOp_plain rfl rfl ?_
            obtain ⟨y0, y1, y2, y3, y4, yf⟩ := BlkAt.c5 (KeepC.blk hC hR4.blk (Ne.symm hgp))
            obtain ⟨z0, z1, zf⟩ := BlkAt.c2 (KeepC.blk hC h5 (by omega))
            go_wp2_with fail
            exact hK _ _ (Fr.refl _ _) hC rfl
          · rw [if_neg (by decide)]; intro kq
            intro a W K hC hd hK
            have d23 : _ = _ := hd 23 (by decide)
            refine wpOp_plain rfl rfl ?_
            obtain ⟨y0, y1, y2, y3, y4, yf⟩ := BlkAt.c5 (KeepC.blk hC hR4.blk (Ne.symm hgp))
            obtain ⟨z0, z1, zf⟩ := BlkAt.c2 (KeepC.blk hC h5 (by omega))
            go_wp2_with fail
            exact hK _ _ (Fr.refl _ _) hC rfl
          · rw [if_neg (by decide)]; intro kq
            intro a W K hC hd hK
            have d5 : a.tmps[5]?.getD undef = .pointer (some ⟨b5, 0, none⟩) := hd 5 (by decide)
            refine wpOp_plain rfl rfl ?_
            obtain ⟨y0, y1, y2, y3, y4, yf⟩ := BlkAt.c5 (KeepC.blk hC hR4.blk (Ne.symm hgp))
            obtain ⟨z0, z1, zf⟩ := BlkAt.c2 (KeepC.blk hC h5 (by omega))
            go_wp2_with fail
            exact hK _ _ (Fr.refl _ _) hC rfl
          · rw [if_neg (by decide)]; intro kq
            intro a W K hC hd hK
            have d25 : _ = _ := hd 25 (by decide)
            refine wpOp_plain rfl rfl ?_
            obtain ⟨y0, y1, y2, y3, y4, yf⟩ := BlkAt.c5 (KeepC.blk hC hR4.blk (Ne.symm hgp))
            obtain ⟨z0, z1, zf⟩ := BlkAt.c2 (KeepC.blk hC h5 (by omega))
            go_wp2_with fail
            exact hK _ _ (Fr.refl _ _) hC rfl
          · rw [if_neg (by decide)]; intro kq
            intro a W K hC hd hK
            have d22 : _ = _ := hd 22 (by decide)
            have d24 : _ = _ := hd 24 (by decide)
            refine wpOp_plain rfl rfl ?_
            obtain ⟨y0, y1, y2, y3, y4, yf⟩ := BlkAt.c5 (KeepC.blk hC hR4.blk (Ne.symm hgp))
            obtain ⟨z0, z1, zf⟩ := BlkAt.c2 (KeepC.blk hC h5 (by omega))
            go_wp2_with fail
            exact hK _ _ (Fr.refl _ _) hC rfl
          · rw [if_pos (by decide)]
            intro a W K hC hd hK
            replace hC : (fun q W => KeepC w4 gk i (.slice (some ⟨av, 0, none⟩) 128 128) q W) 0 W := hC
            have d27 : _ = _ := hd 27 (by decide)
            have d26 : _ = _ := hd 26 (by decide)
            refine wpOp_plain rfl rfl ?_
            obtain ⟨y0, y1, y2, y3, y4, yf⟩ := BlkAt.c5 (KeepC.blk hC hR4.blk (Ne.symm hgp))
            obtain ⟨z0, z1, zf⟩ := BlkAt.c2 (KeepC.blk hC h5 (by omega))
            have hC0 : Fr noB w4 W := hC
            have hRW := hR4.fr hC0 (fun _ g => g.elim) (fun _ _ g => g.elim)
            have hkl : ks'.length = kn := by have := hRW.hk.1; omega
            have ck : W.cell? ⟨gk, i, none⟩ = some ks'[i] := by rw [hRW.hk.cellAt i (by omega)]; exact List.getElem?_eq_getElem (by omega)
            have cf : W.frozen? ⟨gk, i, none⟩ = false := hRW.hk.frozenAt i
            have fs := fr_set1 W gk i (.slice (some ⟨av, 0, none⟩) 128 128)
            go_wp2_with fail
            exact hK undef _ fs ⟨W, hC0, rfl⟩ trivial
        · intro vs w9 fw9 cw9 hV
          have v19 : vs 0 = _ := hV 0 _ _ rfl rfl (by decide)
          have v20 : vs 1 = _ := hV 1 _ _ rfl rfl (by decide)
          have v21 : vs 2 = _ := hV 2 _ _ rfl rfl (by decide)
          have v22 : vs 3 = _ := hV 3 _ _ rfl rfl (by decide)
          have v23 : vs 4 = _ := hV 4 _ _ rfl rfl (by decide)
          have v24 : vs 5 = _ := hV 5 _ _ rfl rfl (by decide)
          have v25 : vs 6 = _ := hV 6 _ _ rfl rfl (by decide)
          have v26 : vs 7 = _ := hV 7 _ _ rfl rfl (by decide)
          have v27 : vs 8 = _ := hV 8 _ _ rfl rfl (by decide)
          clear hV
          simp only [putL, Act.put, Nat.reduceAdd, List.setIfInBounds_toArray, List.set_cons_zero, List.set_cons_succ, v19, v20, v21, v22, v23, v24, v25, v26, v27]
          obtain ⟨W0, f0, rfl⟩ := cw9
          have hR0 := hR4.fr f0 (fun _ g => g.elim) (fun _ _ g => g.elim)
          have hs0 : slotB W0 (.slice (some ⟨av, 0, none⟩) 128 128) bs := hs4.fr f0 (fun _ _ => id)
          obtain ⟨hR1, f1⟩ := hR0.keep1 i _ bs hs0 hi
          have fw : Fr (devB p w) w (W0.setCell ⟨gk, i, none⟩ (.slice (some ⟨av, 0, none⟩) 128 128)) := ((hf.then' (fa.mono fun _ _ h => h.elim)).then' (f0.mono fun _ _ h => h.elim)).trans f1 (fun x hx h => by unfold eqB at h; subst h; exact HB.out _ hgB)
          have HB1 : Hid (∀ x, devB p (W0.setCell ⟨gk, i, none⟩ (.slice (some ⟨av, 0, none⟩) 128 128)) x → devB p w x) := fun x hx => devB_cells h.blk hR1.blk rfl rfl x hx
          have HK1 : Hid (keepL (bitM m) (k + 1) (d.wait.drop (k + 1)) (K'.set i bs) = keepL (bitM m) 0 d.wait d.kept) := by
            unfold Hid; rw [← HK.out, HX.out]; simp
          have hR2 := hid hR1
          have FW := hid fw
          clear hR1 fw f1 hR0 hs0 hR4 hs4 f0
          go_wp2_with fail
          go_roundw
          case rel => exact ⟨k + 1, _, K'.set i bs, by omega, by go_num, hR2.out, HK1, FW.out, HB1⟩
          case measure => simp [intOf]; omega
    · obtain rfl : k = wn := by omega
      obtain ⟨y0, y1, y2, y3, y4, yf⟩ := BlkAt.c5 hR.blk
      have yf1 := yf 1
      obtain ⟨e1, e2⟩ := hR.empty
      have hKL := HK.out
      rw [List.drop_eq_nil_of_le (by rw [h.wl]; exact Nat.le_refl _)] at hKL
      have HD : Hid (({ d with kept := K', wait := [] } : DevV) = keepD (bitM m) d) := by
        unfold Hid keepD
        rw [← hKL]; rfl
      have HE := hid e1
      have HS : Hid (DStep p w (wr.setCell ⟨p, 1, none⟩ (.slice none 0 0))) := DStep.trans ⟨hf, fun x hx => .inl (HB.out x hx)⟩ e2
      clear e1 e2 hKL
      go_wp2_with fail
      go_end0
      exact ⟨rfl, by rw [← HD.out]; exact HE.out, HS.out⟩
end Go.Proofs.Ytnkdlmmdaagonaa
