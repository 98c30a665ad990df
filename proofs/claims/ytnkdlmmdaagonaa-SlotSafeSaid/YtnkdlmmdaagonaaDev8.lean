/- block.New: the walk. -/
import Derived.Test.YtnkdlmmdaagonaaDev7
namespace Go.Proofs.Ytnkdlmmdaagonaa
open Go.RowKit
theorem devB_up {wr W : World} {p : Nat} {d : DevV} {KA : Option Addr} {kn kc : Nat} {WA : Option Addr} {wn wc : Nat} {ks : List Value} {ws : List (Nat × Value)} (h : DevR wr p d KA kn kc WA wn wc ks ws) (_ : Fr noB wr W) {x : Nat} (hx : (Value.slice KA kn kc).ownBlock = some x) : devB p wr x := .inr ⟨_, h.blk, .inl ⟨_, rfl, hx⟩⟩
theorem devB_new {w : World} {p : Nat} {b : Bool} {f m : Value} (h : BlkAt w p 87 #[.slice none 0 0, .slice none 0 0, .bool b, f, m]) {k : Nat} (hk : devB p w k) : k = p := by
  rcases hk with rfl | ⟨D, hD, hv⟩
  · rfl
  · unfold BlkAt at h
    rw [h] at hD
    have e : D = #[.slice none 0 0, .slice none 0 0, .bool b, f, m] := by
      simp only [Option.some.injEq, Obj.cells.injEq, true_and, and_true] at hD; exact hD.symm
    subst e
    rcases hv with ⟨v, e1, e2⟩ | ⟨v, e1, e2⟩ <;> (simp at e1; subst e1; cases e2)
theorem newD_step (k : Nat) : ({ newD k with kept := (newD k).kept ++ [List.replicate 128 0] } : DevV) = newD (k + 1) := by
  unfold newD
  simp only [List.replicate_succ']
set_option maxRecDepth 100000 in
set_option maxHeartbeats 3200000 in
theorem new_calls (w : World) (n : Nat) (hn : n ≤ 1000000) : Calls Try.prog 12 #[.int .i64 n] w (fun e w' => ∃ p, e = .returned (.pointer (some ⟨p, 0, none⟩)) ∧ w.heap.size ≤ p ∧ DevAt w' p (newD n) ∧ Fr noB w w' ∧ ∀ k, devB p w' k → w.heap.size ≤ k) := by
  have hb0 : BlkAt (w.alloc (.cells #[.slice none 0 0, .slice none 0 0, .bool false, .int .i64 (-1), .int .u64 0] 87)) w.heap.size 87 #[.slice none 0 0, .slice none 0 0, .bool false, .int .i64 (-1), .int .u64 0] := BlkAt.new _ _ _
  have f0 : Fr noB w (w.alloc (.cells #[.slice none 0 0, .slice none 0 0, .bool false, .int .i64 (-1), .int .u64 0] 87)) := (Fr.refl noB w).alloc _
  go_enter Try.func12, Try.ntmps12
  go_wp2_with fail
  generalize hwa : (w.alloc _) = wa at *
  obtain ⟨p, hp⟩ : ∃ p, w.heap.size = p := ⟨_, rfl⟩
  have HP := hid hp
  rw [hp] at hb0 ⊢
  clear hwa hp
  have hd0 : DevAt wa p (newD 0) := ⟨none, 0, 0, none, 0, 0, [], [], hb0, World.ownsRow_nil _ _ _ _, World.ownsRow_nil _ _ _ _, rfl, rfl, fun j b h => by simp [newD] at h, fun j x h => by simp [newD] at h, fun x h => by simp [newD] at h, by simp [newD], by simp [newD]⟩
  go_loopw [7] (fun i wr => ∃ k : Nat, k ≤ n ∧ i = .int .i64 k ∧ DevAt wr p (newD k) ∧ DStep p wa wr) (fun i _ => n - (intOf i).toNat)
  case atStart => exact ⟨0, Nat.zero_le _, rfl, hd0, DStep.refl _ _⟩
  case round =>
    obtain ⟨k, hk, rfl, hd, hs⟩ := hrel
    by_cases hkn : k < n
    · have hdl := hid (fun j h => devB_lt hd (k := j) h)
      have hdA := hid hd
      obtain ⟨KA, kn, kc, WA, wn, wc, ks, ws, hR⟩ := hd
      obtain rfl : k = kn := by have := hR.kl; simpa [newD] using this
      have hW0 : (newD k).down = false ∧ (newD k).fuse = -1 ∧ (newD k).mask = 0 := ⟨rfl, rfl, rfl⟩
      have mk1 := Try.mk128
      go_wp2_with fail
      apply H.wp_region_calmL (R := Fr (devB p wr)) (C := fun q ν W => NewC wr p k KA kc ks q (ν 16) W) [false, false, false, false, true, false, false, true, false, false, true] [0, 0, 0, 0, 0, 0, 0, 1, 2, 2, 2]
        [eqv (.pointer (some ⟨p, 0, none⟩)), eqv (.pointer (some ⟨p, 0, none⟩)), eqv (.pointer (some ⟨p, 0, none⟩)), eqv (.pointer (some ⟨p, 0, none⟩)), eqv (.slice KA k kc), ZSt (devB p wr) wr.heap.size hdl.out, ZRow (devB p wr) wr.heap.size hdl.out, anyv, eqv (.pointer (some ⟨p, 0, none⟩)), eqv (.pointer (some ⟨p, 0, none⟩)), anyv]
        (by kernel_rfl) (by kernel_rfl) (fun _ _ _ h1 h2 => h1.then' h2) ((Fr.refl _ _).drew) (by exact ((Fr.refl noB wr).drew)) (by kernel_rfl)
      · refine ⟨?_, ?_, ?_, ?_, ?_, ?_, ?_, ?_, ?_, ?_, ?_, trivial⟩
        · rw [if_neg (by decide)]; intro kq
          exact H.calm_mv 3 rfl rfl (Or.inl rfl) (fun _ _ _ h => h) (Fr.refl _) (by decide) fun v w hd => hd
        · rw [if_neg (by decide)]; intro kq
          exact H.calm_mv 3 rfl rfl (Or.inl rfl) (fun _ _ _ h => h) (Fr.refl _) (by decide) fun v w hd => hd
        · rw [if_neg (by decide)]; intro kq
          intro a W K hC hd hK
          have d10 : a.tmps[10]?.getD undef = .pointer (some ⟨p, 0, none⟩) := hd 10 (by decide)
          refine wpOp_plain rfl rfl ?_
          go_wp2_with fail
          exact hK _ _ (Fr.refl _ _) hC rfl
        · rw [if_neg (by decide)]; intro kq
          intro a W K hC hd hK
          have d11 : a.tmps[11]?.getD undef = .pointer (some ⟨p, 0, none⟩) := hd 11 (by decide)
          refine wpOp_plain rfl rfl ?_
          go_wp2_with fail
          exact hK _ _ (Fr.refl _ _) hC rfl
        · rw [if_pos (by decide)]
          intro a W K hC hd hK
          replace hC : (fun q ν W => NewC wr p k KA kc ks q (ν 16) W) 0 (fun t => a.eval (.tmp t)) W := hC
          have d12 : a.tmps[12]?.getD undef = .pointer (some ⟨p, 0, none⟩) := hd 12 (by decide)
          refine wpOp_plain rfl rfl ?_
          have hC0 : Fr noB wr W := hC
          obtain ⟨x0, x1, x2, x3, x4, xf⟩ := BlkAt.c5 (hR.blk.fr hC0 id)
          go_wp2_with fail
          exact hK _ _ (Fr.refl _ _) hC0 rfl
        · rw [if_neg (by decide)]; intro kq
          intro a W K hC hd hK
          refine wpOp_plain rfl rfl ?_
          have mk2 := mk1 W
          have hsz := NewC.size hC
          have fa := (Fr.refl noB W).alloc (.cells zer128.toArray 5)
          go_wp2_with fail
          exact hK _ _ (fa.mono fun _ _ h => h.elim) (NewC.step hC fa) ⟨W.heap.size, rfl, hsz, BlkAt.new _ _ _⟩
        · rw [if_neg (by decide)]; intro kq
          intro a W K hC hd hK
          have d14 : (ZSt (devB p wr) wr.heap.size hdl.out).V (a.tmps[14]?.getD undef) W := hd 14 (by decide)
          refine wpOp_plain rfl rfl ?_
          obtain ⟨g, hv14, hg0, hbg⟩ := d14
          have d14 : a.tmps[14]?.getD undef = .slice (some ⟨g, 0, none⟩) 128 128 := hv14
          have hsz := NewC.size hC
          have fa := (Fr.refl noB W).alloc (.cells #[.slice (some ⟨g, 0, none⟩) 128 128] 22)
          go_wp2_with fail
          exact hK _ _ (fa.mono fun _ _ h => h.elim) (NewC.step hC fa) ⟨W.heap.size, g, rfl, hsz, hg0, hbg.al _, BlkAt.new _ _ _⟩
        · rw [if_pos (by decide)]
          intro a W K hC hd hK
          replace hC : (fun q ν W => NewC wr p k KA kc ks q (ν 16) W) 1 (fun t => a.eval (.tmp t)) W := hC
          have d13 : a.tmps[13]?.getD undef = .slice KA k kc := hd 13 (by decide)
          have d15 : (ZRow (devB p wr) wr.heap.size hdl.out).V (a.tmps[15]?.getD undef) W := hd 15 (by decide)
          refine wpOp_plain rfl rfl ?_
          have hC0 : Fr noB wr W := hC
          obtain ⟨r, g, hv15, hr0, hg0, hbg, hbr⟩ := d15
          have d15 : a.tmps[15]?.getD undef = .slice (some ⟨r, 0, none⟩) 1 1 := hv15
          have hRW := hR.fr hC0 (fun _ g => g.elim) (fun _ _ g => g.elim)
          refine op_appD Try.appB (.tmp 13) (.tmp 15) rfl (.slice KA k kc) k ks (by rw [eval_get]; exact d13) hRW.hk (some ⟨r, 0, none⟩) 1 1 [.slice (some ⟨g, 0, none⟩) 128 128] (by rw [eval_get]; exact d15) rfl (fun j u hu => ⟨_, rfl, by (cases j with | zero => (simp at hu; subst hu; exact hbr.cell rfl) | succ j => simp at hu)⟩) (by intro u hu; simp at hu; subst hu; rfl) (by simp) (by omega) (by omega) ?_
          intro A9 c9 w9 ho9 hg9 hat9
          exact hK _ _ (Fr.grown (Fr.refl _ _) hg9 (fun x hx => .inl (devB_up hR hC0 hx))) ⟨A9, c9, g, W, hC0, rfl, ho9, hg9, hat9, hbg⟩ trivial
        · rw [if_neg (by decide)]; intro kq
          intro a W K hC hd hK
          have d9 : a.tmps[9]?.getD undef = .pointer (some ⟨p, 0, none⟩) := hd 9 (by decide)
          refine wpOp_plain rfl rfl ?_
          go_wp2_with fail
          exact hK _ _ (Fr.refl _ _) hC rfl
        · rw [if_neg (by decide)]; intro kq
          intro a W K hC hd hK
          have d17 : a.tmps[17]?.getD undef = .pointer (some ⟨p, 0, none⟩) := hd 17 (by decide)
          refine wpOp_plain rfl rfl ?_
          go_wp2_with fail
          exact hK _ _ (Fr.refl _ _) hC rfl
        · rw [if_pos (by decide)]
          intro a W K hC hd hK
          replace hC : (fun q ν W => NewC wr p k KA kc ks q (ν 16) W) 2 (fun t => a.eval (.tmp t)) W := hC
          have d18 : a.tmps[18]?.getD undef = .pointer (some ⟨p, 0, none⟩) := hd 18 (by decide)
          have d16 : (anyv).V (a.tmps[16]?.getD undef) W := hd 16 (by decide)
          refine wpOp_plain rfl rfl ?_
          obtain ⟨A9, c9, g, W2, hf2, hv16, ho9, hg9, hat9, hbg⟩ := hC
          have d16 : a.tmps[16]?.getD undef = .slice A9 (k + 1) c9 := by rw [← eval_get]; exact hv16
          obtain ⟨hD, hS, hb5⟩ := (hR.fr hf2 (fun _ g => g.elim) (fun _ _ g => g.elim)).grow ho9 hg9 hat9 (zer_slot hbg)
          rw [newD_step] at hD
          obtain ⟨x0, x1, x2, x3, x4, xf⟩ := BlkAt.c5 hb5
          have xf0 := xf 0
          have HD := hid hD
          have HS := hid hS
          have fs := fr_set1 W p 0 (.slice A9 (k + 1) c9)
          clear hD hS
          go_wp2_with fail
          exact hK undef _ (fs.mono fun x _ hx => .inl hx) ⟨HD.out, (DStep.of0 hdA.out hf2).trans HS.out⟩ trivial
      · intro vs w9 fw9 cw9 hV
        have v9 : vs 0 = .pointer (some ⟨p, 0, none⟩) := hV 0 _ _ rfl rfl (by decide)
        have v10 : vs 1 = .pointer (some ⟨p, 0, none⟩) := hV 1 _ _ rfl rfl (by decide)
        have v11 : vs 2 = .pointer (some ⟨p, 0, none⟩) := hV 2 _ _ rfl rfl (by decide)
        have v12 : vs 3 = .pointer (some ⟨p, 0, none⟩) := hV 3 _ _ rfl rfl (by decide)
        have v13 : vs 4 = .slice KA k kc := hV 4 _ _ rfl rfl (by decide)
        have v14 : (ZSt (devB p wr) wr.heap.size hdl.out).V (vs 5) w9 := hV 5 _ _ rfl rfl (by decide)
        have v15 : (ZRow (devB p wr) wr.heap.size hdl.out).V (vs 6) w9 := hV 6 _ _ rfl rfl (by decide)
        have v16 : (anyv).V (vs 7) w9 := hV 7 _ _ rfl rfl (by decide)
        have v17 : vs 8 = .pointer (some ⟨p, 0, none⟩) := hV 8 _ _ rfl rfl (by decide)
        have v18 : vs 9 = .pointer (some ⟨p, 0, none⟩) := hV 9 _ _ rfl rfl (by decide)
        clear hV
        simp only [putL, Act.put, Nat.reduceAdd, List.setIfInBounds_toArray, List.set_cons_zero, List.set_cons_succ, v9, v10, v11, v12, v13, v17, v18]
        have hfin : DevAt w9 p (newD (k + 1)) ∧ DStep p wr w9 := cw9
        go_wp2_with fail
        go_roundw
        case rel => exact ⟨k + 1, by omega, by go_num, hfin.1, hs.trans hfin.2⟩
        case measure => simp [intOf]; omega
    · obtain rfl : k = n := by omega
      go_wp2_with fail
      go_ret
      refine ⟨p, rfl, by have := HP.out; omega, hd, f0.trans hs.fr (fun i hi h => ?_), fun i h => ?_⟩
      · have hh := devB_new hb0 h
        have := HP.out; omega
      · rcases hs.foot i h with h | h
        · have hh := devB_new hb0 h
          have := HP.out; omega
        · have := f0.size; omega
end Go.Proofs.Ytnkdlmmdaagonaa
