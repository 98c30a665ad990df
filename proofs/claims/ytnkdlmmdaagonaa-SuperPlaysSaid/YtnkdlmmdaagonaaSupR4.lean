/- The reference's Save of a super block. -/
import Derived.Test.YtnkdlmmdaagonaaDvR7
import Derived.Test.YtnkdlmmdaagonaaSupR1
import Derived.Test.YtnkdlmmdaagonaaSupR3
import Derived.Test.YtnkdlmmdaagonaaSup3
namespace Go.Proofs.Ytnkdlmmdaagonaa
open Go.RowKit
theorem putR_calls (w : World) (v : Value) (r : RefD) (i : Int) (b : ByteArray) (h : RefAt w v r) (hm : r.mask ≤ 18446744073709551615) (hl : r.l.length ≤ 1000000) (hf : r.fuse ≤ 9223372036854775807) :
    Calls Try.prog 25 #[v, .int .i64 i, .string b] w (RefPost w (putR r i b)) := by
  unfold putR
  by_cases hd : r.down = true
  · rw [if_pos hd]; exact putR_stay w v r i b h 15 (.inl ⟨hd, rfl⟩)
  · rw [if_neg hd]
    have hd' : r.down = false := by simpa using hd
    by_cases hi : i < 0 ∨ (r.n : Int) ≤ i
    · rw [if_pos hi]; exact putR_stay w v r i b h 1 (.inr (.inl ⟨hd', hi, rfl⟩))
    · rw [if_neg hi]
      by_cases hb : 128 < b.size
      · rw [if_pos hb]; exact putR_stay w v r i b h 3 (.inr (.inr ⟨hd', hi, hb, rfl⟩))
      · rw [if_neg hb]
        obtain ⟨j, rfl⟩ := Int.eq_ofNat_of_zero_le (show 0 ≤ i by omega)
        exact putR_go w v r j b h hd' (by omega) (by omega) hm hl hf
theorem flushR_calls (w : World) (v : Value) (r : RefD) (h : RefAt w v r) (hm : r.mask ≤ 18446744073709551615) (hl : r.l.length ≤ 1000000) (hf : r.fuse ≤ 9223372036854775807) :
    Calls Try.prog 19 #[v] w (RefPost w (flushR r)) := by
  unfold flushR
  by_cases hd : r.down = true
  · rw [if_pos hd]; exact flushR_down w v r h hd
  · rw [if_neg hd]; exact flushR_go w v r h (by simpa using hd) hm hl hf
def saveR (r : RefD) (s : SuV) : RefD × Nat :=
  if checkS s ≠ 0 then (r, checkS s) else if (putR r (s.seq % 2 : Nat) (mkS (superB s))).2 ≠ 0 then putR r (s.seq % 2 : Nat) (mkS (superB s)) else flushR (putR r (s.seq % 2 : Nat) (mkS (superB s))).1
/-- A device whose row stands apart from a block. -/
def RefV (pb : Nat) (r : RefD) : Stb (Fr (eqB pb)) :=
  ⟨fun v W => ∃ A m c, v = .agg (refC r.n (.slice A m c) r.down r.fuse r.mask) ∧ RefAt W v r ∧ ∀ ad, A = some ad → ad.block ≠ pb,
   fun v W W' ⟨A, m, c, h1, h2, h3⟩ f => ⟨A, m, c, h1, by
     obtain ⟨A', m', c', e, g1, g2, g3, g4, g5, g6⟩ := h2
     rw [h1] at e
     simp only [refC, Value.agg.injEq, Array.mk.injEq, List.cons.injEq, Value.slice.injEq, true_and, and_true] at e
     obtain ⟨rfl, rfl, rfl⟩ := e
     exact ⟨A, m, c, h1, g1.fr f (fun ad e _ _ => h3 ad e), g2, g3, g4, g5, fun ad e => (g6 ad e).imp fun C hC => hC.fr f (h3 ad e)⟩, h3⟩⟩
def RefT (pb : Nat) (q : RefD × Nat) : Stb (Fr (eqB pb)) :=
  ⟨fun v W => ∃ x, v = .tuple #[x, .int .i64 (q.2 : Nat)] ∧ (RefV pb q.1).V x W,
   fun v W W' ⟨x, h1, h2⟩ f => ⟨x, h1, (RefV pb q.1).st _ _ _ h2 f⟩⟩
theorem RefAt.apart {w : World} {v : Value} {r : RefD} {pb : Nat} {C : Array Value} (h : RefAt w v r) (hb : BlkAt w pb 43 C) : (RefV pb r).V v w := by
  obtain ⟨A, m, c, e, g⟩ := id h
  refine ⟨A, m, c, e, h, fun ad ea g9 => ?_⟩
  obtain ⟨C', hC'⟩ := g.2.2.2.2.2 ad ea
  rw [g9] at hC'; unfold BlkAt at hb hC'; rw [hb] at hC'; simp at hC'
/-- The box ahead of and behind its store. -/
def BoxC (pb : Nat) (bx : Array Value) (r : RefD) : Nat → World → Prop
  | 0, W => BlkAt W pb 43 bx
  | 1, W => BlkAt W pb 43 bx
  | _, W => ∃ A m c, BlkAt W pb 43 (refC r.n (.slice A m c) r.down r.fuse r.mask) ∧ RefAt W (.agg (refC r.n (.slice A m c) r.down r.fuse r.mask)) r
theorem BoxC.fr0 {pb : Nat} {bx : Array Value} {r : RefD} {q : Nat} {W W' : World} (h : BoxC pb bx r q W) (f : Fr noB W W') : BoxC pb bx r q W' := by
  match q, h with
  | 0, h => exact BlkAt.fr h f id
  | 1, h => exact BlkAt.fr h f id
  | q + 2, ⟨A, m, c, h1, h2⟩ => exact ⟨A, m, c, h1.fr f id, h2.fr f⟩
theorem BoxC.blk {pb : Nat} {bx : Array Value} {r : RefD} {q : Nat} {W : World} (h : BoxC pb bx r q W) : ∃ C, BlkAt W pb 43 C := by
  match q, h with
  | 0, h => exact ⟨_, h⟩
  | 1, h => exact ⟨_, h⟩
  | q + 2, ⟨A, m, c, h1, h2⟩ => exact ⟨_, h1⟩
theorem BlkAt.setD5 {w : World} {b : Nat} {T : TypeId} {v0 v1 v2 v3 v4 : Value} (h : BlkAt w b T #[v0, v1, v2, v3, v4]) (u0 u1 u2 u3 u4 : Value) : BlkAt (((((w.setCell ⟨b, 0, none⟩ u0).setCell ⟨b, 1, none⟩ u1).setCell ⟨b, 2, none⟩ u2).setCell ⟨b, 3, none⟩ u3).setCell ⟨b, 4, none⟩ u4) b T #[u0, u1, u2, u3, u4] := by
  have := (((((h.set 0 u0).set 1 u1).set 2 u2).set 3 u3).set 4 u4)
  simpa using this
set_option maxRecDepth 100000 in
set_option maxHeartbeats 6400000 in
theorem saveR_calls (w : World) (v : Value) (r : RefD) (s : SuV) (h : RefAt w v r) (hw : s.wf) (hm : r.mask ≤ 18446744073709551615) (hl : r.l.length ≤ 100000) (hf : r.fuse ≤ 9223372036854775807)
    (hp : (putR r (s.seq % 2 : Nat) (mkS (superB s))).1.mask ≤ 18446744073709551615 ∧ (putR r (s.seq % 2 : Nat) (mkS (superB s))).1.l.length ≤ 1000000 ∧ (putR r (s.seq % 2 : Nat) (mkS (superB s))).1.fuse ≤ 9223372036854775807) :
    Calls Try.prog 37 #[v, s.v] w (RefPost w (saveR r s)) := by
  have hck := fun W => checkSR_calls W s
  have htx := fun W => textS_calls W s hw
  have hpu := fun W f => putR_calls W v r (s.seq % 2 : Nat) (mkS (superB s)) (h.fr (w' := W) f) hm (by omega) hf
  have hfl := fun W v' g => flushR_calls W v' (putR r (s.seq % 2 : Nat) (mkS (superB s))).1 g hp.1 hp.2.1 hp.2.2
  have HS : Hid (saveR r s = if checkS s ≠ 0 then (r, checkS s) else if (putR r (s.seq % 2 : Nat) (mkS (superB s))).2 ≠ 0 then putR r (s.seq % 2 : Nat) (mkS (superB s)) else flushR (putR r (s.seq % 2 : Nat) (mkS (superB s))).1) := rfl
  generalize saveR r s = sv at *
  generalize checkS s = cv at *
  have f0 := (((Fr.refl noB w).alloc (.cells (refC r.n (.slice none 0 0) r.down r.fuse r.mask) 43)))
  clear f0
  obtain ⟨A, n, c, rfl, hR⟩ := id h
  have HRES : Hid (Try.f37.results = #[.cell 4 43, .tmp 5]) := by unfold Hid; kernel_rfl
  obtain ⟨q, hq⟩ : ∃ q, putR r (s.seq % 2 : Nat) (mkS (superB s)) = q := ⟨_, rfl⟩
  rw [hq] at hpu hfl HS
  clear hq hp
  obtain ⟨r1, pe⟩ := q
  simp only [] at hfl HS
  obtain ⟨fr, hfr⟩ : ∃ q, flushR r1 = q := ⟨_, rfl⟩
  rw [hfr] at hfl HS
  clear hfr
  generalize superB s = sb at *
  unfold StrPost at htx
  obtain ⟨seq, view, normal, gen, half, slot, base, size, sum⟩ := s
  obtain ⟨N, l, dn, fu, mk⟩ := r
  unfold SuV.v SuV.C refC at *
  simp only [] at *
  obtain ⟨sq, hsq⟩ : ∃ z, seq % 2 = z := ⟨_, rfl⟩
  have hsq2 : ((seq : Int) % 2) = (sq : Nat) := by omega
  have hsq3 : sq < 2 := by omega
  rw [hsq] at hpu
  clear hsq
  have f0 := (((Fr.refl noB w).alloc (.cells #[.int .i64 N, .slice A n c, .bool dn, .int .i64 fu, .int .u64 mk] 43)).alloc (.cells #[.int .u64 seq, .int .u64 view, .int .u64 normal, .int .u64 gen, .int .u8 half, .int .u8 slot, .int .u64 base, .int .u32 size, .int .u32 sum] 64)).alloc (.cells #[.int .i64 0, .slice none 0 0, .bool false, .int .i64 0, .int .u64 0] 43)
  have b0 := ((BlkAt.new w #[.int .i64 N, .slice A n c, .bool dn, .int .i64 fu, .int .u64 mk] 43).al (.cells #[.int .u64 seq, .int .u64 view, .int .u64 normal, .int .u64 gen, .int .u8 half, .int .u8 slot, .int .u64 base, .int .u32 size, .int .u32 sum] 64)).al (.cells #[.int .i64 0, .slice none 0 0, .bool false, .int .i64 0, .int .u64 0] 43)
  have b1 := (BlkAt.new (w.alloc (.cells #[.int .i64 N, .slice A n c, .bool dn, .int .i64 fu, .int .u64 mk] 43)) #[.int .u64 seq, .int .u64 view, .int .u64 normal, .int .u64 gen, .int .u8 half, .int .u8 slot, .int .u64 base, .int .u32 size, .int .u32 sum] 64).al (.cells #[.int .i64 0, .slice none 0 0, .bool false, .int .i64 0, .int .u64 0] 43)
  have b2 := BlkAt.new ((w.alloc (.cells #[.int .i64 N, .slice A n c, .bool dn, .int .i64 fu, .int .u64 mk] 43)).alloc (.cells #[.int .u64 seq, .int .u64 view, .int .u64 normal, .int .u64 gen, .int .u8 half, .int .u8 slot, .int .u64 base, .int .u32 size, .int .u32 sum] 64)) #[.int .i64 0, .slice none 0 0, .bool false, .int .i64 0, .int .u64 0] 43
  simp only [al_size] at b1 b2
  go_enter Try.func37, Try.ntmps37
  go_upto_region 1 with fail
  generalize (((w.alloc (.cells #[.int .i64 N, .slice A n c, .bool dn, .int .i64 fu, .int .u64 mk] 43)).alloc (.cells #[.int .u64 seq, .int .u64 view, .int .u64 normal, .int .u64 gen, .int .u8 half, .int .u8 slot, .int .u64 base, .int .u32 size, .int .u32 sum] 64)).alloc (.cells #[.int .i64 0, .slice none 0 0, .bool false, .int .i64 0, .int .u64 0] 43)) = wa at *
  obtain ⟨y0, y1, y2, y3, y4, y5, y6, y7, y8, yf⟩ := BlkAt.c9 b1
  go_wp2_with fail
  refine (hck wa).mono ?_
  rintro ed w1 ⟨rfl, f1⟩
  have F1 := f0.then' f1
  replace b0 := b0.fr f1 id
  replace b1 := b1.fr f1 id
  replace b2 := b2.fr f1 id
  clear hck f0 f1 y0 y1 y2 y3 y4 y5 y6 y7 y8 yf
  by_cases hc : cv = 0
  · subst hc
    rw [if_neg (by decide)] at HS
    rw [show ((0 : Nat) : Int) = 0 from rfl]
    go_wp2_with fail
    apply wp_region_calmL (R := Fr (eqB w.heap.size)) (C := fun q W => Fr noB w W ∧ BoxC w.heap.size #[.int .i64 N, .slice A n c, .bool dn, .int .i64 fu, .int .u64 mk] r1 q W ∧ BlkAt W (w.heap.size + 1) 64 #[.int .u64 seq, .int .u64 view, .int .u64 normal, .int .u64 gen, .int .u8 half, .int .u8 slot, .int .u64 base, .int .u32 size, .int .u32 sum] ∧ BlkAt W (w.heap.size + 1 + 1) 43 #[.int .i64 0, .slice none 0 0, .bool false, .int .i64 0, .int .u64 0]) [true, false, false, false, false, false, false, false, false, false, false, true, false] [0, 0, 0, 0, 0, 0, 0, 1, 1, 1, 1, 1, 2]
      [eqv (.agg #[.int .i64 N, .slice A n c, .bool dn, .int .i64 fu, .int .u64 mk]), eqv _, eqv (.int .u64 seq), eqv (.int .u64 sq), eqv (.int .i64 sq), eqv (.agg #[.int .u64 seq, .int .u64 view, .int .u64 normal, .int .u64 gen, .int .u8 half, .int .u8 slot, .int .u64 base, .int .u32 size, .int .u32 sum]), eqv (.string (mkS sb)), RefT w.heap.size (r1, pe), RefT w.heap.size (r1, pe), RefV w.heap.size r1, eqv (.int .i64 pe), anyv, eqv (.int .i64 pe)]
      (by kernel_rfl) (by kernel_rfl) (fun _ _ _ h1 h2 => h1.then' h2) ((Fr.refl _ _).drew) ⟨F1.then' ((Fr.refl noB w1).drew), b0, b1, b2⟩ (by kernel_rfl)
    · refine ⟨?_, ?_, ?_, ?_, ?_, ?_, ?_, ?_, ?_, ?_, ?_, ?_, ?_, trivial⟩
      · rw [if_pos (by decide)]
        intro a W K hC hd hK
        replace hC : (fun q W => Fr noB w W ∧ BoxC w.heap.size #[.int .i64 N, .slice A n c, .bool dn, .int .i64 fu, .int .u64 mk] r1 q W ∧ BlkAt W (w.heap.size + 1) 64 #[.int .u64 seq, .int .u64 view, .int .u64 normal, .int .u64 gen, .int .u8 half, .int .u8 slot, .int .u64 base, .int .u32 size, .int .u32 sum] ∧ BlkAt W (w.heap.size + 1 + 1) 43 #[.int .i64 0, .slice none 0 0, .bool false, .int .i64 0, .int .u64 0]) 0 W := hC
        have d2 : a.tmps[2]?.getD undef = .pointer (some ⟨w.heap.size, 0, none⟩) := hd 2 (by decide)
        refine wpOp_plain rfl rfl ?_
        obtain ⟨y0, y1, y2, y3, y4, y5, y6, y7, y8, yf⟩ := BlkAt.c9 hC.2.2.1
        have hb : BlkAt W w.heap.size 43 #[.int .i64 N, .slice A n c, .bool dn, .int .i64 fu, .int .u64 mk] := hC.2.1
        obtain ⟨x0, x1, x2, x3, x4, xf⟩ := BlkAt.c5 hb
        go_wp2_with fail
        exact hK _ _ (Fr.refl _ _) hC rfl
      · rw [if_neg (by decide)]; intro kq
        intro a W K hC hd hK
        have d3 : a.tmps[3]?.getD undef = .pointer (some ⟨w.heap.size + 1, 0, none⟩) := hd 3 (by decide)
        refine wpOp_plain rfl rfl ?_
        obtain ⟨y0, y1, y2, y3, y4, y5, y6, y7, y8, yf⟩ := BlkAt.c9 hC.2.2.1
        go_wp2_with fail
        exact hK _ _ (Fr.refl _ _) hC rfl
      · rw [if_neg (by decide)]; intro kq
        intro a W K hC hd hK
        have d16 : _ = _ := hd 16 (by decide)
        refine wpOp_plain rfl rfl ?_
        obtain ⟨y0, y1, y2, y3, y4, y5, y6, y7, y8, yf⟩ := BlkAt.c9 hC.2.2.1
        go_wp2_with fail
        exact hK _ _ (Fr.refl _ _) hC rfl
      · rw [if_neg (by decide)]; intro kq
        intro a W K hC hd hK
        have d17 : a.tmps[17]?.getD undef = .int .u64 seq := hd 17 (by decide)
        refine wpOp_plain rfl rfl ?_
        go_wp2_with fail
        exact hK _ _ (Fr.refl _ _) hC rfl
      · rw [if_neg (by decide)]; intro kq
        intro a W K hC hd hK
        have d18 : a.tmps[18]?.getD undef = .int .u64 sq := hd 18 (by decide)
        refine wpOp_plain rfl rfl ?_
        go_wp2_with fail
        exact hK _ _ (Fr.refl _ _) hC rfl
      · rw [if_neg (by decide)]; intro kq
        intro a W K hC hd hK
        have d3 : a.tmps[3]?.getD undef = .pointer (some ⟨w.heap.size + 1, 0, none⟩) := hd 3 (by decide)
        refine wpOp_plain rfl rfl ?_
        obtain ⟨y0, y1, y2, y3, y4, y5, y6, y7, y8, yf⟩ := BlkAt.c9 hC.2.2.1
        go_wp2_with fail
        exact hK _ _ (Fr.refl _ _) hC rfl
      · rw [if_neg (by decide)]; intro kq
        intro a W K hC hd hK
        have d20 : a.tmps[20]?.getD undef = .agg #[.int .u64 seq, .int .u64 view, .int .u64 normal, .int .u64 gen, .int .u8 half, .int .u8 slot, .int .u64 base, .int .u32 size, .int .u32 sum] := hd 20 (by decide)
        refine wpOp_plain rfl rfl ?_
        obtain ⟨y0, y1, y2, y3, y4, y5, y6, y7, y8, yf⟩ := BlkAt.c9 hC.2.2.1
        go_wp2_with fail
        refine (htx W).mono ?_
        rintro e9 w9 ⟨rfl, f9⟩
        exact hK _ _ (f9.mono fun _ _ h => h.elim) ⟨hC.1.then' f9, hC.2.1.fr0 f9, hC.2.2.1.fr f9 id, hC.2.2.2.fr f9 id⟩ rfl
      · rw [if_neg (by decide)]; intro kq
        intro a W K hC hd hK
        have d15 : a.tmps[15]?.getD undef = .agg #[.int .i64 N, .slice A n c, .bool dn, .int .i64 fu, .int .u64 mk] := hd 15 (by decide)
        have d19 : a.tmps[19]?.getD undef = .int .i64 sq := hd 19 (by decide)
        have d21 : a.tmps[21]?.getD undef = .string (mkS sb) := hd 21 (by decide)
        refine wpOp_plain rfl rfl ?_
        obtain ⟨y0, y1, y2, y3, y4, y5, y6, y7, y8, yf⟩ := BlkAt.c9 hC.2.2.1
        go_wp2_with fail
        refine (hpu W hC.1).mono ?_
        rintro e9 w9 ⟨v9, rfl, h9, f9⟩
        have B9 := hC.2.1.fr0 f9
        obtain ⟨C9, hC9⟩ := B9.blk
        exact hK _ _ (f9.mono fun _ _ h => h.elim) ⟨hC.1.then' f9, B9, hC.2.2.1.fr f9 id, hC.2.2.2.fr f9 id⟩ ⟨v9, rfl, h9.apart hC9⟩
      · rw [if_neg (by decide)]; intro kq
        exact calm_mv 22 rfl rfl (Or.inl rfl) (Fr.refl _) (by decide) fun v w hd => hd
      · rw [if_neg (by decide)]; intro kq
        intro a W K hC hd hK
        have d14 : (RefT w.heap.size (r1, pe)).V (a.tmps[14]?.getD undef) W := hd 14 (by decide)
        refine wpOp_plain rfl rfl ?_
        obtain ⟨x9, e14, hx⟩ := d14
        go_wp2_with fail
        exact hK _ _ (Fr.refl _ _) hC hx
      · rw [if_neg (by decide)]; intro kq
        intro a W K hC hd hK
        have d14 : (RefT w.heap.size (r1, pe)).V (a.tmps[14]?.getD undef) W := hd 14 (by decide)
        refine wpOp_plain rfl rfl ?_
        obtain ⟨x9, e14, hx⟩ := d14
        go_wp2_with fail
        exact hK _ _ (Fr.refl _ _) hC rfl
      · rw [if_pos (by decide)]
        intro a W K hC hd hK
        replace hC : (fun q W => Fr noB w W ∧ BoxC w.heap.size #[.int .i64 N, .slice A n c, .bool dn, .int .i64 fu, .int .u64 mk] r1 q W ∧ BlkAt W (w.heap.size + 1) 64 #[.int .u64 seq, .int .u64 view, .int .u64 normal, .int .u64 gen, .int .u8 half, .int .u8 slot, .int .u64 base, .int .u32 size, .int .u32 sum] ∧ BlkAt W (w.heap.size + 1 + 1) 43 #[.int .i64 0, .slice none 0 0, .bool false, .int .i64 0, .int .u64 0]) 1 W := hC
        have d2 : a.tmps[2]?.getD undef = .pointer (some ⟨w.heap.size, 0, none⟩) := hd 2 (by decide)
        have d23 : (RefV w.heap.size r1).V (a.tmps[23]?.getD undef) W := hd 23 (by decide)
        refine wpOp_plain rfl rfl ?_
        obtain ⟨y0, y1, y2, y3, y4, y5, y6, y7, y8, yf⟩ := BlkAt.c9 hC.2.2.1
        have hb : BlkAt W w.heap.size 43 #[.int .i64 N, .slice A n c, .bool dn, .int .i64 fu, .int .u64 mk] := hC.2.1
        obtain ⟨x0, x1, x2, x3, x4, xf⟩ := BlkAt.c5 hb
        have d23c := id d23
        obtain ⟨A9, n9, c9, e23, hra, hne⟩ := d23
        have fs := fr_setD5 W w.heap.size (.int .i64 r1.n) (.slice A9 n9 c9) (.bool r1.down) (.int .i64 r1.fuse) (.int .u64 r1.mask)
        have hs := hb.setD5 (.int .i64 r1.n) (.slice A9 n9 c9) (.bool r1.down) (.int .i64 r1.fuse) (.int .u64 r1.mask)
        obtain ⟨A8, n8, c8, e8, hra8, -⟩ := (RefV w.heap.size r1).st _ _ _ d23c fs
        rw [e23] at hra8
        have HRA := hid hra8
        clear hra8 e8 d23c hra
        unfold refC at e23
        go_wp2_with fail
        exact hK undef _ fs ⟨hC.1.trans fs (fun i hi h => by unfold eqB at h; omega), ⟨A9, n9, c9, hs, HRA.out⟩, hC.2.2.1.fr fs (fun h => by unfold eqB at h; omega), hC.2.2.2.fr fs (fun h => by unfold eqB at h; omega)⟩ trivial
      · rw [if_neg (by decide)]; intro kq
        exact calm_mv 24 rfl rfl (Or.inr rfl) (Fr.refl _) (by decide) fun v w hd => hd
    · intro vs w2 fw2 cw2 hV
      have v7 : vs 12 = .int .i64 pe := hV 12 _ _ rfl rfl (by decide)
      clear hV
      simp only [putL, Act.put, Nat.reduceAdd, List.setIfInBounds_toArray, List.set_cons_zero, List.set_cons_succ, v7]
      obtain ⟨F2, hbx, b1', b2'⟩ := cw2
      obtain ⟨A2, n2, c2, hb2, hR2⟩ : ∃ A m c, BlkAt w2 w.heap.size 43 (refC r1.n (.slice A m c) r1.down r1.fuse r1.mask) ∧ RefAt w2 (.agg (refC r1.n (.slice A m c) r1.down r1.fuse r1.mask)) r1 := hbx
      have hfl2 := hfl w2 _ hR2
      unfold refC at hb2 hfl2 hR2
      obtain ⟨x0, x1, x2, x3, x4, xf⟩ := BlkAt.c5 hb2
      by_cases hp0 : pe = 0
      · subst hp0
        rw [if_neg (by decide)] at HS
        rw [show ((0 : Nat) : Int) = 0 from rfl]
        clear fw2 b0 b1 b2 F1 hfl
        go_wp2_with fail
        refine hfl2.mono ?_
        obtain ⟨⟨N3, l3, dn3, fu3, mk3⟩, fe⟩ := fr
        rintro ed w3 ⟨v3, rfl, hR3, f3⟩
        have F3 := F2.then' f3
        replace b2' := b2'.fr f3 id
        obtain ⟨A3, n3, c3, rfl, hR3'⟩ := id hR3
        unfold refC at *
        simp only [] at *
        obtain ⟨y0, y1, y2, y3, y4, yf⟩ := BlkAt.c5 b2'
        have fz := fr_setD5 w3 (w.heap.size + 1 + 1) (.int .i64 N3) (.slice A3 n3 c3) (.bool dn3) (.int .i64 fu3) (.int .u64 mk3)
        have FF := F3.trans fz (fun i hi h => by unfold eqB at h; omega)
        have HRF := hid (hR3.frD b2' fz)
        clear hR3 hR3'
        go_wp2_with fail
        have hr := HRES.out
        exact bodyPost_ret (v := .tuple #[.agg #[.int .i64 N3, .slice A3 n3 c3, .bool dn3, .int .i64 fu3, .int .u64 mk3], .int .i64 fe]) (by simp [results, hr, go_sem, y0, y1, y2, y3, y4]) rfl ⟨_, by rw [HS.out], by rw [HS.out]; exact HRF.out, FF⟩
      · rw [if_pos hp0] at HS
        have t2 : ((pe : Int) != 0) = true := by rw [bne_iff_ne]; omega
        obtain ⟨y0, y1, y2, y3, y4, yf⟩ := BlkAt.c5 b2'
        have fz := fr_setD5 w2 (w.heap.size + 1 + 1) (.int .i64 r1.n) (.slice A2 n2 c2) (.bool r1.down) (.int .i64 r1.fuse) (.int .u64 r1.mask)
        have FF := F2.trans fz (fun i hi h => by unfold eqB at h; omega)
        have HRF := hid (hR2.frD b2' fz)
        clear hR2 hp0
        go_wp2_with fail
        have hr := HRES.out
        exact bodyPost_ret (v := .tuple #[.agg #[.int .i64 r1.n, .slice A2 n2 c2, .bool r1.down, .int .i64 r1.fuse, .int .u64 r1.mask], .int .i64 pe]) (by simp [results, hr, go_sem, y0, y1, y2, y3, y4]) rfl ⟨_, by rw [HS.out], by rw [HS.out]; exact HRF.out, FF⟩
  · rw [if_pos hc] at HS
    have t2 : ((cv : Int) != 0) = true := by rw [bne_iff_ne]; omega
    obtain ⟨x0, x1, x2, x3, x4, xf⟩ := BlkAt.c5 b0
    obtain ⟨y0, y1, y2, y3, y4, yf⟩ := BlkAt.c5 b2
    have fy := fr_setD5 w1 (w.heap.size + 1 + 1) (.int .i64 N) (.slice A n c) (.bool dn) (.int .i64 fu) (.int .u64 mk)
    have FF := F1.trans fy (fun i hi h => by unfold eqB at h; omega)
    have HRF := hid (h.fr FF)
    clear hc
    go_wp2_with fail
    have hr := HRES.out
    exact bodyPost_ret (v := .tuple #[.agg #[.int .i64 N, .slice A n c, .bool dn, .int .i64 fu, .int .u64 mk], .int .i64 cv]) (by simp [results, hr, go_sem, y0, y1, y2, y3, y4]) rfl ⟨_, by rw [HS.out], by rw [HS.out]; exact HRF.out, FF⟩
end Go.Proofs.Ytnkdlmmdaagonaa
