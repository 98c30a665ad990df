/- interrexlaw01.put, the last kinds, and all. -/
import Derived.Test.YtcpcmcdfncjnaaaPut
namespace Go.Proofs.Ytcpcmcdfncjnaaa
open Go.RowKit

set_option maxRecDepth 100000 in
set_option maxHeartbeats 3200000 in
theorem put7 (w : World) (S : Nat → Prop) (p : Nat) (bs : List UInt8) (i : Item) (h : WrAt w S p bs) (hx : i.x ≤ 18446744073709551615) (hl : bs.length ≤ 1000000)
   (hL : RowAt w i.LA (strs i.L)) (hok : i.ok = true) (hc : i.L.length ≤ i.Lc) (hS : 0 < i.L.length → ∀ a, i.LA = some a → a.block < w.heap.size → ¬ S a.block) (hk : i.k % 9 = 7) :
    Calls Try.prog 27 #[.pointer (some ⟨p, 0, none⟩), .agg i.cells.toArray] w (PutPost w S p bs i.bytes) := by
  have HB : Hid (i.bytes = i.s.data.toList) := by unfold Hid Item.bytes; simp only [hk]
  obtain ⟨k, x, is, s, LA, Lc, L, most, long, ee⟩ := i
  simp only [Item.cells, Item.ok, Bool.and_eq_true, decide_eq_true_eq, List.all_eq_true] at *
  obtain ⟨⟨hs100, hL10⟩, hL50⟩ := hok
  have hsz : ∀ t ∈ L, t.size ≤ 65535 := fun t ht => by have := hL50 t ht; omega
  have hsum : sumSz L ≤ 520 := sumSz_50 hL10 hL50
  have hbox : ∀ W, Fr (andNew (cutB S w) (w.alloc (.cells #[.int .u8 k, .int .u64 x, .bool is, .string s, .slice LA L.length Lc, .int .i64 most, .int .i64 long, .int .i64 ee] 27))) (w.alloc (.cells #[.int .u8 k, .int .u64 x, .bool is, .string s, .slice LA L.length Lc, .int .i64 most, .int .i64 long, .int .i64 ee] 27)) W →
      SegAt W ⟨w.heap.size, 0, none⟩ [.int .u8 k, .int .u64 x, .bool is, .string s, .slice LA L.length Lc, .int .i64 most, .int .i64 long, .int .i64 ee] := fun W f j u hu => by
    refine f.cell ((new_row w #[.int .u8 k, .int .u64 x, .bool is, .string s, .slice LA L.length Lc, .int .i64 most, .int .i64 long, .int .i64 ee] _).cell hu) ?_
    rw [add_block]
    rintro (⟨_, h⟩ | h)
    · exact Nat.lt_irrefl _ h
    · simp at h
      omega
  have hrow : ∀ W, Fr (andNew (cutB S w) (w.alloc (.cells #[.int .u8 k, .int .u64 x, .bool is, .string s, .slice LA L.length Lc, .int .i64 most, .int .i64 long, .int .i64 ee] 27))) (w.alloc (.cells #[.int .u8 k, .int .u64 x, .bool is, .string s, .slice LA L.length Lc, .int .i64 most, .int .i64 long, .int .i64 ee] 27)) W → RowAt W LA (strs L) := fun W f =>
    (hL.fr0 ((Fr.refl noB _).alloc _)).fr f (fun a e h0 hb => by
      rintro (⟨h1, h2⟩ | h)
      · exact hS (by simpa [strs] using h0) a e h2 h1
      · omega)
  have hdis : ∀ W, Fr (andNew (cutB S w) (w.alloc (.cells #[.int .u8 k, .int .u64 x, .bool is, .string s, .slice LA L.length Lc, .int .i64 most, .int .i64 long, .int .i64 ee] 27))) (w.alloc (.cells #[.int .u8 k, .int .u64 x, .bool is, .string s, .slice LA L.length Lc, .int .i64 most, .int .i64 long, .int .i64 ee] 27)) W → 0 < L.length → ∀ a, LA = some a → ¬ andNew (cutB S w) (w.alloc (.cells #[.int .u8 k, .int .u64 x, .bool is, .string s, .slice LA L.length Lc, .int .i64 most, .int .i64 long, .int .i64 ee] 27)) a.block := fun W f h0 a e => by
    subst e
    have h3 := hL.lt (by simpa [strs] using h0)
    rintro (⟨h1, h2⟩ | h)
    · exact hS h0 a rfl h3 h1
    · simp at h; omega
  have hw0 : WrAt (w.alloc (.cells #[.int .u8 k, .int .u64 x, .bool is, .string s, .slice LA L.length Lc, .int .i64 most, .int .i64 long, .int .i64 ee] 27)) (andNew (cutB S w) (w.alloc (.cells #[.int .u8 k, .int .u64 x, .bool is, .string s, .slice LA L.length Lc, .int .i64 most, .int .i64 long, .int .i64 ee] 27))) p bs := (h.cut.fr ((Fr.refl noB _).alloc _) (fun _ _ _ => id)).mono fun _ _ h => Or.inl h
  have hfin : ∀ W xs, WrAt W (andNew (cutB S w) (w.alloc (.cells #[.int .u8 k, .int .u64 x, .bool is, .string s, .slice LA L.length Lc, .int .i64 most, .int .i64 long, .int .i64 ee] 27))) p (bs ++ xs) → Fr (andNew (cutB S w) (w.alloc (.cells #[.int .u8 k, .int .u64 x, .bool is, .string s, .slice LA L.length Lc, .int .i64 most, .int .i64 long, .int .i64 ee] 27))) (w.alloc (.cells #[.int .u8 k, .int .u64 x, .bool is, .string s, .slice LA L.length Lc, .int .i64 most, .int .i64 long, .int .i64 ee] 27)) W →
      WrAt W (andNew S w) p (bs ++ xs) ∧ Fr S w W := fun W xs h1 f => ⟨h1.mono fun i _ hi => hi.elim (fun q => Or.inl q.1) fun q => Or.inr (by simp at q; omega),
        (((Fr.refl S w).alloc _).trans f fun i hi h => h.elim (fun q => q.1) fun q => absurd q (by simp; omega))⟩
  have t0 : ((k : Int) % 9 == 0) = false := by simp; omega
  have t1 : ((k : Int) % 9 == 1) = false := by simp; omega
  have t2 : ((k : Int) % 9 == 2) = false := by simp; omega
  have t3 : ((k : Int) % 9 == 3) = false := by simp; omega
  have t4 : ((k : Int) % 9 == 4) = false := by simp; omega
  have t5 : ((k : Int) % 9 == 5) = false := by simp; omega
  have t6 : ((k : Int) % 9 == 6) = false := by simp; omega
  have t7 : ((k : Int) % 9 == 7) = true := by simp; omega
  have HK := hid hk; clear hk
  go_enter Try.func27, Try.ntmps27
  go_wp2_with fail
  have zb : (w.alloc (.cells #[.int .u8 k, .int .u64 x, .bool is, .string s, .slice LA L.length Lc, .int .i64 most, .int .i64 long, .int .i64 ee] 27)).heap.size = w.heap.size + 1 := by simp
  generalize w.alloc (.cells #[.int .u8 k, .int .u64 x, .bool is, .string s, .slice LA L.length Lc, .int .i64 most, .int .i64 long, .int .i64 ee] 27) = wa at *
  have HU : ∃ U, U = andNew (cutB S w) wa := ⟨_, rfl⟩
  obtain ⟨U, hU⟩ := HU
  refine wp_region_calm (R := Fr U) (C := fun k W => PutC U wa p bs s.data.toList k W ∧ RawC wa s.data.toList k W) [false, false, false, false, true, false, false, false, false]
    [eqv (.pointer (some ⟨p, 0, none⟩)), eqv (.pointer (some ⟨w.heap.size, 3, none⟩)), eqv (.string s), RowIn wa s.size (Fr U) (fun _ _ f => f.size), eqv (.pointer (some ⟨p, 0, none⟩)), eqv (.pointer (some ⟨w.heap.size, 3, none⟩)), eqv (.string s), eqv (.pointer (some ⟨p, 0, none⟩)), eqv (.string s)]
    (by kernel_rfl) (by kernel_rfl) (fun _ _ _ h1 h2 => h1.then' h2) ((Fr.refl _ _).drew) ⟨⟨(hU ▸ hw0.drew), (Fr.refl _ _).drew⟩, fun _ g h1 h2 => absurd h1 (Nat.not_le.2 h2)⟩ (by kernel_rfl) ?_ ?_
  · refine ⟨?_, ?_, ?_, ?_, ?_, ?_, ?_, ?_, ?_, trivial⟩
    · rw [if_neg (by decide)]; intro kq
      exact calm_mv 0 rfl rfl (Or.inl rfl) (Fr.refl _) (by decide) fun v w hd => hd
    · rw [if_neg (by decide)]; intro kq
      intro a W K hC hd hK
      have d3 : a.tmps[3]?.getD undef = .pointer (some ⟨w.heap.size, 0, none⟩) := hd 3 (by decide)
      refine wpOp_plain rfl rfl ?_
      go_wp2_with fail
      exact hK _ _ (Fr.refl _ _) hC rfl
    · rw [if_neg (by decide)]; intro kq
      intro a W K hC hd hK
      have d78 : a.tmps[78]?.getD undef = .pointer (some ⟨w.heap.size, 3, none⟩) := hd 78 (by decide)
      obtain ⟨b0, b1, b2, b3, b4, b5, b6, b7⟩ := (hbox W (hU ▸ hC.1.2)).c8z
      refine wpOp_plain rfl rfl ?_
      go_wp2_with fail
      exact hK _ _ (Fr.refl _ _) hC rfl
    · rw [if_neg (by decide)]; intro kq
      intro a W K hC hd hK
      have d79 : a.tmps[79]?.getD undef = .string s := hd 79 (by decide)
      refine wpOp_plain rfl rfl ?_
      have hcv := Try.fromStr W s
      go_wp2_with fail
      exact hK _ _ ((bytesW_fr W s).mono fun _ _ h => h.elim) ⟨hC.1.ref (bytesW_fr W s), hC.2.bytes⟩ ⟨_, _, rfl, by have := hC.1.2.size; simpa using this, by rw [Lib.bytesWorld_size]; exact Nat.lt_succ_self _⟩
    · rw [if_pos (by decide)]
      intro a W K hC hd hK
      replace hC : (fun k W => PutC U wa p bs s.data.toList k W ∧ RawC wa s.data.toList k W) 0 W := hC
      have d77 : a.tmps[77]?.getD undef = .pointer (some ⟨p, 0, none⟩) := hd 77 (by decide)
      have d80 : (RowIn wa s.size (Fr U) (fun _ _ f => f.size)).V (a.tmps[80]?.getD undef) W := hd 80 (by decide)
      refine wpOp_plain rfl rfl ?_
      obtain ⟨g, c, e80, h1g, h2g⟩ := d80
      go_wp2_with fail
      refine (raw_calls W U p bs (some ⟨g, 0, none⟩) s.size c s.data.toList hC.1.1 (hC.2 rfl g h1g h2g) (by simp) (fun e => by cases e) (by omega)).mono ?_
      rintro e w' ⟨rfl, h1, f1⟩
      subst hU
      exact hK _ _ f1 ⟨PutC.wr hC.1 h1 f1, fun h => by cases h⟩ rfl
    · rw [if_neg (by decide)]; intro kq
      intro a W K hC hd hK
      have d3 : a.tmps[3]?.getD undef = .pointer (some ⟨w.heap.size, 0, none⟩) := hd 3 (by decide)
      refine wpOp_plain rfl rfl ?_
      go_wp2_with fail
      exact hK _ _ (Fr.refl _ _) hC rfl
    · rw [if_neg (by decide)]; intro kq
      intro a W K hC hd hK
      have d82 : a.tmps[82]?.getD undef = .pointer (some ⟨w.heap.size, 3, none⟩) := hd 82 (by decide)
      obtain ⟨b0, b1, b2, b3, b4, b5, b6, b7⟩ := (hbox W (hU ▸ hC.1.2)).c8z
      refine wpOp_plain rfl rfl ?_
      go_wp2_with fail
      exact hK _ _ (Fr.refl _ _) hC rfl
    · rw [if_neg (by decide)]; intro kq
      exact calm_mv 81 rfl rfl (Or.inr rfl) (Fr.refl _) (by decide) fun v w hd => hd
    · rw [if_neg (by decide)]; intro kq
      exact calm_mv 83 rfl rfl (Or.inr rfl) (Fr.refl _) (by decide) fun v w hd => hd
  · intro vs w9 fw9 cw9 hV
    have v4 : vs 7 = .pointer (some ⟨p, 0, none⟩) := hV 7 _ _ rfl rfl (by decide)
    have v5 : vs 8 = .string s := hV 8 _ _ rfl rfl (by decide)
    clear hV
    simp only [putL, Act.put, Nat.reduceAdd, List.setIfInBounds_toArray, List.set_cons_zero, List.set_cons_succ, v4, v5]
    subst hU
    go_wp2_with fail
    go_ret2
    obtain ⟨r1, r2⟩ := hfin w9 _ cw9.1.1 fw9
    rw [← HB.out] at r1
    exact ⟨by rw [HB.out, mkS_of]; rfl, r1, r2⟩

set_option maxRecDepth 100000 in
set_option maxHeartbeats 3200000 in
theorem put8 (w : World) (S : Nat → Prop) (p : Nat) (bs : List UInt8) (i : Item) (h : WrAt w S p bs) (hk : i.k % 9 = 8) :
    Calls Try.prog 27 #[.pointer (some ⟨p, 0, none⟩), .agg i.cells.toArray] w (PutPost w S p bs i.bytes) := by
  have HB : Hid (i.bytes = []) := by unfold Hid Item.bytes; simp only [hk]
  obtain ⟨k, x, is, s, LA, Lc, L, most, long, ee⟩ := i
  simp only [Item.cells] at *
  have t0 : ((k : Int) % 9 == 0) = false := by simp; omega
  have t1 : ((k : Int) % 9 == 1) = false := by simp; omega
  have t2 : ((k : Int) % 9 == 2) = false := by simp; omega
  have t3 : ((k : Int) % 9 == 3) = false := by simp; omega
  have t4 : ((k : Int) % 9 == 4) = false := by simp; omega
  have t5 : ((k : Int) % 9 == 5) = false := by simp; omega
  have t6 : ((k : Int) % 9 == 6) = false := by simp; omega
  have t7 : ((k : Int) % 9 == 7) = false := by simp; omega
  have HK := hid hk; clear hk
  go_enter Try.func27, Try.ntmps27
  go_wp2_with fail
  go_ret2
  refine ⟨by rw [HB.out]; rfl, ?_, (Fr.refl _ _).alloc _⟩
  rw [HB.out, List.append_nil]
  exact (h.fr ((Fr.refl noB _).alloc _) (fun _ _ _ => id)).mono fun _ _ h => Or.inl h

theorem put_calls (w : World) (S : Nat → Prop) (p : Nat) (bs : List UInt8) (i : Item) (h : WrAt w S p bs) (hx : i.x ≤ 18446744073709551615) (hl : bs.length ≤ 1000000)
   (hL : RowAt w i.LA (strs i.L)) (hok : i.ok = true) (hc : i.L.length ≤ i.Lc) (hS : 0 < i.L.length → ∀ a, i.LA = some a → a.block < w.heap.size → ¬ S a.block) :
    Calls Try.prog 27 #[.pointer (some ⟨p, 0, none⟩), .agg i.cells.toArray] w (PutPost w S p bs i.bytes) := by
  have h9 : i.k % 9 < 9 := Nat.mod_lt _ (by decide)
  rcases (show i.k % 9 = 0 ∨ i.k % 9 = 1 ∨ i.k % 9 = 2 ∨ i.k % 9 = 3 ∨ i.k % 9 = 4 ∨ i.k % 9 = 5 ∨ i.k % 9 = 6 ∨ i.k % 9 = 7 ∨ i.k % 9 = 8 from by omega) with e | e | e | e | e | e | e | e | e
  · exact put0 w S p bs i h hx hl hL hok hc hS e
  · exact put1 w S p bs i h hx hl hL hok hc hS e
  · exact put2 w S p bs i h hx hl hL hok hc hS e
  · exact put3 w S p bs i h hx hl hL hok hc hS e
  · exact put4 w S p bs i h hx hl hL hok hc hS e
  · exact put5 w S p bs i h hx hl hL hok hc hS e
  · exact put6 w S p bs i h hx hl hL hok hc hS e
  · exact put7 w S p bs i h hx hl hL hok hc hS e
  · exact put8 w S p bs i h e
end Go.Proofs.Ytcpcmcdfncjnaaa
