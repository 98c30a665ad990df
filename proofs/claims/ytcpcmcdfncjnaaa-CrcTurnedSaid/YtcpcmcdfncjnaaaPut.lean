/- interrexlaw01.put: an item is written, by both. -/
import Derived.Test.YtcpcmcdfncjnaaaRef1
import Derived.Test.YtcpcmcdfncjnaaaFew
import Derived.Test.YtcpcmcdfncjnaaaCalm
import Derived.Deep.RegionHeld3
namespace Go.Proofs.Ytcpcmcdfncjnaaa
open Go.RowKit

/-- An item's bytes. -/
def Item.bytes (i : Item) : List UInt8 :=
  match i.k % 9 with
  | 0 => leB 1 i.x
  | 1 => leB 2 i.x
  | 2 => leB 4 i.x
  | 3 => leB 8 i.x
  | 4 => leB 1 (if i.is then 1 else 0)
  | 5 => textB i.s
  | 6 => rowB i.L
  | 7 => i.s.data.toList
  | _ => []

theorem leB_mod (n x : Nat) : leB n (x % 256 ^ n) = leB n x := by
  induction n generalizing x with
  | zero => rfl
  | succ n ih =>
    have h1 : UInt8.ofNat (x % 256 ^ (n + 1)) = UInt8.ofNat x := by
      apply UInt8.toNat_inj.1
      simp only [UInt8.toNat_ofNat']
      rw [Nat.pow_succ, Nat.mul_comm, Nat.mod_mul_right_mod]
    have h2 : x % 256 ^ (n + 1) / 256 = (x / 256) % 256 ^ n := by
      rw [Nat.pow_succ, Nat.mul_comm, Nat.mod_mul_right_div_self]
    simp only [leB]
    rw [h1, h2, ih]

theorem u16_wrap (x : Nat) : IntKind.u16.wrap (x : Int) = ((x % 65536 : Nat) : Int) := by simp [IntKind.wrap, IntKind.signed, IntKind.bits]
def PutPost (w : World) (S : Nat → Prop) (p : Nat) (bs xs : List UInt8) (e : Ending) (w' : World) : Prop :=
  e = .returned (.tuple #[.pointer (some ⟨p, 0, none⟩), .string (mkS xs)]) ∧ WrAt w' (andNew S w) p (bs ++ xs) ∧ Fr S w w'

/-- The blocks of S that are there. -/
def cutB (S : Nat → Prop) (w : World) : Nat → Prop := fun k => S k ∧ k < w.heap.size
theorem WrAt.cut {w : World} {S : Nat → Prop} {p : Nat} {bs : List UInt8} (h : WrAt w S p bs) : WrAt w (cutB S w) p bs := h.mono fun _ hk hs => ⟨hs, hk⟩
theorem WrAt.drew {w : World} {S : Nat → Prop} {p : Nat} {bs : List UInt8} (h : WrAt w S p bs) : WrAt w.drew S p bs := h.fr ((Fr.refl noB _).drew) (fun _ _ _ => id)
/-- A []byte that was made from a text since wa. -/
def RowIn (wa : World) (n : Nat) (R : World → World → Prop) (hR : ∀ a b, R a b → a.heap.size ≤ b.heap.size) : Stb R :=
  ⟨fun v w => ∃ g c, v = .slice (some ⟨g, 0, none⟩) n c ∧ wa.heap.size ≤ g ∧ g < w.heap.size, fun _ _ _ ⟨g, c, e, h1, h2⟩ f => ⟨g, c, e, h1, Nat.lt_of_lt_of_le h2 (hR _ _ f)⟩⟩
/-- What a region with one such text has besides, ahead of the call that takes it. -/
def RawC (wa : World) (xs : List UInt8) (k : Nat) (w' : World) : Prop := k = 0 → ∀ g, wa.heap.size ≤ g → g < w'.heap.size → RowAt w' (some ⟨g, 0, none⟩) (bcells xs)
theorem RawC.bytes {wa w : World} {s : ByteArray} {k : Nat} (h : RawC wa s.data.toList k w) : RawC wa s.data.toList k (Lib.bytesWorld w 5 s) := fun hk g h1 h2 => by
  by_cases e : g < w.heap.size
  · exact (h hk g h1 e).fr0 (bytesW_fr w s)
  · rw [Lib.bytesWorld_size] at h2
    have : g = w.heap.size := by omega
    subst this
    exact bytesW_row w s
/-- A Writer at p in a region: bs, and xs once its call has come up; the box at b keeps its cells. -/
def PutC (U : Nat → Prop) (wa : World) (p : Nat) (bs xs : List UInt8) (k : Nat) (w' : World) : Prop := WrAt w' U p (if k = 0 then bs else bs ++ xs) ∧ Fr U wa w'
theorem PutC.ref {U : Nat → Prop} {wa : World} {p : Nat} {bs xs : List UInt8} {k : Nat} {w w' : World} (h : PutC U wa p bs xs k w) (f : Fr noB w w') : PutC U wa p bs xs k w' :=
  ⟨h.1.fr f (fun _ _ _ => id), h.2.then' (f.mono fun _ _ h => h.elim)⟩
theorem PutC.wr {S : Nat → Prop} {wa : World} {p : Nat} {bs xs : List UInt8} {w w' : World} (h : PutC (andNew S wa) wa p bs xs 0 w) (h1 : WrAt w' (andNew (andNew S wa) w) p (bs ++ xs)) (f : Fr (andNew S wa) w w') : PutC (andNew S wa) wa p bs xs 1 w' :=
  ⟨h1.mono (fun i _ hi => hi.elim id fun q => Or.inr (by have := h.2.size; omega)), h.2.then' f⟩

theorem sumSz_50 {l : List ByteArray} (h1 : l.length ≤ 10) (h2 : ∀ s ∈ l, s.size ≤ 50) : sumSz l ≤ 520 := by
  have : ∀ l : List ByteArray, (∀ s ∈ l, s.size ≤ 50) → sumSz l ≤ 52 * l.length := by
    intro l
    induction l with
    | nil => simp [sumSz]
    | cons s l ih =>
      intro h
      have := ih fun s hs => h s (List.mem_cons_of_mem _ hs)
      have := h s (List.mem_cons_self ..)
      simp only [sumSz, List.map_cons, List.sum_cons, List.length_cons] at *
      omega
  have := this l h2
  omega

set_option maxRecDepth 100000 in
set_option maxHeartbeats 3200000 in
theorem put0 (w : World) (S : Nat → Prop) (p : Nat) (bs : List UInt8) (i : Item) (h : WrAt w S p bs) (hx : i.x ≤ 18446744073709551615) (hl : bs.length ≤ 1000000)
   (hL : RowAt w i.LA (strs i.L)) (hok : i.ok = true) (hc : i.L.length ≤ i.Lc) (hS : 0 < i.L.length → ∀ a, i.LA = some a → a.block < w.heap.size → ¬ S a.block) (hk : i.k % 9 = 0) :
    Calls Try.prog 27 #[.pointer (some ⟨p, 0, none⟩), .agg i.cells.toArray] w (PutPost w S p bs i.bytes) := by
  have HB : Hid (i.bytes = leB 1 i.x) := by unfold Hid Item.bytes; simp only [hk]
  obtain ⟨k, x, is, s, LA, Lc, L, most, long, ee⟩ := i
  simp only [Item.cells, Item.ok, Bool.and_eq_true, decide_eq_true_eq, List.all_eq_true] at *
  obtain ⟨⟨hs100, hL10⟩, hL50⟩ := hok
  have hsz : ∀ t ∈ L, t.size ≤ 65535 := fun t ht => by have := hL50 t ht; omega
  have hsum : sumSz L ≤ 520 := sumSz_50 hL10 hL50
  have hbox : ∀ W, Fr (andNew (cutB S w) (w.alloc (.cells #[.int .u8 k, .int .u64 x, .bool is, .string s, .slice LA L.length Lc, .int .i64 most, .int .i64 long, .int .i64 ee] 27))) (w.alloc (.cells #[.int .u8 k, .int .u64 x, .bool is, .string s, .slice LA L.length Lc, .int .i64 most, .int .i64 long, .int .i64 ee] 27)) W →
      SegAt W ⟨w.heap.size, 0, none⟩ [.int .u8 k, .int .u64 x, .bool is, .string s, .slice LA L.length Lc, .int .i64 most, .int .i64 long, .int .i64 ee] := fun W f j u hu => by
    refine f.cell ((new_row w #[.int .u8 k, .int .u64 x, .bool is, .string s, .slice LA L.length Lc, .int .i64 most, .int .i64 long, .int .i64 ee] _).cell hu) ?_
    rw [add_block]
    rintro (⟨_, h⟩ | h)
    · exact Nat.lt_irrefl _ h
    · simp at h
      omega
  have hrow : ∀ W, Fr (andNew (cutB S w) (w.alloc (.cells #[.int .u8 k, .int .u64 x, .bool is, .string s, .slice LA L.length Lc, .int .i64 most, .int .i64 long, .int .i64 ee] 27))) (w.alloc (.cells #[.int .u8 k, .int .u64 x, .bool is, .string s, .slice LA L.length Lc, .int .i64 most, .int .i64 long, .int .i64 ee] 27)) W → RowAt W LA (strs L) := fun W f =>
    (hL.fr0 ((Fr.refl noB _).alloc _)).fr f (fun a e h0 hb => by
      rintro (⟨h1, h2⟩ | h)
      · exact hS (by simpa [strs] using h0) a e h2 h1
      · omega)
  have hdis : ∀ W, Fr (andNew (cutB S w) (w.alloc (.cells #[.int .u8 k, .int .u64 x, .bool is, .string s, .slice LA L.length Lc, .int .i64 most, .int .i64 long, .int .i64 ee] 27))) (w.alloc (.cells #[.int .u8 k, .int .u64 x, .bool is, .string s, .slice LA L.length Lc, .int .i64 most, .int .i64 long, .int .i64 ee] 27)) W → 0 < L.length → ∀ a, LA = some a → ¬ andNew (cutB S w) (w.alloc (.cells #[.int .u8 k, .int .u64 x, .bool is, .string s, .slice LA L.length Lc, .int .i64 most, .int .i64 long, .int .i64 ee] 27)) a.block := fun W f h0 a e => by
    subst e
    have h3 := hL.lt (by simpa [strs] using h0)
    rintro (⟨h1, h2⟩ | h)
    · exact hS h0 a rfl h3 h1
    · simp at h; omega
  have hw0 : WrAt (w.alloc (.cells #[.int .u8 k, .int .u64 x, .bool is, .string s, .slice LA L.length Lc, .int .i64 most, .int .i64 long, .int .i64 ee] 27)) (andNew (cutB S w) (w.alloc (.cells #[.int .u8 k, .int .u64 x, .bool is, .string s, .slice LA L.length Lc, .int .i64 most, .int .i64 long, .int .i64 ee] 27))) p bs := (h.cut.fr ((Fr.refl noB _).alloc _) (fun _ _ _ => id)).mono fun _ _ h => Or.inl h
  have hfin : ∀ W xs, WrAt W (andNew (cutB S w) (w.alloc (.cells #[.int .u8 k, .int .u64 x, .bool is, .string s, .slice LA L.length Lc, .int .i64 most, .int .i64 long, .int .i64 ee] 27))) p (bs ++ xs) → Fr (andNew (cutB S w) (w.alloc (.cells #[.int .u8 k, .int .u64 x, .bool is, .string s, .slice LA L.length Lc, .int .i64 most, .int .i64 long, .int .i64 ee] 27))) (w.alloc (.cells #[.int .u8 k, .int .u64 x, .bool is, .string s, .slice LA L.length Lc, .int .i64 most, .int .i64 long, .int .i64 ee] 27)) W →
      WrAt W (andNew S w) p (bs ++ xs) ∧ Fr S w W := fun W xs h1 f => ⟨h1.mono fun i _ hi => hi.elim (fun q => Or.inl q.1) fun q => Or.inr (by simp at q; omega),
        (((Fr.refl S w).alloc _).trans f fun i hi h => h.elim (fun q => q.1) fun q => absurd q (by simp; omega))⟩
  have t0 : ((k : Int) % 9 == 0) = true := by simp; omega
  have HK := hid hk; clear hk
  go_enter Try.func27, Try.ntmps27
  go_wp2_with fail
  have zb : (w.alloc (.cells #[.int .u8 k, .int .u64 x, .bool is, .string s, .slice LA L.length Lc, .int .i64 most, .int .i64 long, .int .i64 ee] 27)).heap.size = w.heap.size + 1 := by simp
  generalize w.alloc (.cells #[.int .u8 k, .int .u64 x, .bool is, .string s, .slice LA L.length Lc, .int .i64 most, .int .i64 long, .int .i64 ee] 27) = wa at *
  have HU : ∃ U, U = andNew (cutB S w) wa := ⟨_, rfl⟩
  obtain ⟨U, hU⟩ := HU
  refine wp_region_calm (R := Fr U) (C := PutC U wa p bs (leB 1 x)) [false, false, false, false, true, false, false, false, false, false]
    [eqv (.pointer (some ⟨p, 0, none⟩)), eqv (.pointer (some ⟨w.heap.size, 1, none⟩)), eqv (.int .u64 x), eqv (.int .u8 ((x % 256 : Nat) : Int)), eqv (.pointer (some ⟨p, 0, none⟩)), eqv (.pointer (some ⟨w.heap.size, 1, none⟩)), eqv (.int .u64 x), eqv (.string (mkS (leB 1 x))), eqv (.pointer (some ⟨p, 0, none⟩)), eqv (.string (mkS (leB 1 x)))]
    (by kernel_rfl) (by kernel_rfl) (fun _ _ _ h1 h2 => h1.then' h2) ((Fr.refl _ _).drew) ⟨(hU ▸ hw0.drew), (Fr.refl _ _).drew⟩ (by kernel_rfl) ?_ ?_
  · refine ⟨?_, ?_, ?_, ?_, ?_, ?_, ?_, ?_, ?_, ?_, trivial⟩
    · rw [if_neg (by decide)]; intro kq
      exact calm_mv 0 rfl rfl (Or.inl rfl) (Fr.refl _) (by decide) fun v w hd => hd
    · rw [if_neg (by decide)]; intro kq
      intro a W K hC hd hK
      have d3 : a.tmps[3]?.getD undef = .pointer (some ⟨w.heap.size, 0, none⟩) := hd 3 (by decide)
      refine wpOp_plain rfl rfl ?_
      go_wp2_with fail
      exact hK _ _ (Fr.refl _ _) hC rfl
    · rw [if_neg (by decide)]; intro kq
      intro a W K hC hd hK
      have d12 : a.tmps[12]?.getD undef = .pointer (some ⟨w.heap.size, 1, none⟩) := hd 12 (by decide)
      obtain ⟨b0, b1, b2, b3, b4, b5, b6, b7⟩ := (hbox W (hU ▸ hC.2)).c8z
      refine wpOp_plain rfl rfl ?_
      go_wp2_with fail
      exact hK _ _ (Fr.refl _ _) hC rfl
    · rw [if_neg (by decide)]; intro kq
      intro a W K hC hd hK
      have d13 : a.tmps[13]?.getD undef = .int .u64 x := hd 13 (by decide)
      refine wpOp_plain rfl rfl ?_
      go_wp2_with fail
      exact hK _ _ (Fr.refl _ _) hC (by show _ = _; simp)
    · rw [if_pos (by decide)]
      intro a W K hC hd hK
      replace hC : (PutC U wa p bs (leB 1 x)) 0 W := hC
      have d11 : a.tmps[11]?.getD undef = .pointer (some ⟨p, 0, none⟩) := hd 11 (by decide)
      have d14 : a.tmps[14]?.getD undef = .int .u8 ((x % 256 : Nat) : Int) := hd 14 (by decide)
      refine wpOp_plain rfl rfl ?_
      go_wp2_with fail
      refine (byte_calls W U p bs (x % 256) hC.1 (by omega) (by omega)).mono ?_
      rintro e w' ⟨rfl, h1, f1⟩
      rw [show leB 1 (x % 256) = leB 1 x from leB_mod 1 x] at h1
      subst hU
      exact hK _ _ f1 (PutC.wr hC h1 f1) rfl
    · rw [if_neg (by decide)]; intro kq
      intro a W K hC hd hK
      have d3 : a.tmps[3]?.getD undef = .pointer (some ⟨w.heap.size, 0, none⟩) := hd 3 (by decide)
      refine wpOp_plain rfl rfl ?_
      go_wp2_with fail
      exact hK _ _ (Fr.refl _ _) hC rfl
    · rw [if_neg (by decide)]; intro kq
      intro a W K hC hd hK
      have d16 : a.tmps[16]?.getD undef = .pointer (some ⟨w.heap.size, 1, none⟩) := hd 16 (by decide)
      obtain ⟨b0, b1, b2, b3, b4, b5, b6, b7⟩ := (hbox W (hU ▸ hC.2)).c8z
      refine wpOp_plain rfl rfl ?_
      go_wp2_with fail
      exact hK _ _ (Fr.refl _ _) hC rfl
    · rw [if_neg (by decide)]; intro kq
      intro a W K hC hd hK
      have d17 : a.tmps[17]?.getD undef = .int .u64 x := hd 17 (by decide)
      refine wpOp_plain rfl rfl ?_
      go_wp2_with fail
      refine (numR_calls W x 1 hx (by omega)).mono ?_
      rintro e w' ⟨rfl, f1⟩
      exact hK _ _ (f1.mono fun _ _ h => h.elim) (hC.ref f1) rfl
    · rw [if_neg (by decide)]; intro kq
      exact calm_mv 15 rfl rfl (Or.inr rfl) (Fr.refl _) (by decide) fun v w hd => hd
    · rw [if_neg (by decide)]; intro kq
      exact calm_mv 18 rfl rfl (Or.inr rfl) (Fr.refl _) (by decide) fun v w hd => hd
  · intro vs w9 fw9 cw9 hV
    have v4 : vs 8 = .pointer (some ⟨p, 0, none⟩) := hV 8 _ _ rfl rfl (by decide)
    have v5 : vs 9 = .string (mkS (leB 1 x)) := hV 9 _ _ rfl rfl (by decide)
    clear hV
    simp only [putL, Act.put, Nat.reduceAdd, List.setIfInBounds_toArray, List.set_cons_zero, List.set_cons_succ, v4, v5]
    subst hU
    go_wp2_with fail
    go_ret2
    obtain ⟨r1, r2⟩ := hfin w9 _ cw9.1 fw9
    rw [← HB.out] at r1
    exact ⟨by rw [HB.out]; rfl, r1, r2⟩

set_option maxRecDepth 100000 in
set_option maxHeartbeats 3200000 in
theorem put1 (w : World) (S : Nat → Prop) (p : Nat) (bs : List UInt8) (i : Item) (h : WrAt w S p bs) (hx : i.x ≤ 18446744073709551615) (hl : bs.length ≤ 1000000)
   (hL : RowAt w i.LA (strs i.L)) (hok : i.ok = true) (hc : i.L.length ≤ i.Lc) (hS : 0 < i.L.length → ∀ a, i.LA = some a → a.block < w.heap.size → ¬ S a.block) (hk : i.k % 9 = 1) :
    Calls Try.prog 27 #[.pointer (some ⟨p, 0, none⟩), .agg i.cells.toArray] w (PutPost w S p bs i.bytes) := by
  have HB : Hid (i.bytes = leB 2 i.x) := by unfold Hid Item.bytes; simp only [hk]
  obtain ⟨k, x, is, s, LA, Lc, L, most, long, ee⟩ := i
  simp only [Item.cells, Item.ok, Bool.and_eq_true, decide_eq_true_eq, List.all_eq_true] at *
  obtain ⟨⟨hs100, hL10⟩, hL50⟩ := hok
  have hsz : ∀ t ∈ L, t.size ≤ 65535 := fun t ht => by have := hL50 t ht; omega
  have hsum : sumSz L ≤ 520 := sumSz_50 hL10 hL50
  have hbox : ∀ W, Fr (andNew (cutB S w) (w.alloc (.cells #[.int .u8 k, .int .u64 x, .bool is, .string s, .slice LA L.length Lc, .int .i64 most, .int .i64 long, .int .i64 ee] 27))) (w.alloc (.cells #[.int .u8 k, .int .u64 x, .bool is, .string s, .slice LA L.length Lc, .int .i64 most, .int .i64 long, .int .i64 ee] 27)) W →
      SegAt W ⟨w.heap.size, 0, none⟩ [.int .u8 k, .int .u64 x, .bool is, .string s, .slice LA L.length Lc, .int .i64 most, .int .i64 long, .int .i64 ee] := fun W f j u hu => by
    refine f.cell ((new_row w #[.int .u8 k, .int .u64 x, .bool is, .string s, .slice LA L.length Lc, .int .i64 most, .int .i64 long, .int .i64 ee] _).cell hu) ?_
    rw [add_block]
    rintro (⟨_, h⟩ | h)
    · exact Nat.lt_irrefl _ h
    · simp at h
      omega
  have hrow : ∀ W, Fr (andNew (cutB S w) (w.alloc (.cells #[.int .u8 k, .int .u64 x, .bool is, .string s, .slice LA L.length Lc, .int .i64 most, .int .i64 long, .int .i64 ee] 27))) (w.alloc (.cells #[.int .u8 k, .int .u64 x, .bool is, .string s, .slice LA L.length Lc, .int .i64 most, .int .i64 long, .int .i64 ee] 27)) W → RowAt W LA (strs L) := fun W f =>
    (hL.fr0 ((Fr.refl noB _).alloc _)).fr f (fun a e h0 hb => by
      rintro (⟨h1, h2⟩ | h)
      · exact hS (by simpa [strs] using h0) a e h2 h1
      · omega)
  have hdis : ∀ W, Fr (andNew (cutB S w) (w.alloc (.cells #[.int .u8 k, .int .u64 x, .bool is, .string s, .slice LA L.length Lc, .int .i64 most, .int .i64 long, .int .i64 ee] 27))) (w.alloc (.cells #[.int .u8 k, .int .u64 x, .bool is, .string s, .slice LA L.length Lc, .int .i64 most, .int .i64 long, .int .i64 ee] 27)) W → 0 < L.length → ∀ a, LA = some a → ¬ andNew (cutB S w) (w.alloc (.cells #[.int .u8 k, .int .u64 x, .bool is, .string s, .slice LA L.length Lc, .int .i64 most, .int .i64 long, .int .i64 ee] 27)) a.block := fun W f h0 a e => by
    subst e
    have h3 := hL.lt (by simpa [strs] using h0)
    rintro (⟨h1, h2⟩ | h)
    · exact hS h0 a rfl h3 h1
    · simp at h; omega
  have hw0 : WrAt (w.alloc (.cells #[.int .u8 k, .int .u64 x, .bool is, .string s, .slice LA L.length Lc, .int .i64 most, .int .i64 long, .int .i64 ee] 27)) (andNew (cutB S w) (w.alloc (.cells #[.int .u8 k, .int .u64 x, .bool is, .string s, .slice LA L.length Lc, .int .i64 most, .int .i64 long, .int .i64 ee] 27))) p bs := (h.cut.fr ((Fr.refl noB _).alloc _) (fun _ _ _ => id)).mono fun _ _ h => Or.inl h
  have hfin : ∀ W xs, WrAt W (andNew (cutB S w) (w.alloc (.cells #[.int .u8 k, .int .u64 x, .bool is, .string s, .slice LA L.length Lc, .int .i64 most, .int .i64 long, .int .i64 ee] 27))) p (bs ++ xs) → Fr (andNew (cutB S w) (w.alloc (.cells #[.int .u8 k, .int .u64 x, .bool is, .string s, .slice LA L.length Lc, .int .i64 most, .int .i64 long, .int .i64 ee] 27))) (w.alloc (.cells #[.int .u8 k, .int .u64 x, .bool is, .string s, .slice LA L.length Lc, .int .i64 most, .int .i64 long, .int .i64 ee] 27)) W →
      WrAt W (andNew S w) p (bs ++ xs) ∧ Fr S w W := fun W xs h1 f => ⟨h1.mono fun i _ hi => hi.elim (fun q => Or.inl q.1) fun q => Or.inr (by simp at q; omega),
        (((Fr.refl S w).alloc _).trans f fun i hi h => h.elim (fun q => q.1) fun q => absurd q (by simp; omega))⟩
  have t0 : ((k : Int) % 9 == 0) = false := by simp; omega
  have t1 : ((k : Int) % 9 == 1) = true := by simp; omega
  have HK := hid hk; clear hk
  go_enter Try.func27, Try.ntmps27
  go_wp2_with fail
  have zb : (w.alloc (.cells #[.int .u8 k, .int .u64 x, .bool is, .string s, .slice LA L.length Lc, .int .i64 most, .int .i64 long, .int .i64 ee] 27)).heap.size = w.heap.size + 1 := by simp
  generalize w.alloc (.cells #[.int .u8 k, .int .u64 x, .bool is, .string s, .slice LA L.length Lc, .int .i64 most, .int .i64 long, .int .i64 ee] 27) = wa at *
  have HU : ∃ U, U = andNew (cutB S w) wa := ⟨_, rfl⟩
  obtain ⟨U, hU⟩ := HU
  refine wp_region_calm (R := Fr U) (C := PutC U wa p bs (leB 2 x)) [false, false, false, false, true, false, false, false, false, false]
    [eqv (.pointer (some ⟨p, 0, none⟩)), eqv (.pointer (some ⟨w.heap.size, 1, none⟩)), eqv (.int .u64 x), eqv (.int .u16 ((x % 65536 : Nat) : Int)), eqv (.pointer (some ⟨p, 0, none⟩)), eqv (.pointer (some ⟨w.heap.size, 1, none⟩)), eqv (.int .u64 x), eqv (.string (mkS (leB 2 x))), eqv (.pointer (some ⟨p, 0, none⟩)), eqv (.string (mkS (leB 2 x)))]
    (by kernel_rfl) (by kernel_rfl) (fun _ _ _ h1 h2 => h1.then' h2) ((Fr.refl _ _).drew) ⟨(hU ▸ hw0.drew), (Fr.refl _ _).drew⟩ (by kernel_rfl) ?_ ?_
  · refine ⟨?_, ?_, ?_, ?_, ?_, ?_, ?_, ?_, ?_, ?_, trivial⟩
    · rw [if_neg (by decide)]; intro kq
      exact calm_mv 0 rfl rfl (Or.inl rfl) (Fr.refl _) (by decide) fun v w hd => hd
    · rw [if_neg (by decide)]; intro kq
      intro a W K hC hd hK
      have d3 : a.tmps[3]?.getD undef = .pointer (some ⟨w.heap.size, 0, none⟩) := hd 3 (by decide)
      refine wpOp_plain rfl rfl ?_
      go_wp2_with fail
      exact hK _ _ (Fr.refl _ _) hC rfl
    · rw [if_neg (by decide)]; intro kq
      intro a W K hC hd hK
      have d22 : a.tmps[22]?.getD undef = .pointer (some ⟨w.heap.size, 1, none⟩) := hd 22 (by decide)
      obtain ⟨b0, b1, b2, b3, b4, b5, b6, b7⟩ := (hbox W (hU ▸ hC.2)).c8z
      refine wpOp_plain rfl rfl ?_
      go_wp2_with fail
      exact hK _ _ (Fr.refl _ _) hC rfl
    · rw [if_neg (by decide)]; intro kq
      intro a W K hC hd hK
      have d23 : a.tmps[23]?.getD undef = .int .u64 x := hd 23 (by decide)
      refine wpOp_plain rfl rfl ?_
      go_wp2_with fail
      exact hK _ _ (Fr.refl _ _) hC (by show _ = _; rw [u16_wrap])
    · rw [if_pos (by decide)]
      intro a W K hC hd hK
      replace hC : (PutC U wa p bs (leB 2 x)) 0 W := hC
      have d21 : a.tmps[21]?.getD undef = .pointer (some ⟨p, 0, none⟩) := hd 21 (by decide)
      have d24 : a.tmps[24]?.getD undef = .int .u16 ((x % 65536 : Nat) : Int) := hd 24 (by decide)
      refine wpOp_plain rfl rfl ?_
      go_wp2_with fail
      refine (two_calls W U p bs (x % 65536) hC.1 (by omega) (by omega)).mono ?_
      rintro e w' ⟨rfl, h1, f1⟩
      rw [show leB 2 (x % 65536) = leB 2 x from leB_mod 2 x] at h1
      subst hU
      exact hK _ _ f1 (PutC.wr hC h1 f1) rfl
    · rw [if_neg (by decide)]; intro kq
      intro a W K hC hd hK
      have d3 : a.tmps[3]?.getD undef = .pointer (some ⟨w.heap.size, 0, none⟩) := hd 3 (by decide)
      refine wpOp_plain rfl rfl ?_
      go_wp2_with fail
      exact hK _ _ (Fr.refl _ _) hC rfl
    · rw [if_neg (by decide)]; intro kq
      intro a W K hC hd hK
      have d26 : a.tmps[26]?.getD undef = .pointer (some ⟨w.heap.size, 1, none⟩) := hd 26 (by decide)
      obtain ⟨b0, b1, b2, b3, b4, b5, b6, b7⟩ := (hbox W (hU ▸ hC.2)).c8z
      refine wpOp_plain rfl rfl ?_
      go_wp2_with fail
      exact hK _ _ (Fr.refl _ _) hC rfl
    · rw [if_neg (by decide)]; intro kq
      intro a W K hC hd hK
      have d27 : a.tmps[27]?.getD undef = .int .u64 x := hd 27 (by decide)
      refine wpOp_plain rfl rfl ?_
      go_wp2_with fail
      refine (numR_calls W x 2 hx (by omega)).mono ?_
      rintro e w' ⟨rfl, f1⟩
      exact hK _ _ (f1.mono fun _ _ h => h.elim) (hC.ref f1) rfl
    · rw [if_neg (by decide)]; intro kq
      exact calm_mv 25 rfl rfl (Or.inr rfl) (Fr.refl _) (by decide) fun v w hd => hd
    · rw [if_neg (by decide)]; intro kq
      exact calm_mv 28 rfl rfl (Or.inr rfl) (Fr.refl _) (by decide) fun v w hd => hd
  · intro vs w9 fw9 cw9 hV
    have v4 : vs 8 = .pointer (some ⟨p, 0, none⟩) := hV 8 _ _ rfl rfl (by decide)
    have v5 : vs 9 = .string (mkS (leB 2 x)) := hV 9 _ _ rfl rfl (by decide)
    clear hV
    simp only [putL, Act.put, Nat.reduceAdd, List.setIfInBounds_toArray, List.set_cons_zero, List.set_cons_succ, v4, v5]
    subst hU
    go_wp2_with fail
    go_ret2
    obtain ⟨r1, r2⟩ := hfin w9 _ cw9.1 fw9
    rw [← HB.out] at r1
    exact ⟨by rw [HB.out]; rfl, r1, r2⟩

set_option maxRecDepth 100000 in
set_option maxHeartbeats 3200000 in
theorem put2 (w : World) (S : Nat → Prop) (p : Nat) (bs : List UInt8) (i : Item) (h : WrAt w S p bs) (hx : i.x ≤ 18446744073709551615) (hl : bs.length ≤ 1000000)
   (hL : RowAt w i.LA (strs i.L)) (hok : i.ok = true) (hc : i.L.length ≤ i.Lc) (hS : 0 < i.L.length → ∀ a, i.LA = some a → a.block < w.heap.size → ¬ S a.block) (hk : i.k % 9 = 2) :
    Calls Try.prog 27 #[.pointer (some ⟨p, 0, none⟩), .agg i.cells.toArray] w (PutPost w S p bs i.bytes) := by
  have HB : Hid (i.bytes = leB 4 i.x) := by unfold Hid Item.bytes; simp only [hk]
  obtain ⟨k, x, is, s, LA, Lc, L, most, long, ee⟩ := i
  simp only [Item.cells, Item.ok, Bool.and_eq_true, decide_eq_true_eq, List.all_eq_true] at *
  obtain ⟨⟨hs100, hL10⟩, hL50⟩ := hok
  have hsz : ∀ t ∈ L, t.size ≤ 65535 := fun t ht => by have := hL50 t ht; omega
  have hsum : sumSz L ≤ 520 := sumSz_50 hL10 hL50
  have hbox : ∀ W, Fr (andNew (cutB S w) (w.alloc (.cells #[.int .u8 k, .int .u64 x, .bool is, .string s, .slice LA L.length Lc, .int .i64 most, .int .i64 long, .int .i64 ee] 27))) (w.alloc (.cells #[.int .u8 k, .int .u64 x, .bool is, .string s, .slice LA L.length Lc, .int .i64 most, .int .i64 long, .int .i64 ee] 27)) W →
      SegAt W ⟨w.heap.size, 0, none⟩ [.int .u8 k, .int .u64 x, .bool is, .string s, .slice LA L.length Lc, .int .i64 most, .int .i64 long, .int .i64 ee] := fun W f j u hu => by
    refine f.cell ((new_row w #[.int .u8 k, .int .u64 x, .bool is, .string s, .slice LA L.length Lc, .int .i64 most, .int .i64 long, .int .i64 ee] _).cell hu) ?_
    rw [add_block]
    rintro (⟨_, h⟩ | h)
    · exact Nat.lt_irrefl _ h
    · simp at h
      omega
  have hrow : ∀ W, Fr (andNew (cutB S w) (w.alloc (.cells #[.int .u8 k, .int .u64 x, .bool is, .string s, .slice LA L.length Lc, .int .i64 most, .int .i64 long, .int .i64 ee] 27))) (w.alloc (.cells #[.int .u8 k, .int .u64 x, .bool is, .string s, .slice LA L.length Lc, .int .i64 most, .int .i64 long, .int .i64 ee] 27)) W → RowAt W LA (strs L) := fun W f =>
    (hL.fr0 ((Fr.refl noB _).alloc _)).fr f (fun a e h0 hb => by
      rintro (⟨h1, h2⟩ | h)
      · exact hS (by simpa [strs] using h0) a e h2 h1
      · omega)
  have hdis : ∀ W, Fr (andNew (cutB S w) (w.alloc (.cells #[.int .u8 k, .int .u64 x, .bool is, .string s, .slice LA L.length Lc, .int .i64 most, .int .i64 long, .int .i64 ee] 27))) (w.alloc (.cells #[.int .u8 k, .int .u64 x, .bool is, .string s, .slice LA L.length Lc, .int .i64 most, .int .i64 long, .int .i64 ee] 27)) W → 0 < L.length → ∀ a, LA = some a → ¬ andNew (cutB S w) (w.alloc (.cells #[.int .u8 k, .int .u64 x, .bool is, .string s, .slice LA L.length Lc, .int .i64 most, .int .i64 long, .int .i64 ee] 27)) a.block := fun W f h0 a e => by
    subst e
    have h3 := hL.lt (by simpa [strs] using h0)
    rintro (⟨h1, h2⟩ | h)
    · exact hS h0 a rfl h3 h1
    · simp at h; omega
  have hw0 : WrAt (w.alloc (.cells #[.int .u8 k, .int .u64 x, .bool is, .string s, .slice LA L.length Lc, .int .i64 most, .int .i64 long, .int .i64 ee] 27)) (andNew (cutB S w) (w.alloc (.cells #[.int .u8 k, .int .u64 x, .bool is, .string s, .slice LA L.length Lc, .int .i64 most, .int .i64 long, .int .i64 ee] 27))) p bs := (h.cut.fr ((Fr.refl noB _).alloc _) (fun _ _ _ => id)).mono fun _ _ h => Or.inl h
  have hfin : ∀ W xs, WrAt W (andNew (cutB S w) (w.alloc (.cells #[.int .u8 k, .int .u64 x, .bool is, .string s, .slice LA L.length Lc, .int .i64 most, .int .i64 long, .int .i64 ee] 27))) p (bs ++ xs) → Fr (andNew (cutB S w) (w.alloc (.cells #[.int .u8 k, .int .u64 x, .bool is, .string s, .slice LA L.length Lc, .int .i64 most, .int .i64 long, .int .i64 ee] 27))) (w.alloc (.cells #[.int .u8 k, .int .u64 x, .bool is, .string s, .slice LA L.length Lc, .int .i64 most, .int .i64 long, .int .i64 ee] 27)) W →
      WrAt W (andNew S w) p (bs ++ xs) ∧ Fr S w W := fun W xs h1 f => ⟨h1.mono fun i _ hi => hi.elim (fun q => Or.inl q.1) fun q => Or.inr (by simp at q; omega),
        (((Fr.refl S w).alloc _).trans f fun i hi h => h.elim (fun q => q.1) fun q => absurd q (by simp; omega))⟩
  have t0 : ((k : Int) % 9 == 0) = false := by simp; omega
  have t1 : ((k : Int) % 9 == 1) = false := by simp; omega
  have t2 : ((k : Int) % 9 == 2) = true := by simp; omega
  have HK := hid hk; clear hk
  go_enter Try.func27, Try.ntmps27
  go_wp2_with fail
  have zb : (w.alloc (.cells #[.int .u8 k, .int .u64 x, .bool is, .string s, .slice LA L.length Lc, .int .i64 most, .int .i64 long, .int .i64 ee] 27)).heap.size = w.heap.size + 1 := by simp
  generalize w.alloc (.cells #[.int .u8 k, .int .u64 x, .bool is, .string s, .slice LA L.length Lc, .int .i64 most, .int .i64 long, .int .i64 ee] 27) = wa at *
  have HU : ∃ U, U = andNew (cutB S w) wa := ⟨_, rfl⟩
  obtain ⟨U, hU⟩ := HU
  refine wp_region_calm (R := Fr U) (C := PutC U wa p bs (leB 4 x)) [false, false, false, false, true, false, false, false, false, false]
    [eqv (.pointer (some ⟨p, 0, none⟩)), eqv (.pointer (some ⟨w.heap.size, 1, none⟩)), eqv (.int .u64 x), eqv (.int .u32 ((x % 4294967296 : Nat) : Int)), eqv (.pointer (some ⟨p, 0, none⟩)), eqv (.pointer (some ⟨w.heap.size, 1, none⟩)), eqv (.int .u64 x), eqv (.string (mkS (leB 4 x))), eqv (.pointer (some ⟨p, 0, none⟩)), eqv (.string (mkS (leB 4 x)))]
    (by kernel_rfl) (by kernel_rfl) (fun _ _ _ h1 h2 => h1.then' h2) ((Fr.refl _ _).drew) ⟨(hU ▸ hw0.drew), (Fr.refl _ _).drew⟩ (by kernel_rfl) ?_ ?_
  · refine ⟨?_, ?_, ?_, ?_, ?_, ?_, ?_, ?_, ?_, ?_, trivial⟩
    · rw [if_neg (by decide)]; intro kq
      exact calm_mv 0 rfl rfl (Or.inl rfl) (Fr.refl _) (by decide) fun v w hd => hd
    · rw [if_neg (by decide)]; intro kq
      intro a W K hC hd hK
      have d3 : a.tmps[3]?.getD undef = .pointer (some ⟨w.heap.size, 0, none⟩) := hd 3 (by decide)
      refine wpOp_plain rfl rfl ?_
      go_wp2_with fail
      exact hK _ _ (Fr.refl _ _) hC rfl
    · rw [if_neg (by decide)]; intro kq
      intro a W K hC hd hK
      have d32 : a.tmps[32]?.getD undef = .pointer (some ⟨w.heap.size, 1, none⟩) := hd 32 (by decide)
      obtain ⟨b0, b1, b2, b3, b4, b5, b6, b7⟩ := (hbox W (hU ▸ hC.2)).c8z
      refine wpOp_plain rfl rfl ?_
      go_wp2_with fail
      exact hK _ _ (Fr.refl _ _) hC rfl
    · rw [if_neg (by decide)]; intro kq
      intro a W K hC hd hK
      have d33 : a.tmps[33]?.getD undef = .int .u64 x := hd 33 (by decide)
      refine wpOp_plain rfl rfl ?_
      go_wp2_with fail
      exact hK _ _ (Fr.refl _ _) hC (by show _ = _; simp)
    · rw [if_pos (by decide)]
      intro a W K hC hd hK
      replace hC : (PutC U wa p bs (leB 4 x)) 0 W := hC
      have d31 : a.tmps[31]?.getD undef = .pointer (some ⟨p, 0, none⟩) := hd 31 (by decide)
      have d34 : a.tmps[34]?.getD undef = .int .u32 ((x % 4294967296 : Nat) : Int) := hd 34 (by decide)
      refine wpOp_plain rfl rfl ?_
      go_wp2_with fail
      refine (four_calls W U p bs (x % 4294967296) hC.1 (by omega) (by omega)).mono ?_
      rintro e w' ⟨rfl, h1, f1⟩
      rw [show leB 4 (x % 4294967296) = leB 4 x from leB_mod 4 x] at h1
      subst hU
      exact hK _ _ f1 (PutC.wr hC h1 f1) rfl
    · rw [if_neg (by decide)]; intro kq
      intro a W K hC hd hK
      have d3 : a.tmps[3]?.getD undef = .pointer (some ⟨w.heap.size, 0, none⟩) := hd 3 (by decide)
      refine wpOp_plain rfl rfl ?_
      go_wp2_with fail
      exact hK _ _ (Fr.refl _ _) hC rfl
    · rw [if_neg (by decide)]; intro kq
      intro a W K hC hd hK
      have d36 : a.tmps[36]?.getD undef = .pointer (some ⟨w.heap.size, 1, none⟩) := hd 36 (by decide)
      obtain ⟨b0, b1, b2, b3, b4, b5, b6, b7⟩ := (hbox W (hU ▸ hC.2)).c8z
      refine wpOp_plain rfl rfl ?_
      go_wp2_with fail
      exact hK _ _ (Fr.refl _ _) hC rfl
    · rw [if_neg (by decide)]; intro kq
      intro a W K hC hd hK
      have d37 : a.tmps[37]?.getD undef = .int .u64 x := hd 37 (by decide)
      refine wpOp_plain rfl rfl ?_
      go_wp2_with fail
      refine (numR_calls W x 4 hx (by omega)).mono ?_
      rintro e w' ⟨rfl, f1⟩
      exact hK _ _ (f1.mono fun _ _ h => h.elim) (hC.ref f1) rfl
    · rw [if_neg (by decide)]; intro kq
      exact calm_mv 35 rfl rfl (Or.inr rfl) (Fr.refl _) (by decide) fun v w hd => hd
    · rw [if_neg (by decide)]; intro kq
      exact calm_mv 38 rfl rfl (Or.inr rfl) (Fr.refl _) (by decide) fun v w hd => hd
  · intro vs w9 fw9 cw9 hV
    have v4 : vs 8 = .pointer (some ⟨p, 0, none⟩) := hV 8 _ _ rfl rfl (by decide)
    have v5 : vs 9 = .string (mkS (leB 4 x)) := hV 9 _ _ rfl rfl (by decide)
    clear hV
    simp only [putL, Act.put, Nat.reduceAdd, List.setIfInBounds_toArray, List.set_cons_zero, List.set_cons_succ, v4, v5]
    subst hU
    go_wp2_with fail
    go_ret2
    obtain ⟨r1, r2⟩ := hfin w9 _ cw9.1 fw9
    rw [← HB.out] at r1
    exact ⟨by rw [HB.out]; rfl, r1, r2⟩

set_option maxRecDepth 100000 in
set_option maxHeartbeats 3200000 in
theorem put3 (w : World) (S : Nat → Prop) (p : Nat) (bs : List UInt8) (i : Item) (h : WrAt w S p bs) (hx : i.x ≤ 18446744073709551615) (hl : bs.length ≤ 1000000)
   (hL : RowAt w i.LA (strs i.L)) (hok : i.ok = true) (hc : i.L.length ≤ i.Lc) (hS : 0 < i.L.length → ∀ a, i.LA = some a → a.block < w.heap.size → ¬ S a.block) (hk : i.k % 9 = 3) :
    Calls Try.prog 27 #[.pointer (some ⟨p, 0, none⟩), .agg i.cells.toArray] w (PutPost w S p bs i.bytes) := by
  have HB : Hid (i.bytes = leB 8 i.x) := by unfold Hid Item.bytes; simp only [hk]
  obtain ⟨k, x, is, s, LA, Lc, L, most, long, ee⟩ := i
  simp only [Item.cells, Item.ok, Bool.and_eq_true, decide_eq_true_eq, List.all_eq_true] at *
  obtain ⟨⟨hs100, hL10⟩, hL50⟩ := hok
  have hsz : ∀ t ∈ L, t.size ≤ 65535 := fun t ht => by have := hL50 t ht; omega
  have hsum : sumSz L ≤ 520 := sumSz_50 hL10 hL50
  have hbox : ∀ W, Fr (andNew (cutB S w) (w.alloc (.cells #[.int .u8 k, .int .u64 x, .bool is, .string s, .slice LA L.length Lc, .int .i64 most, .int .i64 long, .int .i64 ee] 27))) (w.alloc (.cells #[.int .u8 k, .int .u64 x, .bool is, .string s, .slice LA L.length Lc, .int .i64 most, .int .i64 long, .int .i64 ee] 27)) W →
      SegAt W ⟨w.heap.size, 0, none⟩ [.int .u8 k, .int .u64 x, .bool is, .string s, .slice LA L.length Lc, .int .i64 most, .int .i64 long, .int .i64 ee] := fun W f j u hu => by
    refine f.cell ((new_row w #[.int .u8 k, .int .u64 x, .bool is, .string s, .slice LA L.length Lc, .int .i64 most, .int .i64 long, .int .i64 ee] _).cell hu) ?_
    rw [add_block]
    rintro (⟨_, h⟩ | h)
    · exact Nat.lt_irrefl _ h
    · simp at h
      omega
  have hrow : ∀ W, Fr (andNew (cutB S w) (w.alloc (.cells #[.int .u8 k, .int .u64 x, .bool is, .string s, .slice LA L.length Lc, .int .i64 most, .int .i64 long, .int .i64 ee] 27))) (w.alloc (.cells #[.int .u8 k, .int .u64 x, .bool is, .string s, .slice LA L.length Lc, .int .i64 most, .int .i64 long, .int .i64 ee] 27)) W → RowAt W LA (strs L) := fun W f =>
    (hL.fr0 ((Fr.refl noB _).alloc _)).fr f (fun a e h0 hb => by
      rintro (⟨h1, h2⟩ | h)
      · exact hS (by simpa [strs] using h0) a e h2 h1
      · omega)
  have hdis : ∀ W, Fr (andNew (cutB S w) (w.alloc (.cells #[.int .u8 k, .int .u64 x, .bool is, .string s, .slice LA L.length Lc, .int .i64 most, .int .i64 long, .int .i64 ee] 27))) (w.alloc (.cells #[.int .u8 k, .int .u64 x, .bool is, .string s, .slice LA L.length Lc, .int .i64 most, .int .i64 long, .int .i64 ee] 27)) W → 0 < L.length → ∀ a, LA = some a → ¬ andNew (cutB S w) (w.alloc (.cells #[.int .u8 k, .int .u64 x, .bool is, .string s, .slice LA L.length Lc, .int .i64 most, .int .i64 long, .int .i64 ee] 27)) a.block := fun W f h0 a e => by
    subst e
    have h3 := hL.lt (by simpa [strs] using h0)
    rintro (⟨h1, h2⟩ | h)
    · exact hS h0 a rfl h3 h1
    · simp at h; omega
  have hw0 : WrAt (w.alloc (.cells #[.int .u8 k, .int .u64 x, .bool is, .string s, .slice LA L.length Lc, .int .i64 most, .int .i64 long, .int .i64 ee] 27)) (andNew (cutB S w) (w.alloc (.cells #[.int .u8 k, .int .u64 x, .bool is, .string s, .slice LA L.length Lc, .int .i64 most, .int .i64 long, .int .i64 ee] 27))) p bs := (h.cut.fr ((Fr.refl noB _).alloc _) (fun _ _ _ => id)).mono fun _ _ h => Or.inl h
  have hfin : ∀ W xs, WrAt W (andNew (cutB S w) (w.alloc (.cells #[.int .u8 k, .int .u64 x, .bool is, .string s, .slice LA L.length Lc, .int .i64 most, .int .i64 long, .int .i64 ee] 27))) p (bs ++ xs) → Fr (andNew (cutB S w) (w.alloc (.cells #[.int .u8 k, .int .u64 x, .bool is, .string s, .slice LA L.length Lc, .int .i64 most, .int .i64 long, .int .i64 ee] 27))) (w.alloc (.cells #[.int .u8 k, .int .u64 x, .bool is, .string s, .slice LA L.length Lc, .int .i64 most, .int .i64 long, .int .i64 ee] 27)) W →
      WrAt W (andNew S w) p (bs ++ xs) ∧ Fr S w W := fun W xs h1 f => ⟨h1.mono fun i _ hi => hi.elim (fun q => Or.inl q.1) fun q => Or.inr (by simp at q; omega),
        (((Fr.refl S w).alloc _).trans f fun i hi h => h.elim (fun q => q.1) fun q => absurd q (by simp; omega))⟩
  have t0 : ((k : Int) % 9 == 0) = false := by simp; omega
  have t1 : ((k : Int) % 9 == 1) = false := by simp; omega
  have t2 : ((k : Int) % 9 == 2) = false := by simp; omega
  have t3 : ((k : Int) % 9 == 3) = true := by simp; omega
  have HK := hid hk; clear hk
  go_enter Try.func27, Try.ntmps27
  go_wp2_with fail
  have zb : (w.alloc (.cells #[.int .u8 k, .int .u64 x, .bool is, .string s, .slice LA L.length Lc, .int .i64 most, .int .i64 long, .int .i64 ee] 27)).heap.size = w.heap.size + 1 := by simp
  generalize w.alloc (.cells #[.int .u8 k, .int .u64 x, .bool is, .string s, .slice LA L.length Lc, .int .i64 most, .int .i64 long, .int .i64 ee] 27) = wa at *
  have HU : ∃ U, U = andNew (cutB S w) wa := ⟨_, rfl⟩
  obtain ⟨U, hU⟩ := HU
  refine wp_region_calm (R := Fr U) (C := PutC U wa p bs (leB 8 x)) [false, false, false, true, false, false, false, false, false]
    [eqv (.pointer (some ⟨p, 0, none⟩)), eqv (.pointer (some ⟨w.heap.size, 1, none⟩)), eqv (.int .u64 x), eqv (.pointer (some ⟨p, 0, none⟩)), eqv (.pointer (some ⟨w.heap.size, 1, none⟩)), eqv (.int .u64 x), eqv (.string (mkS (leB 8 x))), eqv (.pointer (some ⟨p, 0, none⟩)), eqv (.string (mkS (leB 8 x)))]
    (by kernel_rfl) (by kernel_rfl) (fun _ _ _ h1 h2 => h1.then' h2) ((Fr.refl _ _).drew) ⟨(hU ▸ hw0.drew), (Fr.refl _ _).drew⟩ (by kernel_rfl) ?_ ?_
  · refine ⟨?_, ?_, ?_, ?_, ?_, ?_, ?_, ?_, ?_, trivial⟩
    · rw [if_neg (by decide)]; intro kq
      exact calm_mv 0 rfl rfl (Or.inl rfl) (Fr.refl _) (by decide) fun v w hd => hd
    · rw [if_neg (by decide)]; intro kq
      intro a W K hC hd hK
      have d3 : a.tmps[3]?.getD undef = .pointer (some ⟨w.heap.size, 0, none⟩) := hd 3 (by decide)
      refine wpOp_plain rfl rfl ?_
      go_wp2_with fail
      exact hK _ _ (Fr.refl _ _) hC rfl
    · rw [if_neg (by decide)]; intro kq
      intro a W K hC hd hK
      have d42 : a.tmps[42]?.getD undef = .pointer (some ⟨w.heap.size, 1, none⟩) := hd 42 (by decide)
      obtain ⟨b0, b1, b2, b3, b4, b5, b6, b7⟩ := (hbox W (hU ▸ hC.2)).c8z
      refine wpOp_plain rfl rfl ?_
      go_wp2_with fail
      exact hK _ _ (Fr.refl _ _) hC rfl
    · rw [if_pos (by decide)]
      intro a W K hC hd hK
      replace hC : (PutC U wa p bs (leB 8 x)) 0 W := hC
      have d41 : a.tmps[41]?.getD undef = .pointer (some ⟨p, 0, none⟩) := hd 41 (by decide)
      have d43 : a.tmps[43]?.getD undef = .int .u64 x := hd 43 (by decide)
      refine wpOp_plain rfl rfl ?_
      go_wp2_with fail
      refine (eight_calls W U p bs x hC.1 (by omega)).mono ?_
      rintro e w' ⟨rfl, h1, f1⟩
      subst hU
      exact hK _ _ f1 (PutC.wr hC h1 f1) rfl
    · rw [if_neg (by decide)]; intro kq
      intro a W K hC hd hK
      have d3 : a.tmps[3]?.getD undef = .pointer (some ⟨w.heap.size, 0, none⟩) := hd 3 (by decide)
      refine wpOp_plain rfl rfl ?_
      go_wp2_with fail
      exact hK _ _ (Fr.refl _ _) hC rfl
    · rw [if_neg (by decide)]; intro kq
      intro a W K hC hd hK
      have d45 : a.tmps[45]?.getD undef = .pointer (some ⟨w.heap.size, 1, none⟩) := hd 45 (by decide)
      obtain ⟨b0, b1, b2, b3, b4, b5, b6, b7⟩ := (hbox W (hU ▸ hC.2)).c8z
      refine wpOp_plain rfl rfl ?_
      go_wp2_with fail
      exact hK _ _ (Fr.refl _ _) hC rfl
    · rw [if_neg (by decide)]; intro kq
      intro a W K hC hd hK
      have d46 : a.tmps[46]?.getD undef = .int .u64 x := hd 46 (by decide)
      refine wpOp_plain rfl rfl ?_
      go_wp2_with fail
      refine (numR_calls W x 8 hx (by omega)).mono ?_
      rintro e w' ⟨rfl, f1⟩
      exact hK _ _ (f1.mono fun _ _ h => h.elim) (hC.ref f1) rfl
    · rw [if_neg (by decide)]; intro kq
      exact calm_mv 44 rfl rfl (Or.inr rfl) (Fr.refl _) (by decide) fun v w hd => hd
    · rw [if_neg (by decide)]; intro kq
      exact calm_mv 47 rfl rfl (Or.inr rfl) (Fr.refl _) (by decide) fun v w hd => hd
  · intro vs w9 fw9 cw9 hV
    have v4 : vs 7 = .pointer (some ⟨p, 0, none⟩) := hV 7 _ _ rfl rfl (by decide)
    have v5 : vs 8 = .string (mkS (leB 8 x)) := hV 8 _ _ rfl rfl (by decide)
    clear hV
    simp only [putL, Act.put, Nat.reduceAdd, List.setIfInBounds_toArray, List.set_cons_zero, List.set_cons_succ, v4, v5]
    subst hU
    go_wp2_with fail
    go_ret2
    obtain ⟨r1, r2⟩ := hfin w9 _ cw9.1 fw9
    rw [← HB.out] at r1
    exact ⟨by rw [HB.out]; rfl, r1, r2⟩

set_option maxRecDepth 100000 in
set_option maxHeartbeats 3200000 in
theorem put4 (w : World) (S : Nat → Prop) (p : Nat) (bs : List UInt8) (i : Item) (h : WrAt w S p bs) (hx : i.x ≤ 18446744073709551615) (hl : bs.length ≤ 1000000)
   (hL : RowAt w i.LA (strs i.L)) (hok : i.ok = true) (hc : i.L.length ≤ i.Lc) (hS : 0 < i.L.length → ∀ a, i.LA = some a → a.block < w.heap.size → ¬ S a.block) (hk : i.k % 9 = 4) :
    Calls Try.prog 27 #[.pointer (some ⟨p, 0, none⟩), .agg i.cells.toArray] w (PutPost w S p bs i.bytes) := by
  have HB : Hid (i.bytes = leB 1 (if i.is then 1 else 0)) := by unfold Hid Item.bytes; simp only [hk]
  obtain ⟨k, x, is, s, LA, Lc, L, most, long, ee⟩ := i
  simp only [Item.cells, Item.ok, Bool.and_eq_true, decide_eq_true_eq, List.all_eq_true] at *
  obtain ⟨⟨hs100, hL10⟩, hL50⟩ := hok
  have hsz : ∀ t ∈ L, t.size ≤ 65535 := fun t ht => by have := hL50 t ht; omega
  have hsum : sumSz L ≤ 520 := sumSz_50 hL10 hL50
  have hbox : ∀ W, Fr (andNew (cutB S w) (w.alloc (.cells #[.int .u8 k, .int .u64 x, .bool is, .string s, .slice LA L.length Lc, .int .i64 most, .int .i64 long, .int .i64 ee] 27))) (w.alloc (.cells #[.int .u8 k, .int .u64 x, .bool is, .string s, .slice LA L.length Lc, .int .i64 most, .int .i64 long, .int .i64 ee] 27)) W →
      SegAt W ⟨w.heap.size, 0, none⟩ [.int .u8 k, .int .u64 x, .bool is, .string s, .slice LA L.length Lc, .int .i64 most, .int .i64 long, .int .i64 ee] := fun W f j u hu => by
    refine f.cell ((new_row w #[.int .u8 k, .int .u64 x, .bool is, .string s, .slice LA L.length Lc, .int .i64 most, .int .i64 long, .int .i64 ee] _).cell hu) ?_
    rw [add_block]
    rintro (⟨_, h⟩ | h)
    · exact Nat.lt_irrefl _ h
    · simp at h
      omega
  have hrow : ∀ W, Fr (andNew (cutB S w) (w.alloc (.cells #[.int .u8 k, .int .u64 x, .bool is, .string s, .slice LA L.length Lc, .int .i64 most, .int .i64 long, .int .i64 ee] 27))) (w.alloc (.cells #[.int .u8 k, .int .u64 x, .bool is, .string s, .slice LA L.length Lc, .int .i64 most, .int .i64 long, .int .i64 ee] 27)) W → RowAt W LA (strs L) := fun W f =>
    (hL.fr0 ((Fr.refl noB _).alloc _)).fr f (fun a e h0 hb => by
      rintro (⟨h1, h2⟩ | h)
      · exact hS (by simpa [strs] using h0) a e h2 h1
      · omega)
  have hdis : ∀ W, Fr (andNew (cutB S w) (w.alloc (.cells #[.int .u8 k, .int .u64 x, .bool is, .string s, .slice LA L.length Lc, .int .i64 most, .int .i64 long, .int .i64 ee] 27))) (w.alloc (.cells #[.int .u8 k, .int .u64 x, .bool is, .string s, .slice LA L.length Lc, .int .i64 most, .int .i64 long, .int .i64 ee] 27)) W → 0 < L.length → ∀ a, LA = some a → ¬ andNew (cutB S w) (w.alloc (.cells #[.int .u8 k, .int .u64 x, .bool is, .string s, .slice LA L.length Lc, .int .i64 most, .int .i64 long, .int .i64 ee] 27)) a.block := fun W f h0 a e => by
    subst e
    have h3 := hL.lt (by simpa [strs] using h0)
    rintro (⟨h1, h2⟩ | h)
    · exact hS h0 a rfl h3 h1
    · simp at h; omega
  have hw0 : WrAt (w.alloc (.cells #[.int .u8 k, .int .u64 x, .bool is, .string s, .slice LA L.length Lc, .int .i64 most, .int .i64 long, .int .i64 ee] 27)) (andNew (cutB S w) (w.alloc (.cells #[.int .u8 k, .int .u64 x, .bool is, .string s, .slice LA L.length Lc, .int .i64 most, .int .i64 long, .int .i64 ee] 27))) p bs := (h.cut.fr ((Fr.refl noB _).alloc _) (fun _ _ _ => id)).mono fun _ _ h => Or.inl h
  have hfin : ∀ W xs, WrAt W (andNew (cutB S w) (w.alloc (.cells #[.int .u8 k, .int .u64 x, .bool is, .string s, .slice LA L.length Lc, .int .i64 most, .int .i64 long, .int .i64 ee] 27))) p (bs ++ xs) → Fr (andNew (cutB S w) (w.alloc (.cells #[.int .u8 k, .int .u64 x, .bool is, .string s, .slice LA L.length Lc, .int .i64 most, .int .i64 long, .int .i64 ee] 27))) (w.alloc (.cells #[.int .u8 k, .int .u64 x, .bool is, .string s, .slice LA L.length Lc, .int .i64 most, .int .i64 long, .int .i64 ee] 27)) W →
      WrAt W (andNew S w) p (bs ++ xs) ∧ Fr S w W := fun W xs h1 f => ⟨h1.mono fun i _ hi => hi.elim (fun q => Or.inl q.1) fun q => Or.inr (by simp at q; omega),
        (((Fr.refl S w).alloc _).trans f fun i hi h => h.elim (fun q => q.1) fun q => absurd q (by simp; omega))⟩
  have t0 : ((k : Int) % 9 == 0) = false := by simp; omega
  have t1 : ((k : Int) % 9 == 1) = false := by simp; omega
  have t2 : ((k : Int) % 9 == 2) = false := by simp; omega
  have t3 : ((k : Int) % 9 == 3) = false := by simp; omega
  have t4 : ((k : Int) % 9 == 4) = true := by simp; omega
  have HK := hid hk; clear hk
  obtain ⟨tb, htb⟩ : ∃ b : Nat, b = (if is = true then 1 else 0) := ⟨_, rfl⟩
  have HB2 : Hid (Item.bytes ⟨k, x, is, s, LA, Lc, L, most, long, ee⟩ = leB 1 tb) := by unfold Hid; rw [HB.out, htb]
  clear HB
  have HB := HB2
  clear HB2
  have HT := hid htb; clear htb
  go_enter Try.func27, Try.ntmps27
  go_wp2_with fail
  have zb : (w.alloc (.cells #[.int .u8 k, .int .u64 x, .bool is, .string s, .slice LA L.length Lc, .int .i64 most, .int .i64 long, .int .i64 ee] 27)).heap.size = w.heap.size + 1 := by simp
  generalize w.alloc (.cells #[.int .u8 k, .int .u64 x, .bool is, .string s, .slice LA L.length Lc, .int .i64 most, .int .i64 long, .int .i64 ee] 27) = wa at *
  have HU : ∃ U, U = andNew (cutB S w) wa := ⟨_, rfl⟩
  obtain ⟨U, hU⟩ := HU
  refine wp_region_calm (R := Fr U) (C := PutC U wa p bs (leB 1 tb)) [false, false, false, true, false, false, false, false, false]
    [eqv (.pointer (some ⟨p, 0, none⟩)), eqv (.pointer (some ⟨w.heap.size, 2, none⟩)), eqv (.bool is), eqv (.pointer (some ⟨p, 0, none⟩)), eqv (.pointer (some ⟨w.heap.size, 2, none⟩)), eqv (.bool is), eqv (.string (mkS (leB 1 tb))), eqv (.pointer (some ⟨p, 0, none⟩)), eqv (.string (mkS (leB 1 tb)))]
    (by kernel_rfl) (by kernel_rfl) (fun _ _ _ h1 h2 => h1.then' h2) ((Fr.refl _ _).drew) ⟨(hU ▸ hw0.drew), (Fr.refl _ _).drew⟩ (by kernel_rfl) ?_ ?_
  · refine ⟨?_, ?_, ?_, ?_, ?_, ?_, ?_, ?_, ?_, trivial⟩
    · rw [if_neg (by decide)]; intro kq
      exact calm_mv 0 rfl rfl (Or.inl rfl) (Fr.refl _) (by decide) fun v w hd => hd
    · rw [if_neg (by decide)]; intro kq
      intro a W K hC hd hK
      have d3 : a.tmps[3]?.getD undef = .pointer (some ⟨w.heap.size, 0, none⟩) := hd 3 (by decide)
      refine wpOp_plain rfl rfl ?_
      go_wp2_with fail
      exact hK _ _ (Fr.refl _ _) hC rfl
    · rw [if_neg (by decide)]; intro kq
      intro a W K hC hd hK
      have d51 : a.tmps[51]?.getD undef = .pointer (some ⟨w.heap.size, 2, none⟩) := hd 51 (by decide)
      obtain ⟨b0, b1, b2, b3, b4, b5, b6, b7⟩ := (hbox W (hU ▸ hC.2)).c8z
      refine wpOp_plain rfl rfl ?_
      go_wp2_with fail
      exact hK _ _ (Fr.refl _ _) hC rfl
    · rw [if_pos (by decide)]
      intro a W K hC hd hK
      replace hC : (PutC U wa p bs (leB 1 tb)) 0 W := hC
      have d50 : a.tmps[50]?.getD undef = .pointer (some ⟨p, 0, none⟩) := hd 50 (by decide)
      have d52 : a.tmps[52]?.getD undef = .bool is := hd 52 (by decide)
      refine wpOp_plain rfl rfl ?_
      go_wp2_with fail
      refine (truth_calls W U p bs is hC.1 (by omega)).mono ?_
      rw [← HT.out]
      rintro e w' ⟨rfl, h1, f1⟩
      subst hU
      exact hK _ _ f1 (PutC.wr hC h1 f1) rfl
    · rw [if_neg (by decide)]; intro kq
      intro a W K hC hd hK
      have d3 : a.tmps[3]?.getD undef = .pointer (some ⟨w.heap.size, 0, none⟩) := hd 3 (by decide)
      refine wpOp_plain rfl rfl ?_
      go_wp2_with fail
      exact hK _ _ (Fr.refl _ _) hC rfl
    · rw [if_neg (by decide)]; intro kq
      intro a W K hC hd hK
      have d54 : a.tmps[54]?.getD undef = .pointer (some ⟨w.heap.size, 2, none⟩) := hd 54 (by decide)
      obtain ⟨b0, b1, b2, b3, b4, b5, b6, b7⟩ := (hbox W (hU ▸ hC.2)).c8z
      refine wpOp_plain rfl rfl ?_
      go_wp2_with fail
      exact hK _ _ (Fr.refl _ _) hC rfl
    · rw [if_neg (by decide)]; intro kq
      intro a W K hC hd hK
      have d55 : a.tmps[55]?.getD undef = .bool is := hd 55 (by decide)
      refine wpOp_plain rfl rfl ?_
      go_wp2_with fail
      refine (truthR_calls W is).mono ?_
      rw [← HT.out]
      rintro e w' ⟨rfl, f1⟩
      exact hK _ _ (f1.mono fun _ _ h => h.elim) (hC.ref f1) rfl
    · rw [if_neg (by decide)]; intro kq
      exact calm_mv 53 rfl rfl (Or.inr rfl) (Fr.refl _) (by decide) fun v w hd => hd
    · rw [if_neg (by decide)]; intro kq
      exact calm_mv 56 rfl rfl (Or.inr rfl) (Fr.refl _) (by decide) fun v w hd => hd
  · intro vs w9 fw9 cw9 hV
    have v4 : vs 7 = .pointer (some ⟨p, 0, none⟩) := hV 7 _ _ rfl rfl (by decide)
    have v5 : vs 8 = .string (mkS (leB 1 tb)) := hV 8 _ _ rfl rfl (by decide)
    clear hV
    simp only [putL, Act.put, Nat.reduceAdd, List.setIfInBounds_toArray, List.set_cons_zero, List.set_cons_succ, v4, v5]
    subst hU
    go_wp2_with fail
    go_ret2
    obtain ⟨r1, r2⟩ := hfin w9 _ cw9.1 fw9
    rw [← HB.out] at r1
    exact ⟨by rw [HB.out]; rfl, r1, r2⟩

set_option maxRecDepth 100000 in
set_option maxHeartbeats 3200000 in
theorem put5 (w : World) (S : Nat → Prop) (p : Nat) (bs : List UInt8) (i : Item) (h : WrAt w S p bs) (hx : i.x ≤ 18446744073709551615) (hl : bs.length ≤ 1000000)
   (hL : RowAt w i.LA (strs i.L)) (hok : i.ok = true) (hc : i.L.length ≤ i.Lc) (hS : 0 < i.L.length → ∀ a, i.LA = some a → a.block < w.heap.size → ¬ S a.block) (hk : i.k % 9 = 5) :
    Calls Try.prog 27 #[.pointer (some ⟨p, 0, none⟩), .agg i.cells.toArray] w (PutPost w S p bs i.bytes) := by
  have HB : Hid (i.bytes = textB i.s) := by unfold Hid Item.bytes; simp only [hk]
  obtain ⟨k, x, is, s, LA, Lc, L, most, long, ee⟩ := i
  simp only [Item.cells, Item.ok, Bool.and_eq_true, decide_eq_true_eq, List.all_eq_true] at *
  obtain ⟨⟨hs100, hL10⟩, hL50⟩ := hok
  have hsz : ∀ t ∈ L, t.size ≤ 65535 := fun t ht => by have := hL50 t ht; omega
  have hsum : sumSz L ≤ 520 := sumSz_50 hL10 hL50
  have hbox : ∀ W, Fr (andNew (cutB S w) (w.alloc (.cells #[.int .u8 k, .int .u64 x, .bool is, .string s, .slice LA L.length Lc, .int .i64 most, .int .i64 long, .int .i64 ee] 27))) (w.alloc (.cells #[.int .u8 k, .int .u64 x, .bool is, .string s, .slice LA L.length Lc, .int .i64 most, .int .i64 long, .int .i64 ee] 27)) W →
      SegAt W ⟨w.heap.size, 0, none⟩ [.int .u8 k, .int .u64 x, .bool is, .string s, .slice LA L.length Lc, .int .i64 most, .int .i64 long, .int .i64 ee] := fun W f j u hu => by
    refine f.cell ((new_row w #[.int .u8 k, .int .u64 x, .bool is, .string s, .slice LA L.length Lc, .int .i64 most, .int .i64 long, .int .i64 ee] _).cell hu) ?_
    rw [add_block]
    rintro (⟨_, h⟩ | h)
    · exact Nat.lt_irrefl _ h
    · simp at h
      omega
  have hrow : ∀ W, Fr (andNew (cutB S w) (w.alloc (.cells #[.int .u8 k, .int .u64 x, .bool is, .string s, .slice LA L.length Lc, .int .i64 most, .int .i64 long, .int .i64 ee] 27))) (w.alloc (.cells #[.int .u8 k, .int .u64 x, .bool is, .string s, .slice LA L.length Lc, .int .i64 most, .int .i64 long, .int .i64 ee] 27)) W → RowAt W LA (strs L) := fun W f =>
    (hL.fr0 ((Fr.refl noB _).alloc _)).fr f (fun a e h0 hb => by
      rintro (⟨h1, h2⟩ | h)
      · exact hS (by simpa [strs] using h0) a e h2 h1
      · omega)
  have hdis : ∀ W, Fr (andNew (cutB S w) (w.alloc (.cells #[.int .u8 k, .int .u64 x, .bool is, .string s, .slice LA L.length Lc, .int .i64 most, .int .i64 long, .int .i64 ee] 27))) (w.alloc (.cells #[.int .u8 k, .int .u64 x, .bool is, .string s, .slice LA L.length Lc, .int .i64 most, .int .i64 long, .int .i64 ee] 27)) W → 0 < L.length → ∀ a, LA = some a → ¬ andNew (cutB S w) (w.alloc (.cells #[.int .u8 k, .int .u64 x, .bool is, .string s, .slice LA L.length Lc, .int .i64 most, .int .i64 long, .int .i64 ee] 27)) a.block := fun W f h0 a e => by
    subst e
    have h3 := hL.lt (by simpa [strs] using h0)
    rintro (⟨h1, h2⟩ | h)
    · exact hS h0 a rfl h3 h1
    · simp at h; omega
  have hw0 : WrAt (w.alloc (.cells #[.int .u8 k, .int .u64 x, .bool is, .string s, .slice LA L.length Lc, .int .i64 most, .int .i64 long, .int .i64 ee] 27)) (andNew (cutB S w) (w.alloc (.cells #[.int .u8 k, .int .u64 x, .bool is, .string s, .slice LA L.length Lc, .int .i64 most, .int .i64 long, .int .i64 ee] 27))) p bs := (h.cut.fr ((Fr.refl noB _).alloc _) (fun _ _ _ => id)).mono fun _ _ h => Or.inl h
  have hfin : ∀ W xs, WrAt W (andNew (cutB S w) (w.alloc (.cells #[.int .u8 k, .int .u64 x, .bool is, .string s, .slice LA L.length Lc, .int .i64 most, .int .i64 long, .int .i64 ee] 27))) p (bs ++ xs) → Fr (andNew (cutB S w) (w.alloc (.cells #[.int .u8 k, .int .u64 x, .bool is, .string s, .slice LA L.length Lc, .int .i64 most, .int .i64 long, .int .i64 ee] 27))) (w.alloc (.cells #[.int .u8 k, .int .u64 x, .bool is, .string s, .slice LA L.length Lc, .int .i64 most, .int .i64 long, .int .i64 ee] 27)) W →
      WrAt W (andNew S w) p (bs ++ xs) ∧ Fr S w W := fun W xs h1 f => ⟨h1.mono fun i _ hi => hi.elim (fun q => Or.inl q.1) fun q => Or.inr (by simp at q; omega),
        (((Fr.refl S w).alloc _).trans f fun i hi h => h.elim (fun q => q.1) fun q => absurd q (by simp; omega))⟩
  have t0 : ((k : Int) % 9 == 0) = false := by simp; omega
  have t1 : ((k : Int) % 9 == 1) = false := by simp; omega
  have t2 : ((k : Int) % 9 == 2) = false := by simp; omega
  have t3 : ((k : Int) % 9 == 3) = false := by simp; omega
  have t4 : ((k : Int) % 9 == 4) = false := by simp; omega
  have t5 : ((k : Int) % 9 == 5) = true := by simp; omega
  have HK := hid hk; clear hk
  go_enter Try.func27, Try.ntmps27
  go_wp2_with fail
  have zb : (w.alloc (.cells #[.int .u8 k, .int .u64 x, .bool is, .string s, .slice LA L.length Lc, .int .i64 most, .int .i64 long, .int .i64 ee] 27)).heap.size = w.heap.size + 1 := by simp
  generalize w.alloc (.cells #[.int .u8 k, .int .u64 x, .bool is, .string s, .slice LA L.length Lc, .int .i64 most, .int .i64 long, .int .i64 ee] 27) = wa at *
  have HU : ∃ U, U = andNew (cutB S w) wa := ⟨_, rfl⟩
  obtain ⟨U, hU⟩ := HU
  refine wp_region_calm (R := Fr U) (C := PutC U wa p bs (textB s)) [false, false, false, true, false, false, false, false, false]
    [eqv (.pointer (some ⟨p, 0, none⟩)), eqv (.pointer (some ⟨w.heap.size, 3, none⟩)), eqv (.string s), eqv (.pointer (some ⟨p, 0, none⟩)), eqv (.pointer (some ⟨w.heap.size, 3, none⟩)), eqv (.string s), eqv (.string (mkS (textB s))), eqv (.pointer (some ⟨p, 0, none⟩)), eqv (.string (mkS (textB s)))]
    (by kernel_rfl) (by kernel_rfl) (fun _ _ _ h1 h2 => h1.then' h2) ((Fr.refl _ _).drew) ⟨(hU ▸ hw0.drew), (Fr.refl _ _).drew⟩ (by kernel_rfl) ?_ ?_
  · refine ⟨?_, ?_, ?_, ?_, ?_, ?_, ?_, ?_, ?_, trivial⟩
    · rw [if_neg (by decide)]; intro kq
      exact calm_mv 0 rfl rfl (Or.inl rfl) (Fr.refl _) (by decide) fun v w hd => hd
    · rw [if_neg (by decide)]; intro kq
      intro a W K hC hd hK
      have d3 : a.tmps[3]?.getD undef = .pointer (some ⟨w.heap.size, 0, none⟩) := hd 3 (by decide)
      refine wpOp_plain rfl rfl ?_
      go_wp2_with fail
      exact hK _ _ (Fr.refl _ _) hC rfl
    · rw [if_neg (by decide)]; intro kq
      intro a W K hC hd hK
      have d60 : a.tmps[60]?.getD undef = .pointer (some ⟨w.heap.size, 3, none⟩) := hd 60 (by decide)
      obtain ⟨b0, b1, b2, b3, b4, b5, b6, b7⟩ := (hbox W (hU ▸ hC.2)).c8z
      refine wpOp_plain rfl rfl ?_
      go_wp2_with fail
      exact hK _ _ (Fr.refl _ _) hC rfl
    · rw [if_pos (by decide)]
      intro a W K hC hd hK
      replace hC : (PutC U wa p bs (textB s)) 0 W := hC
      have d59 : a.tmps[59]?.getD undef = .pointer (some ⟨p, 0, none⟩) := hd 59 (by decide)
      have d61 : a.tmps[61]?.getD undef = .string s := hd 61 (by decide)
      refine wpOp_plain rfl rfl ?_
      go_wp2_with fail
      refine (text_calls W U p bs s hC.1 (by unfold maxLen; omega) (by omega)).mono ?_
      rintro e w' ⟨rfl, h1, f1⟩
      subst hU
      exact hK _ _ f1 (PutC.wr hC h1 f1) rfl
    · rw [if_neg (by decide)]; intro kq
      intro a W K hC hd hK
      have d3 : a.tmps[3]?.getD undef = .pointer (some ⟨w.heap.size, 0, none⟩) := hd 3 (by decide)
      refine wpOp_plain rfl rfl ?_
      go_wp2_with fail
      exact hK _ _ (Fr.refl _ _) hC rfl
    · rw [if_neg (by decide)]; intro kq
      intro a W K hC hd hK
      have d63 : a.tmps[63]?.getD undef = .pointer (some ⟨w.heap.size, 3, none⟩) := hd 63 (by decide)
      obtain ⟨b0, b1, b2, b3, b4, b5, b6, b7⟩ := (hbox W (hU ▸ hC.2)).c8z
      refine wpOp_plain rfl rfl ?_
      go_wp2_with fail
      exact hK _ _ (Fr.refl _ _) hC rfl
    · rw [if_neg (by decide)]; intro kq
      intro a W K hC hd hK
      have d64 : a.tmps[64]?.getD undef = .string s := hd 64 (by decide)
      refine wpOp_plain rfl rfl ?_
      go_wp2_with fail
      refine (textR_calls W s (by omega)).mono ?_
      rw [textR_eq (by omega)]
      rintro e w' ⟨rfl, f1⟩
      exact hK _ _ (f1.mono fun _ _ h => h.elim) (hC.ref f1) rfl
    · rw [if_neg (by decide)]; intro kq
      exact calm_mv 62 rfl rfl (Or.inr rfl) (Fr.refl _) (by decide) fun v w hd => hd
    · rw [if_neg (by decide)]; intro kq
      exact calm_mv 65 rfl rfl (Or.inr rfl) (Fr.refl _) (by decide) fun v w hd => hd
  · intro vs w9 fw9 cw9 hV
    have v4 : vs 7 = .pointer (some ⟨p, 0, none⟩) := hV 7 _ _ rfl rfl (by decide)
    have v5 : vs 8 = .string (mkS (textB s)) := hV 8 _ _ rfl rfl (by decide)
    clear hV
    simp only [putL, Act.put, Nat.reduceAdd, List.setIfInBounds_toArray, List.set_cons_zero, List.set_cons_succ, v4, v5]
    subst hU
    go_wp2_with fail
    go_ret2
    obtain ⟨r1, r2⟩ := hfin w9 _ cw9.1 fw9
    rw [← HB.out] at r1
    exact ⟨by rw [HB.out]; rfl, r1, r2⟩

set_option maxRecDepth 100000 in
set_option maxHeartbeats 3200000 in
theorem put6 (w : World) (S : Nat → Prop) (p : Nat) (bs : List UInt8) (i : Item) (h : WrAt w S p bs) (hx : i.x ≤ 18446744073709551615) (hl : bs.length ≤ 1000000)
   (hL : RowAt w i.LA (strs i.L)) (hok : i.ok = true) (hc : i.L.length ≤ i.Lc) (hS : 0 < i.L.length → ∀ a, i.LA = some a → a.block < w.heap.size → ¬ S a.block) (hk : i.k % 9 = 6) :
    Calls Try.prog 27 #[.pointer (some ⟨p, 0, none⟩), .agg i.cells.toArray] w (PutPost w S p bs i.bytes) := by
  have HB : Hid (i.bytes = rowB i.L) := by unfold Hid Item.bytes; simp only [hk]
  obtain ⟨k, x, is, s, LA, Lc, L, most, long, ee⟩ := i
  simp only [Item.cells, Item.ok, Bool.and_eq_true, decide_eq_true_eq, List.all_eq_true] at *
  obtain ⟨⟨hs100, hL10⟩, hL50⟩ := hok
  have hsz : ∀ t ∈ L, t.size ≤ 65535 := fun t ht => by have := hL50 t ht; omega
  have hsum : sumSz L ≤ 520 := sumSz_50 hL10 hL50
  have hbox : ∀ W, Fr (andNew (cutB S w) (w.alloc (.cells #[.int .u8 k, .int .u64 x, .bool is, .string s, .slice LA L.length Lc, .int .i64 most, .int .i64 long, .int .i64 ee] 27))) (w.alloc (.cells #[.int .u8 k, .int .u64 x, .bool is, .string s, .slice LA L.length Lc, .int .i64 most, .int .i64 long, .int .i64 ee] 27)) W →
      SegAt W ⟨w.heap.size, 0, none⟩ [.int .u8 k, .int .u64 x, .bool is, .string s, .slice LA L.length Lc, .int .i64 most, .int .i64 long, .int .i64 ee] := fun W f j u hu => by
    refine f.cell ((new_row w #[.int .u8 k, .int .u64 x, .bool is, .string s, .slice LA L.length Lc, .int .i64 most, .int .i64 long, .int .i64 ee] _).cell hu) ?_
    rw [add_block]
    rintro (⟨_, h⟩ | h)
    · exact Nat.lt_irrefl _ h
    · simp at h
      omega
  have hrow : ∀ W, Fr (andNew (cutB S w) (w.alloc (.cells #[.int .u8 k, .int .u64 x, .bool is, .string s, .slice LA L.length Lc, .int .i64 most, .int .i64 long, .int .i64 ee] 27))) (w.alloc (.cells #[.int .u8 k, .int .u64 x, .bool is, .string s, .slice LA L.length Lc, .int .i64 most, .int .i64 long, .int .i64 ee] 27)) W → RowAt W LA (strs L) := fun W f =>
    (hL.fr0 ((Fr.refl noB _).alloc _)).fr f (fun a e h0 hb => by
      rintro (⟨h1, h2⟩ | h)
      · exact hS (by simpa [strs] using h0) a e h2 h1
      · omega)
  have hdis : ∀ W, Fr (andNew (cutB S w) (w.alloc (.cells #[.int .u8 k, .int .u64 x, .bool is, .string s, .slice LA L.length Lc, .int .i64 most, .int .i64 long, .int .i64 ee] 27))) (w.alloc (.cells #[.int .u8 k, .int .u64 x, .bool is, .string s, .slice LA L.length Lc, .int .i64 most, .int .i64 long, .int .i64 ee] 27)) W → 0 < L.length → ∀ a, LA = some a → ¬ andNew (cutB S w) (w.alloc (.cells #[.int .u8 k, .int .u64 x, .bool is, .string s, .slice LA L.length Lc, .int .i64 most, .int .i64 long, .int .i64 ee] 27)) a.block := fun W f h0 a e => by
    subst e
    have h3 := hL.lt (by simpa [strs] using h0)
    rintro (⟨h1, h2⟩ | h)
    · exact hS h0 a rfl h3 h1
    · simp at h; omega
  have hw0 : WrAt (w.alloc (.cells #[.int .u8 k, .int .u64 x, .bool is, .string s, .slice LA L.length Lc, .int .i64 most, .int .i64 long, .int .i64 ee] 27)) (andNew (cutB S w) (w.alloc (.cells #[.int .u8 k, .int .u64 x, .bool is, .string s, .slice LA L.length Lc, .int .i64 most, .int .i64 long, .int .i64 ee] 27))) p bs := (h.cut.fr ((Fr.refl noB _).alloc _) (fun _ _ _ => id)).mono fun _ _ h => Or.inl h
  have hfin : ∀ W xs, WrAt W (andNew (cutB S w) (w.alloc (.cells #[.int .u8 k, .int .u64 x, .bool is, .string s, .slice LA L.length Lc, .int .i64 most, .int .i64 long, .int .i64 ee] 27))) p (bs ++ xs) → Fr (andNew (cutB S w) (w.alloc (.cells #[.int .u8 k, .int .u64 x, .bool is, .string s, .slice LA L.length Lc, .int .i64 most, .int .i64 long, .int .i64 ee] 27))) (w.alloc (.cells #[.int .u8 k, .int .u64 x, .bool is, .string s, .slice LA L.length Lc, .int .i64 most, .int .i64 long, .int .i64 ee] 27)) W →
      WrAt W (andNew S w) p (bs ++ xs) ∧ Fr S w W := fun W xs h1 f => ⟨h1.mono fun i _ hi => hi.elim (fun q => Or.inl q.1) fun q => Or.inr (by simp at q; omega),
        (((Fr.refl S w).alloc _).trans f fun i hi h => h.elim (fun q => q.1) fun q => absurd q (by simp; omega))⟩
  have t0 : ((k : Int) % 9 == 0) = false := by simp; omega
  have t1 : ((k : Int) % 9 == 1) = false := by simp; omega
  have t2 : ((k : Int) % 9 == 2) = false := by simp; omega
  have t3 : ((k : Int) % 9 == 3) = false := by simp; omega
  have t4 : ((k : Int) % 9 == 4) = false := by simp; omega
  have t5 : ((k : Int) % 9 == 5) = false := by simp; omega
  have t6 : ((k : Int) % 9 == 6) = true := by simp; omega
  have HK := hid hk; clear hk
  go_enter Try.func27, Try.ntmps27
  go_wp2_with fail
  have zb : (w.alloc (.cells #[.int .u8 k, .int .u64 x, .bool is, .string s, .slice LA L.length Lc, .int .i64 most, .int .i64 long, .int .i64 ee] 27)).heap.size = w.heap.size + 1 := by simp
  generalize w.alloc (.cells #[.int .u8 k, .int .u64 x, .bool is, .string s, .slice LA L.length Lc, .int .i64 most, .int .i64 long, .int .i64 ee] 27) = wa at *
  have HU : ∃ U, U = andNew (cutB S w) wa := ⟨_, rfl⟩
  obtain ⟨U, hU⟩ := HU
  refine wp_region_calm (R := Fr U) (C := PutC U wa p bs (rowB L)) [false, false, false, true, false, false, false, false, false]
    [eqv (.pointer (some ⟨p, 0, none⟩)), eqv (.pointer (some ⟨w.heap.size, 4, none⟩)), eqv (.slice LA L.length Lc), eqv (.pointer (some ⟨p, 0, none⟩)), eqv (.pointer (some ⟨w.heap.size, 4, none⟩)), eqv (.slice LA L.length Lc), eqv (.string (mkS (rowB L))), eqv (.pointer (some ⟨p, 0, none⟩)), eqv (.string (mkS (rowB L)))]
    (by kernel_rfl) (by kernel_rfl) (fun _ _ _ h1 h2 => h1.then' h2) ((Fr.refl _ _).drew) ⟨(hU ▸ hw0.drew), (Fr.refl _ _).drew⟩ (by kernel_rfl) ?_ ?_
  · refine ⟨?_, ?_, ?_, ?_, ?_, ?_, ?_, ?_, ?_, trivial⟩
    · rw [if_neg (by decide)]; intro kq
      exact calm_mv 0 rfl rfl (Or.inl rfl) (Fr.refl _) (by decide) fun v w hd => hd
    · rw [if_neg (by decide)]; intro kq
      intro a W K hC hd hK
      have d3 : a.tmps[3]?.getD undef = .pointer (some ⟨w.heap.size, 0, none⟩) := hd 3 (by decide)
      refine wpOp_plain rfl rfl ?_
      go_wp2_with fail
      exact hK _ _ (Fr.refl _ _) hC rfl
    · rw [if_neg (by decide)]; intro kq
      intro a W K hC hd hK
      have d69 : a.tmps[69]?.getD undef = .pointer (some ⟨w.heap.size, 4, none⟩) := hd 69 (by decide)
      obtain ⟨b0, b1, b2, b3, b4, b5, b6, b7⟩ := (hbox W (hU ▸ hC.2)).c8z
      refine wpOp_plain rfl rfl ?_
      go_wp2_with fail
      exact hK _ _ (Fr.refl _ _) hC rfl
    · rw [if_pos (by decide)]
      intro a W K hC hd hK
      replace hC : (PutC U wa p bs (rowB L)) 0 W := hC
      have d68 : a.tmps[68]?.getD undef = .pointer (some ⟨p, 0, none⟩) := hd 68 (by decide)
      have d70 : a.tmps[70]?.getD undef = .slice LA L.length Lc := hd 70 (by decide)
      refine wpOp_plain rfl rfl ?_
      go_wp2_with fail
      refine (row_calls_small W U p bs LA L.length Lc L hC.1 (hrow W (hU ▸ hC.2)) rfl hc (hU ▸ hdis W (hU ▸ hC.2)) (by omega) (by omega)).mono ?_
      rintro e w' ⟨rfl, h1, f1⟩
      subst hU
      exact hK _ _ f1 (PutC.wr hC h1 f1) rfl
    · rw [if_neg (by decide)]; intro kq
      intro a W K hC hd hK
      have d3 : a.tmps[3]?.getD undef = .pointer (some ⟨w.heap.size, 0, none⟩) := hd 3 (by decide)
      refine wpOp_plain rfl rfl ?_
      go_wp2_with fail
      exact hK _ _ (Fr.refl _ _) hC rfl
    · rw [if_neg (by decide)]; intro kq
      intro a W K hC hd hK
      have d72 : a.tmps[72]?.getD undef = .pointer (some ⟨w.heap.size, 4, none⟩) := hd 72 (by decide)
      obtain ⟨b0, b1, b2, b3, b4, b5, b6, b7⟩ := (hbox W (hU ▸ hC.2)).c8z
      refine wpOp_plain rfl rfl ?_
      go_wp2_with fail
      exact hK _ _ (Fr.refl _ _) hC rfl
    · rw [if_neg (by decide)]; intro kq
      intro a W K hC hd hK
      have d73 : a.tmps[73]?.getD undef = .slice LA L.length Lc := hd 73 (by decide)
      refine wpOp_plain rfl rfl ?_
      go_wp2_with fail
      refine (rowR_calls W LA L.length Lc L (hrow W (hU ▸ hC.2)) rfl (by omega) (by omega)).mono ?_
      rw [rowR_eq (by omega) hsz]
      rintro e w' ⟨rfl, f1⟩
      exact hK _ _ (f1.mono fun _ _ h => h.elim) (hC.ref f1) rfl
    · rw [if_neg (by decide)]; intro kq
      exact calm_mv 71 rfl rfl (Or.inr rfl) (Fr.refl _) (by decide) fun v w hd => hd
    · rw [if_neg (by decide)]; intro kq
      exact calm_mv 74 rfl rfl (Or.inr rfl) (Fr.refl _) (by decide) fun v w hd => hd
  · intro vs w9 fw9 cw9 hV
    have v4 : vs 7 = .pointer (some ⟨p, 0, none⟩) := hV 7 _ _ rfl rfl (by decide)
    have v5 : vs 8 = .string (mkS (rowB L)) := hV 8 _ _ rfl rfl (by decide)
    clear hV
    simp only [putL, Act.put, Nat.reduceAdd, List.setIfInBounds_toArray, List.set_cons_zero, List.set_cons_succ, v4, v5]
    subst hU
    go_wp2_with fail
    go_ret2
    obtain ⟨r1, r2⟩ := hfin w9 _ cw9.1 fw9
    rw [← HB.out] at r1
    exact ⟨by rw [HB.out]; rfl, r1, r2⟩
end Go.Proofs.Ytcpcmcdfncjnaaa
