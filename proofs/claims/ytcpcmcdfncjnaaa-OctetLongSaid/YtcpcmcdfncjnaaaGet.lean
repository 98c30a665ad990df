/- interrexlaw01.get: an item is read, by both. -/
import Derived.Test.YtcpcmcdfncjnaaaRef5
import Derived.Test.YtcpcmcdfncjnaaaFew
import Derived.Test.YtcpcmcdfncjnaaaSame
namespace Go.Proofs.Ytcpcmcdfncjnaaa
open Go.RowKit

/-- What an item that is asked for leaves. -/
def Item.rd (r : Rd) (i : Item) : Rd :=
  match i.k % 9 with
  | 0 => (rNum r 1).1
  | 1 => (rNum r 2).1
  | 2 => (rNum r 4).1
  | 3 => (rNum r 8).1
  | 4 => (rTruth r).1
  | 5 => (rText r i.most).1
  | 6 => (rRow r i.most i.long).1
  | 7 => (rTake r (max 0 i.most).toNat).1
  | _ => rFail r (i.e % 16).toNat
def GetPost (w : World) (S : Nat → Prop) (p : Nat) (r : Rd) (e : Ending) (w' : World) : Prop := e = .returned (.tuple #[r.val, .bool true]) ∧ RdAt w' S p r ∧ Fr S w w'
def orB (S : Nat → Prop) (b : Nat) : Nat → Prop := fun k => S k ∨ k = b
/-- What holds in a region of get: the Reader, the box of the reference's answer, the item's box, the result's block. -/
structure GetC (U S : Nat → Prop) (wa : World) (p : Nat) (r r' : Rd) (bx ib rb : Nat) (ic : Array Value) (q : Nat) (W : World) : Prop where
  fr : Fr U wa W
  rd : RdAt W S p (if q = 0 then r else r')
  box : W.heap[bx]? = some (.cells #[.string (mkS r'.bs), .int .i64 (r'.e : Nat)] 59 (0, 0))
  item : W.heap[ib]? = some (.cells ic 27 (0, 0))
  res : W.heap[rb]? = some (.cells (if q ≤ 1 then #[.string ⟨#[]⟩, .int .i64 0] else #[.string (mkS r'.bs), .int .i64 (r'.e : Nat)]) 59 (0, 0))
theorem GetC.call {U S : Nat → Prop} {wa : World} {p : Nat} {r r' : Rd} {bx ib rb : Nat} {ic : Array Value} {W w' : World} (h : GetC U S wa p r r' bx ib rb ic 0 W) (h1 : RdAt w' S p r') (f : Fr S W w') (hU : ∀ k, S k → U k) (n1 : ¬ S bx) (n2 : ¬ S ib) (n3 : ¬ S rb) : GetC U S wa p r r' bx ib rb ic 1 w' :=
  ⟨h.fr.then' (f.mono fun _ _ => hU _), h1, f.heap h.box n1, f.heap h.item n2, f.heap h.res n3⟩
theorem GetC.quiet {U S : Nat → Prop} {wa : World} {p : Nat} {r r' : Rd} {bx ib rb : Nat} {ic : Array Value} {q : Nat} {W w' : World} (h : GetC U S wa p r r' bx ib rb ic q W) (f : Fr noB W w') : GetC U S wa p r r' bx ib rb ic q w' :=
  ⟨h.fr.then' (f.mono fun _ _ h => h.elim), h.rd.fr f (fun _ _ _ => id), f.heap h.box id, f.heap h.item id, f.heap h.res id⟩
theorem GetC.store {U S : Nat → Prop} {wa : World} {p : Nat} {r r' : Rd} {bx ib rb : Nat} {ic : Array Value} {W : World} (h : GetC U S wa p r r' bx ib rb ic 1 W) (hU : U rb) (n1 : bx ≠ rb) (n2 : ib ≠ rb) (n3 : ¬ S rb) :
    GetC U S wa p r r' bx ib rb ic 2 ((W.setCell ⟨rb, 0, none⟩ (.string (mkS r'.bs))).setCell ⟨rb, 1, none⟩ (.int .i64 (r'.e : Nat))) ∧ Fr U W ((W.setCell ⟨rb, 0, none⟩ (.string (mkS r'.bs))).setCell ⟨rb, 1, none⟩ (.int .i64 (r'.e : Nat))) := by
  have f := fr_set2 W rb (.string (mkS r'.bs)) (.int .i64 (r'.e : Nat))
  have fU : Fr U W _ := f.mono (fun k _ h => by unfold eqB at h; rw [h]; exact hU)
  exact ⟨⟨h.fr.then' fU, h.rd.fr f (fun k _ hs h => by unfold eqB at h; exact n3 (h ▸ hs)), f.heap h.box n1, f.heap h.item n2, set2 h.res⟩, fU⟩
theorem heap_three (w : World) (A B C : Obj) : (((w.alloc A).alloc B).alloc C).heap[w.heap.size + 1]? = some B ∧ (((w.alloc A).alloc B).alloc C).heap[w.heap.size + 2]? = some C := by
  have h := heap_two (w.alloc A) B C
  rw [World.size_alloc] at h
  exact h
/-- A []string in blocks from n on. -/
def StrsV (n : Nat) (U : Nat → Prop) (hU : ∀ k, U k → k < n) (ss : List ByteArray) : Stb (Fr U) :=
  ⟨fun v w => ∃ A m c, v = .slice A m c ∧ Hid (ss.length = m) ∧ RowAt w A (strs ss) ∧ (∀ ad, A = some ad → n ≤ ad.block),
   fun _ _ _ ⟨A, m, c, e, hm, h, hb⟩ f => ⟨A, m, c, e, hm, h.fr f (fun ad e _ _ hu => by have := hb ad e; have := hU _ hu; omega), hb⟩⟩
/-- A []byte in blocks from n on. -/
def BytsV (n : Nat) (U : Nat → Prop) (hU : ∀ k, U k → k < n) (bs : List UInt8) : Stb (Fr U) :=
  ⟨fun v w => ∃ A m c, v = .slice A m c ∧ bs.length = m ∧ RowAt w A (bcells bs) ∧ (∀ ad, A = some ad → n ≤ ad.block),
   fun _ _ _ ⟨A, m, c, e, hm, h, hb⟩ f => ⟨A, m, c, e, hm, h.fr f (fun ad e _ _ hu => by have := hb ad e; have := hU _ hu; omega), hb⟩⟩

set_option maxRecDepth 100000 in
set_option maxHeartbeats 3200000 in
theorem get0 (w : World) (S : Nat → Prop) (p : Nat) (r : Rd) (i : Item) (h : RdAt w S p r) (hi : r.inv) (hl : r.bs.length ≤ 1000000000000) (hS : ∀ k, S k → k < w.heap.size) (hw : i.wf) (hk : i.k % 9 = 0) :
    Calls Try.prog 31 #[.pointer (some ⟨p, 0, none⟩), .agg #[.string (mkS r.bs), .int .i64 (r.e : Nat)], .agg i.cells.toArray] w (GetPost w S p (i.rd r)) := by
  have HB : Hid (i.rd r = (rNum r 1).1) := by unfold Hid Item.rd; skip; simp only [hk]
  have hc := fun W => getR_calls W r 1 hi hl (by omega)
  have hr := fun W (h : RdAt W S p r) => byteRd_calls W S p r h
  have hx := rNum_lt r 1
  generalize rNum r 1 = qq at *
  obtain ⟨⟨qb, qe⟩, n⟩ := qq
  obtain ⟨k, x, is, s, LA, Lc, L, most, long, ee⟩ := i
  obtain ⟨m1, m2, l1, l2, e1, e2⟩ := hw
  obtain ⟨bs, re⟩ := r
  simp only [Item.cells, Rd.val] at *
  replace hx : n < 256 := hx
  have t0 : ((k : Int) % 9 == 0) = true := by simp; omega
  have HK := hid hk; clear hk
  unfold RPost at hr
  try simp only [Rd.val] at *
  go_enter Try.func31, Try.ntmps31
  have a3 : (((w.alloc (.cells #[.string (mkS bs), .int .i64 (re : Nat)] 59)).alloc (.cells #[.int .u8 k, .int .u64 x, .bool is, .string s, .slice LA L.length Lc, .int .i64 most, .int .i64 long, .int .i64 ee] 27)).alloc (.cells #[.string ⟨#[]⟩, .int .i64 0] 59)).heap[w.heap.size + 2]? = some (.cells #[.string ⟨#[]⟩, .int .i64 0] 59 (0, 0)) := (heap_three w _ _ _).2
  have a2 : (((w.alloc (.cells #[.string (mkS bs), .int .i64 (re : Nat)] 59)).alloc (.cells #[.int .u8 k, .int .u64 x, .bool is, .string s, .slice LA L.length Lc, .int .i64 most, .int .i64 long, .int .i64 ee] 27)).alloc (.cells #[.string ⟨#[]⟩, .int .i64 0] 59)).heap[w.heap.size + 1]? = some (.cells #[.int .u8 k, .int .u64 x, .bool is, .string s, .slice LA L.length Lc, .int .i64 most, .int .i64 long, .int .i64 ee] 27 (0, 0)) := (heap_three w _ _ _).1
  go_wp2_with fail
  refine (hc _).mono ?_
  rintro e w1 ⟨rfl, f1⟩
  clear hc
  have b3 := f1.heap a3 id
  have b2 := f1.heap a2 id
  have z1 := f1.size
  have z2 : w.heap.size + 2 < w1.heap.size := by simp at z1; omega
  have f2 : Fr noB w w1 := ((((Fr.refl _ _).alloc _).alloc _).alloc _).then' f1
  have F1 := hid f1
  clear f1 z1 a2 a3
  go_wp2_with fail
  have c1 := heap_alloc_new w1 (.cells #[.string (mkS qb), .int .i64 (qe : Nat)] 59)
  have c2 := heap_al b2 (.cells #[.string (mkS qb), .int .i64 (qe : Nat)] 59)
  have c3 := heap_al b3 (.cells #[.string (mkS qb), .int .i64 (qe : Nat)] 59)
  have f3 : Fr noB w (w1.alloc (.cells #[.string (mkS qb), .int .i64 (qe : Nat)] 59)) := f2.alloc _
  have z3 : w1.heap.size < (w1.alloc (.cells #[.string (mkS qb), .int .i64 (qe : Nat)] 59)).heap.size := by simp
  generalize w1.alloc (.cells #[.string (mkS qb), .int .i64 (qe : Nat)] 59) = wa at *
  have hra : RdAt wa S p ⟨bs, re⟩ := h.fr f3 (fun _ _ _ => id)
  have n1 : ¬ S w1.heap.size := fun h => by have := hS _ h; omega
  have n2 : ¬ S (w.heap.size + 1) := fun h => by have := hS _ h; omega
  have n3 : ¬ S (w.heap.size + 2) := fun h => by have := hS _ h; omega
  have hU : ∀ k, orB S (w.heap.size + 2) k → k < w.heap.size + 3 := fun k h => h.elim (fun h => by have := hS _ h; omega) (fun h => by omega)
  have hC0 : GetC (orB S (w.heap.size + 2)) S wa p ⟨bs, re⟩ ⟨qb, qe⟩ w1.heap.size (w.heap.size + 1) (w.heap.size + 2) #[.int .u8 k, .int .u64 x, .bool is, .string s, .slice LA L.length Lc, .int .i64 most, .int .i64 long, .int .i64 ee] 0 wa.drew := ⟨(Fr.refl _ _).drew, hra.fr ((Fr.refl noB _).drew) (fun _ _ _ => id), c1, c2, c3⟩
  refine wp_region_calm (R := Fr (orB S (w.heap.size + 2))) (C := GetC (orB S (w.heap.size + 2)) S wa p ⟨bs, re⟩ ⟨qb, qe⟩ w1.heap.size (w.heap.size + 1) (w.heap.size + 2) #[.int .u8 k, .int .u64 x, .bool is, .string s, .slice LA L.length Lc, .int .i64 most, .int .i64 long, .int .i64 ee]) [false, false, true, false, false, false, true, false]
    [eqv (.agg #[.string (mkS qb), .int .i64 (qe : Nat)]), eqv (.pointer (some ⟨p, 0, none⟩)), eqv (.int .u8 (n : Nat)), eqv (.int .u64 (n : Nat)), eqv (.int .u64 (n : Nat)), eqv (.bool true), anyv, eqv (.bool true)]
    (by kernel_rfl) (by kernel_rfl) (fun _ _ _ h1 h2 => h1.then' h2) ((Fr.refl _ _).drew) hC0 (by kernel_rfl) ?_ ?_
  · refine ⟨?_, ?_, ?_, ?_, ?_, ?_, ?_, ?_, trivial⟩
    · rw [if_neg (by decide)]; intro kq
      intro a W K hC hd hK
      have d8 : a.tmps[8]?.getD undef = .pointer (some ⟨w1.heap.size, 0, none⟩) := hd 8 (by decide)
      obtain ⟨b0, b1⟩ := cells2 hC.box
      refine wpOp_plain rfl rfl ?_
      go_wp2_with fail
      exact hK _ _ (Fr.refl _ _) hC rfl
    · rw [if_neg (by decide)]; intro kq
      exact calm_mv 0 rfl rfl (Or.inl rfl) (Fr.refl _) (by decide) fun v w hd => hd
    · rw [if_pos (by decide)]
      intro a W K hC hd hK
      replace hC : (GetC (orB S (w.heap.size + 2)) S wa p ⟨bs, re⟩ ⟨qb, qe⟩ w1.heap.size (w.heap.size + 1) (w.heap.size + 2) #[.int .u8 k, .int .u64 x, .bool is, .string s, .slice LA L.length Lc, .int .i64 most, .int .i64 long, .int .i64 ee]) 0 W := hC
      have d36 : a.tmps[36]?.getD undef = .pointer (some ⟨p, 0, none⟩) := hd 36 (by decide)
      refine wpOp_plain rfl rfl ?_
      go_wp2_with fail
      refine (hr W hC.rd).mono ?_
      rintro e w' ⟨rfl, h1, f1⟩
      exact hK _ _ (f1.mono fun _ _ h => Or.inl h) (hC.call h1 f1 (fun _ h => Or.inl h) n1 n2 n3) rfl
    · rw [if_neg (by decide)]; intro kq
      intro a W K hC hd hK
      have d37 : a.tmps[37]?.getD undef = .int .u8 (n : Nat) := hd 37 (by decide)
      refine wpOp_plain rfl rfl ?_
      go_wp2_with fail
      exact hK _ _ (Fr.refl _ _) hC (by show _ = _; simp <;> omega)
    · rw [if_neg (by decide)]; intro kq
      exact calm_mv 9 rfl rfl (Or.inl rfl) (Fr.refl _) (by decide) fun v w hd => hd
    · rw [if_neg (by decide)]; intro kq
      intro a W K hC hd hK
      have d38 : a.tmps[38]?.getD undef = .int .u64 (n : Nat) := hd 38 (by decide)
      have d39 : a.tmps[39]?.getD undef = .int .u64 (n : Nat) := hd 39 (by decide)
      refine wpOp_plain rfl rfl ?_
      go_wp2_with fail
      exact hK _ _ (Fr.refl _ _) hC (by show _ = _; simp)
    · rw [if_pos (by decide)]
      intro a W K hC hd hK
      replace hC : (GetC (orB S (w.heap.size + 2)) S wa p ⟨bs, re⟩ ⟨qb, qe⟩ w1.heap.size (w.heap.size + 1) (w.heap.size + 2) #[.int .u8 k, .int .u64 x, .bool is, .string s, .slice LA L.length Lc, .int .i64 most, .int .i64 long, .int .i64 ee]) 1 W := hC
      have d6 : a.tmps[6]?.getD undef = .pointer (some ⟨w.heap.size + 2, 0, none⟩) := hd 6 (by decide)
      have d35 : a.tmps[35]?.getD undef = .agg #[.string (mkS qb), .int .i64 (qe : Nat)] := hd 35 (by decide)
      obtain ⟨b0, b1⟩ := cells2 hC.res
      have z0 : ∀ j, W.frozen? ⟨w.heap.size + 2, j, none⟩ = false := fun j => by simp [World.frozen?, hC.res]
      refine wpOp_plain rfl rfl ?_
      have hs := hC.store (Or.inr rfl) (by omega) (by omega) n3
      go_wp2_with fail
      exact hK undef _ hs.2 hs.1 trivial
    · rw [if_neg (by decide)]; intro kq
      exact calm_mv 40 rfl rfl (Or.inr rfl) (Fr.refl _) (by decide) fun v w hd => hd
  · intro vs w9 fw9 cw9 hV
    have v7 : vs 7 = .bool true := hV 7 _ _ rfl rfl (by decide)
    clear hV
    simp only [putL, Act.put, List.setIfInBounds_toArray, List.set_cons_zero, List.set_cons_succ, v7]
    obtain ⟨b0, b1⟩ := cells2 cw9.res
    go_wp2_with fail
    exact bodyPost_ret (v := .tuple #[.agg #[.string (mkS qb), .int .i64 (qe : Nat)], .bool true]) (by simp [results, Try.results31, go_sem, b0, b1]) rfl
      ⟨by rw [HB.out]; rfl, by rw [HB.out]; exact cw9.rd, (f3.mono fun _ _ h => h.elim).trans fw9 (fun i hi h => h.elim id (fun h => by omega))⟩

set_option maxRecDepth 100000 in
set_option maxHeartbeats 3200000 in
theorem get1 (w : World) (S : Nat → Prop) (p : Nat) (r : Rd) (i : Item) (h : RdAt w S p r) (hi : r.inv) (hl : r.bs.length ≤ 1000000000000) (hS : ∀ k, S k → k < w.heap.size) (hw : i.wf) (hk : i.k % 9 = 1) :
    Calls Try.prog 31 #[.pointer (some ⟨p, 0, none⟩), .agg #[.string (mkS r.bs), .int .i64 (r.e : Nat)], .agg i.cells.toArray] w (GetPost w S p (i.rd r)) := by
  have HB : Hid (i.rd r = (rNum r 2).1) := by unfold Hid Item.rd; skip; simp only [hk]
  have hc := fun W => getR_calls W r 2 hi hl (by omega)
  have hr := fun W (h : RdAt W S p r) => twoRd_calls W S p r h
  have hx := rNum_lt r 2
  generalize rNum r 2 = qq at *
  obtain ⟨⟨qb, qe⟩, n⟩ := qq
  obtain ⟨k, x, is, s, LA, Lc, L, most, long, ee⟩ := i
  obtain ⟨m1, m2, l1, l2, e1, e2⟩ := hw
  obtain ⟨bs, re⟩ := r
  simp only [Item.cells, Rd.val] at *
  replace hx : n < 65536 := hx
  have t0 : ((k : Int) % 9 == 0) = false := by simp; omega
  have t1 : ((k : Int) % 9 == 1) = true := by simp; omega
  have HK := hid hk; clear hk
  unfold RPost at hr
  try simp only [Rd.val] at *
  go_enter Try.func31, Try.ntmps31
  have a3 : (((w.alloc (.cells #[.string (mkS bs), .int .i64 (re : Nat)] 59)).alloc (.cells #[.int .u8 k, .int .u64 x, .bool is, .string s, .slice LA L.length Lc, .int .i64 most, .int .i64 long, .int .i64 ee] 27)).alloc (.cells #[.string ⟨#[]⟩, .int .i64 0] 59)).heap[w.heap.size + 2]? = some (.cells #[.string ⟨#[]⟩, .int .i64 0] 59 (0, 0)) := (heap_three w _ _ _).2
  have a2 : (((w.alloc (.cells #[.string (mkS bs), .int .i64 (re : Nat)] 59)).alloc (.cells #[.int .u8 k, .int .u64 x, .bool is, .string s, .slice LA L.length Lc, .int .i64 most, .int .i64 long, .int .i64 ee] 27)).alloc (.cells #[.string ⟨#[]⟩, .int .i64 0] 59)).heap[w.heap.size + 1]? = some (.cells #[.int .u8 k, .int .u64 x, .bool is, .string s, .slice LA L.length Lc, .int .i64 most, .int .i64 long, .int .i64 ee] 27 (0, 0)) := (heap_three w _ _ _).1
  go_wp2_with fail
  refine (hc _).mono ?_
  rintro e w1 ⟨rfl, f1⟩
  clear hc
  have b3 := f1.heap a3 id
  have b2 := f1.heap a2 id
  have z1 := f1.size
  have z2 : w.heap.size + 2 < w1.heap.size := by simp at z1; omega
  have f2 : Fr noB w w1 := ((((Fr.refl _ _).alloc _).alloc _).alloc _).then' f1
  have F1 := hid f1
  clear f1 z1 a2 a3
  go_wp2_with fail
  have c1 := heap_alloc_new w1 (.cells #[.string (mkS qb), .int .i64 (qe : Nat)] 59)
  have c2 := heap_al b2 (.cells #[.string (mkS qb), .int .i64 (qe : Nat)] 59)
  have c3 := heap_al b3 (.cells #[.string (mkS qb), .int .i64 (qe : Nat)] 59)
  have f3 : Fr noB w (w1.alloc (.cells #[.string (mkS qb), .int .i64 (qe : Nat)] 59)) := f2.alloc _
  have z3 : w1.heap.size < (w1.alloc (.cells #[.string (mkS qb), .int .i64 (qe : Nat)] 59)).heap.size := by simp
  generalize w1.alloc (.cells #[.string (mkS qb), .int .i64 (qe : Nat)] 59) = wa at *
  have hra : RdAt wa S p ⟨bs, re⟩ := h.fr f3 (fun _ _ _ => id)
  have n1 : ¬ S w1.heap.size := fun h => by have := hS _ h; omega
  have n2 : ¬ S (w.heap.size + 1) := fun h => by have := hS _ h; omega
  have n3 : ¬ S (w.heap.size + 2) := fun h => by have := hS _ h; omega
  have hU : ∀ k, orB S (w.heap.size + 2) k → k < w.heap.size + 3 := fun k h => h.elim (fun h => by have := hS _ h; omega) (fun h => by omega)
  have hC0 : GetC (orB S (w.heap.size + 2)) S wa p ⟨bs, re⟩ ⟨qb, qe⟩ w1.heap.size (w.heap.size + 1) (w.heap.size + 2) #[.int .u8 k, .int .u64 x, .bool is, .string s, .slice LA L.length Lc, .int .i64 most, .int .i64 long, .int .i64 ee] 0 wa.drew := ⟨(Fr.refl _ _).drew, hra.fr ((Fr.refl noB _).drew) (fun _ _ _ => id), c1, c2, c3⟩
  refine wp_region_calm (R := Fr (orB S (w.heap.size + 2))) (C := GetC (orB S (w.heap.size + 2)) S wa p ⟨bs, re⟩ ⟨qb, qe⟩ w1.heap.size (w.heap.size + 1) (w.heap.size + 2) #[.int .u8 k, .int .u64 x, .bool is, .string s, .slice LA L.length Lc, .int .i64 most, .int .i64 long, .int .i64 ee]) [false, false, true, false, false, false, true, false]
    [eqv (.agg #[.string (mkS qb), .int .i64 (qe : Nat)]), eqv (.pointer (some ⟨p, 0, none⟩)), eqv (.int .u16 (n : Nat)), eqv (.int .u64 (n : Nat)), eqv (.int .u64 (n : Nat)), eqv (.bool true), anyv, eqv (.bool true)]
    (by kernel_rfl) (by kernel_rfl) (fun _ _ _ h1 h2 => h1.then' h2) ((Fr.refl _ _).drew) hC0 (by kernel_rfl) ?_ ?_
  · refine ⟨?_, ?_, ?_, ?_, ?_, ?_, ?_, ?_, trivial⟩
    · rw [if_neg (by decide)]; intro kq
      intro a W K hC hd hK
      have d10 : a.tmps[10]?.getD undef = .pointer (some ⟨w1.heap.size, 0, none⟩) := hd 10 (by decide)
      obtain ⟨b0, b1⟩ := cells2 hC.box
      refine wpOp_plain rfl rfl ?_
      go_wp2_with fail
      exact hK _ _ (Fr.refl _ _) hC rfl
    · rw [if_neg (by decide)]; intro kq
      exact calm_mv 0 rfl rfl (Or.inl rfl) (Fr.refl _) (by decide) fun v w hd => hd
    · rw [if_pos (by decide)]
      intro a W K hC hd hK
      replace hC : (GetC (orB S (w.heap.size + 2)) S wa p ⟨bs, re⟩ ⟨qb, qe⟩ w1.heap.size (w.heap.size + 1) (w.heap.size + 2) #[.int .u8 k, .int .u64 x, .bool is, .string s, .slice LA L.length Lc, .int .i64 most, .int .i64 long, .int .i64 ee]) 0 W := hC
      have d49 : a.tmps[49]?.getD undef = .pointer (some ⟨p, 0, none⟩) := hd 49 (by decide)
      refine wpOp_plain rfl rfl ?_
      go_wp2_with fail
      refine (hr W hC.rd).mono ?_
      rintro e w' ⟨rfl, h1, f1⟩
      exact hK _ _ (f1.mono fun _ _ h => Or.inl h) (hC.call h1 f1 (fun _ h => Or.inl h) n1 n2 n3) rfl
    · rw [if_neg (by decide)]; intro kq
      intro a W K hC hd hK
      have d50 : a.tmps[50]?.getD undef = .int .u16 (n : Nat) := hd 50 (by decide)
      refine wpOp_plain rfl rfl ?_
      go_wp2_with fail
      exact hK _ _ (Fr.refl _ _) hC (by show _ = _; simp <;> omega)
    · rw [if_neg (by decide)]; intro kq
      exact calm_mv 11 rfl rfl (Or.inl rfl) (Fr.refl _) (by decide) fun v w hd => hd
    · rw [if_neg (by decide)]; intro kq
      intro a W K hC hd hK
      have d51 : a.tmps[51]?.getD undef = .int .u64 (n : Nat) := hd 51 (by decide)
      have d52 : a.tmps[52]?.getD undef = .int .u64 (n : Nat) := hd 52 (by decide)
      refine wpOp_plain rfl rfl ?_
      go_wp2_with fail
      exact hK _ _ (Fr.refl _ _) hC (by show _ = _; simp)
    · rw [if_pos (by decide)]
      intro a W K hC hd hK
      replace hC : (GetC (orB S (w.heap.size + 2)) S wa p ⟨bs, re⟩ ⟨qb, qe⟩ w1.heap.size (w.heap.size + 1) (w.heap.size + 2) #[.int .u8 k, .int .u64 x, .bool is, .string s, .slice LA L.length Lc, .int .i64 most, .int .i64 long, .int .i64 ee]) 1 W := hC
      have d6 : a.tmps[6]?.getD undef = .pointer (some ⟨w.heap.size + 2, 0, none⟩) := hd 6 (by decide)
      have d48 : a.tmps[48]?.getD undef = .agg #[.string (mkS qb), .int .i64 (qe : Nat)] := hd 48 (by decide)
      obtain ⟨b0, b1⟩ := cells2 hC.res
      have z0 : ∀ j, W.frozen? ⟨w.heap.size + 2, j, none⟩ = false := fun j => by simp [World.frozen?, hC.res]
      refine wpOp_plain rfl rfl ?_
      have hs := hC.store (Or.inr rfl) (by omega) (by omega) n3
      go_wp2_with fail
      exact hK undef _ hs.2 hs.1 trivial
    · rw [if_neg (by decide)]; intro kq
      exact calm_mv 53 rfl rfl (Or.inr rfl) (Fr.refl _) (by decide) fun v w hd => hd
  · intro vs w9 fw9 cw9 hV
    have v7 : vs 7 = .bool true := hV 7 _ _ rfl rfl (by decide)
    clear hV
    simp only [putL, Act.put, List.setIfInBounds_toArray, List.set_cons_zero, List.set_cons_succ, v7]
    obtain ⟨b0, b1⟩ := cells2 cw9.res
    go_wp2_with fail
    exact bodyPost_ret (v := .tuple #[.agg #[.string (mkS qb), .int .i64 (qe : Nat)], .bool true]) (by simp [results, Try.results31, go_sem, b0, b1]) rfl
      ⟨by rw [HB.out]; rfl, by rw [HB.out]; exact cw9.rd, (f3.mono fun _ _ h => h.elim).trans fw9 (fun i hi h => h.elim id (fun h => by omega))⟩

set_option maxRecDepth 100000 in
set_option maxHeartbeats 3200000 in
theorem get2 (w : World) (S : Nat → Prop) (p : Nat) (r : Rd) (i : Item) (h : RdAt w S p r) (hi : r.inv) (hl : r.bs.length ≤ 1000000000000) (hS : ∀ k, S k → k < w.heap.size) (hw : i.wf) (hk : i.k % 9 = 2) :
    Calls Try.prog 31 #[.pointer (some ⟨p, 0, none⟩), .agg #[.string (mkS r.bs), .int .i64 (r.e : Nat)], .agg i.cells.toArray] w (GetPost w S p (i.rd r)) := by
  have HB : Hid (i.rd r = (rNum r 4).1) := by unfold Hid Item.rd; skip; simp only [hk]
  have hc := fun W => getR_calls W r 4 hi hl (by omega)
  have hr := fun W (h : RdAt W S p r) => fourRd_calls W S p r h
  have hx := rNum_lt r 4
  generalize rNum r 4 = qq at *
  obtain ⟨⟨qb, qe⟩, n⟩ := qq
  obtain ⟨k, x, is, s, LA, Lc, L, most, long, ee⟩ := i
  obtain ⟨m1, m2, l1, l2, e1, e2⟩ := hw
  obtain ⟨bs, re⟩ := r
  simp only [Item.cells, Rd.val] at *
  replace hx : n < 4294967296 := hx
  have t0 : ((k : Int) % 9 == 0) = false := by simp; omega
  have t1 : ((k : Int) % 9 == 1) = false := by simp; omega
  have t2 : ((k : Int) % 9 == 2) = true := by simp; omega
  have HK := hid hk; clear hk
  unfold RPost at hr
  try simp only [Rd.val] at *
  go_enter Try.func31, Try.ntmps31
  have a3 : (((w.alloc (.cells #[.string (mkS bs), .int .i64 (re : Nat)] 59)).alloc (.cells #[.int .u8 k, .int .u64 x, .bool is, .string s, .slice LA L.length Lc, .int .i64 most, .int .i64 long, .int .i64 ee] 27)).alloc (.cells #[.string ⟨#[]⟩, .int .i64 0] 59)).heap[w.heap.size + 2]? = some (.cells #[.string ⟨#[]⟩, .int .i64 0] 59 (0, 0)) := (heap_three w _ _ _).2
  have a2 : (((w.alloc (.cells #[.string (mkS bs), .int .i64 (re : Nat)] 59)).alloc (.cells #[.int .u8 k, .int .u64 x, .bool is, .string s, .slice LA L.length Lc, .int .i64 most, .int .i64 long, .int .i64 ee] 27)).alloc (.cells #[.string ⟨#[]⟩, .int .i64 0] 59)).heap[w.heap.size + 1]? = some (.cells #[.int .u8 k, .int .u64 x, .bool is, .string s, .slice LA L.length Lc, .int .i64 most, .int .i64 long, .int .i64 ee] 27 (0, 0)) := (heap_three w _ _ _).1
  go_wp2_with fail
  refine (hc _).mono ?_
  rintro e w1 ⟨rfl, f1⟩
  clear hc
  have b3 := f1.heap a3 id
  have b2 := f1.heap a2 id
  have z1 := f1.size
  have z2 : w.heap.size + 2 < w1.heap.size := by simp at z1; omega
  have f2 : Fr noB w w1 := ((((Fr.refl _ _).alloc _).alloc _).alloc _).then' f1
  have F1 := hid f1
  clear f1 z1 a2 a3
  go_wp2_with fail
  have c1 := heap_alloc_new w1 (.cells #[.string (mkS qb), .int .i64 (qe : Nat)] 59)
  have c2 := heap_al b2 (.cells #[.string (mkS qb), .int .i64 (qe : Nat)] 59)
  have c3 := heap_al b3 (.cells #[.string (mkS qb), .int .i64 (qe : Nat)] 59)
  have f3 : Fr noB w (w1.alloc (.cells #[.string (mkS qb), .int .i64 (qe : Nat)] 59)) := f2.alloc _
  have z3 : w1.heap.size < (w1.alloc (.cells #[.string (mkS qb), .int .i64 (qe : Nat)] 59)).heap.size := by simp
  generalize w1.alloc (.cells #[.string (mkS qb), .int .i64 (qe : Nat)] 59) = wa at *
  have hra : RdAt wa S p ⟨bs, re⟩ := h.fr f3 (fun _ _ _ => id)
  have n1 : ¬ S w1.heap.size := fun h => by have := hS _ h; omega
  have n2 : ¬ S (w.heap.size + 1) := fun h => by have := hS _ h; omega
  have n3 : ¬ S (w.heap.size + 2) := fun h => by have := hS _ h; omega
  have hU : ∀ k, orB S (w.heap.size + 2) k → k < w.heap.size + 3 := fun k h => h.elim (fun h => by have := hS _ h; omega) (fun h => by omega)
  have hC0 : GetC (orB S (w.heap.size + 2)) S wa p ⟨bs, re⟩ ⟨qb, qe⟩ w1.heap.size (w.heap.size + 1) (w.heap.size + 2) #[.int .u8 k, .int .u64 x, .bool is, .string s, .slice LA L.length Lc, .int .i64 most, .int .i64 long, .int .i64 ee] 0 wa.drew := ⟨(Fr.refl _ _).drew, hra.fr ((Fr.refl noB _).drew) (fun _ _ _ => id), c1, c2, c3⟩
  refine wp_region_calm (R := Fr (orB S (w.heap.size + 2))) (C := GetC (orB S (w.heap.size + 2)) S wa p ⟨bs, re⟩ ⟨qb, qe⟩ w1.heap.size (w.heap.size + 1) (w.heap.size + 2) #[.int .u8 k, .int .u64 x, .bool is, .string s, .slice LA L.length Lc, .int .i64 most, .int .i64 long, .int .i64 ee]) [false, false, true, false, false, false, true, false]
    [eqv (.agg #[.string (mkS qb), .int .i64 (qe : Nat)]), eqv (.pointer (some ⟨p, 0, none⟩)), eqv (.int .u32 (n : Nat)), eqv (.int .u64 (n : Nat)), eqv (.int .u64 (n : Nat)), eqv (.bool true), anyv, eqv (.bool true)]
    (by kernel_rfl) (by kernel_rfl) (fun _ _ _ h1 h2 => h1.then' h2) ((Fr.refl _ _).drew) hC0 (by kernel_rfl) ?_ ?_
  · refine ⟨?_, ?_, ?_, ?_, ?_, ?_, ?_, ?_, trivial⟩
    · rw [if_neg (by decide)]; intro kq
      intro a W K hC hd hK
      have d12 : a.tmps[12]?.getD undef = .pointer (some ⟨w1.heap.size, 0, none⟩) := hd 12 (by decide)
      obtain ⟨b0, b1⟩ := cells2 hC.box
      refine wpOp_plain rfl rfl ?_
      go_wp2_with fail
      exact hK _ _ (Fr.refl _ _) hC rfl
    · rw [if_neg (by decide)]; intro kq
      exact calm_mv 0 rfl rfl (Or.inl rfl) (Fr.refl _) (by decide) fun v w hd => hd
    · rw [if_pos (by decide)]
      intro a W K hC hd hK
      replace hC : (GetC (orB S (w.heap.size + 2)) S wa p ⟨bs, re⟩ ⟨qb, qe⟩ w1.heap.size (w.heap.size + 1) (w.heap.size + 2) #[.int .u8 k, .int .u64 x, .bool is, .string s, .slice LA L.length Lc, .int .i64 most, .int .i64 long, .int .i64 ee]) 0 W := hC
      have d62 : a.tmps[62]?.getD undef = .pointer (some ⟨p, 0, none⟩) := hd 62 (by decide)
      refine wpOp_plain rfl rfl ?_
      go_wp2_with fail
      refine (hr W hC.rd).mono ?_
      rintro e w' ⟨rfl, h1, f1⟩
      exact hK _ _ (f1.mono fun _ _ h => Or.inl h) (hC.call h1 f1 (fun _ h => Or.inl h) n1 n2 n3) rfl
    · rw [if_neg (by decide)]; intro kq
      intro a W K hC hd hK
      have d63 : a.tmps[63]?.getD undef = .int .u32 (n : Nat) := hd 63 (by decide)
      refine wpOp_plain rfl rfl ?_
      go_wp2_with fail
      exact hK _ _ (Fr.refl _ _) hC (by show _ = _; simp <;> omega)
    · rw [if_neg (by decide)]; intro kq
      exact calm_mv 13 rfl rfl (Or.inl rfl) (Fr.refl _) (by decide) fun v w hd => hd
    · rw [if_neg (by decide)]; intro kq
      intro a W K hC hd hK
      have d64 : a.tmps[64]?.getD undef = .int .u64 (n : Nat) := hd 64 (by decide)
      have d65 : a.tmps[65]?.getD undef = .int .u64 (n : Nat) := hd 65 (by decide)
      refine wpOp_plain rfl rfl ?_
      go_wp2_with fail
      exact hK _ _ (Fr.refl _ _) hC (by show _ = _; simp)
    · rw [if_pos (by decide)]
      intro a W K hC hd hK
      replace hC : (GetC (orB S (w.heap.size + 2)) S wa p ⟨bs, re⟩ ⟨qb, qe⟩ w1.heap.size (w.heap.size + 1) (w.heap.size + 2) #[.int .u8 k, .int .u64 x, .bool is, .string s, .slice LA L.length Lc, .int .i64 most, .int .i64 long, .int .i64 ee]) 1 W := hC
      have d6 : a.tmps[6]?.getD undef = .pointer (some ⟨w.heap.size + 2, 0, none⟩) := hd 6 (by decide)
      have d61 : a.tmps[61]?.getD undef = .agg #[.string (mkS qb), .int .i64 (qe : Nat)] := hd 61 (by decide)
      obtain ⟨b0, b1⟩ := cells2 hC.res
      have z0 : ∀ j, W.frozen? ⟨w.heap.size + 2, j, none⟩ = false := fun j => by simp [World.frozen?, hC.res]
      refine wpOp_plain rfl rfl ?_
      have hs := hC.store (Or.inr rfl) (by omega) (by omega) n3
      go_wp2_with fail
      exact hK undef _ hs.2 hs.1 trivial
    · rw [if_neg (by decide)]; intro kq
      exact calm_mv 66 rfl rfl (Or.inr rfl) (Fr.refl _) (by decide) fun v w hd => hd
  · intro vs w9 fw9 cw9 hV
    have v7 : vs 7 = .bool true := hV 7 _ _ rfl rfl (by decide)
    clear hV
    simp only [putL, Act.put, List.setIfInBounds_toArray, List.set_cons_zero, List.set_cons_succ, v7]
    obtain ⟨b0, b1⟩ := cells2 cw9.res
    go_wp2_with fail
    exact bodyPost_ret (v := .tuple #[.agg #[.string (mkS qb), .int .i64 (qe : Nat)], .bool true]) (by simp [results, Try.results31, go_sem, b0, b1]) rfl
      ⟨by rw [HB.out]; rfl, by rw [HB.out]; exact cw9.rd, (f3.mono fun _ _ h => h.elim).trans fw9 (fun i hi h => h.elim id (fun h => by omega))⟩

set_option maxRecDepth 100000 in
set_option maxHeartbeats 3200000 in
theorem get3 (w : World) (S : Nat → Prop) (p : Nat) (r : Rd) (i : Item) (h : RdAt w S p r) (hi : r.inv) (hl : r.bs.length ≤ 1000000000000) (hS : ∀ k, S k → k < w.heap.size) (hw : i.wf) (hk : i.k % 9 = 3) :
    Calls Try.prog 31 #[.pointer (some ⟨p, 0, none⟩), .agg #[.string (mkS r.bs), .int .i64 (r.e : Nat)], .agg i.cells.toArray] w (GetPost w S p (i.rd r)) := by
  have HB : Hid (i.rd r = (rNum r 8).1) := by unfold Hid Item.rd; skip; simp only [hk]
  have hc := fun W => getR_calls W r 8 hi hl (by omega)
  have hr := fun W (h : RdAt W S p r) => eightRd_calls W S p r h
  have hx := rNum_lt r 8
  generalize rNum r 8 = qq at *
  obtain ⟨⟨qb, qe⟩, n⟩ := qq
  obtain ⟨k, x, is, s, LA, Lc, L, most, long, ee⟩ := i
  obtain ⟨m1, m2, l1, l2, e1, e2⟩ := hw
  obtain ⟨bs, re⟩ := r
  simp only [Item.cells, Rd.val] at *
  replace hx : n < 18446744073709551616 := hx
  have t0 : ((k : Int) % 9 == 0) = false := by simp; omega
  have t1 : ((k : Int) % 9 == 1) = false := by simp; omega
  have t2 : ((k : Int) % 9 == 2) = false := by simp; omega
  have t3 : ((k : Int) % 9 == 3) = true := by simp; omega
  have HK := hid hk; clear hk
  unfold RPost at hr
  try simp only [Rd.val] at *
  go_enter Try.func31, Try.ntmps31
  have a3 : (((w.alloc (.cells #[.string (mkS bs), .int .i64 (re : Nat)] 59)).alloc (.cells #[.int .u8 k, .int .u64 x, .bool is, .string s, .slice LA L.length Lc, .int .i64 most, .int .i64 long, .int .i64 ee] 27)).alloc (.cells #[.string ⟨#[]⟩, .int .i64 0] 59)).heap[w.heap.size + 2]? = some (.cells #[.string ⟨#[]⟩, .int .i64 0] 59 (0, 0)) := (heap_three w _ _ _).2
  have a2 : (((w.alloc (.cells #[.string (mkS bs), .int .i64 (re : Nat)] 59)).alloc (.cells #[.int .u8 k, .int .u64 x, .bool is, .string s, .slice LA L.length Lc, .int .i64 most, .int .i64 long, .int .i64 ee] 27)).alloc (.cells #[.string ⟨#[]⟩, .int .i64 0] 59)).heap[w.heap.size + 1]? = some (.cells #[.int .u8 k, .int .u64 x, .bool is, .string s, .slice LA L.length Lc, .int .i64 most, .int .i64 long, .int .i64 ee] 27 (0, 0)) := (heap_three w _ _ _).1
  go_wp2_with fail
  refine (hc _).mono ?_
  rintro e w1 ⟨rfl, f1⟩
  clear hc
  have b3 := f1.heap a3 id
  have b2 := f1.heap a2 id
  have z1 := f1.size
  have z2 : w.heap.size + 2 < w1.heap.size := by simp at z1; omega
  have f2 : Fr noB w w1 := ((((Fr.refl _ _).alloc _).alloc _).alloc _).then' f1
  have F1 := hid f1
  clear f1 z1 a2 a3
  go_wp2_with fail
  have c1 := heap_alloc_new w1 (.cells #[.string (mkS qb), .int .i64 (qe : Nat)] 59)
  have c2 := heap_al b2 (.cells #[.string (mkS qb), .int .i64 (qe : Nat)] 59)
  have c3 := heap_al b3 (.cells #[.string (mkS qb), .int .i64 (qe : Nat)] 59)
  have f3 : Fr noB w (w1.alloc (.cells #[.string (mkS qb), .int .i64 (qe : Nat)] 59)) := f2.alloc _
  have z3 : w1.heap.size < (w1.alloc (.cells #[.string (mkS qb), .int .i64 (qe : Nat)] 59)).heap.size := by simp
  generalize w1.alloc (.cells #[.string (mkS qb), .int .i64 (qe : Nat)] 59) = wa at *
  have hra : RdAt wa S p ⟨bs, re⟩ := h.fr f3 (fun _ _ _ => id)
  have n1 : ¬ S w1.heap.size := fun h => by have := hS _ h; omega
  have n2 : ¬ S (w.heap.size + 1) := fun h => by have := hS _ h; omega
  have n3 : ¬ S (w.heap.size + 2) := fun h => by have := hS _ h; omega
  have hU : ∀ k, orB S (w.heap.size + 2) k → k < w.heap.size + 3 := fun k h => h.elim (fun h => by have := hS _ h; omega) (fun h => by omega)
  have hC0 : GetC (orB S (w.heap.size + 2)) S wa p ⟨bs, re⟩ ⟨qb, qe⟩ w1.heap.size (w.heap.size + 1) (w.heap.size + 2) #[.int .u8 k, .int .u64 x, .bool is, .string s, .slice LA L.length Lc, .int .i64 most, .int .i64 long, .int .i64 ee] 0 wa.drew := ⟨(Fr.refl _ _).drew, hra.fr ((Fr.refl noB _).drew) (fun _ _ _ => id), c1, c2, c3⟩
  refine wp_region_calm (R := Fr (orB S (w.heap.size + 2))) (C := GetC (orB S (w.heap.size + 2)) S wa p ⟨bs, re⟩ ⟨qb, qe⟩ w1.heap.size (w.heap.size + 1) (w.heap.size + 2) #[.int .u8 k, .int .u64 x, .bool is, .string s, .slice LA L.length Lc, .int .i64 most, .int .i64 long, .int .i64 ee]) [false, false, true, false, false, true, false]
    [eqv (.agg #[.string (mkS qb), .int .i64 (qe : Nat)]), eqv (.pointer (some ⟨p, 0, none⟩)), eqv (.int .u64 (n : Nat)), eqv (.int .u64 (n : Nat)), eqv (.bool true), anyv, eqv (.bool true)]
    (by kernel_rfl) (by kernel_rfl) (fun _ _ _ h1 h2 => h1.then' h2) ((Fr.refl _ _).drew) hC0 (by kernel_rfl) ?_ ?_
  · refine ⟨?_, ?_, ?_, ?_, ?_, ?_, ?_, trivial⟩
    · rw [if_neg (by decide)]; intro kq
      intro a W K hC hd hK
      have d14 : a.tmps[14]?.getD undef = .pointer (some ⟨w1.heap.size, 0, none⟩) := hd 14 (by decide)
      obtain ⟨b0, b1⟩ := cells2 hC.box
      refine wpOp_plain rfl rfl ?_
      go_wp2_with fail
      exact hK _ _ (Fr.refl _ _) hC rfl
    · rw [if_neg (by decide)]; intro kq
      exact calm_mv 0 rfl rfl (Or.inl rfl) (Fr.refl _) (by decide) fun v w hd => hd
    · rw [if_pos (by decide)]
      intro a W K hC hd hK
      replace hC : (GetC (orB S (w.heap.size + 2)) S wa p ⟨bs, re⟩ ⟨qb, qe⟩ w1.heap.size (w.heap.size + 1) (w.heap.size + 2) #[.int .u8 k, .int .u64 x, .bool is, .string s, .slice LA L.length Lc, .int .i64 most, .int .i64 long, .int .i64 ee]) 0 W := hC
      have d75 : a.tmps[75]?.getD undef = .pointer (some ⟨p, 0, none⟩) := hd 75 (by decide)
      refine wpOp_plain rfl rfl ?_
      go_wp2_with fail
      refine (hr W hC.rd).mono ?_
      rintro e w' ⟨rfl, h1, f1⟩
      exact hK _ _ (f1.mono fun _ _ h => Or.inl h) (hC.call h1 f1 (fun _ h => Or.inl h) n1 n2 n3) rfl
    · rw [if_neg (by decide)]; intro kq
      exact calm_mv 15 rfl rfl (Or.inl rfl) (Fr.refl _) (by decide) fun v w hd => hd
    · rw [if_neg (by decide)]; intro kq
      intro a W K hC hd hK
      have d76 : a.tmps[76]?.getD undef = .int .u64 (n : Nat) := hd 76 (by decide)
      have d77 : a.tmps[77]?.getD undef = .int .u64 (n : Nat) := hd 77 (by decide)
      refine wpOp_plain rfl rfl ?_
      go_wp2_with fail
      exact hK _ _ (Fr.refl _ _) hC (by show _ = _; simp)
    · rw [if_pos (by decide)]
      intro a W K hC hd hK
      replace hC : (GetC (orB S (w.heap.size + 2)) S wa p ⟨bs, re⟩ ⟨qb, qe⟩ w1.heap.size (w.heap.size + 1) (w.heap.size + 2) #[.int .u8 k, .int .u64 x, .bool is, .string s, .slice LA L.length Lc, .int .i64 most, .int .i64 long, .int .i64 ee]) 1 W := hC
      have d6 : a.tmps[6]?.getD undef = .pointer (some ⟨w.heap.size + 2, 0, none⟩) := hd 6 (by decide)
      have d74 : a.tmps[74]?.getD undef = .agg #[.string (mkS qb), .int .i64 (qe : Nat)] := hd 74 (by decide)
      obtain ⟨b0, b1⟩ := cells2 hC.res
      have z0 : ∀ j, W.frozen? ⟨w.heap.size + 2, j, none⟩ = false := fun j => by simp [World.frozen?, hC.res]
      refine wpOp_plain rfl rfl ?_
      have hs := hC.store (Or.inr rfl) (by omega) (by omega) n3
      go_wp2_with fail
      exact hK undef _ hs.2 hs.1 trivial
    · rw [if_neg (by decide)]; intro kq
      exact calm_mv 78 rfl rfl (Or.inr rfl) (Fr.refl _) (by decide) fun v w hd => hd
  · intro vs w9 fw9 cw9 hV
    have v7 : vs 6 = .bool true := hV 6 _ _ rfl rfl (by decide)
    clear hV
    simp only [putL, Act.put, List.setIfInBounds_toArray, List.set_cons_zero, List.set_cons_succ, v7]
    obtain ⟨b0, b1⟩ := cells2 cw9.res
    go_wp2_with fail
    exact bodyPost_ret (v := .tuple #[.agg #[.string (mkS qb), .int .i64 (qe : Nat)], .bool true]) (by simp [results, Try.results31, go_sem, b0, b1]) rfl
      ⟨by rw [HB.out]; rfl, by rw [HB.out]; exact cw9.rd, (f3.mono fun _ _ h => h.elim).trans fw9 (fun i hi h => h.elim id (fun h => by omega))⟩

set_option maxRecDepth 100000 in
set_option maxHeartbeats 3200000 in
theorem get4 (w : World) (S : Nat → Prop) (p : Nat) (r : Rd) (i : Item) (h : RdAt w S p r) (hi : r.inv) (hl : r.bs.length ≤ 1000000000000) (hS : ∀ k, S k → k < w.heap.size) (hw : i.wf) (hk : i.k % 9 = 4) :
    Calls Try.prog 31 #[.pointer (some ⟨p, 0, none⟩), .agg #[.string (mkS r.bs), .int .i64 (r.e : Nat)], .agg i.cells.toArray] w (GetPost w S p (i.rd r)) := by
  have HB : Hid (i.rd r = (rTruth r).1) := by unfold Hid Item.rd; skip; simp only [hk]
  have hc := fun W => truthGetR_calls W r hi hl
  have hr := fun W (h : RdAt W S p r) => truthRd_calls W S p r h
  generalize rTruth r = qq at *
  obtain ⟨⟨qb, qe⟩, n⟩ := qq
  obtain ⟨k, x, is, s, LA, Lc, L, most, long, ee⟩ := i
  obtain ⟨m1, m2, l1, l2, e1, e2⟩ := hw
  obtain ⟨bs, re⟩ := r
  simp only [Item.cells, Rd.val] at *
  have t0 : ((k : Int) % 9 == 0) = false := by simp; omega
  have t1 : ((k : Int) % 9 == 1) = false := by simp; omega
  have t2 : ((k : Int) % 9 == 2) = false := by simp; omega
  have t3 : ((k : Int) % 9 == 3) = false := by simp; omega
  have t4 : ((k : Int) % 9 == 4) = true := by simp; omega
  have HK := hid hk; clear hk
  unfold RRPost at hc
  unfold RPost at hr
  try simp only [Rd.val] at *
  go_enter Try.func31, Try.ntmps31
  have a3 : (((w.alloc (.cells #[.string (mkS bs), .int .i64 (re : Nat)] 59)).alloc (.cells #[.int .u8 k, .int .u64 x, .bool is, .string s, .slice LA L.length Lc, .int .i64 most, .int .i64 long, .int .i64 ee] 27)).alloc (.cells #[.string ⟨#[]⟩, .int .i64 0] 59)).heap[w.heap.size + 2]? = some (.cells #[.string ⟨#[]⟩, .int .i64 0] 59 (0, 0)) := (heap_three w _ _ _).2
  have a2 : (((w.alloc (.cells #[.string (mkS bs), .int .i64 (re : Nat)] 59)).alloc (.cells #[.int .u8 k, .int .u64 x, .bool is, .string s, .slice LA L.length Lc, .int .i64 most, .int .i64 long, .int .i64 ee] 27)).alloc (.cells #[.string ⟨#[]⟩, .int .i64 0] 59)).heap[w.heap.size + 1]? = some (.cells #[.int .u8 k, .int .u64 x, .bool is, .string s, .slice LA L.length Lc, .int .i64 most, .int .i64 long, .int .i64 ee] 27 (0, 0)) := (heap_three w _ _ _).1
  go_wp2_with fail
  refine (hc _).mono ?_
  rintro e w1 ⟨rfl, f1⟩
  clear hc
  have b3 := f1.heap a3 id
  have b2 := f1.heap a2 id
  have z1 := f1.size
  have z2 : w.heap.size + 2 < w1.heap.size := by simp at z1; omega
  have f2 : Fr noB w w1 := ((((Fr.refl _ _).alloc _).alloc _).alloc _).then' f1
  have F1 := hid f1
  clear f1 z1 a2 a3
  go_wp2_with fail
  have c1 := heap_alloc_new w1 (.cells #[.string (mkS qb), .int .i64 (qe : Nat)] 59)
  have c2 := heap_al b2 (.cells #[.string (mkS qb), .int .i64 (qe : Nat)] 59)
  have c3 := heap_al b3 (.cells #[.string (mkS qb), .int .i64 (qe : Nat)] 59)
  have f3 : Fr noB w (w1.alloc (.cells #[.string (mkS qb), .int .i64 (qe : Nat)] 59)) := f2.alloc _
  have z3 : w1.heap.size < (w1.alloc (.cells #[.string (mkS qb), .int .i64 (qe : Nat)] 59)).heap.size := by simp
  generalize w1.alloc (.cells #[.string (mkS qb), .int .i64 (qe : Nat)] 59) = wa at *
  have hra : RdAt wa S p ⟨bs, re⟩ := h.fr f3 (fun _ _ _ => id)
  have n1 : ¬ S w1.heap.size := fun h => by have := hS _ h; omega
  have n2 : ¬ S (w.heap.size + 1) := fun h => by have := hS _ h; omega
  have n3 : ¬ S (w.heap.size + 2) := fun h => by have := hS _ h; omega
  have hU : ∀ k, orB S (w.heap.size + 2) k → k < w.heap.size + 3 := fun k h => h.elim (fun h => by have := hS _ h; omega) (fun h => by omega)
  have hC0 : GetC (orB S (w.heap.size + 2)) S wa p ⟨bs, re⟩ ⟨qb, qe⟩ w1.heap.size (w.heap.size + 1) (w.heap.size + 2) #[.int .u8 k, .int .u64 x, .bool is, .string s, .slice LA L.length Lc, .int .i64 most, .int .i64 long, .int .i64 ee] 0 wa.drew := ⟨(Fr.refl _ _).drew, hra.fr ((Fr.refl noB _).drew) (fun _ _ _ => id), c1, c2, c3⟩
  refine wp_region_calm (R := Fr (orB S (w.heap.size + 2))) (C := GetC (orB S (w.heap.size + 2)) S wa p ⟨bs, re⟩ ⟨qb, qe⟩ w1.heap.size (w.heap.size + 1) (w.heap.size + 2) #[.int .u8 k, .int .u64 x, .bool is, .string s, .slice LA L.length Lc, .int .i64 most, .int .i64 long, .int .i64 ee]) [false, false, true, false, false, true, false]
    [eqv (.agg #[.string (mkS qb), .int .i64 (qe : Nat)]), eqv (.pointer (some ⟨p, 0, none⟩)), eqv (.bool n), eqv (.bool n), eqv (.bool true), anyv, eqv (.bool true)]
    (by kernel_rfl) (by kernel_rfl) (fun _ _ _ h1 h2 => h1.then' h2) ((Fr.refl _ _).drew) hC0 (by kernel_rfl) ?_ ?_
  · refine ⟨?_, ?_, ?_, ?_, ?_, ?_, ?_, trivial⟩
    · rw [if_neg (by decide)]; intro kq
      intro a W K hC hd hK
      have d16 : a.tmps[16]?.getD undef = .pointer (some ⟨w1.heap.size, 0, none⟩) := hd 16 (by decide)
      obtain ⟨b0, b1⟩ := cells2 hC.box
      refine wpOp_plain rfl rfl ?_
      go_wp2_with fail
      exact hK _ _ (Fr.refl _ _) hC rfl
    · rw [if_neg (by decide)]; intro kq
      exact calm_mv 0 rfl rfl (Or.inl rfl) (Fr.refl _) (by decide) fun v w hd => hd
    · rw [if_pos (by decide)]
      intro a W K hC hd hK
      replace hC : (GetC (orB S (w.heap.size + 2)) S wa p ⟨bs, re⟩ ⟨qb, qe⟩ w1.heap.size (w.heap.size + 1) (w.heap.size + 2) #[.int .u8 k, .int .u64 x, .bool is, .string s, .slice LA L.length Lc, .int .i64 most, .int .i64 long, .int .i64 ee]) 0 W := hC
      have d87 : a.tmps[87]?.getD undef = .pointer (some ⟨p, 0, none⟩) := hd 87 (by decide)
      refine wpOp_plain rfl rfl ?_
      go_wp2_with fail
      refine (hr W hC.rd).mono ?_
      rintro e w' ⟨rfl, h1, f1⟩
      exact hK _ _ (f1.mono fun _ _ h => Or.inl h) (hC.call h1 f1 (fun _ h => Or.inl h) n1 n2 n3) rfl
    · rw [if_neg (by decide)]; intro kq
      exact calm_mv 17 rfl rfl (Or.inl rfl) (Fr.refl _) (by decide) fun v w hd => hd
    · rw [if_neg (by decide)]; intro kq
      intro a W K hC hd hK
      have d88 : a.tmps[88]?.getD undef = .bool n := hd 88 (by decide)
      have d89 : a.tmps[89]?.getD undef = .bool n := hd 89 (by decide)
      refine wpOp_plain rfl rfl ?_
      go_wp2_with fail
      exact hK _ _ (Fr.refl _ _) hC (by show _ = _; simp)
    · rw [if_pos (by decide)]
      intro a W K hC hd hK
      replace hC : (GetC (orB S (w.heap.size + 2)) S wa p ⟨bs, re⟩ ⟨qb, qe⟩ w1.heap.size (w.heap.size + 1) (w.heap.size + 2) #[.int .u8 k, .int .u64 x, .bool is, .string s, .slice LA L.length Lc, .int .i64 most, .int .i64 long, .int .i64 ee]) 1 W := hC
      have d6 : a.tmps[6]?.getD undef = .pointer (some ⟨w.heap.size + 2, 0, none⟩) := hd 6 (by decide)
      have d86 : a.tmps[86]?.getD undef = .agg #[.string (mkS qb), .int .i64 (qe : Nat)] := hd 86 (by decide)
      obtain ⟨b0, b1⟩ := cells2 hC.res
      have z0 : ∀ j, W.frozen? ⟨w.heap.size + 2, j, none⟩ = false := fun j => by simp [World.frozen?, hC.res]
      refine wpOp_plain rfl rfl ?_
      have hs := hC.store (Or.inr rfl) (by omega) (by omega) n3
      go_wp2_with fail
      exact hK undef _ hs.2 hs.1 trivial
    · rw [if_neg (by decide)]; intro kq
      exact calm_mv 90 rfl rfl (Or.inr rfl) (Fr.refl _) (by decide) fun v w hd => hd
  · intro vs w9 fw9 cw9 hV
    have v7 : vs 6 = .bool true := hV 6 _ _ rfl rfl (by decide)
    clear hV
    simp only [putL, Act.put, List.setIfInBounds_toArray, List.set_cons_zero, List.set_cons_succ, v7]
    obtain ⟨b0, b1⟩ := cells2 cw9.res
    go_wp2_with fail
    exact bodyPost_ret (v := .tuple #[.agg #[.string (mkS qb), .int .i64 (qe : Nat)], .bool true]) (by simp [results, Try.results31, go_sem, b0, b1]) rfl
      ⟨by rw [HB.out]; rfl, by rw [HB.out]; exact cw9.rd, (f3.mono fun _ _ h => h.elim).trans fw9 (fun i hi h => h.elim id (fun h => by omega))⟩
end Go.Proofs.Ytcpcmcdfncjnaaa
