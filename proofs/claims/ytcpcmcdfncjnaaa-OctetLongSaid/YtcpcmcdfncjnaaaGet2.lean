/- interrexlaw01.get, the last kinds, and all. -/
import Derived.Test.YtcpcmcdfncjnaaaGet
namespace Go.Proofs.Ytcpcmcdfncjnaaa
open Go.RowKit

set_option maxRecDepth 100000 in
set_option maxHeartbeats 3200000 in
theorem get5 (w : World) (S : Nat → Prop) (p : Nat) (r : Rd) (i : Item) (h : RdAt w S p r) (hi : r.inv) (hl : r.bs.length ≤ 1000000000000) (hS : ∀ k, S k → k < w.heap.size) (hw : i.wf) (hk : i.k % 9 = 5) :
    Calls Try.prog 31 #[.pointer (some ⟨p, 0, none⟩), .agg #[.string (mkS r.bs), .int .i64 (r.e : Nat)], .agg i.cells.toArray] w (GetPost w S p (i.rd r)) := by
  have HB : Hid (i.rd r = (rText r i.most).1) := by unfold Hid Item.rd; skip; simp only [hk]
  have hc := fun W => textGetR_calls W r i.most hi hl hw.m1 hw.m2
  have hr := fun W (h : RdAt W S p r) => textRd_calls W S p r i.most h hw.m1 hw.m2
  generalize rText r i.most = qq at *
  obtain ⟨⟨qb, qe⟩, n⟩ := qq
  obtain ⟨k, x, is, s, LA, Lc, L, most, long, ee⟩ := i
  obtain ⟨m1, m2, l1, l2, e1, e2⟩ := hw
  obtain ⟨bs, re⟩ := r
  simp only [Item.cells, Rd.val] at *
  have t0 : ((k : Int) % 9 == 0) = false := by simp; omega
  have t1 : ((k : Int) % 9 == 1) = false := by simp; omega
  have t2 : ((k : Int) % 9 == 2) = false := by simp; omega
  have t3 : ((k : Int) % 9 == 3) = false := by simp; omega
  have t4 : ((k : Int) % 9 == 4) = false := by simp; omega
  have t5 : ((k : Int) % 9 == 5) = true := by simp; omega
  have HK := hid hk; clear hk
  unfold RRPost at hc
  unfold RPost at hr
  try simp only [Rd.val] at *
  go_enter Try.func31, Try.ntmps31
  have a3 : (((w.alloc (.cells #[.string (mkS bs), .int .i64 (re : Nat)] 59)).alloc (.cells #[.int .u8 k, .int .u64 x, .bool is, .string s, .slice LA L.length Lc, .int .i64 most, .int .i64 long, .int .i64 ee] 27)).alloc (.cells #[.string ⟨#[]⟩, .int .i64 0] 59)).heap[w.heap.size + 2]? = some (.cells #[.string ⟨#[]⟩, .int .i64 0] 59 (0, 0)) := (heap_three w _ _ _).2
  have a2 : (((w.alloc (.cells #[.string (mkS bs), .int .i64 (re : Nat)] 59)).alloc (.cells #[.int .u8 k, .int .u64 x, .bool is, .string s, .slice LA L.length Lc, .int .i64 most, .int .i64 long, .int .i64 ee] 27)).alloc (.cells #[.string ⟨#[]⟩, .int .i64 0] 59)).heap[w.heap.size + 1]? = some (.cells #[.int .u8 k, .int .u64 x, .bool is, .string s, .slice LA L.length Lc, .int .i64 most, .int .i64 long, .int .i64 ee] 27 (0, 0)) := (heap_three w _ _ _).1
  go_wp2_with fail
  refine (hc _).mono ?_
  rintro e w1 ⟨rfl, f1⟩
  clear hc
  have b3 := f1.heap a3 id
  have b2 := f1.heap a2 id
  have z1 := f1.size
  have z2 : w.heap.size + 2 < w1.heap.size := by simp at z1; omega
  have f2 : Fr noB w w1 := ((((Fr.refl _ _).alloc _).alloc _).alloc _).then' f1
  have F1 := hid f1
  clear f1 z1 a2 a3
  go_wp2_with fail
  have c1 := heap_alloc_new w1 (.cells #[.string (mkS qb), .int .i64 (qe : Nat)] 59)
  have c2 := heap_al b2 (.cells #[.string (mkS qb), .int .i64 (qe : Nat)] 59)
  have c3 := heap_al b3 (.cells #[.string (mkS qb), .int .i64 (qe : Nat)] 59)
  have f3 : Fr noB w (w1.alloc (.cells #[.string (mkS qb), .int .i64 (qe : Nat)] 59)) := f2.alloc _
  have z3 : w1.heap.size < (w1.alloc (.cells #[.string (mkS qb), .int .i64 (qe : Nat)] 59)).heap.size := by simp
  generalize w1.alloc (.cells #[.string (mkS qb), .int .i64 (qe : Nat)] 59) = wa at *
  have hra : RdAt wa S p ⟨bs, re⟩ := h.fr f3 (fun _ _ _ => id)
  have n1 : ¬ S w1.heap.size := fun h => by have := hS _ h; omega
  have n2 : ¬ S (w.heap.size + 1) := fun h => by have := hS _ h; omega
  have n3 : ¬ S (w.heap.size + 2) := fun h => by have := hS _ h; omega
  have hU : ∀ k, orB S (w.heap.size + 2) k → k < w.heap.size + 3 := fun k h => h.elim (fun h => by have := hS _ h; omega) (fun h => by omega)
  have hC0 : GetC (orB S (w.heap.size + 2)) S wa p ⟨bs, re⟩ ⟨qb, qe⟩ w1.heap.size (w.heap.size + 1) (w.heap.size + 2) #[.int .u8 k, .int .u64 x, .bool is, .string s, .slice LA L.length Lc, .int .i64 most, .int .i64 long, .int .i64 ee] 0 wa.drew := ⟨(Fr.refl _ _).drew, hra.fr ((Fr.refl noB _).drew) (fun _ _ _ => id), c1, c2, c3⟩
  refine wp_region_calm (R := Fr (orB S (w.heap.size + 2))) (C := GetC (orB S (w.heap.size + 2)) S wa p ⟨bs, re⟩ ⟨qb, qe⟩ w1.heap.size (w.heap.size + 1) (w.heap.size + 2) #[.int .u8 k, .int .u64 x, .bool is, .string s, .slice LA L.length Lc, .int .i64 most, .int .i64 long, .int .i64 ee]) [false, false, false, false, true, false, false, true, false]
    [eqv (.agg #[.string (mkS qb), .int .i64 (qe : Nat)]), eqv (.pointer (some ⟨p, 0, none⟩)), eqv (.pointer (some ⟨w.heap.size + 1, 5, none⟩)), eqv (.int .i64 most), eqv (.string (mkS n)), eqv (.string (mkS n)), eqv (.bool true), anyv, eqv (.bool true)]
    (by kernel_rfl) (by kernel_rfl) (fun _ _ _ h1 h2 => h1.then' h2) ((Fr.refl _ _).drew) hC0 (by kernel_rfl) ?_ ?_
  · refine ⟨?_, ?_, ?_, ?_, ?_, ?_, ?_, ?_, ?_, trivial⟩
    · rw [if_neg (by decide)]; intro kq
      intro a W K hC hd hK
      have d18 : a.tmps[18]?.getD undef = .pointer (some ⟨w1.heap.size, 0, none⟩) := hd 18 (by decide)
      obtain ⟨b0, b1⟩ := cells2 hC.box
      refine wpOp_plain rfl rfl ?_
      go_wp2_with fail
      exact hK _ _ (Fr.refl _ _) hC rfl
    · rw [if_neg (by decide)]; intro kq
      exact calm_mv 0 rfl rfl (Or.inl rfl) (Fr.refl _) (by decide) fun v w hd => hd
    · rw [if_neg (by decide)]; intro kq
      intro a W K hC hd hK
      have d5 : a.tmps[5]?.getD undef = .pointer (some ⟨w.heap.size + 1, 0, none⟩) := hd 5 (by decide)
      refine wpOp_plain rfl rfl ?_
      go_wp2_with fail
      exact hK _ _ (Fr.refl _ _) hC rfl
    · rw [if_neg (by decide)]; intro kq
      intro a W K hC hd hK
      have d102 : a.tmps[102]?.getD undef = .pointer (some ⟨w.heap.size + 1, 5, none⟩) := hd 102 (by decide)
      have b5 : W.cell? ⟨w.heap.size + 1, 5, none⟩ = some (.int .i64 most) := by simp [World.cell?, hC.item]
      refine wpOp_plain rfl rfl ?_
      go_wp2_with fail
      exact hK _ _ (Fr.refl _ _) hC rfl
    · rw [if_pos (by decide)]
      intro a W K hC hd hK
      replace hC : (GetC (orB S (w.heap.size + 2)) S wa p ⟨bs, re⟩ ⟨qb, qe⟩ w1.heap.size (w.heap.size + 1) (w.heap.size + 2) #[.int .u8 k, .int .u64 x, .bool is, .string s, .slice LA L.length Lc, .int .i64 most, .int .i64 long, .int .i64 ee]) 0 W := hC
      have d101 : a.tmps[101]?.getD undef = .pointer (some ⟨p, 0, none⟩) := hd 101 (by decide)
      have d103 : a.tmps[103]?.getD undef = .int .i64 most := hd 103 (by decide)
      refine wpOp_plain rfl rfl ?_
      go_wp2_with fail
      refine (hr W hC.rd).mono ?_
      rintro e w' ⟨rfl, h1, f1⟩
      exact hK _ _ (f1.mono fun _ _ h => Or.inl h) (hC.call h1 f1 (fun _ h => Or.inl h) n1 n2 n3) rfl
    · rw [if_neg (by decide)]; intro kq
      exact calm_mv 19 rfl rfl (Or.inl rfl) (Fr.refl _) (by decide) fun v w hd => hd
    · rw [if_neg (by decide)]; intro kq
      intro a W K hC hd hK
      have d104 : a.tmps[104]?.getD undef = .string (mkS n) := hd 104 (by decide)
      have d105 : a.tmps[105]?.getD undef = .string (mkS n) := hd 105 (by decide)
      refine wpOp_plain rfl rfl ?_
      go_wp2_with fail
      exact hK _ _ (Fr.refl _ _) hC (by show _ = _; simp)
    · rw [if_pos (by decide)]
      intro a W K hC hd hK
      replace hC : (GetC (orB S (w.heap.size + 2)) S wa p ⟨bs, re⟩ ⟨qb, qe⟩ w1.heap.size (w.heap.size + 1) (w.heap.size + 2) #[.int .u8 k, .int .u64 x, .bool is, .string s, .slice LA L.length Lc, .int .i64 most, .int .i64 long, .int .i64 ee]) 1 W := hC
      have d6 : a.tmps[6]?.getD undef = .pointer (some ⟨w.heap.size + 2, 0, none⟩) := hd 6 (by decide)
      have d100 : a.tmps[100]?.getD undef = .agg #[.string (mkS qb), .int .i64 (qe : Nat)] := hd 100 (by decide)
      obtain ⟨b0, b1⟩ := cells2 hC.res
      have z0 : ∀ j, W.frozen? ⟨w.heap.size + 2, j, none⟩ = false := fun j => by simp [World.frozen?, hC.res]
      refine wpOp_plain rfl rfl ?_
      have hs := hC.store (Or.inr rfl) (by omega) (by omega) n3
      go_wp2_with fail
      exact hK undef _ hs.2 hs.1 trivial
    · rw [if_neg (by decide)]; intro kq
      exact calm_mv 106 rfl rfl (Or.inr rfl) (Fr.refl _) (by decide) fun v w hd => hd
  · intro vs w9 fw9 cw9 hV
    have v7 : vs 8 = .bool true := hV 8 _ _ rfl rfl (by decide)
    clear hV
    simp only [putL, Act.put, List.setIfInBounds_toArray, List.set_cons_zero, List.set_cons_succ, v7]
    obtain ⟨b0, b1⟩ := cells2 cw9.res
    go_wp2_with fail
    exact bodyPost_ret (v := .tuple #[.agg #[.string (mkS qb), .int .i64 (qe : Nat)], .bool true]) (by simp [results, Try.results31, go_sem, b0, b1]) rfl
      ⟨by rw [HB.out]; rfl, by rw [HB.out]; exact cw9.rd, (f3.mono fun _ _ h => h.elim).trans fw9 (fun i hi h => h.elim id (fun h => by omega))⟩

set_option maxRecDepth 100000 in
set_option maxHeartbeats 3200000 in
theorem get6 (w : World) (S : Nat → Prop) (p : Nat) (r : Rd) (i : Item) (h : RdAt w S p r) (hi : r.inv) (hl : r.bs.length ≤ 1000000000000) (hS : ∀ k, S k → k < w.heap.size) (hw : i.wf) (hk : i.k % 9 = 6) :
    Calls Try.prog 31 #[.pointer (some ⟨p, 0, none⟩), .agg #[.string (mkS r.bs), .int .i64 (r.e : Nat)], .agg i.cells.toArray] w (GetPost w S p (i.rd r)) := by
  have HB : Hid (i.rd r = (rRow r i.most i.long).1) := by unfold Hid Item.rd; skip; simp only [hk]
  have hc := fun W => rowGetR_calls W r i.most i.long hi hl hw.m1 hw.m2 hw.l1 hw.l2
  have hr := fun W (h : RdAt W S p r) (hS : ∀ k, S k → k < W.heap.size) => rowRd_calls W S p r i.most i.long h hS hw.m1 hw.m2 hw.l1 hw.l2
  generalize rRow r i.most i.long = qq at *
  obtain ⟨⟨qb, qe⟩, n⟩ := qq
  obtain ⟨k, x, is, s, LA, Lc, L, most, long, ee⟩ := i
  obtain ⟨m1, m2, l1, l2, e1, e2⟩ := hw
  obtain ⟨bs, re⟩ := r
  simp only [Item.cells, Rd.val] at *
  have t0 : ((k : Int) % 9 == 0) = false := by simp; omega
  have t1 : ((k : Int) % 9 == 1) = false := by simp; omega
  have t2 : ((k : Int) % 9 == 2) = false := by simp; omega
  have t3 : ((k : Int) % 9 == 3) = false := by simp; omega
  have t4 : ((k : Int) % 9 == 4) = false := by simp; omega
  have t5 : ((k : Int) % 9 == 5) = false := by simp; omega
  have t6 : ((k : Int) % 9 == 6) = true := by simp; omega
  have HK := hid hk; clear hk
  unfold RowRPost at hc
  unfold RowPost at hr
  try simp only [Rd.val] at *
  go_enter Try.func31, Try.ntmps31
  have a3 : (((w.alloc (.cells #[.string (mkS bs), .int .i64 (re : Nat)] 59)).alloc (.cells #[.int .u8 k, .int .u64 x, .bool is, .string s, .slice LA L.length Lc, .int .i64 most, .int .i64 long, .int .i64 ee] 27)).alloc (.cells #[.string ⟨#[]⟩, .int .i64 0] 59)).heap[w.heap.size + 2]? = some (.cells #[.string ⟨#[]⟩, .int .i64 0] 59 (0, 0)) := (heap_three w _ _ _).2
  have a2 : (((w.alloc (.cells #[.string (mkS bs), .int .i64 (re : Nat)] 59)).alloc (.cells #[.int .u8 k, .int .u64 x, .bool is, .string s, .slice LA L.length Lc, .int .i64 most, .int .i64 long, .int .i64 ee] 27)).alloc (.cells #[.string ⟨#[]⟩, .int .i64 0] 59)).heap[w.heap.size + 1]? = some (.cells #[.int .u8 k, .int .u64 x, .bool is, .string s, .slice LA L.length Lc, .int .i64 most, .int .i64 long, .int .i64 ee] 27 (0, 0)) := (heap_three w _ _ _).1
  go_wp2_with fail
  refine (hc _).mono ?_
  rintro e w1 ⟨A2, nn, cc, rfl, HN2, hn2, hrow2, hbase2, f1⟩
  clear hc
  have b3 := f1.heap a3 id
  have b2 := f1.heap a2 id
  have z1 := f1.size
  have z2 : w.heap.size + 2 < w1.heap.size := by simp at z1; omega
  have f2 : Fr noB w w1 := ((((Fr.refl _ _).alloc _).alloc _).alloc _).then' f1
  have F1 := hid f1
  clear f1 z1 a2 a3
  go_wp2_with fail
  have c1 := heap_alloc_new w1 (.cells #[.string (mkS qb), .int .i64 (qe : Nat)] 59)
  have c2 := heap_al b2 (.cells #[.string (mkS qb), .int .i64 (qe : Nat)] 59)
  have c3 := heap_al b3 (.cells #[.string (mkS qb), .int .i64 (qe : Nat)] 59)
  have f3 : Fr noB w (w1.alloc (.cells #[.string (mkS qb), .int .i64 (qe : Nat)] 59)) := f2.alloc _
  have z3 : w1.heap.size < (w1.alloc (.cells #[.string (mkS qb), .int .i64 (qe : Nat)] 59)).heap.size := by simp
  have hrow3 : RowAt (w1.alloc (.cells #[.string (mkS qb), .int .i64 (qe : Nat)] 59)) A2 (strs n) := hrow2.fr0 ((Fr.refl _ _).alloc _)
  have HB2 : Hid (∀ ad, A2 = some ad → w.heap.size + 3 ≤ ad.block) := fun ad e => by have := hbase2 ad e; simpa using this
  clear hrow2 hbase2
  generalize w1.alloc (.cells #[.string (mkS qb), .int .i64 (qe : Nat)] 59) = wa at *
  have hra : RdAt wa S p ⟨bs, re⟩ := h.fr f3 (fun _ _ _ => id)
  have n1 : ¬ S w1.heap.size := fun h => by have := hS _ h; omega
  have n2 : ¬ S (w.heap.size + 1) := fun h => by have := hS _ h; omega
  have n3 : ¬ S (w.heap.size + 2) := fun h => by have := hS _ h; omega
  have hU : ∀ k, orB S (w.heap.size + 2) k → k < w.heap.size + 3 := fun k h => h.elim (fun h => by have := hS _ h; omega) (fun h => by omega)
  have hC0 : GetC (orB S (w.heap.size + 2)) S wa p ⟨bs, re⟩ ⟨qb, qe⟩ w1.heap.size (w.heap.size + 1) (w.heap.size + 2) #[.int .u8 k, .int .u64 x, .bool is, .string s, .slice LA L.length Lc, .int .i64 most, .int .i64 long, .int .i64 ee] 0 wa.drew := ⟨(Fr.refl _ _).drew, hra.fr ((Fr.refl noB _).drew) (fun _ _ _ => id), c1, c2, c3⟩
  refine wp_region_calm (R := Fr (orB S (w.heap.size + 2))) (C := GetC (orB S (w.heap.size + 2)) S wa p ⟨bs, re⟩ ⟨qb, qe⟩ w1.heap.size (w.heap.size + 1) (w.heap.size + 2) #[.int .u8 k, .int .u64 x, .bool is, .string s, .slice LA L.length Lc, .int .i64 most, .int .i64 long, .int .i64 ee]) [false, false, false, false, false, false, true, false, false, true, false]
    [eqv (.agg #[.string (mkS qb), .int .i64 (qe : Nat)]), eqv (.pointer (some ⟨p, 0, none⟩)), eqv (.pointer (some ⟨w.heap.size + 1, 5, none⟩)), eqv (.int .i64 most), eqv (.pointer (some ⟨w.heap.size + 1, 6, none⟩)), eqv (.int .i64 long), StrsV (w.heap.size + 3) (orB S (w.heap.size + 2)) hU n, eqv (.slice A2 nn cc), eqv (.bool true), anyv, eqv (.bool true)]
    (by kernel_rfl) (by kernel_rfl) (fun _ _ _ h1 h2 => h1.then' h2) ((Fr.refl _ _).drew) hC0 (by kernel_rfl) ?_ ?_
  · refine ⟨?_, ?_, ?_, ?_, ?_, ?_, ?_, ?_, ?_, ?_, ?_, trivial⟩
    · rw [if_neg (by decide)]; intro kq
      intro a W K hC hd hK
      have d20 : a.tmps[20]?.getD undef = .pointer (some ⟨w1.heap.size, 0, none⟩) := hd 20 (by decide)
      obtain ⟨b0, b1⟩ := cells2 hC.box
      refine wpOp_plain rfl rfl ?_
      go_wp2_with fail
      exact hK _ _ (Fr.refl _ _) hC rfl
    · rw [if_neg (by decide)]; intro kq
      exact calm_mv 0 rfl rfl (Or.inl rfl) (Fr.refl _) (by decide) fun v w hd => hd
    · rw [if_neg (by decide)]; intro kq
      intro a W K hC hd hK
      have d5 : a.tmps[5]?.getD undef = .pointer (some ⟨w.heap.size + 1, 0, none⟩) := hd 5 (by decide)
      refine wpOp_plain rfl rfl ?_
      go_wp2_with fail
      exact hK _ _ (Fr.refl _ _) hC rfl
    · rw [if_neg (by decide)]; intro kq
      intro a W K hC hd hK
      have d120 : a.tmps[120]?.getD undef = .pointer (some ⟨w.heap.size + 1, 5, none⟩) := hd 120 (by decide)
      have b5 : W.cell? ⟨w.heap.size + 1, 5, none⟩ = some (.int .i64 most) := by simp [World.cell?, hC.item]
      refine wpOp_plain rfl rfl ?_
      go_wp2_with fail
      exact hK _ _ (Fr.refl _ _) hC rfl
    · rw [if_neg (by decide)]; intro kq
      intro a W K hC hd hK
      have d5 : a.tmps[5]?.getD undef = .pointer (some ⟨w.heap.size + 1, 0, none⟩) := hd 5 (by decide)
      refine wpOp_plain rfl rfl ?_
      go_wp2_with fail
      exact hK _ _ (Fr.refl _ _) hC rfl
    · rw [if_neg (by decide)]; intro kq
      intro a W K hC hd hK
      have d122 : a.tmps[122]?.getD undef = .pointer (some ⟨w.heap.size + 1, 6, none⟩) := hd 122 (by decide)
      have b6 : W.cell? ⟨w.heap.size + 1, 6, none⟩ = some (.int .i64 long) := by simp [World.cell?, hC.item]
      refine wpOp_plain rfl rfl ?_
      go_wp2_with fail
      exact hK _ _ (Fr.refl _ _) hC rfl
    · rw [if_pos (by decide)]
      intro a W K hC hd hK
      replace hC : (GetC (orB S (w.heap.size + 2)) S wa p ⟨bs, re⟩ ⟨qb, qe⟩ w1.heap.size (w.heap.size + 1) (w.heap.size + 2) #[.int .u8 k, .int .u64 x, .bool is, .string s, .slice LA L.length Lc, .int .i64 most, .int .i64 long, .int .i64 ee]) 0 W := hC
      have d119 : a.tmps[119]?.getD undef = .pointer (some ⟨p, 0, none⟩) := hd 119 (by decide)
      have d121 : a.tmps[121]?.getD undef = .int .i64 most := hd 121 (by decide)
      have d123 : a.tmps[123]?.getD undef = .int .i64 long := hd 123 (by decide)
      refine wpOp_plain rfl rfl ?_
      go_wp2_with fail
      refine (hr W hC.rd (fun k h => by have := hS k h; have := hC.fr.size; omega)).mono ?_
      rintro e w' ⟨A4, n4, c4, rfl, hn4, hr4, h1, f1⟩
      exact hK _ _ (f1.mono fun _ _ h => Or.inl h) (hC.call h1 f1 (fun _ h => Or.inl h) n1 n2 n3) ⟨A4, n4, c4, rfl, hn4, own_row hr4, fun ad e => by have := (hr4.lt _ (by rw [e]; rfl)).1; have := hC.fr.size; omega⟩
    · rw [if_neg (by decide)]; intro kq
      exact calm_mv 21 rfl rfl (Or.inl rfl) (Fr.refl _) (by decide) fun v w hd => hd
    · rw [if_neg (by decide)]; intro kq
      intro a W K hC hd hK
      have d124 : (StrsV (w.heap.size + 3) (orB S (w.heap.size + 2)) hU n).V (a.tmps[124]?.getD undef) W := hd 124 (by decide)
      have d125 : a.tmps[125]?.getD undef = .slice A2 nn cc := hd 125 (by decide)
      refine wpOp_plain rfl rfl ?_
      obtain ⟨A4, n4, c4, e4, hn4, hr4, _⟩ := d124
      have hr2 : RowAt W A2 (strs n) := hrow3.fr hC.fr (fun ad e _ _ h => by have := hU _ h; have := HB2.out ad e; omega)
      have hn63 : n4 ≤ 9223372036854775807 := by have := hn4.out; have := HN2.out; omega
      go_wp2_with fail
      refine (same_calls W A4 A2 c4 cc n4 nn n n hr4 hr2 hn4 HN2 hn63).mono ?_
      rintro e w' ⟨rfl, f1⟩
      exact hK _ _ (f1.mono fun _ _ h => h.elim) (hC.quiet f1) (by show _ = _; simp)
    · rw [if_pos (by decide)]
      intro a W K hC hd hK
      replace hC : (GetC (orB S (w.heap.size + 2)) S wa p ⟨bs, re⟩ ⟨qb, qe⟩ w1.heap.size (w.heap.size + 1) (w.heap.size + 2) #[.int .u8 k, .int .u64 x, .bool is, .string s, .slice LA L.length Lc, .int .i64 most, .int .i64 long, .int .i64 ee]) 1 W := hC
      have d6 : a.tmps[6]?.getD undef = .pointer (some ⟨w.heap.size + 2, 0, none⟩) := hd 6 (by decide)
      have d118 : a.tmps[118]?.getD undef = .agg #[.string (mkS qb), .int .i64 (qe : Nat)] := hd 118 (by decide)
      obtain ⟨b0, b1⟩ := cells2 hC.res
      have z0 : ∀ j, W.frozen? ⟨w.heap.size + 2, j, none⟩ = false := fun j => by simp [World.frozen?, hC.res]
      refine wpOp_plain rfl rfl ?_
      have hs := hC.store (Or.inr rfl) (by omega) (by omega) n3
      go_wp2_with fail
      exact hK undef _ hs.2 hs.1 trivial
    · rw [if_neg (by decide)]; intro kq
      exact calm_mv 126 rfl rfl (Or.inr rfl) (Fr.refl _) (by decide) fun v w hd => hd
  · intro vs w9 fw9 cw9 hV
    have v7 : vs 10 = .bool true := hV 10 _ _ rfl rfl (by decide)
    clear hV
    simp only [putL, Act.put, List.setIfInBounds_toArray, List.set_cons_zero, List.set_cons_succ, v7]
    obtain ⟨b0, b1⟩ := cells2 cw9.res
    go_wp2_with fail
    exact bodyPost_ret (v := .tuple #[.agg #[.string (mkS qb), .int .i64 (qe : Nat)], .bool true]) (by simp [results, Try.results31, go_sem, b0, b1]) rfl
      ⟨by rw [HB.out]; rfl, by rw [HB.out]; exact cw9.rd, (f3.mono fun _ _ h => h.elim).trans fw9 (fun i hi h => h.elim id (fun h => by omega))⟩

set_option maxRecDepth 100000 in
set_option maxHeartbeats 3200000 in
theorem get7 (w : World) (S : Nat → Prop) (p : Nat) (r : Rd) (i : Item) (h : RdAt w S p r) (hi : r.inv) (hl : r.bs.length ≤ 1000000000000) (hS : ∀ k, S k → k < w.heap.size) (hw : i.wf) (hk : i.k % 9 = 7) :
    Calls Try.prog 31 #[.pointer (some ⟨p, 0, none⟩), .agg #[.string (mkS r.bs), .int .i64 (r.e : Nat)], .agg i.cells.toArray] w (GetPost w S p (i.rd r)) := by
  have HB : Hid (i.rd r = (rTake r (max 0 i.most).toNat).1) := by unfold Hid Item.rd; skip; simp only [hk]
  have hc : ∀ W, Calls Try.prog 77 #[.agg #[.string (mkS r.bs), .int .i64 (r.e : Nat)], .int .i64 (max 0 i.most)] W (fun e w' => ∃ b, e = .returned (.tuple #[(rTake r (max 0 i.most).toNat).1.val, .string (mkS (rTake r (max 0 i.most).toNat).2), .bool b]) ∧ Fr noB W w') := fun W => by
    have := takeR_calls W r (max 0 i.most).toNat hi hl (by have := hw.m2; omega)
    rw [show (((max 0 i.most).toNat : Nat) : Int) = max 0 i.most by omega] at this
    exact this
  have hr := fun W (h : RdAt W S p r) => rawRd_calls W S p r i.most h hl hw.m1 hw.m2
  generalize rTake r (max 0 i.most).toNat = qq at *
  obtain ⟨⟨qb, qe⟩, n⟩ := qq
  obtain ⟨k, x, is, s, LA, Lc, L, most, long, ee⟩ := i
  obtain ⟨m1, m2, l1, l2, e1, e2⟩ := hw
  obtain ⟨bs, re⟩ := r
  simp only [Item.cells, Rd.val] at *
  obtain ⟨mm, hmm, hor⟩ : ∃ mm, mm = max 0 most ∧ ((0 < most ∧ mm = most) ∨ (most ≤ 0 ∧ mm = 0)) := ⟨_, rfl, by omega⟩
  rw [← hmm] at hc
  clear hmm
  have t0 : ((k : Int) % 9 == 0) = false := by simp; omega
  have t1 : ((k : Int) % 9 == 1) = false := by simp; omega
  have t2 : ((k : Int) % 9 == 2) = false := by simp; omega
  have t3 : ((k : Int) % 9 == 3) = false := by simp; omega
  have t4 : ((k : Int) % 9 == 4) = false := by simp; omega
  have t5 : ((k : Int) % 9 == 5) = false := by simp; omega
  have t6 : ((k : Int) % 9 == 6) = false := by simp; omega
  have t7 : ((k : Int) % 9 == 7) = true := by simp; omega
  have HK := hid hk; clear hk
  unfold RawPost at hr
  try simp only [Rd.val] at *
  go_enter Try.func31, Try.ntmps31
  have a3 : (((w.alloc (.cells #[.string (mkS bs), .int .i64 (re : Nat)] 59)).alloc (.cells #[.int .u8 k, .int .u64 x, .bool is, .string s, .slice LA L.length Lc, .int .i64 most, .int .i64 long, .int .i64 ee] 27)).alloc (.cells #[.string ⟨#[]⟩, .int .i64 0] 59)).heap[w.heap.size + 2]? = some (.cells #[.string ⟨#[]⟩, .int .i64 0] 59 (0, 0)) := (heap_three w _ _ _).2
  have a2 : (((w.alloc (.cells #[.string (mkS bs), .int .i64 (re : Nat)] 59)).alloc (.cells #[.int .u8 k, .int .u64 x, .bool is, .string s, .slice LA L.length Lc, .int .i64 most, .int .i64 long, .int .i64 ee] 27)).alloc (.cells #[.string ⟨#[]⟩, .int .i64 0] 59)).heap[w.heap.size + 1]? = some (.cells #[.int .u8 k, .int .u64 x, .bool is, .string s, .slice LA L.length Lc, .int .i64 most, .int .i64 long, .int .i64 ee] 27 (0, 0)) := (heap_three w _ _ _).1
  rcases hor with ⟨hp1, hmm⟩ | ⟨hp1, hmm⟩
  all_goals
    rw [hmm] at hc
    clear hmm
    go_wp2_with fail
    refine (hc _).mono ?_
    rintro e w1 ⟨tb, rfl, f1⟩
    clear hc
    have b3 := f1.heap a3 id
    have b2 := f1.heap a2 id
    have z1 := f1.size
    have z2 : w.heap.size + 2 < w1.heap.size := by simp at z1; omega
    have f2 : Fr noB w w1 := ((((Fr.refl _ _).alloc _).alloc _).alloc _).then' f1
    have F1 := hid f1
    clear f1 z1 a2 a3
    go_wp2_with fail
    have c1 := heap_alloc_new w1 (.cells #[.string (mkS qb), .int .i64 (qe : Nat)] 59)
    have c2 := heap_al b2 (.cells #[.string (mkS qb), .int .i64 (qe : Nat)] 59)
    have c3 := heap_al b3 (.cells #[.string (mkS qb), .int .i64 (qe : Nat)] 59)
    have f3 : Fr noB w (w1.alloc (.cells #[.string (mkS qb), .int .i64 (qe : Nat)] 59)) := f2.alloc _
    have z3 : w1.heap.size < (w1.alloc (.cells #[.string (mkS qb), .int .i64 (qe : Nat)] 59)).heap.size := by simp
    generalize w1.alloc (.cells #[.string (mkS qb), .int .i64 (qe : Nat)] 59) = wa at *
    have hra : RdAt wa S p ⟨bs, re⟩ := h.fr f3 (fun _ _ _ => id)
    have n1 : ¬ S w1.heap.size := fun h => by have := hS _ h; omega
    have n2 : ¬ S (w.heap.size + 1) := fun h => by have := hS _ h; omega
    have n3 : ¬ S (w.heap.size + 2) := fun h => by have := hS _ h; omega
    have hU : ∀ k, orB S (w.heap.size + 2) k → k < w.heap.size + 3 := fun k h => h.elim (fun h => by have := hS _ h; omega) (fun h => by omega)
    have hC0 : GetC (orB S (w.heap.size + 2)) S wa p ⟨bs, re⟩ ⟨qb, qe⟩ w1.heap.size (w.heap.size + 1) (w.heap.size + 2) #[.int .u8 k, .int .u64 x, .bool is, .string s, .slice LA L.length Lc, .int .i64 most, .int .i64 long, .int .i64 ee] 0 wa.drew := ⟨(Fr.refl _ _).drew, hra.fr ((Fr.refl noB _).drew) (fun _ _ _ => id), c1, c2, c3⟩
    refine wp_region_calm (R := Fr (orB S (w.heap.size + 2))) (C := GetC (orB S (w.heap.size + 2)) S wa p ⟨bs, re⟩ ⟨qb, qe⟩ w1.heap.size (w.heap.size + 1) (w.heap.size + 2) #[.int .u8 k, .int .u64 x, .bool is, .string s, .slice LA L.length Lc, .int .i64 most, .int .i64 long, .int .i64 ee]) [false, false, false, false, true, false, false, false, true, false]
      [eqv (.agg #[.string (mkS qb), .int .i64 (qe : Nat)]), eqv (.pointer (some ⟨p, 0, none⟩)), eqv (.pointer (some ⟨w.heap.size + 1, 5, none⟩)), eqv (.int .i64 most), BytsV (w.heap.size + 3) (orB S (w.heap.size + 2)) hU n, eqv (.string (mkS n)), eqv (.string (mkS n)), eqv (.bool true), anyv, eqv (.bool true)]
      (by kernel_rfl) (by kernel_rfl) (fun _ _ _ h1 h2 => h1.then' h2) ((Fr.refl _ _).drew) hC0 (by kernel_rfl) ?_ ?_
    · refine ⟨?_, ?_, ?_, ?_, ?_, ?_, ?_, ?_, ?_, ?_, trivial⟩
      · rw [if_neg (by decide)]; intro kq
        intro a W K hC hd hK
        have d22 : a.tmps[22]?.getD undef = .pointer (some ⟨w1.heap.size, 0, none⟩) := hd 22 (by decide)
        obtain ⟨b0, b1⟩ := cells2 hC.box
        refine wpOp_plain rfl rfl ?_
        go_wp2_with fail
        exact hK _ _ (Fr.refl _ _) hC rfl
      · rw [if_neg (by decide)]; intro kq
        exact calm_mv 0 rfl rfl (Or.inl rfl) (Fr.refl _) (by decide) fun v w hd => hd
      · rw [if_neg (by decide)]; intro kq
        intro a W K hC hd hK
        have d5 : a.tmps[5]?.getD undef = .pointer (some ⟨w.heap.size + 1, 0, none⟩) := hd 5 (by decide)
        refine wpOp_plain rfl rfl ?_
        go_wp2_with fail
        exact hK _ _ (Fr.refl _ _) hC rfl
      · rw [if_neg (by decide)]; intro kq
        intro a W K hC hd hK
        have d140 : a.tmps[140]?.getD undef = .pointer (some ⟨w.heap.size + 1, 5, none⟩) := hd 140 (by decide)
        have b5 : W.cell? ⟨w.heap.size + 1, 5, none⟩ = some (.int .i64 most) := by simp [World.cell?, hC.item]
        refine wpOp_plain rfl rfl ?_
        go_wp2_with fail
        exact hK _ _ (Fr.refl _ _) hC rfl
      · rw [if_pos (by decide)]
        intro a W K hC hd hK
        replace hC : (GetC (orB S (w.heap.size + 2)) S wa p ⟨bs, re⟩ ⟨qb, qe⟩ w1.heap.size (w.heap.size + 1) (w.heap.size + 2) #[.int .u8 k, .int .u64 x, .bool is, .string s, .slice LA L.length Lc, .int .i64 most, .int .i64 long, .int .i64 ee]) 0 W := hC
        have d139 : a.tmps[139]?.getD undef = .pointer (some ⟨p, 0, none⟩) := hd 139 (by decide)
        have d141 : a.tmps[141]?.getD undef = .int .i64 most := hd 141 (by decide)
        refine wpOp_plain rfl rfl ?_
        go_wp2_with fail
        refine (hr W hC.rd).mono ?_
        rintro e w' ⟨A4, n4, c4, rfl, hn4, hr4, h1, f1⟩
        exact hK _ _ (f1.mono fun _ _ h => Or.inl h) (hC.call h1 f1 (fun _ h => Or.inl h) n1 n2 n3) ⟨A4, n4, c4, rfl, hn4.out, own_row hr4, fun ad e => by have := (hr4.lt _ (by rw [e]; rfl)).1; have := hC.fr.size; omega⟩
      · rw [if_neg (by decide)]; intro kq
        intro a W K hC hd hK
        have d142 : (BytsV (w.heap.size + 3) (orB S (w.heap.size + 2)) hU n).V (a.tmps[142]?.getD undef) W := hd 142 (by decide)
        refine wpOp_plain rfl rfl ?_
        obtain ⟨A4, n4, c4, e4, hn4, hr4, _⟩ := d142
        have hcv := Try.toStr hr4 hn4 c4
        go_wp2_with fail
        exact hK _ _ (Fr.refl _ _) hC rfl
      · rw [if_neg (by decide)]; intro kq
        exact calm_mv 23 rfl rfl (Or.inl rfl) (Fr.refl _) (by decide) fun v w hd => hd
      · rw [if_neg (by decide)]; intro kq
        intro a W K hC hd hK
        have d143 : a.tmps[143]?.getD undef = .string (mkS n) := hd 143 (by decide)
        have d144 : a.tmps[144]?.getD undef = .string (mkS n) := hd 144 (by decide)
        refine wpOp_plain rfl rfl ?_
        go_wp2_with fail
        exact hK _ _ (Fr.refl _ _) hC (by show _ = _; simp)
      · rw [if_pos (by decide)]
        intro a W K hC hd hK
        replace hC : (GetC (orB S (w.heap.size + 2)) S wa p ⟨bs, re⟩ ⟨qb, qe⟩ w1.heap.size (w.heap.size + 1) (w.heap.size + 2) #[.int .u8 k, .int .u64 x, .bool is, .string s, .slice LA L.length Lc, .int .i64 most, .int .i64 long, .int .i64 ee]) 1 W := hC
        have d6 : a.tmps[6]?.getD undef = .pointer (some ⟨w.heap.size + 2, 0, none⟩) := hd 6 (by decide)
        have d138 : a.tmps[138]?.getD undef = .agg #[.string (mkS qb), .int .i64 (qe : Nat)] := hd 138 (by decide)
        obtain ⟨b0, b1⟩ := cells2 hC.res
        have z0 : ∀ j, W.frozen? ⟨w.heap.size + 2, j, none⟩ = false := fun j => by simp [World.frozen?, hC.res]
        refine wpOp_plain rfl rfl ?_
        have hs := hC.store (Or.inr rfl) (by omega) (by omega) n3
        go_wp2_with fail
        exact hK undef _ hs.2 hs.1 trivial
      · rw [if_neg (by decide)]; intro kq
        exact calm_mv 145 rfl rfl (Or.inr rfl) (Fr.refl _) (by decide) fun v w hd => hd
    · intro vs w9 fw9 cw9 hV
      have v7 : vs 9 = .bool true := hV 9 _ _ rfl rfl (by decide)
      clear hV
      simp only [putL, Act.put, List.setIfInBounds_toArray, List.set_cons_zero, List.set_cons_succ, v7]
      obtain ⟨b0, b1⟩ := cells2 cw9.res
      go_wp2_with fail
      exact bodyPost_ret (v := .tuple #[.agg #[.string (mkS qb), .int .i64 (qe : Nat)], .bool true]) (by simp [results, Try.results31, go_sem, b0, b1]) rfl
        ⟨by rw [HB.out]; rfl, by rw [HB.out]; exact cw9.rd, (f3.mono fun _ _ h => h.elim).trans fw9 (fun i hi h => h.elim id (fun h => by omega))⟩

theorem and15 (x : Int) : bits .and .i64 x 15 = ((x % 16).toNat : Int) := by
  have h1 : (BitVec.ofInt 64 x &&& BitVec.ofInt 64 15).toNat = (x % 16).toNat := by
    have h2 : (BitVec.ofInt 64 15).toNat = 2 ^ 4 - 1 := by decide
    rw [BitVec.toNat_and, h2, Nat.and_two_pow_sub_one_eq_mod, BitVec.toNat_ofInt]
    omega
  have h3 : bits .and .i64 x 15 = IntKind.i64.wrap ((BitVec.ofInt 64 x &&& BitVec.ofInt 64 15).toNat : Int) := rfl
  rw [h3, h1, IntKind.wrap_i64]
  omega

set_option maxRecDepth 100000 in
set_option maxHeartbeats 3200000 in
theorem get8 (w : World) (S : Nat → Prop) (p : Nat) (r : Rd) (i : Item) (h : RdAt w S p r) (hi : r.inv) (hl : r.bs.length ≤ 1000000000000) (hS : ∀ k, S k → k < w.heap.size) (hw : i.wf) (hk : 8 ≤ i.k % 9) :
    Calls Try.prog 31 #[.pointer (some ⟨p, 0, none⟩), .agg #[.string (mkS r.bs), .int .i64 (r.e : Nat)], .agg i.cells.toArray] w (GetPost w S p (i.rd r)) := by
  have HB : Hid (i.rd r = rFail r (i.e % 16).toNat) := by 
    have : i.k % 9 = 8 := by omega
    unfold Hid Item.rd
    simp only [this]
  have hf := fun W (h : RdAt W S p r) => fail_calls W S p r (i.e % 16).toNat h
  have hc := fun W => failR_calls W r (i.e % 16).toNat
  have hm15 := and15 i.e
  generalize rFail r (i.e % 16).toNat = qq at *
  generalize (i.e % 16).toNat = kk at *
  obtain ⟨qb, qe⟩ := qq
  obtain ⟨k, x, is, s, LA, Lc, L, most, long, ee⟩ := i
  obtain ⟨m1, m2, l1, l2, e1, e2⟩ := hw
  obtain ⟨bs, re⟩ := r
  simp only [Item.cells, Rd.val] at *
  have t0 : ((k : Int) % 9 == 0) = false := by simp; omega
  have t1 : ((k : Int) % 9 == 1) = false := by simp; omega
  have t2 : ((k : Int) % 9 == 2) = false := by simp; omega
  have t3 : ((k : Int) % 9 == 3) = false := by simp; omega
  have t4 : ((k : Int) % 9 == 4) = false := by simp; omega
  have t5 : ((k : Int) % 9 == 5) = false := by simp; omega
  have t6 : ((k : Int) % 9 == 6) = false := by simp; omega
  have t7 : ((k : Int) % 9 == 7) = false := by simp; omega
  have HK := hid hk; clear hk
  unfold RPost at hf
  go_enter Try.func31, Try.ntmps31
  have a1 : (((w.alloc (.cells #[.string (mkS bs), .int .i64 (re : Nat)] 59)).alloc (.cells #[.int .u8 k, .int .u64 x, .bool is, .string s, .slice LA L.length Lc, .int .i64 most, .int .i64 long, .int .i64 ee] 27)).alloc (.cells #[.string ⟨#[]⟩, .int .i64 0] 59)).heap[w.heap.size]? = some (.cells #[.string (mkS bs), .int .i64 (re : Nat)] 59 (0, 0)) := heap_al (heap_two w _ _).1 _
  have a3 : (((w.alloc (.cells #[.string (mkS bs), .int .i64 (re : Nat)] 59)).alloc (.cells #[.int .u8 k, .int .u64 x, .bool is, .string s, .slice LA L.length Lc, .int .i64 most, .int .i64 long, .int .i64 ee] 27)).alloc (.cells #[.string ⟨#[]⟩, .int .i64 0] 59)).heap[w.heap.size + 2]? = some (.cells #[.string ⟨#[]⟩, .int .i64 0] 59 (0, 0)) := (heap_three w _ _ _).2
  have a2 : (((w.alloc (.cells #[.string (mkS bs), .int .i64 (re : Nat)] 59)).alloc (.cells #[.int .u8 k, .int .u64 x, .bool is, .string s, .slice LA L.length Lc, .int .i64 most, .int .i64 long, .int .i64 ee] 27)).alloc (.cells #[.string ⟨#[]⟩, .int .i64 0] 59)).heap[w.heap.size + 1]? = some (.cells #[.int .u8 k, .int .u64 x, .bool is, .string s, .slice LA L.length Lc, .int .i64 most, .int .i64 long, .int .i64 ee] 27 (0, 0)) := (heap_three w _ _ _).1
  have n0 : ¬ S w.heap.size := fun h => by have := hS _ h; omega
  have n2 : ¬ S (w.heap.size + 1) := fun h => by have := hS _ h; omega
  have n3 : ¬ S (w.heap.size + 2) := fun h => by have := hS _ h; omega
  go_wp2_with fail
  refine (hf _ (h.fr (((Fr.refl noB _).alloc _).alloc _ |>.alloc _) (fun _ _ _ => id))).mono ?_
  rintro e w1 ⟨rfl, h1, f1⟩
  clear hf
  obtain ⟨c0, c1⟩ := cells2 (f1.heap a1 n0)
  have b2 := f1.heap a2 n2
  have c7 : w1.cell? ⟨w.heap.size + 1, 7, none⟩ = some (.int .i64 ee) := by simp [World.cell?, b2]
  have b3 := f1.heap a3 n3
  have f2 : Fr S w w1 := ((((Fr.refl _ _).alloc _).alloc _).alloc _).then' f1
  have F1 := hid f1
  clear f1 a1 a2 a3 b2
  go_wp2_with fail
  refine (hc _).mono ?_
  rintro e w2 ⟨rfl, f3⟩
  clear hc
  have d3 := f3.heap b3 id
  obtain ⟨g0, g1⟩ := cells2 d3
  have z0 : ∀ j, w2.frozen? ⟨w.heap.size + 2, j, none⟩ = false := fun j => by simp [World.frozen?, d3]
  have h4 := h1.fr f3 (fun _ _ _ => id)
  have f4 : Fr S w w2 := f2.then' (f3.mono fun _ _ h => h.elim)
  have F3 := hid f3
  clear f3 b3 f2 h1
  go_wp2_with fail
  obtain ⟨b0, b1⟩ := cells2 (set2 (u := .string (mkS qb)) (v := .int .i64 (qe : Nat)) d3)
  have fs := fr_set2 w2 (w.heap.size + 2) (.string (mkS qb)) (.int .i64 (qe : Nat))
  exact bodyPost_ret (v := .tuple #[.agg #[.string (mkS qb), .int .i64 (qe : Nat)], .bool true]) (by simp [results, Try.results31, go_sem, b0, b1]) rfl
    ⟨by rw [HB.out]; rfl, by rw [HB.out]; exact h4.fr fs (fun k _ hs h => by unfold eqB at h; exact n3 (h ▸ hs)), f4.trans fs (fun i hi h => by unfold eqB at h; omega)⟩

theorem get_calls (w : World) (S : Nat → Prop) (p : Nat) (r : Rd) (i : Item) (h : RdAt w S p r) (hi : r.inv) (hl : r.bs.length ≤ 1000000000000) (hS : ∀ k, S k → k < w.heap.size) (hw : i.wf) :
    Calls Try.prog 31 #[.pointer (some ⟨p, 0, none⟩), .agg #[.string (mkS r.bs), .int .i64 (r.e : Nat)], .agg i.cells.toArray] w (GetPost w S p (i.rd r)) := by
  have : i.k % 9 < 9 := Nat.mod_lt _ (by omega)
  by_cases h8 : 8 ≤ i.k % 9
  · exact get8 w S p r i h hi hl hS hw h8
  · rcases (by omega : i.k % 9 = 0 ∨ i.k % 9 = 1 ∨ i.k % 9 = 2 ∨ i.k % 9 = 3 ∨ i.k % 9 = 4 ∨ i.k % 9 = 5 ∨ i.k % 9 = 6 ∨ i.k % 9 = 7) with h | h | h | h | h | h | h | h
    · exact get0 w S p r i ‹_› hi hl hS hw h
    · exact get1 w S p r i ‹_› hi hl hS hw h
    · exact get2 w S p r i ‹_› hi hl hS hw h
    · exact get3 w S p r i ‹_› hi hl hS hw h
    · exact get4 w S p r i ‹_› hi hl hS hw h
    · exact get5 w S p r i ‹_› hi hl hS hw h
    · exact get6 w S p r i ‹_› hi hl hS hw h
    · exact get7 w S p r i ‹_› hi hl hS hw h
end Go.Proofs.Ytcpcmcdfncjnaaa
