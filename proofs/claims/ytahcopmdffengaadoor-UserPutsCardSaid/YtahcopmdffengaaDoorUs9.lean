/- user.Get. -/
import Derived.Test.YtahcopmdffengaaDoorUs8
import Derived.Test.YtahcopmdffengaaDoorRd3
namespace Go.Proofs.YtahcopmdffengaaDoor
open Go.RowKit
theorem pair_ex' {α β : Type} (x : α × β) : ∃ a b, x = (a, b) := ⟨x.1, x.2, rfl⟩
def zU : UsV := ⟨⟨#[]⟩, ⟨#[]⟩, ⟨#[]⟩, false, []⟩
def rdU (z : Int) (r : Rd) : Rd × UsV :=
  if z = 2 then ((rRow (rTruth (rText (rText (rText r 65535).1 65535).1 65535).1).1 65535 65535).1, ⟨mkS (rText r 65535).2, mkS (rText (rText r 65535).1 65535).2, mkS (rText (rText (rText r 65535).1 65535).1 65535).2, (rTruth (rText (rText (rText r 65535).1 65535).1 65535).1).2, (rRow (rTruth (rText (rText (rText r 65535).1 65535).1 65535).1).1 65535 65535).2⟩)
  else ((rText (rText r 65535).1 65535).1, ⟨mkS (rText r 65535).2, mkS (rText (rText r 65535).1 65535).2, ⟨#[]⟩, false, []⟩)
/-- The next user, and the reader behind it. -/
def getU (z : Int) (r : Rd) : Rd × UsV :=
  if z = 1 ∨ z = 2 then (rFail (rdU z r).1 (checkU z (rdU z r).2), if (rFail (rdU z r).1 (checkU z (rdU z r).2)).e = 0 then (rdU z r).2 else zU)
  else (rFail r 6, zU)
def GetUPost (w : World) (S : Nat → Prop) (p : Nat) (q : Rd × UsV) (e : Ending) (w' : World) : Prop :=
  ∃ A n c, e = .returned (.agg (q.2.C (.slice A n c))) ∧ Hid (q.2.gs.length = n) ∧ n ≤ 65535 ∧ RowAt w' A (strs q.2.gs) ∧ RdAt w' S p q.1 ∧ Fr S w w'
theorem rRow_len (r : Rd) (m l : Int) : (rRow r m l).2.length ≤ 65535 := by
  unfold rRow
  simp only
  split
  · rw [rTexts_len]
    have := rNum_lt r 2
    unfold rCount
    split
    · exact Nat.zero_le _
    · have e : (256 : Nat) ^ 2 = 65536 := by decide
      omega
  · exact Nat.zero_le _
set_option maxRecDepth 100000 in
set_option maxHeartbeats 3200000 in
theorem getU_bad (w : World) (S : Nat → Prop) (p : Nat) (r : Rd) (z : Int) (h : RdAt w S p r) (hS : ∀ k, S k → k < w.heap.size) (h1 : z ≠ 1) (h2 : z ≠ 2) :
    Calls Tryd.prog 32 #[.pointer (some ⟨p, 0, none⟩), .int .i64 z] w (GetUPost w S p (getU z r)) := by
  have HG : Hid (getU z r = (rFail r 6, zU)) := by unfold Hid getU; rw [if_neg (by omega)]
  have hres : Hid (Tryd.f32.results = #[.cell 4 35]) := by unfold Hid; kernel_rfl
  have hb0 : BlkAt (w.alloc (.cells #[.string ⟨#[]⟩, .string ⟨#[]⟩, .string ⟨#[]⟩, .bool false, .slice none 0 0] 35)) w.heap.size 35 #[.string ⟨#[]⟩, .string ⟨#[]⟩, .string ⟨#[]⟩, .bool false, .slice none 0 0] := BlkAt.new _ _ _
  have f0 : Fr noB w (w.alloc (.cells #[.string ⟨#[]⟩, .string ⟨#[]⟩, .string ⟨#[]⟩, .bool false, .slice none 0 0] 35)) := (Fr.refl noB w).alloc _
  have hr0 := h.fr f0 (fun _ _ _ => id)
  have t1 : (z != 1) = true := by rw [bne_iff_ne]; exact h1
  have t2 : (z != 2) = true := by rw [bne_iff_ne]; exact h2
  clear h h1 h2
  go_enter Tryd.func32, Tryd.ntmps32
  go_upto_region 1 with fail
  generalize hwa : (w.alloc _) = wa at *
  obtain ⟨qb, hq⟩ : ∃ qb, w.heap.size = qb := ⟨_, rfl⟩
  rw [hq] at hb0 hS ⊢
  clear hwa
  go_wp2_with fail
  refine (fail_calls wa S p r 6 hr0).mono ?_
  rintro e w1 ⟨rfl, hr1, f1⟩
  have hb1 := hb0.fr f1 (fun g => by have := hS _ g; omega)
  go_wp2_with (refine wpList_store_blk rfl rfl hb1 0 (vs := [.string ⟨#[]⟩, .string ⟨#[]⟩, .string ⟨#[]⟩, .bool false, .slice none 0 0]) rfl rfl (by kernel_rfl) (by kernel_rfl) (by simp) rfl ?_; intro w2 f2 hb2)
  refine bodyPost_ret (v := .agg #[.string ⟨#[]⟩, .string ⟨#[]⟩, .string ⟨#[]⟩, .bool false, .slice none 0 0]) (results_cell1 hres.out rfl (load_blk hb2 Tryd.underlying35 rfl (by kernel_rfl))) rfl ?_
  rw [HG.out]
  refine ⟨none, 0, 0, rfl, rfl, by omega, RowAt.nil _ _, hr1.fr f2 (fun k _ g h => by have := hS _ g; unfold eqB at h; omega), ?_⟩
  exact ((f0.mono (fun _ _ h => h.elim)).then' f1).trans f2 (fun i hi h => by unfold eqB at h; omega)
set_option maxRecDepth 100000 in
set_option maxHeartbeats 3200000 in
theorem getU_good (w : World) (S : Nat → Prop) (p : Nat) (r : Rd) (z : Int) (h : RdAt w S p r) (hS : ∀ k, S k → k < w.heap.size) (hz : z = 1 ∨ z = 2) :
    Calls Tryd.prog 32 #[.pointer (some ⟨p, 0, none⟩), .int .i64 z] w (GetUPost w S p (getU z r)) := by
  have HG : Hid (getU z r = (rFail (rdU z r).1 (checkU z (rdU z r).2), if (rFail (rdU z r).1 (checkU z (rdU z r).2)).e = 0 then (rdU z r).2 else zU)) := by unfold Hid getU; rw [if_pos hz]
  have hres : Hid (Tryd.f32.results = #[.cell 4 35]) := by unfold Hid; kernel_rfl
  have hb0 : BlkAt (w.alloc (.cells #[.string ⟨#[]⟩, .string ⟨#[]⟩, .string ⟨#[]⟩, .bool false, .slice none 0 0] 35)) w.heap.size 35 #[.string ⟨#[]⟩, .string ⟨#[]⟩, .string ⟨#[]⟩, .bool false, .slice none 0 0] := BlkAt.new _ _ _
  have f0 : Fr noB w (w.alloc (.cells #[.string ⟨#[]⟩, .string ⟨#[]⟩, .string ⟨#[]⟩, .bool false, .slice none 0 0] 35)) := (Fr.refl noB w).alloc _
  have hr0 := h.fr f0 (fun _ _ _ => id)
  have hlen := rRow_len (rTruth (rText (rText (rText r 65535).1 65535).1 65535).1).1 65535 65535
  obtain ⟨r1, t1, q1⟩ := pair_ex' (rText r 65535)
  rw [q1] at hlen
  simp only at hlen
  obtain ⟨r2, t2, q2⟩ := pair_ex' (rText r1 65535)
  rw [q2] at hlen
  simp only at hlen
  obtain ⟨r3, t3, q3⟩ := pair_ex' (rText r2 65535)
  rw [q3] at hlen
  simp only at hlen
  obtain ⟨r4, t4, q4⟩ := pair_ex' (rTruth r3)
  rw [q4] at hlen
  simp only at hlen
  obtain ⟨r5, t5, q5⟩ := pair_ex' (rRow r4 65535 65535)
  rw [q5] at hlen
  simp only at hlen
  have c1 := fun W S p h => textRd_calls W S p r 65535 h (by decide) (by decide)
  have c2 := fun W S p h => textRd_calls W S p r1 65535 h (by decide) (by decide)
  have c3 := fun W S p h => textRd_calls W S p r2 65535 h (by decide) (by decide)
  have c4 := fun W S p h => truthRd_calls W S p r3 h
  have c5 := fun W S p h g => rowRd_calls W S p r4 65535 65535 h g (by decide) (by decide) (by decide) (by decide)
  have e1 : rdU 1 r = (r2, ⟨mkS t1, mkS t2, ⟨#[]⟩, false, []⟩) := by unfold rdU; rw [if_neg (by decide)]; simp only [q1, q2]
  have e2 : rdU 2 r = (r5, ⟨mkS t1, mkS t2, mkS t3, t4, t5⟩) := by unfold rdU; rw [if_pos rfl]; simp only [q1, q2, q3, q4, q5]
  rw [q1] at c1
  rw [q2] at c2
  rw [q3] at c3
  rw [q4] at c4
  rw [q5] at c5
  simp only [] at c1 c2 c3 c4 c5
  clear q1 q2 q3 q4 q5
  clear h
  rcases hz with rfl | rfl
  case' inl =>
    rw [e1] at HG
    clear e1 e2 c3 c4 c5
    go_enter Tryd.func32, Tryd.ntmps32
    go_upto_region 1 with fail
    generalize hwa : (w.alloc _) = wa at *
    obtain ⟨qb, hq⟩ : ∃ qb, w.heap.size = qb := ⟨_, rfl⟩
    have HQ := hid hq
    rw [hq] at hb0 hS ⊢
    clear hwa hq
    go_wp2_with fail
    refine (c1 wa S p hr0).mono ?_
    rintro e w1 ⟨rfl, hr1, f1⟩
    have hb1 := hb0.fr f1 (fun g => by have := hS _ g; omega)
    replace f1 := (f0.mono (fun _ _ h => h.elim)).then' f1
    go_wp2_with fail
    refine (c2 w1 S p hr1).mono ?_
    rintro e w2 ⟨rfl, hr2, f2⟩
    have hb2 := hb1.fr f2 (fun g => by have := hS _ g; omega)
    replace f2 := f1.then' f2
    obtain ⟨u, hu⟩ : ∃ u : UsV, u = ⟨mkS t1, mkS t2, ⟨#[]⟩, false, []⟩ := ⟨_, rfl⟩
    rw [← hu] at HG
    have hgs : u.gs = [] := by rw [hu]
    have hC : u.C (.slice none 0 0) = #[.string (mkS t1), .string (mkS t2), .string ⟨#[]⟩, .bool false, .slice none 0 0] := by rw [hu]; rfl
    have hqb := hb2.lt
    obtain ⟨rb, hrb⟩ : ∃ rb, w2.heap.size = rb := ⟨_, rfl⟩
    have HRB := hid hrb
    rw [hrb] at hqb
    have hb4 := hb2.al (.cells #[.string (mkS t1), .string (mkS t2), .string ⟨#[]⟩, .bool false, .slice none 0 0] 35)
    have hb5 : BlkAt (w2.alloc (.cells #[.string (mkS t1), .string (mkS t2), .string ⟨#[]⟩, .bool false, .slice none 0 0] 35)) rb 35 #[.string (mkS t1), .string (mkS t2), .string ⟨#[]⟩, .bool false, .slice none 0 0] := hrb ▸ BlkAt.new _ _ _
    have fW := f2.alloc (.cells #[.string (mkS t1), .string (mkS t2), .string ⟨#[]⟩, .bool false, .slice none 0 0] 35)
    have hrW : RdAt (w2.alloc (.cells #[.string (mkS t1), .string (mkS t2), .string ⟨#[]⟩, .bool false, .slice none 0 0] 35)) S p r2 := hr2.fr ((Fr.refl noB w2).alloc _) (fun _ _ _ => id)
    clear f0 f1 f2 hb0 hb1 hb2 hr0 hr1 hr2 c1 c2
    go_upto_region 7 with fail
    generalize (w2.alloc _) = W at *
    obtain ⟨rr, A, n, c, HG, hrW, hb5, hrow, HN, hn, HAB⟩ : ∃ rr A n c, Hid (getU 1 r = (rFail rr (checkU 1 u), if (rFail rr (checkU 1 u)).e = 0 then u else zU)) ∧ RdAt W S p rr ∧ BlkAt W rb 35 #[.string u.name, .string u.hash, .string u.mail, .bool u.dis, .slice A n c] ∧ RowAt W A (strs u.gs) ∧ Hid (u.gs.length = n) ∧ n ≤ 65535 ∧ Hid (∀ a, A = some a → rb < a.block) := ⟨r2, none, 0, 0, HG, hrW, by rw [hu]; exact hb5, by rw [hgs]; exact RowAt.nil _ _, by rw [hgs]; rfl, by omega, fun a e => by cases e⟩
    have hck := check_calls06 W 1 u A n c hrow HN
    obtain ⟨k, hk⟩ : ∃ k, checkU 1 u = k := ⟨_, rfl⟩
    rw [hk] at HG hck
    clear hk hu
    clear hC hgs hlen
  case' inr =>
    rw [e2] at HG
    clear e1 e2
    go_enter Tryd.func32, Tryd.ntmps32
    go_upto_region 1 with fail
    generalize hwa : (w.alloc _) = wa at *
    obtain ⟨qb, hq⟩ : ∃ qb, w.heap.size = qb := ⟨_, rfl⟩
    have HQ := hid hq
    rw [hq] at hb0 hS ⊢
    clear hwa hq
    go_wp2_with fail
    refine (c1 wa S p hr0).mono ?_
    rintro e w1 ⟨rfl, hr1, f1⟩
    have hb1 := hb0.fr f1 (fun g => by have := hS _ g; omega)
    replace f1 := (f0.mono (fun _ _ h => h.elim)).then' f1
    go_wp2_with fail
    refine (c2 w1 S p hr1).mono ?_
    rintro e w2 ⟨rfl, hr2, f2⟩
    have hb2 := hb1.fr f2 (fun g => by have := hS _ g; omega)
    replace f2 := f1.then' f2
    have hqb := hb2.lt
    obtain ⟨rb, hrb⟩ : ∃ rb, w2.heap.size = rb := ⟨_, rfl⟩
    have HRB := hid hrb
    rw [hrb] at hqb
    have hb4 := hb2.al (.cells #[.string (mkS t1), .string (mkS t2), .string ⟨#[]⟩, .bool false, .slice none 0 0] 35)
    have hb5 : BlkAt (w2.alloc (.cells #[.string (mkS t1), .string (mkS t2), .string ⟨#[]⟩, .bool false, .slice none 0 0] 35)) rb 35 #[.string (mkS t1), .string (mkS t2), .string ⟨#[]⟩, .bool false, .slice none 0 0] := hrb ▸ BlkAt.new _ _ _
    have fW := f2.alloc (.cells #[.string (mkS t1), .string (mkS t2), .string ⟨#[]⟩, .bool false, .slice none 0 0] 35)
    have hrW : RdAt (w2.alloc (.cells #[.string (mkS t1), .string (mkS t2), .string ⟨#[]⟩, .bool false, .slice none 0 0] 35)) S p r2 := hr2.fr ((Fr.refl noB w2).alloc _) (fun _ _ _ => id)
    clear f0 f1 f2 hb0 hb1 hb2 hr0 hr1 hr2 c1 c2
    go_upto_region 6 with fail
    generalize (w2.alloc _) = w2a at *
    clear hrb
    go_wp2_with fail
    refine (c3 w2a S p hrW).mono ?_
    rintro e w3 ⟨rfl, hr3, f3⟩
    have hb6 := hb4.fr f3 (fun g => by have := hS _ g; omega)
    have hb7 := hb5.fr f3 (fun g => by have := hS _ g; omega)
    replace f3 := fW.then' f3
    go_wp2_with fail
    refine (c4 w3 S p hr3).mono ?_
    rintro e w4 ⟨rfl, hr4, f4⟩
    have hb8 := hb6.fr f4 (fun g => by have := hS _ g; omega)
    have hb9 := hb7.fr f4 (fun g => by have := hS _ g; omega)
    replace f4 := f3.then' f4
    go_wp2_with fail
    have hq4 := hb9.lt
    refine (c5 w4 S p hr4 (fun k g => by have := hS k g; omega)).mono ?_
    rintro e w5 ⟨A, n, c, rfl, HN, ho, hr5, f5⟩
    have hbA := hb8.fr f5 (fun g => by have := hS _ g; omega)
    have hbB := hb9.fr f5 (fun g => by have := hS _ g; omega)
    replace f5 := f4.then' f5
    clear f3 f4 hb4 hb5 hb6 hb7 hb8 hb9 hrW hr3 hr4 c3 c4 c5 fW
    have hog : ∀ g, (Value.slice A n c).ownBlock = some g → rb < g := fun g e => Nat.lt_of_lt_of_le hq4 (ho.lt g e).1
    have fs := ((fr_set1 w5 rb 2 (.string (mkS t3))).then' (fr_set1 _ rb 3 (.bool t4))).then' (fr_set1 _ rb 4 (.slice A n c))
    have hbC := ((hbB.set 2 (.string (mkS t3))).set 3 (.bool t4)).set 4 (.slice A n c)
    have hbD := hbA.fr fs (by unfold eqB; omega)
    have hoD := own_fr ho fs (fun g e h => by have := hog g e; unfold eqB at h; omega)
    have hrD := hr5.fr fs (fun k _ g h => by have := hS k g; unfold eqB at h; omega)
    have fW := f5.trans fs (fun i hi h => by have := HQ.out; unfold eqB at h; omega)
    obtain ⟨x0, x1, x2, x3, x4, xf⟩ := BlkAt.c5 hbB
    have hxf2 := xf 2
    have hxf3 := xf 3
    have hxf4 := xf 4
    obtain ⟨u, hu⟩ : ∃ u : UsV, u = ⟨mkS t1, mkS t2, mkS t3, t4, t5⟩ := ⟨_, rfl⟩
    rw [← hu] at HG
    have hgs : u.gs = t5 := by rw [hu]
    have hrow := own_row hoD
    clear ho hoD hr5 f5 hbB hbA
    go_upto_region 7 with fail
    generalize (((w5.setCell _ _).setCell _ _).setCell _ _) = W at *
    clear x0 x1 x2 x3 x4 xf hxf2 hxf3 hxf4 fs
    have hb4 := hbD
    clear hb4; have hb4 := hbD
    obtain ⟨rr, A, n, c, HG, hrW, hb5, hrow, HN, hn, HAB⟩ : ∃ rr A n c, Hid (getU 2 r = (rFail rr (checkU 2 u), if (rFail rr (checkU 2 u)).e = 0 then u else zU)) ∧ RdAt W S p rr ∧ BlkAt W rb 35 #[.string u.name, .string u.hash, .string u.mail, .bool u.dis, .slice A n c] ∧ RowAt W A (strs u.gs) ∧ Hid (u.gs.length = n) ∧ n ≤ 65535 ∧ Hid (∀ a, A = some a → rb < a.block) := ⟨r5, A, n, c, HG, hrD, by rw [hu]; exact hbC, by rw [hgs]; exact hrow, by rw [hgs]; exact HN, by rw [← HN.out]; exact hlen, fun a e => hog a.block (by rw [e]; rfl)⟩
    have hck := check_calls06 W 2 u A n c hrow HN
    obtain ⟨k, hk⟩ : ∃ k, checkU 2 u = k := ⟨_, rfl⟩
    rw [hk] at HG hck
    clear hk hu
    clear hbD hrD hbC hgs hlen hog
  all_goals
    have hE := errRd_calls W S p rr hrW
    obtain ⟨x0, x1, x2, x3, x4, xf⟩ := BlkAt.c5 hb5
    have hWq := hb5.lt
    obtain ⟨b1, hb1⟩ : ∃ b, ((rr.e : Int) == 0) = b := ⟨_, rfl⟩
    cases b1
    · have hne : rr.e ≠ 0 := fun h => by rw [h] at hb1; simp at hb1
      have hb2 : ((rr.e : Int) != 0) = true := by rw [bne_iff_ne]; omega
      have hrf : rFail rr k = rr := by unfold rFail; rw [if_neg (by simp [hne])]
      rw [hrf, if_neg hne] at HG
      clear hne hrf
      go_wp2_with (first | (go_at_call 34; refine hE.mono ?_; rintro e w' ⟨rfl, rfl⟩) | (refine wpList_store_blk rfl rfl hb4 0 (vs := [.string ⟨#[]⟩, .string ⟨#[]⟩, .string ⟨#[]⟩, .bool false, .slice none 0 0]) rfl rfl (by kernel_rfl) (by kernel_rfl) (by simp) rfl ?_; intro w9 f9 hb9))
      refine bodyPost_ret (v := .agg #[.string ⟨#[]⟩, .string ⟨#[]⟩, .string ⟨#[]⟩, .bool false, .slice none 0 0]) (results_cell1 hres.out rfl (load_blk hb9 Tryd.underlying35 rfl (by kernel_rfl))) rfl ?_
      rw [HG.out]
      refine ⟨none, 0, 0, rfl, rfl, by omega, RowAt.nil _ _, hrW.fr f9 (fun k g h h' => by have := hS k h; unfold eqB at h'; omega), ?_⟩
      exact fW.trans f9 (fun i hi h => by have := HQ.out; unfold eqB at h; omega)
    · have he : rr.e = 0 := by have := eq_of_beq hb1; omega
      have HE := hid he
      clear he
      go_wp2_with (go_at_call 34; refine hE.mono ?_; rintro e w' ⟨rfl, rfl⟩)
      refine hck.mono ?_
      rintro e W2 ⟨rfl, f2⟩
      clear x0 x1 x2 x3 x4 xf
      have hr2 := hrW.fr f2 (fun _ _ _ => id)
      have hb42 := hb4.fr f2 id
      have hb52 := hb5.fr f2 id
      have hrow2 := hrow.fr0 f2
      go_wp2_with fail
      have hS2 : ∀ k, S k → k < W2.heap.size := fun k g => by have := hS k g; have := f2.size; omega
      refine (fail_calls W2 S p rr k hr2).mono ?_
      rintro e W3 ⟨rfl, hr3, f3⟩
      have hb43 := hb42.fr f3 (fun g => by have := hS _ g; omega)
      have hb53 := hb52.fr f3 (fun g => by have := hS _ g; omega)
      replace fW := (fW.then' (f2.mono (fun _ _ h => h.elim))).then' f3
      have hE3 := errRd_calls W3 S p _ hr3
      have hW3 := hb53.lt
      clear hE hr2 hb4 hb5 hb42 hb52 hck hrW hrow
      have hrow3 : RowAt W3 A (strs u.gs) := hrow2.fr f3 (fun a e h0 hlt g => by have := HAB.out a e; have := hS _ g; omega)
      obtain ⟨b2, hb2⟩ : ∃ b, (((rFail rr k).e : Int) != 0) = b := ⟨_, rfl⟩
      generalize hrf : rFail rr k = rf at *
      cases b2
      · have he2 : rf.e = 0 := by have := bne_eq_false_iff_eq.mp hb2; omega
        rw [if_pos he2] at HG
        clear he2 hrf
        obtain ⟨x0, x1, x2, x3, x4, xf⟩ := BlkAt.c5 hb53
        go_wp2_with (first | (go_at_call 34; refine hE3.mono ?_; rintro e w' ⟨rfl, rfl⟩) | (refine wpList_store_blk rfl rfl hb43 0 (vs := [.string u.name, .string u.hash, .string u.mail, .bool u.dis, .slice A n c]) rfl rfl (by kernel_rfl) (by kernel_rfl) (by simp) rfl ?_; intro w9 f9 hb9))
        refine bodyPost_ret (v := .agg #[.string u.name, .string u.hash, .string u.mail, .bool u.dis, .slice A n c]) (results_cell1 hres.out rfl (load_blk hb9 Tryd.underlying35 rfl (by kernel_rfl))) rfl ?_
        rw [HG.out]
        refine ⟨A, n, c, rfl, HN, hn, hrow3.fr f9 (fun a e h0 hlt g => by have := HAB.out a e; unfold eqB at g; omega), hr3.fr f9 (fun k g h h' => by have := hS k h; unfold eqB at h'; omega), ?_⟩
        exact fW.trans f9 (fun i hi h => by have := HQ.out; unfold eqB at h; omega)
      · have he2 : rf.e ≠ 0 := fun h => by rw [h] at hb2; simp at hb2
        rw [if_neg he2] at HG
        clear he2 hrf
        go_wp2_with (first | (go_at_call 34; refine hE3.mono ?_; rintro e w' ⟨rfl, rfl⟩) | (refine wpList_store_blk rfl rfl hb43 0 (vs := [.string ⟨#[]⟩, .string ⟨#[]⟩, .string ⟨#[]⟩, .bool false, .slice none 0 0]) rfl rfl (by kernel_rfl) (by kernel_rfl) (by simp) rfl ?_; intro w9 f9 hb9))
        refine bodyPost_ret (v := .agg #[.string ⟨#[]⟩, .string ⟨#[]⟩, .string ⟨#[]⟩, .bool false, .slice none 0 0]) (results_cell1 hres.out rfl (load_blk hb9 Tryd.underlying35 rfl (by kernel_rfl))) rfl ?_
        rw [HG.out]
        refine ⟨none, 0, 0, rfl, rfl, by omega, RowAt.nil _ _, hr3.fr f9 (fun k g h h' => by have := hS k h; unfold eqB at h'; omega), ?_⟩
        exact fW.trans f9 (fun i hi h => by have := HQ.out; unfold eqB at h; omega)
end Go.Proofs.YtahcopmdffengaaDoor
