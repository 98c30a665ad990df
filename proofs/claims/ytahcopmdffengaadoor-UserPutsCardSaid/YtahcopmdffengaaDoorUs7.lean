/- user.Put. -/
import Derived.Test.YtahcopmdffengaaDoorUs6
import Derived.Test.YtahcopmdffengaaDoorWr5
import Derived.Test.YtahcopmdffengaaDoorFoot
namespace Go.Proofs.YtahcopmdffengaaDoor
open Go.RowKit
def userB (z : Int) (u : UsV) : List UInt8 := textB u.name ++ textB u.hash ++ if z = 2 then textB u.mail ++ leB 1 (if u.dis then 1 else 0) ++ rowB u.gs else []
def putU2 (bs x y : List UInt8) : Nat → List UInt8
  | 0 => bs
  | 1 => bs ++ x
  | _ => bs ++ x ++ y
def putU3 (bs x y z : List UInt8) : Nat → List UInt8
  | 0 => bs
  | 1 => bs ++ x
  | 2 => bs ++ x ++ y
  | _ => bs ++ x ++ y ++ z
theorem sumSz_le {k : Nat} : ∀ {l : List ByteArray}, (∀ s ∈ l, s.size ≤ k) → sumSz l ≤ l.length * (k + 2)
  | [], _ => by simp [sumSz]
  | s :: l, h => by
    have h1 := sumSz_le (l := l) fun t ht => h t (List.mem_cons_of_mem _ ht)
    have h2 := h s (List.mem_cons_self ..)
    simp only [sumSz, List.length_cons, Nat.succ_mul, List.map_cons, List.sum_cons] at h1 ⊢
    omega
theorem nameS_le {s : ByteArray} (h : nameS s = true) : s.size ≤ 12 := by
  rcases Nat.lt_or_ge 12 s.size with h1 | h1
  · rw [nameS_big h1] at h; cases h
  · exact h1
theorem hashS_le {s : ByteArray} (h : hashS s = true) : s.size ≤ 12 := by
  rcases Nat.lt_or_ge 12 s.size with h1 | h1
  · rw [hashS_big h1] at h; cases h
  · exact h1
theorem mailOk_le {s : ByteArray} (h : mailOk s = true) : s.size ≤ 20 := by
  rcases Nat.lt_or_ge 20 s.size with h1 | h1
  · unfold mailOk at h
    rw [mailV_big h1, decide_eq_false (by omega)] at h; cases h
  · exact h1
theorem checkU_sizes {z : Int} {u : UsV} (h : checkU z u = 0) : u.name.size ≤ 12 ∧ u.hash.size ≤ 12 ∧ u.mail.size ≤ 20 ∧ sumSz u.gs ≤ 84 := by
  unfold checkU at h
  by_cases hz : z = 1 ∨ z = 2
  · rw [if_pos hz] at h
    by_cases h1 : nameS u.name = true
    · rw [if_pos h1] at h
      by_cases h2 : hashS u.hash = true
      · rw [if_pos h2] at h
        refine ⟨nameS_le h1, hashS_le h2, ?_⟩
        by_cases h3 : z = 2
        · rw [if_pos h3] at h
          by_cases h4 : mailOk u.mail = true
          · rw [if_pos h4] at h
            refine ⟨mailOk_le h4, ?_⟩
            unfold groupsE at h
            by_cases h5 : 6 < u.gs.length
            · rw [if_pos h5] at h; cases h
            · rw [if_neg h5] at h
              by_cases h6 : u.gs.all nameS = true
              · have := sumSz_le (k := 12) (l := u.gs) fun s hs => nameS_le (List.all_eq_true.mp h6 s hs)
                have : u.gs.length * (12 + 2) ≤ 84 := by omega
                omega
              · rw [if_neg h6] at h; cases h
          · rw [if_neg h4] at h; cases h
        · rw [if_neg h3] at h
          by_cases h4 : u.mail.size = 0 ∧ u.dis = false ∧ u.gs = []
          · rw [h4.2.2, h4.1]; exact ⟨by omega, by simp [sumSz]⟩
          · rw [if_neg h4] at h; cases h
      · rw [if_neg h2] at h; cases h
    · rw [if_neg h1] at h; cases h
  · rw [if_neg hz] at h; cases h
structure PutU (w wa : World) (S : Nat → Prop) (p wb : Nat) (C : Array Value) (A : Option Addr) (l : List ByteArray) (bs : List UInt8) (W : World) : Prop where
  fr : Fr (andNew S wa) wa W
  blk : BlkAt W wb 35 C
  row : RowAt W A (strs l)
  wr : WrAt W (andNew S wa) p bs
theorem PutU.step {w wa W W' : World} {S : Nat → Prop} {p wb : Nat} {C : Array Value} {A : Option Addr} {l : List ByteArray} {bs bs' : List UInt8} (h : PutU w wa S p wb C A l bs W) (hwb : ¬ andNew S wa wb) (hrow : ∀ a, A = some a → 0 < l.length → ¬ andNew S wa a.block)
    (f : Fr (andNew S wa) W W') (hw : WrAt W' (andNew (andNew S wa) W) p bs') : PutU w wa S p wb C A l bs' W' :=
  ⟨h.fr.then' f, h.blk.fr f hwb, h.row.fr f (fun a e h0 _ => hrow a e (by simpa [strs] using h0)), hw.mono fun k _ hk => hk.elim id fun g => Or.inr (Nat.le_trans h.fr.size g)⟩
theorem textB_len (s : ByteArray) : (textB s).length ≤ 2 + s.size := by
  unfold textB; rw [List.length_append, leB_length, List.length_take]
  have : s.data.toList.length = s.size := by simp
  omega
set_option maxRecDepth 100000 in
set_option maxHeartbeats 1600000 in
theorem putU_foot (w : World) (S : Nat → Prop) (p : Nat) (bs : List UInt8) (z : Int) (u : UsV) (A : Option Addr) (n c : Nat) (h : WrAt w S p bs) (hS : ∀ k, S k → k < w.heap.size) (hrow : RowAt w A (strs u.gs)) (hn : u.gs.length = n) (hnc : n ≤ c) (hc : c ≤ 9223372036854775807) (hA : ∀ a, A = some a → 0 < n → ¬ S a.block) (hl : bs.length ≤ 1000000) :
    Calls Tryd.prog 37 #[.pointer (some ⟨p, 0, none⟩), .int .i64 z, .agg (u.C (.slice A n c))] w (fun e w' => e = .returned (.bool (decide (checkU z u = 0))) ∧ WrAt w' (andNew S w) p (if checkU z u = 0 then bs ++ userB z u else bs) ∧ Fr S w w') := by
  obtain ⟨k, hk⟩ : ∃ k, checkU z u = k := ⟨_, rfl⟩
  have hck := fun W f => check_calls06 W z u A n c (hrow.fr0 f) (hid hn)
  have hb0 : BlkAt (w.alloc (.cells (u.C (.slice A n c)) 35)) w.heap.size 35 (u.C (.slice A n c)) := BlkAt.new _ _ _
  have f0 : Fr noB w (w.alloc (.cells (u.C (.slice A n c)) 35)) := (Fr.refl noB w).alloc _
  have h0 : WrAt (w.alloc (.cells (u.C (.slice A n c)) 35)) S p bs := h.fr f0 (fun _ _ _ => id)
  rw [hk] at hck ⊢
  have hlt : ∀ a, A = some a → 0 < u.gs.length → a.block < w.heap.size := fun a e g => by subst e; exact hrow.lt (by simpa [strs] using g)
  have HU : Hid (userB z u = textB u.name ++ textB u.hash ++ if z = 2 then textB u.mail ++ leB 1 (if u.dis then 1 else 0) ++ rowB u.gs else []) := rfl
  generalize userB z u = ub at *
  have hsz : Hid (k = 0 → u.name.size ≤ 12 ∧ u.hash.size ≤ 12 ∧ u.mail.size ≤ 20 ∧ sumSz u.gs ≤ 84) := by unfold Hid; rw [← hk]; exact checkU_sizes
  clear h
  unfold UsV.C at *
  generalize u.name = nm at *
  generalize u.hash = hs at *
  generalize u.mail = ml at *
  generalize u.dis = ds at *
  generalize u.gs = l at *
  have HLT := hid hlt
  clear hlt
  by_cases hk0 : k = 0
  · subst hk0
    obtain ⟨h1, h2, h3, hsum⟩ := hsz.out rfl
    go_enter Tryd.func37, Tryd.ntmps37
    go_wp2_with fail
    generalize (w.alloc _) = wa at *
    obtain ⟨x0, x1, x2, x3, x4, xf⟩ := BlkAt.c5 hb0
    go_wp2_with fail
    refine (hck _ f0).mono ?_
    rintro e w1 ⟨rfl, f1⟩
    clear hck x0 x1 x2 x3 x4 xf
    replace hb0 := hb0.fr f1 id
    replace h0 : WrAt w1 S p bs := h0.fr f1 (fun _ _ _ => id)
    replace f0 := f0.then' f1
    have hz1 : w.heap.size < w1.heap.size := hb0.lt
    have hwb : ¬ andNew S w1 w.heap.size := fun h => h.elim (fun g => by have := hS _ g; omega) (fun g => by omega)
    have HR : Hid (∀ a, A = some a → 0 < l.length → ¬ andNew S w1 a.block) := hid (fun a e g h => h.elim (fun g' => hA a e (by omega) g') (fun g' => by have := HLT.out a e g; omega))
    have hbe : PutU w w1 S p w.heap.size #[.string nm, .string hs, .string ml, .bool ds, .slice A n c] A l (putU2 bs (textB nm) (textB hs) 0) w1 := ⟨Fr.refl _ _, hb0, hrow.fr0 f0, h0.mono fun k _ h => Or.inl h⟩
    have L1 := textB_len nm
    have L2 := textB_len hs
    have L3 := textB_len ml
    have HN := hid hn
    clear hn
    go_wp2_with fail
    apply wp_region_calm (R := Fr (andNew S w1)) (C := fun q W => PutU w w1 S p w.heap.size #[.string nm, .string hs, .string ml, .bool ds, .slice A n c] A l (putU2 bs (textB nm) (textB hs) q) W) [false, false, false, true, false, false, true]
      [eqv _, eqv _, eqv _, eqv (.pointer (some ⟨p, 0, none⟩)), eqv _, eqv _, eqv (.pointer (some ⟨p, 0, none⟩))]
      (by kernel_rfl) (by kernel_rfl) (fun _ _ _ h1 h2 => h1.then' h2) ((Fr.refl _ _).drew) ⟨(Fr.refl _ _).drew, hbe.blk, hbe.row, hbe.wr.fr ((Fr.refl noB _).drew) (fun _ _ _ => id)⟩ (by kernel_rfl)
    · refine ⟨?_, ?_, ?_, ?_, ?_, ?_, ?_, trivial⟩
      · rw [if_neg (by decide)]; intro kq
        exact calm_mv 0 rfl rfl (Or.inl rfl) (Fr.refl _) (by decide) fun v w hd => hd
      · rw [if_neg (by decide)]; intro kq
        intro a W K hC hd hK
        have d5 : a.tmps[5]?.getD undef = .pointer (some ⟨w.heap.size, 0, none⟩) := hd 5 (by decide)
        refine wpOp_plain rfl rfl ?_
        obtain ⟨x0, x1, x2, x3, x4, xf⟩ := BlkAt.c5 hC.blk
        go_wp2_with fail
        exact hK _ _ (Fr.refl _ _) hC rfl
      · rw [if_neg (by decide)]; intro kq
        intro a W K hC hd hK
        have d12 : _ = _ := hd 12 (by decide)
        refine wpOp_plain rfl rfl ?_
        obtain ⟨x0, x1, x2, x3, x4, xf⟩ := BlkAt.c5 hC.blk
        go_wp2_with fail
        exact hK _ _ (Fr.refl _ _) hC rfl
      · rw [if_pos (by decide)]
        intro a W K hC hd hK
        replace hC : (fun q W => PutU w w1 S p w.heap.size #[.string nm, .string hs, .string ml, .bool ds, .slice A n c] A l (putU2 bs (textB nm) (textB hs) q) W) 0 W := hC
        have d11 : _ = _ := hd 11 (by decide)
        have d13 : _ = _ := hd 13 (by decide)
        refine wpOp_plain rfl rfl ?_
        obtain ⟨x0, x1, x2, x3, x4, xf⟩ := BlkAt.c5 hC.blk
        go_wp2_with fail
        refine (text_calls W (andNew S w1) p bs nm hC.wr (by unfold maxLen; omega) (by omega)).mono ?_
        rintro e9 w9 ⟨rfl, h9, f9⟩
        exact hK _ _ f9 (hC.step hwb HR.out f9 h9) rfl
      · rw [if_neg (by decide)]; intro kq
        intro a W K hC hd hK
        have d5 : a.tmps[5]?.getD undef = .pointer (some ⟨w.heap.size, 0, none⟩) := hd 5 (by decide)
        refine wpOp_plain rfl rfl ?_
        obtain ⟨x0, x1, x2, x3, x4, xf⟩ := BlkAt.c5 hC.blk
        go_wp2_with fail
        exact hK _ _ (Fr.refl _ _) hC rfl
      · rw [if_neg (by decide)]; intro kq
        intro a W K hC hd hK
        have d15 : _ = _ := hd 15 (by decide)
        refine wpOp_plain rfl rfl ?_
        obtain ⟨x0, x1, x2, x3, x4, xf⟩ := BlkAt.c5 hC.blk
        go_wp2_with fail
        exact hK _ _ (Fr.refl _ _) hC rfl
      · rw [if_pos (by decide)]
        intro a W K hC hd hK
        replace hC : (fun q W => PutU w w1 S p w.heap.size #[.string nm, .string hs, .string ml, .bool ds, .slice A n c] A l (putU2 bs (textB nm) (textB hs) q) W) 1 W := hC
        have d14 : a.tmps[14]?.getD undef = .pointer (some ⟨p, 0, none⟩) := hd 14 (by decide)
        have d16 : _ = _ := hd 16 (by decide)
        refine wpOp_plain rfl rfl ?_
        obtain ⟨x0, x1, x2, x3, x4, xf⟩ := BlkAt.c5 hC.blk
        go_wp2_with fail
        refine (text_calls W (andNew S w1) p (bs ++ textB nm) hs hC.wr (by unfold maxLen; omega) (by rw [List.length_append]; omega)).mono ?_
        rintro e9 w9 ⟨rfl, h9, f9⟩
        exact hK _ _ f9 (hC.step hwb HR.out f9 h9) rfl
    · intro vs w2 fw2 cw2 hV
      have v11 : vs 0 = _ := hV 0 _ _ rfl rfl (by decide)
      have v12 : vs 1 = _ := hV 1 _ _ rfl rfl (by decide)
      have v13 : vs 2 = _ := hV 2 _ _ rfl rfl (by decide)
      have v14 : vs 3 = .pointer (some ⟨p, 0, none⟩) := hV 3 _ _ rfl rfl (by decide)
      have v15 : vs 4 = _ := hV 4 _ _ rfl rfl (by decide)
      have v16 : vs 5 = _ := hV 5 _ _ rfl rfl (by decide)
      have v17 : vs 6 = .pointer (some ⟨p, 0, none⟩) := hV 6 _ _ rfl rfl (by decide)
      clear hV
      simp only [putL, Act.put, Nat.reduceAdd, List.setIfInBounds_toArray, List.set_cons_zero, List.set_cons_succ, v11, v12, v13, v14, v15, v16, v17]
      obtain ⟨b, hb⟩ : ∃ b, (z == 2) = b := ⟨_, rfl⟩
      obtain ⟨bs2, hbs2⟩ : ∃ x, bs ++ textB nm ++ textB hs = x := ⟨_, rfl⟩
      replace cw2 : PutU w w1 S p w.heap.size #[.string nm, .string hs, .string ml, .bool ds, .slice A n c] A l (bs ++ textB nm ++ textB hs) w2 := cw2
      have L4 : bs2.length ≤ 3000000 + 4 := by rw [← hbs2, List.length_append, List.length_append]; omega
      rw [hbs2] at cw2
      cases b
      · have HV : Hid (bs ++ ub = bs2) := by
          unfold Hid; rw [HU.out, if_neg (by simpa using hb), List.append_nil, ← hbs2, List.append_assoc]
        go_wp2_with fail
        go_ret
        refine ⟨rfl, ?_, (f0.mono (fun _ _ h => h.elim)).trans cw2.fr (fun i hi h => h.elim id (fun g => by have := f0.size; omega))⟩
        rw [HV.out]
        exact cw2.wr.mono fun k hk h => h.elim Or.inl (fun g => Or.inr (by have := f0.size; omega))
      · have HV : Hid (bs ++ ub = bs2 ++ textB ml ++ leB 1 (if ds then 1 else 0) ++ rowB l) := by
          unfold Hid; rw [HU.out, if_pos (by simpa using hb), ← hbs2]; simp only [List.append_assoc]
        replace cw2 : PutU w w1 S p w.heap.size #[.string nm, .string hs, .string ml, .bool ds, .slice A n c] A l (putU3 bs2 (textB ml) (leB 1 (if ds then 1 else 0)) (rowB l) 0) w2 := cw2
        go_wp2_with fail
        apply wp_region_calm (R := Fr (andNew S w1)) (C := fun q W => PutU w w1 S p w.heap.size #[.string nm, .string hs, .string ml, .bool ds, .slice A n c] A l (putU3 bs2 (textB ml) (leB 1 (if ds then 1 else 0)) (rowB l) q) W) [false, false, false, true, false, false, true, false, false, true]
          [eqv _, eqv _, eqv _, eqv (.pointer (some ⟨p, 0, none⟩)), eqv _, eqv _, eqv (.pointer (some ⟨p, 0, none⟩)), eqv _, eqv _, eqv (.pointer (some ⟨p, 0, none⟩))]
          (by kernel_rfl) (by kernel_rfl) (fun _ _ _ h1 h2 => h1.then' h2) ((Fr.refl _ _).drew) ⟨cw2.fr.drew, cw2.blk, cw2.row, cw2.wr.fr ((Fr.refl noB _).drew) (fun _ _ _ => id)⟩ (by kernel_rfl)
        · refine ⟨?_, ?_, ?_, ?_, ?_, ?_, ?_, ?_, ?_, ?_, trivial⟩
          · rw [if_neg (by decide)]; intro kq
            exact calm_mv 0 rfl rfl (Or.inl rfl) (Fr.refl _) (by decide) fun v w hd => hd
          · rw [if_neg (by decide)]; intro kq
            intro a W K hC hd hK
            have d5 : a.tmps[5]?.getD undef = .pointer (some ⟨w.heap.size, 0, none⟩) := hd 5 (by decide)
            refine wpOp_plain rfl rfl ?_
            obtain ⟨x0, x1, x2, x3, x4, xf⟩ := BlkAt.c5 hC.blk
            go_wp2_with fail
            exact hK _ _ (Fr.refl _ _) hC rfl
          · rw [if_neg (by decide)]; intro kq
            intro a W K hC hd hK
            have d21 : _ = _ := hd 21 (by decide)
            refine wpOp_plain rfl rfl ?_
            obtain ⟨x0, x1, x2, x3, x4, xf⟩ := BlkAt.c5 hC.blk
            go_wp2_with fail
            exact hK _ _ (Fr.refl _ _) hC rfl
          · rw [if_pos (by decide)]
            intro a W K hC hd hK
            replace hC : (fun q W => PutU w w1 S p w.heap.size #[.string nm, .string hs, .string ml, .bool ds, .slice A n c] A l (putU3 bs2 (textB ml) (leB 1 (if ds then 1 else 0)) (rowB l) q) W) 0 W := hC
            have d20 : _ = _ := hd 20 (by decide)
            have d22 : _ = _ := hd 22 (by decide)
            refine wpOp_plain rfl rfl ?_
            obtain ⟨x0, x1, x2, x3, x4, xf⟩ := BlkAt.c5 hC.blk
            go_wp2_with fail
            refine (text_calls W (andNew S w1) p bs2 ml hC.wr (by unfold maxLen; omega) (by omega)).mono ?_
            rintro e9 w9 ⟨rfl, h9, f9⟩
            exact hK _ _ f9 (hC.step hwb HR.out f9 h9) rfl
          · rw [if_neg (by decide)]; intro kq
            intro a W K hC hd hK
            have d5 : a.tmps[5]?.getD undef = .pointer (some ⟨w.heap.size, 0, none⟩) := hd 5 (by decide)
            refine wpOp_plain rfl rfl ?_
            obtain ⟨x0, x1, x2, x3, x4, xf⟩ := BlkAt.c5 hC.blk
            go_wp2_with fail
            exact hK _ _ (Fr.refl _ _) hC rfl
          · rw [if_neg (by decide)]; intro kq
            intro a W K hC hd hK
            have d24 : _ = _ := hd 24 (by decide)
            refine wpOp_plain rfl rfl ?_
            obtain ⟨x0, x1, x2, x3, x4, xf⟩ := BlkAt.c5 hC.blk
            go_wp2_with fail
            exact hK _ _ (Fr.refl _ _) hC rfl
          · rw [if_pos (by decide)]
            intro a W K hC hd hK
            replace hC : (fun q W => PutU w w1 S p w.heap.size #[.string nm, .string hs, .string ml, .bool ds, .slice A n c] A l (putU3 bs2 (textB ml) (leB 1 (if ds then 1 else 0)) (rowB l) q) W) 1 W := hC
            have d23 : a.tmps[23]?.getD undef = .pointer (some ⟨p, 0, none⟩) := hd 23 (by decide)
            have d25 : _ = _ := hd 25 (by decide)
            refine wpOp_plain rfl rfl ?_
            obtain ⟨x0, x1, x2, x3, x4, xf⟩ := BlkAt.c5 hC.blk
            go_wp2_with fail
            refine (truth_calls W (andNew S w1) p (bs2 ++ textB ml) ds hC.wr (by rw [List.length_append]; omega)).mono ?_
            rintro e9 w9 ⟨rfl, h9, f9⟩
            exact hK _ _ f9 (hC.step hwb HR.out f9 h9) rfl
          · rw [if_neg (by decide)]; intro kq
            intro a W K hC hd hK
            have d5 : a.tmps[5]?.getD undef = .pointer (some ⟨w.heap.size, 0, none⟩) := hd 5 (by decide)
            refine wpOp_plain rfl rfl ?_
            obtain ⟨x0, x1, x2, x3, x4, xf⟩ := BlkAt.c5 hC.blk
            go_wp2_with fail
            exact hK _ _ (Fr.refl _ _) hC rfl
          · rw [if_neg (by decide)]; intro kq
            intro a W K hC hd hK
            have d27 : _ = _ := hd 27 (by decide)
            refine wpOp_plain rfl rfl ?_
            obtain ⟨x0, x1, x2, x3, x4, xf⟩ := BlkAt.c5 hC.blk
            go_wp2_with fail
            exact hK _ _ (Fr.refl _ _) hC rfl
          · rw [if_pos (by decide)]
            intro a W K hC hd hK
            replace hC : (fun q W => PutU w w1 S p w.heap.size #[.string nm, .string hs, .string ml, .bool ds, .slice A n c] A l (putU3 bs2 (textB ml) (leB 1 (if ds then 1 else 0)) (rowB l) q) W) 2 W := hC
            have d26 : a.tmps[26]?.getD undef = .pointer (some ⟨p, 0, none⟩) := hd 26 (by decide)
            have d28 : _ = _ := hd 28 (by decide)
            refine wpOp_plain rfl rfl ?_
            obtain ⟨x0, x1, x2, x3, x4, xf⟩ := BlkAt.c5 hC.blk
            go_wp2_with fail
            refine (row_calls_any W (andNew S w1) p (bs2 ++ textB ml ++ leB 1 (if ds then 1 else 0)) A n c l hC.wr hC.row HN.out hnc hc (fun h0 a e => HR.out a e (by rw [HN.out]; exact h0)) (by rw [List.length_append, List.length_append, leB_length]; omega)).mono ?_
            rintro e9 w9 ⟨rfl, h9, f9⟩
            exact hK _ _ f9 (hC.step hwb HR.out f9 h9) rfl
        · intro vs w3 fw3 cw3 hV
          have v20 : vs 0 = _ := hV 0 _ _ rfl rfl (by decide)
          have v21 : vs 1 = _ := hV 1 _ _ rfl rfl (by decide)
          have v22 : vs 2 = _ := hV 2 _ _ rfl rfl (by decide)
          have v23 : vs 3 = .pointer (some ⟨p, 0, none⟩) := hV 3 _ _ rfl rfl (by decide)
          have v24 : vs 4 = _ := hV 4 _ _ rfl rfl (by decide)
          have v25 : vs 5 = _ := hV 5 _ _ rfl rfl (by decide)
          have v26 : vs 6 = .pointer (some ⟨p, 0, none⟩) := hV 6 _ _ rfl rfl (by decide)
          have v27 : vs 7 = _ := hV 7 _ _ rfl rfl (by decide)
          have v28 : vs 8 = _ := hV 8 _ _ rfl rfl (by decide)
          have v29 : vs 9 = .pointer (some ⟨p, 0, none⟩) := hV 9 _ _ rfl rfl (by decide)
          clear hV
          simp only [putL, Act.put, Nat.reduceAdd, List.setIfInBounds_toArray, List.set_cons_zero, List.set_cons_succ, v20, v21, v22, v23, v24, v25, v26, v27, v28, v29]
          go_wp2_with fail
          go_ret
          replace cw3 : PutU w w1 S p w.heap.size #[.string nm, .string hs, .string ml, .bool ds, .slice A n c] A l (bs2 ++ textB ml ++ leB 1 (if ds then 1 else 0) ++ rowB l) w3 := cw3
          refine ⟨rfl, ?_, (f0.mono (fun _ _ h => h.elim)).trans cw3.fr (fun i hi h => h.elim id (fun g => by have := f0.size; omega))⟩
          rw [HV.out]
          exact cw3.wr.mono fun k hk h => h.elim Or.inl (fun g => Or.inr (by have := f0.size; omega))
  · have HK := hid hk0
    have t1 : ((k : Int) != 0) = true := by rw [bne_iff_ne]; omega
    rw [if_neg hk0, decide_eq_false hk0]
    clear hk0
    go_enter Tryd.func37, Tryd.ntmps37
    go_wp2_with fail
    generalize (w.alloc _) = wa at *
    obtain ⟨x0, x1, x2, x3, x4, xf⟩ := BlkAt.c5 hb0
    go_wp2_with fail
    refine (hck _ f0).mono ?_
    rintro e w1 ⟨rfl, f1⟩
    go_wp2_with fail
    go_ret
    exact ⟨rfl, (h0.fr f1 (fun _ _ _ => id)).mono fun k _ hk => Or.inl hk, (f0.then' f1).mono fun _ _ h => h.elim⟩
theorem putU_calls (w : World) (S : Nat → Prop) (p : Nat) (bs : List UInt8) (z : Int) (u : UsV) (A : Option Addr) (n c : Nat) (h : WrAt w S p bs) (hrow : RowAt w A (strs u.gs)) (hn : u.gs.length = n) (hnc : n ≤ c) (hc : c ≤ 9223372036854775807) (hA : ∀ a, A = some a → 0 < n → ¬ S a.block) (hl : bs.length ≤ 1000000) :
    Calls Tryd.prog 37 #[.pointer (some ⟨p, 0, none⟩), .int .i64 z, .agg (u.C (.slice A n c))] w (fun e w' => e = .returned (.bool (decide (checkU z u = 0))) ∧ WrAt w' (andNew S w) p (if checkU z u = 0 then bs ++ userB z u else bs) ∧ Fr S w w') := by
  refine (putU_foot w (footW p w) p bs z u A n c h.foot (fun k hk => h.foot_lt hk) hrow hn hnc hc (fun a e g hk => hA a e g (h.foot_le hk)) hl).mono ?_
  rintro e w' ⟨he, hw, hf⟩
  exact ⟨he, hw.mono fun k _ hk => hk.imp (fun g => h.foot_le g) id, hf.mono fun _ _ g => h.foot_le g⟩
end Go.Proofs.YtahcopmdffengaaDoor
