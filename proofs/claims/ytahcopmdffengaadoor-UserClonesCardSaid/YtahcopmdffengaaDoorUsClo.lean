/- interrexlaw06.UserClones: the walk. -/
import Derived.Test.YtahcopmdffengaaDoorUs8
namespace Go.Proofs.YtahcopmdffengaaDoor
open Go.RowKit
theorem sameU_self (a : UsV) : sameU a a = true := by unfold sameU; simp
theorem sameU_comm (a b : UsV) : sameU b a = sameU a b := by
  unfold sameU
  have e : ∀ {α : Type} [DecidableEq α] (x y : α), decide (y = x) = decide (x = y) := fun x y => by rw [Bool.eq_iff_iff, decide_eq_true_iff, decide_eq_true_iff]; exact eq_comm
  rw [e a.name b.name, e a.hash b.hash, e a.mail b.mail, e a.gs b.gs, Bool.beq_comm]
def addX (s : ByteArray) : ByteArray := s ++ ⟨#[120]⟩
theorem addX_size (s : ByteArray) : (addX s).size = s.size + 1 := by unfold addX; rw [ByteArray.size_append]; rfl
theorem list_none {α : Type} {l : List α} {k : Nat} (h : l.length ≤ k) : l[k]? = none := List.getElem?_eq_none h
theorem addX_ne {l : List ByteArray} : decide (l = l.map addX) = decide (l.length = 0) := by
  rw [Bool.eq_iff_iff, decide_eq_true_iff, decide_eq_true_iff]
  constructor
  · intro h
    cases l with
    | nil => rfl
    | cons s l =>
      rw [List.map_cons] at h
      injection h with h1 _
      have := addX_size s
      rw [← h1] at this; omega
  · intro h
    rw [List.eq_nil_of_length_eq_zero h]; rfl
def OnA (A : Option Addr) (x : Nat) : Prop := ∃ a, A = some a ∧ x = a.block
theorem ownsRow_succ' {W : World} {base : Nat} {e : TypeId} {size n : Nat} {v : Value} {xs : List Value} (h : W.ownsRow base e size v n xs) (hn : 0 < n) : ∃ g cap, v = .slice (some ⟨g, 0, none⟩) n cap := by
  rcases h.2 with ⟨_, h0⟩ | ⟨g, cap, cur, e, _⟩
  · omega
  · exact ⟨g, cap, e⟩
def extX (k : Nat) (l : List ByteArray) : List ByteArray := (l.take k).map addX ++ l.drop k
theorem extX_get {l : List ByteArray} {k : Nat} {s : ByteArray} (h : l[k]? = some s) : (extX k l)[k]? = some s := by
  unfold extX
  obtain ⟨hk, _⟩ := List.getElem?_eq_some_iff.mp h
  rw [List.getElem?_append_right (by simp; omega), List.getElem?_drop]
  simp only [List.length_map, List.length_take]
  rw [show k + (k - min k l.length) = k by omega]
  exact h
theorem extX_set {l : List ByteArray} {k : Nat} {s : ByteArray} (h : l[k]? = some s) : (strs (extX k l)).set k (.string (addX s)) = strs (extX (k + 1) l) := by
  obtain ⟨hk, rfl⟩ := List.getElem?_eq_some_iff.mp h
  unfold extX
  rw [List.drop_eq_getElem_cons hk]
  simp only [strs, List.map_append, List.map_cons]
  rw [List.set_append_right _ _ (by simp; omega)]
  simp only [List.length_map, List.length_take]
  rw [show k - min k l.length = 0 by omega, List.set_cons_zero, List.take_succ_eq_append_getElem hk]
  simp only [List.map_append, List.map_cons, List.map_nil, List.append_assoc, List.singleton_append]
set_option maxRecDepth 100000 in
set_option maxHeartbeats 3200000 in
theorem clones_walk (w : World) (u v : UsV) (A B : Option Addr) (n c m d : Nat) (hx : RowAt w A (strs u.gs)) (hn : u.gs.length = n) (hnc : n ≤ c) (hc : c ≤ 9223372036854775807) (hA : A = none → n = 0 ∧ c = 0) (hy : RowAt w B (strs v.gs)) (hm : v.gs.length = m) (hmd : m ≤ d) (hd : d ≤ 9223372036854775807) (hsz : ∀ s ∈ u.gs, s.size ≤ reachBytes) :
    Calls Tryd.prog 8 #[.agg (u.C (.slice A n c)), .agg (v.C (.slice B m d))] w (BoolPost w true) := by
  obtain ⟨hb0, hd0, f0⟩ := two_blk w (u.C (.slice A n c)) (v.C (.slice B m d)) 35 35
  have hl := fun W => lives06_calls W
  have HN := hid hn
  have HSZ := hid hsz
  clear hsz
  have HM := hid hm
  have hfew := fun W f => fewU_calls W u A n c (hx.fr0 f) HN hnc hc
  have hfew2 := fun W f => fewU_calls W v B m d (hy.fr0 f) HM hmd hd
  have hcl := fun W f h => cloneU_calls W u A n c (hx.fr0 f) hn hA h
  have hs1 := fun W f A2 c2 h1 h2 => sameU_calls W u u A A2 c c2 n n (hx.fr0 f) h1 HN HN h2
  have hs2 := fun W f h => sameU_calls W u v A B c d n m (hx.fr0 f) (hy.fr0 f) HN HM h
  have hs3 := fun W f h => sameU_calls W v u B A d c m n (hy.fr0 f) (hx.fr0 f) HM HN h
  have hs4 := fun W f h => sameR_calls W u v A B c d n m (hx.fr0 f) (hy.fr0 f) HN HM h
  have hs5 := fun W f A2 c2 h1 h2 h3 => sameU_calls W u ⟨u.name, u.hash, u.mail, u.dis, u.gs.map addX⟩ A A2 c c2 n n (hx.fr0 f) h1 HN h2 h3
  rw [sameU_self] at hs1
  rw [sameU_comm] at hs3
  have hsx : sameU u ⟨u.name, u.hash, u.mail, u.dis, u.gs.map addX⟩ = decide (u.gs.length = 0) := by unfold sameU; simp [addX_ne]
  rw [hsx] at hs5
  generalize sameU u v = sv at *
  clear hsx
  unfold UsV.C at *
  simp only at hs5
  go_enter Tryd.func8, Tryd.ntmps8
  go_wp2_with fail
  generalize hwa : ((w.alloc _).alloc _) = wa at *
  have hqb := hd0.lt
  obtain ⟨qb, hq⟩ : ∃ qb, w.heap.size = qb := ⟨_, rfl⟩
  have HQ := hid hq
  rw [hq] at hb0 hd0 hqb ⊢
  clear hwa hq hn hm
  refine (hl wa).mono ?_
  rintro e w1 ⟨rfl, f1⟩
  have hb1 := hb0.fr f1 id
  have hd1 := hd0.fr f1 id
  replace f1 := f0.then' f1
  clear hb0 hd0 f0 hqb
  obtain ⟨x0, x1, x2, x3, x4, xf⟩ := BlkAt.c5 hb1
  go_wp2_with fail
  refine (hfew w1 f1).mono ?_
  rintro e w2 ⟨b, rfl, hb20, f2⟩
  clear x0 x1 x2 x3 x4 xf
  have hb2 := hb1.fr f2 id
  have hd2 := hd1.fr f2 id
  replace f2 := f1.then' f2
  clear f1 hb1 hd1
  obtain ⟨x0, x1, x2, x3, x4, xf⟩ := BlkAt.c5 hb2
  obtain ⟨y0, y1, y2, y3, y4, yf⟩ := BlkAt.c5 hd2
  cases b
  · go_wp2_with fail
    refine (hl w2).mono ?_
    rintro e w3 ⟨rfl, f3⟩
    go_wp2_with fail
    go_ret
    exact ⟨rfl, f2.then' f3⟩
  · have hn20 : n ≤ 20 := hb20 rfl
    clear hb20
    go_wp2_with fail
    refine (hfew2 w2 f2).mono ?_
    rintro e w3 ⟨b, rfl, hb20, f3⟩
    clear x0 x1 x2 x3 x4 xf y0 y1 y2 y3 y4 yf
    have hb3 := hb2.fr f3 id
    have hd3 := hd2.fr f3 id
    replace f3 := f2.then' f3
    clear f2 hb2 hd2
    obtain ⟨x0, x1, x2, x3, x4, xf⟩ := BlkAt.c5 hb3
    cases b
    · go_wp2_with fail
      refine (hl w3).mono ?_
      rintro e w4 ⟨rfl, f4⟩
      go_wp2_with fail
      go_ret
      exact ⟨rfl, f3.then' f4⟩
    · have hm20 : m ≤ 20 := hb20 rfl
      clear hb20
      go_wp2_with fail
      refine (hcl w3 f3 (by omega)).mono ?_
      rintro e w4 ⟨A2, c2, rfl, hN, f4⟩
      clear x0 x1 x2 x3 x4 xf
      have hq3 := hd3.lt
      have hb4 := hb3.fr f4 id
      have hd4 := hd3.fr f4 id
      have hg4 : ∀ g, (Value.slice A2 n c2).ownBlock = some g → qb + 1 < g ∧ g < w4.heap.size := fun g e => ⟨Nat.lt_of_lt_of_le hq3 (hN.lt g e).1, (hN.lt g e).2⟩
      have hq4 := hd4.lt
      replace f4 := f3.then' f4
      clear f3 hb3 hd3
      obtain ⟨rb, hrb⟩ : ∃ rb, w4.heap.size = rb := ⟨_, rfl⟩
      rw [hrb] at hq4 hg4
      have hc5 : BlkAt (w4.alloc (.cells #[.string u.name, .string u.hash, .string u.mail, .bool u.dis, .slice A2 n c2] 35)) rb 35 #[.string u.name, .string u.hash, .string u.mail, .bool u.dis, .slice A2 n c2] := hrb ▸ BlkAt.new _ _ _
      have hb5 := hb4.al (.cells #[.string u.name, .string u.hash, .string u.mail, .bool u.dis, .slice A2 n c2] 35)
      have hd5 := hd4.al (.cells #[.string u.name, .string u.hash, .string u.mail, .bool u.dis, .slice A2 n c2] 35)
      have f5 := f4.alloc (.cells #[.string u.name, .string u.hash, .string u.mail, .bool u.dis, .slice A2 n c2] 35)
      have ho5 := own_fr hN ((Fr.refl noB w4).alloc (.cells #[.string u.name, .string u.hash, .string u.mail, .bool u.dis, .slice A2 n c2] 35)) (fun g _ => id)
      go_upto_region 4 with fail
      generalize (w4.alloc _) = w5 at *
      have HG := hid hg4
      clear hrb hb4 hd4 f4 hN hg4
      have hr5 := own_row ho5
      apply wp_region_calm (R := Fr noB) (C := fun _ W => Fr noB w5 W ∧ BlkAt W qb 35 #[.string u.name, .string u.hash, .string u.mail, .bool u.dis, .slice A n c] ∧ BlkAt W (qb + 1) 35 #[.string v.name, .string v.hash, .string v.mail, .bool v.dis, .slice B m d] ∧ BlkAt W rb 35 #[.string u.name, .string u.hash, .string u.mail, .bool u.dis, .slice A2 n c2]) [false, false, false, false, false, false, false, false, false, false, false, false, false, false, false, false, false, false, false, false, false, false]
        [eqv _, eqv _, eqv _, eqv _, eqv _, eqv _, eqv _, eqv _, eqv _, eqv _, eqv _, eqv _, eqv _, eqv _, eqv _, eqv _, eqv _, eqv _, eqv _, eqv _, eqv _, eqv _]
        (by kernel_rfl) (by kernel_rfl) (fun _ _ _ h1 h2 => h1.then' h2) ((Fr.refl _ _).drew) ⟨(Fr.refl _ _).drew, hb5, hd5, hc5⟩ (by kernel_rfl)
      · refine ⟨?_, ?_, ?_, ?_, ?_, ?_, ?_, ?_, ?_, ?_, ?_, ?_, ?_, ?_, ?_, ?_, ?_, ?_, ?_, ?_, ?_, ?_, trivial⟩
        · rw [if_neg (by decide)]; intro kq
          intro a W K hC hd hK
          have d2 : a.tmps[2]?.getD undef = .pointer (some ⟨qb, 0, none⟩) := hd 2 (by decide)
          refine wpOp_plain rfl rfl ?_
          obtain ⟨x0, x1, x2, x3, x4, xf⟩ := BlkAt.c5 hC.2.1
          obtain ⟨y0, y1, y2, y3, y4, yf⟩ := BlkAt.c5 hC.2.2.1
          obtain ⟨z0, z1, z2, z3, z4, zf⟩ := BlkAt.c5 hC.2.2.2
          go_wp2_with fail
          exact hK _ _ (Fr.refl _ _) hC rfl
        · rw [if_neg (by decide)]; intro kq
          intro a W K hC hd hK
          have d5 : a.tmps[5]?.getD undef = .pointer (some ⟨rb, 0, none⟩) := hd 5 (by decide)
          refine wpOp_plain rfl rfl ?_
          obtain ⟨x0, x1, x2, x3, x4, xf⟩ := BlkAt.c5 hC.2.1
          obtain ⟨y0, y1, y2, y3, y4, yf⟩ := BlkAt.c5 hC.2.2.1
          obtain ⟨z0, z1, z2, z3, z4, zf⟩ := BlkAt.c5 hC.2.2.2
          go_wp2_with fail
          exact hK _ _ (Fr.refl _ _) hC rfl
        · rw [if_neg (by decide)]; intro kq
          intro a W K hC hd hK
          have d22 : _ = _ := hd 22 (by decide)
          have d23 : _ = _ := hd 23 (by decide)
          refine wpOp_plain rfl rfl ?_
          obtain ⟨x0, x1, x2, x3, x4, xf⟩ := BlkAt.c5 hC.2.1
          obtain ⟨y0, y1, y2, y3, y4, yf⟩ := BlkAt.c5 hC.2.2.1
          obtain ⟨z0, z1, z2, z3, z4, zf⟩ := BlkAt.c5 hC.2.2.2
          go_wp2_with fail
          refine (hs1 W (f5.then' hC.1) A2 c2 (hr5.fr0 hC.1) (by omega)).mono ?_
          rintro e9 w9 ⟨rfl, f9⟩
          exact hK _ _ f9 ⟨hC.1.then' f9, hC.2.1.fr f9 id, hC.2.2.1.fr f9 id, hC.2.2.2.fr f9 id⟩ rfl
        · rw [if_neg (by decide)]; intro kq
          intro a W K hC hd hK
          have d24 : _ = _ := hd 24 (by decide)
          refine wpOp_plain rfl rfl ?_
          go_wp2_with fail
          exact hK _ _ (Fr.refl _ _) hC rfl
        · rw [if_neg (by decide)]; intro kq
          exact calm_mv 25 rfl rfl (Or.inl rfl) (Fr.refl _) (by decide) fun v w hd => hd
        · rw [if_neg (by decide)]; intro kq
          intro a W K hC hd hK
          have d2 : a.tmps[2]?.getD undef = .pointer (some ⟨qb, 0, none⟩) := hd 2 (by decide)
          have d26 : _ = _ := hd 26 (by decide)
          first | (exact wpOp_skip rfl (wanted_of (want := false) (b := true) rfl rfl (by rw [eval_get]; exact d26)) (hK _ _ (Fr.refl _ _) hC rfl)) | (refine wpOp_want rfl (wanted_of (want := false) (b := false) rfl rfl (by rw [eval_get]; exact d26)) ?_)
          all_goals (
            obtain ⟨x0, x1, x2, x3, x4, xf⟩ := BlkAt.c5 hC.2.1
            obtain ⟨y0, y1, y2, y3, y4, yf⟩ := BlkAt.c5 hC.2.2.1
            obtain ⟨z0, z1, z2, z3, z4, zf⟩ := BlkAt.c5 hC.2.2.2
            go_wp2_with fail
            exact hK _ _ (Fr.refl _ _) hC rfl)
        · rw [if_neg (by decide)]; intro kq
          intro a W K hC hd hK
          have d3 : a.tmps[3]?.getD undef = .pointer (some ⟨qb + 1, 0, none⟩) := hd 3 (by decide)
          have d26 : _ = _ := hd 26 (by decide)
          first | (exact wpOp_skip rfl (wanted_of (want := false) (b := true) rfl rfl (by rw [eval_get]; exact d26)) (hK _ _ (Fr.refl _ _) hC rfl)) | (refine wpOp_want rfl (wanted_of (want := false) (b := false) rfl rfl (by rw [eval_get]; exact d26)) ?_)
          all_goals (
            obtain ⟨x0, x1, x2, x3, x4, xf⟩ := BlkAt.c5 hC.2.1
            obtain ⟨y0, y1, y2, y3, y4, yf⟩ := BlkAt.c5 hC.2.2.1
            obtain ⟨z0, z1, z2, z3, z4, zf⟩ := BlkAt.c5 hC.2.2.2
            go_wp2_with fail
            exact hK _ _ (Fr.refl _ _) hC rfl)
        · rw [if_neg (by decide)]; intro kq
          intro a W K hC hd hK
          have d27 : _ = _ := hd 27 (by decide)
          have d28 : _ = _ := hd 28 (by decide)
          have d26 : _ = _ := hd 26 (by decide)
          first | (exact wpOp_skip rfl (wanted_of (want := false) (b := true) rfl rfl (by rw [eval_get]; exact d26)) (hK _ _ (Fr.refl _ _) hC rfl)) | (refine wpOp_want rfl (wanted_of (want := false) (b := false) rfl rfl (by rw [eval_get]; exact d26)) ?_)
          all_goals (
            obtain ⟨x0, x1, x2, x3, x4, xf⟩ := BlkAt.c5 hC.2.1
            obtain ⟨y0, y1, y2, y3, y4, yf⟩ := BlkAt.c5 hC.2.2.1
            obtain ⟨z0, z1, z2, z3, z4, zf⟩ := BlkAt.c5 hC.2.2.2
            go_wp2_with fail
            refine (hs2 W (f5.then' hC.1) (by omega)).mono ?_
            rintro e9 w9 ⟨rfl, f9⟩
            exact hK _ _ f9 ⟨hC.1.then' f9, hC.2.1.fr f9 id, hC.2.2.1.fr f9 id, hC.2.2.2.fr f9 id⟩ rfl)
        · rw [if_neg (by decide)]; intro kq
          intro a W K hC hd hK
          have d2 : a.tmps[2]?.getD undef = .pointer (some ⟨qb, 0, none⟩) := hd 2 (by decide)
          have d26 : _ = _ := hd 26 (by decide)
          first | (exact wpOp_skip rfl (wanted_of (want := false) (b := true) rfl rfl (by rw [eval_get]; exact d26)) (hK _ _ (Fr.refl _ _) hC rfl)) | (refine wpOp_want rfl (wanted_of (want := false) (b := false) rfl rfl (by rw [eval_get]; exact d26)) ?_)
          all_goals (
            obtain ⟨x0, x1, x2, x3, x4, xf⟩ := BlkAt.c5 hC.2.1
            obtain ⟨y0, y1, y2, y3, y4, yf⟩ := BlkAt.c5 hC.2.2.1
            obtain ⟨z0, z1, z2, z3, z4, zf⟩ := BlkAt.c5 hC.2.2.2
            go_wp2_with fail
            exact hK _ _ (Fr.refl _ _) hC rfl)
        · rw [if_neg (by decide)]; intro kq
          intro a W K hC hd hK
          have d3 : a.tmps[3]?.getD undef = .pointer (some ⟨qb + 1, 0, none⟩) := hd 3 (by decide)
          have d26 : _ = _ := hd 26 (by decide)
          first | (exact wpOp_skip rfl (wanted_of (want := false) (b := true) rfl rfl (by rw [eval_get]; exact d26)) (hK _ _ (Fr.refl _ _) hC rfl)) | (refine wpOp_want rfl (wanted_of (want := false) (b := false) rfl rfl (by rw [eval_get]; exact d26)) ?_)
          all_goals (
            obtain ⟨x0, x1, x2, x3, x4, xf⟩ := BlkAt.c5 hC.2.1
            obtain ⟨y0, y1, y2, y3, y4, yf⟩ := BlkAt.c5 hC.2.2.1
            obtain ⟨z0, z1, z2, z3, z4, zf⟩ := BlkAt.c5 hC.2.2.2
            go_wp2_with fail
            exact hK _ _ (Fr.refl _ _) hC rfl)
        · rw [if_neg (by decide)]; intro kq
          intro a W K hC hd hK
          have d30 : _ = _ := hd 30 (by decide)
          have d31 : _ = _ := hd 31 (by decide)
          have d26 : _ = _ := hd 26 (by decide)
          first | (exact wpOp_skip rfl (wanted_of (want := false) (b := true) rfl rfl (by rw [eval_get]; exact d26)) (hK _ _ (Fr.refl _ _) hC rfl)) | (refine wpOp_want rfl (wanted_of (want := false) (b := false) rfl rfl (by rw [eval_get]; exact d26)) ?_)
          all_goals (
            obtain ⟨x0, x1, x2, x3, x4, xf⟩ := BlkAt.c5 hC.2.1
            obtain ⟨y0, y1, y2, y3, y4, yf⟩ := BlkAt.c5 hC.2.2.1
            obtain ⟨z0, z1, z2, z3, z4, zf⟩ := BlkAt.c5 hC.2.2.2
            go_wp2_with fail
            refine (hs4 W (f5.then' hC.1) (by omega)).mono ?_
            rintro e9 w9 ⟨rfl, f9⟩
            exact hK _ _ f9 ⟨hC.1.then' f9, hC.2.1.fr f9 id, hC.2.2.1.fr f9 id, hC.2.2.2.fr f9 id⟩ rfl)
        · rw [if_neg (by decide)]; intro kq
          intro a W K hC hd hK
          have d29 : _ = _ := hd 29 (by decide)
          have d32 : _ = _ := hd 32 (by decide)
          have d26 : _ = _ := hd 26 (by decide)
          first | (exact wpOp_skip rfl (wanted_of (want := false) (b := true) rfl rfl (by rw [eval_get]; exact d26)) (hK _ _ (Fr.refl _ _) hC rfl)) | (refine wpOp_want rfl (wanted_of (want := false) (b := false) rfl rfl (by rw [eval_get]; exact d26)) ?_)
          all_goals (
            go_wp2_with fail
            exact hK _ _ (Fr.refl _ _) hC rfl)
        · rw [if_neg (by decide)]; intro kq
          intro a W K hC hd hK
          have d26 : _ = _ := hd 26 (by decide)
          have d33 : _ = _ := hd 33 (by decide)
          refine wpOp_plain rfl rfl ?_
          go_wp2_with fail
          exact hK _ _ (Fr.refl _ _) hC rfl
        · rw [if_neg (by decide)]; intro kq
          exact calm_mv 34 rfl rfl (Or.inl rfl) (Fr.refl _) (by decide) fun v w hd => hd
        · rw [if_neg (by decide)]; intro kq
          intro a W K hC hd hK
          have d3 : a.tmps[3]?.getD undef = .pointer (some ⟨qb + 1, 0, none⟩) := hd 3 (by decide)
          have d35 : _ = _ := hd 35 (by decide)
          first | (exact wpOp_skip rfl (wanted_of (want := false) (b := true) rfl rfl (by rw [eval_get]; exact d35)) (hK _ _ (Fr.refl _ _) hC rfl)) | (refine wpOp_want rfl (wanted_of (want := false) (b := false) rfl rfl (by rw [eval_get]; exact d35)) ?_)
          all_goals (
            obtain ⟨x0, x1, x2, x3, x4, xf⟩ := BlkAt.c5 hC.2.1
            obtain ⟨y0, y1, y2, y3, y4, yf⟩ := BlkAt.c5 hC.2.2.1
            obtain ⟨z0, z1, z2, z3, z4, zf⟩ := BlkAt.c5 hC.2.2.2
            go_wp2_with fail
            exact hK _ _ (Fr.refl _ _) hC rfl)
        · rw [if_neg (by decide)]; intro kq
          intro a W K hC hd hK
          have d2 : a.tmps[2]?.getD undef = .pointer (some ⟨qb, 0, none⟩) := hd 2 (by decide)
          have d35 : _ = _ := hd 35 (by decide)
          first | (exact wpOp_skip rfl (wanted_of (want := false) (b := true) rfl rfl (by rw [eval_get]; exact d35)) (hK _ _ (Fr.refl _ _) hC rfl)) | (refine wpOp_want rfl (wanted_of (want := false) (b := false) rfl rfl (by rw [eval_get]; exact d35)) ?_)
          all_goals (
            obtain ⟨x0, x1, x2, x3, x4, xf⟩ := BlkAt.c5 hC.2.1
            obtain ⟨y0, y1, y2, y3, y4, yf⟩ := BlkAt.c5 hC.2.2.1
            obtain ⟨z0, z1, z2, z3, z4, zf⟩ := BlkAt.c5 hC.2.2.2
            go_wp2_with fail
            exact hK _ _ (Fr.refl _ _) hC rfl)
        · rw [if_neg (by decide)]; intro kq
          intro a W K hC hd hK
          have d36 : _ = _ := hd 36 (by decide)
          have d37 : _ = _ := hd 37 (by decide)
          have d35 : _ = _ := hd 35 (by decide)
          first | (exact wpOp_skip rfl (wanted_of (want := false) (b := true) rfl rfl (by rw [eval_get]; exact d35)) (hK _ _ (Fr.refl _ _) hC rfl)) | (refine wpOp_want rfl (wanted_of (want := false) (b := false) rfl rfl (by rw [eval_get]; exact d35)) ?_)
          all_goals (
            obtain ⟨x0, x1, x2, x3, x4, xf⟩ := BlkAt.c5 hC.2.1
            obtain ⟨y0, y1, y2, y3, y4, yf⟩ := BlkAt.c5 hC.2.2.1
            obtain ⟨z0, z1, z2, z3, z4, zf⟩ := BlkAt.c5 hC.2.2.2
            go_wp2_with fail
            refine (hs3 W (f5.then' hC.1) (by omega)).mono ?_
            rintro e9 w9 ⟨rfl, f9⟩
            exact hK _ _ f9 ⟨hC.1.then' f9, hC.2.1.fr f9 id, hC.2.2.1.fr f9 id, hC.2.2.2.fr f9 id⟩ rfl)
        · rw [if_neg (by decide)]; intro kq
          intro a W K hC hd hK
          have d2 : a.tmps[2]?.getD undef = .pointer (some ⟨qb, 0, none⟩) := hd 2 (by decide)
          have d35 : _ = _ := hd 35 (by decide)
          first | (exact wpOp_skip rfl (wanted_of (want := false) (b := true) rfl rfl (by rw [eval_get]; exact d35)) (hK _ _ (Fr.refl _ _) hC rfl)) | (refine wpOp_want rfl (wanted_of (want := false) (b := false) rfl rfl (by rw [eval_get]; exact d35)) ?_)
          all_goals (
            obtain ⟨x0, x1, x2, x3, x4, xf⟩ := BlkAt.c5 hC.2.1
            obtain ⟨y0, y1, y2, y3, y4, yf⟩ := BlkAt.c5 hC.2.2.1
            obtain ⟨z0, z1, z2, z3, z4, zf⟩ := BlkAt.c5 hC.2.2.2
            go_wp2_with fail
            exact hK _ _ (Fr.refl _ _) hC rfl)
        · rw [if_neg (by decide)]; intro kq
          intro a W K hC hd hK
          have d3 : a.tmps[3]?.getD undef = .pointer (some ⟨qb + 1, 0, none⟩) := hd 3 (by decide)
          have d35 : _ = _ := hd 35 (by decide)
          first | (exact wpOp_skip rfl (wanted_of (want := false) (b := true) rfl rfl (by rw [eval_get]; exact d35)) (hK _ _ (Fr.refl _ _) hC rfl)) | (refine wpOp_want rfl (wanted_of (want := false) (b := false) rfl rfl (by rw [eval_get]; exact d35)) ?_)
          all_goals (
            obtain ⟨x0, x1, x2, x3, x4, xf⟩ := BlkAt.c5 hC.2.1
            obtain ⟨y0, y1, y2, y3, y4, yf⟩ := BlkAt.c5 hC.2.2.1
            obtain ⟨z0, z1, z2, z3, z4, zf⟩ := BlkAt.c5 hC.2.2.2
            go_wp2_with fail
            exact hK _ _ (Fr.refl _ _) hC rfl)
        · rw [if_neg (by decide)]; intro kq
          intro a W K hC hd hK
          have d39 : _ = _ := hd 39 (by decide)
          have d40 : _ = _ := hd 40 (by decide)
          have d35 : _ = _ := hd 35 (by decide)
          first | (exact wpOp_skip rfl (wanted_of (want := false) (b := true) rfl rfl (by rw [eval_get]; exact d35)) (hK _ _ (Fr.refl _ _) hC rfl)) | (refine wpOp_want rfl (wanted_of (want := false) (b := false) rfl rfl (by rw [eval_get]; exact d35)) ?_)
          all_goals (
            obtain ⟨x0, x1, x2, x3, x4, xf⟩ := BlkAt.c5 hC.2.1
            obtain ⟨y0, y1, y2, y3, y4, yf⟩ := BlkAt.c5 hC.2.2.1
            obtain ⟨z0, z1, z2, z3, z4, zf⟩ := BlkAt.c5 hC.2.2.2
            go_wp2_with fail
            refine (hs2 W (f5.then' hC.1) (by omega)).mono ?_
            rintro e9 w9 ⟨rfl, f9⟩
            exact hK _ _ f9 ⟨hC.1.then' f9, hC.2.1.fr f9 id, hC.2.2.1.fr f9 id, hC.2.2.2.fr f9 id⟩ rfl)
        · rw [if_neg (by decide)]; intro kq
          intro a W K hC hd hK
          have d38 : _ = _ := hd 38 (by decide)
          have d41 : _ = _ := hd 41 (by decide)
          have d35 : _ = _ := hd 35 (by decide)
          first | (exact wpOp_skip rfl (wanted_of (want := false) (b := true) rfl rfl (by rw [eval_get]; exact d35)) (hK _ _ (Fr.refl _ _) hC rfl)) | (refine wpOp_want rfl (wanted_of (want := false) (b := false) rfl rfl (by rw [eval_get]; exact d35)) ?_)
          all_goals (
            go_wp2_with fail
            exact hK _ _ (Fr.refl _ _) hC rfl)
        · rw [if_neg (by decide)]; intro kq
          intro a W K hC hd hK
          have d35 : _ = _ := hd 35 (by decide)
          have d42 : _ = _ := hd 42 (by decide)
          refine wpOp_plain rfl rfl ?_
          go_wp2_with fail
          exact hK _ _ (Fr.refl _ _) hC rfl
      · intro vs w6 fw6 cw6 hV
        have v22 : vs 0 = _ := hV 0 _ _ rfl rfl (by decide)
        have v23 : vs 1 = _ := hV 1 _ _ rfl rfl (by decide)
        have v24 : vs 2 = _ := hV 2 _ _ rfl rfl (by decide)
        have v25 : vs 3 = _ := hV 3 _ _ rfl rfl (by decide)
        have v26 : vs 4 = _ := hV 4 _ _ rfl rfl (by decide)
        have v27 : vs 5 = _ := hV 5 _ _ rfl rfl (by decide)
        have v28 : vs 6 = _ := hV 6 _ _ rfl rfl (by decide)
        have v29 : vs 7 = _ := hV 7 _ _ rfl rfl (by decide)
        have v30 : vs 8 = _ := hV 8 _ _ rfl rfl (by decide)
        have v31 : vs 9 = _ := hV 9 _ _ rfl rfl (by decide)
        have v32 : vs 10 = _ := hV 10 _ _ rfl rfl (by decide)
        have v33 : vs 11 = _ := hV 11 _ _ rfl rfl (by decide)
        have v34 : vs 12 = _ := hV 12 _ _ rfl rfl (by decide)
        have v35 : vs 13 = _ := hV 13 _ _ rfl rfl (by decide)
        have v36 : vs 14 = _ := hV 14 _ _ rfl rfl (by decide)
        have v37 : vs 15 = _ := hV 15 _ _ rfl rfl (by decide)
        have v38 : vs 16 = _ := hV 16 _ _ rfl rfl (by decide)
        have v39 : vs 17 = _ := hV 17 _ _ rfl rfl (by decide)
        have v40 : vs 18 = _ := hV 18 _ _ rfl rfl (by decide)
        have v41 : vs 19 = _ := hV 19 _ _ rfl rfl (by decide)
        have v42 : vs 20 = _ := hV 20 _ _ rfl rfl (by decide)
        have v43 : vs 21 = _ := hV 21 _ _ rfl rfl (by decide)
        clear hV
        simp only [putL, Act.put, Nat.reduceAdd, List.setIfInBounds_toArray, List.set_cons_zero, List.set_cons_succ, v22, v23, v24, v25, v26, v27, v28, v29, v30, v31, v32, v33, v34, v35, v36, v37, v38, v39, v40, v41, v42, v43]
        obtain ⟨fw, hb6, hd6, hc6⟩ := cw6
        clear hs2 hs3 hs4 hs1 hcl hfew hfew2 hl hb5 hd5 hc5 hd6
        replace ho5 := own_fr ho5 fw (fun g _ => id)
        replace f5 := f5.then' fw
        obtain ⟨z0, z1, z2, z3, z4, zf⟩ := BlkAt.c5 hc6
        go_wp2_with fail
        have HNC := hid (show n ≤ 1000000 by omega)
        have hxr := hx.fr0 f5
        go_loopw [47] (fun i wr => ∃ k : Nat, k ≤ n ∧ i = .int .i64 k ∧ Fr (OnA A2) w6 wr ∧ wr.ownsRow w3.heap.size 9 1 (.slice A2 n c2) n (strs (extX k u.gs))) (fun i _ => n - (intOf i).toNat)
        case atStart => exact ⟨0, Nat.zero_le _, rfl, Fr.refl _ _, ho5⟩
        case round =>
          obtain ⟨k, hk, rfl, hf, ho⟩ := hrel
          have hlt : ¬ OnA A2 rb := fun ⟨a, e, h⟩ => by have := (HG.out a.block (by rw [e]; rfl)).2; omega
          have z4 := hf.cell hc6.c5.2.2.2.2.1 hlt
          by_cases hkn : k < n
          · obtain ⟨s, hs⟩ : ∃ s, u.gs[k]? = some s := ⟨_, List.getElem?_eq_getElem (by rw [HN.out]; exact hkn)⟩
            obtain ⟨g, cap, hg⟩ := ownsRow_succ' ho (by omega)
            obtain ⟨rfl, rfl⟩ := (by simpa using hg : A2 = some ⟨g, 0, none⟩ ∧ c2 = cap)
            have hx2 := extX_get (l := u.gs) hs
            have ca : wr.cell? ⟨g, k, none⟩ = some (.string s) := by rw [ho.cellAt k (by omega)]; exact strs_get hx2
            have cf : wr.frozen? ⟨g, k, none⟩ = false := ho.frozenAt k
            have ho2 := (ho.stored k (.string (addX s))).1
            have hs2 := fr_set1 wr g k (.string (addX s))
            have HE := hid (extX_set (l := u.gs) hs)
            have hss : ¬ 9223372036854775807 < s.size + 1 := by have := HSZ.out s (List.mem_of_getElem? hs); unfold reachBytes at this; omega
            clear hs hx2
            go_wp2_with fail
            go_roundw
            case rel => exact ⟨k + 1, by omega, by go_num, hf.then' (hs2.mono (fun x _ h => ⟨_, rfl, h⟩)), by rw [HE.out] at ho2; exact ho2⟩
            case measure => simp [intOf]; omega
          · obtain rfl : k = n := by omega
            have hlq : ∀ x, x ≤ qb + 1 → ¬ OnA A2 x := fun x hx ⟨a, e, h⟩ => by have := (HG.out a.block (by rw [e]; rfl)).1; omega
            have hb7 := hb6.fr hf (hlq _ (by omega))
            have hc7 := hc6.fr hf hlt
            have hfw : Fr noB w wr := f5.trans hf (fun i hi h => by have := HQ.out; exact absurd h (hlq i (by omega)))
            have he : extX k u.gs = u.gs.map addX := by
              unfold extX
              rw [List.take_of_length_le (by rw [HN.out]; exact Nat.le_refl _), List.drop_eq_nil_of_le (by rw [HN.out]; exact Nat.le_refl _), List.append_nil]
            rw [he] at ho
            have hs6 := fun W f f2 => hs5 W (hfw.then' f) A2 c2 ((own_row ho).fr0 (f2 : Fr noB wr W)) (by unfold Hid; rw [List.length_map]; exact HN.out) HNC.out
            have hlen : decide (u.gs.length = 0) = ((k : Int) == 0) := by
              rw [HN.out, Bool.eq_iff_iff, decide_eq_true_iff, beq_iff_eq]; omega
            rw [hlen] at hs6
            clear hs5 ho he hlen
            go_wp2_with fail
            apply wp_region_calm (R := Fr noB) (C := fun _ W => Fr noB wr W ∧ BlkAt W qb 35 #[.string u.name, .string u.hash, .string u.mail, .bool u.dis, .slice A k c] ∧ BlkAt W rb 35 #[.string u.name, .string u.hash, .string u.mail, .bool u.dis, .slice A2 k c2]) [false, false, false, false, false, false, false, false, false]
              [eqv _, eqv _, eqv _, eqv _, eqv _, eqv _, eqv _, eqv _, eqv _]
              (by kernel_rfl) (by kernel_rfl) (fun _ _ _ h1 h2 => h1.then' h2) ((Fr.refl _ _).drew) ⟨(Fr.refl _ _).drew, hb7, hc7⟩ (by kernel_rfl)
            · refine ⟨?_, ?_, ?_, ?_, ?_, ?_, ?_, ?_, ?_, trivial⟩
              · rw [if_neg (by decide)]; intro kq
                intro a W K hC hd hK
                have d2 : a.tmps[2]?.getD undef = .pointer (some ⟨qb, 0, none⟩) := hd 2 (by decide)
                refine wpOp_plain rfl rfl ?_
                obtain ⟨x0, x1, x2, x3, x4, xf⟩ := BlkAt.c5 hC.2.1
                obtain ⟨z0, z1, z2, z3, z4, zf⟩ := BlkAt.c5 hC.2.2
                go_wp2_with fail
                exact hK _ _ (Fr.refl _ _) hC rfl
              · rw [if_neg (by decide)]; intro kq
                intro a W K hC hd hK
                have d5 : a.tmps[5]?.getD undef = .pointer (some ⟨rb, 0, none⟩) := hd 5 (by decide)
                refine wpOp_plain rfl rfl ?_
                obtain ⟨x0, x1, x2, x3, x4, xf⟩ := BlkAt.c5 hC.2.1
                obtain ⟨z0, z1, z2, z3, z4, zf⟩ := BlkAt.c5 hC.2.2
                go_wp2_with fail
                exact hK _ _ (Fr.refl _ _) hC rfl
              · rw [if_neg (by decide)]; intro kq
                intro a W K hC hd hK
                have d58 : _ = _ := hd 58 (by decide)
                have d59 : _ = _ := hd 59 (by decide)
                refine wpOp_plain rfl rfl ?_
                obtain ⟨x0, x1, x2, x3, x4, xf⟩ := BlkAt.c5 hC.2.1
                obtain ⟨z0, z1, z2, z3, z4, zf⟩ := BlkAt.c5 hC.2.2
                go_wp2_with fail
                refine (hs6 W hC.1 hC.1).mono ?_
                rintro e9 w9 ⟨rfl, f9⟩
                exact hK _ _ f9 ⟨hC.1.then' f9, hC.2.1.fr f9 id, hC.2.2.fr f9 id⟩ rfl
              · rw [if_neg (by decide)]; intro kq
                intro a W K hC hd hK
                have d2 : a.tmps[2]?.getD undef = .pointer (some ⟨qb, 0, none⟩) := hd 2 (by decide)
                refine wpOp_plain rfl rfl ?_
                obtain ⟨x0, x1, x2, x3, x4, xf⟩ := BlkAt.c5 hC.2.1
                obtain ⟨z0, z1, z2, z3, z4, zf⟩ := BlkAt.c5 hC.2.2
                go_wp2_with fail
                exact hK _ _ (Fr.refl _ _) hC rfl
              · rw [if_neg (by decide)]; intro kq
                intro a W K hC hd hK
                have d61 : _ = _ := hd 61 (by decide)
                refine wpOp_plain rfl rfl ?_
                obtain ⟨x0, x1, x2, x3, x4, xf⟩ := BlkAt.c5 hC.2.1
                obtain ⟨z0, z1, z2, z3, z4, zf⟩ := BlkAt.c5 hC.2.2
                go_wp2_with fail
                exact hK _ _ (Fr.refl _ _) hC rfl
              · rw [if_neg (by decide)]; intro kq
                intro a W K hC hd hK
                have d62 : _ = _ := hd 62 (by decide)
                refine wpOp_plain rfl rfl ?_
                obtain ⟨x0, x1, x2, x3, x4, xf⟩ := BlkAt.c5 hC.2.1
                obtain ⟨z0, z1, z2, z3, z4, zf⟩ := BlkAt.c5 hC.2.2
                go_wp2_with fail
                exact hK _ _ (Fr.refl _ _) hC rfl
              · rw [if_neg (by decide)]; intro kq
                intro a W K hC hd hK
                have d63 : _ = _ := hd 63 (by decide)
                refine wpOp_plain rfl rfl ?_
                go_wp2_with fail
                exact hK _ _ (Fr.refl _ _) hC rfl
              · rw [if_neg (by decide)]; intro kq
                intro a W K hC hd hK
                have d60 : _ = _ := hd 60 (by decide)
                have d64 : _ = _ := hd 64 (by decide)
                refine wpOp_plain rfl rfl ?_
                go_wp2_with fail
                exact hK _ _ (Fr.refl _ _) hC rfl
              · rw [if_neg (by decide)]; intro kq
                exact calm_mv 65 rfl rfl (Or.inr rfl) (Fr.refl _) (by decide) fun v w hd => hd
            · intro vs w8 fw8 cw8 hV
              have v58 : vs 0 = _ := hV 0 _ _ rfl rfl (by decide)
              have v59 : vs 1 = _ := hV 1 _ _ rfl rfl (by decide)
              have v60 : vs 2 = _ := hV 2 _ _ rfl rfl (by decide)
              have v61 : vs 3 = _ := hV 3 _ _ rfl rfl (by decide)
              have v62 : vs 4 = _ := hV 4 _ _ rfl rfl (by decide)
              have v63 : vs 5 = _ := hV 5 _ _ rfl rfl (by decide)
              have v64 : vs 6 = _ := hV 6 _ _ rfl rfl (by decide)
              have v65 : vs 7 = _ := hV 7 _ _ rfl rfl (by decide)
              have v4 : vs 8 = _ := hV 8 _ _ rfl rfl (by decide)
              clear hV
              simp only [putL, Act.put, Nat.reduceAdd, List.setIfInBounds_toArray, List.set_cons_zero, List.set_cons_succ, v58, v59, v60, v61, v62, v63, v64, v65, v4]
              go_wp2_with fail
              go_ret
              exact ⟨by simp, hfw.then' fw8⟩
end Go.Proofs.YtahcopmdffengaaDoor
