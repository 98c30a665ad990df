/- interrexlaw06.UserPuts: the walk. -/
import Derived.Test.YtahcopmdffengaaDoorUsGets
import Derived.Test.YtahcopmdffengaaDoorBackLaw
namespace Go.Proofs.YtahcopmdffengaaDoor
open Go.RowKit
theorem mkS_self (s : ByteArray) : mkS s.data.toList = s := by cases s; simp [mkS]
/-- What is written is read. -/
theorem getU_back {z : Int} {u : UsV} (h : checkU z u = 0) : getU z ⟨userB z u, 0⟩ = (⟨[], 0⟩, u) := by
  obtain ⟨s1, s2, s3, s4⟩ := checkU_sizes h
  obtain ⟨s5, s6⟩ := checkU_gs h
  have hz := checkU_schema h
  have hr : rdU z ⟨userB z u, 0⟩ = (⟨[], 0⟩, if z = 2 then u else ⟨u.name, u.hash, ⟨#[]⟩, false, []⟩) := by
    unfold rdU userB
    by_cases h2 : z = 2
    · rw [if_pos h2, if_pos h2, if_pos h2]
      have a1 : rText ⟨textB u.name ++ textB u.hash ++ (textB u.mail ++ leB 1 (if u.dis = true then 1 else 0) ++ rowB u.gs), 0⟩ 65535 = (⟨textB u.hash ++ (textB u.mail ++ leB 1 (if u.dis = true then 1 else 0) ++ rowB u.gs), 0⟩, u.name.data.toList) := by
        rw [List.append_assoc]; exact rText_app _ _ _ (by omega) (by omega)
      have a2 : rText ⟨textB u.hash ++ (textB u.mail ++ leB 1 (if u.dis = true then 1 else 0) ++ rowB u.gs), 0⟩ 65535 = (⟨textB u.mail ++ (leB 1 (if u.dis = true then 1 else 0) ++ rowB u.gs), 0⟩, u.hash.data.toList) := by
        rw [List.append_assoc (textB u.mail)]; exact rText_app _ _ _ (by omega) (by omega)
      have a3 : rText ⟨textB u.mail ++ (leB 1 (if u.dis = true then 1 else 0) ++ rowB u.gs), 0⟩ 65535 = (⟨leB 1 (if u.dis = true then 1 else 0) ++ rowB u.gs, 0⟩, u.mail.data.toList) := rText_app _ _ _ (by omega) (by omega)
      have a4 : rTruth ⟨leB 1 (if u.dis = true then 1 else 0) ++ rowB u.gs, 0⟩ = (⟨rowB u.gs, 0⟩, u.dis) := rTruth_app u.dis _ _ rfl
      have a5 : rRow ⟨rowB u.gs, 0⟩ 65535 65535 = (⟨[], 0⟩, u.gs) := by
        have := rRow_app u.gs [] 65535 65535 (by omega) (by omega) (fun s hs => ⟨by have := s6 s hs; omega, by have := s6 s hs; omega⟩)
        rwa [List.append_nil] at this
      simp only [a1, a2, a3, a4, a5]
      rw [mkS_self, mkS_self, mkS_self]
    · rw [if_neg h2, if_neg h2, if_neg h2, List.append_nil]
      have a1 : rText ⟨textB u.name ++ textB u.hash, 0⟩ 65535 = (⟨textB u.hash, 0⟩, u.name.data.toList) := rText_app _ _ _ (by omega) (by omega)
      have a2 : rText ⟨textB u.hash, 0⟩ 65535 = (⟨[], 0⟩, u.hash.data.toList) := by
        have := rText_app u.hash [] 65535 (by omega) (by omega)
        rwa [List.append_nil] at this
      simp only [a1, a2]
      rw [mkS_self, mkS_self]
  have hu : (if z = 2 then u else ⟨u.name, u.hash, ⟨#[]⟩, false, []⟩) = u := by
    rcases hz with rfl | rfl
    · have h' := h
      unfold checkU at h'
      rw [if_pos (Or.inl rfl)] at h'
      by_cases g1 : nameS u.name = true
      · rw [if_pos g1] at h'
        by_cases g2 : hashS u.hash = true
        · rw [if_pos g2, if_neg (by decide)] at h'
          by_cases g3 : u.mail.size = 0 ∧ u.dis = false ∧ u.gs = []
          · rw [if_neg (by decide)]
            obtain ⟨nm, hs, ml, ds, gs⟩ := u
            simp only at g3 ⊢
            obtain ⟨e1, e2, e3⟩ := g3
            have : ml = ⟨#[]⟩ := by
              have : ml.data.size = 0 := e1
              cases ml; rename_i d; simp at this; simp [this]
            rw [this, e2, e3]
          · rw [if_neg g3] at h'; cases h'
        · rw [if_neg g2] at h'; cases h'
      · rw [if_neg g1] at h'; cases h'
    · rw [if_pos rfl]
  unfold getU
  rw [if_pos hz, hr]
  simp only
  rw [hu, h]
  have e0 : rFail ⟨[], 0⟩ 0 = ⟨[], 0⟩ := rfl
  rw [e0]; simp
theorem userB_len {z : Int} {u : UsV} (h : checkU z u = 0) : (userB z u).length ≤ 300 := by
  obtain ⟨s1, s2, s3, s4⟩ := checkU_sizes h
  have z1 := textB_len u.name
  have z2 := textB_len u.hash
  have z3 := textB_len u.mail
  have z4 := leB_length 1 (if u.dis then 1 else 0)
  have z5 := rowB_length' u.gs
  unfold userB
  rw [List.length_append, List.length_append]
  split
  · rw [List.length_append, List.length_append]; omega
  · simp; omega
def BytesSt (bs : List UInt8) : Stb (Fr noB) := ⟨fun v W => ∃ A c, v = .slice A bs.length c ∧ RowAt W A (bcells bs), fun _ _ _ h f => by obtain ⟨A, c, h1, h2⟩ := h; exact ⟨A, c, h1, h2.fr0 f⟩⟩
structure PutsC (w9 : World) (SW SR : Nat → Prop) (pw pr b3 b8 : Nat) (C D : Array Value) (ub : List UInt8) (W : World) : Prop where
  fr : Fr noB w9 W
  b3 : BlkAt W b3 35 C
  b8 : BlkAt W b8 35 D
  wr : WrAt W SW pw ub
  rd : RdAt W SR pr ⟨[], 0⟩
theorem PutsC.step {w9 W W' : World} {SW SR : Nat → Prop} {pw pr b3 b8 : Nat} {C D : Array Value} {ub : List UInt8} (h : PutsC w9 SW SR pw pr b3 b8 C D ub W) (f : Fr noB W W') : PutsC w9 SW SR pw pr b3 b8 C D ub W' :=
  ⟨h.fr.then' f, h.b3.fr f id, h.b8.fr f id, h.wr.fr f (fun _ _ _ => id), h.rd.fr f (fun _ _ _ => id)⟩
set_option maxRecDepth 100000 in
set_option maxHeartbeats 3200000 in
theorem putsU_walk (w : World) (z : Int) (u : UsV) (A : Option Addr) (n c : Nat) (hx : RowAt w A (strs u.gs)) (hn : u.gs.length = n) (hnc : n ≤ c) (hc : c ≤ 9223372036854775807) (hA : ∀ a, A = some a → 0 < n → a.block < w.heap.size) :
    Calls Tryd.prog 10 #[.int .i64 z, .agg (u.C (.slice A n c))] w (BoolPost w true) := by
  have hb0 : BlkAt (w.alloc (.cells (u.C (.slice A n c)) 35)) w.heap.size 35 (u.C (.slice A n c)) := BlkAt.new _ _ _
  have f0 : Fr noB w (w.alloc (.cells (u.C (.slice A n c)) 35)) := (Fr.refl noB w).alloc _
  have hl := fun W => lives06_calls W
  have HN := hid hn
  have hfew := fun W f => fewU_calls W u A n c (hx.fr0 f) HN hnc hc
  have hck := fun W f => check_calls06 W z u A n c (hx.fr0 f) HN
  have hcr := fun W f => checkR_calls W z u A n c (hx.fr0 f) HN
  have hput := fun W S p h g f => putU_calls W S p [] z u A n c h (hx.fr0 f) hn hnc hc g (by simp)
  have htx := fun W f h => textU_calls W z u A n c h (hx.fr0 f) HN
  have hbk := hid (getU_back (z := z) (u := u))
  have hlen := hid (userB_len (z := z) (u := u))
  have hget := fun W S p h hS => getU_calls W S p ⟨userB z u, 0⟩ z h hS
  obtain ⟨k, hk⟩ : ∃ k, checkU z u = k := ⟨_, rfl⟩
  rw [hk] at hck hcr hput hbk hlen htx
  clear hk hn
  unfold UsV.C at *
  go_enter Tryd.func10, Tryd.ntmps10
  go_wp2_with fail
  generalize hwa : (w.alloc _) = wa at *
  obtain ⟨b3, hq⟩ : ∃ q, w.heap.size = q := ⟨_, rfl⟩
  have HQ := hid hq
  rw [hq] at hb0 ⊢
  clear hwa hq
  refine (hl wa).mono ?_
  rintro e w1 ⟨rfl, f1⟩
  have hb1 := hb0.fr f1 id
  replace f1 := f0.then' f1
  obtain ⟨x0, x1, x2, x3, x4, xf⟩ := BlkAt.c5 hb1
  go_wp2_with fail
  refine (hfew w1 f1).mono ?_
  rintro e w2 ⟨b, rfl, hb20, f2⟩
  clear x0 x1 x2 x3 x4 xf
  have hb2 := hb1.fr f2 id
  replace f2 := f1.then' f2
  clear f1 hb1 hb0 f0
  cases b
  · go_wp2_with fail
    refine (hl w2).mono ?_
    rintro e w3 ⟨rfl, f3⟩
    go_wp2_with fail
    go_ret
    exact ⟨rfl, f2.then' f3⟩
  · have hn20 : n ≤ 20 := hb20 rfl
    clear hb20 hfew
    have hw3 : WrAt (w2.alloc (.cells #[.slice none 0 0] 54)) (eqB w2.heap.size) w2.heap.size [] := ⟨none, 0, _, by decide, heap_alloc_new w2 _, World.ownsRow_nil _ _ _ _, rfl, fun k h => by simp [Value.ownBlock] at h⟩
    have hb3 := hb2.al (.cells #[.slice none 0 0] 54)
    have f3 := f2.alloc (.cells #[.slice none 0 0] 54)
    have hq2 := hb2.lt
    have hws : w.heap.size ≤ w2.heap.size := f2.size
    obtain ⟨pw, hpw⟩ : ∃ x, w2.heap.size = x := ⟨_, rfl⟩
    rw [hpw] at hw3 hq2 hws
    go_upto_region 4 with fail
    generalize hwb : (w2.alloc _) = w3 at *
    clear hwb hpw hb2 f2
    obtain ⟨x0, x1, x2, x3, x4, xf⟩ := BlkAt.c5 hb3
    go_wp2_with fail
    refine (hck w3 f3).mono ?_
    rintro e w4 ⟨rfl, f4⟩
    clear x0 x1 x2 x3 x4 xf
    replace hb3 := hb3.fr f4 id
    replace hw3 := hw3.fr f4 (fun _ _ _ => id)
    replace f4 := f3.then' f4
    clear f3
    obtain ⟨x0, x1, x2, x3, x4, xf⟩ := BlkAt.c5 hb3
    go_wp2_with fail
    refine (hcr w4 f4).mono ?_
    rintro e w5 ⟨rfl, f5⟩
    clear x0 x1 x2 x3 x4 xf
    replace hb3 := hb3.fr f5 id
    replace hw3 := hw3.fr f5 (fun _ _ _ => id)
    replace f5 := f4.then' f5
    clear f4
    obtain ⟨x0, x1, x2, x3, x4, xf⟩ := BlkAt.c5 hb3
    go_wp2_with fail
    refine (hput w5 (eqB pw) pw hw3 (fun a e h0 g => by have := hA a e h0; unfold eqB at g; omega) f5).mono ?_
    rintro e w6 ⟨rfl, hw6, f6⟩
    clear x0 x1 x2 x3 x4 xf
    replace hb3 := hb3.fr f6 (by unfold eqB; omega)
    have f6w : Fr noB w w6 := f5.trans f6 (fun i hi h => by unfold eqB at h; omega)
    clear hput hcr hck f5 f6 hw3
    by_cases hk0 : k = 0
    · subst hk0
      have hg := hbk.out rfl
      have hul := hlen.out rfl
      rw [if_pos rfl, List.nil_append] at hw6
      rw [hg] at hget
      unfold GetUPost at hget
      unfold UsV.C at hget
      simp only at hget
      replace htx := fun W f => htx W f rfl
      have d0 : decide (0 = 0) = true := rfl
      rw [d0]
      clear hg hbk hlen d0
      generalize userB z u = ub at *
      go_wp2_with fail
      refine (bytes_calls w6 _ pw ub hw6 (by omega)).mono ?_
      rintro e w7 ⟨A3, c3, rfl, ho7, f7⟩
      obtain ⟨SW, hw7, hSW⟩ : ∃ SW, WrAt w7 SW pw ub ∧ ∀ k, SW k → k < w7.heap.size := by
        have h := hw6.fr f7 (fun _ _ _ => id)
        exact ⟨footW pw w7, h.foot, fun k hk => h.foot_lt hk⟩
      have hb7 := hb3.fr f7 id
      have f7w := f6w.then' f7
      clear hw6 hb3 f6w f7
      go_wp2_with fail
      refine (of_calls w7 A3 ub.length c3 ub (own_row ho7) rfl (own_caps ho7).2.2.2 (by omega)).mono ?_
      rintro e w8 ⟨pr, rfl, hp1, hp2, hr8, f8⟩
      have hr8' := hr8.inn06
      have hb8 := hb7.fr f8 id
      have hw8 := hw7.fr f8 (fun _ _ _ => id)
      have f8w := f7w.then' f8
      have hs8 := f8.size
      have hb3l := hb7.lt
      have hS0 : ∀ k, (fun k => upB w7.heap.size k ∧ k < w8.heap.size) k → w7.heap.size ≤ k ∧ k < w8.heap.size := fun k hk => hk
      generalize (fun k => upB w7.heap.size k ∧ k < w8.heap.size) = SR at *
      clear hr8 hw7 hb7 f7w f8 ho7
      go_wp2_with fail
      refine (hget w8 SR pr hr8' (fun k hk => (hS0 k hk).2)).mono ?_
      rintro e w9 ⟨A4, m, d, rfl, HM, hm, hrow, hr9, f9⟩
      have hb9 := hb8.fr f9 (fun h => by have := (hS0 _ h).1; omega)
      have hw9 := hw8.fr f9 (fun k _ hk h => by have := (hS0 _ h).1; have := hSW k hk; omega)
      have hws7 : w.heap.size ≤ w7.heap.size := by have := HQ.out; omega
      have f9w : Fr noB w w9 := f8w.trans f9 (fun i hi h => by have := (hS0 _ h).1; omega)
      clear hr8' hw8 hb8 f8w f9 hget hSW
      obtain rfl : n = m := HN.out.symm.trans HM.out
      have fa := (Fr.refl noB w9).alloc (.cells #[.string u.name, .string u.hash, .string u.mail, .bool u.dis, .slice A4 n d] 35)
      have h10 : BlkAt (w9.alloc (.cells #[.string u.name, .string u.hash, .string u.mail, .bool u.dis, .slice A4 n d] 35)) w9.heap.size 35 #[.string u.name, .string u.hash, .string u.mail, .bool u.dis, .slice A4 n d] := BlkAt.new _ _ _
      have hA10 := (hx.fr0 f9w).fr0 fa
      have hB10 := hrow.fr0 fa
      have hb10 := hb9.fr fa id
      have hw10 := hw9.fr fa (fun _ _ _ => id)
      have hr10 := hr9.fr fa (fun _ _ _ => id)
      have f10 := f9w.then' fa
      obtain ⟨b8, hq8⟩ : ∃ x, w9.heap.size = x := ⟨_, rfl⟩
      rw [hq8] at h10
      go_upto_region 11 with fail
      generalize (w9.alloc _) = v0 at *
      clear hq8 fa hb9 hw9 hr9 hrow f9w
      have hss := fun W f => sameR_calls W u u A A4 c d n n (hA10.fr0 f) (hB10.fr0 f) HN HM (by omega)
      have hsu : sameU u u = true := by unfold sameU; simp
      rw [hsu] at hss
      unfold UsV.C at hss
      clear hsu hB10
      have hcC : PutsC v0 SW SR pw pr b3 b8 #[.string u.name, .string u.hash, .string u.mail, .bool u.dis, .slice A n c] #[.string u.name, .string u.hash, .string u.mail, .bool u.dis, .slice A4 n d] ub v0 := ⟨Fr.refl _ _, hb10, h10, hw10, hr10⟩
      apply wp_region_calm (R := Fr noB) (C := fun _ W => PutsC v0 SW SR pw pr b3 b8 #[.string u.name, .string u.hash, .string u.mail, .bool u.dis, .slice A n c] #[.string u.name, .string u.hash, .string u.mail, .bool u.dis, .slice A4 n d] ub W) [false, false, false, false, false, false, false, false, false, false, false, false, false, false, false, false, false, false]
        [eqv _, BytesSt ub, eqv (.string (mkS ub)), eqv _, eqv _, eqv (.string (mkS ub)), eqv _, eqv _, eqv _, eqv (.int .i64 0), eqv _, eqv _, eqv _, eqv _, eqv _, eqv _, eqv _, eqv _]
        (by kernel_rfl) (by kernel_rfl) (fun _ _ _ h1 h2 => h1.then' h2) ((Fr.refl _ _).drew) (hcC.step (Fr.refl _ _).drew) (by kernel_rfl)
      · refine ⟨?_, ?_, ?_, ?_, ?_, ?_, ?_, ?_, ?_, ?_, ?_, ?_, ?_, ?_, ?_, ?_, ?_, ?_, trivial⟩
        · rw [if_neg (by decide)]; intro kq
          exact calm_mv 5 rfl rfl (Or.inl rfl) (Fr.refl _) (by decide) fun v w hd => hd
        · rw [if_neg (by decide)]; intro kq
          intro a W K hC hd hK
          have d48 : _ = _ := hd 48 (by decide)
          refine wpOp_plain rfl rfl ?_
          obtain ⟨x0, x1, x2, x3, x4, xf⟩ := BlkAt.c5 hC.b3
          obtain ⟨z0, z1, z2, z3, z4, zf⟩ := BlkAt.c5 hC.b8
          go_wp2_with fail
          refine (bytes_calls W SW pw ub hC.wr (by omega)).mono ?_
          rintro e9 w9a ⟨A9, c9, rfl, h9, f9⟩
          exact hK _ _ f9 (hC.step f9) ⟨A9, c9, rfl, own_row h9⟩
        · rw [if_neg (by decide)]; intro kq
          intro a W K hC hd hK
          have d49 : (BytesSt ub).V (a.tmps[49]?.getD undef) W := hd 49 (by decide)
          refine wpOp_plain rfl rfl ?_
          obtain ⟨A9, c9, hv9, h9⟩ := d49
          have d49 : a.tmps[49]?.getD undef = .slice A9 ub.length c9 := hv9
          have RS := Tryd.toStr h9 rfl c9
          go_wp2_with fail
          exact hK _ _ (Fr.refl _ _) hC rfl
        · rw [if_neg (by decide)]; intro kq
          exact calm_mv 0 rfl rfl (Or.inl rfl) (Fr.refl _) (by decide) fun v w hd => hd
        · rw [if_neg (by decide)]; intro kq
          intro a W K hC hd hK
          have d3 : a.tmps[3]?.getD undef = .pointer (some ⟨b3, 0, none⟩) := hd 3 (by decide)
          refine wpOp_plain rfl rfl ?_
          obtain ⟨x0, x1, x2, x3, x4, xf⟩ := BlkAt.c5 hC.b3
          obtain ⟨z0, z1, z2, z3, z4, zf⟩ := BlkAt.c5 hC.b8
          go_wp2_with fail
          exact hK _ _ (Fr.refl _ _) hC rfl
        · rw [if_neg (by decide)]; intro kq
          intro a W K hC hd hK
          have d51 : _ = _ := hd 51 (by decide)
          have d52 : _ = _ := hd 52 (by decide)
          refine wpOp_plain rfl rfl ?_
          obtain ⟨x0, x1, x2, x3, x4, xf⟩ := BlkAt.c5 hC.b3
          obtain ⟨z0, z1, z2, z3, z4, zf⟩ := BlkAt.c5 hC.b8
          go_wp2_with fail
          refine (htx W (f10.then' hC.fr)).mono ?_
          rintro e9 w9a ⟨rfl, f9⟩
          exact hK _ _ f9 (hC.step f9) rfl
        · rw [if_neg (by decide)]; intro kq
          intro a W K hC hd hK
          have d50 : a.tmps[50]?.getD undef = .string (mkS ub) := hd 50 (by decide)
          have d53 : a.tmps[53]?.getD undef = .string (mkS ub) := hd 53 (by decide)
          refine wpOp_plain rfl rfl ?_
          go_wp2_with fail
          exact hK _ _ (Fr.refl _ _) hC rfl
        · rw [if_neg (by decide)]; intro kq
          exact calm_mv 54 rfl rfl (Or.inl rfl) (Fr.refl _) (by decide) fun v w hd => hd
        · rw [if_neg (by decide)]; intro kq
          intro a W K hC hd hK
          have d7 : a.tmps[7]?.getD undef = .pointer (some ⟨pr, 0, none⟩) := hd 7 (by decide)
          have d55 : _ = _ := hd 55 (by decide)
          first | (exact wpOp_skip rfl (wanted_of (want := true) (b := false) rfl rfl (by rw [eval_get]; exact d55)) (hK _ _ (Fr.refl _ _) hC rfl)) | (refine wpOp_want rfl (wanted_of (want := true) (b := true) rfl rfl (by rw [eval_get]; exact d55)) ?_)
          all_goals (
            go_wp2_with fail
            exact hK _ _ (Fr.refl _ _) hC rfl)
        · rw [if_neg (by decide)]; intro kq
          intro a W K hC hd hK
          have d56 : _ = _ := hd 56 (by decide)
          have d55 : _ = _ := hd 55 (by decide)
          first | (exact wpOp_skip rfl (wanted_of (want := true) (b := false) rfl rfl (by rw [eval_get]; exact d55)) (hK _ _ (Fr.refl _ _) hC rfl)) | (refine wpOp_want rfl (wanted_of (want := true) (b := true) rfl rfl (by rw [eval_get]; exact d55)) ?_)
          all_goals (
            obtain ⟨x0, x1, x2, x3, x4, xf⟩ := BlkAt.c5 hC.b3
            obtain ⟨z0, z1, z2, z3, z4, zf⟩ := BlkAt.c5 hC.b8
            all_goals (go_wp2_with fail)
            refine (endRd_calls W SR pr ⟨[], 0⟩ hC.rd).mono ?_
            rintro e9 w9a ⟨rfl, rfl⟩
            exact hK _ _ (Fr.refl _ _) hC rfl)
        · rw [if_neg (by decide)]; intro kq
          intro a W K hC hd hK
          have d57 : a.tmps[57]?.getD undef = .int .i64 0 := hd 57 (by decide)
          have d55 : _ = _ := hd 55 (by decide)
          first | (exact wpOp_skip rfl (wanted_of (want := true) (b := false) rfl rfl (by rw [eval_get]; exact d55)) (hK _ _ (Fr.refl _ _) hC rfl)) | (refine wpOp_want rfl (wanted_of (want := true) (b := true) rfl rfl (by rw [eval_get]; exact d55)) ?_)
          all_goals (
            go_wp2_with fail
            exact hK _ _ (Fr.refl _ _) hC rfl)
        · rw [if_neg (by decide)]; intro kq
          intro a W K hC hd hK
          have d55 : _ = _ := hd 55 (by decide)
          have d58 : _ = _ := hd 58 (by decide)
          refine wpOp_plain rfl rfl ?_
          go_wp2_with fail
          exact hK _ _ (Fr.refl _ _) hC rfl
        · rw [if_neg (by decide)]; intro kq
          exact calm_mv 59 rfl rfl (Or.inl rfl) (Fr.refl _) (by decide) fun v w hd => hd
        · rw [if_neg (by decide)]; intro kq
          intro a W K hC hd hK
          have d3 : a.tmps[3]?.getD undef = .pointer (some ⟨b3, 0, none⟩) := hd 3 (by decide)
          have d60 : _ = _ := hd 60 (by decide)
          first | (exact wpOp_skip rfl (wanted_of (want := true) (b := false) rfl rfl (by rw [eval_get]; exact d60)) (hK _ _ (Fr.refl _ _) hC rfl)) | (refine wpOp_want rfl (wanted_of (want := true) (b := true) rfl rfl (by rw [eval_get]; exact d60)) ?_)
          all_goals (
            obtain ⟨x0, x1, x2, x3, x4, xf⟩ := BlkAt.c5 hC.b3
            obtain ⟨z0, z1, z2, z3, z4, zf⟩ := BlkAt.c5 hC.b8
            go_wp2_with fail
            exact hK _ _ (Fr.refl _ _) hC rfl)
        · rw [if_neg (by decide)]; intro kq
          intro a W K hC hd hK
          have d8 : a.tmps[8]?.getD undef = .pointer (some ⟨b8, 0, none⟩) := hd 8 (by decide)
          have d60 : _ = _ := hd 60 (by decide)
          first | (exact wpOp_skip rfl (wanted_of (want := true) (b := false) rfl rfl (by rw [eval_get]; exact d60)) (hK _ _ (Fr.refl _ _) hC rfl)) | (refine wpOp_want rfl (wanted_of (want := true) (b := true) rfl rfl (by rw [eval_get]; exact d60)) ?_)
          all_goals (
            obtain ⟨x0, x1, x2, x3, x4, xf⟩ := BlkAt.c5 hC.b3
            obtain ⟨z0, z1, z2, z3, z4, zf⟩ := BlkAt.c5 hC.b8
            go_wp2_with fail
            exact hK _ _ (Fr.refl _ _) hC rfl)
        · rw [if_neg (by decide)]; intro kq
          intro a W K hC hd hK
          have d61 : _ = _ := hd 61 (by decide)
          have d62 : _ = _ := hd 62 (by decide)
          have d60 : _ = _ := hd 60 (by decide)
          first | (exact wpOp_skip rfl (wanted_of (want := true) (b := false) rfl rfl (by rw [eval_get]; exact d60)) (hK _ _ (Fr.refl _ _) hC rfl)) | (refine wpOp_want rfl (wanted_of (want := true) (b := true) rfl rfl (by rw [eval_get]; exact d60)) ?_)
          all_goals (
            obtain ⟨x0, x1, x2, x3, x4, xf⟩ := BlkAt.c5 hC.b3
            obtain ⟨z0, z1, z2, z3, z4, zf⟩ := BlkAt.c5 hC.b8
            go_wp2_with fail
            refine (hss W hC.fr).mono ?_
            rintro e9 w9a ⟨rfl, f9⟩
            exact hK _ _ f9 (hC.step f9) rfl)
        · rw [if_neg (by decide)]; intro kq
          intro a W K hC hd hK
          have d60 : _ = _ := hd 60 (by decide)
          have d63 : _ = _ := hd 63 (by decide)
          refine wpOp_plain rfl rfl ?_
          go_wp2_with fail
          exact hK _ _ (Fr.refl _ _) hC rfl
        · rw [if_neg (by decide)]; intro kq
          exact calm_mv 64 rfl rfl (Or.inr rfl) (Fr.refl _) (by decide) fun v w hd => hd
      · intro vs v1 fv1 cv1 hV
        have v48 : vs 0 = _ := hV 0 _ _ rfl rfl (by decide)
        have v49 : (BytesSt ub).V (vs 1) v1 := hV 1 _ _ rfl rfl (by decide)
        have v50 : vs 2 = .string (mkS ub) := hV 2 _ _ rfl rfl (by decide)
        have v51 : vs 3 = _ := hV 3 _ _ rfl rfl (by decide)
        have v52 : vs 4 = _ := hV 4 _ _ rfl rfl (by decide)
        have v53 : vs 5 = .string (mkS ub) := hV 5 _ _ rfl rfl (by decide)
        have v54 : vs 6 = _ := hV 6 _ _ rfl rfl (by decide)
        have v55 : vs 7 = _ := hV 7 _ _ rfl rfl (by decide)
        have v56 : vs 8 = _ := hV 8 _ _ rfl rfl (by decide)
        have v57 : vs 9 = .int .i64 0 := hV 9 _ _ rfl rfl (by decide)
        have v58 : vs 10 = _ := hV 10 _ _ rfl rfl (by decide)
        have v59 : vs 11 = _ := hV 11 _ _ rfl rfl (by decide)
        have v60 : vs 12 = _ := hV 12 _ _ rfl rfl (by decide)
        have v61 : vs 13 = _ := hV 13 _ _ rfl rfl (by decide)
        have v62 : vs 14 = _ := hV 14 _ _ rfl rfl (by decide)
        have v63 : vs 15 = _ := hV 15 _ _ rfl rfl (by decide)
        have v64 : vs 16 = _ := hV 16 _ _ rfl rfl (by decide)
        have v4 : vs 17 = _ := hV 17 _ _ rfl rfl (by decide)
        clear hV
        simp only [putL, Act.put, Nat.reduceAdd, List.setIfInBounds_toArray, List.set_cons_zero, List.set_cons_succ, v48, v50, v51, v52, v53, v54, v55, v56, v57, v58, v59, v60, v61, v62, v63, v64, v4]
        go_wp2_with fail
        go_ret
        exact ⟨rfl, f10.then' cv1.fr⟩
    · rw [if_neg hk0, decide_eq_false hk0] at *
      have t1 : ((k : Int) == 0) = false := by rw [beq_eq_false_iff_ne]; omega
      have t2 : ((k : Int) != 0) = true := by rw [bne_iff_ne]; omega
      clear hbk hlen hget htx hk0
      go_wp2_with fail
      refine (bytes_calls w6 _ pw [] hw6 (by simp)).mono ?_
      rintro e w7 ⟨A3, c3, rfl, ho7, f7⟩
      go_wp2_with fail
      go_ret
      exact ⟨rfl, f6w.then' f7⟩
end Go.Proofs.YtahcopmdffengaaDoor
