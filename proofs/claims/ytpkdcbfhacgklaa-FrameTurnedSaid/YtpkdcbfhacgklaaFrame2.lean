/- frame.size, Framer.Get. -/
import Derived.Test.YtpkdcbfhacgklaaFrame1
import Derived.Test.YtpkdcbfhacgklaaRd3
import Derived.Test.YtpkdcbfhacgklaaBackLaw
import Derived.Test.YtpkdcbfhacgklaaSeg
namespace Go.Proofs.Ytpkdcbfhacgklaa
open Go.RowKit

theorem RowAt.sub {w : World} {ad : Addr} {xs : List Value} (h : RowAt w (some ad) xs) (k m : Nat) : RowAt w (some (ad.add k)) ((xs.drop k).take m) := fun j u hu => by
  refine ⟨_, rfl, ?_⟩
  rw [List.getElem?_take] at hu
  split at hu
  · rw [List.getElem?_drop] at hu
    rw [add_add']; exact h.cell hu
  · cases hu
theorem bcells_sub (b : List UInt8) (k m : Nat) : bcells ((b.drop k).take m) = ((bcells b).drop k).take m := by simp [bcells, List.map_take, List.map_drop]
theorem add_zero' (a : Addr) : a.add 0 = a := by unfold Addr.add; simp
def sizeV (b : List UInt8) : Nat × Nat := if b.length < 10 then (0, 2) else if b.headD 0 ≠ 1 then (0, 6) else (leV ((b.drop 2).take 4) + 10, 0)
theorem leV4_lt (b : List UInt8) : leV ((b.drop 2).take 4) < 4294967296 := by
  have h1 := leV_lt ((b.drop 2).take 4)
  have h2 : ((b.drop 2).take 4).length ≤ 4 := by rw [List.length_take]; omega
  have h3 : 256 ^ ((b.drop 2).take 4).length ≤ 256 ^ 4 := Nat.pow_le_pow_right (by decide) h2
  have : (256 : Nat) ^ 4 = 4294967296 := by decide
  omega
theorem sizeV_lt (b : List UInt8) : (sizeV b).1 < 4294967400 := by
  unfold sizeV
  split
  · simp
  · split
    · simp
    · have := leV4_lt b; simp only []; omega
set_option maxRecDepth 100000 in
set_option maxHeartbeats 1600000 in
theorem size_calls (w : World) (A : Option Addr) (n c : Nat) (b : List UInt8) (hr : RowAt w A (bcells b)) (HN : Hid (b.length = n)) (hnc : n ≤ c) (hc : c ≤ 9223372036854775807) (hn : n ≤ 1000000000000) :
    Calls Try.prog 69 #[.slice A n c] w (fun e w' => e = .returned (.tuple #[.int .u64 ((sizeV b).1 : Nat), .int .i64 ((sizeV b).2 : Nat)]) ∧ Fr noB w w') := by
  by_cases h10 : n < 10
  · have d1 : decide ((n : Int) < 10) = true := decide_eq_true (by omega)
    have HV : Hid (sizeV b = (0, 2)) := by unfold Hid sizeV; rw [if_pos (by rw [HN.out]; exact h10)]
    clear h10
    go_enter Try.func69, Try.ntmps69
    go_wp2_with fail
    go_ret2
    exact ⟨by rw [HV.out]; rfl, Fr.refl _ _⟩
  · have d1 : decide ((n : Int) < 10) = false := decide_eq_false (by omega)
    obtain ⟨ad, rfl⟩ := hr.some_of (by rw [bcells_length, HN.out]; omega)
    obtain ⟨x, hx⟩ : ∃ x, b[0]? = some x := ⟨_, List.getElem?_eq_getElem (by rw [HN.out]; omega)⟩
    have hh : b.headD 0 = x := by
      cases b with
      | nil => simp at hx
      | cons y b => simp at hx; exact hx
    have c0 : w.cell? ad = some (.int .u8 x.toNat) := by
      have := hr.cell (j := 0) (u := .int .u8 x.toNat) (by unfold bcells; rw [List.getElem?_map, hx]; rfl)
      rwa [add_zero'] at this
    have hn0 : 0 < n := by omega
    by_cases h1 : x = 1
    · have t1 : ((x.toNat : Int) != 1) = false := by rw [bne_eq_false_iff_eq, h1]; rfl
      have HV : Hid (sizeV b = (leV ((b.drop 2).take 4) + 10, 0)) := by unfold Hid sizeV; rw [if_neg (by rw [HN.out]; exact h10), if_neg (by rw [hh]; simp [h1])]
      have hsub := hr.sub 2 4
      rw [← bcells_sub] at hsub
      have hsl : ((b.drop 2).take 4).length = 4 := by rw [List.length_take, List.length_drop, HN.out]; omega
      have hoc := of_calls w (some (ad.add 2)) 4 (c - 2) _ hsub hsl (fun e => by cases e) (by decide)
      have h4 := leV4_lt b
      have hnum : rNum ⟨(b.drop 2).take 4, 0⟩ 4 = (⟨[], 0⟩, leV ((b.drop 2).take 4)) := by
        have := rTake_app ((b.drop 2).take 4) [] 0 4 hsl
        rw [List.append_nil] at this
        unfold rNum; rw [this]
      generalize leV ((b.drop 2).take 4) = v at *
      have hw1 : IntKind.u64.wrap (v : Int) = v := by rw [IntKind.wrap_u64]; omega
      have hw2 : IntKind.u64.wrap ((v : Int) + 6) = (v : Int) + 6 := by rw [IntKind.wrap_u64]; omega
      have hw3 : IntKind.u64.wrap ((v : Int) + 6 + 4) = ((v + 10 : Nat) : Int) := by rw [IntKind.wrap_u64]; omega
      have HU := hid hnum
      have h6c : 6 ≤ c := by omega
      have h2c : 2 ≤ c := by omega
      clear hh hx h1 hsub hnum h4 h10 hr
      go_enter Try.func69, Try.ntmps69
      go_wp2_with fail
      refine hoc.mono ?_
      rintro e w1 ⟨p, rfl, hp1, hp2, h1, f1⟩
      clear hoc
      have hfr := fourRd_calls w1 (upB w.heap.size) p _ h1
      rw [HU.out] at hfr
      go_wp2_with fail
      refine hfr.mono ?_
      rintro e w2 ⟨rfl, h2, f2⟩
      have F2 : Fr noB w w2 := f1.trans f2 (fun i hi h => by unfold upB at h; omega)
      clear hfr h1 h2 f1 f2
      go_wp2_with fail
      go_ret2
      exact ⟨by rw [HV.out]; rfl, F2⟩
    · have t1 : ((x.toNat : Int) != 1) = true := by
        rw [bne_iff_ne]; intro h; exact h1 (UInt8.toNat_inj.1 (by simpa using (by omega : x.toNat = 1)))
      have HV : Hid (sizeV b = (0, 6)) := by unfold Hid sizeV; rw [if_neg (by rw [HN.out]; exact h10), if_pos (by rw [hh]; exact h1)]
      clear hh hx h1 h10 hr
      go_enter Try.func69, Try.ntmps69
      go_wp2_with fail
      go_ret2
      exact ⟨by rw [HV.out]; rfl, Fr.refl _ _⟩

/-! ### Get -/
theorem openB_len {b : List UInt8} (h0 : (openB b).2 = 0) (h4 : 4 ≤ b.length) : (openB b).1.length = b.length - 4 := by
  unfold openB at *
  rw [if_neg (by omega)] at h0 ⊢
  split at h0
  · rw [if_pos (by assumption), List.length_take]; omega
  · cases h0
def frGet (b : List UInt8) : (Nat × List UInt8) × Nat :=
  if 65536 < b.length then ((0, []), 3) else if (sizeV b).2 ≠ 0 then ((0, []), (sizeV b).2) else if b.length < (sizeV b).1 then ((0, []), 2) else if (sizeV b).1 < b.length then ((0, []), 3)
  else if (openB b).2 ≠ 0 then ((0, []), (openB b).2) else ((((openB b).1.getD 1 0).toNat, (openB b).1.drop 6), 0)
def SubB (blk : Nat) (bs : List UInt8) : Stb (Fr noB) :=
  ⟨fun v W => ∃ A m c, v = .slice A m c ∧ bs.length = m ∧ RowAt W A (bcells bs) ∧ ∀ a, A = some a → a.block = blk, fun _ _ _ ⟨A, m, c, h1, h2, h3, h4⟩ f => ⟨A, m, c, h1, h2, h3.fr0 f, h4⟩⟩
def FGet (w : World) (p : Nat) (q : (Nat × List UInt8) × Nat) (e : Ending) (w' : World) : Prop :=
  ∃ B m d, e = .returned (.tuple #[.int .u8 (q.1.1 : Nat), .slice B m d, .int .i64 (q.2 : Nat)]) ∧ Hid (q.1.2.length = m) ∧ RowAt w' B (bcells q.1.2) ∧ (∃ mk, TabAt w' p mk) ∧ (∀ a, B = some a → w.heap.size ≤ a.block) ∧ Fr (eqB p) w w'
theorem FGet.none {w w' : World} {p : Nat} {m : Bool} {k : Nat} (h : TabAt w' p m) (f : Fr (eqB p) w w') : FGet w p ((0, []), k) (.returned (.tuple #[.int .u8 0, .slice none 0 0, .int .i64 k])) w' :=
  ⟨Option.none, 0, 0, rfl, rfl, RowAt.nil _ _, ⟨m, h⟩, fun a e => (by cases e), f⟩
set_option maxRecDepth 100000 in
set_option maxHeartbeats 1600000 in
theorem getF_calls (w : World) (p : Nat) (m : Bool) (A : Option Addr) (n c : Nat) (b : List UInt8) (h : TabAt w p m) (hr : RowAt w A (bcells b)) (HN : Hid (b.length = n)) (hnc : n ≤ c) (hc : c ≤ 9223372036854775807) (hA : ∀ a, A = some a → 0 < n → a.block ≠ p) :
    Calls Try.prog 27 #[.pointer (some ⟨p, 0, none⟩), .slice A n c] w (FGet w p (frGet b)) := by
  by_cases hl : 65536 < n
  · have d1 : decide ((65536 : Int) < n) = true := decide_eq_true (by omega)
    have HV : Hid (frGet b = ((0, []), 3)) := by unfold Hid frGet; rw [if_pos (by rw [HN.out]; exact hl)]
    have HT := hid h
    clear hl h hr
    go_enter Try.func27, Try.ntmps27
    go_wp2_with fail
    go_ret3
    rw [HV.out]
    exact FGet.none HT.out (Fr.refl _ _)
  · have d1 : decide ((65536 : Int) < n) = false := decide_eq_false (by omega)
    have hsz := size_calls w A n c b hr HN hnc hc (by omega)
    have HV : Hid (frGet b = if (sizeV b).2 ≠ 0 then ((0, []), (sizeV b).2) else if b.length < (sizeV b).1 then ((0, []), 2) else if (sizeV b).1 < b.length then ((0, []), 3) else if (openB b).2 ≠ 0 then ((0, []), (openB b).2) else ((((openB b).1.getD 1 0).toNat, (openB b).1.drop 6), 0)) := by
      show frGet b = _
      conv => lhs; unfold frGet
      rw [if_neg (by rw [HN.out]; exact hl)]
    have hz := sizeV_lt b
    have hz10 : (sizeV b).2 = 0 → 10 ≤ n := fun h0 => by
      unfold sizeV at h0
      rw [HN.out] at h0
      split at h0
      · cases h0
      · omega
    generalize frGet b = res at *
    generalize sizeV b = sv at *
    obtain ⟨v, ev⟩ := sv
    simp only [] at *
    have HZ := hid hz
    have HL := hid hl
    clear hz hl
    go_enter Try.func27, Try.ntmps27
    go_wp2_with fail
    refine hsz.mono ?_
    rintro e w1 ⟨rfl, f1⟩
    have ht1 := h.fr f1 id
    have hr1 := hr.fr0 f1
    clear hsz h hr
    by_cases he : ev = 0
    · have t1 : ((ev : Int) != 0) = false := by rw [bne_eq_false_iff_eq]; omega
      have hn10 := hz10 he
      rw [if_neg (by rw [he]; decide)] at HV
      have hw1 : IntKind.u64.wrap (n : Int) = n := by rw [IntKind.wrap_u64]; have := HL.out; omega
      clear he hz10
      rw [HN.out] at HV
      by_cases h1 : n < v
      · have d2 : decide (n < v) = true := decide_eq_true h1
        rw [if_pos h1] at HV
        clear h1
        go_wp2_with fail
        go_ret3
        rw [HV.out]
        exact FGet.none ht1 (f1.mono fun _ _ h => h.elim)
      · have d2 : decide (n < v) = false := decide_eq_false h1
        rw [if_neg h1] at HV
        by_cases h2 : v < n
        · have d3 : decide (v < n) = true := decide_eq_true h2
          rw [if_pos h2] at HV
          clear h1 h2
          go_wp2_with fail
          go_ret3
          rw [HV.out]
          exact FGet.none ht1 (f1.mono fun _ _ h => h.elim)
        · have d3 : decide (v < n) = false := decide_eq_false h2
          rw [if_neg h2] at HV
          have hop := open2_calls w1 p m A n c b ht1 hr1 HN (by have := HL.out; omega) hnc hc hA
          rw [if_neg (by omega)] at hop
          have hob : (openB b).2 = 0 → (openB b).1.length = n - 4 := fun h0 => by rw [openB_len h0 (by rw [HN.out]; omega), HN.out]
          generalize openB b = ob at *
          obtain ⟨al, ae⟩ := ob
          simp only [] at hob HV
          clear h1 h2
          go_wp2_with fail
          refine hop.mono ?_
          rintro e w2 ⟨B, k, d, rfl, HK, hrB, hB, ht2, f2, hkd, hdm⟩
          simp only [] at HK hrB
          have F2 := (f1.mono (T := eqB p) fun _ _ h => h.elim).then' f2
          have hs1 := f1.size
          clear hop ht1 hr1 f1 f2
          by_cases ha : ae = 0
          · have t2 : ((ae : Int) != 0) = false := by rw [bne_eq_false_iff_eq]; omega
            have hk := hob ha
            rw [HK.out] at hk
            rw [if_neg (by rw [ha]; decide)] at HV
            clear ha hob
            obtain ⟨ad, rfl⟩ := hrB.some_of (by rw [bcells_length, HK.out]; omega)
            obtain ⟨x, hx⟩ : ∃ x, al[1]? = some x := ⟨_, List.getElem?_eq_getElem (by rw [HK.out]; omega)⟩
            have hc1 : w2.cell? (ad.add 1) = some (.int .u8 x.toNat) := hrB.cell (by unfold bcells; rw [List.getElem?_map, hx]; rfl)
            have HHK := hid hk
            have hgx : al.getD 1 0 = x := by rw [List.getD_eq_getElem?_getD, hx]; rfl
            rw [hgx] at HV
            have h6k : 6 ≤ k := by omega
            have h1k : 1 < k := by omega
            clear hx hgx hk
            go_wp2_with fail
            apply wp_region_calm (R := Fr noB) (C := fun q W => Fr noB w2 W) [false, false, false, false, false, false, false, false]
              [eqv _, eqv _, eqv _, eqv _, SubB ad.block (al.drop 6), eqv _, SubB ad.block (al.drop 6), eqv _]
              (by kernel_rfl) (by kernel_rfl) (fun _ _ _ h1 h2 => h1.then' h2) ((Fr.refl _ _).drew) ((Fr.refl _ _).drew) (by kernel_rfl)
            · refine ⟨?_, ?_, ?_, ?_, ?_, ?_, ?_, ?_, trivial⟩
              · rw [if_neg (by decide)]; intro kq
                exact calm_mv 8 rfl rfl (Or.inl rfl) (Fr.refl _) (by decide) fun v w hd => hd
              · rw [if_neg (by decide)]; intro kq
                intro a W K hC hd hK
                have d44 : _ = _ := hd 44 (by decide)
                refine wpOp_plain rfl rfl ?_
                have hcx := hC.cell hc1 id
                have hcy : W.cell? ⟨ad.block, ad.off + 1, none⟩ = some (.int .u8 x.toNat) := hcx
                go_wp2_with fail
                exact hK _ _ (Fr.refl _ _) hC rfl
              · rw [if_neg (by decide)]; intro kq
                intro a W K hC hd hK
                have d45 : _ = _ := hd 45 (by decide)
                refine wpOp_plain rfl rfl ?_
                have hcx := hC.cell hc1 id
                have hcy : W.cell? ⟨ad.block, ad.off + 1, none⟩ = some (.int .u8 x.toNat) := hcx
                go_wp2_with fail
                exact hK _ _ (Fr.refl _ _) hC rfl
              · rw [if_neg (by decide)]; intro kq
                exact calm_mv 8 rfl rfl (Or.inl rfl) (Fr.refl _) (by decide) fun v w hd => hd
              · rw [if_neg (by decide)]; intro kq
                intro a W K hC hd hK
                have d47 : _ = _ := hd 47 (by decide)
                refine wpOp_plain rfl rfl ?_
                have hr8 := (hrB.fr0 hC).sub 6 (k - 6)
                rw [← bcells_sub, List.take_of_length_le (by rw [List.length_drop, HK.out]; exact Nat.le_refl _)] at hr8
                by_cases h6 : d = 6
                · have h60 : k = 6 := by omega
                  have hal : al.drop 6 = [] := List.drop_eq_nil_of_le (by rw [HK.out]; omega)
                  have HAL := hid hal
                  clear hal h60
                  subst h6
                  go_wp2_with fail
                  exact hK _ _ (Fr.refl _ _) hC ⟨some ad, 0, 0, rfl, by rw [HAL.out]; rfl, by rw [HAL.out]; exact RowAt.nil _ _, fun a e => by cases e; rfl⟩
                · go_wp2_with fail
                  exact hK _ _ (Fr.refl _ _) hC ⟨some (ad.add 6), k - 6, d - 6, rfl, by rw [List.length_drop, HK.out], hr8, fun a e => by cases e; rw [add_block]⟩
              · rw [if_neg (by decide)]; intro kq
                exact calm_mv 46 rfl rfl (Or.inr rfl) (Fr.refl _) (by decide) fun v w hd => hd
              · rw [if_neg (by decide)]; intro kq
                exact calm_mv 48 rfl rfl (Or.inr rfl) (Fr.refl _) (by decide) fun v w hd => hd
              · rw [if_neg (by decide)]; intro kq
                intro a W K hC hd hK
                refine wpOp_plain rfl rfl ?_
                go_wp2_with fail
                exact hK _ _ (Fr.refl _ _) hC rfl
            · intro vs w8 fw8 cw8 hV
              have v44 : vs 0 = _ := hV 0 _ _ rfl rfl (by decide)
              have v45 : vs 1 = _ := hV 1 _ _ rfl rfl (by decide)
              have v46 : vs 2 = _ := hV 2 _ _ rfl rfl (by decide)
              have v47 : vs 3 = _ := hV 3 _ _ rfl rfl (by decide)
              have v48 : (SubB ad.block (al.drop 6)).V (vs 4) w8 := hV 4 _ _ rfl rfl (by decide)
              have v4 : vs 5 = _ := hV 5 _ _ rfl rfl (by decide)
              have v5 : (SubB ad.block (al.drop 6)).V (vs 6) w8 := hV 6 _ _ rfl rfl (by decide)
              have v6 : vs 7 = _ := hV 7 _ _ rfl rfl (by decide)
              clear hV
              simp only [putL, Act.put, Nat.reduceAdd, List.setIfInBounds_toArray, List.set_cons_zero, List.set_cons_succ, v44, v45, v46, v47, v4, v6]
              obtain ⟨A8, m8, c8, e8, hm8, hr8, hb8⟩ := v5
              have hb9 := hB ad rfl
              have ht8 := ht2.fr fw8 id
              have F8 := F2.then' (fw8.mono (T := eqB p) fun _ _ h => h.elim)
              rw [e8]
              clear hc1 cw8 v48 e8
              go_wp2_with fail
              go_ret3
              rw [HV.out]
              exact ⟨A8, m8, c8, rfl, hm8, hr8, ⟨_, ht8⟩, fun a e => by rw [hb8 a e]; omega, F8⟩
          · have t2 : ((ae : Int) != 0) = true := by rw [bne_iff_ne]; omega
            rw [if_pos ha] at HV
            clear ha hob
            go_wp2_with fail
            go_ret3
            rw [HV.out]
            exact FGet.none ht2 F2
    · have t1 : ((ev : Int) != 0) = true := by rw [bne_iff_ne]; omega
      rw [if_pos he] at HV
      clear he hz10
      go_wp2_with fail
      go_ret3
      rw [HV.out]
      exact FGet.none ht1 (f1.mono fun _ _ h => h.elim)
end Go.Proofs.Ytpkdcbfhacgklaa
