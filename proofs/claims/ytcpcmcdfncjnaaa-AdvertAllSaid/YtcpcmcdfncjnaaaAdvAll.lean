/- interrexlaw16.AdvertAll: the walk. -/
import Derived.Test.YtcpcmcdfncjnaaaAdv
namespace Go.Proofs.Ytcpcmcdfncjnaaa
open Go.RowKit Go.Maps

def mapOf (n : Nat) (l : List Act16) (i : Nat) : Nat := (boardOf n l).getD i 0
set_option maxRecDepth 100000 in
set_option maxHeartbeats 6400000 in
theorem advAll_walk (w : World) (a0 : Nat) (A : Option Addr) (n c : Nat) (l : List Act16) (a b : Nat) (h0 : a0 < 256) (h : RowAt w A (l.flatMap Act16.cells)) (HN : Hid (l.length = n)) (hn : n ≤ maxLen) (hok : ∀ i ∈ l, i.ok) (ha : a < 256) (hb : b < 256) :
    Calls Try.prog 4 #[.int .u8 a0, .slice A n c, .int .u8 a, .int .u8 b] w (BoolPost w true) := by
  have hlv := @lives16_calls
  unfold maxLen at hn
  by_cases h40 : 40 < n
  · have t40 : decide (40 < (n : Int)) = true := by simp; omega
    go_enter Try.func4, Try.ntmps4
    go_wp2_with fail
    refine (hlv _).mono ?_
    rintro e w1 ⟨rfl, f1⟩
    go_wp2_with fail
    refine (hlv _).mono ?_
    rintro e w2 ⟨rfl, f2⟩
    go_wp2_with fail
    go_ret
    exact ⟨rfl, f1.then' f2⟩
  · have t40 : decide (40 < (n : Int)) = false := by simp; omega
    obtain ⟨m, HM⟩ : ∃ m, Hid (m = 3 + 2 * (a0 % 3)) := ⟨_, rfl⟩
    have hm7 : m ≤ 7 := by have := HM.out; omega
    have hm3 : m = 3 ∨ m = 5 ∨ m = 7 := by have := HM.out; omega
    have HM3 := hid hm3; clear hm3
    have hmi1 : IntKind.i64.wrap (2 * ((a0 : Int) % 3)) = 2 * ((a0 : Int) % 3) := by rw [IntKind.wrap_i64]; omega
    have hmi : IntKind.i64.wrap (3 + 2 * ((a0 : Int) % 3)) = (m : Int) := by rw [IntKind.wrap_i64]; have := HM.out; omega
    have hmm := @run_makeMap Try.prog
    go_enter Try.func4, Try.ntmps4
    go_wp2_with (go_at_call 20; refine (hlv _).mono ?_; rintro e w1 ⟨rfl, f1⟩)
    have hnew := newB_yes w1 m HM3.out
    clear hmi1
    go_wp2_with fail
    refine hnew.mono ?_
    clear hnew
    rintro e w2 ⟨rfl, hbo, f2⟩
    have f02 : Fr noB w w2 := f1.then' f2
    have hbo2 := hbo.cut
    have z1 := f1.size
    have z2 := f2.size
    generalize hp : w1.heap.size + 1 = p at *
    have HP := hid hp; clear hp
    obtain ⟨S, hS⟩ : ∃ S : Nat → Prop, S = fun k => upB w1.heap.size k ∧ k < w2.heap.size := ⟨_, rfl⟩
    have hS1 : ∀ k, S k → w.heap.size ≤ k ∧ k < w2.heap.size := fun k hk => by subst hS; exact ⟨Nat.le_trans z1 hk.1, hk.2⟩
    replace hbo : BoAt w2 S p (List.replicate m 0) := by subst hS; exact hbo2
    clear hS hbo2 f1 f2
    have hmap := MapR.new w2
    have f3 : Fr (upB w.heap.size) w (w2.alloc (.map #[] 0)) := (f02.alloc _).up0 _
    have hbo3 := hbo.fr0 ((Fr.refl noB w2).alloc (.map #[] 0))
    have z3 : (w2.alloc (.map #[] 0)).heap.size = w2.heap.size + 1 := by simp
    go_wp2_with fail
    generalize w2.alloc (.map #[] 0) = w3 at *
    generalize hmb : w2.heap.size = mb at *
    have HMB := hid hmb; clear hmb hbo
    go_loopw [34] (fun i wr => ∃ k : Nat, k ≤ n ∧ i = .int .i64 k ∧ BoAt wr S p (boardOf m (l.take k)) ∧ MapR wr mb k (mapOf m (l.take k)) ∧ Fr (upB w.heap.size) w wr ∧ mb < wr.heap.size) (fun i _ => n - (intOf i).toNat)
    case atStart => exact ⟨0, Nat.zero_le _, rfl, hbo3, (by
      have e : mapOf m (l.take 0) = fun _ => 0 := by
        funext i
        unfold mapOf boardOf
        simp [List.getElem?_replicate]
        split <;> rfl
      rw [e]; exact hmap), f3, by omega⟩
    case round =>
      clear hbo3 hmap f3 f02
      obtain ⟨k, hk, rfl, hbo, hmap, hf, hzz⟩ := hrel
      by_cases hkn : k < n
      · obtain ⟨it, hit⟩ : ∃ it, l[k]? = some it := ⟨_, List.getElem?_eq_getElem (by rw [HN.out]; exact hkn)⟩
        obtain ⟨ad, rfl⟩ := h.some_flat (by simp [Act16.cells]) hit
        obtain ⟨c0, c1, c2⟩ := ((h.seg 3 Act16.cells_length hit).fr hf (by
          have := (h.seg 3 Act16.cells_length hit) 0 _ rfl
          have := World.block_lt_of_cell? w _ this
          rw [add_block] at this
          unfold upB; omega)).c3
        obtain ⟨hi1, hi2, hi3⟩ := hok it (List.mem_of_getElem? hit)
        have HB := hid (boardOf_snoc (n := m) hit)
        have hmp : ∀ i, mapOf m (l.take (k + 1)) i = if (bNote (boardOf m (l.take k)) it.n it.r).2 = 0 ∧ i = it.n then it.r else mapOf m (l.take k) i := fun i => by
          unfold mapOf; rw [HB.out, bNote_get]
        have HMP := hid hmp; clear hmp hit
        obtain ⟨ik, iN, ir⟩ := it
        simp only [] at hi1 hi2 hi3 HB HMP c0 c1 c2
        have hbox : ∀ W, Fr S (wr.alloc (.cells #[.int .u8 (ik : Nat), .int .u8 (iN : Nat), .int .u8 (ir : Nat)] 42)) W → W.cell? ⟨wr.heap.size, 1, none⟩ = some (.int .u8 (iN : Nat)) ∧ W.cell? ⟨wr.heap.size, 2, none⟩ = some (.int .u8 (ir : Nat)) := fun W f => by
          have e : ∀ j u, [Value.int .u8 (ik : Nat), .int .u8 (iN : Nat), .int .u8 (ir : Nat)][j]? = some u → W.cell? ((⟨wr.heap.size, 0, none⟩ : Addr).add j) = some u := fun j u hu => f.cell ((new_row wr #[.int .u8 (ik : Nat), .int .u8 (iN : Nat), .int .u8 (ir : Nat)] _).cell hu) (by rw [add_block]; intro h; exact absurd (hS1 _ h).2 (by simp only []; omega))
          exact ⟨e 1 _ rfl, e 2 _ rfl⟩
        have hbo2 := hbo.fr0 ((Fr.refl noB wr).alloc (.cells #[.int .u8 (ik : Nat), .int .u8 (iN : Nat), .int .u8 (ir : Nat)] 42))
        have hmap2 := hmap.fr ((Fr.refl noB wr).alloc (.cells #[.int .u8 (ik : Nat), .int .u8 (iN : Nat), .int .u8 (ir : Nat)] 42)) id
        have hf2 : Fr (upB w.heap.size) w (wr.alloc (.cells #[.int .u8 (ik : Nat), .int .u8 (iN : Nat), .int .u8 (ir : Nat)] 42)) := hf.alloc _
        have hnt := note_calls _ S p _ iN ir hbo2 hi2 hi3
        have zb : (wr.alloc (.cells #[.int .u8 (ik : Nat), .int .u8 (iN : Nat), .int .u8 (ir : Nat)] 42)).heap.size = wr.heap.size + 1 := by simp
        clear hbo hmap hf
        go_wp2_with fail
        generalize wr.alloc (.cells #[.int .u8 (ik : Nat), .int .u8 (iN : Nat), .int .u8 (ir : Nat)] 42) = wb at *
        refine hnt.mono ?_
        rintro e w5 ⟨rfl, hbo5, f5⟩
        obtain ⟨c51, c52⟩ := hbox w5 f5
        have hmap5 := hmap2.fr f5 (fun h => by have := (hS1 _ h).2; omega)
        have hf5 : Fr (upB w.heap.size) w w5 := hf2.then' (f5.mono fun b _ hb => (hS1 b hb).1)
        have z5 := f5.size
        clear hnt hmap2 hbo2 hf2 hbox c0 c1 c2
        generalize hbs : boardOf m (l.take k) = bd at *
        generalize hmf : mapOf m (l.take k) = mf at *
        have HBM := hid (And.intro hbs hmf); clear hbs hmf
        rw [← HB.out] at hbo5
        clear HB
        by_cases hn0 : (bNote bd iN ir).2 = 0
        · have ht : (((bNote bd iN ir).2 : Int) == 0) = true := by rw [hn0]; rfl
          have hmf2 : mapOf m (l.take (k + 1)) = fun i => if i = iN then ir else mf i := by
            funext i; rw [HMP.out i]; simp [hn0]
          have HMF := hid hmf2; clear hmf2
          generalize (bNote bd iN ir).2 = q at *
          clear hn0
          obtain ⟨D, hown, hD1, hD2⟩ := hmap5
          have HD := hid (And.intro hD1 hD2); clear hD1 hD2
          go_wp2_with (at_mapUpdate; refine wpList_mapUpdate_own _ rfl _ _ _ 40 rfl 5 45 Try.keyU8 Try.underlying40 _ mb k D rfl hown (by unfold maxLen; omega) _ _ _ rfl rfl (keyOf_int_mk Try.underlying5 (wf_u8 hi2)) _ [] (plainElem_int Try.underlying45 (wf_u8 hi3)) ?_)
          intro w6 hown6 hg6
          have hmap6 : MapR w6 mb (k + 1) (fun i => if i = iN then ir else mf i) := MapR.put (P := Try.prog) D HD.out.1 HD.out.2 hown6
          have f6 : Fr (eqB mb) w5 w6 := Fr.grown (Fr.refl _ _) hg6 (fun b hb => by cases hb; exact Or.inl rfl)
          have hbo6 := hbo5.fr f6 (fun b hb hs he => by have := (hS1 b hs).2; unfold eqB at he; omega)
          have hf6 : Fr (upB w.heap.size) w w6 := hf5.then' (f6.mono fun b _ hb => by unfold eqB at hb; unfold upB; omega)
          have z6 := f6.size
          clear hown hown6 hg6 hf5 f6 hbo5 f5
          go_wp2_with fail
          go_roundw
          case rel => exact ⟨k + 1, by omega, by go_num, hbo6, by rw [HMF.out]; exact hmap6, hf6, by omega⟩
          case measure => simp [intOf]; omega
        · have ht : (((bNote bd iN ir).2 : Int) == 0) = false := by simp; exact hn0
          have hmf2 : mapOf m (l.take (k + 1)) = mf := by
            funext i; rw [HMP.out i]; simp [hn0]
          have HMF := hid hmf2; clear hmf2
          generalize (bNote bd iN ir).2 = q at *
          clear hn0
          go_wp2_with fail
          go_roundw
          case rel => exact ⟨k + 1, by omega, by go_num, hbo5, by rw [HMF.out]; obtain ⟨D, g1, g2, g3⟩ := hmap5; exact ⟨D, g1.mono (Nat.le_succ _), g2, g3⟩, hf5, by omega⟩
          case measure => simp [intOf]; omega
      · have : k = n := by omega
        subst this
        rw [List.take_of_length_le (by rw [HN.out]; exact Nat.le_refl _)] at hbo hmap
        have hbk : (boardOf m l).length = m ∧ ∀ x ∈ boardOf m l, x ≤ 3 := by
          unfold boardOf
          clear hbo hmap HN hok h
          have key : ∀ (l : List Act16) (b : List Nat), (b.length = m ∧ ∀ x ∈ b, x ≤ 3) → ((l.foldl (fun b y => (bNote b y.n y.r).1) b).length = m ∧ ∀ x ∈ l.foldl (fun b y => (bNote b y.n y.r).1) b, x ≤ 3) := fun l => by
            induction l with
            | nil => exact fun b hb => hb
            | cons y l ih => exact fun b hb => ih _ (bNote_keep hb)
          exact key l _ ⟨by simp, fun x hx => by have := List.eq_of_mem_replicate hx; omega⟩
        have hmf : ∀ i, mapOf m l i = (boardOf m l).getD i 0 := fun _ => rfl
        generalize boardOf m l = bd at *
        generalize mapOf m l = mf at *
        obtain ⟨hbl, hb3⟩ := hbk
        have HBL := hid hbl; clear hbl
        have hb256 : ∀ x ∈ bd, x < 256 := fun x hx => by have := hb3 x hx; omega
        have hb7 : bd.length ≤ 7 := by rw [HBL.out]; exact hm7
        have HMF := hid hmf
        have HB3 := hid hb3
        clear hmf hb3 h40 t40 hn hk hkn
        have hnd := nodes_calls wr S p bd hbo
        rw [HBL.out] at hnd
        go_wp2_with fail
        refine hnd.mono ?_
        rintro e w5 ⟨rfl, rfl⟩
        clear hnd
        obtain ⟨wo, rfl⟩ : ∃ wo : World, wo = wr := ⟨_, rfl⟩
        go_wp2_with fail
        go_loopw [13, 53] (fun v i wx => ∃ j : Nat, j ≤ m ∧ i = .int .i64 j ∧ v = .bool (allB' (bd.take j) a) ∧ Fr noB wo wx) (fun _ i _ => m - (intOf i).toNat)
        case atStart => exact ⟨0, Nat.zero_le _, rfl, rfl, Fr.refl _ _⟩
        case round =>
          obtain ⟨j, hj, rfl, rfl, hfx⟩ := hrel
          by_cases hjm : j < m
          · obtain ⟨x, hx⟩ : ∃ x, bd[j]? = some x := ⟨_, List.getElem?_eq_getElem (by rw [HBL.out]; exact hjm)⟩
            have hx256 := hb256 x (List.mem_of_getElem? hx)
            have HS := hid (allB'_snoc hx a)
            have hj256 : j < 256 := by omega
            have hxg : Hid (bd.getD j 0 = x) := by unfold Hid; rw [List.getD_eq_getElem?_getD, hx]; rfl
            have hfx2 : Hid (mf j = x) := by unfold Hid; rw [HMF.out j]; exact hxg.out
            clear hx
            have hbo2 := hbo.fr0 hfx
            have hmap2 := hmap.fr hfx id
            have hh := fun W => has_calls W x a hx256 ha
            generalize hv : hasB x a = v at *
            have HV := hid hv; clear hv
            go_wp2_with fail
            refine wp_region_calm (R := Fr noB) (C := fun _ w' => Fr noB wr w') [false, false, false, false, false, false, false, false, false]
              [eqv (.pointer (some ⟨p, 0, none⟩)), eqv (.int .i64 j), eqv (.int .u8 j), eqv (.int .u8 x), eqv (.map (some mb)), eqv (.int .i64 j), eqv (.int .u8 j), eqv (.int .u8 x), eqv (.bool false)]
              (by kernel_rfl) (by kernel_rfl) (fun _ _ _ h1 h2 => h1.then' h2) ((Fr.refl _ _).drew) ((Fr.refl _ _).drew) (by kernel_rfl) ?_ ?_
            · refine ⟨?_, ?_, ?_, ?_, ?_, ?_, ?_, ?_, ?_, trivial⟩
              · rw [if_neg (by decide)]; intro kq
                exact calm_mv 9 rfl rfl (Or.inl rfl) (Fr.refl _) (by decide) fun v w hd => hd
              · rw [if_neg (by decide)]; intro kq
                exact calm_mv 14 rfl rfl (Or.inl rfl) (Fr.refl _) (by decide) fun v w hd => hd
              · rw [if_neg (by decide)]; intro kq
                intro a W K hC hd hK
                have d57 : a.tmps[57]?.getD undef = .int .i64 j := hd 57 (by decide)
                refine wpOp_plain rfl rfl ?_
                go_wp2_with fail
                exact hK _ _ (Fr.refl _ _) hC (by show _ = _; simp <;> omega)
              · rw [if_neg (by decide)]; intro kq
                intro a W K hC hd hK
                have d56 : a.tmps[56]?.getD undef = .pointer (some ⟨p, 0, none⟩) := hd 56 (by decide)
                have d58 : a.tmps[58]?.getD undef = .int .u8 j := hd 58 (by decide)
                refine wpOp_plain rfl rfl ?_
                have hcl := ofB_calls W S p bd j (hbo2.fr0 hC) hj256
                rw [hxg.out] at hcl
                go_wp2_with fail
                refine hcl.mono ?_
                rintro e w9 ⟨rfl, rfl⟩
                exact hK _ _ (Fr.refl _ _) hC rfl
              · rw [if_neg (by decide)]; intro kq
                exact calm_mv 10 rfl rfl (Or.inl rfl) (Fr.refl _) (by decide) fun v w hd => hd
              · rw [if_neg (by decide)]; intro kq
                exact calm_mv 14 rfl rfl (Or.inl rfl) (Fr.refl _) (by decide) fun v w hd => hd
              · rw [if_neg (by decide)]; intro kq
                intro a W K hC hd hK
                have d61 : a.tmps[61]?.getD undef = .int .i64 j := hd 61 (by decide)
                refine wpOp_plain rfl rfl ?_
                go_wp2_with fail
                exact hK _ _ (Fr.refl _ _) hC (by show _ = _; simp <;> omega)
              · rw [if_neg (by decide)]; intro kq
                intro a W K hC hd hK
                have d60 : a.tmps[60]?.getD undef = .map (some mb) := hd 60 (by decide)
                have d62 : a.tmps[62]?.getD undef = .int .u8 j := hd 62 (by decide)
                refine wpOp_plain rfl rfl ?_
                have hlk := (hmap2.fr hC id).look hj256
                rw [hfx2.out] at hlk
                go_wp2_with fail
                exact hK _ _ (Fr.refl _ _) hC rfl
              · rw [if_neg (by decide)]; intro kq
                intro a W K hC hd hK
                have d59 : a.tmps[59]?.getD undef = .int .u8 x := hd 59 (by decide)
                have d63 : a.tmps[63]?.getD undef = .int .u8 x := hd 63 (by decide)
                refine wpOp_plain rfl rfl ?_
                go_wp2_with fail
                exact hK _ _ (Fr.refl _ _) hC (by show _ = _; simp)
            · intro vs w9 fw9 cw9 hV
              have v64 : vs 8 = .bool false := hV 8 _ _ rfl rfl (by decide)
              clear hV
              simp only [putL, Act.put, List.setIfInBounds_toArray, List.set_cons_zero, List.set_cons_succ, v64]
              cases hva : allB' (bd.take j) a with
              | false =>
                rw [hva, Bool.false_and] at HS
                have HVA := hid hva; clear hva
                go_wp2_with fail
                go_roundw
                case rel => exact ⟨j + 1, by omega, by go_num, by rw [HS.out], hfx.then' fw9⟩
                case measure => simp [intOf]; omega
              | true =>
                rw [hva, Bool.true_and] at HS
                have HVA := hid hva; clear hva
                have hlk := (hmap2.fr fw9 id).look hj256
                rw [hfx2.out] at hlk
                go_wp2_with fail
                refine (hh _).mono ?_
                rintro e w10 ⟨rfl, rfl⟩
                go_wp2_with fail
                go_roundw
                case rel => exact ⟨j + 1, by omega, by go_num, by rw [HS.out], hfx.then' fw9⟩
                case measure => simp [intOf]; omega
          · have : j = m := by omega
            subst this
            rw [List.take_of_length_le (by rw [HBL.out]; exact Nat.le_refl _)]
            have hbo2 := hbo.fr0 hfx
            have hall1 := fun W (f : Fr noB wr W) => all_calls W S p bd a (hbo2.fr0 f) ha hb256 hb7
            have hall2 := fun W (f : Fr noB wr W) => all_calls W S p bd b (hbo2.fr0 f) hb hb256 hb7
            have hor := or_u8 a b ha hb
            have hab : a ||| b < 256 := Nat.or_lt_two_pow (n := 8) (by omega) (by omega)
            have hall3 := fun W (f : Fr noB wr W) => all_calls W S p bd (a ||| b) (hbo2.fr0 f) hab hb256 hb7
            have HO := hid (allB'_or bd a b)
            generalize a ||| b = ab at *
            generalize allB' bd ab = xab at *
            generalize allB' bd b = xb at *
            have HF := hid (hf.then' (hfx.up0 w.heap.size))
            clear hbo hmap hb256 hb7 hf hfx hbo2
            cases hxa : allB' bd a
            all_goals
              rw [hxa] at hall1 HO
              have HXA := hid hxa; clear hxa
              go_wp2_with fail
              refine (hall1 _ (Fr.refl _ _)).mono ?_
              rintro e w5 ⟨rfl, f5⟩
              go_wp2_with fail
              refine (hall3 _ f5).mono ?_
              rintro e w6 ⟨rfl, f6⟩
              go_wp2_with fail
              refine (hall1 _ (f5.then' f6)).mono ?_
              rintro e w7 ⟨rfl, f7⟩
              go_wp2_with fail
            · have e : xab = false := by have := HO.out; simpa using this
              subst e
              go_ret
              exact ⟨rfl, (HF.out.then' (((f5.then' f6).then' f7).up0 _)).none⟩
            · have e : xab = xb := by have := HO.out; simpa using this
              subst e
              refine (hall2 _ ((f5.then' f6).then' f7)).mono ?_
              rintro e w8 ⟨rfl, f8⟩
              go_wp2_with fail
              go_ret
              exact ⟨by simp, (HF.out.then' ((((f5.then' f6).then' f7).then' f8).up0 _)).none⟩
theorem advAll_law (w : World) (a0 : Int) (w0 : (Lit.int .u8 a0).wf = true) (A : Option Addr) (n c : Nat) (l : List Act16) (o : RowAt w A (l.flatMap Act16.cells) ∧ l.length = n ∧ n ≤ c ∧ c ≤ maxLen ∧ (∀ i ∈ l, i.ok) ∧ (A = none → n = 0 ∧ c = 0))
    (a1 : Int) (w1 : (Lit.int .u8 a1).wf = true) (a2 : Int) (w2 : (Lit.int .u8 a2).wf = true) :
    Calls Try.prog 4 #[.int .u8 a0, .slice A n c, .int .u8 a1, .int .u8 a2] w (BoolPost w true) := by
  obtain ⟨u0, u1⟩ := u8_nat16 w0
  obtain ⟨u2, u3⟩ := u8_nat16 w1
  obtain ⟨u4, u5⟩ := u8_nat16 w2
  obtain ⟨n0, rfl⟩ := Int.eq_ofNat_of_zero_le u0
  obtain ⟨n1, rfl⟩ := Int.eq_ofNat_of_zero_le u2
  obtain ⟨n2, rfl⟩ := Int.eq_ofNat_of_zero_le u4
  exact advAll_walk w n0 A n c l n1 n2 (by omega) o.1 o.2.1 (Nat.le_trans o.2.2.1 o.2.2.2.1) o.2.2.2.2.1 (by omega) (by omega)
end Go.Proofs.Ytcpcmcdfncjnaaa
