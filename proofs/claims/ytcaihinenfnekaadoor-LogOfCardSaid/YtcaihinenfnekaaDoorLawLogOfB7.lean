/- What the row leans on, part 7: contracts and plain laws. -/
import Derived.Test.YtcaihinenfnekaaDoorProg
import Derived.WalkKit
import Derived.Maps.AppendAt
import Derived.Lib.AppendStr
import Derived.Laws.AppendOwnNone
import Derived.Deep.Draws
import Derived.WalkSpells
import Derived.Laws.IdiomStrings
import Derived.Lib.ConvBytes
import Derived.Lib.LaidTab
import Derived.LaidSub
import Derived.Deep.QuietTactic
import Derived.BigQuiet
import Derived.Lib.OthersKept
import Derived.Laws.RangeAny
import Derived.LaidEqlPtr
import Derived.Laws.StructEq
import Derived.Deep.Light
import Derived.Laws.Bits64b
import Derived.Laws.ResultCell
import Derived.Deep.RegionHeld3
import Derived.Deep.Cut
import Derived.SliceStrings
import Derived.Deep.Slices
import Derived.ProofKit
import Derived.Test.YtcaihinenfnekaaDoorLawLogOfB6
/- interrexlaw20.LogOf: the walk. -/
namespace Go.Proofs.YtcaihinenfnekaaDoor
open Go.RowKit
open Classical in
theorem own_clash {b : Nat} {L : List EnV} (h : GoodL b L) : L.any (clashB b L) = false := by
  rw [List.any_eq_false]
  intro e he
  obtain ⟨i, hi, rfl⟩ := List.mem_iff_getElem.1 he
  have hg : L[i]? = some L[i] := List.getElem?_eq_getElem hi
  have ho := h.op i _ hg
  have hat : atV b L (L[i]).op = some L[i] := by
    unfold atV lastL
    rw [if_neg (by omega), show (L[i]).op - b - 1 = i from by omega, hg]
  unfold clashB
  rw [hat]
  simp
def RefS2 (m : Nat) (M : List EnV) : Stb (Fr noB) := ⟨fun v W => ∃ A c, v = .slice A m c ∧ RefA W A m c M, fun _ _ _ ⟨A, c, h1, h2⟩ f => ⟨A, c, h1, h2.fr0 f⟩⟩
def okE (e : EnV) : Bool := decide (e.o.a.size ≤ 200) && decide (e.o.b.size ≤ 200)
set_option maxRecDepth 100000 in
set_option maxHeartbeats 3200000 in
theorem logOf_walk (w : World) (ht : SignsAt w) (b : Nat) (A B : Option Addr) (n c m d : Nat) (L M : List EnV) (hb : b < 18446744073709551616) (hr1 : RowAt w A (L.flatMap EnV.C)) (HN : Hid (L.length = n)) (hnc : n ≤ c) (hnm : n ≤ 9223372036854775807) (hA : A = none → n = 0 ∧ c = 0) (hwf : ∀ e ∈ L, e.wf)
    (hr2 : RowAt w B (M.flatMap EnV.C)) (HM : Hid (M.length = m)) (hmd : m ≤ d) (hmm : m ≤ 9223372036854775807) (hB : B = none → m = 0 ∧ d = 0) (hwf2 : ∀ e ∈ M, e.wf) :
    Calls Tryd.prog 6 #[.int .u64 b, .slice A n c, .slice B m d] w (BoolPost w true) := by
  by_cases h40 : 40 < n ∨ 40 < m
  · obtain ⟨c1, hc1⟩ : ∃ c, decide ((40 : Int) < n) = c := ⟨_, rfl⟩
    have hc2 : c1 = false → decide ((40 : Int) < m) = true := fun h => by
      rw [h, decide_eq_false_iff_not] at hc1
      exact decide_eq_true (by omega)
    clear h40 hr1 hr2
    cases c1
    all_goals
      first | (replace hc2 := hc2 rfl) | clear hc2
      go_enter Tryd.func6, Tryd.ntmps6
      go_wp2_with fail
      refine (lives20_calls w ht).mono ?_
      rintro e w1 ⟨rfl, f1⟩
      go_wp2_with fail
      refine (lives20_calls w1 (ht.fr0 f1)).mono ?_
      rintro e w2 ⟨rfl, f2⟩
      go_wp2_with fail
      go_ret
      exact BoolPost.mk' rfl (f1.then' f2)
  · have t1 : decide ((40 : Int) < n) = false := decide_eq_false (by omega)
    have t2 : decide ((40 : Int) < m) = false := decide_eq_false (by omega)
    have hl1 := flatE_length L
    have hl2 := flatE_length M
    rw [HN.out] at hl1
    rw [HM.out] at hl2
    have ho1 := flatE_one L
    have ho2 := flatE_one M
    have hn40 : n ≤ 40 ∧ m ≤ 40 := by omega
    have hLM : Hid ((L ++ M).flatMap EnV.C = L.flatMap EnV.C ++ M.flatMap EnV.C) := by unfold Hid; simp
    have HLM : Hid ((L ++ M).length = n + m) := by unfold Hid; rw [List.length_append, HN.out, HM.out]
    clear h40
    go_enter Tryd.func6, Tryd.ntmps6
    go_wp2_with fail
    refine (lives20_calls w ht).mono ?_
    rintro e w1 ⟨rfl, f1⟩
    have hown0 : (w1.alloc (.cells #[] 42)).ownsRow 0 42 9 (.slice (some ⟨w1.heap.size, 0, none⟩) 0 0) 0 [] := World.ownsRow_made w1 #[] 0 (Nat.zero_le _) (by unfold maxLen; omega) rfl
    have Fa : Fr noB w (w1.alloc (.cells #[] 42)) := f1.alloc _
    have hs1 := f1.size
    have hra := hr1.fr0 Fa
    clear f1
    go_wp2_with (at_builtin; refine wpList_app Tryd.appE rfl (.tmp 26) (.tmp 27) rfl _ 0 [] rfl hown0 A n c (L.flatMap EnV.C) rfl hl1 hra ho1 hA (by omega) (by omega) ?_)
    intro A3 c3 w3 hown3 hg3 hat3
    have F3 : Fr noB w w3 := Fr.grown Fa hg3 (fun g hg => Or.inr (by simp [Value.ownBlock] at hg; omega))
    have hb3 : ∀ g, (Value.slice A3 n c3).ownBlock = some g → w.heap.size ≤ g := fun g hg => by
      rcases hat3 with e | e
      · rw [hg] at e; simp [Value.ownBlock] at e; omega
      · rw [hg] at e; simp at e; omega
    have hrb := hr2.fr0 F3
    clear hg3 hat3 hown0 Fa hra
    go_wp2_with (at_builtin; refine wpList_app Tryd.appE rfl (.tmp 28) (.tmp 29) rfl _ n (L.flatMap EnV.C) rfl hown3 B m d (M.flatMap EnV.C) rfl hl2 hrb ho2 hB (by omega) (by omega) ?_)
    intro A4 c4 w4 hown4 hg4 hat4
    have F4 : Fr noB w w4 := Fr.grown F3 hg4 (fun g hg => Or.inr (hb3 g hg))
    have hr4 := own_row hown4
    rw [← hLM.out] at hr4
    clear hg4 hat4 hown3 hrb hb3 F3 hown4
    have hwfs : ∀ e ∈ L ++ M, e.wf := fun e he => by
      rcases List.mem_append.1 he with h | h
      · exact hwf e h
      · exact hwf2 e h
    have hsLM : ∀ e, e ∈ L → e ∈ L ++ M := fun e he => List.mem_append.2 (Or.inl he)
    obtain ⟨LM, hLMe⟩ : ∃ LM, L ++ M = LM := ⟨_, rfl⟩
    rw [hLMe] at hr4 HLM hwfs hsLM
    obtain ⟨nm, hnme⟩ : ∃ nm, n + m = nm := ⟨_, rfl⟩
    rw [hnme] at HLM
    have hni : (n : Int) + m = nm := by omega
    have hnm80 : nm ≤ 80 := by omega
    rw [hnme]
    clear hLM hLMe hnme
    go_wp2_with fail
    go_loopw [32] (fun i wr => ∃ j : Nat, j ≤ nm ∧ i = .int .i64 j ∧ (LM.take j).all okE = true ∧ Fr noB w4 wr) (fun i _ => nm - (intOf i).toNat)
    case atStart => exact ⟨0, Nat.zero_le _, rfl, by simp, Fr.refl _ _⟩
    case round =>
      obtain ⟨j, hj, rfl, hall, hf⟩ := hrel
      by_cases hjn : j < nm
      · obtain ⟨e, he⟩ : ∃ e, LM[j]? = some e := ⟨_, List.getElem?_eq_getElem (by rw [HLM.out]; exact hjn)⟩
        obtain ⟨ad, rfl⟩ := hr4.some_flat (by simp [EnV.C]) he
        obtain ⟨z0, z1, z2, z3, z4, z5, z6, z7, z8⟩ := ((hr4.seg 9 (fun _ => rfl) he).fr hf id).c9
        have HT : Hid ((LM.take (j + 1)).all okE = okE e) := by unfold Hid; rw [take_snoc' he, List.all_append, hall]; simp
        have HS : Hid (okE e = (decide (e.o.a.size ≤ 200) && decide (e.o.b.size ≤ 200))) := rfl
        have fa : Fr noB wr (wr.alloc (.cells e.C.toArray 42)) := (Fr.refl noB wr).alloc _
        have hba : BlkAt (wr.alloc (.cells e.C.toArray 42)) wr.heap.size 42 e.C.toArray := BlkAt.new _ _ _
        have hF := hf.then' fa
        generalize okE e = ok at *
        obtain ⟨op, view, cl, num, ⟨k, oa, ob, on, or⟩⟩ := e
        unfold EnV.C at fa hba hF
        simp only [] at *
        clear he hall
        go_upto_region 6 with fail
        generalize hwb : (wr.alloc (.cells #[.int .u64 op, .int .u64 view, .int .u8 cl, .int .u64 num, .int .u8 k, .string oa, .string ob, .int .u8 on, .int .u8 or] 42)) = wb at *
        clear hwb z0 z1 z2 z3 z4 z5 z6 z7 z8
        obtain ⟨z0, z1, z2, z3, z4, z5, z6, z7, z8, zf⟩ := BlkAt.c9 hba
        obtain ⟨c1, hc1⟩ : ∃ c, decide ((200 : Int) < oa.size) = c := ⟨_, rfl⟩
        obtain ⟨c2, hc2⟩ : ∃ c, decide ((200 : Int) < ob.size) = c := ⟨_, rfl⟩
        have e1 : decide (oa.size ≤ 200) = !c1 := by rw [← hc1]; by_cases h : oa.size ≤ 200 <;> simp [h] <;> omega
        have e2 : decide (ob.size ≤ 200) = !c2 := by rw [← hc2]; by_cases h : ob.size ≤ 200 <;> simp [h] <;> omega
        rw [e1, e2] at HS
        clear e1 e2
        cases c1 <;> cases c2
        · go_wp2_with fail
          go_roundw
          case rel => exact ⟨j + 1, by omega, by go_num, by rw [HT.out, HS.out]; rfl, hF⟩
          case measure => simp [intOf]; omega
        all_goals
          go_wp2_with fail
          go_ret
          exact BoolPost.mk' rfl (F4.then' hF)
      · have : j = nm := by omega
        subst this
        rw [List.take_of_length_le (by rw [HLM.out]; exact Nat.le_refl _)] at hall
        have hsz : ∀ e ∈ L, e.o.a.size ≤ 1000000000000 ∧ e.o.b.size ≤ 1000000000000 := fun e he => by
          have := List.all_eq_true.1 hall e (hsLM e he)
          unfold okE at this
          simp only [Bool.and_eq_true, decide_eq_true_eq] at this
          omega
        have F5 := F4.then' hf
        clear hall hr4 hsLM HLM hwfs F4 hf
        have hL5 := ofL_calls wr b n c A L (ht.fr0 F5) (hr1.fr0 F5) HN hnm hwf hsz
        have hrf := fun W (f : Fr noB w W) => refs_calls W n c A L (hr1.fr0 f) HN (by omega)
        have hrf2 := fun W (f : Fr noB w W) => refs_calls W m d B M (hr2.fr0 f) HM (by omega)
        have hRO := fun W A1 c1 (h1 : RefA W A1 n c1 L) => ofR_calls W b n c1 A1 L h1 (by omega) hwf hsz
        have hOK := fun x h => ofL_ok (b := b) (L := L) (x := x) h hwf
        generalize ofL b L = res at *
        obtain ⟨es, r⟩ := res
        unfold OfLPost at hL5
        unfold ROfPost at hRO
        simp only [] at hL5 hRO
        go_wp2_with fail
        refine hL5.mono ?_
        clear hL5
        rintro ed w6 ⟨f6, hcase⟩
        have F6 := F5.then' f6
        clear F5
        by_cases hr0 : r = 0
        · rw [if_pos hr0] at hcase
          subst hr0
          obtain ⟨p, rfl, hLg⟩ := hcase
          obtain ⟨rfl, hG⟩ := hOK es rfl
          go_wp2_with fail
          refine (hrf w6 F6).mono ?_
          rintro ed w7 ⟨A7, n7, c7, rfl, hn7, hO7, f7⟩
          obtain rfl : n7 = n := by rw [← hn7.out, HN.out]
          have F7 := F6.then' f7
          go_wp2_with fail
          refine (hRO w7 A7 c7 (RefA.of_own hn7 hO7)).mono ?_
          rintro ed w8 ⟨A8, n8, c8, b8, rfl, hR8, hb8, f8⟩
          obtain rfl : b8 = b := hb8 (by trivial)
          obtain rfl : n8 = n7 := by rw [← hR8.len.out, HN.out]
          have F8 := F7.then' f8
          have hLg8 := (hLg.fr0 f7).fr0 f8
          clear hrf hRO hO7 f7 F7 hLg F6 f6 hOK hb8 f8
          have fn : Fr noB w8 (w8.alloc (.cells #[.int .u64 b8, .slice A8 n8 c8] 54)) := (Fr.refl noB w8).alloc _
          have hb11 : BlkAt (w8.alloc (.cells #[.int .u64 b8, .slice A8 n8 c8] 54)) w8.heap.size 54 #[.int .u64 b8, .slice A8 n8 c8] := BlkAt.new _ _ _
          have hR9 := hR8.fr0 fn
          have hL9 := hLg8.fr0 fn
          have F9 := F8.then' fn
          clear hR8 hLg8 F8 fn
          go_upto_region 11 with fail
          generalize hw9 : (w8.alloc (.cells #[.int .u64 b8, .slice A8 n8 c8] 54)) = w9 at *
          clear hw9
          obtain ⟨q, hq⟩ : ∃ q, w8.heap.size = q := ⟨_, rfl⟩
          rw [hq] at hb11 ⊢
          clear hq
          have hag1 := fun W (f : Fr noB w9 W) => agreeL_calls W _ p b8 n8 c A es es (hL9.fr0 f) hG (hr1.fr0 (F9.then' f)) HN hnm hwf
          have hag2 := fun W (f : Fr noB w9 W) => agreeL_calls W _ p b8 m d B es M (hL9.fr0 f) hG (hr2.fr0 (F9.then' f)) HM hmm hwf2
          have hsm := fun W (f : Fr noB w9 W) => same20_calls W _ p b8 n8 c8 A8 es (hL9.fr0 f) hG (hR9.fr0 f)
          have hagr := fun W A1 c1 (f : Fr noB w9 W) (h1 : RefA W A1 m c1 M) => agreeR_calls W b8 n8 c8 m c1 A8 A1 es M (hR9.fr0 f) hG h1 hmm
          rw [own_clash hG] at hag1
          obtain ⟨v, hv⟩ : ∃ v, (!M.any (clashB b8 es)) = v := ⟨_, rfl⟩
          rw [hv] at hag2 hagr
          have hvv : (v == v) = true := by simp
          clear hv hL9
          go_wp2_with fail
          apply wp_region_calm (R := Fr noB) (C := fun _ W => Fr noB w9 W) [false, false, false, false, false, false, false, false, false, false, false, false, false, false, false, false, false, false, false, false, false, false, false]
            [eqv _, eqv (.bool true), eqv (.bool true), eqv _, eqv _, eqv (.bool true), eqv (.bool true), eqv (.bool true), eqv _, eqv _, eqv (.bool true), eqv (.bool true), eqv (.bool true), eqv _, eqv _, eqv (.bool v), eqv _, eqv _, RefS2 m M, eqv (.bool v), eqv (.bool true), eqv (.bool true), eqv (.bool true)]
            (by kernel_rfl) (by kernel_rfl) (fun _ _ _ h1 h2 => h1.then' h2) ((Fr.refl _ _).drew) ((Fr.refl _ _).drew) (by kernel_rfl)
          · refine ⟨?_, ?_, ?_, ?_, ?_, ?_, ?_, ?_, ?_, ?_, ?_, ?_, ?_, ?_, ?_, ?_, ?_, ?_, ?_, ?_, ?_, ?_, ?_, trivial⟩
            · rw [if_neg (by decide)]; intro kq
              exact calm_mv 9 rfl rfl (Or.inl rfl) (Fr.refl _) (by decide) fun v w hd => hd
            · rw [if_neg (by decide)]; intro kq
              intro a W K hC hd hK
              have d71 : _ = _ := hd 71 (by decide)
              refine wpOp_plain rfl rfl ?_
              go_wp2_with fail
              exact hK _ _ (Fr.refl _ _) hC rfl
            · rw [if_neg (by decide)]; intro kq
              exact calm_mv 72 rfl rfl (Or.inl rfl) (Fr.refl _) (by decide) fun v w hd => hd
            · rw [if_neg (by decide)]; intro kq
              intro a W K hC hd hK
              have d9 : a.tmps[9]?.getD undef = .pointer (some ⟨p, 0, none⟩) := hd 9 (by decide)
              have d73 : a.tmps[73]?.getD undef = .bool true := hd 73 (by decide)
              first | (exact wpOp_skip rfl (wanted_of (want := true) (b := false) rfl rfl (by rw [eval_get]; exact d73)) (hK _ _ (Fr.refl _ _) hC rfl)) | (refine wpOp_want rfl (wanted_of (want := true) (b := true) rfl rfl (by rw [eval_get]; exact d73)) ?_)
              all_goals (
                go_wp2_with fail
                exact hK _ _ (Fr.refl _ _) hC rfl)
            · rw [if_neg (by decide)]; intro kq
              intro a W K hC hd hK
              have d11 : a.tmps[11]?.getD undef = .pointer (some ⟨q, 0, none⟩) := hd 11 (by decide)
              have d73 : a.tmps[73]?.getD undef = .bool true := hd 73 (by decide)
              first | (exact wpOp_skip rfl (wanted_of (want := true) (b := false) rfl rfl (by rw [eval_get]; exact d73)) (hK _ _ (Fr.refl _ _) hC rfl)) | (refine wpOp_want rfl (wanted_of (want := true) (b := true) rfl rfl (by rw [eval_get]; exact d73)) ?_)
              all_goals (
                obtain ⟨x0, x1, xf⟩ := BlkAt.c2 (hb11.fr hC id)
                go_wp2_with fail
                exact hK _ _ (Fr.refl _ _) hC rfl)
            · rw [if_neg (by decide)]; intro kq
              intro a W K hC hd hK
              have d74 : _ = _ := hd 74 (by decide)
              have d75 : _ = _ := hd 75 (by decide)
              have d73 : a.tmps[73]?.getD undef = .bool true := hd 73 (by decide)
              first | (exact wpOp_skip rfl (wanted_of (want := true) (b := false) rfl rfl (by rw [eval_get]; exact d73)) (hK _ _ (Fr.refl _ _) hC rfl)) | (refine wpOp_want rfl (wanted_of (want := true) (b := true) rfl rfl (by rw [eval_get]; exact d73)) ?_)
              all_goals (
                obtain ⟨x0, x1, xf⟩ := BlkAt.c2 (hb11.fr hC id)
                go_wp2_with fail
                refine (hsm W hC).mono ?_
                rintro e9 w9 ⟨rfl, f9⟩
                exact hK _ _ f9 (hC.then' f9) rfl)
            · rw [if_neg (by decide)]; intro kq
              intro a W K hC hd hK
              have d73 : a.tmps[73]?.getD undef = .bool true := hd 73 (by decide)
              have d76 : a.tmps[76]?.getD undef = .bool true := hd 76 (by decide)
              refine wpOp_plain rfl rfl ?_
              go_wp2_with fail
              exact hK _ _ (Fr.refl _ _) hC rfl
            · rw [if_neg (by decide)]; intro kq
              exact calm_mv 77 rfl rfl (Or.inl rfl) (Fr.refl _) (by decide) fun v w hd => hd
            · rw [if_neg (by decide)]; intro kq
              intro a W K hC hd hK
              have d9 : a.tmps[9]?.getD undef = .pointer (some ⟨p, 0, none⟩) := hd 9 (by decide)
              have d78 : a.tmps[78]?.getD undef = .bool true := hd 78 (by decide)
              first | (exact wpOp_skip rfl (wanted_of (want := true) (b := false) rfl rfl (by rw [eval_get]; exact d78)) (hK _ _ (Fr.refl _ _) hC rfl)) | (refine wpOp_want rfl (wanted_of (want := true) (b := true) rfl rfl (by rw [eval_get]; exact d78)) ?_)
              all_goals (
                go_wp2_with fail
                exact hK _ _ (Fr.refl _ _) hC rfl)
            · rw [if_neg (by decide)]; intro kq
              intro a W K hC hd hK
              have d1 : a.tmps[1]?.getD undef = .slice A n8 c := hd 1 (by decide)
              have d78 : a.tmps[78]?.getD undef = .bool true := hd 78 (by decide)
              first | (exact wpOp_skip rfl (wanted_of (want := true) (b := false) rfl rfl (by rw [eval_get]; exact d78)) (hK _ _ (Fr.refl _ _) hC rfl)) | (refine wpOp_want rfl (wanted_of (want := true) (b := true) rfl rfl (by rw [eval_get]; exact d78)) ?_)
              all_goals (
                go_wp2_with fail
                exact hK _ _ (Fr.refl _ _) hC rfl)
            · rw [if_neg (by decide)]; intro kq
              intro a W K hC hd hK
              have d79 : _ = _ := hd 79 (by decide)
              have d80 : _ = _ := hd 80 (by decide)
              have d78 : a.tmps[78]?.getD undef = .bool true := hd 78 (by decide)
              first | (exact wpOp_skip rfl (wanted_of (want := true) (b := false) rfl rfl (by rw [eval_get]; exact d78)) (hK _ _ (Fr.refl _ _) hC rfl)) | (refine wpOp_want rfl (wanted_of (want := true) (b := true) rfl rfl (by rw [eval_get]; exact d78)) ?_)
              all_goals (
                obtain ⟨x0, x1, xf⟩ := BlkAt.c2 (hb11.fr hC id)
                go_wp2_with fail
                refine (hag1 W hC).mono ?_
                rintro e9 w9 ⟨rfl, f9⟩
                exact hK _ _ f9 (hC.then' f9) rfl)
            · rw [if_neg (by decide)]; intro kq
              intro a W K hC hd hK
              have d78 : a.tmps[78]?.getD undef = .bool true := hd 78 (by decide)
              have d81 : a.tmps[81]?.getD undef = .bool true := hd 81 (by decide)
              refine wpOp_plain rfl rfl ?_
              go_wp2_with fail
              exact hK _ _ (Fr.refl _ _) hC rfl
            · rw [if_neg (by decide)]; intro kq
              exact calm_mv 82 rfl rfl (Or.inl rfl) (Fr.refl _) (by decide) fun v w hd => hd
            · rw [if_neg (by decide)]; intro kq
              intro a W K hC hd hK
              have d9 : a.tmps[9]?.getD undef = .pointer (some ⟨p, 0, none⟩) := hd 9 (by decide)
              have d83 : a.tmps[83]?.getD undef = .bool true := hd 83 (by decide)
              first | (exact wpOp_skip rfl (wanted_of (want := true) (b := false) rfl rfl (by rw [eval_get]; exact d83)) (hK _ _ (Fr.refl _ _) hC rfl)) | (refine wpOp_want rfl (wanted_of (want := true) (b := true) rfl rfl (by rw [eval_get]; exact d83)) ?_)
              all_goals (
                go_wp2_with fail
                exact hK _ _ (Fr.refl _ _) hC rfl)
            · rw [if_neg (by decide)]; intro kq
              intro a W K hC hd hK
              have d2 : a.tmps[2]?.getD undef = .slice B m d := hd 2 (by decide)
              have d83 : a.tmps[83]?.getD undef = .bool true := hd 83 (by decide)
              first | (exact wpOp_skip rfl (wanted_of (want := true) (b := false) rfl rfl (by rw [eval_get]; exact d83)) (hK _ _ (Fr.refl _ _) hC rfl)) | (refine wpOp_want rfl (wanted_of (want := true) (b := true) rfl rfl (by rw [eval_get]; exact d83)) ?_)
              all_goals (
                go_wp2_with fail
                exact hK _ _ (Fr.refl _ _) hC rfl)
            · rw [if_neg (by decide)]; intro kq
              intro a W K hC hd hK
              have d84 : _ = _ := hd 84 (by decide)
              have d85 : _ = _ := hd 85 (by decide)
              have d83 : a.tmps[83]?.getD undef = .bool true := hd 83 (by decide)
              first | (exact wpOp_skip rfl (wanted_of (want := true) (b := false) rfl rfl (by rw [eval_get]; exact d83)) (hK _ _ (Fr.refl _ _) hC rfl)) | (refine wpOp_want rfl (wanted_of (want := true) (b := true) rfl rfl (by rw [eval_get]; exact d83)) ?_)
              all_goals (
                obtain ⟨x0, x1, xf⟩ := BlkAt.c2 (hb11.fr hC id)
                go_wp2_with fail
                refine (hag2 W hC).mono ?_
                rintro e9 w9 ⟨rfl, f9⟩
                exact hK _ _ f9 (hC.then' f9) rfl)
            · rw [if_neg (by decide)]; intro kq
              intro a W K hC hd hK
              have d11 : a.tmps[11]?.getD undef = .pointer (some ⟨q, 0, none⟩) := hd 11 (by decide)
              have d83 : a.tmps[83]?.getD undef = .bool true := hd 83 (by decide)
              first | (exact wpOp_skip rfl (wanted_of (want := true) (b := false) rfl rfl (by rw [eval_get]; exact d83)) (hK _ _ (Fr.refl _ _) hC rfl)) | (refine wpOp_want rfl (wanted_of (want := true) (b := true) rfl rfl (by rw [eval_get]; exact d83)) ?_)
              all_goals (
                obtain ⟨x0, x1, xf⟩ := BlkAt.c2 (hb11.fr hC id)
                go_wp2_with fail
                exact hK _ _ (Fr.refl _ _) hC rfl)
            · rw [if_neg (by decide)]; intro kq
              intro a W K hC hd hK
              have d2 : a.tmps[2]?.getD undef = .slice B m d := hd 2 (by decide)
              have d83 : a.tmps[83]?.getD undef = .bool true := hd 83 (by decide)
              first | (exact wpOp_skip rfl (wanted_of (want := true) (b := false) rfl rfl (by rw [eval_get]; exact d83)) (hK _ _ (Fr.refl _ _) hC rfl)) | (refine wpOp_want rfl (wanted_of (want := true) (b := true) rfl rfl (by rw [eval_get]; exact d83)) ?_)
              all_goals (
                go_wp2_with fail
                exact hK _ _ (Fr.refl _ _) hC rfl)
            · rw [if_neg (by decide)]; intro kq
              intro a W K hC hd hK
              have d88 : _ = _ := hd 88 (by decide)
              have d83 : a.tmps[83]?.getD undef = .bool true := hd 83 (by decide)
              first | (exact wpOp_skip rfl (wanted_of (want := true) (b := false) rfl rfl (by rw [eval_get]; exact d83)) (hK _ _ (Fr.refl _ _) hC rfl)) | (refine wpOp_want rfl (wanted_of (want := true) (b := true) rfl rfl (by rw [eval_get]; exact d83)) ?_)
              all_goals (
                obtain ⟨x0, x1, xf⟩ := BlkAt.c2 (hb11.fr hC id)
                go_wp2_with fail
                refine (hrf2 W (F9.then' hC)).mono ?_
                rintro e9 w9 ⟨A9, n9, c9, rfl, hn9, h9, f9⟩
                exact hK _ _ f9 (hC.then' f9) ⟨A9, c9, by rw [show n9 = m from by rw [← hn9.out, HM.out]], by rw [← show n9 = m from by rw [← hn9.out, HM.out]]; exact RefA.of_own hn9 h9⟩)
            · rw [if_neg (by decide)]; intro kq
              intro a W K hC hd hK
              have d87 : _ = _ := hd 87 (by decide)
              have d89 : (RefS2 m M).V (a.tmps[89]?.getD undef) W := hd 89 (by decide)
              have d83 : a.tmps[83]?.getD undef = .bool true := hd 83 (by decide)
              first | (exact wpOp_skip rfl (wanted_of (want := true) (b := false) rfl rfl (by rw [eval_get]; exact d83)) (hK _ _ (Fr.refl _ _) hC rfl)) | (refine wpOp_want rfl (wanted_of (want := true) (b := true) rfl rfl (by rw [eval_get]; exact d83)) ?_)
              all_goals (
                obtain ⟨x0, x1, xf⟩ := BlkAt.c2 (hb11.fr hC id)
                obtain ⟨A9, c9, d89, h9⟩ := d89
                go_wp2_with fail
                refine (hagr W A9 c9 hC h9).mono ?_
                rintro e9 w9 ⟨rfl, f9⟩
                exact hK _ _ f9 (hC.then' f9) rfl)
            · rw [if_neg (by decide)]; intro kq
              intro a W K hC hd hK
              have d86 : a.tmps[86]?.getD undef = .bool v := hd 86 (by decide)
              have d90 : a.tmps[90]?.getD undef = .bool v := hd 90 (by decide)
              have d83 : a.tmps[83]?.getD undef = .bool true := hd 83 (by decide)
              first | (exact wpOp_skip rfl (wanted_of (want := true) (b := false) rfl rfl (by rw [eval_get]; exact d83)) (hK _ _ (Fr.refl _ _) hC rfl)) | (refine wpOp_want rfl (wanted_of (want := true) (b := true) rfl rfl (by rw [eval_get]; exact d83)) ?_)
              all_goals (
                go_wp2_with fail
                exact hK _ _ (Fr.refl _ _) hC rfl)
            · rw [if_neg (by decide)]; intro kq
              intro a W K hC hd hK
              have d83 : a.tmps[83]?.getD undef = .bool true := hd 83 (by decide)
              have d91 : a.tmps[91]?.getD undef = .bool true := hd 91 (by decide)
              refine wpOp_plain rfl rfl ?_
              go_wp2_with fail
              exact hK _ _ (Fr.refl _ _) hC rfl
            · rw [if_neg (by decide)]; intro kq
              exact calm_mv 92 rfl rfl (Or.inr rfl) (Fr.refl _) (by decide) fun v w hd => hd
          · intro vs w10 fw10 cw10 hV
            have v71 : vs 0 = _ := hV 0 _ _ rfl rfl (by decide)
            have v72 : vs 1 = .bool true := hV 1 _ _ rfl rfl (by decide)
            have v73 : vs 2 = .bool true := hV 2 _ _ rfl rfl (by decide)
            have v74 : vs 3 = _ := hV 3 _ _ rfl rfl (by decide)
            have v75 : vs 4 = _ := hV 4 _ _ rfl rfl (by decide)
            have v76 : vs 5 = .bool true := hV 5 _ _ rfl rfl (by decide)
            have v77 : vs 6 = .bool true := hV 6 _ _ rfl rfl (by decide)
            have v78 : vs 7 = .bool true := hV 7 _ _ rfl rfl (by decide)
            have v79 : vs 8 = _ := hV 8 _ _ rfl rfl (by decide)
            have v80 : vs 9 = _ := hV 9 _ _ rfl rfl (by decide)
            have v81 : vs 10 = .bool true := hV 10 _ _ rfl rfl (by decide)
            have v82 : vs 11 = .bool true := hV 11 _ _ rfl rfl (by decide)
            have v83 : vs 12 = .bool true := hV 12 _ _ rfl rfl (by decide)
            have v84 : vs 13 = _ := hV 13 _ _ rfl rfl (by decide)
            have v85 : vs 14 = _ := hV 14 _ _ rfl rfl (by decide)
            have v86 : vs 15 = .bool v := hV 15 _ _ rfl rfl (by decide)
            have v87 : vs 16 = _ := hV 16 _ _ rfl rfl (by decide)
            have v88 : vs 17 = _ := hV 17 _ _ rfl rfl (by decide)
            have v89 : (RefS2 m M).V (vs 18) w10 := hV 18 _ _ rfl rfl (by decide)
            have v90 : vs 19 = .bool v := hV 19 _ _ rfl rfl (by decide)
            have v91 : vs 20 = .bool true := hV 20 _ _ rfl rfl (by decide)
            have v92 : vs 21 = .bool true := hV 21 _ _ rfl rfl (by decide)
            have v6 : vs 22 = .bool true := hV 22 _ _ rfl rfl (by decide)
            clear hV
            simp only [putL, Act.put, Nat.reduceAdd, List.setIfInBounds_toArray, List.set_cons_zero, List.set_cons_succ, v71, v72, v73, v74, v75, v76, v77, v78, v79, v80, v81, v82, v83, v84, v85, v86, v87, v88, v90, v91, v92, v6]
            go_wp2_with fail
            go_ret
            exact BoolPost.mk' rfl (F9.then' fw10)
        · rw [if_neg hr0] at hcase
          subst hcase
          clear hOK
          go_wp2_with fail
          refine (hrf w6 F6).mono ?_
          rintro ed w7 ⟨A7, n7, c7, rfl, hn7, hO7, f7⟩
          obtain rfl : n7 = n := by rw [← hn7.out, HN.out]
          have F7 := F6.then' f7
          go_wp2_with fail
          refine (hRO w7 A7 c7 (RefA.of_own hn7 hO7)).mono ?_
          rintro ed w8 ⟨A8, n8, c8, b8, rfl, hR8, _, f8⟩
          have F8 := F7.then' f8
          have F9 := fun o => F8.alloc o
          have t3 : ((r : Int) != 0) = true := by rw [bne_iff_ne]; omega
          clear hrf hRO hO7 f7 F7 F6 f6 f8 F8
          go_wp2_with fail
          go_ret
          exact BoolPost.mk' rfl (F9 _)
end Go.Proofs.YtcaihinenfnekaaDoor
/- Arguments that are read as data, as rows in memory. -/
namespace Go.Proofs.YtcaihinenfnekaaDoor
open Go.RowKit Go.ChangeShapes Go.WideShapes

theorem list1 {α : Type} {l : List α} (h : l.length = 1) : ∃ a0, l = [a0] :=
  match l, h with | [a0], _ => ⟨a0, rfl⟩
theorem list2 {α : Type} {l : List α} (h : l.length = 2) : ∃ a0 a1, l = [a0, a1] :=
  match l, h with | [a0, a1], _ => ⟨a0, a1, rfl⟩
theorem list3 {α : Type} {l : List α} (h : l.length = 3) : ∃ a0 a1 a2, l = [a0, a1, a2] :=
  match l, h with | [a0, a1, a2], _ => ⟨a0, a1, a2, rfl⟩
theorem list4 {α : Type} {l : List α} (h : l.length = 4) : ∃ a0 a1 a2 a3, l = [a0, a1, a2, a3] :=
  match l, h with | [a0, a1, a2, a3], _ => ⟨a0, a1, a2, a3, rfl⟩
theorem list5 {α : Type} {l : List α} (h : l.length = 5) : ∃ a0 a1 a2 a3 a4, l = [a0, a1, a2, a3, a4] :=
  match l, h with | [a0, a1, a2, a3, a4], _ => ⟨a0, a1, a2, a3, a4, rfl⟩
theorem list6 {α : Type} {l : List α} (h : l.length = 6) : ∃ a0 a1 a2 a3 a4 a5, l = [a0, a1, a2, a3, a4, a5] :=
  match l, h with | [a0, a1, a2, a3, a4, a5], _ => ⟨a0, a1, a2, a3, a4, a5, rfl⟩
theorem list7 {α : Type} {l : List α} (h : l.length = 7) : ∃ a0 a1 a2 a3 a4 a5 a6, l = [a0, a1, a2, a3, a4, a5, a6] :=
  match l, h with | [a0, a1, a2, a3, a4, a5, a6], _ => ⟨a0, a1, a2, a3, a4, a5, a6, rfl⟩
theorem list8 {α : Type} {l : List α} (h : l.length = 8) : ∃ a0 a1 a2 a3 a4 a5 a6 a7, l = [a0, a1, a2, a3, a4, a5, a6, a7] :=
  match l, h with | [a0, a1, a2, a3, a4, a5, a6, a7], _ => ⟨a0, a1, a2, a3, a4, a5, a6, a7, rfl⟩
theorem list9 {α : Type} {l : List α} (h : l.length = 9) : ∃ a0 a1 a2 a3 a4 a5 a6 a7 a8, l = [a0, a1, a2, a3, a4, a5, a6, a7, a8] :=
  match l, h with | [a0, a1, a2, a3, a4, a5, a6, a7, a8], _ => ⟨a0, a1, a2, a3, a4, a5, a6, a7, a8, rfl⟩
theorem list10 {α : Type} {l : List α} (h : l.length = 10) : ∃ a0 a1 a2 a3 a4 a5 a6 a7 a8 a9, l = [a0, a1, a2, a3, a4, a5, a6, a7, a8, a9] :=
  match l, h with | [a0, a1, a2, a3, a4, a5, a6, a7, a8, a9], _ => ⟨a0, a1, a2, a3, a4, a5, a6, a7, a8, a9, rfl⟩
theorem list11 {α : Type} {l : List α} (h : l.length = 11) : ∃ a0 a1 a2 a3 a4 a5 a6 a7 a8 a9 a10, l = [a0, a1, a2, a3, a4, a5, a6, a7, a8, a9, a10] :=
  match l, h with | [a0, a1, a2, a3, a4, a5, a6, a7, a8, a9, a10], _ => ⟨a0, a1, a2, a3, a4, a5, a6, a7, a8, a9, a10, rfl⟩
theorem list12 {α : Type} {l : List α} (h : l.length = 12) : ∃ a0 a1 a2 a3 a4 a5 a6 a7 a8 a9 a10 a11, l = [a0, a1, a2, a3, a4, a5, a6, a7, a8, a9, a10, a11] :=
  match l, h with | [a0, a1, a2, a3, a4, a5, a6, a7, a8, a9, a10, a11], _ => ⟨a0, a1, a2, a3, a4, a5, a6, a7, a8, a9, a10, a11, rfl⟩
theorem list13 {α : Type} {l : List α} (h : l.length = 13) : ∃ a0 a1 a2 a3 a4 a5 a6 a7 a8 a9 a10 a11 a12, l = [a0, a1, a2, a3, a4, a5, a6, a7, a8, a9, a10, a11, a12] :=
  match l, h with | [a0, a1, a2, a3, a4, a5, a6, a7, a8, a9, a10, a11, a12], _ => ⟨a0, a1, a2, a3, a4, a5, a6, a7, a8, a9, a10, a11, a12, rfl⟩
theorem list14 {α : Type} {l : List α} (h : l.length = 14) : ∃ a0 a1 a2 a3 a4 a5 a6 a7 a8 a9 a10 a11 a12 a13, l = [a0, a1, a2, a3, a4, a5, a6, a7, a8, a9, a10, a11, a12, a13] :=
  match l, h with | [a0, a1, a2, a3, a4, a5, a6, a7, a8, a9, a10, a11, a12, a13], _ => ⟨a0, a1, a2, a3, a4, a5, a6, a7, a8, a9, a10, a11, a12, a13, rfl⟩
theorem list15 {α : Type} {l : List α} (h : l.length = 15) : ∃ a0 a1 a2 a3 a4 a5 a6 a7 a8 a9 a10 a11 a12 a13 a14, l = [a0, a1, a2, a3, a4, a5, a6, a7, a8, a9, a10, a11, a12, a13, a14] :=
  match l, h with | [a0, a1, a2, a3, a4, a5, a6, a7, a8, a9, a10, a11, a12, a13, a14], _ => ⟨a0, a1, a2, a3, a4, a5, a6, a7, a8, a9, a10, a11, a12, a13, a14, rfl⟩
theorem list16 {α : Type} {l : List α} (h : l.length = 16) : ∃ a0 a1 a2 a3 a4 a5 a6 a7 a8 a9 a10 a11 a12 a13 a14 a15, l = [a0, a1, a2, a3, a4, a5, a6, a7, a8, a9, a10, a11, a12, a13, a14, a15] :=
  match l, h with | [a0, a1, a2, a3, a4, a5, a6, a7, a8, a9, a10, a11, a12, a13, a14, a15], _ => ⟨a0, a1, a2, a3, a4, a5, a6, a7, a8, a9, a10, a11, a12, a13, a14, a15, rfl⟩
section
variable {H : Type} {enc : TypeId × Value → H} {P : Program} {w : World}
theorem open_strs {t e : TypeId} {A : Option Addr} {len cap : Nat} {d : DataW H} {ps : List MemPlace} (ht : P.underlying t = some (.slice e)) (he : P.underlying e = some .string) (hc : P.cellsOf e = 1)
    (h : DataW.Trod enc P w 0 (fun _ => true) true t (.slice A len cap) d ps) :
    ∃ ss : List ByteArray, RowAt w A (strs ss) ∧ ss.length = len ∧ len ≤ cap ∧ cap ≤ maxLen ∧ (∀ s ∈ ss, s.size ≤ maxLen) ∧ (A = none → len = 0 ∧ cap = 0) := by
  obtain ⟨fuel, hf⟩ := h
  rcases open_strings ht he hc hf with ⟨hcs, _⟩ | ⟨a, l, c, ss, hcs, _, hl, hm, hz, _, hcell, hsz⟩
  · simp [Value.cells] at hcs
    obtain ⟨rfl, rfl, rfl⟩ := hcs
    exact ⟨[], RowAt.nil _ _, rfl, Nat.le_refl _, Nat.zero_le _, by simp, fun _ => ⟨rfl, rfl⟩⟩
  · simp [Value.cells] at hcs
    obtain ⟨rfl, rfl, rfl⟩ := hcs
    simp only [if_true] at hz
    refine ⟨ss.take len, fun j u hu => ⟨a, rfl, ?_⟩, by rw [List.length_take]; omega, hl, hm, fun s hs => hsz s (List.mem_of_mem_take hs), fun e => by cases e⟩
    have hj : j < (ss.take len).length := by have := (List.getElem?_eq_some_iff.1 hu).1; simpa [strs] using this
    have hj2 : j < ss.length := by rw [List.length_take] at hj; omega
    rw [hcell j hj2]
    simp only [strs, List.getElem?_map] at hu
    rw [List.getElem?_take, if_pos (by rw [List.length_take] at hj; omega), List.getElem?_eq_getElem hj2] at hu
    simp at hu
    rw [← hu, List.getD_eq_getElem?_getD, List.getElem?_eq_getElem hj2]
    rfl
theorem flat_inv {α β : Type} (f : α → List β) (m : Nat) : ∀ (l : List α), (∀ a ∈ l, (f a).length = m) → ∀ (j : Nat) (u : β), (l.flatMap f)[j]? = some u → ∃ i a k, l[i]? = some a ∧ (f a)[k]? = some u ∧ j = i * m + k
  | [], _, j, u, h => by simp at h
  | c :: l, hf, j, u, h => by
    have hc := hf c (List.mem_cons_self ..)
    rw [List.flatMap_cons] at h
    by_cases hj : j < m
    · rw [List.getElem?_append_left (by rw [hc]; exact hj)] at h
      exact ⟨0, c, j, rfl, h, by omega⟩
    · rw [List.getElem?_append_right (by rw [hc]; omega), hc] at h
      obtain ⟨i, a, k, h1, h2, h3⟩ := flat_inv f m l (fun a ha => hf a (List.mem_cons_of_mem _ ha)) _ _ h
      exact ⟨i + 1, a, k, by simpa using h1, h2, by rw [Nat.succ_mul]; omega⟩
/-- A slice of structs (or of whatever), each element by a lemma of its own. -/
theorem open_rows {t e : TypeId} {A : Option Addr} {len cap : Nat} {d : DataW H} {ps : List MemPlace} {α : Type} [Inhabited α] (f : α → List Value) (good : α → Prop) (ht : P.underlying t = some (.slice e))
    (each : ∀ n cs y, DataW.trod enc P w 0 (fun _ => true) true n e cs = some y → ∃ a, cs = f a ∧ good a)
    (h : DataW.Trod enc P w 0 (fun _ => true) true t (.slice A len cap) d ps) :
    ∃ l : List α, RowAt w A (l.flatMap f) ∧ l.length = len ∧ len ≤ cap ∧ cap ≤ maxLen ∧ (∀ a ∈ l, good a) ∧ (A = none → len = 0 ∧ cap = 0) := by
  obtain ⟨fuel, hf⟩ := h
  rcases Deep.open_slice ht hf with ⟨hcs, _⟩ | ⟨ad, l, c, m, n, D, Pl, hcs, _, hl, hm, hmm, _, hx⟩
  · simp [Value.cells] at hcs
    obtain ⟨rfl, rfl, rfl⟩ := hcs
    exact ⟨[], by simpa using RowAt.nil _ _, rfl, Nat.le_refl _, Nat.zero_le _, by simp, fun _ => ⟨rfl, rfl⟩⟩
  · simp [Value.cells] at hcs
    obtain ⟨rfl, rfl, rfl⟩ := hcs
    simp only [if_true] at hmm
    subst hmm
    obtain ⟨F, hF⟩ := Deep.choose_lt (α := α) (n := len) (p := fun i a => w.cells? 0 (ad.add (i * P.cellsOf e)) (P.cellsOf e) = some (f a) ∧ good a) (fun i hi => by
      obtain ⟨cs', h1, h2⟩ := hx i (by omega)
      obtain ⟨a, rfl, hg⟩ := each n cs' _ h2
      exact ⟨a, h1, hg⟩)
    have hlen : ∀ a ∈ (List.range len).map F, (f a).length = P.cellsOf e := by
      intro a ha
      obtain ⟨i, hi, rfl⟩ := List.mem_map.1 ha
      exact (World.cells?_some (hF i (List.mem_range.1 hi)).1).2.1
    refine ⟨(List.range len).map F, fun j u hu => ?_, by simp, hl, hm, fun a ha => ?_, fun e => by cases e⟩
    · obtain ⟨i, a, k, h1, h2, rfl⟩ := flat_inv f _ _ hlen j u hu
      obtain ⟨hi, h3⟩ : i < len ∧ F i = a := by
        rw [List.getElem?_map] at h1
        cases hr : (List.range len)[i]? with
        | none => rw [hr] at h1; simp at h1
        | some x =>
          rw [hr] at h1
          obtain ⟨hx1, hx2⟩ := List.getElem?_eq_some_iff.1 hr
          simp at hx1 hx2 h1
          subst hx2
          exact ⟨hx1, h1⟩
      subst h3
      obtain ⟨_, h4, h5⟩ := World.cells?_some (hF i hi).1
      have hk : k < P.cellsOf e := by rw [← h4]; exact (List.getElem?_eq_some_iff.1 h2).1
      refine ⟨ad, rfl, ?_⟩
      rw [← add_add', h5 k hk, h2]
    · obtain ⟨i, hi, rfl⟩ := List.mem_map.1 ha
      exact (hF i (List.mem_range.1 hi)).2
end
end Go.Proofs.YtcaihinenfnekaaDoor
/- Entries among the arguments. -/
namespace Go.Proofs.YtcaihinenfnekaaDoor
open Go.RowKit Go.ChangeShapes Go.WideShapes
theorem u8_natE {n : Int} (h : (Lit.int .u8 n).wf = true) : 0 ≤ n ∧ n < 256 := by
  simp [Lit.wf, IntKind.min, IntKind.max, IntKind.bits, IntKind.signed] at h; omega
theorem u64_natE {n : Int} (h : (Lit.int .u64 n).wf = true) : 0 ≤ n ∧ n ≤ 18446744073709551615 := by
  simp [Lit.wf, IntKind.min, IntKind.max, IntKind.bits, IntKind.signed] at h; omega
theorem listE_5 {α : Type} : ∀ {l : List α}, l.length = 5 → ∃ x0 x1 x2 x3 x4, l = [x0, x1, x2, x3, x4]
  | [x0, x1, x2, x3, x4], _ => ⟨x0, x1, x2, x3, x4, rfl⟩
theorem listE_3 {α : Type} : ∀ {l : List α}, l.length = 3 → ∃ x0 x1 x2, l = [x0, x1, x2]
  | [x0, x1, x2], _ => ⟨x0, x1, x2, rfl⟩
theorem listE_7 {α : Type} : ∀ {l : List α}, l.length = 7 → ∃ x0 x1 x2 x3 x4 x5 x6, l = [x0, x1, x2, x3, x4, x5, x6]
  | [x0, x1, x2, x3, x4, x5, x6], _ => ⟨x0, x1, x2, x3, x4, x5, x6, rfl⟩
theorem listE_9 {α : Type} : ∀ {l : List α}, l.length = 9 → ∃ x0 x1 x2 x3 x4 x5 x6 x7 x8, l = [x0, x1, x2, x3, x4, x5, x6, x7, x8]
  | [x0, x1, x2, x3, x4, x5, x6, x7, x8], _ => ⟨x0, x1, x2, x3, x4, x5, x6, x7, x8, rfl⟩
instance : Inhabited EnV := ⟨zeroE⟩
structure OpOKE (o : OpV) : Prop where
  wf : o.wf
  a : o.a.size ≤ maxLen
  b : o.b.size ≤ maxLen
structure EnOK (e : EnV) : Prop where
  wf : e.wf
  a : e.o.a.size ≤ maxLen
  b : e.o.b.size ≤ maxLen
section
variable {H : Type} {enc : TypeId × Value → H} {w : World}
set_option maxRecDepth 100000 in
theorem open_opE (n : Nat) (cs : List Value) (y : DataW H × List MemPlace) (h : DataW.trod enc Tryd.prog w 0 (fun _ => true) true n 38 cs = some y) :
    ∃ o : OpV, cs = [.int .u8 o.k, .string o.a, .string o.b, .int .u8 o.n, .int .u8 o.r] ∧ OpOKE o := by
  obtain ⟨xs, m, _, rfl, hl, hlen, hf⟩ := DataW.trod_struct Tryd.underlying38 h
  have ct : Tryd.prog.cellsOf 38 = 5 := by kernel_rfl
  have k0 : Tryd.prog.cellsOf 5 = 1 := by kernel_rfl
  have k1 : Tryd.prog.cellsOf 9 = 1 := by kernel_rfl
  have k2 : Tryd.prog.cellsOf 36 = 1 := by kernel_rfl
  rw [ct] at hl
  obtain ⟨v0, v1, v2, v3, v4, rfl⟩ := listE_5 hl
  obtain ⟨x0, x1, x2, x3, x4, rfl⟩ := listE_5 (show xs.length = 5 from hlen)
  have g0 : DataW.trod enc Tryd.prog w 0 (fun _ => true) true m 5 (([v0, v1, v2, v3, v4].drop 0).take (Tryd.prog.cellsOf 5)) = some x0 := by
    have := hf 0 _ rfl
    exact this
  rw [k0] at g0
  have f0 : DataW.trod enc Tryd.prog w 0 (fun _ => true) true m 5 [v0] = some x0 := g0
  have g1 : DataW.trod enc Tryd.prog w 0 (fun _ => true) true m 9 (([v0, v1, v2, v3, v4].drop 1).take (Tryd.prog.cellsOf 9)) = some x1 := by
    have := hf 1 _ rfl
    exact this
  rw [k1] at g1
  have f1 : DataW.trod enc Tryd.prog w 0 (fun _ => true) true m 9 [v1] = some x1 := g1
  have g2 : DataW.trod enc Tryd.prog w 0 (fun _ => true) true m 9 (([v0, v1, v2, v3, v4].drop 2).take (Tryd.prog.cellsOf 9)) = some x2 := by
    have := hf 2 _ rfl
    exact this
  rw [k1] at g2
  have f2 : DataW.trod enc Tryd.prog w 0 (fun _ => true) true m 9 [v2] = some x2 := g2
  have g3 : DataW.trod enc Tryd.prog w 0 (fun _ => true) true m 5 (([v0, v1, v2, v3, v4].drop 3).take (Tryd.prog.cellsOf 5)) = some x3 := by
    have := hf 3 _ rfl
    exact this
  rw [k0] at g3
  have f3 : DataW.trod enc Tryd.prog w 0 (fun _ => true) true m 5 [v3] = some x3 := g3
  have g4 : DataW.trod enc Tryd.prog w 0 (fun _ => true) true m 36 (([v0, v1, v2, v3, v4].drop 4).take (Tryd.prog.cellsOf 36)) = some x4 := by
    have := hf 4 _ rfl
    exact this
  rw [k2] at g4
  have f4 : DataW.trod enc Tryd.prog w 0 (fun _ => true) true m 36 [v4] = some x4 := g4
  obtain ⟨n0, e0, _, w0⟩ := DataW.trod_int Tryd.underlying5 f0
  simp only [List.cons.injEq, and_true] at e0
  subst e0
  obtain ⟨u0, hu0⟩ := u8_natE w0
  obtain ⟨m0, rfl⟩ := Int.eq_ofNat_of_zero_le u0
  obtain ⟨s1, e1, _, hs1⟩ := DataW.trod_string Tryd.underlying9 f1
  simp only [List.cons.injEq, and_true] at e1
  subst e1
  obtain ⟨s2, e2, _, hs2⟩ := DataW.trod_string Tryd.underlying9 f2
  simp only [List.cons.injEq, and_true] at e2
  subst e2
  obtain ⟨n3, e3, _, w3⟩ := DataW.trod_int Tryd.underlying5 f3
  simp only [List.cons.injEq, and_true] at e3
  subst e3
  obtain ⟨u3, hu3⟩ := u8_natE w3
  obtain ⟨m3, rfl⟩ := Int.eq_ofNat_of_zero_le u3
  obtain ⟨n4, e4, _, w4⟩ := DataW.trod_int Tryd.underlying36 f4
  simp only [List.cons.injEq, and_true] at e4
  subst e4
  obtain ⟨u4, hu4⟩ := u8_natE w4
  obtain ⟨m4, rfl⟩ := Int.eq_ofNat_of_zero_le u4
  exact ⟨⟨m0, s1, s2, m3, m4⟩, rfl, ⟨⟨by simp only []; omega, by simp only []; omega, by simp only []; omega⟩, hs1, hs2⟩⟩
set_option maxRecDepth 100000 in
theorem open_reqE (n : Nat) (cs : List Value) (y : DataW H × List MemPlace) (h : DataW.trod enc Tryd.prog w 0 (fun _ => true) true n 40 cs = some y) :
    ∃ q : EnV, cs = [.int .u8 q.cl, .int .u64 q.num, .int .u8 q.o.k, .string q.o.a, .string q.o.b, .int .u8 q.o.n, .int .u8 q.o.r] ∧ (q.cl < 256 ∧ q.num < 18446744073709551616 ∧ OpOKE q.o) := by
  obtain ⟨xs, m, _, rfl, hl, hlen, hf⟩ := DataW.trod_struct Tryd.underlying40 h
  have ct : Tryd.prog.cellsOf 40 = 7 := by kernel_rfl
  have k0 : Tryd.prog.cellsOf 5 = 1 := by kernel_rfl
  have k1 : Tryd.prog.cellsOf 32 = 1 := by kernel_rfl
  have k2 : Tryd.prog.cellsOf 38 = 5 := by kernel_rfl
  rw [ct] at hl
  obtain ⟨v0, v1, v2, v3, v4, v5, v6, rfl⟩ := listE_7 hl
  obtain ⟨x0, x1, x2, rfl⟩ := listE_3 (show xs.length = 3 from hlen)
  have g0 : DataW.trod enc Tryd.prog w 0 (fun _ => true) true m 5 (([v0, v1, v2, v3, v4, v5, v6].drop 0).take (Tryd.prog.cellsOf 5)) = some x0 := by
    have := hf 0 _ rfl
    exact this
  rw [k0] at g0
  have f0 : DataW.trod enc Tryd.prog w 0 (fun _ => true) true m 5 [v0] = some x0 := g0
  have g1 : DataW.trod enc Tryd.prog w 0 (fun _ => true) true m 32 (([v0, v1, v2, v3, v4, v5, v6].drop 1).take (Tryd.prog.cellsOf 32)) = some x1 := by
    have := hf 1 _ rfl
    exact this
  rw [k1] at g1
  have f1 : DataW.trod enc Tryd.prog w 0 (fun _ => true) true m 32 [v1] = some x1 := g1
  have g2 : DataW.trod enc Tryd.prog w 0 (fun _ => true) true m 38 (([v0, v1, v2, v3, v4, v5, v6].drop 2).take (Tryd.prog.cellsOf 38)) = some x2 := by
    have := hf 2 _ rfl
    exact this
  rw [k2] at g2
  have f2 : DataW.trod enc Tryd.prog w 0 (fun _ => true) true m 38 [v2, v3, v4, v5, v6] = some x2 := g2
  obtain ⟨n0, e0, _, w0⟩ := DataW.trod_int Tryd.underlying5 f0
  simp only [List.cons.injEq, and_true] at e0
  subst e0
  obtain ⟨u0, hu0⟩ := u8_natE w0
  obtain ⟨m0, rfl⟩ := Int.eq_ofNat_of_zero_le u0
  obtain ⟨n1, e1, _, w1⟩ := DataW.trod_int Tryd.underlying32 f1
  simp only [List.cons.injEq, and_true] at e1
  subst e1
  obtain ⟨u1, hu1⟩ := u64_natE w1
  obtain ⟨m1, rfl⟩ := Int.eq_ofNat_of_zero_le u1
  obtain ⟨o2, e2, h2⟩ := open_opE m _ _ f2
  simp only [and_true, List.cons.injEq, and_true] at e2
  obtain ⟨rfl, rfl, rfl, rfl, rfl⟩ := e2
  exact ⟨⟨0, 0, m0, m1, o2⟩, rfl, ⟨by simp only []; omega, by simp only []; omega, h2⟩⟩
set_option maxRecDepth 100000 in
theorem open_enE (n : Nat) (cs : List Value) (y : DataW H × List MemPlace) (h : DataW.trod enc Tryd.prog w 0 (fun _ => true) true n 42 cs = some y) :
    ∃ e : EnV, cs = e.C ∧ EnOK e := by
  obtain ⟨xs, m, _, rfl, hl, hlen, hf⟩ := DataW.trod_struct Tryd.underlying42 h
  have ct : Tryd.prog.cellsOf 42 = 9 := by kernel_rfl
  have k0 : Tryd.prog.cellsOf 32 = 1 := by kernel_rfl
  have k1 : Tryd.prog.cellsOf 40 = 7 := by kernel_rfl
  rw [ct] at hl
  obtain ⟨v0, v1, v2, v3, v4, v5, v6, v7, v8, rfl⟩ := listE_9 hl
  obtain ⟨x0, x1, x2, rfl⟩ := listE_3 (show xs.length = 3 from hlen)
  have g0 : DataW.trod enc Tryd.prog w 0 (fun _ => true) true m 32 (([v0, v1, v2, v3, v4, v5, v6, v7, v8].drop 0).take (Tryd.prog.cellsOf 32)) = some x0 := by
    have := hf 0 _ rfl
    exact this
  rw [k0] at g0
  have f0 : DataW.trod enc Tryd.prog w 0 (fun _ => true) true m 32 [v0] = some x0 := g0
  have g1 : DataW.trod enc Tryd.prog w 0 (fun _ => true) true m 32 (([v0, v1, v2, v3, v4, v5, v6, v7, v8].drop 1).take (Tryd.prog.cellsOf 32)) = some x1 := by
    have := hf 1 _ rfl
    exact this
  rw [k0] at g1
  have f1 : DataW.trod enc Tryd.prog w 0 (fun _ => true) true m 32 [v1] = some x1 := g1
  have g2 : DataW.trod enc Tryd.prog w 0 (fun _ => true) true m 40 (([v0, v1, v2, v3, v4, v5, v6, v7, v8].drop 2).take (Tryd.prog.cellsOf 40)) = some x2 := by
    have := hf 2 _ rfl
    exact this
  rw [k1] at g2
  have f2 : DataW.trod enc Tryd.prog w 0 (fun _ => true) true m 40 [v2, v3, v4, v5, v6, v7, v8] = some x2 := g2
  obtain ⟨n0, e0, _, w0⟩ := DataW.trod_int Tryd.underlying32 f0
  simp only [List.cons.injEq, and_true] at e0
  subst e0
  obtain ⟨u0, hu0⟩ := u64_natE w0
  obtain ⟨m0, rfl⟩ := Int.eq_ofNat_of_zero_le u0
  obtain ⟨n1, e1, _, w1⟩ := DataW.trod_int Tryd.underlying32 f1
  simp only [List.cons.injEq, and_true] at e1
  subst e1
  obtain ⟨u1, hu1⟩ := u64_natE w1
  obtain ⟨m1, rfl⟩ := Int.eq_ofNat_of_zero_le u1
  obtain ⟨o2, e2, h2⟩ := open_reqE m _ _ f2
  simp only [and_true, List.cons.injEq, and_true] at e2
  obtain ⟨rfl, rfl, rfl, rfl, rfl, rfl, rfl⟩ := e2
  exact ⟨⟨m0, m1, o2.cl, o2.num, o2.o⟩, rfl, ⟨⟨by simp only []; omega, by simp only []; omega, h2.1, h2.2.1, h2.2.2.wf⟩, h2.2.2.a, h2.2.2.b⟩⟩
theorem open_ens {A : Option Addr} {len cap : Nat} {d : DataW H} {ps : List MemPlace} (h : DataW.Trod enc Tryd.prog w 0 (fun _ => true) true 33 (.slice A len cap) d ps) :
    ∃ L : List EnV, RowAt w A (L.flatMap EnV.C) ∧ L.length = len ∧ len ≤ cap ∧ cap ≤ maxLen ∧ (∀ e ∈ L, EnOK e) ∧ (A = none → len = 0 ∧ cap = 0) := by
  obtain ⟨l, h1, h2, h3, h4, h5, h6⟩ := open_rows EnV.C EnOK Tryd.underlying33 open_enE h
  exact ⟨l, h1, h2, h3, h4, h5, h6⟩
set_option maxRecDepth 100000 in
theorem open_en {v : Value} {d : DataW H} {ps : List MemPlace} {r : Reach} {b0 : Nat} {W : World} (hv : Value.okWide Tryd.prog W r b0 42 v) (h : DataW.Trod enc Tryd.prog w 0 (fun _ => true) true 42 v d ps) :
    ∃ e : EnV, v = e.v ∧ EnOK e := by
  obtain ⟨cs, rfl, _⟩ := okWide_struct Tryd.underlying42 hv
  obtain ⟨m, hm⟩ := h
  obtain ⟨o, e, ho⟩ := open_enE m _ _ hm
  refine ⟨o, ?_, ho⟩
  have : cs.toList = o.C := e
  unfold EnV.v
  unfold EnV.C at this
  rw [← this]
end
end Go.Proofs.YtcaihinenfnekaaDoor
/- LogOf's law over its arguments. -/
namespace Go.Proofs.YtcaihinenfnekaaDoor
open Go.RowKit
theorem logOf_law (w : World) (ht : SignsAt w) (a : Int) (wa : (Lit.int .u64 a).wf = true) (A : Option Addr) (n c : Nat) (L : List EnV) (o : RowAt w A (L.flatMap EnV.C) ∧ L.length = n ∧ n ≤ c ∧ c ≤ maxLen ∧ (∀ e ∈ L, EnOK e) ∧ (A = none → n = 0 ∧ c = 0))
    (B : Option Addr) (m d : Nat) (M : List EnV) (o' : RowAt w B (M.flatMap EnV.C) ∧ M.length = m ∧ m ≤ d ∧ d ≤ maxLen ∧ (∀ e ∈ M, EnOK e) ∧ (B = none → m = 0 ∧ d = 0)) :
    Calls Tryd.prog 6 #[.int .u64 a, .slice A n c, .slice B m d] w (BoolPost w true) := by
  obtain ⟨h1, h2⟩ := u64_natE wa
  obtain ⟨a', rfl⟩ := Int.eq_ofNat_of_zero_le h1
  exact logOf_walk w ht a' A B n c m d L M (by omega) o.1 o.2.1 o.2.2.1 (Nat.le_trans (Nat.le_trans o.2.2.1 o.2.2.2.1) (by decide)) o.2.2.2.2.2 (fun e he => (o.2.2.2.2.1 e he).wf) o'.1 o'.2.1 o'.2.2.1 (Nat.le_trans (Nat.le_trans o'.2.2.1 o'.2.2.2.1) (by decide)) o'.2.2.2.2.2 (fun e he => (o'.2.2.2.2.1 e he).wf)
end Go.Proofs.YtcaihinenfnekaaDoor
