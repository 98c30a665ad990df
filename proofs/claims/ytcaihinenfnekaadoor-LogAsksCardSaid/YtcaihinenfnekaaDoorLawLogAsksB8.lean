/- What the row leans on, part 8: contracts and plain laws. -/
import Derived.Test.YtcaihinenfnekaaDoorProg
import Derived.WalkKit
import Derived.Maps.AppendAt
import Derived.Lib.AppendStr
import Derived.Laws.AppendOwnNone
import Derived.Deep.Draws
import Derived.WalkSpells
import Derived.Laws.IdiomStrings
import Derived.Lib.ConvBytes
import Derived.Lib.LaidTab
import Derived.LaidSub
import Derived.Deep.QuietTactic
import Derived.BigQuiet
import Derived.Lib.OthersKept
import Derived.Laws.RangeAny
import Derived.LaidEqlPtr
import Derived.Laws.StructEq
import Derived.Deep.Light
import Derived.Laws.Bits64b
import Derived.Laws.ResultCell
import Derived.Deep.RegionHeld3
import Derived.Deep.Cut
import Derived.RangeFuncNested
import Derived.RangeFuncBound
import Derived.RangeFuncCalls
import Derived.RangeFuncLeaves
import Derived.Shelf.Abstract
import Derived.Shelf.RegionOpen
import Derived.OwnWalkIn
import Derived.TacticsInMore
import Derived.LoopNIn
import Derived.LoopIn
import Derived.SliceStrings
import Derived.Deep.Slices
import Derived.ProofKit
import Derived.Test.YtcaihinenfnekaaDoorLawLogAsksB7
/- interrexlaw20.LogAsks: the walk. -/
namespace Go.Proofs.YtcaihinenfnekaaDoor
open Go.RowKit
theorem pend_pos {b : Nat} {es : List EnV} (h : GoodL b es) {node behind r : Nat} (hp : pendO es node behind = some r) : r ≠ 0 := by
  unfold pendO at hp
  cases hf : es.reverse.find? (sysB node behind) with
  | none => rw [hf] at hp; cases hp
  | some e =>
    rw [hf] at hp
    simp only [Option.map_some, Option.some.injEq] at hp
    have hs := List.find?_some hf
    have hm : e ∈ es := by have := List.mem_of_find?_eq_some hf; simpa using this
    have hc := h.ok e hm
    unfold sysB at hs
    simp only [Bool.and_eq_true, decide_eq_true_eq] at hs
    have hck : e.o.k = 16 := by
      unfold checkE at hc
      split at hc
      · cases hc
      · rw [if_pos hs.2.1] at hc
        split at hc
        · cases hc
        · rename_i h2; simp only [not_or, ne_eq, Decidable.not_not] at h2; exact h2.2.1
    have hv := (checkV_ok (checkE_o hc)).2.2.1
    have hz : zOf e.o = [110, 114] := by unfold zOf; rw [hck]; rfl
    rw [hz] at hv
    simp only [List.all_cons, List.all_nil, Bool.and_true, Bool.and_eq_true] at hv
    have h2 := hv.2
    unfold rightV at h2
    rw [if_neg (by decide), if_pos rfl] at h2
    simp only [Bool.and_eq_true, decide_eq_true_eq] at h2
    omega
theorem pend_there {b : Nat} {es : List EnV} (h : GoodL b es) (node behind : Nat) : (((pendV es node behind : Nat) : Int) != 0) = (pendO es node behind).isSome := by
  have he : pendV es node behind = (pendO es node behind).getD 0 := rfl
  rw [he]
  cases ho : pendO es node behind with
  | none => rfl
  | some r =>
    have := pend_pos h ho
    show ((r : Int) != 0) = true
    rw [bne_iff_ne]; omega
def OwnR (es : List EnV) : Stb (Fr noB) := ⟨fun v W => ∃ A n c, v = .slice A n c ∧ RefA W A n c es, fun _ _ _ ⟨A, n, c, h1, h2⟩ f => ⟨A, n, c, h1, h2.fr0 f⟩⟩
def RowFive (xs : List Value) : Stb (Fr noB) := ⟨fun v W => ∃ q, v = .slice (some ⟨q, 0, none⟩) 5 5 ∧ RowAt W (some ⟨q, 0, none⟩) xs, fun _ _ _ ⟨q, h1, h2⟩ f => ⟨q, h1, h2.fr0 f⟩⟩
set_option maxRecDepth 100000 in
set_option maxHeartbeats 12800000 in
theorem logAsks_walk (w : World) (ht : SignsAt w) (base : Nat) (A0 : Option Addr) (m cap : Nat) (L : List ActL) (kn client node number : Nat) (hb : base < 18446744073709551616) (hkn : kn < 18446744073709551616) (hrow : RowAt w A0 (L.flatMap ActL.C)) (HN : Hid (L.length = m)) (hnm : m ≤ 9223372036854775807) (hok : ∀ a ∈ L, a.ok) :
    Calls Tryd.prog 9 #[.int .u64 base, .slice A0 m cap, .int .u64 kn, .int .u8 client, .int .u8 node, .int .u64 number] w (BoolPost w true) := by
  have hfew := fun W h => few20_calls W A0 cap m L h HN hnm
  cases hfl : fewL L with
  | false =>
    rw [hfl] at hfew
    clear hfl
    go_enter Tryd.func9, Tryd.ntmps9
    go_wp2_with fail
    refine (lives20_calls w ht).mono ?_
    rintro e w1 ⟨rfl, f1⟩
    go_wp2_with fail
    refine (hfew w1 (hrow.fr0 f1)).mono ?_
    rintro e w2 ⟨rfl, f2⟩
    have F2 := f1.then' f2
    go_wp2_with fail
    refine (lives20_calls w2 (ht.fr0 F2)).mono ?_
    rintro e w3 ⟨rfl, f3⟩
    go_wp2_with fail
    go_ret
    exact BoolPost.mk' rfl (F2.then' f3)
  | true =>
    rw [hfl] at hfew
    have hsm : ∀ a ∈ L, a.small = true := by
      unfold fewL at hfl
      simp only [Bool.and_eq_true, List.all_eq_true] at hfl
      exact hfl.1
    clear hfl
    obtain ⟨b0, hb0⟩ : ∃ b0, min base 1099511627776 = b0 := ⟨_, rfl⟩
    have hbl : b0 ≤ 1099511627776 := by omega
    have hnew := fun W => newL_calls W base
    rw [hb0] at hnew
    go_enter Tryd.func9, Tryd.ntmps9
    go_wp2_with fail
    refine (lives20_calls w ht).mono ?_
    rintro e w1 ⟨rfl, f1⟩
    go_wp2_with fail
    refine (hfew w1 (hrow.fr0 f1)).mono ?_
    rintro e w2 ⟨rfl, f2⟩
    have F2 := f1.then' f2
    clear hfew f1 f2
    go_wp2_with fail
    refine (hnew w2).mono ?_
    rintro e w3 ⟨rfl, hL3, f3⟩
    have F3 := F2.then' f3
    have hp := F2.size
    obtain ⟨p, hpe⟩ : ∃ p, w2.heap.size = p := ⟨_, rfl⟩
    rw [hpe] at hL3 hp ⊢
    clear hnew F2 f3 hpe
    have hM := MidL.new hL3 (GoodL.new hbl) F3 hp rfl
    have hq := F3.size
    clear hL3 F3
    have hc : (b0 : Int) = (if (1099511627776 : Int) < (base : Int) then (1099511627776 : Int) else (base : Int)) := by split <;> omega
    have hww : w3.alloc (.cells #[.int .u64 (b0 : Int), .slice none 0 0] 54) = w3.alloc (.cells #[.int .u64 (if (1099511627776 : Int) < (base : Int) then (1099511627776 : Int) else (base : Int)), .slice none 0 0] 54) := by rw [hc]
    rw [hww] at hM
    clear hb0 hc hww
    go_upto_region 5 with fail
    generalize (w3.alloc (.cells #[.int .u64 (if (1099511627776 : Int) < (base : Int) then (1099511627776 : Int) else (base : Int)), .slice none 0 0] 54)) = w4 at *
    generalize (if (1099511627776 : Int) < (base : Int) then (1099511627776 : Int) else (base : Int)) = bi
    obtain ⟨q, hqe⟩ : ∃ q, w3.heap.size = q := ⟨_, rfl⟩
    rw [hqe] at hM hq ⊢
    clear hqe
    go_wp2_with fail
    go_loopw [40] (fun i wr => ∃ (j b n c : Nat) (A : Option Addr) (es : List EnV), j ≤ m ∧ i = .int .i64 j ∧ MidL w wr p q b n c A es) (fun i _ => m - (intOf i).toNat)
    case atStart => exact ⟨0, _, _, _, _, _, Nat.zero_le _, rfl, hM⟩
    case round =>
      clear hM
      obtain ⟨j, b, n, c, A, es, hj, rfl, hM⟩ := hrel
      by_cases hjm : j < m
      · obtain ⟨a, hit⟩ : ∃ a, L[j]? = some a := ⟨_, List.getElem?_eq_getElem (by rw [HN.out]; exact hjm)⟩
        obtain ⟨ad, rfl⟩ := hrow.some_flat (by simp [ActL.C]) hit
        have hmem := List.mem_of_getElem? hit
        obtain ⟨z0, z1, z2, z3, z4, z5, z6, z7, z8, z9, z10⟩ := ((hrow.seg 11 (fun _ => rfl) hit).fr hM.fr id).c11
        have hao := hok a hmem
        obtain ⟨hsa, hsb⟩ := small_sizes (hsm a hmem)
        have hfa : Fr noB wr (wr.alloc (.cells a.C.toArray 57)) := (Fr.refl noB wr).alloc _
        have hba : BlkAt (wr.alloc (.cells a.C.toArray 57)) wr.heap.size 57 a.C.toArray := BlkAt.new _ _ _
        have hMa := hM.fr0 hfa
        have hpl := play_calls (wr.alloc (.cells a.C.toArray 57)) (exP p q A) p b n c A es a (ht.fr0 hMa.fr) hMa.log hMa.good hMa.ref (fun ad e => (hMa.lt ad e).1) (fun ad e h => h.2.2 ad e rfl) hao hsa hsb
        have hGs := hM.good.step hao
        generalize stepL b es a = st at *
        obtain ⟨b', es'⟩ := st
        obtain ⟨ak, ⟨op, view, cl, num, ⟨kk, oa, ob, on, or⟩⟩, an⟩ := a
        unfold ActL.C at hba hMa hpl
        unfold ActL.v at hpl
        simp only [] at *
        clear hit hmem hao hsa hsb hfa hM
        go_upto_region 8 with fail
        generalize hwa : (wr.alloc (.cells #[.int .u8 ak, .int .u64 op, .int .u64 view, .int .u8 cl, .int .u64 num, .int .u8 kk, .string oa, .string ob, .int .u8 on, .int .u8 or, .int .u64 an] 57)) = wa at *
        clear hwa z0 z1 z2 z3 z4 z5 z6 z7 z8 z9 z10
        obtain ⟨z0, z1, z2, z3, z4, z5, z6, z7, z8, z9, z10, zf⟩ := BlkAt.c11 hba
        obtain ⟨x0, x1, xf⟩ := BlkAt.c2 hMa.var
        go_wp2_with fail
        refine hpl.mono ?_
        rintro e w6 ⟨B, n', c', rfl, hR6, hP6, hL6, f6⟩
        simp only [] at hR6 hL6
        have hM7 := hMa.step hq hR6 hP6 hL6 f6 hGs
        obtain ⟨y0, y1, yf⟩ := BlkAt.c2 (hMa.var.fr f6 (fun h1 => h1.2.1 rfl))
        clear hpl hR6 hP6 hL6 f6 hGs hMa z0 z1 z2 z3 z4 z5 z6 z7 z8 z9 z10 zf x0 x1 xf
        go_upto_region 9 with fail
        generalize ((w6.setCell ⟨q, 0, none⟩ (.int .u64 b')).setCell ⟨q, 1, none⟩ (.slice B n' c')) = w7 at *
        clear y0 y1 yf
        go_wp2_with fail
        go_roundw
        case rel => exact ⟨j + 1, b', n', c', B, es', by omega, by go_num, hM7⟩
        case measure => simp [intOf]; omega
      · have : j = m := by omega
        subst this
        clear hrow hsm
        have hbb := hM.good.base
        have hll := hM.good.last
        have hw16 := hM.good.few
        have hnl := hM.ref.len
        have HLA : Hid (lastL b es = b + n) := by unfold Hid lastL; rw [hnl.out]
        rw [hnl.out] at hw16
        have hlr := fun W => lastR_calls W b n c A (by have := HLA.out; omega)
        have hcl : ((b + n : Nat) : Int) = (b : Int) + n := by omega
        rw [hcl] at hlr
        obtain ⟨n20, hn20⟩ : ∃ x, kn % 20 = x := ⟨_, rfl⟩
        have hni : (kn : Int) % 20 = n20 := by omega
        have hn19 : n20 < 20 := by omega
        have hF0 := hM.fr
        have hvar := hM.var
        clear hn20
        go_wp2_with fail
        apply wp_region_calm (R := Fr noB) (C := fun _ W => Fr noB wr W) [false, false, false, false, false, false, false, false, false, false, false, false, false, false, false, false]
          [eqv _, eqv _, eqv _, eqv _, eqv _, eqv _, eqv _, eqv _, eqv _, eqv _, eqv _, eqv _, eqv _, RowFive [.int .u64 kn, .int .u64 b, .int .u64 ((b : Int) + 1), .int .u64 ((b : Int) + n), .int .u64 ((b : Int) + n20)], eqv (.int .i64 5), eqv _]
          (by kernel_rfl) (by kernel_rfl) (fun _ _ _ h1 h2 => h1.then' h2) ((Fr.refl _ _).drew) ((Fr.refl _ _).drew) (by kernel_rfl)
        · refine ⟨?_, ?_, ?_, ?_, ?_, ?_, ?_, ?_, ?_, ?_, ?_, ?_, ?_, ?_, ?_, ?_, trivial⟩
          · rw [if_neg (by decide)]; intro kq
            exact calm_mv 2 rfl rfl (Or.inl rfl) (Fr.refl _) (by decide) fun v w hd => hd
          · rw [if_neg (by decide)]; intro kq
            intro a W K hC hd hK
            have d14 : a.tmps[14]?.getD undef = .pointer (some ⟨q, 0, none⟩) := hd 14 (by decide)
            refine wpOp_plain rfl rfl ?_
            obtain ⟨x0, x1, xf⟩ := BlkAt.c2 (hvar.fr hC id)
            go_wp2_with fail
            exact hK _ _ (Fr.refl _ _) hC rfl
          · rw [if_neg (by decide)]; intro kq
            intro a W K hC hd hK
            have d53 : _ = _ := hd 53 (by decide)
            refine wpOp_plain rfl rfl ?_
            obtain ⟨x0, x1, xf⟩ := BlkAt.c2 (hvar.fr hC id)
            go_wp2_with fail
            exact hK _ _ (Fr.refl _ _) hC rfl
          · rw [if_neg (by decide)]; intro kq
            intro a W K hC hd hK
            have d14 : a.tmps[14]?.getD undef = .pointer (some ⟨q, 0, none⟩) := hd 14 (by decide)
            refine wpOp_plain rfl rfl ?_
            obtain ⟨x0, x1, xf⟩ := BlkAt.c2 (hvar.fr hC id)
            go_wp2_with fail
            exact hK _ _ (Fr.refl _ _) hC rfl
          · rw [if_neg (by decide)]; intro kq
            intro a W K hC hd hK
            have d55 : _ = _ := hd 55 (by decide)
            refine wpOp_plain rfl rfl ?_
            obtain ⟨x0, x1, xf⟩ := BlkAt.c2 (hvar.fr hC id)
            go_wp2_with fail
            exact hK _ _ (Fr.refl _ _) hC rfl
          · rw [if_neg (by decide)]; intro kq
            intro a W K hC hd hK
            have d56 : _ = _ := hd 56 (by decide)
            refine wpOp_plain rfl rfl ?_
            go_wp2_with fail
            exact hK _ _ (Fr.refl _ _) hC rfl
          · rw [if_neg (by decide)]; intro kq
            intro a W K hC hd hK
            have d14 : a.tmps[14]?.getD undef = .pointer (some ⟨q, 0, none⟩) := hd 14 (by decide)
            refine wpOp_plain rfl rfl ?_
            obtain ⟨x0, x1, xf⟩ := BlkAt.c2 (hvar.fr hC id)
            go_wp2_with fail
            exact hK _ _ (Fr.refl _ _) hC rfl
          · rw [if_neg (by decide)]; intro kq
            intro a W K hC hd hK
            have d58 : _ = _ := hd 58 (by decide)
            refine wpOp_plain rfl rfl ?_
            obtain ⟨x0, x1, xf⟩ := BlkAt.c2 (hvar.fr hC id)
            go_wp2_with fail
            refine (hlr W).mono ?_
            rintro e9 w9 ⟨rfl, f9⟩
            exact hK _ _ f9 (hC.then' f9) rfl
          · rw [if_neg (by decide)]; intro kq
            intro a W K hC hd hK
            have d14 : a.tmps[14]?.getD undef = .pointer (some ⟨q, 0, none⟩) := hd 14 (by decide)
            refine wpOp_plain rfl rfl ?_
            obtain ⟨x0, x1, xf⟩ := BlkAt.c2 (hvar.fr hC id)
            go_wp2_with fail
            exact hK _ _ (Fr.refl _ _) hC rfl
          · rw [if_neg (by decide)]; intro kq
            intro a W K hC hd hK
            have d60 : _ = _ := hd 60 (by decide)
            refine wpOp_plain rfl rfl ?_
            obtain ⟨x0, x1, xf⟩ := BlkAt.c2 (hvar.fr hC id)
            go_wp2_with fail
            exact hK _ _ (Fr.refl _ _) hC rfl
          · rw [if_neg (by decide)]; intro kq
            exact calm_mv 2 rfl rfl (Or.inl rfl) (Fr.refl _) (by decide) fun v w hd => hd
          · rw [if_neg (by decide)]; intro kq
            intro a W K hC hd hK
            have d62 : _ = _ := hd 62 (by decide)
            refine wpOp_plain rfl rfl ?_
            go_wp2_with fail
            exact hK _ _ (Fr.refl _ _) hC rfl
          · rw [if_neg (by decide)]; intro kq
            intro a W K hC hd hK
            have d61 : _ = _ := hd 61 (by decide)
            have d63 : _ = _ := hd 63 (by decide)
            refine wpOp_plain rfl rfl ?_
            go_wp2_with fail
            exact hK _ _ (Fr.refl _ _) hC rfl
          · rw [if_neg (by decide)]; intro kq
            intro a W K hC hd hK
            have d52 : _ = _ := hd 52 (by decide)
            have d54 : _ = _ := hd 54 (by decide)
            have d57 : _ = _ := hd 57 (by decide)
            have d59 : _ = _ := hd 59 (by decide)
            have d64 : _ = _ := hd 64 (by decide)
            refine wpOp_plain rfl rfl ?_
            go_wp2_with fail
            have fa := (Fr.refl noB W).alloc (.cells #[.int .u64 kn, .int .u64 b, .int .u64 ((b : Int) + 1), .int .u64 ((b : Int) + n), .int .u64 ((b : Int) + n20)] 32)
            exact hK _ _ fa (hC.then' fa) ⟨W.heap.size, rfl, new_row _ _ _⟩
          · rw [if_neg (by decide)]; intro kq
            intro a W K hC hd hK
            have d65 : (RowFive [.int .u64 kn, .int .u64 b, .int .u64 ((b : Int) + 1), .int .u64 ((b : Int) + n), .int .u64 ((b : Int) + n20)]).V (a.tmps[65]?.getD undef) W := hd 65 (by decide)
            refine wpOp_plain rfl rfl ?_
            obtain ⟨x0, x1, xf⟩ := BlkAt.c2 (hvar.fr hC id)
            obtain ⟨q9, d65, hr9⟩ := d65
            go_wp2_with fail
            exact hK _ _ (Fr.refl _ _) hC rfl
          · rw [if_neg (by decide)]; intro kq
            intro a W K hC hd hK
            refine wpOp_plain rfl rfl ?_
            go_wp2_with fail
            exact hK _ _ (Fr.refl _ _) hC rfl
        · intro vs w8 fw8 cw8 hV
          have v52 : vs 0 = _ := hV 0 _ _ rfl rfl (by decide)
          have v53 : vs 1 = _ := hV 1 _ _ rfl rfl (by decide)
          have v54 : vs 2 = _ := hV 2 _ _ rfl rfl (by decide)
          have v55 : vs 3 = _ := hV 3 _ _ rfl rfl (by decide)
          have v56 : vs 4 = _ := hV 4 _ _ rfl rfl (by decide)
          have v57 : vs 5 = _ := hV 5 _ _ rfl rfl (by decide)
          have v58 : vs 6 = _ := hV 6 _ _ rfl rfl (by decide)
          have v59 : vs 7 = _ := hV 7 _ _ rfl rfl (by decide)
          have v60 : vs 8 = _ := hV 8 _ _ rfl rfl (by decide)
          have v61 : vs 9 = _ := hV 9 _ _ rfl rfl (by decide)
          have v62 : vs 10 = _ := hV 10 _ _ rfl rfl (by decide)
          have v63 : vs 11 = _ := hV 11 _ _ rfl rfl (by decide)
          have v64 : vs 12 = _ := hV 12 _ _ rfl rfl (by decide)
          have v65 : (RowFive [.int .u64 kn, .int .u64 b, .int .u64 ((b : Int) + 1), .int .u64 ((b : Int) + n), .int .u64 ((b : Int) + n20)]).V (vs 13) w8 := hV 13 _ _ rfl rfl (by decide)
          have v66 : vs 14 = .int .i64 5 := hV 14 _ _ rfl rfl (by decide)
          have v67 : vs 15 = _ := hV 15 _ _ rfl rfl (by decide)
          clear hV
          simp only [putL, Act.put, Nat.reduceAdd, List.setIfInBounds_toArray, List.set_cons_zero, List.set_cons_succ, v52, v53, v54, v55, v56, v57, v58, v59, v60, v61, v62, v63, v64, v66, v67]
          obtain ⟨q5, e5, hr5⟩ := v65
          have hM8 := hM.fr0 fw8
          rw [e5]
          clear cw8 e5 hM hvar hlr
          obtain ⟨ks, hks⟩ : ∃ ks : List Nat, [kn, b, b + 1, b + n, b + n20] = ks := ⟨_, rfl⟩
          have hrk : RowAt w8 (some ⟨q5, 0, none⟩) (ks.map fun k : Nat => Value.int .u64 k) := by rw [← hks]; simpa using hr5
          have hk5 : ks.length = 5 := by rw [← hks]; rfl
          have hklt : ∀ k ∈ ks, k < 18446744073709551616 := by
            rw [← hks]; intro k hk
            simp only [List.mem_cons, List.not_mem_nil, or_false] at hk
            have := HLA.out
            omega
          have HMR : Hid (Tryd.prog.eqGuardType Tryd.prog.depth 90 = false) := Tryd.gR
          have HMN : Hid (Tryd.prog.eqGuardType Tryd.prog.depth 42 = false) := Tryd.gE
          have HNQZ : Hid (∀ W, (binOp .neq 42 (.agg #[.int .u64 0, .int .u64 0, .int .u8 0, .int .u64 0, .int .u8 0, .string ⟨#[]⟩, .string ⟨#[]⟩, .int .u8 0, .int .u8 0]) (.agg #[.int .u64 0, .int .u64 0, .int .u8 0, .int .u64 0, .int .u8 0, .string ⟨#[]⟩, .string ⟨#[]⟩, .int .u8 0, .int .u8 0])).run Tryd.prog W = .ok (.bool false) W) := fun W => by
            have := enNeq W zeroE zeroE
            rw [zeroE_v] at this
            rw [this]; simp
          clear hr5 hks
          go_wp2_with fail
          go_loopw [67] (fun i wr => ∃ x : Nat, x ≤ 5 ∧ i = .int .i64 x ∧ Fr noB w8 wr) (fun i _ => 5 - (intOf i).toNat)
          case atStart => exact ⟨0, Nat.zero_le _, rfl, Fr.refl _ _⟩
          case round =>
            obtain ⟨x, hx, rfl, hfx⟩ := hrel
            have hMx := hM8.fr0 hfx
            by_cases hx5 : x < 5
            · obtain ⟨kx, hkx⟩ : ∃ kx, ks[x]? = some kx := ⟨_, List.getElem?_eq_getElem (by omega)⟩
              have hkl := hklt kx (List.mem_of_getElem? hkx)
              have hcx := hfx.cell (hrk.cell (j := x) (u := .int .u64 (kx : Nat)) (by rw [List.getElem?_map, hkx]; rfl)) id
              have hcx2 : wr.cell? ⟨q5, x, none⟩ = some (.int .u64 (kx : Nat)) := by
                have h9 := hcx
                unfold Addr.add at h9
                split at h9
                · rename_i h8; subst h8; exact h9
                · simpa using h9
              have hat := fun W h => atL_calls W (exP p q A) p b kx es h hMx.good hkl
              have hfi := fun W h => findR_calls W b kx n c A es h hMx.good
              have hfr := fun W h => fromL_calls W (exP p q A) p b kx es h hMx.good hkl
              have hfrR := fun W h => fromLR_calls W b kx n c A es h (by omega)
              rw [fromF_eq hMx.good.op] at hfrR
              have hfle : (fromL b es kx).length ≤ 16 := by unfold fromL; rw [List.length_drop]; have := hnl.out; omega
              have hsmE := fun W A1 n1 c1 A2 n2 c2 (h1 : RefA W A1 n1 c1 (fromL b es kx)) (h2 : RefA W A2 n2 c2 (fromL b es kx)) => same19_calls W A1 A2 n1 c1 n2 c2 _ _ h1 h2 (by rw [← h1.len.out]; omega) (by rw [← h2.len.out]; omega) rfl
              have hfn := fun h => find_none (b := b) (es := es) (k := kx) h
              have hfs := fun y h => find_some (b := b) (es := es) (k := kx) (y := y) h
              generalize fromL b es kx = fl at *
              generalize atV b es kx = o at *
              generalize findV b es kx = fv at *
              clear hkx
              go_wp2_with fail
              refine (hat _ hMx.log).mono ?_
              rintro ed w1 ⟨rfl, f1⟩
              have F1 := hfx.then' f1
              clear hat hcx hcx2
              cases o with
              | none =>
                have hz : (Option.getD (none : Option EnV) zeroE).v = zeroE.v := rfl
                have hfv := hfn rfl
                subst hfv
                rw [hz, zeroE_v]
                have fa := (Fr.refl noB w1).alloc (.cells #[.int .u64 0, .int .u64 0, .int .u8 0, .int .u64 0, .int .u8 0, .string ⟨#[]⟩, .string ⟨#[]⟩, .int .u8 0, .int .u8 0] 42)
                have hb19 := BlkAt.new w1 #[.int .u64 0, .int .u64 0, .int .u8 0, .int .u64 0, .int .u8 0, .string ⟨#[]⟩, .string ⟨#[]⟩, .int .u8 0, .int .u8 0] 42
                have F2 := F1.then' fa
                go_upto_region 14 with fail
                generalize (w1.alloc (.cells #[.int .u64 0, .int .u64 0, .int .u8 0, .int .u64 0, .int .u8 0, .string ⟨#[]⟩, .string ⟨#[]⟩, .int .u8 0, .int .u8 0] 42)) = w2 at *
                obtain ⟨q19, hq19⟩ : ∃ z, w1.heap.size = z := ⟨_, rfl⟩
                rw [hq19] at hb19 ⊢
                have hM2 := hM8.fr0 F2
                obtain ⟨x0, x1, xf⟩ := BlkAt.c2 hM2.var
                clear hq19 F1 f1 fa hfx hMx
                go_wp2_with fail
                refine (hfi w2 hM2.ref).mono ?_
                rintro ed w3 ⟨rfl, f3⟩
                have F3 := F2.then' f3
                have hM3 := hM8.fr0 F3
                replace hb19 := hb19.fr f3 id
                clear x0 x1 xf hfi f3 hM2 F2 hfn hfs
                have hrf := fun W => ref19_calls W zeroE
                go_wp2_with fail
                apply wp_region_calm (R := Fr noB) (C := fun _ W => Fr noB w3 W) [false, false, false, false, false, false, false, false, false, false, false, false, false, false, false, false, false, false, false, false, false, false, false, false, false, false, false, false, false, false, false, false, false, false, false, false]
                  [eqv _, eqv _, eqv (.bool false), eqv (.bool false), eqv (.bool false), eqv _, eqv (.bool false), eqv _, eqv _, eqv _, eqv _, eqv _, eqv _, eqv _, eqv _, eqv (.bool false), eqv (.bool false), eqv (.bool false), eqv _, eqv (.bool true), eqv (.bool true), eqv _, eqv _, eqv _, eqv (.bool false), eqv (.bool false), eqv (.bool false), eqv _, eqv _, OwnE 0 noB (fun _ _ h => h) fl, eqv _, eqv _, OwnR fl, eqv (.bool true), eqv (.bool false), eqv (.bool false)]
                  (by kernel_rfl) (by kernel_rfl) (fun _ _ _ h1 h2 => h1.then' h2) ((Fr.refl _ _).drew) ((Fr.refl _ _).drew) (by kernel_rfl)
                · refine ⟨?_, ?_, ?_, ?_, ?_, ?_, ?_, ?_, ?_, ?_, ?_, ?_, ?_, ?_, ?_, ?_, ?_, ?_, ?_, ?_, ?_, ?_, ?_, ?_, ?_, ?_, ?_, ?_, ?_, ?_, ?_, ?_, ?_, ?_, ?_, ?_, trivial⟩
                  · rw [if_neg (by decide)]; intro kq
                    exact calm_mv 20 rfl rfl (Or.inl rfl) (Fr.refl _) (by decide) fun v w hd => hd
                  · rw [if_neg (by decide)]; intro kq
                    exact calm_mv 21 rfl rfl (Or.inl rfl) (Fr.refl _) (by decide) fun v w hd => hd
                  · rw [if_neg (by decide)]; intro kq
                    intro a W K hC hd hK
                    have d81 : _ = _ := hd 81 (by decide)
                    refine wpOp_plain rfl rfl ?_
                    go_wp2_with fail
                    exact hK _ _ (Fr.refl _ _) hC rfl
                  · rw [if_neg (by decide)]; intro kq
                    intro a W K hC hd hK
                    have d80 : _ = _ := hd 80 (by decide)
                    have d82 : a.tmps[82]?.getD undef = .bool false := hd 82 (by decide)
                    refine wpOp_plain rfl rfl ?_
                    go_wp2_with fail
                    exact hK _ _ (Fr.refl _ _) hC rfl
                  · rw [if_neg (by decide)]; intro kq
                    exact calm_mv 83 rfl rfl (Or.inl rfl) (Fr.refl _) (by decide) fun v w hd => hd
                  · rw [if_neg (by decide)]; intro kq
                    intro a W K hC hd hK
                    have d20 : a.tmps[20]?.getD undef = .bool false := hd 20 (by decide)
                    have d84 : a.tmps[84]?.getD undef = .bool false := hd 84 (by decide)
                    first | (exact wpOp_skip rfl (wanted_of (want := false) (b := true) rfl rfl (by rw [eval_get]; exact d84)) (hK _ _ (Fr.refl _ _) hC rfl)) | (refine wpOp_want rfl (wanted_of (want := false) (b := false) rfl rfl (by rw [eval_get]; exact d84)) ?_)
                    all_goals (
                      go_wp2_with fail
                      exact hK _ _ (Fr.refl _ _) hC rfl)
                  · rw [if_neg (by decide)]; intro kq
                    intro a W K hC hd hK
                    have d85 : _ = _ := hd 85 (by decide)
                    have d84 : a.tmps[84]?.getD undef = .bool false := hd 84 (by decide)
                    first | (exact wpOp_skip rfl (wanted_of (want := false) (b := true) rfl rfl (by rw [eval_get]; exact d84)) (hK _ _ (Fr.refl _ _) hC rfl)) | (refine wpOp_want rfl (wanted_of (want := false) (b := false) rfl rfl (by rw [eval_get]; exact d84)) ?_)
                    all_goals (
                      go_wp2_with fail
                      exact hK _ _ (Fr.refl _ _) hC rfl)
                  · rw [if_neg (by decide)]; intro kq
                    intro a W K hC hd hK
                    have d19 : a.tmps[19]?.getD undef = .pointer (some ⟨q19, 0, none⟩) := hd 19 (by decide)
                    have d86 : a.tmps[86]?.getD undef = .bool false := hd 86 (by decide)
                    first | (exact wpOp_skip rfl (wanted_of (want := true) (b := false) rfl rfl (by rw [eval_get]; exact d86)) (hK _ _ (Fr.refl _ _) hC rfl)) | (refine wpOp_want rfl (wanted_of (want := true) (b := true) rfl rfl (by rw [eval_get]; exact d86)) ?_)
                    all_goals (
                      obtain ⟨x0, x1, xf⟩ := BlkAt.c2 (hM3.var.fr hC id)
                      obtain ⟨y0, y1, y2, y3, y4, y5, y6, y7, y8, yf⟩ := BlkAt.c9 (hb19.fr hC id)
                      go_wp2_with fail
                      exact hK _ _ (Fr.refl _ _) hC rfl)
                  · rw [if_neg (by decide)]; intro kq
                    intro a W K hC hd hK
                    have d87 : _ = _ := hd 87 (by decide)
                    have d86 : a.tmps[86]?.getD undef = .bool false := hd 86 (by decide)
                    first | (exact wpOp_skip rfl (wanted_of (want := true) (b := false) rfl rfl (by rw [eval_get]; exact d86)) (hK _ _ (Fr.refl _ _) hC rfl)) | (refine wpOp_want rfl (wanted_of (want := true) (b := true) rfl rfl (by rw [eval_get]; exact d86)) ?_)
                    all_goals (
                      obtain ⟨x0, x1, xf⟩ := BlkAt.c2 (hM3.var.fr hC id)
                      obtain ⟨y0, y1, y2, y3, y4, y5, y6, y7, y8, yf⟩ := BlkAt.c9 (hb19.fr hC id)
                      go_wp2_with fail
                      refine (hrf W).mono ?_
                      rintro e9 w9 ⟨rfl, f9⟩
                      exact hK _ _ f9 (hC.then' f9) rfl)
                  · rw [if_neg (by decide)]; intro kq
                    intro a W K hC hd hK
                    have d14 : a.tmps[14]?.getD undef = .pointer (some ⟨q, 0, none⟩) := hd 14 (by decide)
                    have d86 : a.tmps[86]?.getD undef = .bool false := hd 86 (by decide)
                    first | (exact wpOp_skip rfl (wanted_of (want := true) (b := false) rfl rfl (by rw [eval_get]; exact d86)) (hK _ _ (Fr.refl _ _) hC rfl)) | (refine wpOp_want rfl (wanted_of (want := true) (b := true) rfl rfl (by rw [eval_get]; exact d86)) ?_)
                    all_goals (
                      obtain ⟨x0, x1, xf⟩ := BlkAt.c2 (hM3.var.fr hC id)
                      obtain ⟨y0, y1, y2, y3, y4, y5, y6, y7, y8, yf⟩ := BlkAt.c9 (hb19.fr hC id)
                      go_wp2_with fail
                      exact hK _ _ (Fr.refl _ _) hC rfl)
                  · rw [if_neg (by decide)]; intro kq
                    intro a W K hC hd hK
                    have d89 : _ = _ := hd 89 (by decide)
                    have d86 : a.tmps[86]?.getD undef = .bool false := hd 86 (by decide)
                    first | (exact wpOp_skip rfl (wanted_of (want := true) (b := false) rfl rfl (by rw [eval_get]; exact d86)) (hK _ _ (Fr.refl _ _) hC rfl)) | (refine wpOp_want rfl (wanted_of (want := true) (b := true) rfl rfl (by rw [eval_get]; exact d86)) ?_)
                    all_goals (
                      obtain ⟨x0, x1, xf⟩ := BlkAt.c2 (hM3.var.fr hC id)
                      obtain ⟨y0, y1, y2, y3, y4, y5, y6, y7, y8, yf⟩ := BlkAt.c9 (hb19.fr hC id)
                      go_wp2_with fail
                      exact hK _ _ (Fr.refl _ _) hC rfl)
                  · rw [if_neg (by decide)]; intro kq
                    intro a W K hC hd hK
                    have d21 : a.tmps[21]?.getD undef = .int .i64 (-1) := hd 21 (by decide)
                    have d86 : a.tmps[86]?.getD undef = .bool false := hd 86 (by decide)
                    first | (exact wpOp_skip rfl (wanted_of (want := true) (b := false) rfl rfl (by rw [eval_get]; exact d86)) (hK _ _ (Fr.refl _ _) hC rfl)) | (refine wpOp_want rfl (wanted_of (want := true) (b := true) rfl rfl (by rw [eval_get]; exact d86)) ?_)
                    all_goals (
                      go_wp2_with fail
                      exact hK _ _ (Fr.refl _ _) hC rfl)
                  · rw [if_neg (by decide)]; intro kq
                    intro a W K hC hd hK
                    have d90 : _ = _ := hd 90 (by decide)
                    have d91 : _ = _ := hd 91 (by decide)
                    have d86 : a.tmps[86]?.getD undef = .bool false := hd 86 (by decide)
                    first | (exact wpOp_skip rfl (wanted_of (want := true) (b := false) rfl rfl (by rw [eval_get]; exact d86)) (hK _ _ (Fr.refl _ _) hC rfl)) | (refine wpOp_want rfl (wanted_of (want := true) (b := true) rfl rfl (by rw [eval_get]; exact d86)) ?_)
                    all_goals (
                      obtain ⟨x0, x1, xf⟩ := BlkAt.c2 (hM3.var.fr hC id)
                      obtain ⟨y0, y1, y2, y3, y4, y5, y6, y7, y8, yf⟩ := BlkAt.c9 (hb19.fr hC id)
                      go_wp2_with fail
                      exact hK _ _ (Fr.refl _ _) hC rfl)
                  · rw [if_neg (by decide)]; intro kq
                    intro a W K hC hd hK
                    have d92 : _ = _ := hd 92 (by decide)
                    have d86 : a.tmps[86]?.getD undef = .bool false := hd 86 (by decide)
                    first | (exact wpOp_skip rfl (wanted_of (want := true) (b := false) rfl rfl (by rw [eval_get]; exact d86)) (hK _ _ (Fr.refl _ _) hC rfl)) | (refine wpOp_want rfl (wanted_of (want := true) (b := true) rfl rfl (by rw [eval_get]; exact d86)) ?_)
                    all_goals (
                      obtain ⟨x0, x1, xf⟩ := BlkAt.c2 (hM3.var.fr hC id)
                      obtain ⟨y0, y1, y2, y3, y4, y5, y6, y7, y8, yf⟩ := BlkAt.c9 (hb19.fr hC id)
                      go_wp2_with fail
                      exact hK _ _ (Fr.refl _ _) hC rfl)
                  · rw [if_neg (by decide)]; intro kq
                    intro a W K hC hd hK
                    have d88 : _ = _ := hd 88 (by decide)
                    have d93 : _ = _ := hd 93 (by decide)
                    have d86 : a.tmps[86]?.getD undef = .bool false := hd 86 (by decide)
                    first | (exact wpOp_skip rfl (wanted_of (want := true) (b := false) rfl rfl (by rw [eval_get]; exact d86)) (hK _ _ (Fr.refl _ _) hC rfl)) | (refine wpOp_want rfl (wanted_of (want := true) (b := true) rfl rfl (by rw [eval_get]; exact d86)) ?_)
                    all_goals (
                      have hnq := HNQ.out
                      have hm := HMR.out
                      go_wp2_with fail
                      exact hK _ _ (Fr.refl _ _) hC rfl)
                  · rw [if_neg (by decide)]; intro kq
                    intro a W K hC hd hK
                    have d86 : a.tmps[86]?.getD undef = .bool false := hd 86 (by decide)
                    have d94 : _ = _ := hd 94 (by decide)
                    have d84 : a.tmps[84]?.getD undef = .bool false := hd 84 (by decide)
                    first | (exact wpOp_skip rfl (wanted_of (want := false) (b := true) rfl rfl (by rw [eval_get]; exact d84)) (hK _ _ (Fr.refl _ _) hC rfl)) | (refine wpOp_want rfl (wanted_of (want := false) (b := false) rfl rfl (by rw [eval_get]; exact d84)) ?_)
                    all_goals (
                      go_wp2_with fail
                      exact hK _ _ (Fr.refl _ _) hC rfl)
                  · rw [if_neg (by decide)]; intro kq
                    intro a W K hC hd hK
                    have d84 : a.tmps[84]?.getD undef = .bool false := hd 84 (by decide)
                    have d95 : a.tmps[95]?.getD undef = .bool false := hd 95 (by decide)
                    refine wpOp_plain rfl rfl ?_
                    go_wp2_with fail
                    exact hK _ _ (Fr.refl _ _) hC rfl
                  · rw [if_neg (by decide)]; intro kq
                    exact calm_mv 96 rfl rfl (Or.inl rfl) (Fr.refl _) (by decide) fun v w hd => hd
                  · rw [if_neg (by decide)]; intro kq
                    intro a W K hC hd hK
                    have d20 : a.tmps[20]?.getD undef = .bool false := hd 20 (by decide)
                    have d97 : a.tmps[97]?.getD undef = .bool false := hd 97 (by decide)
                    first | (exact wpOp_skip rfl (wanted_of (want := false) (b := true) rfl rfl (by rw [eval_get]; exact d97)) (hK _ _ (Fr.refl _ _) hC rfl)) | (refine wpOp_want rfl (wanted_of (want := false) (b := false) rfl rfl (by rw [eval_get]; exact d97)) ?_)
                    all_goals (
                      go_wp2_with fail
                      exact hK _ _ (Fr.refl _ _) hC rfl)
                  · rw [if_neg (by decide)]; intro kq
                    intro a W K hC hd hK
                    have d98 : _ = _ := hd 98 (by decide)
                    have d97 : a.tmps[97]?.getD undef = .bool false := hd 97 (by decide)
                    first | (exact wpOp_skip rfl (wanted_of (want := false) (b := true) rfl rfl (by rw [eval_get]; exact d97)) (hK _ _ (Fr.refl _ _) hC rfl)) | (refine wpOp_want rfl (wanted_of (want := false) (b := false) rfl rfl (by rw [eval_get]; exact d97)) ?_)
                    all_goals (
                      go_wp2_with fail
                      exact hK _ _ (Fr.refl _ _) hC rfl)
                  · rw [if_neg (by decide)]; intro kq
                    intro a W K hC hd hK
                    have d99 : a.tmps[99]?.getD undef = .bool true := hd 99 (by decide)
                    have d97 : a.tmps[97]?.getD undef = .bool false := hd 97 (by decide)
                    first | (exact wpOp_skip rfl (wanted_of (want := false) (b := true) rfl rfl (by rw [eval_get]; exact d97)) (hK _ _ (Fr.refl _ _) hC rfl)) | (refine wpOp_want rfl (wanted_of (want := false) (b := false) rfl rfl (by rw [eval_get]; exact d97)) ?_)
                    all_goals (
                      go_wp2_with fail
                      exact hK _ _ (Fr.refl _ _) hC rfl)
                  · rw [if_neg (by decide)]; intro kq
                    intro a W K hC hd hK
                    have d19 : a.tmps[19]?.getD undef = .pointer (some ⟨q19, 0, none⟩) := hd 19 (by decide)
                    have d100 : a.tmps[100]?.getD undef = .bool true := hd 100 (by decide)
                    first | (exact wpOp_skip rfl (wanted_of (want := true) (b := false) rfl rfl (by rw [eval_get]; exact d100)) (hK _ _ (Fr.refl _ _) hC rfl)) | (refine wpOp_want rfl (wanted_of (want := true) (b := true) rfl rfl (by rw [eval_get]; exact d100)) ?_)
                    all_goals (
                      obtain ⟨x0, x1, xf⟩ := BlkAt.c2 (hM3.var.fr hC id)
                      obtain ⟨y0, y1, y2, y3, y4, y5, y6, y7, y8, yf⟩ := BlkAt.c9 (hb19.fr hC id)
                      go_wp2_with fail
                      exact hK _ _ (Fr.refl _ _) hC rfl)
                  · rw [if_neg (by decide)]; intro kq
                    intro a W K hC hd hK
                    have d100 : a.tmps[100]?.getD undef = .bool true := hd 100 (by decide)
                    first | (exact wpOp_skip rfl (wanted_of (want := true) (b := false) rfl rfl (by rw [eval_get]; exact d100)) (hK _ _ (Fr.refl _ _) hC rfl)) | (refine wpOp_want rfl (wanted_of (want := true) (b := true) rfl rfl (by rw [eval_get]; exact d100)) ?_)
                    all_goals (
                      go_wp2_with fail
                      exact hK _ _ (Fr.refl _ _) hC rfl)
                  · rw [if_neg (by decide)]; intro kq
                    intro a W K hC hd hK
                    have d101 : _ = _ := hd 101 (by decide)
                    have d102 : _ = _ := hd 102 (by decide)
                    have d100 : a.tmps[100]?.getD undef = .bool true := hd 100 (by decide)
                    first | (exact wpOp_skip rfl (wanted_of (want := true) (b := false) rfl rfl (by rw [eval_get]; exact d100)) (hK _ _ (Fr.refl _ _) hC rfl)) | (refine wpOp_want rfl (wanted_of (want := true) (b := true) rfl rfl (by rw [eval_get]; exact d100)) ?_)
                    all_goals (
                      have hnq := HNQZ.out
                      have hm := HMN.out
                      go_wp2_with fail
                      exact hK _ _ (Fr.refl _ _) hC rfl)
                  · rw [if_neg (by decide)]; intro kq
                    intro a W K hC hd hK
                    have d100 : a.tmps[100]?.getD undef = .bool true := hd 100 (by decide)
                    have d103 : _ = _ := hd 103 (by decide)
                    have d97 : a.tmps[97]?.getD undef = .bool false := hd 97 (by decide)
                    first | (exact wpOp_skip rfl (wanted_of (want := false) (b := true) rfl rfl (by rw [eval_get]; exact d97)) (hK _ _ (Fr.refl _ _) hC rfl)) | (refine wpOp_want rfl (wanted_of (want := false) (b := false) rfl rfl (by rw [eval_get]; exact d97)) ?_)
                    all_goals (
                      go_wp2_with fail
                      exact hK _ _ (Fr.refl _ _) hC rfl)
                  · rw [if_neg (by decide)]; intro kq
                    intro a W K hC hd hK
                    have d97 : a.tmps[97]?.getD undef = .bool false := hd 97 (by decide)
                    have d104 : a.tmps[104]?.getD undef = .bool false := hd 104 (by decide)
                    refine wpOp_plain rfl rfl ?_
                    go_wp2_with fail
                    exact hK _ _ (Fr.refl _ _) hC rfl
                  · rw [if_neg (by decide)]; intro kq
                    exact calm_mv 105 rfl rfl (Or.inl rfl) (Fr.refl _) (by decide) fun v w hd => hd
                  · rw [if_neg (by decide)]; intro kq
                    intro a W K hC hd hK
                    have d13 : a.tmps[13]?.getD undef = .pointer (some ⟨p, 0, none⟩) := hd 13 (by decide)
                    have d106 : a.tmps[106]?.getD undef = .bool false := hd 106 (by decide)
                    first | (exact wpOp_skip rfl (wanted_of (want := false) (b := true) rfl rfl (by rw [eval_get]; exact d106)) (hK _ _ (Fr.refl _ _) hC rfl)) | (refine wpOp_want rfl (wanted_of (want := false) (b := false) rfl rfl (by rw [eval_get]; exact d106)) ?_)
                    all_goals (
                      go_wp2_with fail
                      exact hK _ _ (Fr.refl _ _) hC rfl)
                  · rw [if_neg (by decide)]; intro kq
                    intro a W K hC hd hK
                    have d18 : a.tmps[18]?.getD undef = .int .u64 kx := hd 18 (by decide)
                    have d106 : a.tmps[106]?.getD undef = .bool false := hd 106 (by decide)
                    first | (exact wpOp_skip rfl (wanted_of (want := false) (b := true) rfl rfl (by rw [eval_get]; exact d106)) (hK _ _ (Fr.refl _ _) hC rfl)) | (refine wpOp_want rfl (wanted_of (want := false) (b := false) rfl rfl (by rw [eval_get]; exact d106)) ?_)
                    all_goals (
                      go_wp2_with fail
                      exact hK _ _ (Fr.refl _ _) hC rfl)
                  · rw [if_neg (by decide)]; intro kq
                    intro a W K hC hd hK
                    have d107 : _ = _ := hd 107 (by decide)
                    have d108 : _ = _ := hd 108 (by decide)
                    have d106 : a.tmps[106]?.getD undef = .bool false := hd 106 (by decide)
                    first | (exact wpOp_skip rfl (wanted_of (want := false) (b := true) rfl rfl (by rw [eval_get]; exact d106)) (hK _ _ (Fr.refl _ _) hC rfl)) | (refine wpOp_want rfl (wanted_of (want := false) (b := false) rfl rfl (by rw [eval_get]; exact d106)) ?_)
                    all_goals (
                      obtain ⟨x0, x1, xf⟩ := BlkAt.c2 (hM3.var.fr hC id)
                      obtain ⟨y0, y1, y2, y3, y4, y5, y6, y7, y8, yf⟩ := BlkAt.c9 (hb19.fr hC id)
                      go_wp2_with fail
                      refine (hfr W (hM3.log.fr0 hC)).mono ?_
                      rintro e9 w9 ⟨A9, n9, c9, rfl, hn9, h9, f9⟩
                      exact hK _ _ f9 (hC.then' f9) ⟨A9, n9, c9, rfl, hn9, own_mono h9 (fun _ _ => Nat.zero_le _)⟩)
                  · rw [if_neg (by decide)]; intro kq
                    intro a W K hC hd hK
                    have d14 : a.tmps[14]?.getD undef = .pointer (some ⟨q, 0, none⟩) := hd 14 (by decide)
                    have d106 : a.tmps[106]?.getD undef = .bool false := hd 106 (by decide)
                    first | (exact wpOp_skip rfl (wanted_of (want := false) (b := true) rfl rfl (by rw [eval_get]; exact d106)) (hK _ _ (Fr.refl _ _) hC rfl)) | (refine wpOp_want rfl (wanted_of (want := false) (b := false) rfl rfl (by rw [eval_get]; exact d106)) ?_)
                    all_goals (
                      obtain ⟨x0, x1, xf⟩ := BlkAt.c2 (hM3.var.fr hC id)
                      obtain ⟨y0, y1, y2, y3, y4, y5, y6, y7, y8, yf⟩ := BlkAt.c9 (hb19.fr hC id)
                      go_wp2_with fail
                      exact hK _ _ (Fr.refl _ _) hC rfl)
                  · rw [if_neg (by decide)]; intro kq
                    intro a W K hC hd hK
                    have d18 : a.tmps[18]?.getD undef = .int .u64 kx := hd 18 (by decide)
                    have d106 : a.tmps[106]?.getD undef = .bool false := hd 106 (by decide)
                    first | (exact wpOp_skip rfl (wanted_of (want := false) (b := true) rfl rfl (by rw [eval_get]; exact d106)) (hK _ _ (Fr.refl _ _) hC rfl)) | (refine wpOp_want rfl (wanted_of (want := false) (b := false) rfl rfl (by rw [eval_get]; exact d106)) ?_)
                    all_goals (
                      go_wp2_with fail
                      exact hK _ _ (Fr.refl _ _) hC rfl)
                  · rw [if_neg (by decide)]; intro kq
                    intro a W K hC hd hK
                    have d110 : _ = _ := hd 110 (by decide)
                    have d111 : _ = _ := hd 111 (by decide)
                    have d106 : a.tmps[106]?.getD undef = .bool false := hd 106 (by decide)
                    first | (exact wpOp_skip rfl (wanted_of (want := false) (b := true) rfl rfl (by rw [eval_get]; exact d106)) (hK _ _ (Fr.refl _ _) hC rfl)) | (refine wpOp_want rfl (wanted_of (want := false) (b := false) rfl rfl (by rw [eval_get]; exact d106)) ?_)
                    all_goals (
                      obtain ⟨x0, x1, xf⟩ := BlkAt.c2 (hM3.var.fr hC id)
                      obtain ⟨y0, y1, y2, y3, y4, y5, y6, y7, y8, yf⟩ := BlkAt.c9 (hb19.fr hC id)
                      go_wp2_with fail
                      refine (hfrR W (hM3.ref.fr0 hC)).mono ?_
                      rintro e9 w9 ⟨A9, n9, c9, rfl, hn9, h9, f9⟩
                      exact hK _ _ f9 (hC.then' f9) ⟨A9, n9, c9, rfl, RefA.of_own hn9 h9⟩)
                  · rw [if_neg (by decide)]; intro kq
                    intro a W K hC hd hK
                    have d109 : (OwnE 0 noB (fun _ _ h => h) fl).V (a.tmps[109]?.getD undef) W := hd 109 (by decide)
                    have d112 : (OwnR fl).V (a.tmps[112]?.getD undef) W := hd 112 (by decide)
                    have d106 : a.tmps[106]?.getD undef = .bool false := hd 106 (by decide)
                    first | (exact wpOp_skip rfl (wanted_of (want := false) (b := true) rfl rfl (by rw [eval_get]; exact d106)) (hK _ _ (Fr.refl _ _) hC rfl)) | (refine wpOp_want rfl (wanted_of (want := false) (b := false) rfl rfl (by rw [eval_get]; exact d106)) ?_)
                    all_goals (
                      obtain ⟨x0, x1, xf⟩ := BlkAt.c2 (hM3.var.fr hC id)
                      obtain ⟨y0, y1, y2, y3, y4, y5, y6, y7, y8, yf⟩ := BlkAt.c9 (hb19.fr hC id)
                      obtain ⟨A8, n8, c8, d109, hn8, h8⟩ := d109
                      obtain ⟨A9, n9, c9, d112, h9⟩ := d112
                      go_wp2_with fail
                      refine (hsmE W A8 n8 c8 A9 n9 c9 (RefA.of_own hn8 h8) h9).mono ?_
                      rintro e9 w9 ⟨rfl, f9⟩
                      exact hK _ _ f9 (hC.then' f9) rfl)
                  · rw [if_neg (by decide)]; intro kq
                    intro a W K hC hd hK
                    have d113 : a.tmps[113]?.getD undef = .bool true := hd 113 (by decide)
                    have d106 : a.tmps[106]?.getD undef = .bool false := hd 106 (by decide)
                    first | (exact wpOp_skip rfl (wanted_of (want := false) (b := true) rfl rfl (by rw [eval_get]; exact d106)) (hK _ _ (Fr.refl _ _) hC rfl)) | (refine wpOp_want rfl (wanted_of (want := false) (b := false) rfl rfl (by rw [eval_get]; exact d106)) ?_)
                    all_goals (
                      go_wp2_with fail
                      exact hK _ _ (Fr.refl _ _) hC rfl)
                  · rw [if_neg (by decide)]; intro kq
                    intro a W K hC hd hK
                    have d106 : a.tmps[106]?.getD undef = .bool false := hd 106 (by decide)
                    have d114 : a.tmps[114]?.getD undef = .bool false := hd 114 (by decide)
                    refine wpOp_plain rfl rfl ?_
                    go_wp2_with fail
                    exact hK _ _ (Fr.refl _ _) hC rfl
                · intro vs w10 fw10 cw10 hV
                  have v80 : vs 0 = _ := hV 0 _ _ rfl rfl (by decide)
                  have v81 : vs 1 = _ := hV 1 _ _ rfl rfl (by decide)
                  have v82 : vs 2 = .bool false := hV 2 _ _ rfl rfl (by decide)
                  have v83 : vs 3 = .bool false := hV 3 _ _ rfl rfl (by decide)
                  have v84 : vs 4 = .bool false := hV 4 _ _ rfl rfl (by decide)
                  have v85 : vs 5 = _ := hV 5 _ _ rfl rfl (by decide)
                  have v86 : vs 6 = .bool false := hV 6 _ _ rfl rfl (by decide)
                  have v87 : vs 7 = _ := hV 7 _ _ rfl rfl (by decide)
                  have v88 : vs 8 = _ := hV 8 _ _ rfl rfl (by decide)
                  have v89 : vs 9 = _ := hV 9 _ _ rfl rfl (by decide)
                  have v90 : vs 10 = _ := hV 10 _ _ rfl rfl (by decide)
                  have v91 : vs 11 = _ := hV 11 _ _ rfl rfl (by decide)
                  have v92 : vs 12 = _ := hV 12 _ _ rfl rfl (by decide)
                  have v93 : vs 13 = _ := hV 13 _ _ rfl rfl (by decide)
                  have v94 : vs 14 = _ := hV 14 _ _ rfl rfl (by decide)
                  have v95 : vs 15 = .bool false := hV 15 _ _ rfl rfl (by decide)
                  have v96 : vs 16 = .bool false := hV 16 _ _ rfl rfl (by decide)
                  have v97 : vs 17 = .bool false := hV 17 _ _ rfl rfl (by decide)
                  have v98 : vs 18 = _ := hV 18 _ _ rfl rfl (by decide)
                  have v99 : vs 19 = .bool true := hV 19 _ _ rfl rfl (by decide)
                  have v100 : vs 20 = .bool true := hV 20 _ _ rfl rfl (by decide)
                  have v101 : vs 21 = _ := hV 21 _ _ rfl rfl (by decide)
                  have v102 : vs 22 = _ := hV 22 _ _ rfl rfl (by decide)
                  have v103 : vs 23 = _ := hV 23 _ _ rfl rfl (by decide)
                  have v104 : vs 24 = .bool false := hV 24 _ _ rfl rfl (by decide)
                  have v105 : vs 25 = .bool false := hV 25 _ _ rfl rfl (by decide)
                  have v106 : vs 26 = .bool false := hV 26 _ _ rfl rfl (by decide)
                  have v107 : vs 27 = _ := hV 27 _ _ rfl rfl (by decide)
                  have v108 : vs 28 = _ := hV 28 _ _ rfl rfl (by decide)
                  have v109 : (OwnE 0 noB (fun _ _ h => h) fl).V (vs 29) w10 := hV 29 _ _ rfl rfl (by decide)
                  have v110 : vs 30 = _ := hV 30 _ _ rfl rfl (by decide)
                  have v111 : vs 31 = _ := hV 31 _ _ rfl rfl (by decide)
                  have v112 : (OwnR fl).V (vs 32) w10 := hV 32 _ _ rfl rfl (by decide)
                  have v113 : vs 33 = .bool true := hV 33 _ _ rfl rfl (by decide)
                  have v114 : vs 34 = .bool false := hV 34 _ _ rfl rfl (by decide)
                  have v115 : vs 35 = .bool false := hV 35 _ _ rfl rfl (by decide)
                  clear hV
                  simp only [putL, Act.put, Nat.reduceAdd, List.setIfInBounds_toArray, List.set_cons_zero, List.set_cons_succ, v80, v81, v82, v83, v84, v85, v86, v87, v88, v89, v90, v91, v92, v93, v94, v95, v96, v97, v98, v99, v100, v101, v102, v103, v104, v105, v106, v107, v108, v110, v111, v113, v114, v115]
                  have F10 := F3.then' fw10
                  have hM10 := hM3.fr0 fw10
                  clear fw10 cw10 hb19 hrf
                  obtain ⟨x0, x1, xf⟩ := BlkAt.c2 hM10.var
                  have hpn := pendL_calls w10 (exP p q A) p b node kx es hM10.log (by rw [hnl.out]; omega)
                  have hpr := fun W (f : Fr noB w10 W) => pendR_calls W b n c node kx A es (hM10.ref.fr0 f) (by omega)
                  have hpv : (pendO es node kx).getD 0 = pendV es node kx := rfl
                  have hpt := pend_there hM10.good node kx
                  rw [hpv] at hpn
                  generalize (pendO es node kx).isSome = pis at *
                  generalize pendV es node kx = pv at *
                  have hbb2 : (pis == pis) = true := by simp
                  go_wp2_with fail
                  refine hpn.mono ?_
                  rintro ed w11 ⟨rfl, f11⟩
                  clear hpn
                  clear x0 x1 xf
                  obtain ⟨x0, x1, xf⟩ := BlkAt.c2 (hM10.var.fr f11 id)
                  go_wp2_with fail
                  refine (hpr w11 f11).mono ?_
                  rintro ed w12 ⟨rfl, f12⟩
                  have F12 := (F10.then' f11).then' f12
                  clear hpr x0 x1 xf f11 f12
                  go_wp2_with fail
                  go_roundw
                  case rel => exact ⟨x + 1, by omega, by go_num, F12⟩
                  case measure => simp [intOf]; omega
              | some y =>
                obtain ⟨i, rfl, hi⟩ := hfs y rfl
                have hz : (Option.getD (some y) zeroE).v = y.v := rfl
                rw [hz]
                have hrf := fun W => ref19_calls W y
                have HNQ : Hid (∀ W, (binOp .neq 90 y.v y.v).run Tryd.prog W = .ok (.bool false) W) := fun W => by rw [enNeqR]; simp
                have hin : i < n := by have := (List.getElem?_eq_some_iff.1 hi).1; have := hnl.out; omega
                obtain ⟨a1, hA1⟩ := hM8.ref.row.some_flat (by simp [EnV.C]) hi
                subst hA1
                have hsg0 := hM8.ref.row
                have hsg := hsg0.seg 9 (fun _ => rfl) hi
                obtain ⟨op, view, cl, num, ⟨k, oa, ob, on, or⟩⟩ := y
                unfold EnV.v at HNQ hrf ⊢
                unfold EnV.C at hsg
                simp only [] at HNQ hrf hsg ⊢
                have fa := (Fr.refl noB w1).alloc (.cells #[.int .u64 op, .int .u64 view, .int .u8 cl, .int .u64 num, .int .u8 k, .string oa, .string ob, .int .u8 on, .int .u8 or] 42)
                have hb19 := BlkAt.new w1 #[.int .u64 op, .int .u64 view, .int .u8 cl, .int .u64 num, .int .u8 k, .string oa, .string ob, .int .u8 on, .int .u8 or] 42
                have F2 := F1.then' fa
                go_upto_region 14 with fail
                generalize (w1.alloc (.cells #[.int .u64 op, .int .u64 view, .int .u8 cl, .int .u64 num, .int .u8 k, .string oa, .string ob, .int .u8 on, .int .u8 or] 42)) = w2 at *
                obtain ⟨q19, hq19⟩ : ∃ z, w1.heap.size = z := ⟨_, rfl⟩
                rw [hq19] at hb19 ⊢
                have hM2 := hM8.fr0 F2
                obtain ⟨x0, x1, xf⟩ := BlkAt.c2 hM2.var
                clear hq19 F1 f1 fa hfx hMx hsg0 hi
                go_wp2_with fail
                refine (hfi w2 hM2.ref).mono ?_
                rintro ed w3 ⟨rfl, f3⟩
                have F3 := F2.then' f3
                have hM3 := hM8.fr0 F3
                replace hb19 := hb19.fr f3 id
                replace hsg := hsg.fr F3 id
                clear x0 x1 xf hfi f3 hM2 F2 hfn hfs
                go_wp2_with fail
                apply wp_region_calm (R := Fr noB) (C := fun _ W => Fr noB w3 W) [false, false, false, false, false, false, false, false, false, false, false, false, false, false, false, false, false, false, false, false, false, false, false, false, false, false, false, false, false, false, false, false, false, false, false, false]
                  [eqv _, eqv _, eqv (.bool true), eqv (.bool false), eqv (.bool false), eqv _, eqv (.bool true), eqv _, eqv _, eqv _, eqv _, eqv _, eqv _, eqv _, eqv (.bool false), eqv (.bool false), eqv (.bool false), eqv (.bool false), eqv _, eqv (.bool false), eqv (.bool false), eqv _, eqv _, eqv _, eqv (.bool false), eqv (.bool false), eqv (.bool false), eqv _, eqv _, OwnE 0 noB (fun _ _ h => h) fl, eqv _, eqv _, OwnR fl, eqv (.bool true), eqv (.bool false), eqv (.bool false)]
                  (by kernel_rfl) (by kernel_rfl) (fun _ _ _ h1 h2 => h1.then' h2) ((Fr.refl _ _).drew) ((Fr.refl _ _).drew) (by kernel_rfl)
                · refine ⟨?_, ?_, ?_, ?_, ?_, ?_, ?_, ?_, ?_, ?_, ?_, ?_, ?_, ?_, ?_, ?_, ?_, ?_, ?_, ?_, ?_, ?_, ?_, ?_, ?_, ?_, ?_, ?_, ?_, ?_, ?_, ?_, ?_, ?_, ?_, ?_, trivial⟩
                  · rw [if_neg (by decide)]; intro kq
                    exact calm_mv 20 rfl rfl (Or.inl rfl) (Fr.refl _) (by decide) fun v w hd => hd
                  · rw [if_neg (by decide)]; intro kq
                    exact calm_mv 21 rfl rfl (Or.inl rfl) (Fr.refl _) (by decide) fun v w hd => hd
                  · rw [if_neg (by decide)]; intro kq
                    intro a W K hC hd hK
                    have d81 : _ = _ := hd 81 (by decide)
                    refine wpOp_plain rfl rfl ?_
                    go_wp2_with fail
                    exact hK _ _ (Fr.refl _ _) hC rfl
                  · rw [if_neg (by decide)]; intro kq
                    intro a W K hC hd hK
                    have d80 : _ = _ := hd 80 (by decide)
                    have d82 : a.tmps[82]?.getD undef = .bool true := hd 82 (by decide)
                    refine wpOp_plain rfl rfl ?_
                    go_wp2_with fail
                    exact hK _ _ (Fr.refl _ _) hC rfl
                  · rw [if_neg (by decide)]; intro kq
                    exact calm_mv 83 rfl rfl (Or.inl rfl) (Fr.refl _) (by decide) fun v w hd => hd
                  · rw [if_neg (by decide)]; intro kq
                    intro a W K hC hd hK
                    have d20 : a.tmps[20]?.getD undef = .bool true := hd 20 (by decide)
                    have d84 : a.tmps[84]?.getD undef = .bool false := hd 84 (by decide)
                    first | (exact wpOp_skip rfl (wanted_of (want := false) (b := true) rfl rfl (by rw [eval_get]; exact d84)) (hK _ _ (Fr.refl _ _) hC rfl)) | (refine wpOp_want rfl (wanted_of (want := false) (b := false) rfl rfl (by rw [eval_get]; exact d84)) ?_)
                    all_goals (
                      go_wp2_with fail
                      exact hK _ _ (Fr.refl _ _) hC rfl)
                  · rw [if_neg (by decide)]; intro kq
                    intro a W K hC hd hK
                    have d85 : _ = _ := hd 85 (by decide)
                    have d84 : a.tmps[84]?.getD undef = .bool false := hd 84 (by decide)
                    first | (exact wpOp_skip rfl (wanted_of (want := false) (b := true) rfl rfl (by rw [eval_get]; exact d84)) (hK _ _ (Fr.refl _ _) hC rfl)) | (refine wpOp_want rfl (wanted_of (want := false) (b := false) rfl rfl (by rw [eval_get]; exact d84)) ?_)
                    all_goals (
                      go_wp2_with fail
                      exact hK _ _ (Fr.refl _ _) hC rfl)
                  · rw [if_neg (by decide)]; intro kq
                    intro a W K hC hd hK
                    have d19 : a.tmps[19]?.getD undef = .pointer (some ⟨q19, 0, none⟩) := hd 19 (by decide)
                    have d86 : a.tmps[86]?.getD undef = .bool true := hd 86 (by decide)
                    first | (exact wpOp_skip rfl (wanted_of (want := true) (b := false) rfl rfl (by rw [eval_get]; exact d86)) (hK _ _ (Fr.refl _ _) hC rfl)) | (refine wpOp_want rfl (wanted_of (want := true) (b := true) rfl rfl (by rw [eval_get]; exact d86)) ?_)
                    all_goals (
                      obtain ⟨x0, x1, xf⟩ := BlkAt.c2 (hM3.var.fr hC id)
                      obtain ⟨y0, y1, y2, y3, y4, y5, y6, y7, y8, yf⟩ := BlkAt.c9 (hb19.fr hC id)
                      obtain ⟨u0, u1, u2, u3, u4, u5, u6, u7, u8⟩ := (hsg.fr hC id).c9
                      go_wp2_with fail
                      exact hK _ _ (Fr.refl _ _) hC rfl)
                  · rw [if_neg (by decide)]; intro kq
                    intro a W K hC hd hK
                    have d87 : _ = _ := hd 87 (by decide)
                    have d86 : a.tmps[86]?.getD undef = .bool true := hd 86 (by decide)
                    first | (exact wpOp_skip rfl (wanted_of (want := true) (b := false) rfl rfl (by rw [eval_get]; exact d86)) (hK _ _ (Fr.refl _ _) hC rfl)) | (refine wpOp_want rfl (wanted_of (want := true) (b := true) rfl rfl (by rw [eval_get]; exact d86)) ?_)
                    all_goals (
                      obtain ⟨x0, x1, xf⟩ := BlkAt.c2 (hM3.var.fr hC id)
                      obtain ⟨y0, y1, y2, y3, y4, y5, y6, y7, y8, yf⟩ := BlkAt.c9 (hb19.fr hC id)
                      obtain ⟨u0, u1, u2, u3, u4, u5, u6, u7, u8⟩ := (hsg.fr hC id).c9
                      go_wp2_with fail
                      refine (hrf W).mono ?_
                      rintro e9 w9 ⟨rfl, f9⟩
                      exact hK _ _ f9 (hC.then' f9) rfl)
                  · rw [if_neg (by decide)]; intro kq
                    intro a W K hC hd hK
                    have d14 : a.tmps[14]?.getD undef = .pointer (some ⟨q, 0, none⟩) := hd 14 (by decide)
                    have d86 : a.tmps[86]?.getD undef = .bool true := hd 86 (by decide)
                    first | (exact wpOp_skip rfl (wanted_of (want := true) (b := false) rfl rfl (by rw [eval_get]; exact d86)) (hK _ _ (Fr.refl _ _) hC rfl)) | (refine wpOp_want rfl (wanted_of (want := true) (b := true) rfl rfl (by rw [eval_get]; exact d86)) ?_)
                    all_goals (
                      obtain ⟨x0, x1, xf⟩ := BlkAt.c2 (hM3.var.fr hC id)
                      obtain ⟨y0, y1, y2, y3, y4, y5, y6, y7, y8, yf⟩ := BlkAt.c9 (hb19.fr hC id)
                      obtain ⟨u0, u1, u2, u3, u4, u5, u6, u7, u8⟩ := (hsg.fr hC id).c9
                      go_wp2_with fail
                      exact hK _ _ (Fr.refl _ _) hC rfl)
                  · rw [if_neg (by decide)]; intro kq
                    intro a W K hC hd hK
                    have d89 : _ = _ := hd 89 (by decide)
                    have d86 : a.tmps[86]?.getD undef = .bool true := hd 86 (by decide)
                    first | (exact wpOp_skip rfl (wanted_of (want := true) (b := false) rfl rfl (by rw [eval_get]; exact d86)) (hK _ _ (Fr.refl _ _) hC rfl)) | (refine wpOp_want rfl (wanted_of (want := true) (b := true) rfl rfl (by rw [eval_get]; exact d86)) ?_)
                    all_goals (
                      obtain ⟨x0, x1, xf⟩ := BlkAt.c2 (hM3.var.fr hC id)
                      obtain ⟨y0, y1, y2, y3, y4, y5, y6, y7, y8, yf⟩ := BlkAt.c9 (hb19.fr hC id)
                      obtain ⟨u0, u1, u2, u3, u4, u5, u6, u7, u8⟩ := (hsg.fr hC id).c9
                      go_wp2_with fail
                      exact hK _ _ (Fr.refl _ _) hC rfl)
                  · rw [if_neg (by decide)]; intro kq
                    intro a W K hC hd hK
                    have d21 : a.tmps[21]?.getD undef = .int .i64 i := hd 21 (by decide)
                    have d86 : a.tmps[86]?.getD undef = .bool true := hd 86 (by decide)
                    first | (exact wpOp_skip rfl (wanted_of (want := true) (b := false) rfl rfl (by rw [eval_get]; exact d86)) (hK _ _ (Fr.refl _ _) hC rfl)) | (refine wpOp_want rfl (wanted_of (want := true) (b := true) rfl rfl (by rw [eval_get]; exact d86)) ?_)
                    all_goals (
                      go_wp2_with fail
                      exact hK _ _ (Fr.refl _ _) hC rfl)
                  · rw [if_neg (by decide)]; intro kq
                    intro a W K hC hd hK
                    have d90 : _ = _ := hd 90 (by decide)
                    have d91 : _ = _ := hd 91 (by decide)
                    have d86 : a.tmps[86]?.getD undef = .bool true := hd 86 (by decide)
                    first | (exact wpOp_skip rfl (wanted_of (want := true) (b := false) rfl rfl (by rw [eval_get]; exact d86)) (hK _ _ (Fr.refl _ _) hC rfl)) | (refine wpOp_want rfl (wanted_of (want := true) (b := true) rfl rfl (by rw [eval_get]; exact d86)) ?_)
                    all_goals (
                      obtain ⟨x0, x1, xf⟩ := BlkAt.c2 (hM3.var.fr hC id)
                      obtain ⟨y0, y1, y2, y3, y4, y5, y6, y7, y8, yf⟩ := BlkAt.c9 (hb19.fr hC id)
                      obtain ⟨u0, u1, u2, u3, u4, u5, u6, u7, u8⟩ := (hsg.fr hC id).c9
                      go_wp2_with fail
                      exact hK _ _ (Fr.refl _ _) hC rfl)
                  · rw [if_neg (by decide)]; intro kq
                    intro a W K hC hd hK
                    have d92 : _ = _ := hd 92 (by decide)
                    have d86 : a.tmps[86]?.getD undef = .bool true := hd 86 (by decide)
                    first | (exact wpOp_skip rfl (wanted_of (want := true) (b := false) rfl rfl (by rw [eval_get]; exact d86)) (hK _ _ (Fr.refl _ _) hC rfl)) | (refine wpOp_want rfl (wanted_of (want := true) (b := true) rfl rfl (by rw [eval_get]; exact d86)) ?_)
                    all_goals (
                      obtain ⟨x0, x1, xf⟩ := BlkAt.c2 (hM3.var.fr hC id)
                      obtain ⟨y0, y1, y2, y3, y4, y5, y6, y7, y8, yf⟩ := BlkAt.c9 (hb19.fr hC id)
                      obtain ⟨u0, u1, u2, u3, u4, u5, u6, u7, u8⟩ := (hsg.fr hC id).c9
                      go_wp2_with fail
                      exact hK _ _ (Fr.refl _ _) hC rfl)
                  · rw [if_neg (by decide)]; intro kq
                    intro a W K hC hd hK
                    have d88 : _ = _ := hd 88 (by decide)
                    have d93 : _ = _ := hd 93 (by decide)
                    have d86 : a.tmps[86]?.getD undef = .bool true := hd 86 (by decide)
                    first | (exact wpOp_skip rfl (wanted_of (want := true) (b := false) rfl rfl (by rw [eval_get]; exact d86)) (hK _ _ (Fr.refl _ _) hC rfl)) | (refine wpOp_want rfl (wanted_of (want := true) (b := true) rfl rfl (by rw [eval_get]; exact d86)) ?_)
                    all_goals (
                      have hnq := HNQ.out
                      have hm := HMR.out
                      go_wp2_with fail
                      exact hK _ _ (Fr.refl _ _) hC rfl)
                  · rw [if_neg (by decide)]; intro kq
                    intro a W K hC hd hK
                    have d86 : a.tmps[86]?.getD undef = .bool true := hd 86 (by decide)
                    have d94 : a.tmps[94]?.getD undef = .bool false := hd 94 (by decide)
                    have d84 : a.tmps[84]?.getD undef = .bool false := hd 84 (by decide)
                    first | (exact wpOp_skip rfl (wanted_of (want := false) (b := true) rfl rfl (by rw [eval_get]; exact d84)) (hK _ _ (Fr.refl _ _) hC rfl)) | (refine wpOp_want rfl (wanted_of (want := false) (b := false) rfl rfl (by rw [eval_get]; exact d84)) ?_)
                    all_goals (
                      go_wp2_with fail
                      exact hK _ _ (Fr.refl _ _) hC rfl)
                  · rw [if_neg (by decide)]; intro kq
                    intro a W K hC hd hK
                    have d84 : a.tmps[84]?.getD undef = .bool false := hd 84 (by decide)
                    have d95 : a.tmps[95]?.getD undef = .bool false := hd 95 (by decide)
                    refine wpOp_plain rfl rfl ?_
                    go_wp2_with fail
                    exact hK _ _ (Fr.refl _ _) hC rfl
                  · rw [if_neg (by decide)]; intro kq
                    exact calm_mv 96 rfl rfl (Or.inl rfl) (Fr.refl _) (by decide) fun v w hd => hd
                  · rw [if_neg (by decide)]; intro kq
                    intro a W K hC hd hK
                    have d20 : a.tmps[20]?.getD undef = .bool true := hd 20 (by decide)
                    have d97 : a.tmps[97]?.getD undef = .bool false := hd 97 (by decide)
                    first | (exact wpOp_skip rfl (wanted_of (want := false) (b := true) rfl rfl (by rw [eval_get]; exact d97)) (hK _ _ (Fr.refl _ _) hC rfl)) | (refine wpOp_want rfl (wanted_of (want := false) (b := false) rfl rfl (by rw [eval_get]; exact d97)) ?_)
                    all_goals (
                      go_wp2_with fail
                      exact hK _ _ (Fr.refl _ _) hC rfl)
                  · rw [if_neg (by decide)]; intro kq
                    intro a W K hC hd hK
                    have d98 : _ = _ := hd 98 (by decide)
                    have d97 : a.tmps[97]?.getD undef = .bool false := hd 97 (by decide)
                    first | (exact wpOp_skip rfl (wanted_of (want := false) (b := true) rfl rfl (by rw [eval_get]; exact d97)) (hK _ _ (Fr.refl _ _) hC rfl)) | (refine wpOp_want rfl (wanted_of (want := false) (b := false) rfl rfl (by rw [eval_get]; exact d97)) ?_)
                    all_goals (
                      go_wp2_with fail
                      exact hK _ _ (Fr.refl _ _) hC rfl)
                  · rw [if_neg (by decide)]; intro kq
                    intro a W K hC hd hK
                    have d99 : a.tmps[99]?.getD undef = .bool false := hd 99 (by decide)
                    have d97 : a.tmps[97]?.getD undef = .bool false := hd 97 (by decide)
                    first | (exact wpOp_skip rfl (wanted_of (want := false) (b := true) rfl rfl (by rw [eval_get]; exact d97)) (hK _ _ (Fr.refl _ _) hC rfl)) | (refine wpOp_want rfl (wanted_of (want := false) (b := false) rfl rfl (by rw [eval_get]; exact d97)) ?_)
                    all_goals (
                      go_wp2_with fail
                      exact hK _ _ (Fr.refl _ _) hC rfl)
                  · rw [if_neg (by decide)]; intro kq
                    intro a W K hC hd hK
                    have d19 : a.tmps[19]?.getD undef = .pointer (some ⟨q19, 0, none⟩) := hd 19 (by decide)
                    have d100 : a.tmps[100]?.getD undef = .bool false := hd 100 (by decide)
                    first | (exact wpOp_skip rfl (wanted_of (want := true) (b := false) rfl rfl (by rw [eval_get]; exact d100)) (hK _ _ (Fr.refl _ _) hC rfl)) | (refine wpOp_want rfl (wanted_of (want := true) (b := true) rfl rfl (by rw [eval_get]; exact d100)) ?_)
                    all_goals (
                      obtain ⟨x0, x1, xf⟩ := BlkAt.c2 (hM3.var.fr hC id)
                      obtain ⟨y0, y1, y2, y3, y4, y5, y6, y7, y8, yf⟩ := BlkAt.c9 (hb19.fr hC id)
                      obtain ⟨u0, u1, u2, u3, u4, u5, u6, u7, u8⟩ := (hsg.fr hC id).c9
                      go_wp2_with fail
                      exact hK _ _ (Fr.refl _ _) hC rfl)
                  · rw [if_neg (by decide)]; intro kq
                    intro a W K hC hd hK
                    have d100 : a.tmps[100]?.getD undef = .bool false := hd 100 (by decide)
                    first | (exact wpOp_skip rfl (wanted_of (want := true) (b := false) rfl rfl (by rw [eval_get]; exact d100)) (hK _ _ (Fr.refl _ _) hC rfl)) | (refine wpOp_want rfl (wanted_of (want := true) (b := true) rfl rfl (by rw [eval_get]; exact d100)) ?_)
                    all_goals (
                      go_wp2_with fail
                      exact hK _ _ (Fr.refl _ _) hC rfl)
                  · rw [if_neg (by decide)]; intro kq
                    intro a W K hC hd hK
                    have d101 : _ = _ := hd 101 (by decide)
                    have d102 : _ = _ := hd 102 (by decide)
                    have d100 : a.tmps[100]?.getD undef = .bool false := hd 100 (by decide)
                    first | (exact wpOp_skip rfl (wanted_of (want := true) (b := false) rfl rfl (by rw [eval_get]; exact d100)) (hK _ _ (Fr.refl _ _) hC rfl)) | (refine wpOp_want rfl (wanted_of (want := true) (b := true) rfl rfl (by rw [eval_get]; exact d100)) ?_)
                    all_goals (
                      have hnq := HNQZ.out
                      have hm := HMN.out
                      go_wp2_with fail
                      exact hK _ _ (Fr.refl _ _) hC rfl)
                  · rw [if_neg (by decide)]; intro kq
                    intro a W K hC hd hK
                    have d100 : a.tmps[100]?.getD undef = .bool false := hd 100 (by decide)
                    have d103 : _ = _ := hd 103 (by decide)
                    have d97 : a.tmps[97]?.getD undef = .bool false := hd 97 (by decide)
                    first | (exact wpOp_skip rfl (wanted_of (want := false) (b := true) rfl rfl (by rw [eval_get]; exact d97)) (hK _ _ (Fr.refl _ _) hC rfl)) | (refine wpOp_want rfl (wanted_of (want := false) (b := false) rfl rfl (by rw [eval_get]; exact d97)) ?_)
                    all_goals (
                      go_wp2_with fail
                      exact hK _ _ (Fr.refl _ _) hC rfl)
                  · rw [if_neg (by decide)]; intro kq
                    intro a W K hC hd hK
                    have d97 : a.tmps[97]?.getD undef = .bool false := hd 97 (by decide)
                    have d104 : a.tmps[104]?.getD undef = .bool false := hd 104 (by decide)
                    refine wpOp_plain rfl rfl ?_
                    go_wp2_with fail
                    exact hK _ _ (Fr.refl _ _) hC rfl
                  · rw [if_neg (by decide)]; intro kq
                    exact calm_mv 105 rfl rfl (Or.inl rfl) (Fr.refl _) (by decide) fun v w hd => hd
                  · rw [if_neg (by decide)]; intro kq
                    intro a W K hC hd hK
                    have d13 : a.tmps[13]?.getD undef = .pointer (some ⟨p, 0, none⟩) := hd 13 (by decide)
                    have d106 : a.tmps[106]?.getD undef = .bool false := hd 106 (by decide)
                    first | (exact wpOp_skip rfl (wanted_of (want := false) (b := true) rfl rfl (by rw [eval_get]; exact d106)) (hK _ _ (Fr.refl _ _) hC rfl)) | (refine wpOp_want rfl (wanted_of (want := false) (b := false) rfl rfl (by rw [eval_get]; exact d106)) ?_)
                    all_goals (
                      go_wp2_with fail
                      exact hK _ _ (Fr.refl _ _) hC rfl)
                  · rw [if_neg (by decide)]; intro kq
                    intro a W K hC hd hK
                    have d18 : a.tmps[18]?.getD undef = .int .u64 kx := hd 18 (by decide)
                    have d106 : a.tmps[106]?.getD undef = .bool false := hd 106 (by decide)
                    first | (exact wpOp_skip rfl (wanted_of (want := false) (b := true) rfl rfl (by rw [eval_get]; exact d106)) (hK _ _ (Fr.refl _ _) hC rfl)) | (refine wpOp_want rfl (wanted_of (want := false) (b := false) rfl rfl (by rw [eval_get]; exact d106)) ?_)
                    all_goals (
                      go_wp2_with fail
                      exact hK _ _ (Fr.refl _ _) hC rfl)
                  · rw [if_neg (by decide)]; intro kq
                    intro a W K hC hd hK
                    have d107 : _ = _ := hd 107 (by decide)
                    have d108 : _ = _ := hd 108 (by decide)
                    have d106 : a.tmps[106]?.getD undef = .bool false := hd 106 (by decide)
                    first | (exact wpOp_skip rfl (wanted_of (want := false) (b := true) rfl rfl (by rw [eval_get]; exact d106)) (hK _ _ (Fr.refl _ _) hC rfl)) | (refine wpOp_want rfl (wanted_of (want := false) (b := false) rfl rfl (by rw [eval_get]; exact d106)) ?_)
                    all_goals (
                      obtain ⟨x0, x1, xf⟩ := BlkAt.c2 (hM3.var.fr hC id)
                      obtain ⟨y0, y1, y2, y3, y4, y5, y6, y7, y8, yf⟩ := BlkAt.c9 (hb19.fr hC id)
                      obtain ⟨u0, u1, u2, u3, u4, u5, u6, u7, u8⟩ := (hsg.fr hC id).c9
                      go_wp2_with fail
                      refine (hfr W (hM3.log.fr0 hC)).mono ?_
                      rintro e9 w9 ⟨A9, n9, c9, rfl, hn9, h9, f9⟩
                      exact hK _ _ f9 (hC.then' f9) ⟨A9, n9, c9, rfl, hn9, own_mono h9 (fun _ _ => Nat.zero_le _)⟩)
                  · rw [if_neg (by decide)]; intro kq
                    intro a W K hC hd hK
                    have d14 : a.tmps[14]?.getD undef = .pointer (some ⟨q, 0, none⟩) := hd 14 (by decide)
                    have d106 : a.tmps[106]?.getD undef = .bool false := hd 106 (by decide)
                    first | (exact wpOp_skip rfl (wanted_of (want := false) (b := true) rfl rfl (by rw [eval_get]; exact d106)) (hK _ _ (Fr.refl _ _) hC rfl)) | (refine wpOp_want rfl (wanted_of (want := false) (b := false) rfl rfl (by rw [eval_get]; exact d106)) ?_)
                    all_goals (
                      obtain ⟨x0, x1, xf⟩ := BlkAt.c2 (hM3.var.fr hC id)
                      obtain ⟨y0, y1, y2, y3, y4, y5, y6, y7, y8, yf⟩ := BlkAt.c9 (hb19.fr hC id)
                      obtain ⟨u0, u1, u2, u3, u4, u5, u6, u7, u8⟩ := (hsg.fr hC id).c9
                      go_wp2_with fail
                      exact hK _ _ (Fr.refl _ _) hC rfl)
                  · rw [if_neg (by decide)]; intro kq
                    intro a W K hC hd hK
                    have d18 : a.tmps[18]?.getD undef = .int .u64 kx := hd 18 (by decide)
                    have d106 : a.tmps[106]?.getD undef = .bool false := hd 106 (by decide)
                    first | (exact wpOp_skip rfl (wanted_of (want := false) (b := true) rfl rfl (by rw [eval_get]; exact d106)) (hK _ _ (Fr.refl _ _) hC rfl)) | (refine wpOp_want rfl (wanted_of (want := false) (b := false) rfl rfl (by rw [eval_get]; exact d106)) ?_)
                    all_goals (
                      go_wp2_with fail
                      exact hK _ _ (Fr.refl _ _) hC rfl)
                  · rw [if_neg (by decide)]; intro kq
                    intro a W K hC hd hK
                    have d110 : _ = _ := hd 110 (by decide)
                    have d111 : _ = _ := hd 111 (by decide)
                    have d106 : a.tmps[106]?.getD undef = .bool false := hd 106 (by decide)
                    first | (exact wpOp_skip rfl (wanted_of (want := false) (b := true) rfl rfl (by rw [eval_get]; exact d106)) (hK _ _ (Fr.refl _ _) hC rfl)) | (refine wpOp_want rfl (wanted_of (want := false) (b := false) rfl rfl (by rw [eval_get]; exact d106)) ?_)
                    all_goals (
                      obtain ⟨x0, x1, xf⟩ := BlkAt.c2 (hM3.var.fr hC id)
                      obtain ⟨y0, y1, y2, y3, y4, y5, y6, y7, y8, yf⟩ := BlkAt.c9 (hb19.fr hC id)
                      obtain ⟨u0, u1, u2, u3, u4, u5, u6, u7, u8⟩ := (hsg.fr hC id).c9
                      go_wp2_with fail
                      refine (hfrR W (hM3.ref.fr0 hC)).mono ?_
                      rintro e9 w9 ⟨A9, n9, c9, rfl, hn9, h9, f9⟩
                      exact hK _ _ f9 (hC.then' f9) ⟨A9, n9, c9, rfl, RefA.of_own hn9 h9⟩)
                  · rw [if_neg (by decide)]; intro kq
                    intro a W K hC hd hK
                    have d109 : (OwnE 0 noB (fun _ _ h => h) fl).V (a.tmps[109]?.getD undef) W := hd 109 (by decide)
                    have d112 : (OwnR fl).V (a.tmps[112]?.getD undef) W := hd 112 (by decide)
                    have d106 : a.tmps[106]?.getD undef = .bool false := hd 106 (by decide)
                    first | (exact wpOp_skip rfl (wanted_of (want := false) (b := true) rfl rfl (by rw [eval_get]; exact d106)) (hK _ _ (Fr.refl _ _) hC rfl)) | (refine wpOp_want rfl (wanted_of (want := false) (b := false) rfl rfl (by rw [eval_get]; exact d106)) ?_)
                    all_goals (
                      obtain ⟨x0, x1, xf⟩ := BlkAt.c2 (hM3.var.fr hC id)
                      obtain ⟨y0, y1, y2, y3, y4, y5, y6, y7, y8, yf⟩ := BlkAt.c9 (hb19.fr hC id)
                      obtain ⟨u0, u1, u2, u3, u4, u5, u6, u7, u8⟩ := (hsg.fr hC id).c9
                      obtain ⟨A8, n8, c8, d109, hn8, h8⟩ := d109
                      obtain ⟨A9, n9, c9, d112, h9⟩ := d112
                      go_wp2_with fail
                      refine (hsmE W A8 n8 c8 A9 n9 c9 (RefA.of_own hn8 h8) h9).mono ?_
                      rintro e9 w9 ⟨rfl, f9⟩
                      exact hK _ _ f9 (hC.then' f9) rfl)
                  · rw [if_neg (by decide)]; intro kq
                    intro a W K hC hd hK
                    have d113 : a.tmps[113]?.getD undef = .bool true := hd 113 (by decide)
                    have d106 : a.tmps[106]?.getD undef = .bool false := hd 106 (by decide)
                    first | (exact wpOp_skip rfl (wanted_of (want := false) (b := true) rfl rfl (by rw [eval_get]; exact d106)) (hK _ _ (Fr.refl _ _) hC rfl)) | (refine wpOp_want rfl (wanted_of (want := false) (b := false) rfl rfl (by rw [eval_get]; exact d106)) ?_)
                    all_goals (
                      go_wp2_with fail
                      exact hK _ _ (Fr.refl _ _) hC rfl)
                  · rw [if_neg (by decide)]; intro kq
                    intro a W K hC hd hK
                    have d106 : a.tmps[106]?.getD undef = .bool false := hd 106 (by decide)
                    have d114 : a.tmps[114]?.getD undef = .bool false := hd 114 (by decide)
                    refine wpOp_plain rfl rfl ?_
                    go_wp2_with fail
                    exact hK _ _ (Fr.refl _ _) hC rfl
                · intro vs w10 fw10 cw10 hV
                  have v80 : vs 0 = _ := hV 0 _ _ rfl rfl (by decide)
                  have v81 : vs 1 = _ := hV 1 _ _ rfl rfl (by decide)
                  have v82 : vs 2 = .bool true := hV 2 _ _ rfl rfl (by decide)
                  have v83 : vs 3 = .bool false := hV 3 _ _ rfl rfl (by decide)
                  have v84 : vs 4 = .bool false := hV 4 _ _ rfl rfl (by decide)
                  have v85 : vs 5 = _ := hV 5 _ _ rfl rfl (by decide)
                  have v86 : vs 6 = .bool true := hV 6 _ _ rfl rfl (by decide)
                  have v87 : vs 7 = _ := hV 7 _ _ rfl rfl (by decide)
                  have v88 : vs 8 = _ := hV 8 _ _ rfl rfl (by decide)
                  have v89 : vs 9 = _ := hV 9 _ _ rfl rfl (by decide)
                  have v90 : vs 10 = _ := hV 10 _ _ rfl rfl (by decide)
                  have v91 : vs 11 = _ := hV 11 _ _ rfl rfl (by decide)
                  have v92 : vs 12 = _ := hV 12 _ _ rfl rfl (by decide)
                  have v93 : vs 13 = _ := hV 13 _ _ rfl rfl (by decide)
                  have v94 : vs 14 = .bool false := hV 14 _ _ rfl rfl (by decide)
                  have v95 : vs 15 = .bool false := hV 15 _ _ rfl rfl (by decide)
                  have v96 : vs 16 = .bool false := hV 16 _ _ rfl rfl (by decide)
                  have v97 : vs 17 = .bool false := hV 17 _ _ rfl rfl (by decide)
                  have v98 : vs 18 = _ := hV 18 _ _ rfl rfl (by decide)
                  have v99 : vs 19 = .bool false := hV 19 _ _ rfl rfl (by decide)
                  have v100 : vs 20 = .bool false := hV 20 _ _ rfl rfl (by decide)
                  have v101 : vs 21 = _ := hV 21 _ _ rfl rfl (by decide)
                  have v102 : vs 22 = _ := hV 22 _ _ rfl rfl (by decide)
                  have v103 : vs 23 = _ := hV 23 _ _ rfl rfl (by decide)
                  have v104 : vs 24 = .bool false := hV 24 _ _ rfl rfl (by decide)
                  have v105 : vs 25 = .bool false := hV 25 _ _ rfl rfl (by decide)
                  have v106 : vs 26 = .bool false := hV 26 _ _ rfl rfl (by decide)
                  have v107 : vs 27 = _ := hV 27 _ _ rfl rfl (by decide)
                  have v108 : vs 28 = _ := hV 28 _ _ rfl rfl (by decide)
                  have v109 : (OwnE 0 noB (fun _ _ h => h) fl).V (vs 29) w10 := hV 29 _ _ rfl rfl (by decide)
                  have v110 : vs 30 = _ := hV 30 _ _ rfl rfl (by decide)
                  have v111 : vs 31 = _ := hV 31 _ _ rfl rfl (by decide)
                  have v112 : (OwnR fl).V (vs 32) w10 := hV 32 _ _ rfl rfl (by decide)
                  have v113 : vs 33 = .bool true := hV 33 _ _ rfl rfl (by decide)
                  have v114 : vs 34 = .bool false := hV 34 _ _ rfl rfl (by decide)
                  have v115 : vs 35 = .bool false := hV 35 _ _ rfl rfl (by decide)
                  clear hV
                  simp only [putL, Act.put, Nat.reduceAdd, List.setIfInBounds_toArray, List.set_cons_zero, List.set_cons_succ, v80, v81, v82, v83, v84, v85, v86, v87, v88, v89, v90, v91, v92, v93, v94, v95, v96, v97, v98, v99, v100, v101, v102, v103, v104, v105, v106, v107, v108, v110, v111, v113, v114, v115]
                  have F10 := F3.then' fw10
                  have hM10 := hM3.fr0 fw10
                  clear fw10 cw10 hb19 hrf
                  obtain ⟨x0, x1, xf⟩ := BlkAt.c2 hM10.var
                  have hpn := pendL_calls w10 (exP p q (some a1)) p b node kx es hM10.log (by rw [hnl.out]; omega)
                  have hpr := fun W (f : Fr noB w10 W) => pendR_calls W b n c node kx (some a1) es (hM10.ref.fr0 f) (by omega)
                  have hpv : (pendO es node kx).getD 0 = pendV es node kx := rfl
                  have hpt := pend_there hM10.good node kx
                  rw [hpv] at hpn
                  generalize (pendO es node kx).isSome = pis at *
                  generalize pendV es node kx = pv at *
                  have hbb2 : (pis == pis) = true := by simp
                  go_wp2_with fail
                  refine hpn.mono ?_
                  rintro ed w11 ⟨rfl, f11⟩
                  clear hpn
                  clear x0 x1 xf
                  obtain ⟨x0, x1, xf⟩ := BlkAt.c2 (hM10.var.fr f11 id)
                  go_wp2_with fail
                  refine (hpr w11 f11).mono ?_
                  rintro ed w12 ⟨rfl, f12⟩
                  have F12 := (F10.then' f11).then' f12
                  clear hpr x0 x1 xf f11 f12
                  go_wp2_with fail
                  go_roundw
                  case rel => exact ⟨x + 1, by omega, by go_num, F12⟩
                  case measure => simp [intOf]; omega
            · have : x = 5 := by omega
              subst this
              clear hklt hrk
              have hMx := hM8.fr0 hfx
              have hfd := fun W h => findL_calls W (exP p q A) p b client number es h (by rw [hnl.out]; omega)
              have hhs := fun W h => hasR_calls W b n c client number A es h (by omega)
              generalize es.any (hasB2 client number) = hv at *
              have hbb : (hv == hv) = true := by simp
              go_wp2_with fail
              apply wp_region_calm (R := Fr noB) (C := fun _ W => Fr noB wr W) [false, false, false, false, false, false, false, false, false, false]
                [eqv _, eqv _, eqv _, eqv (.bool hv), eqv _, eqv _, eqv _, eqv (.bool hv), eqv (.bool true), eqv (.bool true)]
                (by kernel_rfl) (by kernel_rfl) (fun _ _ _ h1 h2 => h1.then' h2) ((Fr.refl _ _).drew) ((Fr.refl _ _).drew) (by kernel_rfl)
              · refine ⟨?_, ?_, ?_, ?_, ?_, ?_, ?_, ?_, ?_, ?_, trivial⟩
                · rw [if_neg (by decide)]; intro kq
                  exact calm_mv 13 rfl rfl (Or.inl rfl) (Fr.refl _) (by decide) fun v w hd => hd
                · rw [if_neg (by decide)]; intro kq
                  exact calm_mv 3 rfl rfl (Or.inl rfl) (Fr.refl _) (by decide) fun v w hd => hd
                · rw [if_neg (by decide)]; intro kq
                  exact calm_mv 5 rfl rfl (Or.inl rfl) (Fr.refl _) (by decide) fun v w hd => hd
                · rw [if_neg (by decide)]; intro kq
                  intro a W K hC hd hK
                  have d137 : _ = _ := hd 137 (by decide)
                  have d138 : _ = _ := hd 138 (by decide)
                  have d139 : _ = _ := hd 139 (by decide)
                  refine wpOp_plain rfl rfl ?_
                  obtain ⟨x0, x1, xf⟩ := BlkAt.c2 (hMx.var.fr hC id)
                  go_wp2_with fail
                  refine (hfd W (hMx.log.fr0 hC)).mono ?_
                  rintro e9 w9 ⟨rfl, f9⟩
                  exact hK _ _ f9 (hC.then' f9) rfl
                · rw [if_neg (by decide)]; intro kq
                  intro a W K hC hd hK
                  have d14 : a.tmps[14]?.getD undef = .pointer (some ⟨q, 0, none⟩) := hd 14 (by decide)
                  refine wpOp_plain rfl rfl ?_
                  obtain ⟨x0, x1, xf⟩ := BlkAt.c2 (hMx.var.fr hC id)
                  go_wp2_with fail
                  exact hK _ _ (Fr.refl _ _) hC rfl
                · rw [if_neg (by decide)]; intro kq
                  exact calm_mv 3 rfl rfl (Or.inl rfl) (Fr.refl _) (by decide) fun v w hd => hd
                · rw [if_neg (by decide)]; intro kq
                  exact calm_mv 5 rfl rfl (Or.inl rfl) (Fr.refl _) (by decide) fun v w hd => hd
                · rw [if_neg (by decide)]; intro kq
                  intro a W K hC hd hK
                  have d141 : _ = _ := hd 141 (by decide)
                  have d142 : _ = _ := hd 142 (by decide)
                  have d143 : _ = _ := hd 143 (by decide)
                  refine wpOp_plain rfl rfl ?_
                  obtain ⟨x0, x1, xf⟩ := BlkAt.c2 (hMx.var.fr hC id)
                  go_wp2_with fail
                  refine (hhs W (hMx.ref.fr0 hC)).mono ?_
                  rintro e9 w9 ⟨rfl, f9⟩
                  exact hK _ _ f9 (hC.then' f9) rfl
                · rw [if_neg (by decide)]; intro kq
                  intro a W K hC hd hK
                  have d140 : a.tmps[140]?.getD undef = .bool hv := hd 140 (by decide)
                  have d144 : a.tmps[144]?.getD undef = .bool hv := hd 144 (by decide)
                  refine wpOp_plain rfl rfl ?_
                  go_wp2_with fail
                  exact hK _ _ (Fr.refl _ _) hC rfl
                · rw [if_neg (by decide)]; intro kq
                  exact calm_mv 145 rfl rfl (Or.inr rfl) (Fr.refl _) (by decide) fun v w hd => hd
              · intro vs w9 fw9 cw9 hV
                have v137 : vs 0 = _ := hV 0 _ _ rfl rfl (by decide)
                have v138 : vs 1 = _ := hV 1 _ _ rfl rfl (by decide)
                have v139 : vs 2 = _ := hV 2 _ _ rfl rfl (by decide)
                have v140 : vs 3 = .bool hv := hV 3 _ _ rfl rfl (by decide)
                have v141 : vs 4 = _ := hV 4 _ _ rfl rfl (by decide)
                have v142 : vs 5 = _ := hV 5 _ _ rfl rfl (by decide)
                have v143 : vs 6 = _ := hV 6 _ _ rfl rfl (by decide)
                have v144 : vs 7 = .bool hv := hV 7 _ _ rfl rfl (by decide)
                have v145 : vs 8 = .bool true := hV 8 _ _ rfl rfl (by decide)
                have v12 : vs 9 = .bool true := hV 9 _ _ rfl rfl (by decide)
                clear hV
                simp only [putL, Act.put, Nat.reduceAdd, List.setIfInBounds_toArray, List.set_cons_zero, List.set_cons_succ, v137, v138, v139, v140, v141, v142, v143, v144, v145, v12]
                go_wp2_with fail
                go_ret
                exact BoolPost.mk' rfl (hMx.fr.then' fw9)
end Go.Proofs.YtcaihinenfnekaaDoor
/- Arguments that are read as data, as rows in memory. -/
namespace Go.Proofs.YtcaihinenfnekaaDoor
open Go.RowKit Go.ChangeShapes Go.WideShapes

theorem list1 {α : Type} {l : List α} (h : l.length = 1) : ∃ a0, l = [a0] :=
  match l, h with | [a0], _ => ⟨a0, rfl⟩
theorem list2 {α : Type} {l : List α} (h : l.length = 2) : ∃ a0 a1, l = [a0, a1] :=
  match l, h with | [a0, a1], _ => ⟨a0, a1, rfl⟩
theorem list3 {α : Type} {l : List α} (h : l.length = 3) : ∃ a0 a1 a2, l = [a0, a1, a2] :=
  match l, h with | [a0, a1, a2], _ => ⟨a0, a1, a2, rfl⟩
theorem list4 {α : Type} {l : List α} (h : l.length = 4) : ∃ a0 a1 a2 a3, l = [a0, a1, a2, a3] :=
  match l, h with | [a0, a1, a2, a3], _ => ⟨a0, a1, a2, a3, rfl⟩
theorem list5 {α : Type} {l : List α} (h : l.length = 5) : ∃ a0 a1 a2 a3 a4, l = [a0, a1, a2, a3, a4] :=
  match l, h with | [a0, a1, a2, a3, a4], _ => ⟨a0, a1, a2, a3, a4, rfl⟩
theorem list6 {α : Type} {l : List α} (h : l.length = 6) : ∃ a0 a1 a2 a3 a4 a5, l = [a0, a1, a2, a3, a4, a5] :=
  match l, h with | [a0, a1, a2, a3, a4, a5], _ => ⟨a0, a1, a2, a3, a4, a5, rfl⟩
theorem list7 {α : Type} {l : List α} (h : l.length = 7) : ∃ a0 a1 a2 a3 a4 a5 a6, l = [a0, a1, a2, a3, a4, a5, a6] :=
  match l, h with | [a0, a1, a2, a3, a4, a5, a6], _ => ⟨a0, a1, a2, a3, a4, a5, a6, rfl⟩
theorem list8 {α : Type} {l : List α} (h : l.length = 8) : ∃ a0 a1 a2 a3 a4 a5 a6 a7, l = [a0, a1, a2, a3, a4, a5, a6, a7] :=
  match l, h with | [a0, a1, a2, a3, a4, a5, a6, a7], _ => ⟨a0, a1, a2, a3, a4, a5, a6, a7, rfl⟩
theorem list9 {α : Type} {l : List α} (h : l.length = 9) : ∃ a0 a1 a2 a3 a4 a5 a6 a7 a8, l = [a0, a1, a2, a3, a4, a5, a6, a7, a8] :=
  match l, h with | [a0, a1, a2, a3, a4, a5, a6, a7, a8], _ => ⟨a0, a1, a2, a3, a4, a5, a6, a7, a8, rfl⟩
theorem list10 {α : Type} {l : List α} (h : l.length = 10) : ∃ a0 a1 a2 a3 a4 a5 a6 a7 a8 a9, l = [a0, a1, a2, a3, a4, a5, a6, a7, a8, a9] :=
  match l, h with | [a0, a1, a2, a3, a4, a5, a6, a7, a8, a9], _ => ⟨a0, a1, a2, a3, a4, a5, a6, a7, a8, a9, rfl⟩
theorem list11 {α : Type} {l : List α} (h : l.length = 11) : ∃ a0 a1 a2 a3 a4 a5 a6 a7 a8 a9 a10, l = [a0, a1, a2, a3, a4, a5, a6, a7, a8, a9, a10] :=
  match l, h with | [a0, a1, a2, a3, a4, a5, a6, a7, a8, a9, a10], _ => ⟨a0, a1, a2, a3, a4, a5, a6, a7, a8, a9, a10, rfl⟩
theorem list12 {α : Type} {l : List α} (h : l.length = 12) : ∃ a0 a1 a2 a3 a4 a5 a6 a7 a8 a9 a10 a11, l = [a0, a1, a2, a3, a4, a5, a6, a7, a8, a9, a10, a11] :=
  match l, h with | [a0, a1, a2, a3, a4, a5, a6, a7, a8, a9, a10, a11], _ => ⟨a0, a1, a2, a3, a4, a5, a6, a7, a8, a9, a10, a11, rfl⟩
theorem list13 {α : Type} {l : List α} (h : l.length = 13) : ∃ a0 a1 a2 a3 a4 a5 a6 a7 a8 a9 a10 a11 a12, l = [a0, a1, a2, a3, a4, a5, a6, a7, a8, a9, a10, a11, a12] :=
  match l, h with | [a0, a1, a2, a3, a4, a5, a6, a7, a8, a9, a10, a11, a12], _ => ⟨a0, a1, a2, a3, a4, a5, a6, a7, a8, a9, a10, a11, a12, rfl⟩
theorem list14 {α : Type} {l : List α} (h : l.length = 14) : ∃ a0 a1 a2 a3 a4 a5 a6 a7 a8 a9 a10 a11 a12 a13, l = [a0, a1, a2, a3, a4, a5, a6, a7, a8, a9, a10, a11, a12, a13] :=
  match l, h with | [a0, a1, a2, a3, a4, a5, a6, a7, a8, a9, a10, a11, a12, a13], _ => ⟨a0, a1, a2, a3, a4, a5, a6, a7, a8, a9, a10, a11, a12, a13, rfl⟩
theorem list15 {α : Type} {l : List α} (h : l.length = 15) : ∃ a0 a1 a2 a3 a4 a5 a6 a7 a8 a9 a10 a11 a12 a13 a14, l = [a0, a1, a2, a3, a4, a5, a6, a7, a8, a9, a10, a11, a12, a13, a14] :=
  match l, h with | [a0, a1, a2, a3, a4, a5, a6, a7, a8, a9, a10, a11, a12, a13, a14], _ => ⟨a0, a1, a2, a3, a4, a5, a6, a7, a8, a9, a10, a11, a12, a13, a14, rfl⟩
theorem list16 {α : Type} {l : List α} (h : l.length = 16) : ∃ a0 a1 a2 a3 a4 a5 a6 a7 a8 a9 a10 a11 a12 a13 a14 a15, l = [a0, a1, a2, a3, a4, a5, a6, a7, a8, a9, a10, a11, a12, a13, a14, a15] :=
  match l, h with | [a0, a1, a2, a3, a4, a5, a6, a7, a8, a9, a10, a11, a12, a13, a14, a15], _ => ⟨a0, a1, a2, a3, a4, a5, a6, a7, a8, a9, a10, a11, a12, a13, a14, a15, rfl⟩
section
variable {H : Type} {enc : TypeId × Value → H} {P : Program} {w : World}
theorem open_strs {t e : TypeId} {A : Option Addr} {len cap : Nat} {d : DataW H} {ps : List MemPlace} (ht : P.underlying t = some (.slice e)) (he : P.underlying e = some .string) (hc : P.cellsOf e = 1)
    (h : DataW.Trod enc P w 0 (fun _ => true) true t (.slice A len cap) d ps) :
    ∃ ss : List ByteArray, RowAt w A (strs ss) ∧ ss.length = len ∧ len ≤ cap ∧ cap ≤ maxLen ∧ (∀ s ∈ ss, s.size ≤ maxLen) ∧ (A = none → len = 0 ∧ cap = 0) := by
  obtain ⟨fuel, hf⟩ := h
  rcases open_strings ht he hc hf with ⟨hcs, _⟩ | ⟨a, l, c, ss, hcs, _, hl, hm, hz, _, hcell, hsz⟩
  · simp [Value.cells] at hcs
    obtain ⟨rfl, rfl, rfl⟩ := hcs
    exact ⟨[], RowAt.nil _ _, rfl, Nat.le_refl _, Nat.zero_le _, by simp, fun _ => ⟨rfl, rfl⟩⟩
  · simp [Value.cells] at hcs
    obtain ⟨rfl, rfl, rfl⟩ := hcs
    simp only [if_true] at hz
    refine ⟨ss.take len, fun j u hu => ⟨a, rfl, ?_⟩, by rw [List.length_take]; omega, hl, hm, fun s hs => hsz s (List.mem_of_mem_take hs), fun e => by cases e⟩
    have hj : j < (ss.take len).length := by have := (List.getElem?_eq_some_iff.1 hu).1; simpa [strs] using this
    have hj2 : j < ss.length := by rw [List.length_take] at hj; omega
    rw [hcell j hj2]
    simp only [strs, List.getElem?_map] at hu
    rw [List.getElem?_take, if_pos (by rw [List.length_take] at hj; omega), List.getElem?_eq_getElem hj2] at hu
    simp at hu
    rw [← hu, List.getD_eq_getElem?_getD, List.getElem?_eq_getElem hj2]
    rfl
theorem flat_inv {α β : Type} (f : α → List β) (m : Nat) : ∀ (l : List α), (∀ a ∈ l, (f a).length = m) → ∀ (j : Nat) (u : β), (l.flatMap f)[j]? = some u → ∃ i a k, l[i]? = some a ∧ (f a)[k]? = some u ∧ j = i * m + k
  | [], _, j, u, h => by simp at h
  | c :: l, hf, j, u, h => by
    have hc := hf c (List.mem_cons_self ..)
    rw [List.flatMap_cons] at h
    by_cases hj : j < m
    · rw [List.getElem?_append_left (by rw [hc]; exact hj)] at h
      exact ⟨0, c, j, rfl, h, by omega⟩
    · rw [List.getElem?_append_right (by rw [hc]; omega), hc] at h
      obtain ⟨i, a, k, h1, h2, h3⟩ := flat_inv f m l (fun a ha => hf a (List.mem_cons_of_mem _ ha)) _ _ h
      exact ⟨i + 1, a, k, by simpa using h1, h2, by rw [Nat.succ_mul]; omega⟩
/-- A slice of structs (or of whatever), each element by a lemma of its own. -/
theorem open_rows {t e : TypeId} {A : Option Addr} {len cap : Nat} {d : DataW H} {ps : List MemPlace} {α : Type} [Inhabited α] (f : α → List Value) (good : α → Prop) (ht : P.underlying t = some (.slice e))
    (each : ∀ n cs y, DataW.trod enc P w 0 (fun _ => true) true n e cs = some y → ∃ a, cs = f a ∧ good a)
    (h : DataW.Trod enc P w 0 (fun _ => true) true t (.slice A len cap) d ps) :
    ∃ l : List α, RowAt w A (l.flatMap f) ∧ l.length = len ∧ len ≤ cap ∧ cap ≤ maxLen ∧ (∀ a ∈ l, good a) ∧ (A = none → len = 0 ∧ cap = 0) := by
  obtain ⟨fuel, hf⟩ := h
  rcases Deep.open_slice ht hf with ⟨hcs, _⟩ | ⟨ad, l, c, m, n, D, Pl, hcs, _, hl, hm, hmm, _, hx⟩
  · simp [Value.cells] at hcs
    obtain ⟨rfl, rfl, rfl⟩ := hcs
    exact ⟨[], by simpa using RowAt.nil _ _, rfl, Nat.le_refl _, Nat.zero_le _, by simp, fun _ => ⟨rfl, rfl⟩⟩
  · simp [Value.cells] at hcs
    obtain ⟨rfl, rfl, rfl⟩ := hcs
    simp only [if_true] at hmm
    subst hmm
    obtain ⟨F, hF⟩ := Deep.choose_lt (α := α) (n := len) (p := fun i a => w.cells? 0 (ad.add (i * P.cellsOf e)) (P.cellsOf e) = some (f a) ∧ good a) (fun i hi => by
      obtain ⟨cs', h1, h2⟩ := hx i (by omega)
      obtain ⟨a, rfl, hg⟩ := each n cs' _ h2
      exact ⟨a, h1, hg⟩)
    have hlen : ∀ a ∈ (List.range len).map F, (f a).length = P.cellsOf e := by
      intro a ha
      obtain ⟨i, hi, rfl⟩ := List.mem_map.1 ha
      exact (World.cells?_some (hF i (List.mem_range.1 hi)).1).2.1
    refine ⟨(List.range len).map F, fun j u hu => ?_, by simp, hl, hm, fun a ha => ?_, fun e => by cases e⟩
    · obtain ⟨i, a, k, h1, h2, rfl⟩ := flat_inv f _ _ hlen j u hu
      obtain ⟨hi, h3⟩ : i < len ∧ F i = a := by
        rw [List.getElem?_map] at h1
        cases hr : (List.range len)[i]? with
        | none => rw [hr] at h1; simp at h1
        | some x =>
          rw [hr] at h1
          obtain ⟨hx1, hx2⟩ := List.getElem?_eq_some_iff.1 hr
          simp at hx1 hx2 h1
          subst hx2
          exact ⟨hx1, h1⟩
      subst h3
      obtain ⟨_, h4, h5⟩ := World.cells?_some (hF i hi).1
      have hk : k < P.cellsOf e := by rw [← h4]; exact (List.getElem?_eq_some_iff.1 h2).1
      refine ⟨ad, rfl, ?_⟩
      rw [← add_add', h5 k hk, h2]
    · obtain ⟨i, hi, rfl⟩ := List.mem_map.1 ha
      exact (hF i (List.mem_range.1 hi)).2
end
end Go.Proofs.YtcaihinenfnekaaDoor
/- Entries among the arguments. -/
namespace Go.Proofs.YtcaihinenfnekaaDoor
open Go.RowKit Go.ChangeShapes Go.WideShapes
theorem u8_natE {n : Int} (h : (Lit.int .u8 n).wf = true) : 0 ≤ n ∧ n < 256 := by
  simp [Lit.wf, IntKind.min, IntKind.max, IntKind.bits, IntKind.signed] at h; omega
theorem u64_natE {n : Int} (h : (Lit.int .u64 n).wf = true) : 0 ≤ n ∧ n ≤ 18446744073709551615 := by
  simp [Lit.wf, IntKind.min, IntKind.max, IntKind.bits, IntKind.signed] at h; omega
theorem listE_5 {α : Type} : ∀ {l : List α}, l.length = 5 → ∃ x0 x1 x2 x3 x4, l = [x0, x1, x2, x3, x4]
  | [x0, x1, x2, x3, x4], _ => ⟨x0, x1, x2, x3, x4, rfl⟩
theorem listE_3 {α : Type} : ∀ {l : List α}, l.length = 3 → ∃ x0 x1 x2, l = [x0, x1, x2]
  | [x0, x1, x2], _ => ⟨x0, x1, x2, rfl⟩
theorem listE_7 {α : Type} : ∀ {l : List α}, l.length = 7 → ∃ x0 x1 x2 x3 x4 x5 x6, l = [x0, x1, x2, x3, x4, x5, x6]
  | [x0, x1, x2, x3, x4, x5, x6], _ => ⟨x0, x1, x2, x3, x4, x5, x6, rfl⟩
theorem listE_9 {α : Type} : ∀ {l : List α}, l.length = 9 → ∃ x0 x1 x2 x3 x4 x5 x6 x7 x8, l = [x0, x1, x2, x3, x4, x5, x6, x7, x8]
  | [x0, x1, x2, x3, x4, x5, x6, x7, x8], _ => ⟨x0, x1, x2, x3, x4, x5, x6, x7, x8, rfl⟩
instance : Inhabited EnV := ⟨zeroE⟩
structure OpOKE (o : OpV) : Prop where
  wf : o.wf
  a : o.a.size ≤ maxLen
  b : o.b.size ≤ maxLen
structure EnOK (e : EnV) : Prop where
  wf : e.wf
  a : e.o.a.size ≤ maxLen
  b : e.o.b.size ≤ maxLen
section
variable {H : Type} {enc : TypeId × Value → H} {w : World}
set_option maxRecDepth 100000 in
theorem open_opE (n : Nat) (cs : List Value) (y : DataW H × List MemPlace) (h : DataW.trod enc Tryd.prog w 0 (fun _ => true) true n 38 cs = some y) :
    ∃ o : OpV, cs = [.int .u8 o.k, .string o.a, .string o.b, .int .u8 o.n, .int .u8 o.r] ∧ OpOKE o := by
  obtain ⟨xs, m, _, rfl, hl, hlen, hf⟩ := DataW.trod_struct Tryd.underlying38 h
  have ct : Tryd.prog.cellsOf 38 = 5 := by kernel_rfl
  have k0 : Tryd.prog.cellsOf 5 = 1 := by kernel_rfl
  have k1 : Tryd.prog.cellsOf 9 = 1 := by kernel_rfl
  have k2 : Tryd.prog.cellsOf 36 = 1 := by kernel_rfl
  rw [ct] at hl
  obtain ⟨v0, v1, v2, v3, v4, rfl⟩ := listE_5 hl
  obtain ⟨x0, x1, x2, x3, x4, rfl⟩ := listE_5 (show xs.length = 5 from hlen)
  have g0 : DataW.trod enc Tryd.prog w 0 (fun _ => true) true m 5 (([v0, v1, v2, v3, v4].drop 0).take (Tryd.prog.cellsOf 5)) = some x0 := by
    have := hf 0 _ rfl
    exact this
  rw [k0] at g0
  have f0 : DataW.trod enc Tryd.prog w 0 (fun _ => true) true m 5 [v0] = some x0 := g0
  have g1 : DataW.trod enc Tryd.prog w 0 (fun _ => true) true m 9 (([v0, v1, v2, v3, v4].drop 1).take (Tryd.prog.cellsOf 9)) = some x1 := by
    have := hf 1 _ rfl
    exact this
  rw [k1] at g1
  have f1 : DataW.trod enc Tryd.prog w 0 (fun _ => true) true m 9 [v1] = some x1 := g1
  have g2 : DataW.trod enc Tryd.prog w 0 (fun _ => true) true m 9 (([v0, v1, v2, v3, v4].drop 2).take (Tryd.prog.cellsOf 9)) = some x2 := by
    have := hf 2 _ rfl
    exact this
  rw [k1] at g2
  have f2 : DataW.trod enc Tryd.prog w 0 (fun _ => true) true m 9 [v2] = some x2 := g2
  have g3 : DataW.trod enc Tryd.prog w 0 (fun _ => true) true m 5 (([v0, v1, v2, v3, v4].drop 3).take (Tryd.prog.cellsOf 5)) = some x3 := by
    have := hf 3 _ rfl
    exact this
  rw [k0] at g3
  have f3 : DataW.trod enc Tryd.prog w 0 (fun _ => true) true m 5 [v3] = some x3 := g3
  have g4 : DataW.trod enc Tryd.prog w 0 (fun _ => true) true m 36 (([v0, v1, v2, v3, v4].drop 4).take (Tryd.prog.cellsOf 36)) = some x4 := by
    have := hf 4 _ rfl
    exact this
  rw [k2] at g4
  have f4 : DataW.trod enc Tryd.prog w 0 (fun _ => true) true m 36 [v4] = some x4 := g4
  obtain ⟨n0, e0, _, w0⟩ := DataW.trod_int Tryd.underlying5 f0
  simp only [List.cons.injEq, and_true] at e0
  subst e0
  obtain ⟨u0, hu0⟩ := u8_natE w0
  obtain ⟨m0, rfl⟩ := Int.eq_ofNat_of_zero_le u0
  obtain ⟨s1, e1, _, hs1⟩ := DataW.trod_string Tryd.underlying9 f1
  simp only [List.cons.injEq, and_true] at e1
  subst e1
  obtain ⟨s2, e2, _, hs2⟩ := DataW.trod_string Tryd.underlying9 f2
  simp only [List.cons.injEq, and_true] at e2
  subst e2
  obtain ⟨n3, e3, _, w3⟩ := DataW.trod_int Tryd.underlying5 f3
  simp only [List.cons.injEq, and_true] at e3
  subst e3
  obtain ⟨u3, hu3⟩ := u8_natE w3
  obtain ⟨m3, rfl⟩ := Int.eq_ofNat_of_zero_le u3
  obtain ⟨n4, e4, _, w4⟩ := DataW.trod_int Tryd.underlying36 f4
  simp only [List.cons.injEq, and_true] at e4
  subst e4
  obtain ⟨u4, hu4⟩ := u8_natE w4
  obtain ⟨m4, rfl⟩ := Int.eq_ofNat_of_zero_le u4
  exact ⟨⟨m0, s1, s2, m3, m4⟩, rfl, ⟨⟨by simp only []; omega, by simp only []; omega, by simp only []; omega⟩, hs1, hs2⟩⟩
set_option maxRecDepth 100000 in
theorem open_reqE (n : Nat) (cs : List Value) (y : DataW H × List MemPlace) (h : DataW.trod enc Tryd.prog w 0 (fun _ => true) true n 40 cs = some y) :
    ∃ q : EnV, cs = [.int .u8 q.cl, .int .u64 q.num, .int .u8 q.o.k, .string q.o.a, .string q.o.b, .int .u8 q.o.n, .int .u8 q.o.r] ∧ (q.cl < 256 ∧ q.num < 18446744073709551616 ∧ OpOKE q.o) := by
  obtain ⟨xs, m, _, rfl, hl, hlen, hf⟩ := DataW.trod_struct Tryd.underlying40 h
  have ct : Tryd.prog.cellsOf 40 = 7 := by kernel_rfl
  have k0 : Tryd.prog.cellsOf 5 = 1 := by kernel_rfl
  have k1 : Tryd.prog.cellsOf 32 = 1 := by kernel_rfl
  have k2 : Tryd.prog.cellsOf 38 = 5 := by kernel_rfl
  rw [ct] at hl
  obtain ⟨v0, v1, v2, v3, v4, v5, v6, rfl⟩ := listE_7 hl
  obtain ⟨x0, x1, x2, rfl⟩ := listE_3 (show xs.length = 3 from hlen)
  have g0 : DataW.trod enc Tryd.prog w 0 (fun _ => true) true m 5 (([v0, v1, v2, v3, v4, v5, v6].drop 0).take (Tryd.prog.cellsOf 5)) = some x0 := by
    have := hf 0 _ rfl
    exact this
  rw [k0] at g0
  have f0 : DataW.trod enc Tryd.prog w 0 (fun _ => true) true m 5 [v0] = some x0 := g0
  have g1 : DataW.trod enc Tryd.prog w 0 (fun _ => true) true m 32 (([v0, v1, v2, v3, v4, v5, v6].drop 1).take (Tryd.prog.cellsOf 32)) = some x1 := by
    have := hf 1 _ rfl
    exact this
  rw [k1] at g1
  have f1 : DataW.trod enc Tryd.prog w 0 (fun _ => true) true m 32 [v1] = some x1 := g1
  have g2 : DataW.trod enc Tryd.prog w 0 (fun _ => true) true m 38 (([v0, v1, v2, v3, v4, v5, v6].drop 2).take (Tryd.prog.cellsOf 38)) = some x2 := by
    have := hf 2 _ rfl
    exact this
  rw [k2] at g2
  have f2 : DataW.trod enc Tryd.prog w 0 (fun _ => true) true m 38 [v2, v3, v4, v5, v6] = some x2 := g2
  obtain ⟨n0, e0, _, w0⟩ := DataW.trod_int Tryd.underlying5 f0
  simp only [List.cons.injEq, and_true] at e0
  subst e0
  obtain ⟨u0, hu0⟩ := u8_natE w0
  obtain ⟨m0, rfl⟩ := Int.eq_ofNat_of_zero_le u0
  obtain ⟨n1, e1, _, w1⟩ := DataW.trod_int Tryd.underlying32 f1
  simp only [List.cons.injEq, and_true] at e1
  subst e1
  obtain ⟨u1, hu1⟩ := u64_natE w1
  obtain ⟨m1, rfl⟩ := Int.eq_ofNat_of_zero_le u1
  obtain ⟨o2, e2, h2⟩ := open_opE m _ _ f2
  simp only [and_true, List.cons.injEq, and_true] at e2
  obtain ⟨rfl, rfl, rfl, rfl, rfl⟩ := e2
  exact ⟨⟨0, 0, m0, m1, o2⟩, rfl, ⟨by simp only []; omega, by simp only []; omega, h2⟩⟩
set_option maxRecDepth 100000 in
theorem open_enE (n : Nat) (cs : List Value) (y : DataW H × List MemPlace) (h : DataW.trod enc Tryd.prog w 0 (fun _ => true) true n 42 cs = some y) :
    ∃ e : EnV, cs = e.C ∧ EnOK e := by
  obtain ⟨xs, m, _, rfl, hl, hlen, hf⟩ := DataW.trod_struct Tryd.underlying42 h
  have ct : Tryd.prog.cellsOf 42 = 9 := by kernel_rfl
  have k0 : Tryd.prog.cellsOf 32 = 1 := by kernel_rfl
  have k1 : Tryd.prog.cellsOf 40 = 7 := by kernel_rfl
  rw [ct] at hl
  obtain ⟨v0, v1, v2, v3, v4, v5, v6, v7, v8, rfl⟩ := listE_9 hl
  obtain ⟨x0, x1, x2, rfl⟩ := listE_3 (show xs.length = 3 from hlen)
  have g0 : DataW.trod enc Tryd.prog w 0 (fun _ => true) true m 32 (([v0, v1, v2, v3, v4, v5, v6, v7, v8].drop 0).take (Tryd.prog.cellsOf 32)) = some x0 := by
    have := hf 0 _ rfl
    exact this
  rw [k0] at g0
  have f0 : DataW.trod enc Tryd.prog w 0 (fun _ => true) true m 32 [v0] = some x0 := g0
  have g1 : DataW.trod enc Tryd.prog w 0 (fun _ => true) true m 32 (([v0, v1, v2, v3, v4, v5, v6, v7, v8].drop 1).take (Tryd.prog.cellsOf 32)) = some x1 := by
    have := hf 1 _ rfl
    exact this
  rw [k0] at g1
  have f1 : DataW.trod enc Tryd.prog w 0 (fun _ => true) true m 32 [v1] = some x1 := g1
  have g2 : DataW.trod enc Tryd.prog w 0 (fun _ => true) true m 40 (([v0, v1, v2, v3, v4, v5, v6, v7, v8].drop 2).take (Tryd.prog.cellsOf 40)) = some x2 := by
    have := hf 2 _ rfl
    exact this
  rw [k1] at g2
  have f2 : DataW.trod enc Tryd.prog w 0 (fun _ => true) true m 40 [v2, v3, v4, v5, v6, v7, v8] = some x2 := g2
  obtain ⟨n0, e0, _, w0⟩ := DataW.trod_int Tryd.underlying32 f0
  simp only [List.cons.injEq, and_true] at e0
  subst e0
  obtain ⟨u0, hu0⟩ := u64_natE w0
  obtain ⟨m0, rfl⟩ := Int.eq_ofNat_of_zero_le u0
  obtain ⟨n1, e1, _, w1⟩ := DataW.trod_int Tryd.underlying32 f1
  simp only [List.cons.injEq, and_true] at e1
  subst e1
  obtain ⟨u1, hu1⟩ := u64_natE w1
  obtain ⟨m1, rfl⟩ := Int.eq_ofNat_of_zero_le u1
  obtain ⟨o2, e2, h2⟩ := open_reqE m _ _ f2
  simp only [and_true, List.cons.injEq, and_true] at e2
  obtain ⟨rfl, rfl, rfl, rfl, rfl, rfl, rfl⟩ := e2
  exact ⟨⟨m0, m1, o2.cl, o2.num, o2.o⟩, rfl, ⟨⟨by simp only []; omega, by simp only []; omega, h2.1, h2.2.1, h2.2.2.wf⟩, h2.2.2.a, h2.2.2.b⟩⟩
theorem open_ens {A : Option Addr} {len cap : Nat} {d : DataW H} {ps : List MemPlace} (h : DataW.Trod enc Tryd.prog w 0 (fun _ => true) true 33 (.slice A len cap) d ps) :
    ∃ L : List EnV, RowAt w A (L.flatMap EnV.C) ∧ L.length = len ∧ len ≤ cap ∧ cap ≤ maxLen ∧ (∀ e ∈ L, EnOK e) ∧ (A = none → len = 0 ∧ cap = 0) := by
  obtain ⟨l, h1, h2, h3, h4, h5, h6⟩ := open_rows EnV.C EnOK Tryd.underlying33 open_enE h
  exact ⟨l, h1, h2, h3, h4, h5, h6⟩
set_option maxRecDepth 100000 in
theorem open_en {v : Value} {d : DataW H} {ps : List MemPlace} {r : Reach} {b0 : Nat} {W : World} (hv : Value.okWide Tryd.prog W r b0 42 v) (h : DataW.Trod enc Tryd.prog w 0 (fun _ => true) true 42 v d ps) :
    ∃ e : EnV, v = e.v ∧ EnOK e := by
  obtain ⟨cs, rfl, _⟩ := okWide_struct Tryd.underlying42 hv
  obtain ⟨m, hm⟩ := h
  obtain ⟨o, e, ho⟩ := open_enE m _ _ hm
  refine ⟨o, ?_, ho⟩
  have : cs.toList = o.C := e
  unfold EnV.v
  unfold EnV.C at this
  rw [← this]
end
end Go.Proofs.YtcaihinenfnekaaDoor
/- Acts on logs among the arguments. -/
namespace Go.Proofs.YtcaihinenfnekaaDoor
open Go.RowKit Go.ChangeShapes Go.WideShapes
theorem listE_11 {α : Type} : ∀ {l : List α}, l.length = 11 → ∃ x0 x1 x2 x3 x4 x5 x6 x7 x8 x9 x10, l = [x0, x1, x2, x3, x4, x5, x6, x7, x8, x9, x10]
  | [x0, x1, x2, x3, x4, x5, x6, x7, x8, x9, x10], _ => ⟨x0, x1, x2, x3, x4, x5, x6, x7, x8, x9, x10, rfl⟩
instance : Inhabited ActL := ⟨⟨0, zeroE, 0⟩⟩
section
variable {H : Type} {enc : TypeId × Value → H} {w : World}
theorem open_enC (n : Nat) (cs : List Value) (y : DataW H × List MemPlace) (h : DataW.trod enc Tryd.prog w 0 (fun _ => true) true n 42 cs = some y) :
    ∃ e : EnV, cs = [.int .u64 e.op, .int .u64 e.view, .int .u8 e.cl, .int .u64 e.num, .int .u8 e.o.k, .string e.o.a, .string e.o.b, .int .u8 e.o.n, .int .u8 e.o.r] ∧ EnOK e := open_enE n cs y h
set_option maxRecDepth 100000 in
theorem open_actL (n : Nat) (cs : List Value) (y : DataW H × List MemPlace) (h : DataW.trod enc Tryd.prog w 0 (fun _ => true) true n 57 cs = some y) :
    ∃ a : ActL, cs = a.C ∧ a.ok := by
  obtain ⟨xs, m, _, rfl, hl, hlen, hf⟩ := DataW.trod_struct Tryd.underlying57 h
  have ct : Tryd.prog.cellsOf 57 = 11 := by kernel_rfl
  have k0 : Tryd.prog.cellsOf 5 = 1 := by kernel_rfl
  have k1 : Tryd.prog.cellsOf 42 = 9 := by kernel_rfl
  have k2 : Tryd.prog.cellsOf 32 = 1 := by kernel_rfl
  rw [ct] at hl
  obtain ⟨v0, v1, v2, v3, v4, v5, v6, v7, v8, v9, v10, rfl⟩ := listE_11 hl
  obtain ⟨x0, x1, x2, rfl⟩ := listE_3 (show xs.length = 3 from hlen)
  have g0 : DataW.trod enc Tryd.prog w 0 (fun _ => true) true m 5 (([v0, v1, v2, v3, v4, v5, v6, v7, v8, v9, v10].drop 0).take (Tryd.prog.cellsOf 5)) = some x0 := by
    have := hf 0 _ rfl
    exact this
  rw [k0] at g0
  have f0 : DataW.trod enc Tryd.prog w 0 (fun _ => true) true m 5 [v0] = some x0 := g0
  have g1 : DataW.trod enc Tryd.prog w 0 (fun _ => true) true m 42 (([v0, v1, v2, v3, v4, v5, v6, v7, v8, v9, v10].drop 1).take (Tryd.prog.cellsOf 42)) = some x1 := by
    have := hf 1 _ rfl
    exact this
  rw [k1] at g1
  have f1 : DataW.trod enc Tryd.prog w 0 (fun _ => true) true m 42 [v1, v2, v3, v4, v5, v6, v7, v8, v9] = some x1 := g1
  have g2 : DataW.trod enc Tryd.prog w 0 (fun _ => true) true m 32 (([v0, v1, v2, v3, v4, v5, v6, v7, v8, v9, v10].drop 10).take (Tryd.prog.cellsOf 32)) = some x2 := by
    have := hf 2 _ rfl
    exact this
  rw [k2] at g2
  have f2 : DataW.trod enc Tryd.prog w 0 (fun _ => true) true m 32 [v10] = some x2 := g2
  obtain ⟨n0, e0, _, w0⟩ := DataW.trod_int Tryd.underlying5 f0
  simp only [List.cons.injEq, and_true] at e0
  subst e0
  obtain ⟨u0, hu0⟩ := u8_natE w0
  obtain ⟨m0, rfl⟩ := Int.eq_ofNat_of_zero_le u0
  obtain ⟨o1, e1, h1⟩ := open_enC m _ _ f1
  simp only [and_true, List.cons.injEq, and_true] at e1
  obtain ⟨rfl, rfl, rfl, rfl, rfl, rfl, rfl, rfl, rfl⟩ := e1
  obtain ⟨n2, e2, _, w2⟩ := DataW.trod_int Tryd.underlying32 f2
  simp only [List.cons.injEq, and_true] at e2
  subst e2
  obtain ⟨u2, hu2⟩ := u64_natE w2
  obtain ⟨m2, rfl⟩ := Int.eq_ofNat_of_zero_le u2
  exact ⟨⟨m0, o1, m2⟩, rfl, ⟨by simp only []; omega, h1.wf, by simp only []; omega⟩⟩
theorem open_actsL {A : Option Addr} {len cap : Nat} {d : DataW H} {ps : List MemPlace} (h : DataW.Trod enc Tryd.prog w 0 (fun _ => true) true 50 (.slice A len cap) d ps) :
    ∃ L : List ActL, RowAt w A (L.flatMap ActL.C) ∧ L.length = len ∧ len ≤ cap ∧ cap ≤ maxLen ∧ (∀ a ∈ L, a.ok) ∧ (A = none → len = 0 ∧ cap = 0) := by
  obtain ⟨l, h1, h2, h3, h4, h5, h6⟩ := open_rows ActL.C ActL.ok Tryd.underlying50 open_actL h
  exact ⟨l, h1, h2, h3, h4, h5, h6⟩
end
end Go.Proofs.YtcaihinenfnekaaDoor
/- LogAsks' law over its arguments. -/
namespace Go.Proofs.YtcaihinenfnekaaDoor
open Go.RowKit
theorem logAsks_law (w : World) (ht : SignsAt w) (a : Int) (wa : (Lit.int .u64 a).wf = true) (A : Option Addr) (n c : Nat) (L : List ActL) (o : RowAt w A (L.flatMap ActL.C) ∧ L.length = n ∧ n ≤ c ∧ c ≤ maxLen ∧ (∀ e ∈ L, e.ok) ∧ (A = none → n = 0 ∧ c = 0))
    (k : Int) (wk : (Lit.int .u64 k).wf = true) (cl : Int) (wc : (Lit.int .u8 cl).wf = true) (nd : Int) (wn : (Lit.int .u8 nd).wf = true) (nu : Int) (wu : (Lit.int .u64 nu).wf = true) :
    Calls Tryd.prog 9 #[.int .u64 a, .slice A n c, .int .u64 k, .int .u8 cl, .int .u8 nd, .int .u64 nu] w (BoolPost w true) := by
  obtain ⟨h1, h2⟩ := u64_natE wa
  obtain ⟨a', rfl⟩ := Int.eq_ofNat_of_zero_le h1
  obtain ⟨h3, h4⟩ := u64_natE wk
  obtain ⟨k', rfl⟩ := Int.eq_ofNat_of_zero_le h3
  obtain ⟨h5, h6⟩ := u8_natE wc
  obtain ⟨c', rfl⟩ := Int.eq_ofNat_of_zero_le h5
  obtain ⟨h7, h8⟩ := u8_natE wn
  obtain ⟨n', rfl⟩ := Int.eq_ofNat_of_zero_le h7
  obtain ⟨h9, h10⟩ := u64_natE wu
  obtain ⟨u', rfl⟩ := Int.eq_ofNat_of_zero_le h9
  exact logAsks_walk w ht a' A n c L k' c' n' u' (by omega) (by omega) o.1 o.2.1 (Nat.le_trans (Nat.le_trans o.2.2.1 o.2.2.2.1) (by decide)) o.2.2.2.2.1
end Go.Proofs.YtcaihinenfnekaaDoor
