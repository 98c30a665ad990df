/- What the row leans on, part 7: contracts and plain laws. -/
import Derived.Test.YtcaihinenfnekaaDoorProg
import Derived.WalkKit
import Derived.Maps.AppendAt
import Derived.Lib.AppendStr
import Derived.Laws.AppendOwnNone
import Derived.Deep.Draws
import Derived.WalkSpells
import Derived.Laws.IdiomStrings
import Derived.Lib.ConvBytes
import Derived.Lib.LaidTab
import Derived.LaidSub
import Derived.Deep.QuietTactic
import Derived.BigQuiet
import Derived.Lib.OthersKept
import Derived.Laws.RangeAny
import Derived.LaidEqlPtr
import Derived.Laws.StructEq
import Derived.Deep.Light
import Derived.Laws.Bits64b
import Derived.Laws.ResultCell
import Derived.Deep.RegionHeld3
import Derived.Deep.Cut
import Derived.RangeFuncNested
import Derived.RangeFuncBound
import Derived.RangeFuncCalls
import Derived.RangeFuncLeaves
import Derived.Shelf.Abstract
import Derived.Shelf.RegionOpen
import Derived.OwnWalkIn
import Derived.TacticsInMore
import Derived.LoopNIn
import Derived.LoopIn
import Derived.SliceStrings
import Derived.Deep.Slices
import Derived.ProofKit
import Derived.Test.YtcaihinenfnekaaDoorLawLogAsksB6
/- log.At; the reference's Find. -/
namespace Go.Proofs.YtcaihinenfnekaaDoor
open Go.RowKit

def atV (b : Nat) (es : List EnV) (k : Nat) : Option EnV := if k ≤ b ∨ lastL b es < k then none else es[k - b - 1]?
def AtC (q4 : Nat) (Z F : Array Value) : Nat → World → Prop
  | 0, W => BlkAt W q4 42 Z
  | _, W => BlkAt W q4 42 F
theorem AtC.fr0 {q4 : Nat} {Z F : Array Value} {q : Nat} {W W' : World} (h : AtC q4 Z F q W) (f : Fr noB W W') : AtC q4 Z F q W' := by
  match q, h with
  | 0, h => exact BlkAt.fr h f id
  | q + 1, h => exact BlkAt.fr h f id
def AtPost (w : World) (o : Option EnV) (ed : Ending) (w' : World) : Prop := ed = .returned (.tuple #[(o.getD zeroE).v, .bool o.isSome]) ∧ Fr noB w w'
theorem zeroE_v : zeroE.v = .agg #[.int .u64 0, .int .u64 0, .int .u8 0, .int .u64 0, .int .u8 0, .string ⟨#[]⟩, .string ⟨#[]⟩, .int .u8 0, .int .u8 0] := rfl
set_option maxRecDepth 100000 in
set_option maxHeartbeats 1600000 in
theorem atL_calls (w : World) (U : Nat → Prop) (p b kk : Nat) (es : List EnV) (h : LogA w U p b es) (hG : GoodL b es) (hk : kk < 18446744073709551616) :
    Calls Tryd.prog 46 #[.pointer (some ⟨p, 0, none⟩), .int .u64 kk] w (AtPost w (atV b es kk)) := by
  have hll := hG.last
  have hw16 := hG.few
  have hla := fun W (hx : LogA W U p b es) => lastL_calls W U p b es hx (by omega)
  have f0 : Fr noB w (w.alloc (.cells #[.int .u64 0, .int .u64 0, .int .u8 0, .int .u64 0, .int .u8 0, .string ⟨#[]⟩, .string ⟨#[]⟩, .int .u8 0, .int .u8 0] 42)) := (Fr.refl noB w).alloc _
  have hb4 : BlkAt (w.alloc (.cells #[.int .u64 0, .int .u64 0, .int .u8 0, .int .u64 0, .int .u8 0, .string ⟨#[]⟩, .string ⟨#[]⟩, .int .u8 0, .int .u8 0] 42)) w.heap.size 42 #[.int .u64 0, .int .u64 0, .int .u8 0, .int .u64 0, .int .u8 0, .string ⟨#[]⟩, .string ⟨#[]⟩, .int .u8 0, .int .u8 0] := BlkAt.new _ _ _
  have hr : Hid (Tryd.f46.results = #[.cell 4 42, .tmp 5]) := by unfold Hid; kernel_rfl
  have hh := h
  obtain ⟨A, n, c, hn, hB, hO, hUp, hgp⟩ := hh
  have hgl : ∀ ad, A = some ad → ad.block < w.heap.size := fun ad e => own_lt hO (by subst e; rfl)
  replace hB := hB.fr f0 id
  replace hO := own_fr hO f0 (fun _ _ => id)
  have H0 : LogA (w.alloc (.cells #[.int .u64 0, .int .u64 0, .int .u8 0, .int .u64 0, .int .u8 0, .string ⟨#[]⟩, .string ⟨#[]⟩, .int .u8 0, .int .u8 0] 42)) U p b es := h.fr0 f0
  have hpl := h.lt
  rw [hn.out] at hw16
  have HLA : Hid (lastL b es = b + n) := by unfold Hid lastL; rw [hn.out]
  have HV : Hid (atV b es kk = if kk ≤ b ∨ lastL b es < kk then none else es[kk - b - 1]?) := rfl
  rw [HLA.out] at HV
  rw [HLA.out] at hla
  have hcl : ((b + n : Nat) : Int) = (b : Int) + n := by omega
  rw [hcl] at hla
  obtain ⟨c1, hc1⟩ : ∃ c, decide (kk ≤ b) = c := ⟨_, rfl⟩
  obtain ⟨c2, hc2⟩ : ∃ c, decide ((b : Int) + n < kk) = c := ⟨_, rfl⟩
  have hd : Hid ((c1 = true ∨ c2 = true) ↔ (kk ≤ b ∨ b + n < kk)) := by unfold Hid; rw [← hc1, ← hc2, decide_eq_true_eq, decide_eq_true_eq]; constructor <;> intro h <;> omega
  generalize atV b es kk = res at *
  have hfs := fun (W : World) (u0 u1 u2 u3 u4 u5 u6 u7 u8 : Value) => fr_set9 W w.heap.size u0 u1 u2 u3 u4 u5 u6 u7 u8
  clear h hgp
  go_enter Tryd.func46, Tryd.ntmps46
  go_upto_region 1 with fail
  generalize (w.alloc (.cells #[.int .u64 0, .int .u64 0, .int .u8 0, .int .u64 0, .int .u8 0, .string ⟨#[]⟩, .string ⟨#[]⟩, .int .u8 0, .int .u8 0] 42)) = wa at *
  obtain ⟨x0, x1, xf⟩ := BlkAt.c2 hB
  have hzz : ∀ (W : World), BlkAt W w.heap.size 42 #[.int .u64 0, .int .u64 0, .int .u8 0, .int .u64 0, .int .u8 0, .string ⟨#[]⟩, .string ⟨#[]⟩, .int .u8 0, .int .u8 0] → BlkAt (((((((((W.setCell ⟨w.heap.size, 0, none⟩ (.int .u64 0)).setCell ⟨w.heap.size, 1, none⟩ (.int .u64 0)).setCell ⟨w.heap.size, 2, none⟩ (.int .u8 0)).setCell ⟨w.heap.size, 3, none⟩ (.int .u64 0)).setCell ⟨w.heap.size, 4, none⟩ (.int .u8 0)).setCell ⟨w.heap.size, 5, none⟩ (.string ⟨#[]⟩)).setCell ⟨w.heap.size, 6, none⟩ (.string ⟨#[]⟩)).setCell ⟨w.heap.size, 7, none⟩ (.int .u8 0)).setCell ⟨w.heap.size, 8, none⟩ (.int .u8 0)) w.heap.size 42 #[.int .u64 0, .int .u64 0, .int .u8 0, .int .u64 0, .int .u8 0, .string ⟨#[]⟩, .string ⟨#[]⟩, .int .u8 0, .int .u8 0] := fun W h => BlkAt.set9 h _ _ _ _ _ _ _ _ _
  cases c1 with
  | true =>
    rw [if_pos (hd.out.1 (Or.inl rfl))] at HV
    obtain ⟨y0, y1, y2, y3, y4, y5, y6, y7, y8, yf⟩ := BlkAt.c9 hb4
    have FF : Fr noB w _ := f0.trans (hfs wa (.int .u64 0) (.int .u64 0) (.int .u8 0) (.int .u64 0) (.int .u8 0) (.string ⟨#[]⟩) (.string ⟨#[]⟩) (.int .u8 0) (.int .u8 0)) (fun i hi h => by unfold eqB at h; omega)
    clear hd hla hO hzz
    go_wp2_with fail
    have hr := hr.out
    exact bodyPost_ret (v := .tuple #[.agg #[.int .u64 0, .int .u64 0, .int .u8 0, .int .u64 0, .int .u8 0, .string ⟨#[]⟩, .string ⟨#[]⟩, .int .u8 0, .int .u8 0], .bool false]) (by simp [results, hr, go_sem, y0, y1, y2, y3, y4, y5, y6, y7, y8]) rfl (by rw [HV.out]; exact ⟨rfl, FF⟩)
  | false =>
    cases c2 with
    | true =>
      rw [if_pos (hd.out.1 (Or.inr rfl))] at HV
      clear hd hO hzz
      go_wp2_with fail
      refine (hla wa H0).mono ?_
      rintro ed w1 ⟨rfl, f1⟩
      obtain ⟨y0, y1, y2, y3, y4, y5, y6, y7, y8, yf⟩ := BlkAt.c9 (hb4.fr f1 id)
      have FF : Fr noB w _ := (f0.then' f1).trans (hfs w1 (.int .u64 0) (.int .u64 0) (.int .u8 0) (.int .u64 0) (.int .u8 0) (.string ⟨#[]⟩) (.string ⟨#[]⟩) (.int .u8 0) (.int .u8 0)) (fun i hi h => by unfold eqB at h; omega)
      clear hla hb4 x0 x1 xf hB
      go_wp2_with fail
      have hr := hr.out
      exact bodyPost_ret (v := .tuple #[.agg #[.int .u64 0, .int .u64 0, .int .u8 0, .int .u64 0, .int .u8 0, .string ⟨#[]⟩, .string ⟨#[]⟩, .int .u8 0, .int .u8 0], .bool false]) (by simp [results, hr, go_sem, y0, y1, y2, y3, y4, y5, y6, y7, y8]) rfl (by rw [HV.out]; exact ⟨rfl, FF⟩)
    | false =>
      have hno : ¬ (kk ≤ b ∨ b + n < kk) := fun h => by rcases hd.out.2 h with h | h <;> cases h
      rw [if_neg hno] at HV
      obtain ⟨e, he⟩ : ∃ e, es[kk - b - 1]? = some e := ⟨_, List.getElem?_eq_getElem (by rw [hn.out]; omega)⟩
      rw [he] at HV
      have hrow := own_row hO
      obtain ⟨ad, rfl⟩ := hrow.some_flat (by simp [EnV.C]) he
      have hseg := hrow.seg 9 (fun _ => rfl) he
      obtain ⟨j, hj⟩ : ∃ j, kk - b - 1 = j := ⟨_, rfl⟩
      rw [hj] at hseg
      have hjn : j < n := by omega
      have hb2 : IntKind.u64.wrap ((kk : Int) - b) = (j + 1 : Nat) := by rw [IntKind.wrap_u64]; omega
      have hb3 : IntKind.u64.wrap (((j + 1 : Nat) : Int) - 1) = j := by rw [IntKind.wrap_u64]; omega
      have hlg : ad.block ≠ w.heap.size := Nat.ne_of_lt (hgl ad rfl)
      obtain ⟨op, view, cl, num, ⟨k, oa, ob, on, or⟩⟩ := e
      unfold EnV.C at hseg
      simp only [] at *
      clear hd hO hno he hj hzz
      go_wp2_with fail
      refine (hla wa H0).mono ?_
      rintro ed w1 ⟨rfl, f1⟩
      replace hB := hB.fr f1 id
      replace hseg := hseg.fr f1 id
      replace hb4 := hb4.fr f1 id
      clear x0 x1 xf hla
      go_wp2_with fail
      apply wp_region_calm (R := Fr (eqB w.heap.size)) (C := fun q W => Fr (eqB w.heap.size) w1 W ∧ AtC w.heap.size #[.int .u64 0, .int .u64 0, .int .u8 0, .int .u64 0, .int .u8 0, .string ⟨#[]⟩, .string ⟨#[]⟩, .int .u8 0, .int .u8 0] #[.int .u64 op, .int .u64 view, .int .u8 cl, .int .u64 num, .int .u8 k, .string oa, .string ob, .int .u8 on, .int .u8 or] q W) [false, false, false, false, false, false, false, false, false, false, false, false, false, true, false]
        [eqv _, eqv _, eqv _, eqv _, eqv _, eqv _, eqv _, eqv _, eqv _, eqv _, eqv _, eqv _, eqv _, anyv, eqv _]
        (by kernel_rfl) (by kernel_rfl) (fun _ _ _ h1 h2 => h1.then' h2) ((Fr.refl _ _).drew) ⟨(Fr.refl _ _).drew, hb4⟩ (by kernel_rfl)
      · refine ⟨?_, ?_, ?_, ?_, ?_, ?_, ?_, ?_, ?_, ?_, ?_, ?_, ?_, ?_, ?_, trivial⟩
        · rw [if_neg (by decide)]; intro kq
          exact calm_mv 0 rfl rfl (Or.inl rfl) (Fr.refl _) (by decide) fun v w hd => hd
        · rw [if_neg (by decide)]; intro kq
          intro a W K hC hd hK
          have d19 : _ = _ := hd 19 (by decide)
          refine wpOp_plain rfl rfl ?_
          go_wp2_with fail
          exact hK _ _ (Fr.refl _ _) hC rfl
        · rw [if_neg (by decide)]; intro kq
          intro a W K hC hd hK
          have d20 : _ = _ := hd 20 (by decide)
          refine wpOp_plain rfl rfl ?_
          obtain ⟨x0, x1, xf⟩ := BlkAt.c2 (hB.fr hC.1 (by unfold eqB; omega))
          obtain ⟨z0, z1, z2, z3, z4, z5, z6, z7, z8⟩ := (hseg.fr hC.1 (by unfold eqB; rw [add_block]; exact hlg)).c9
          go_wp2_with fail
          exact hK _ _ (Fr.refl _ _) hC rfl
        · rw [if_neg (by decide)]; intro kq
          intro a W K hC hd hK
          have d21 : _ = _ := hd 21 (by decide)
          refine wpOp_plain rfl rfl ?_
          obtain ⟨x0, x1, xf⟩ := BlkAt.c2 (hB.fr hC.1 (by unfold eqB; omega))
          obtain ⟨z0, z1, z2, z3, z4, z5, z6, z7, z8⟩ := (hseg.fr hC.1 (by unfold eqB; rw [add_block]; exact hlg)).c9
          go_wp2_with fail
          exact hK _ _ (Fr.refl _ _) hC rfl
        · rw [if_neg (by decide)]; intro kq
          exact calm_mv 1 rfl rfl (Or.inl rfl) (Fr.refl _) (by decide) fun v w hd => hd
        · rw [if_neg (by decide)]; intro kq
          exact calm_mv 0 rfl rfl (Or.inl rfl) (Fr.refl _) (by decide) fun v w hd => hd
        · rw [if_neg (by decide)]; intro kq
          intro a W K hC hd hK
          have d24 : _ = _ := hd 24 (by decide)
          refine wpOp_plain rfl rfl ?_
          go_wp2_with fail
          exact hK _ _ (Fr.refl _ _) hC rfl
        · rw [if_neg (by decide)]; intro kq
          intro a W K hC hd hK
          have d25 : _ = _ := hd 25 (by decide)
          refine wpOp_plain rfl rfl ?_
          obtain ⟨x0, x1, xf⟩ := BlkAt.c2 (hB.fr hC.1 (by unfold eqB; omega))
          obtain ⟨z0, z1, z2, z3, z4, z5, z6, z7, z8⟩ := (hseg.fr hC.1 (by unfold eqB; rw [add_block]; exact hlg)).c9
          go_wp2_with fail
          exact hK _ _ (Fr.refl _ _) hC rfl
        · rw [if_neg (by decide)]; intro kq
          intro a W K hC hd hK
          have d26 : _ = _ := hd 26 (by decide)
          refine wpOp_plain rfl rfl ?_
          obtain ⟨x0, x1, xf⟩ := BlkAt.c2 (hB.fr hC.1 (by unfold eqB; omega))
          obtain ⟨z0, z1, z2, z3, z4, z5, z6, z7, z8⟩ := (hseg.fr hC.1 (by unfold eqB; rw [add_block]; exact hlg)).c9
          go_wp2_with fail
          exact hK _ _ (Fr.refl _ _) hC rfl
        · rw [if_neg (by decide)]; intro kq
          intro a W K hC hd hK
          have d23 : _ = _ := hd 23 (by decide)
          have d27 : _ = _ := hd 27 (by decide)
          refine wpOp_plain rfl rfl ?_
          go_wp2_with fail
          exact hK _ _ (Fr.refl _ _) hC rfl
        · rw [if_neg (by decide)]; intro kq
          intro a W K hC hd hK
          have d28 : _ = _ := hd 28 (by decide)
          refine wpOp_plain rfl rfl ?_
          go_wp2_with fail
          exact hK _ _ (Fr.refl _ _) hC rfl
        · rw [if_neg (by decide)]; intro kq
          intro a W K hC hd hK
          have d22 : _ = _ := hd 22 (by decide)
          have d29 : _ = _ := hd 29 (by decide)
          refine wpOp_plain rfl rfl ?_
          obtain ⟨x0, x1, xf⟩ := BlkAt.c2 (hB.fr hC.1 (by unfold eqB; omega))
          obtain ⟨z0, z1, z2, z3, z4, z5, z6, z7, z8⟩ := (hseg.fr hC.1 (by unfold eqB; rw [add_block]; exact hlg)).c9
          go_wp2_with fail
          exact hK _ _ (Fr.refl _ _) hC rfl
        · rw [if_neg (by decide)]; intro kq
          intro a W K hC hd hK
          have d30 : _ = _ := hd 30 (by decide)
          refine wpOp_plain rfl rfl ?_
          obtain ⟨x0, x1, xf⟩ := BlkAt.c2 (hB.fr hC.1 (by unfold eqB; omega))
          obtain ⟨z0, z1, z2, z3, z4, z5, z6, z7, z8⟩ := (hseg.fr hC.1 (by unfold eqB; rw [add_block]; exact hlg)).c9
          go_wp2_with fail
          exact hK _ _ (Fr.refl _ _) hC rfl
        · rw [if_pos (by decide)]
          intro a W K hC hd hK
          replace hC : (fun q W => Fr (eqB w.heap.size) w1 W ∧ AtC w.heap.size #[.int .u64 0, .int .u64 0, .int .u8 0, .int .u64 0, .int .u8 0, .string ⟨#[]⟩, .string ⟨#[]⟩, .int .u8 0, .int .u8 0] #[.int .u64 op, .int .u64 view, .int .u8 cl, .int .u64 num, .int .u8 k, .string oa, .string ob, .int .u8 on, .int .u8 or] q W) 0 W := hC
          have d4 : a.tmps[4]?.getD undef = .pointer (some ⟨w.heap.size, 0, none⟩) := hd 4 (by decide)
          have d31 : _ = _ := hd 31 (by decide)
          refine wpOp_plain rfl rfl ?_
          obtain ⟨x0, x1, xf⟩ := BlkAt.c2 (hB.fr hC.1 (by unfold eqB; omega))
          obtain ⟨z0, z1, z2, z3, z4, z5, z6, z7, z8⟩ := (hseg.fr hC.1 (by unfold eqB; rw [add_block]; exact hlg)).c9
          obtain ⟨y0, y1, y2, y3, y4, y5, y6, y7, y8, yf⟩ := BlkAt.c9 hC.2
          have fs := hfs W (.int .u64 op) (.int .u64 view) (.int .u8 cl) (.int .u64 num) (.int .u8 k) (.string oa) (.string ob) (.int .u8 on) (.int .u8 or)
          have hset := BlkAt.set9 hC.2 (.int .u64 op) (.int .u64 view) (.int .u8 cl) (.int .u64 num) (.int .u8 k) (.string oa) (.string ob) (.int .u8 on) (.int .u8 or)
          go_wp2_with fail
          exact hK undef _ fs ⟨hC.1.then' fs, hset⟩ trivial
        · rw [if_neg (by decide)]; intro kq
          intro a W K hC hd hK
          refine wpOp_plain rfl rfl ?_
          go_wp2_with fail
          exact hK _ _ (Fr.refl _ _) hC rfl
      · intro vs w8 fw8 cw8 hV
        have v19 : vs 0 = _ := hV 0 _ _ rfl rfl (by decide)
        have v20 : vs 1 = _ := hV 1 _ _ rfl rfl (by decide)
        have v21 : vs 2 = _ := hV 2 _ _ rfl rfl (by decide)
        have v22 : vs 3 = _ := hV 3 _ _ rfl rfl (by decide)
        have v23 : vs 4 = _ := hV 4 _ _ rfl rfl (by decide)
        have v24 : vs 5 = _ := hV 5 _ _ rfl rfl (by decide)
        have v25 : vs 6 = _ := hV 6 _ _ rfl rfl (by decide)
        have v26 : vs 7 = _ := hV 7 _ _ rfl rfl (by decide)
        have v27 : vs 8 = _ := hV 8 _ _ rfl rfl (by decide)
        have v28 : vs 9 = _ := hV 9 _ _ rfl rfl (by decide)
        have v29 : vs 10 = _ := hV 10 _ _ rfl rfl (by decide)
        have v30 : vs 11 = _ := hV 11 _ _ rfl rfl (by decide)
        have v31 : vs 12 = _ := hV 12 _ _ rfl rfl (by decide)
        have v5 : vs 14 = _ := hV 14 _ _ rfl rfl (by decide)
        clear hV
        simp only [putL, Act.put, Nat.reduceAdd, List.setIfInBounds_toArray, List.set_cons_zero, List.set_cons_succ, v19, v20, v21, v22, v23, v24, v25, v26, v27, v28, v29, v30, v31, v5]
        obtain ⟨y0, y1, y2, y3, y4, y5, y6, y7, y8, yf⟩ := BlkAt.c9 cw8.2
        have FF : Fr noB w w8 := (f0.then' f1).trans fw8 (fun i hi h => by unfold eqB at h; omega)
        clear cw8
        go_wp2_with fail
        have hr := hr.out
        exact bodyPost_ret (v := .tuple #[.agg #[.int .u64 op, .int .u64 view, .int .u8 cl, .int .u64 num, .int .u8 k, .string oa, .string ob, .int .u8 on, .int .u8 or], .bool true]) (by simp [results, hr, go_sem, y0, y1, y2, y3, y4, y5, y6, y7, y8]) rfl (by rw [HV.out]; exact ⟨rfl, FF⟩)

/-! ### the reference's Find -/
def findV (b : Nat) (es : List EnV) (k : Nat) : Int := if k ≤ b ∨ lastL b es < k then -1 else (k - b - 1 : Nat)
set_option maxRecDepth 100000 in
set_option maxHeartbeats 1600000 in
theorem findR_calls (w : World) (b kk n c : Nat) (A : Option Addr) (es : List EnV) (h : RefA w A n c es) (hG : GoodL b es) :
    Calls Tryd.prog 47 #[.agg #[.int .u64 b, .slice A n c], .int .u64 kk] w (IntPost w (findV b es kk)) := by
  have HN := h.len
  have hrow := h.row
  have hw16 := hG.few
  rw [HN.out] at hw16
  have hop := hG.op
  have f0 : Fr noB w (w.alloc (.cells #[.int .u64 b, .slice A n c] 54)) := (Fr.refl noB w).alloc _
  have hb0 : BlkAt (w.alloc (.cells #[.int .u64 b, .slice A n c] 54)) w.heap.size 54 #[.int .u64 b, .slice A n c] := BlkAt.new _ _ _
  have HV : Hid (findV b es kk = if kk ≤ b ∨ b + n < kk then (-1 : Int) else ((kk - b - 1 : Nat) : Int)) := by unfold Hid findV lastL; rw [HN.out]
  generalize findV b es kk = res at *
  clear h hG
  go_enter Tryd.func47, Tryd.ntmps47
  go_upto_region 1 with fail
  generalize (w.alloc (.cells #[.int .u64 b, .slice A n c] 54)) = wa at *
  obtain ⟨x0, x1, xf⟩ := BlkAt.c2 hb0
  go_wp2_with fail
  clear x0 x1 xf hb0
  go_loopw [10] (fun i wr => ∃ j : Nat, j ≤ n ∧ i = .int .i64 j ∧ (∀ t e, t < j → es[t]? = some e → e.op ≠ kk) ∧ Fr noB w wr) (fun i _ => n - (intOf i).toNat)
  case atStart => exact ⟨0, Nat.zero_le _, rfl, fun t e h => by omega, f0⟩
  case round =>
    obtain ⟨j, hj, rfl, hne, hf⟩ := hrel
    by_cases hjn : j < n
    · obtain ⟨e, he⟩ : ∃ e, es[j]? = some e := ⟨_, List.getElem?_eq_getElem (by rw [HN.out]; exact hjn)⟩
      obtain ⟨ad, rfl⟩ := hrow.some_flat (by simp [EnV.C]) he
      obtain ⟨z0, z1, z2, z3, z4, z5, z6, z7, z8⟩ := ((hrow.seg 9 (fun _ => rfl) he).fr hf id).c9
      have HO := hid (hop j e he)
      have HE : Hid (es[j]? = some e) := he
      have hfa : Fr noB wr (wr.alloc (.cells e.C.toArray 90)) := (Fr.refl noB wr).alloc _
      have hba : BlkAt (wr.alloc (.cells e.C.toArray 90)) wr.heap.size 90 e.C.toArray := BlkAt.new _ _ _
      have hF := hf.then' hfa
      obtain ⟨op, view, cl, num, ⟨k, oa, ob, on, or⟩⟩ := e
      unfold EnV.C at hfa hba hF
      simp only [] at *
      clear he
      go_upto_region 4 with fail
      generalize hwb : (wr.alloc (.cells #[.int .u64 op, .int .u64 view, .int .u8 cl, .int .u64 num, .int .u8 k, .string oa, .string ob, .int .u8 on, .int .u8 or] 90)) = wb at *
      clear hwb z0 z1 z2 z3 z4 z5 z6 z7 z8
      obtain ⟨z0, z1, z2, z3, z4, z5, z6, z7, z8, zf⟩ := BlkAt.c9 hba
      by_cases hk : op = kk
      · have HI : Hid (res = (j : Int)) := by have := HO.out; unfold Hid; rw [HV.out, if_neg (by omega)]; omega
        have t1 : ((op : Int) == kk) = true := by rw [beq_iff_eq]; omega
        clear hk HV
        go_wp2_with fail
        go_ret
        exact IntPost.mk' HI.out.symm hF
      · have t1 : ((op : Int) == kk) = false := by rw [beq_eq_false_iff_ne]; omega
        go_wp2_with fail
        go_roundw
        case rel =>
          refine ⟨j + 1, by omega, by go_num, fun t e ht hte => ?_, hF⟩
          by_cases htj : t = j
          · subst htj; rw [HE.out] at hte; cases hte; exact hk
          · exact hne t e (by omega) hte
        case measure => simp [intOf]; omega
    · have : j = n := by omega
      subst this
      have HI : Hid (res = (-1 : Int)) := by
        unfold Hid; rw [HV.out]
        by_cases hc : kk ≤ b ∨ b + j < kk
        · rw [if_pos hc]
        · exfalso
          obtain ⟨e, he⟩ : ∃ e, es[kk - b - 1]? = some e := ⟨_, List.getElem?_eq_getElem (by rw [HN.out]; omega)⟩
          exact hne _ e (by omega) he (by have := hop _ e he; omega)
      clear hne HV
      go_wp2_with fail
      go_ret
      exact IntPost.mk' HI.out.symm hf
end Go.Proofs.YtcaihinenfnekaaDoor
/- slices.ContainsFunc over entries, with the closures of Agree and Find. -/
namespace Go.Proofs.YtcaihinenfnekaaDoor
open Go.RowKit
set_option maxRecDepth 100000 in
set_option maxHeartbeats 1600000 in
theorem idxAg_calls (w : World) (A : Option Addr) (n c : Nat) (es : List EnV) (hrow : RowAt w A (es.flatMap EnV.C)) (HN : Hid (es.length = n)) (hn : n ≤ 9223372036854775807) (u0 : Value) (pred : EnV → Bool)
    (hf : ∀ W, Fr noB w W → ∀ e ∈ es, Calls Tryd.prog 78 #[e.v, u0] W (BoolPost W (pred e))) :
    Calls Tryd.prog 116 #[.slice A n c, .func (.func 78) #[] #[u0]] w (fun ed w' => ∃ i : Int, ed = .returned (.int .i64 i) ∧ decide (0 ≤ i) = es.any pred ∧ Fr noB w w') := by
  go_enter Tryd.func116, Tryd.ntmps116
  go_wp2_with fail
  go_loopw [8] (fun i wr => ∃ j : Nat, j ≤ n ∧ i = .int .i64 j ∧ (es.take j).any pred = false ∧ Fr noB w wr) (fun i _ => n - (intOf i).toNat)
  case atStart => exact ⟨0, Nat.zero_le _, rfl, by simp, Fr.refl _ _⟩
  case round =>
    obtain ⟨j, hj, rfl, hne, hfr⟩ := hrel
    by_cases hjn : j < n
    · obtain ⟨e, he⟩ : ∃ e, es[j]? = some e := ⟨_, List.getElem?_eq_getElem (by rw [HN.out]; exact hjn)⟩
      obtain ⟨ad, rfl⟩ := hrow.some_flat (by simp [EnV.C]) he
      obtain ⟨z0, z1, z2, z3, z4, z5, z6, z7, z8⟩ := ((hrow.seg 9 (fun _ => rfl) he).fr hfr id).c9
      have hcl := hf wr hfr e (List.mem_of_getElem? he)
      have HT : Hid ((es.take (j + 1)).any pred = pred e) := by unfold Hid; rw [take_snoc' he, List.any_append, hne]; simp
      have HF : Hid (pred e = true → es.any pred = true) := fun h => List.any_eq_true.2 ⟨e, List.mem_of_getElem? he, h⟩
      generalize pred e = v at *
      obtain ⟨op, view, cl, num, ⟨k, oa, ob, on, or⟩⟩ := e
      unfold EnV.v at hcl
      simp only [] at hcl
      clear he hf
      go_wp2_with fail
      refine hcl.mono ?_
      rintro ed w2 ⟨rfl, f2⟩
      have F2 := hfr.then' f2
      clear hcl z0 z1 z2 z3 z4 z5 z6 z7 z8
      cases v with
      | true =>
        go_wp2_with fail
        go_ret
        exact ⟨_, rfl, by rw [HF.out (by trivial)]; exact decide_eq_true (by omega), F2⟩
      | false =>
        go_wp2_with fail
        go_roundw
        case rel => exact ⟨j + 1, by omega, by go_num, HT.out, F2⟩
        case measure => simp [intOf]; omega
    · have : j = n := by omega
      subst this
      rw [List.take_of_length_le (by rw [HN.out]; exact Nat.le_refl _)] at hne
      clear hf
      go_wp2_with fail
      go_ret
      exact ⟨_, rfl, by rw [hne]; rfl, hfr⟩
set_option maxRecDepth 100000 in
theorem containsAg_calls (w : World) (A : Option Addr) (n c : Nat) (es : List EnV) (hrow : RowAt w A (es.flatMap EnV.C)) (HN : Hid (es.length = n)) (hn : n ≤ 9223372036854775807) (u0 : Value) (pred : EnV → Bool)
    (hf : ∀ W, Fr noB w W → ∀ e ∈ es, Calls Tryd.prog 78 #[e.v, u0] W (BoolPost W (pred e))) :
    Calls Tryd.prog 77 #[.slice A n c, .func (.func 78) #[] #[u0]] w (BoolPost w (es.any pred)) := by
  have hi := idxAg_calls w A n c es hrow HN hn u0 pred hf
  clear hf hrow
  go_enter Tryd.func77, Tryd.ntmps77
  go_wp2_with fail
  refine hi.mono ?_
  rintro ed w2 ⟨i, rfl, hv, f2⟩
  have HV := hid hv
  clear hv hi
  go_wp2_with fail
  go_ret
  exact BoolPost.mk' HV.out f2
set_option maxRecDepth 100000 in
set_option maxHeartbeats 1600000 in
theorem idxFi_calls (w : World) (A : Option Addr) (n c : Nat) (es : List EnV) (hrow : RowAt w A (es.flatMap EnV.C)) (HN : Hid (es.length = n)) (hn : n ≤ 9223372036854775807) (u0 u1 : Value) (pred : EnV → Bool)
    (hf : ∀ W, Fr noB w W → ∀ e ∈ es, Calls Tryd.prog 94 #[e.v, u0, u1] W (BoolPost W (pred e))) :
    Calls Tryd.prog 116 #[.slice A n c, .func (.func 94) #[] #[u0, u1]] w (fun ed w' => ∃ i : Int, ed = .returned (.int .i64 i) ∧ decide (0 ≤ i) = es.any pred ∧ Fr noB w w') := by
  go_enter Tryd.func116, Tryd.ntmps116
  go_wp2_with fail
  go_loopw [8] (fun i wr => ∃ j : Nat, j ≤ n ∧ i = .int .i64 j ∧ (es.take j).any pred = false ∧ Fr noB w wr) (fun i _ => n - (intOf i).toNat)
  case atStart => exact ⟨0, Nat.zero_le _, rfl, by simp, Fr.refl _ _⟩
  case round =>
    obtain ⟨j, hj, rfl, hne, hfr⟩ := hrel
    by_cases hjn : j < n
    · obtain ⟨e, he⟩ : ∃ e, es[j]? = some e := ⟨_, List.getElem?_eq_getElem (by rw [HN.out]; exact hjn)⟩
      obtain ⟨ad, rfl⟩ := hrow.some_flat (by simp [EnV.C]) he
      obtain ⟨z0, z1, z2, z3, z4, z5, z6, z7, z8⟩ := ((hrow.seg 9 (fun _ => rfl) he).fr hfr id).c9
      have hcl := hf wr hfr e (List.mem_of_getElem? he)
      have HT : Hid ((es.take (j + 1)).any pred = pred e) := by unfold Hid; rw [take_snoc' he, List.any_append, hne]; simp
      have HF : Hid (pred e = true → es.any pred = true) := fun h => List.any_eq_true.2 ⟨e, List.mem_of_getElem? he, h⟩
      generalize pred e = v at *
      obtain ⟨op, view, cl, num, ⟨k, oa, ob, on, or⟩⟩ := e
      unfold EnV.v at hcl
      simp only [] at hcl
      clear he hf
      go_wp2_with fail
      refine hcl.mono ?_
      rintro ed w2 ⟨rfl, f2⟩
      have F2 := hfr.then' f2
      clear hcl z0 z1 z2 z3 z4 z5 z6 z7 z8
      cases v with
      | true =>
        go_wp2_with fail
        go_ret
        exact ⟨_, rfl, by rw [HF.out (by trivial)]; exact decide_eq_true (by omega), F2⟩
      | false =>
        go_wp2_with fail
        go_roundw
        case rel => exact ⟨j + 1, by omega, by go_num, HT.out, F2⟩
        case measure => simp [intOf]; omega
    · have : j = n := by omega
      subst this
      rw [List.take_of_length_le (by rw [HN.out]; exact Nat.le_refl _)] at hne
      clear hf
      go_wp2_with fail
      go_ret
      exact ⟨_, rfl, by rw [hne]; rfl, hfr⟩
set_option maxRecDepth 100000 in
theorem containsFi_calls (w : World) (A : Option Addr) (n c : Nat) (es : List EnV) (hrow : RowAt w A (es.flatMap EnV.C)) (HN : Hid (es.length = n)) (hn : n ≤ 9223372036854775807) (u0 u1 : Value) (pred : EnV → Bool)
    (hf : ∀ W, Fr noB w W → ∀ e ∈ es, Calls Tryd.prog 94 #[e.v, u0, u1] W (BoolPost W (pred e))) :
    Calls Tryd.prog 77 #[.slice A n c, .func (.func 94) #[] #[u0, u1]] w (BoolPost w (es.any pred)) := by
  have hi := idxFi_calls w A n c es hrow HN hn u0 u1 pred hf
  clear hf hrow
  go_enter Tryd.func77, Tryd.ntmps77
  go_wp2_with fail
  refine hi.mono ?_
  rintro ed w2 ⟨i, rfl, hv, f2⟩
  have HV := hid hv
  clear hv hi
  go_wp2_with fail
  go_ret
  exact BoolPost.mk' HV.out f2

/-! ### Agree -/
open Classical in
noncomputable def clashB (b : Nat) (es : List EnV) (e : EnV) : Bool := match atV b es e.op with
  | none => false
  | some x => !decide (x = e)
open Classical in
set_option maxRecDepth 100000 in
set_option maxHeartbeats 1600000 in
theorem agree1_calls (w : World) (U : Nat → Prop) (p q b : Nat) (es : List EnV) (e : EnV) (h : LogA w U p b es) (hG : GoodL b es) (hw : e.wf) (hq : w.cell? ⟨q, 0, none⟩ = some (.pointer (some ⟨p, 0, none⟩))) :
    Calls Tryd.prog 78 #[e.v, .pointer (some ⟨q, 0, none⟩)] w (BoolPost w (clashB b es e)) := by
  have hat := fun W h => atL_calls W U p b e.op es h hG hw.op
  have HV : Hid (clashB b es e = match atV b es e.op with | none => false | some x => !decide (x = e)) := rfl
  have HNQ : Hid (∀ W x, (binOp .neq 42 (EnV.v x) (EnV.v e)).run Tryd.prog W = .ok (.bool (!@decide (x = e) (Classical.propDecidable _))) W) := fun W x => enNeq W x e
  have HM : Hid (Tryd.prog.eqGuardType Tryd.prog.depth 42 = false) := Tryd.gE
  have f0 : Fr noB w (w.alloc (.cells e.C.toArray 42)) := (Fr.refl noB w).alloc _
  have hb0 : BlkAt (w.alloc (.cells e.C.toArray 42)) w.heap.size 42 e.C.toArray := BlkAt.new _ _ _
  replace h := h.fr0 f0
  replace hq := f0.cell hq id
  generalize clashB b es e = res at *
  obtain ⟨op, view, cl, num, ⟨k, oa, ob, on, or⟩⟩ := e
  unfold EnV.C at f0 hb0 h hq
  unfold EnV.v at HNQ ⊢
  simp only [] at *
  generalize atV b es op = o at *
  go_enter Tryd.func78, Tryd.ntmps78
  go_upto_region 1 with fail
  generalize (w.alloc (.cells #[.int .u64 op, .int .u64 view, .int .u8 cl, .int .u64 num, .int .u8 k, .string oa, .string ob, .int .u8 on, .int .u8 or] 42)) = wa at *
  obtain ⟨x0, x1, x2, x3, x4, x5, x6, x7, x8, xf⟩ := BlkAt.c9 hb0
  go_wp2_with fail
  refine (hat wa h).mono ?_
  rintro ed w1 ⟨rfl, f1⟩
  have F1 := f0.then' f1
  clear x0 x1 x2 x3 x4 x5 x6 x7 x8 xf
  replace hb0 := hb0.fr f1 id
  cases o with
  | none =>
    have hz : (Option.getD (none : Option EnV) zeroE).v = zeroE.v := rfl
    clear hat h hb0 HNQ f0 f1 hq
    have F2 := fun o => F1.alloc o
    rw [hz, zeroE_v]
    go_wp2_with fail
    go_ret
    exact BoolPost.mk' HV.out.symm (F2 _)
  | some y =>
    have hz : (Option.getD (some y) zeroE).v = y.v := rfl
    rw [hz]
    replace HNQ := hid fun W => HNQ.out W y
    obtain ⟨v, hv⟩ : ∃ v, (!@decide (y = (⟨op, view, cl, num, ⟨k, oa, ob, on, or⟩⟩ : EnV)) (Classical.propDecidable _)) = v := ⟨_, rfl⟩
    simp only [hv] at HNQ HV
    clear hv
    obtain ⟨op1, view1, cl1, num1, ⟨k1, oa1, ob1, on1, or1⟩⟩ := y
    unfold EnV.v
    simp only [] at HNQ HV ⊢
    have f2 := (Fr.refl noB w1).alloc (.cells #[.int .u64 op1, .int .u64 view1, .int .u8 cl1, .int .u64 num1, .int .u8 k1, .string oa1, .string ob1, .int .u8 on1, .int .u8 or1] 42)
    have hb2 := BlkAt.new w1 #[.int .u64 op1, .int .u64 view1, .int .u8 cl1, .int .u64 num1, .int .u8 k1, .string oa1, .string ob1, .int .u8 on1, .int .u8 or1] 42
    replace hb0 := hb0.fr f2 id
    have F2 := F1.then' f2
    clear hat h f0 f1 f2 F1 hq
    go_upto_region 2 with fail
    generalize (w1.alloc (.cells #[.int .u64 op1, .int .u64 view1, .int .u8 cl1, .int .u64 num1, .int .u8 k1, .string oa1, .string ob1, .int .u8 on1, .int .u8 or1] 42)) = w2 at *
    obtain ⟨x0, x1, x2, x3, x4, x5, x6, x7, x8, xf⟩ := BlkAt.c9 hb0
    obtain ⟨y0, y1, y2, y3, y4, y5, y6, y7, y8, yf⟩ := BlkAt.c9 hb2
    have hnq := HNQ.out
    have hm := HM.out
    go_wp2_with fail
    go_ret
    exact BoolPost.mk' HV.out.symm F2
set_option maxRecDepth 100000 in
theorem agreeL_calls (w : World) (U : Nat → Prop) (p b n c : Nat) (A : Option Addr) (es L : List EnV) (h : LogA w U p b es) (hG : GoodL b es) (hrow : RowAt w A (L.flatMap EnV.C)) (HN : Hid (L.length = n)) (hn : n ≤ 9223372036854775807) (hwf : ∀ e ∈ L, e.wf) :
    Calls Tryd.prog 37 #[.pointer (some ⟨p, 0, none⟩), .slice A n c] w (BoolPost w (!L.any (clashB b es))) := by
  have f0 : Fr noB w (w.alloc (.cells #[.pointer (some ⟨p, 0, none⟩)] 34)) := (Fr.refl noB w).alloc _
  have hb0 : BlkAt (w.alloc (.cells #[.pointer (some ⟨p, 0, none⟩)] 34)) w.heap.size 34 #[.pointer (some ⟨p, 0, none⟩)] := BlkAt.new _ _ _
  have hcon := containsAg_calls (w.alloc (.cells #[.pointer (some ⟨p, 0, none⟩)] 34)) A n c L (hrow.fr0 f0) HN hn (.pointer (some ⟨w.heap.size, 0, none⟩)) (clashB b es) (fun W fW e he => agree1_calls W U p w.heap.size b es e ((h.fr0 f0).fr0 fW) hG (hwf e he) ((hb0.fr fW id).cell rfl))
  generalize L.any (clashB b es) = v at *
  have hmf : ∀ (fn : Fn) (first cap : Array Value) (w : World), (Instr.makeFunc fn first cap).run Tryd.prog w = .ok (.func fn first cap) w := fun _ _ _ _ => rfl
  clear h hrow hb0
  go_enter Tryd.func37, Tryd.ntmps37
  go_upto_region 1 with fail
  generalize (w.alloc (.cells #[.pointer (some ⟨p, 0, none⟩)] 34)) = wa at *
  go_wp2_with fail
  refine hcon.mono ?_
  rintro ed w2 ⟨rfl, f2⟩
  go_wp2_with fail
  go_ret
  exact BoolPost.mk' rfl (f0.then' f2)
end Go.Proofs.YtcaihinenfnekaaDoor
/- log.Find, the reference's Has and Pending. -/
namespace Go.Proofs.YtcaihinenfnekaaDoor
open Go.RowKit

def hasB2 (client number : Nat) (e : EnV) : Bool := decide (e.cl = client) && decide (number ≤ e.num)
set_option maxRecDepth 100000 in
set_option maxHeartbeats 1600000 in
theorem find1_calls (w : World) (q1 q2 client number : Nat) (e : EnV) (h1 : w.cell? ⟨q1, 0, none⟩ = some (.int .u8 client)) (h2 : w.cell? ⟨q2, 0, none⟩ = some (.int .u64 number)) :
    Calls Tryd.prog 94 #[e.v, .pointer (some ⟨q1, 0, none⟩), .pointer (some ⟨q2, 0, none⟩)] w (BoolPost w (hasB2 client number e)) := by
  have HV : Hid (hasB2 client number e = (decide (e.cl = client) && decide (number ≤ e.num))) := rfl
  have f0 : Fr noB w (w.alloc (.cells e.C.toArray 42)) := (Fr.refl noB w).alloc _
  have hb0 : BlkAt (w.alloc (.cells e.C.toArray 42)) w.heap.size 42 e.C.toArray := BlkAt.new _ _ _
  replace h1 := f0.cell h1 id
  replace h2 := f0.cell h2 id
  generalize hasB2 client number e = res at *
  obtain ⟨op, view, cl, num, ⟨k, oa, ob, on, or⟩⟩ := e
  unfold EnV.C at f0 hb0 h1 h2
  unfold EnV.v
  simp only [] at *
  obtain ⟨c1, hc1⟩ : ∃ c, ((cl : Int) == client) = c := ⟨_, rfl⟩
  obtain ⟨c2, hc2⟩ : ∃ c, decide (number ≤ num) = c := ⟨_, rfl⟩
  have e1 : decide (cl = client) = c1 := by rw [← hc1]; by_cases h : cl = client <;> simp [h] <;> omega
  rw [e1, hc2] at HV
  clear e1
  go_enter Tryd.func94, Tryd.ntmps94
  go_upto_region 1 with fail
  generalize (w.alloc (.cells #[.int .u64 op, .int .u64 view, .int .u8 cl, .int .u64 num, .int .u8 k, .string oa, .string ob, .int .u8 on, .int .u8 or] 42)) = wa at *
  obtain ⟨x0, x1, x2, x3, x4, x5, x6, x7, x8, xf⟩ := BlkAt.c9 hb0
  cases c1
  all_goals
    go_wp2_with fail
    go_ret
    exact BoolPost.mk' (by rw [HV.out]; rfl) f0
set_option maxRecDepth 100000 in
theorem findL_calls (w : World) (U : Nat → Prop) (p b client number : Nat) (es : List EnV) (h : LogA w U p b es) (hn : es.length ≤ 1000000) :
    Calls Tryd.prog 53 #[.pointer (some ⟨p, 0, none⟩), .int .u8 client, .int .u64 number] w (BoolPost w (es.any (hasB2 client number))) := by
  have f0 : Fr noB w ((w.alloc (.cells #[.int .u8 client] 5)).alloc (.cells #[.int .u64 number] 32)) := ((Fr.refl noB w).alloc _).alloc _
  have hb1 : BlkAt ((w.alloc (.cells #[.int .u8 client] 5)).alloc (.cells #[.int .u64 number] 32)) w.heap.size 5 #[.int .u8 client] := (BlkAt.new _ _ _).al _
  have hb2 : BlkAt ((w.alloc (.cells #[.int .u8 client] 5)).alloc (.cells #[.int .u64 number] 32)) (w.heap.size + 1) 32 #[.int .u64 number] := by
    have := BlkAt.new (w.alloc (.cells #[.int .u8 client] 5)) #[.int .u64 number] 32
    rwa [al_size] at this
  obtain ⟨A, n, c, hnn, hB, hO, hUp, hgp⟩ := h
  rw [hnn.out] at hn
  have hcon := fun W (f : Fr noB _ W) => containsFi_calls W A n c es (((own_row hO).fr0 f0).fr0 f) hnn (by omega) (.pointer (some ⟨w.heap.size, 0, none⟩)) (.pointer (some ⟨w.heap.size + 1, 0, none⟩)) (hasB2 client number) (fun W' fW e he => find1_calls W' w.heap.size (w.heap.size + 1) client number e (((hb1.fr f id).fr fW id).cell rfl) (((hb2.fr f id).fr fW id).cell rfl))
  replace hB := hB.fr f0 id
  generalize es.any (hasB2 client number) = v at *
  have hmf : ∀ (fn : Fn) (first cap : Array Value) (w : World), (Instr.makeFunc fn first cap).run Tryd.prog w = .ok (.func fn first cap) w := fun _ _ _ _ => rfl
  clear hO hgp hb1 hb2
  go_enter Tryd.func53, Tryd.ntmps53
  go_upto_region 1 with fail
  generalize ((w.alloc (.cells #[.int .u8 client] 5)).alloc (.cells #[.int .u64 number] 32)) = wa at *
  obtain ⟨x0, x1, xf⟩ := BlkAt.c2 hB
  go_wp2_with fail
  refine (hcon wa (Fr.refl _ _)).mono ?_
  rintro ed w2 ⟨rfl, f2⟩
  go_wp2_with fail
  go_ret
  exact BoolPost.mk' rfl (f0.then' f2)
set_option maxRecDepth 100000 in
set_option maxHeartbeats 1600000 in
theorem hasR_calls (w : World) (b n c client number : Nat) (A : Option Addr) (es : List EnV) (hR : RefA w A n c es) (hn : n ≤ 1000000) :
    Calls Tryd.prog 54 #[.agg #[.int .u64 b, .slice A n c], .int .u8 client, .int .u64 number] w (BoolPost w (es.any (hasB2 client number))) := by
  have f0 : Fr noB w (w.alloc (.cells #[.int .u64 b, .slice A n c] 54)) := (Fr.refl noB w).alloc _
  have hb2 : BlkAt (w.alloc (.cells #[.int .u64 b, .slice A n c] 54)) w.heap.size 54 #[.int .u64 b, .slice A n c] := BlkAt.new _ _ _
  have HN := hR.len
  have hrow := hR.row.fr0 f0
  clear hR
  go_enter Tryd.func54, Tryd.ntmps54
  go_upto_region 1 with fail
  generalize (w.alloc (.cells #[.int .u64 b, .slice A n c] 54)) = wa at *
  obtain ⟨x0, x1, xf⟩ := BlkAt.c2 hb2
  go_wp2_with fail
  clear x0 x1 xf hb2
  go_loopw [12] (fun i wr => ∃ j : Nat, j ≤ n ∧ i = .int .i64 j ∧ (es.take j).any (hasB2 client number) = false ∧ Fr noB wa wr) (fun i _ => n - (intOf i).toNat)
  case atStart => exact ⟨0, Nat.zero_le _, rfl, by simp, Fr.refl _ _⟩
  case round =>
    obtain ⟨j, hj, rfl, hne, hf⟩ := hrel
    by_cases hjn : j < n
    · obtain ⟨e, he⟩ : ∃ e, es[j]? = some e := ⟨_, List.getElem?_eq_getElem (by rw [HN.out]; exact hjn)⟩
      obtain ⟨ad, rfl⟩ := hrow.some_flat (by simp [EnV.C]) he
      obtain ⟨z0, z1, z2, z3, z4, z5, z6, z7, z8⟩ := ((hrow.seg 9 (fun _ => rfl) he).fr hf id).c9
      have HT : Hid ((es.take (j + 1)).any (hasB2 client number) = hasB2 client number e) := by unfold Hid; rw [take_snoc' he, List.any_append, hne]; simp
      have HF : Hid (hasB2 client number e = true → es.any (hasB2 client number) = true) := fun h => List.any_eq_true.2 ⟨e, List.mem_of_getElem? he, h⟩
      have HV : Hid (hasB2 client number e = (decide (e.cl = client) && decide (number ≤ e.num))) := rfl
      have fa : Fr noB wr (wr.alloc (.cells e.C.toArray 90)) := (Fr.refl noB wr).alloc _
      have hba : BlkAt (wr.alloc (.cells e.C.toArray 90)) wr.heap.size 90 e.C.toArray := BlkAt.new _ _ _
      have hF := hf.then' fa
      generalize hasB2 client number e = v at *
      obtain ⟨op, view, cl, num, ⟨k, oa, ob, on, or⟩⟩ := e
      unfold EnV.C at fa hba hF
      simp only [] at *
      obtain ⟨c1, hc1⟩ : ∃ c, ((cl : Int) == client) = c := ⟨_, rfl⟩
      obtain ⟨c2, hc2⟩ : ∃ c, decide (number ≤ num) = c := ⟨_, rfl⟩
      have e1 : decide (cl = client) = c1 := by rw [← hc1]; by_cases h : cl = client <;> simp [h] <;> omega
      rw [e1, hc2] at HV
      clear e1 he hne
      go_upto_region 4 with fail
      generalize hwb : (wr.alloc (.cells #[.int .u64 op, .int .u64 view, .int .u8 cl, .int .u64 num, .int .u8 k, .string oa, .string ob, .int .u8 on, .int .u8 or] 90)) = wb at *
      clear hwb z0 z1 z2 z3 z4 z5 z6 z7 z8
      obtain ⟨z0, z1, z2, z3, z4, z5, z6, z7, z8, zf⟩ := BlkAt.c9 hba
      cases c1 <;> cases c2
      case true.true =>
        go_wp2_with fail
        go_ret
        exact BoolPost.mk' (HF.out HV.out).symm (f0.then' hF)
      all_goals
        go_wp2_with fail
        go_roundw
        case rel => exact ⟨j + 1, by omega, by go_num, by rw [HT.out, HV.out]; rfl, hF⟩
        case measure => simp [intOf]; omega
    · have : j = n := by omega
      subst this
      rw [List.take_of_length_le (by rw [HN.out]; exact Nat.le_refl _)] at hne
      have HE := hid hne
      clear hne
      go_wp2_with fail
      go_ret
      exact BoolPost.mk' (by rw [HE.out]) (f0.then' hf)
/-! ### Pending -/
def sysB (node behind : Nat) (e : EnV) : Bool := decide (behind < e.op) && (decide (e.cl = 255) && decide (e.o.n = node))
def pendV (es : List EnV) (node behind : Nat) : Nat := ((es.reverse.find? (sysB node behind)).map fun e => e.o.r).getD 0
theorem pend_snoc {es : List EnV} {j node behind : Nat} {e : EnV} (h : es[j]? = some e) : pendV (es.take (j + 1)) node behind = if sysB node behind e = true then e.o.r else pendV (es.take j) node behind := by
  unfold pendV
  rw [take_snoc' h, List.reverse_append, List.reverse_singleton, List.singleton_append, List.find?_cons]
  cases hs : sysB node behind e <;> simp
set_option maxRecDepth 100000 in
set_option maxHeartbeats 1600000 in
theorem pendR_calls (w : World) (b n c node behind : Nat) (A : Option Addr) (es : List EnV) (hR : RefA w A n c es) (hn : n ≤ 1000000) :
    Calls Tryd.prog 52 #[.agg #[.int .u64 b, .slice A n c], .int .u8 node, .int .u64 behind] w (fun ed w' => ed = .returned (.int .u8 (pendV es node behind : Nat)) ∧ Fr noB w w') := by
  have f0 : Fr noB w (w.alloc (.cells #[.int .u64 b, .slice A n c] 54)) := (Fr.refl noB w).alloc _
  have hb2 : BlkAt (w.alloc (.cells #[.int .u64 b, .slice A n c] 54)) w.heap.size 54 #[.int .u64 b, .slice A n c] := BlkAt.new _ _ _
  have HN := hR.len
  have hrow := hR.row.fr0 f0
  clear hR
  go_enter Tryd.func52, Tryd.ntmps52
  go_upto_region 1 with fail
  generalize (w.alloc (.cells #[.int .u64 b, .slice A n c] 54)) = wa at *
  obtain ⟨x0, x1, xf⟩ := BlkAt.c2 hb2
  go_wp2_with fail
  clear x0 x1 xf hb2
  go_loopw [7, 13] (fun v i wr => ∃ j : Nat, j ≤ n ∧ i = .int .i64 j ∧ v = .int .u8 (pendV (es.take j) node behind : Nat) ∧ Fr noB wa wr) (fun _ i _ => n - (intOf i).toNat)
  case atStart => exact ⟨0, Nat.zero_le _, rfl, by simp [pendV], Fr.refl _ _⟩
  case round =>
    obtain ⟨j, hj, rfl, rfl, hf⟩ := hrel
    by_cases hjn : j < n
    · obtain ⟨e, he⟩ : ∃ e, es[j]? = some e := ⟨_, List.getElem?_eq_getElem (by rw [HN.out]; exact hjn)⟩
      obtain ⟨ad, rfl⟩ := hrow.some_flat (by simp [EnV.C]) he
      obtain ⟨z0, z1, z2, z3, z4, z5, z6, z7, z8⟩ := ((hrow.seg 9 (fun _ => rfl) he).fr hf id).c9
      have HT := hid (pend_snoc (node := node) (behind := behind) he)
      have HV : Hid (sysB node behind e = (decide (behind < e.op) && (decide (e.cl = 255) && decide (e.o.n = node)))) := rfl
      have fa : Fr noB wr (wr.alloc (.cells e.C.toArray 90)) := (Fr.refl noB wr).alloc _
      have hba : BlkAt (wr.alloc (.cells e.C.toArray 90)) wr.heap.size 90 e.C.toArray := BlkAt.new _ _ _
      have hF := hf.then' fa
      obtain ⟨nx, hnx⟩ : ∃ x, pendV (es.take (j + 1)) node behind = x := ⟨_, rfl⟩
      rw [hnx] at HT
      have HX := hid hnx
      clear hnx
      generalize pendV (es.take j) node behind = pv at *
      generalize sysB node behind e = v at *
      obtain ⟨op, view, cl, num, ⟨k, oa, ob, on, or⟩⟩ := e
      unfold EnV.C at fa hba hF
      simp only [] at *
      obtain ⟨c1, hc1⟩ : ∃ c, decide (behind < op) = c := ⟨_, rfl⟩
      obtain ⟨c2, hc2⟩ : ∃ c, ((cl : Int) == 255) = c := ⟨_, rfl⟩
      obtain ⟨c3, hc3⟩ : ∃ c, ((on : Int) == node) = c := ⟨_, rfl⟩
      have e2 : decide (cl = 255) = c2 := by rw [← hc2]; by_cases h : cl = 255 <;> simp [h] <;> omega
      have e3 : decide (on = node) = c3 := by rw [← hc3]; by_cases h : on = node <;> simp [h] <;> omega
      rw [hc1, e2, e3] at HV
      clear e2 e3 he
      go_upto_region 5 with fail
      generalize hwb : (wr.alloc (.cells #[.int .u64 op, .int .u64 view, .int .u8 cl, .int .u64 num, .int .u8 k, .string oa, .string ob, .int .u8 on, .int .u8 or] 90)) = wb at *
      clear hwb z0 z1 z2 z3 z4 z5 z6 z7 z8
      obtain ⟨z0, z1, z2, z3, z4, z5, z6, z7, z8, zf⟩ := BlkAt.c9 hba
      cases c1 <;> cases c2 <;> cases c3
      all_goals
        go_wp2_with fail
        go_roundw
        case rel => exact ⟨j + 1, by omega, by go_num, by rw [HX.out, HT.out, HV.out]; rfl, hF⟩
        case measure => simp [intOf]; omega
    · have : j = n := by omega
      subst this
      rw [List.take_of_length_le (by rw [HN.out]; exact Nat.le_refl _)]
      go_wp2_with fail
      go_ret
      exact ⟨rfl, f0.then' hf⟩
end Go.Proofs.YtcaihinenfnekaaDoor
/- log.Pending: a range over slices.Backward. -/
namespace Go.Proofs.YtcaihinenfnekaaDoor
open Go.RowKit Go.Shelf
attribute [local go_sem] Oper.semAt_some
set_option maxRecDepth 100000 in
theorem backward_calls (w : World) (A : Option Addr) (n c : Nat) : Calls Tryd.prog 93 #[.slice A n c] w (fun e w' => e = .returned (.func (.func 123) #[] #[.pointer (some ⟨w.heap.size, 0, none⟩)]) ∧ w' = w.alloc (.cells #[.slice A n c] 33)) := by
  have hmf : ∀ (fn : Fn) (first cap : Array Value) (w : World), (Instr.makeFunc fn first cap).run Tryd.prog w = .ok (.func fn first cap) w := fun _ _ _ _ => rfl
  go_enter Tryd.func93, Tryd.ntmps93
  go_wp2_with fail
  go_ret
  exact ⟨rfl, rfl⟩
/-- What has come behind k rounds. -/
def backL (es : List EnV) (k : Nat) : List (Nat × EnV) := (List.range k).map fun j => (es.length - 1 - j, es.getD (es.length - 1 - j) zeroE)
theorem backL_succ (es : List EnV) (k : Nat) : backL es (k + 1) = backL es k ++ [(es.length - 1 - k, es.getD (es.length - 1 - k) zeroE)] := by simp [backL, List.range_succ]
theorem backL_length (es : List EnV) (k : Nat) : (backL es k).length = k := by simp [backL]
def encE (x : Nat × EnV) : Array Value := #[.int .i64 (x.1 : Int), x.2.v]
set_option maxRecDepth 100000 in
set_option maxHeartbeats 2000000 in
theorem back1_in (F : Fence) (m : Nat) (hF : F.fn 123) (hro : F.round = none) (hm : 1 ≤ m) (l Bs n₀ n c : Nat) (A : Option Addr) (es : List EnV) (HN : Hid (es.length = n)) (hn : n ≤ 1000000) (hb : Bs < n₀) (hlow : ∀ ad, A = some ad → ad.block < n₀)
    (J Jx : List (Nat × EnV) → World → Prop)
    (hY : ∀ pre x W, J pre W → pre.length < n → YieldAt F (m - 1) Tryd.prog l (encE x) W fun e W' =>
      (e = .returned (.bool true) ∧ J (pre ++ [x]) W' ∧ Below n₀ W W') ∨ (e = .returned (.bool false) ∧ Jx (pre ++ [x]) W'))
    (W : World) (hBs : W.cell? ⟨Bs, 0, none⟩ = some (.slice A n c)) (hc : RowAt W A (es.flatMap EnV.C)) (h0 : J [] W) :
    CallsIn F m Tryd.prog 123 #[.func (.yield l) #[] #[], .pointer (some ⟨Bs, 0, none⟩)] W fun e W' => (∃ v, e = .returned v) ∧
      ((∃ ys, ys = backL es n ∧ J ys W') ∨ (∃ pre, (∃ k, k ≤ n ∧ pre = backL es k) ∧ Jx pre W')) := by
  refine callsIn_of_wp Tryd.func123 rfl hF ?_ hro
  simp only [Tryd.ntmps123, List.size_toArray, List.length_cons, List.length_nil, Nat.reduceAdd, Nat.reduceSub, Array.replicate_succ, Array.replicate_zero, List.push_toArray, List.append_toArray, List.nil_append, List.cons_append]
  gi_wp2
  gi_loopw [3] (fun i wr => ∃ k : Nat, k ≤ n ∧ i = .int .i64 ((n : Int) - 1 - k) ∧ J (backL es k) wr ∧ Below n₀ W wr)
    (fun i _ => (intOf i + 1).toNat)
  case atStart => exact ⟨0, Nat.zero_le _, by simp, h0, Below.refl _ _⟩
  case round =>
    obtain ⟨k, hk, rfl, hJs, hnx⟩ := hrel
    have hBs' : wr.cell? ⟨Bs, 0, none⟩ = some (.slice A n c) := (hnx.cell (p := ⟨Bs, 0, none⟩) hb).trans hBs
    by_cases hlt : k < n
    · obtain ⟨j, hj⟩ : ∃ j, n - 1 - k = j := ⟨_, rfl⟩
      obtain ⟨e, he⟩ : ∃ e, es[j]? = some e := ⟨_, List.getElem?_eq_getElem (by rw [HN.out]; omega)⟩
      have HX : Hid ((es.length - 1 - k, es.getD (es.length - 1 - k) zeroE) = (j, e)) := by
        unfold Hid; rw [HN.out, hj, List.getD_eq_getElem?_getD, he]; rfl
      obtain ⟨fn, tmps, assign, body, hy, hR⟩ := hY _ (j, e) wr hJs (by rw [backL_length]; exact hlt)
      have HJ := hid (backL_succ es k)
      rw [HX.out] at HJ
      obtain ⟨ad, rfl⟩ := hc.some_flat (by simp [EnV.C]) he
      have hsg : SegAt wr (ad.add (j * 9)) e.C := fun t u hu => (hnx.cell (p := (ad.add (j * 9)).add t) (by rw [add_block, add_block]; exact hlow ad rfl)).trans ((hc.seg 9 (fun _ => rfl) he) t u hu)
      have hji : (n : Int) - 1 - k = j := by omega
      have hji2 : (n : Int) - 1 - ((k + 1 : Nat) : Int) = (j : Int) - 1 := by omega
      have hjn : j < n := by omega
      obtain ⟨op, view, cl, num, ⟨k1, oa, ob, on, or⟩⟩ := e
      unfold EnV.C at hsg
      unfold encE EnV.v at hy
      simp only [] at hsg hy
      obtain ⟨z0, z1, z2, z3, z4, z5, z6, z7, z8⟩ := hsg.c9
      rw [hji]
      clear he HX hsg
      gi_wp2
      refine hR.mono ?_
      rintro e W3 (⟨rfl, hJ3, hk3⟩ | ⟨rfl, hJx3⟩)
      · gi_wp2
        go_roundw
        case rel => exact ⟨k + 1, by omega, by rw [hji2], by rw [HJ.out]; exact hJ3, hnx.trans hk3⟩
        case measure => simp [intOf] <;> omega
      · gi_wp2
        refine bodyPost_ret (results_none rfl _ _ _) rfl ?_
        exact ⟨⟨_, rfl⟩, .inr ⟨_, ⟨k + 1, by omega, HJ.out.symm⟩, hJx3⟩⟩
    · obtain rfl : k = n := by omega
      have hm1 : (k : Int) - 1 - k = -1 := by omega
      rw [hm1]
      gi_wp2
      go_end0
      exact ⟨⟨_, rfl⟩, .inl ⟨_, rfl, hJs⟩⟩
theorem back_stops (F : Fence) (m : Nat) (hF : F.fn 123) (hro : F.round = none) (hm : 1 ≤ m) (Bs n₀ n c : Nat) (A : Option Addr) (es : List EnV) (HN : Hid (es.length = n)) (hn : n ≤ 1000000) (w : World) (hb : Bs < n₀) (hn₀ : n₀ ≤ w.heap.size) (hlow : ∀ ad, A = some ad → ad.block < n₀)
    (hBs : w.cell? ⟨Bs, 0, none⟩ = some (.slice A n c)) (hc : RowAt w A (es.flatMap EnV.C)) :
    SeqStopsK F m Tryd.prog 123 #[.pointer (some ⟨Bs, 0, none⟩)] encE (Below n₀) (fun ys => ys = backL es n) (fun pre => ∃ k, k ≤ n ∧ pre = backL es k) n w := fun l J Jx W hW _ _ hY h0 => by
  have hc' : RowAt W A (es.flatMap EnV.C) := fun j u hu => by
    obtain ⟨ad, e, h1⟩ := hc j u hu
    exact ⟨ad, e, (hW.cell (p := ad.add j) (by rw [add_block]; exact Nat.lt_of_lt_of_le (hlow ad e) hn₀)).trans h1⟩
  exact back1_in F m hF hro hm l Bs n₀ n c A es HN hn hb hlow J Jx hY W ((hW.cell (p := ⟨Bs, 0, none⟩) (Nat.lt_of_lt_of_le hb hn₀)).trans hBs) hc' h0

/-! ### Pending -/
def pendO (es : List EnV) (node behind : Nat) : Option Nat := (es.reverse.find? (sysB node behind)).map fun e => e.o.r
theorem blk_own {β : Type} (B p : Nat) (T : TypeId) (C : Array Value) : OwnFrom B (fun (_ : β) W => BlkAt W p T C) := fun _ W W' row hs hg hr => by
  have hs : W.heap[p]? = some (.cells C T (0, 0)) := hs
  show W'.heap[p]? = some (.cells C T (0, 0))
  rw [hg.block p (BlkAt.lt hs) (fun e => by
    obtain ⟨_, o, ho, hc⟩ := hr p e.symm
    rw [hs] at ho; cases ho; cases hc)]
  exact hs
theorem blk_below {n0 : Nat} {W W' : World} {p : Nat} {T : TypeId} {C : Array Value} (h : BlkAt W p T C) (b : Below n0 W W') (hp : p < n0) : BlkAt W' p T C := by
  unfold BlkAt at *
  rw [b.block p hp]; exact h
theorem fr_below {w W : World} (h : Below w.heap.size w W) : Fr noB w W := Fr.of_below h noB
theorem backL_rev (es : List EnV) : ∀ k, k ≤ es.length → (backL es k).map (·.2) = es.reverse.take k
  | 0, _ => by simp [backL]
  | k + 1, h => by
    have hg : es.reverse[k]? = some (es.getD (es.length - 1 - k) zeroE) := by
      rw [List.getElem?_reverse (by omega), List.getD_eq_getElem?_getD, List.getElem?_eq_getElem (by omega)]; rfl
    rw [backL_succ, List.map_append, backL_rev es k (by omega), take_snoc' hg]
    rfl
/-- A round has found one. -/
def lastHit (node behind : Nat) (pre : List (Nat × EnV)) : Prop := ∃ q x, pre = q ++ [x] ∧ q.all (fun y => !sysB node behind y.2) = true ∧ sysB node behind x.2 = true
def rOf (pre : List (Nat × EnV)) : Nat := (pre.getLast?.map fun x => x.2.o.r).getD 0
theorem rOf_snoc (q : List (Nat × EnV)) (x : Nat × EnV) : rOf (q ++ [x]) = x.2.o.r := by simp [rOf]
theorem find_skip {α : Type} {p : α → Bool} : ∀ {l m : List α}, l.all (fun y => !p y) = true → (l ++ m).find? p = m.find? p
  | [], _, _ => rfl
  | x :: l, m, h => by
    simp only [List.all_cons, Bool.and_eq_true, Bool.not_eq_true'] at h
    rw [List.cons_append, List.find?_cons, h.1]
    exact find_skip h.2
theorem pend_hit {es : List EnV} {node behind k : Nat} (hk : k ≤ es.length) (h : lastHit node behind (backL es k)) : pendO es node behind = some (rOf (backL es k)) := by
  obtain ⟨q, x, h1, h2, h3⟩ := h
  have hm := backL_rev es k hk
  rw [h1] at hm ⊢
  rw [rOf_snoc]
  unfold pendO
  have hr : es.reverse = q.map (·.2) ++ (x.2 :: es.reverse.drop k) := by
    have := (List.take_append_drop k es.reverse).symm
    rw [← hm] at this
    simpa using this
  rw [hr, find_skip (by rw [List.all_map]; exact h2), List.find?_cons, h3]
  rfl
theorem pend_miss {es : List EnV} {node behind : Nat} (h : (backL es es.length).all (fun y => !sysB node behind y.2) = true) : pendO es node behind = none := by
  have hm := backL_rev es es.length (Nat.le_refl _)
  rw [List.take_of_length_le (by simp)] at hm
  unfold pendO
  have := find_skip (p := sysB node behind) (l := (backL es es.length).map (·.2)) (m := []) (by rw [List.all_map]; exact h)
  rw [List.append_nil, hm] at this
  rw [this]
  rfl
set_option maxRecDepth 100000 in
set_option maxHeartbeats 4000000 in
theorem pendL_calls (w : World) (U : Nat → Prop) (p b node behind : Nat) (es : List EnV) (h : LogA w U p b es) (hw : es.length ≤ 1000000) :
    Calls Tryd.prog 51 #[.pointer (some ⟨p, 0, none⟩), .int .u8 node, .int .u64 behind] w
      (fun ed w' => ed = .returned (.tuple #[.int .u8 ((pendO es node behind).getD 0 : Nat), .bool (pendO es node behind).isSome]) ∧ Fr noB w w') := by
  have hr : Hid (Tryd.f51.results = #[.cell 6 36, .cell 7 4]) := by unfold Hid; kernel_rfl
  obtain ⟨A, n, c, hn, hB, hO, hUp, hgp⟩ := h
  rw [hn.out] at hw
  have hrow := own_row hO
  have hpl := hB.lt
  have hlow : ∀ ad, A = some ad → ad.block < w.heap.size := fun ad e => own_lt hO (by subst e; rfl)
  refine (callsIn_wide (n := 6)).1 ?_
  refine callsIn_of_wp_marks Tryd.func51 rfl trivial ?_ rfl
  simp only [Tryd.ntmps51, List.size_toArray, List.length_cons, List.length_nil, Nat.reduceAdd, Nat.reduceSub, Array.replicate_succ, Array.replicate_zero, List.push_toArray, List.append_toArray, List.nil_append, List.cons_append]
  have f0 : Fr noB w ((((w.alloc (.cells #[.int .u8 node] 5)).alloc (.cells #[.int .u64 behind] 32)).alloc (.cells #[.int .u8 0] 36)).alloc (.cells #[.bool false] 4)) := ((((Fr.refl noB w).alloc _).alloc _).alloc _).alloc _
  obtain ⟨x0, x1, xf⟩ := BlkAt.c2 (hB.fr f0 id)
  gi_wp2
  refine ⟨trivial, ?_⟩
  refine (callsIn_wide.2 (backward_calls _ A n c)).mono ?_
  rintro ed w' ⟨rfl, rfl⟩
  have f1 := f0.alloc (.cells #[.slice A n c] 33)
  have b4 := ((((BlkAt.new w #[.int .u8 node] 5).al (.cells #[.int .u64 behind] 32)).al (.cells #[.int .u8 0] 36)).al (.cells #[.bool false] 4)).al (.cells #[.slice A n c] 33)
  have b5 := (((BlkAt.new (w.alloc (.cells #[.int .u8 node] 5)) #[.int .u64 behind] 32).al (.cells #[.int .u8 0] 36)).al (.cells #[.bool false] 4)).al (.cells #[.slice A n c] 33)
  have b6 := ((BlkAt.new ((w.alloc (.cells #[.int .u8 node] 5)).alloc (.cells #[.int .u64 behind] 32)) #[.int .u8 0] 36).al (.cells #[.bool false] 4)).al (.cells #[.slice A n c] 33)
  have b7 := (BlkAt.new (((w.alloc (.cells #[.int .u8 node] 5)).alloc (.cells #[.int .u64 behind] 32)).alloc (.cells #[.int .u8 0] 36)) #[.bool false] 4).al (.cells #[.slice A n c] 33)
  have b8 := BlkAt.new ((((w.alloc (.cells #[.int .u8 node] 5)).alloc (.cells #[.int .u64 behind] 32)).alloc (.cells #[.int .u8 0] 36)).alloc (.cells #[.bool false] 4)) #[.slice A n c] 33
  have hsz : (((((w.alloc (.cells #[.int .u8 node] 5)).alloc (.cells #[.int .u64 behind] 32)).alloc (.cells #[.int .u8 0] 36)).alloc (.cells #[.bool false] 4)).alloc (.cells #[.slice A n c] 33)).heap.size = w.heap.size + 5 := by simp only [al_size]
  simp only [al_size] at b5 b6 b7 b8
  have hrow0 := hrow.fr0 f1
  clear x0 x1 xf
  gi_wp2
  obtain ⟨W0, hW0⟩ : ∃ W0, (((((w.alloc (.cells #[.int .u8 node] 5)).alloc (.cells #[.int .u64 behind] 32)).alloc (.cells #[.int .u8 0] 36)).alloc (.cells #[.bool false] 4)).alloc (.cells #[.slice A n c] 33)) = W0 := ⟨_, rfl⟩
  rw [hW0] at f1 b4 b5 b6 b7 b8 hsz hrow0 ⊢
  clear hW0 f0
  have hB0 := f1.below0
  have hpO : ∀ k, k ≤ n → lastHit node behind (backL es k) → pendO es node behind = some (rOf (backL es k)) := fun k hk h => pend_hit (by rw [hn.out]; exact hk) h
  have hpN : (backL es n).all (fun y => !sysB node behind y.2) = true → pendO es node behind = none := fun h => pend_miss (by rw [hn.out]; exact h)
  refine wpIn_rangeFunc_ownH rfl (by decide) (gf := 123) (lb := #[.pointer (some ⟨w.heap.size + 1 + 1 + 1 + 1, 0, none⟩)]) rfl trivial (enters_of Tryd.func123 (by kernel_rfl) rfl)
    (back_stops Fence.wide (6 - 1) trivial rfl (by decide) (w.heap.size + 1 + 1 + 1 + 1) W0.heap.size n c A es hn hw W0 (by omega) (by omega) (fun ad e => by have := hlow ad e; omega) (b8.cell rfl) hrow0) belowK_t (belowK_b (by omega)) (Below.refl _ _) (fun _ => rfl)
    (fun pre W => ((((BlkAt W w.heap.size 5 #[.int .u8 node] ∧ BlkAt W (w.heap.size + 1) 32 #[.int .u64 behind]) ∧ BlkAt W (w.heap.size + 1 + 1) 36 #[.int .u8 0]) ∧ BlkAt W (w.heap.size + 1 + 1 + 1) 4 #[.bool false]) ∧ pre.all (fun y => !sysB node behind y.2) = true) ∧ Below W0.heap.size W0 W)
    (fun co pre W => ((BlkAt W (w.heap.size + 1 + 1) 36 #[.int .u8 (rOf pre : Nat)] ∧ BlkAt W (w.heap.size + 1 + 1 + 1) 4 #[.bool true]) ∧ (co = .ret ∧ lastHit node behind pre)) ∧ Below w.heap.size w W)
    (OwnFrom.and (OwnFrom.and (OwnFrom.and (OwnFrom.and (OwnFrom.and (blk_own _ _ _ _) (blk_own _ _ _ _)) (blk_own _ _ _ _)) (blk_own _ _ _ _)) (fun _ _ _ _ hs _ _ => hs)) (ownFrom_below (Nat.le_refl _) (by omega)))
    (fun co => OwnFrom.and (OwnFrom.and (OwnFrom.and (fun pre W W' row hs hg hr => blk_own W0.heap.size _ _ _ pre W W' row hs hg hr) (blk_own _ _ _ _)) (fun _ _ _ _ hs _ _ => hs)) (ownFrom_below (Nat.le_refl _) (by omega)))
    ⟨⟨⟨⟨⟨b4, b5⟩, b6⟩, b7⟩, by simp⟩, Below.refl _ _⟩
    (fun x a' W => ∃ Bx, (BlkAt W Bx 42 x.2.C.toArray ∧ w.heap.size + 5 ≤ Bx) ∧ a' = { tmps := #[.pointer (some ⟨p, 0, none⟩), .int .u8 node, .int .u64 behind, undef, .pointer (some ⟨w.heap.size, 0, none⟩), .pointer (some ⟨w.heap.size + 1, 0, none⟩), .pointer (some ⟨w.heap.size + 1 + 1, 0, none⟩), .pointer (some ⟨w.heap.size + 1 + 1 + 1, 0, none⟩), undef, .pointer (some ⟨Bx, 0, none⟩), undef, .pointer (some ⟨p, 0, none⟩), .pointer (some ⟨p, 0, none⟩), .pointer (some ⟨p, 1, none⟩), .slice A n c, .func (.func 123) #[] #[.pointer (some ⟨w.heap.size + 1 + 1 + 1 + 1, 0, none⟩)], .int .i64 (x.1 : Int), x.2.v, undef, undef, undef, undef, undef, undef, undef, undef, undef, undef, undef, undef, undef, undef, undef, undef, undef, undef, undef, undef, undef], defers := [] })
    (fun x a' _ X Y row hs hg hr => by obtain ⟨Bx, ⟨h1, h2⟩, h3⟩ := hs; exact ⟨Bx, ⟨blk_own W0.heap.size Bx 42 x.2.C.toArray () X Y row h1 hg hr, h2⟩, h3⟩)
    ?assign ?body ?done ?stop
  case assign =>
    rintro l pre ⟨i, e⟩ W K ⟨⟨⟨⟨⟨b41, b51⟩, b61⟩, b71⟩, hall⟩, hB1⟩ hK
    have hsW := hB1.size
    have hbn := BlkAt.new W e.C.toArray 42
    obtain ⟨op, view, cl, num, ⟨k, oa, ob, on, or⟩⟩ := e
    unfold EnV.C at hbn
    unfold encE EnV.v
    simp only [] at *
    gi_wp2
    exact hK _ _ ((KeepsOthers.alloc _ _).from _) ((Below.refl _ W).alloc hsW _) ⟨⟨⟨⟨⟨b41.al _, b51.al _⟩, b61.al _⟩, b71.al _⟩, hall⟩, hB1.alloc hsW _⟩ ⟨W.heap.size, ⟨hbn, by omega⟩, rfl⟩
  case body =>
    rintro l pre ⟨i, e⟩ a' W hl ⟨r, hlr⟩ ⟨⟨⟨⟨⟨b41, b51⟩, b61⟩, b71⟩, hall⟩, hB1⟩ ⟨Bx, ⟨hbx, hge⟩, rfl⟩ hlt
    have hsW := hB1.size
    have HS : Hid (sysB node behind e = (decide (behind < e.op) && (decide (e.cl = 255) && decide (e.o.n = node)))) := rfl
    have HA : Hid ((pre ++ [(i, e)]).all (fun y => !sysB node behind y.2) = !sysB node behind e) := by unfold Hid; rw [List.all_append, hall]; simp
    have HH : Hid (sysB node behind e = true → lastHit node behind (pre ++ [(i, e)])) := fun h => ⟨pre, (i, e), rfl, hall, h⟩
    have HR : Hid (rOf (pre ++ [(i, e)]) = e.o.r) := rOf_snoc pre (i, e)
    generalize sysB node behind e = v at *
    obtain ⟨op, view, cl, num, ⟨k, oa, ob, on, or⟩⟩ := e
    unfold EnV.C at hbx
    unfold EnV.v
    simp only [] at *
    obtain ⟨c1, hc1⟩ : ∃ c, decide (behind < op) = c := ⟨_, rfl⟩
    obtain ⟨c2, hc2⟩ : ∃ c, ((cl : Int) == 255) = c := ⟨_, rfl⟩
    obtain ⟨c3, hc3⟩ : ∃ c, ((on : Int) == node) = c := ⟨_, rfl⟩
    have e2 : decide (cl = 255) = c2 := by rw [← hc2]; by_cases h : cl = 255 <;> simp [h] <;> omega
    have e3 : decide (on = node) = c3 := by rw [← hc3]; by_cases h : on = node <;> simp [h] <;> omega
    rw [hc1, e2, e3] at HS
    clear e2 e3 hall
    have hq := BlkAt.new W #[.int .u8 cl, .int .u64 num, .int .u8 k, .string oa, .string ob, .int .u8 on, .int .u8 or] 40
    have b42 := b41.al (.cells #[.int .u8 cl, .int .u64 num, .int .u8 k, .string oa, .string ob, .int .u8 on, .int .u8 or] 40)
    have b52 := b51.al (.cells #[.int .u8 cl, .int .u64 num, .int .u8 k, .string oa, .string ob, .int .u8 on, .int .u8 or] 40)
    have b62 := b61.al (.cells #[.int .u8 cl, .int .u64 num, .int .u8 k, .string oa, .string ob, .int .u8 on, .int .u8 or] 40)
    have b72 := b71.al (.cells #[.int .u8 cl, .int .u64 num, .int .u8 k, .string oa, .string ob, .int .u8 on, .int .u8 or] 40)
    have hbx2 := hbx.al (.cells #[.int .u8 cl, .int .u64 num, .int .u8 k, .string oa, .string ob, .int .u8 on, .int .u8 or] 40)
    have hB2 := hB1.alloc hsW (.cells #[.int .u8 cl, .int .u64 num, .int .u8 k, .string oa, .string ob, .int .u8 on, .int .u8 or] 40)
    have hK2 := (KeepsOthers.alloc W (.cells #[.int .u8 cl, .int .u64 num, .int .u8 k, .string oa, .string ob, .int .u8 on, .int .u8 or] 40)).from W0.heap.size
    have hP2 := (Below.refl W0.heap.size W).alloc hsW (.cells #[.int .u8 cl, .int .u64 num, .int .u8 k, .string oa, .string ob, .int .u8 on, .int .u8 or] 40)
    obtain ⟨x0, x1, x2, x3, x4, x5, x6, x7, x8, xf⟩ := BlkAt.c9 hbx
    obtain ⟨y0, y1, y2, y3, y4, y5, y6, y7, y8, yf⟩ := BlkAt.c9 hbx2
    obtain ⟨q0, q1, q2, q3, q4, q5, q6, qf⟩ := BlkAt.c7 hq
    obtain ⟨n0, nf⟩ := BlkAt.c1 b42
    obtain ⟨m0, mf⟩ := BlkAt.c1 b52
    obtain ⟨r0, rf⟩ := BlkAt.c1 b62
    obtain ⟨s0, sf⟩ := BlkAt.c1 b72
    have hB0W : Below w.heap.size w W := hB0.trans (hB1.mono (by omega))
    have b4l := b41.lt
    have b7l := b71.lt
    cases c1 <;> cases c2 <;> cases c3
    case true.true.true =>
      gi_wp2
      have h6 := b62.set 0 (.int .u8 or)
      have f6 := fr_set1 (W.alloc (.cells #[.int .u8 cl, .int .u64 num, .int .u8 k, .string oa, .string ob, .int .u8 on, .int .u8 or] 40)) (w.heap.size + 1 + 1) 0 (.int .u8 or)
      have h7 := (b72.fr f6 (by unfold eqB; omega)).set 0 (.bool true)
      have f7 := fr_set1 ((W.alloc (.cells #[.int .u8 cl, .int .u64 num, .int .u8 k, .string oa, .string ob, .int .u8 on, .int .u8 or] 40)).setCell ⟨w.heap.size + 1 + 1, 0, none⟩ (.int .u8 or)) (w.heap.size + 1 + 1 + 1) 0 (.bool true)
      have h6' := h6.fr f7 (by unfold eqB; omega)
      exact ⟨(hK2.trans ((KeepsOthers.setCell _ _ _).from _)).trans ((KeepsOthers.setCell _ _ _).from _), ⟨⟨by rw [HR.out]; exact h6', h7⟩, rfl, HH.out HS.out⟩, ((hB0W.alloc (by omega) _).setCell (p := ⟨w.heap.size + 1 + 1, 0, none⟩) (by simp; omega) _).setCell (p := ⟨w.heap.size + 1 + 1 + 1, 0, none⟩) (by simp; omega) _⟩
    all_goals
      gi_wp2
      exact ⟨hK2, hP2, ⟨⟨⟨⟨⟨b42, b52⟩, b62⟩, b72⟩, by rw [HA.out, HS.out]; rfl⟩, hB2⟩⟩
  case done =>
    rintro D ys W hD rfl ⟨⟨⟨⟨⟨b41, b51⟩, b61⟩, b71⟩, hall⟩, hB1⟩ hK
    obtain ⟨r0, rf⟩ := BlkAt.c1 b61
    obtain ⟨s0, sf⟩ := BlkAt.c1 b71
    have HV := hid (hpN hall)
    gi_wp2
    have hK6 := (KeepsOthers.setCell W ⟨w.heap.size + 1 + 1, 0, none⟩ (.int .u8 0)).same D _ hK rfl
    have hK7 := (KeepsOthers.setCell (W.setCell ⟨w.heap.size + 1 + 1, 0, none⟩ (.int .u8 0)) ⟨w.heap.size + 1 + 1 + 1, 0, none⟩ (.bool false)).same D _ hK6 rfl
    refine ⟨by simp, .inl ⟨_, _, rfl, run_takeDeferred hK7, ?_⟩⟩
    have h6 := b61.set 0 (.int .u8 0)
    have f6 := fr_set1 W (w.heap.size + 1 + 1) 0 (.int .u8 0)
    have h7 := (b71.fr f6 (by unfold eqB; omega)).set 0 (.bool false)
    have f7 := fr_set1 (W.setCell ⟨w.heap.size + 1 + 1, 0, none⟩ (.int .u8 0)) (w.heap.size + 1 + 1 + 1) 0 (.bool false)
    have h6' := h6.fr f7 (by unfold eqB; omega)
    have hBW : Below w.heap.size w W := hB0.trans (hB1.mono (by omega))
    have hBF := ((hBW.setCell (p := ⟨w.heap.size + 1 + 1, 0, none⟩) (by simp; omega) (.int .u8 0)).setCell (p := ⟨w.heap.size + 1 + 1 + 1, 0, none⟩) (by simp; omega) (.bool false)).trans (belowK_b (w := w) (o' := .deferred none) (Nat.le_refl _) _ D _ (by omega) hK7 rfl rfl)
    have hg7 := grownBy_putObj' ((W.setCell ⟨w.heap.size + 1 + 1, 0, none⟩ (.int .u8 0)).setCell ⟨w.heap.size + 1 + 1 + 1, 0, none⟩ (.bool false)) D (.deferred none)
    have hz6 := blk_own 0 _ _ _ () _ _ _ h6' hg7 (fun r e => by cases e; exact ⟨Nat.zero_le _, _, hK7, rfl⟩)
    have hz7 := blk_own 0 _ _ _ () _ _ _ h7 hg7 (fun r e => by cases e; exact ⟨Nat.zero_le _, _, hK7, rfl⟩)
    clear hg7 hK7 hK6 h6 f6 h7 f7 h6' hK
    generalize (((W.setCell ⟨w.heap.size + 1 + 1, 0, none⟩ (.int .u8 0)).setCell ⟨w.heap.size + 1 + 1 + 1, 0, none⟩ (.bool false)).putObj D (.deferred none)) = Wf at *
    have k6 : Wf.cell? ⟨w.heap.size + 1 + 1, 0, none⟩ = some (.int .u8 0) := BlkAt.cell hz6 rfl
    have k7 : Wf.cell? ⟨w.heap.size + 1 + 1 + 1, 0, none⟩ = some (.bool false) := BlkAt.cell hz7 rfl
    have hr := hr.out
    exact ⟨.tuple #[.int .u8 0, .bool false], by simp [results, hr, go_sem, k6, k7], by rw [HV.out]; rfl, Fr.of_below hBF noB⟩
  case stop =>
    rintro D co pre W hD ⟨k, hk, rfl⟩ ⟨⟨⟨b61, b71⟩, rfl, hhit⟩, hB1⟩ hK
    have HV := hid (hpO k hk hhit)
    gi_wp2
    refine ⟨by simp, .inl ⟨_, _, rfl, run_takeDeferred hK, ?_⟩⟩
    have hBF := hB1.trans (belowK_b (w := w) (o' := .deferred none) (Nat.le_refl _) _ D _ (by omega) hK rfl rfl)
    have hg7 := grownBy_putObj' W D (.deferred none)
    have hz6 := blk_own 0 _ _ _ () _ _ _ b61 hg7 (fun r e => by cases e; exact ⟨Nat.zero_le _, _, hK, rfl⟩)
    have hz7 := blk_own 0 _ _ _ () _ _ _ b71 hg7 (fun r e => by cases e; exact ⟨Nat.zero_le _, _, hK, rfl⟩)
    clear hg7 hK
    generalize (W.putObj D (.deferred none)) = Wf at *
    generalize rOf (backL es k) = ro at *
    have k6 : Wf.cell? ⟨w.heap.size + 1 + 1, 0, none⟩ = some (.int .u8 (ro : Nat)) := BlkAt.cell hz6 rfl
    have k7 : Wf.cell? ⟨w.heap.size + 1 + 1 + 1, 0, none⟩ = some (.bool true) := BlkAt.cell hz7 rfl
    have hr := hr.out
    exact ⟨.tuple #[.int .u8 (ro : Nat), .bool true], by simp [results, hr, go_sem, k6, k7], by rw [HV.out]; rfl, Fr.of_below hBF noB⟩
end Go.Proofs.YtcaihinenfnekaaDoor
/- log.Of, the reference's Of; interrexlaw19.Refs. -/
namespace Go.Proofs.YtcaihinenfnekaaDoor
open Go.RowKit

noncomputable def ofG (b : Nat) : List EnV → List EnV → List EnV × Nat
  | es, [] => (es, 0)
  | es, e :: r => if (appL b es e).2 ≠ 0 then ([], (appL b es e).2) else ofG b (appL b es e).1 r
noncomputable def ofL (b : Nat) (L : List EnV) : List EnV × Nat := if 1099511627776 < b then ([], 17) else ofG b [] L
theorem appL_ok {b : Nat} {es : List EnV} {e : EnV} (h : (appL b es e).2 = 0) : (appL b es e).1 = es ++ [e] := by
  unfold appL at *
  split at h
  · rename_i h1; exact absurd h h1
  · rename_i h1
    rw [if_neg h1]
    split at h
    · cases h
    · rename_i h2
      rw [if_neg h2]
      split at h
      · cases h
      · rename_i h3; rw [if_neg h3]
theorem ofG_ok {b : Nat} : ∀ {r es x : List EnV}, ofG b es r = (x, 0) → GoodL b es → (∀ e ∈ r, e.wf) → x = es ++ r ∧ GoodL b x
  | [], es, x, h, hG, _ => by
    simp only [ofG, Prod.mk.injEq, and_true] at h
    subst h
    exact ⟨by simp, hG⟩
  | e :: r, es, x, h, hG, hw => by
    simp only [ofG] at h
    split at h
    · rename_i h1; simp only [Prod.mk.injEq] at h; exact absurd h.2 h1
    · rename_i h1
      simp only [ne_eq, Decidable.not_not] at h1
      have hG1 := hG.app (e := e) (hw e (by simp))
      have ih := ofG_ok h hG1 (fun y hy => hw y (by simp [hy]))
      rw [appL_ok h1] at ih
      exact ⟨by rw [ih.1]; simp, ih.2⟩
theorem ofL_ok {b : Nat} {L x : List EnV} (h : ofL b L = (x, 0)) (hw : ∀ e ∈ L, e.wf) : x = L ∧ GoodL b L := by
  unfold ofL at h
  split at h
  · cases h
  · have := ofG_ok h (GoodL.new (by omega)) hw
    simp only [List.nil_append] at this
    exact ⟨this.1, this.1 ▸ this.2⟩
theorem drop_get {α : Type} {l : List α} {j : Nat} {e : α} (h : l[j]? = some e) : l.drop j = e :: l.drop (j + 1) := by
  obtain ⟨hj, rfl⟩ := List.getElem?_eq_some_iff.1 h
  exact List.drop_eq_getElem_cons hj
theorem ofG_nil (b : Nat) (es : List EnV) : ofG b es [] = (es, 0) := rfl
theorem ofG_step {b : Nat} {es L : List EnV} {j : Nat} {e : EnV} (h : L[j]? = some e) : ofG b es (L.drop j) = if (appL b es e).2 ≠ 0 then ([], (appL b es e).2) else ofG b (appL b es e).1 (L.drop (j + 1)) := by
  rw [drop_get h]; rfl
def OfLPost (w : World) (b : Nat) (q : List EnV × Nat) (ed : Ending) (w' : World) : Prop :=
  Fr noB w w' ∧ if q.2 = 0 then ∃ p, ed = .returned (.tuple #[.pointer (some ⟨p, 0, none⟩), .int .i64 0]) ∧ LogA w' (upB w.heap.size) p b q.1 else ed = .returned (.tuple #[.pointer none, .int .i64 (q.2 : Nat)])
theorem OfLPost.ok {w w' : World} {b p : Nat} {q : List EnV × Nat} (h0 : q.2 = 0) (f : Fr noB w w') (h : LogA w' (upB w.heap.size) p b q.1) : OfLPost w b q (.returned (.tuple #[.pointer (some ⟨p, 0, none⟩), .int .i64 0])) w' := ⟨f, by rw [if_pos h0]; exact ⟨p, rfl, h⟩⟩
theorem OfLPost.no {w w' : World} {b k : Nat} {q : List EnV × Nat} (h0 : q.2 = k) (hk : k ≠ 0) (f : Fr noB w w') : OfLPost w b q (.returned (.tuple #[.pointer none, .int .i64 k])) w' := ⟨f, by subst h0; rw [if_neg hk]⟩
set_option maxRecDepth 100000 in
set_option maxHeartbeats 1600000 in
theorem ofL_calls (w : World) (b n c : Nat) (A : Option Addr) (L : List EnV) (ht : SignsAt w) (hrow : RowAt w A (L.flatMap EnV.C)) (HN : Hid (L.length = n)) (hn : n ≤ 9223372036854775807) (hwf : ∀ e ∈ L, e.wf) (hsz : ∀ e ∈ L, e.o.a.size ≤ 1000000000000 ∧ e.o.b.size ≤ 1000000000000) :
    Calls Tryd.prog 34 #[.int .u64 b, .slice A n c] w (OfLPost w b (ofL b L)) := by
  have HV : Hid (ofL b L = if 1099511627776 < b then ([], 17) else ofG b [] L) := rfl
  generalize ofL b L = res at *
  by_cases hb : 1099511627776 < b
  · rw [if_pos hb] at HV
    have t1 : decide ((1099511627776 : Int) < b) = true := decide_eq_true (by omega)
    clear hb hrow
    go_enter Tryd.func34, Tryd.ntmps34
    go_wp2_with fail
    go_ret2
    exact OfLPost.no (k := 17) (by rw [HV.out]) (by decide) (Fr.refl _ _)
  · rw [if_neg hb] at HV
    have t1 : decide ((1099511627776 : Int) < b) = false := decide_eq_false (by omega)
    have hnew := newL_calls w b
    rw [show min b 1099511627776 = b from by omega] at hnew
    have hG0 : GoodL b [] := GoodL.new (by omega)
    clear hb
    go_enter Tryd.func34, Tryd.ntmps34
    go_wp2_with fail
    refine hnew.mono ?_
    rintro ed w1 ⟨rfl, hL1, f1⟩
    obtain ⟨p, hp⟩ : ∃ p, w.heap.size = p := ⟨_, rfl⟩
    rw [hp] at hL1 ⊢
    clear hnew
    go_wp2_with fail
    go_loopw [16] (fun i wr => ∃ (j : Nat) (es : List EnV), j ≤ n ∧ i = .int .i64 j ∧ res = ofG b es (L.drop j) ∧ LogA wr (upB p) p b es ∧ GoodL b es ∧ Fr noB w wr) (fun i _ => n - (intOf i).toNat)
    case atStart => exact ⟨0, [], Nat.zero_le _, rfl, by rw [HV.out]; rfl, hL1, hG0, f1⟩
    case round =>
      clear hL1 hG0 f1 HV
      obtain ⟨j, es, hj, rfl, hres, hL, hG, hf⟩ := hrel
      by_cases hjn : j < n
      · obtain ⟨e, he⟩ : ∃ e, L[j]? = some e := ⟨_, List.getElem?_eq_getElem (by rw [HN.out]; exact hjn)⟩
        obtain ⟨ad, rfl⟩ := hrow.some_flat (by simp [EnV.C]) he
        obtain ⟨z0, z1, z2, z3, z4, z5, z6, z7, z8⟩ := ((hrow.seg 9 (fun _ => rfl) he).fr hf id).c9
        have hmem := List.mem_of_getElem? he
        have fa : Fr noB wr (wr.alloc (.cells e.C.toArray 42)) := (Fr.refl noB wr).alloc _
        have hba : BlkAt (wr.alloc (.cells e.C.toArray 42)) wr.heap.size 42 e.C.toArray := BlkAt.new _ _ _
        have hF := hf.then' fa
        have hap := appL_calls (wr.alloc (.cells e.C.toArray 42)) (upB p) p b es e (ht.fr0 hF) (hL.fr0 fa) (fun k hk => by have := hF.size; unfold upB; omega) hG (hwf e hmem) (hsz e hmem).1 (hsz e hmem).2
        have HR := hid (hres.trans (ofG_step he))
        have hG1 := hG.app (hwf e hmem)
        generalize appL b es e = ap at *
        obtain ⟨es1, r1⟩ := ap
        obtain ⟨op, view, cl, num, ⟨k, oa, ob, on, or⟩⟩ := e
        unfold EnV.C at fa hba hF hap
        unfold EnV.v at hap
        simp only [] at *
        clear he hres hmem hL hf
        go_upto_region 7 with fail
        generalize hwa : (wr.alloc (.cells #[.int .u64 op, .int .u64 view, .int .u8 cl, .int .u64 num, .int .u8 k, .string oa, .string ob, .int .u8 on, .int .u8 or] 42)) = wa at *
        clear hwa z0 z1 z2 z3 z4 z5 z6 z7 z8 fa
        obtain ⟨z0, z1, z2, z3, z4, z5, z6, z7, z8, zf⟩ := BlkAt.c9 hba
        go_wp2_with fail
        refine hap.mono ?_
        rintro ed w3 ⟨rfl, hL3, f3⟩
        have F3 : Fr noB w w3 := hF.trans f3 (fun i hi h => by unfold upB at h; omega)
        clear hap f3 hF z0 z1 z2 z3 z4 z5 z6 z7 z8 zf hba
        by_cases hr : r1 = 0
        · rw [if_neg (by omega)] at HR
          subst hr
          go_wp2_with fail
          go_roundw
          case rel => exact ⟨j + 1, es1, by omega, by go_num, HR.out, hL3, hG1, F3⟩
          case measure => simp [intOf]; omega
        · rw [if_pos hr] at HR
          have t2 : ((r1 : Int) != 0) = true := by rw [bne_iff_ne]; omega
          go_wp2_with fail
          go_ret2
          exact OfLPost.no (k := r1) (by rw [HR.out]) hr F3
      · have : j = n := by omega
        subst this
        have HR : Hid (res = (es, 0)) := by
          unfold Hid; rw [hres, List.drop_eq_nil_of_le (by rw [HN.out]; exact Nat.le_refl _)]; rfl
        clear hres hrow
        go_wp2_with fail
        go_ret2
        exact OfLPost.ok (by rw [HR.out]) hf (by rw [HR.out, hp]; exact hL)
/-! ### Refs -/
set_option maxRecDepth 100000 in
set_option maxHeartbeats 1600000 in
theorem refs_calls (w : World) (n c : Nat) (A : Option Addr) (L : List EnV) (hrow : RowAt w A (L.flatMap EnV.C)) (HN : Hid (L.length = n)) (hn : n ≤ 1000000) :
    Calls Tryd.prog 36 #[.slice A n c] w (NewR w L) := by
  go_enter Tryd.func36, Tryd.ntmps36
  go_wp2_with fail
  go_loopw [3, 8] (fun v i wr => ∃ j : Nat, j ≤ n ∧ i = .int .i64 j ∧ (∃ B d, v = .slice B j d ∧ wr.ownsRow w.heap.size 90 9 (.slice B j d) j ((L.take j).flatMap EnV.C)) ∧ Fr noB w wr) (fun _ i _ => n - (intOf i).toNat)
  case atStart => exact ⟨0, Nat.zero_le _, rfl, ⟨none, 0, rfl, World.ownsRow_nil _ _ _ _⟩, Fr.refl _ _⟩
  case round =>
    obtain ⟨j, hj, rfl, ⟨B, d, rfl, hO⟩, hf⟩ := hrel
    by_cases hjn : j < n
    · obtain ⟨e, he⟩ : ∃ e, L[j]? = some e := ⟨_, List.getElem?_eq_getElem (by rw [HN.out]; exact hjn)⟩
      obtain ⟨ad, rfl⟩ := hrow.some_flat (by simp [EnV.C]) he
      obtain ⟨z0, z1, z2, z3, z4, z5, z6, z7, z8⟩ := ((hrow.seg 9 (fun _ => rfl) he).fr hf id).c9
      have HT : Hid ((L.take (j + 1)).flatMap EnV.C = (L.take j).flatMap EnV.C ++ e.C) := by unfold Hid; rw [take_snoc' he, List.flatMap_append]; simp
      have hone : ∀ u ∈ e.C, u.oneCell' = true := by have := flatE_one [e]; simpa using this
      have hrf := fun W => ref19_calls W e
      have fa : Fr noB wr (wr.alloc (.cells e.C.toArray 42)) := (Fr.refl noB wr).alloc _
      have hba : BlkAt (wr.alloc (.cells e.C.toArray 42)) wr.heap.size 42 e.C.toArray := BlkAt.new _ _ _
      have hF := hf.then' fa
      have hO0 := own_fr hO fa (fun _ _ => id)
      obtain ⟨ys, hys⟩ : ∃ x, (L.take (j + 1)).flatMap EnV.C = x := ⟨_, rfl⟩
      rw [hys] at HT
      have HY := hid hys
      clear hys
      generalize (L.take j).flatMap EnV.C = xs at *
      obtain ⟨op, view, cl, num, ⟨k, oa, ob, on, or⟩⟩ := e
      unfold EnV.C at fa hba hF hone hO0
      unfold EnV.v at hrf
      simp only [] at *
      clear he hO hf
      go_upto_region 5 with fail
      generalize hwa : (wr.alloc (.cells #[.int .u64 op, .int .u64 view, .int .u8 cl, .int .u64 num, .int .u8 k, .string oa, .string ob, .int .u8 on, .int .u8 or] 42)) = wa at *
      clear hwa z0 z1 z2 z3 z4 z5 z6 z7 z8 fa
      obtain ⟨z0, z1, z2, z3, z4, z5, z6, z7, z8, zf⟩ := BlkAt.c9 hba
      go_wp2_with fail
      refine (hrf wa).mono ?_
      rintro ed w2 ⟨rfl, f2⟩
      have F2 := hF.then' f2
      have hO2 := own_fr hO0 f2 (fun _ _ => id)
      have hOa : (w2.alloc (.cells #[.int .u64 op, .int .u64 view, .int .u8 cl, .int .u64 num, .int .u8 k, .string oa, .string ob, .int .u8 on, .int .u8 or] 90)).ownsRow 0 90 9 (.slice B j d) j xs := own_mono (own_fr hO2 ((Fr.refl noB w2).alloc _) (fun _ _ => id)) (fun _ _ => Nat.zero_le _)
      have Fa : Fr noB w (w2.alloc (.cells #[.int .u64 op, .int .u64 view, .int .u8 cl, .int .u64 num, .int .u8 k, .string oa, .string ob, .int .u8 on, .int .u8 or] 90)) := F2.alloc _
      have hbase : ∀ g, (Value.slice B j d).ownBlock = some g → w.heap.size ≤ g := fun g hg => (hO2.lt g hg).1
      have hs2 := F2.size
      clear hrf f2 hO0 hO2 hF z0 z1 z2 z3 z4 z5 z6 z7 z8 zf hba F2
      go_wp2_with (at_builtin; refine wpList_app Tryd.appER rfl (.tmp 12) (.tmp 15) rfl _ j xs rfl hOa _ 1 1 [.int .u64 op, .int .u64 view, .int .u8 cl, .int .u64 num, .int .u8 k, .string oa, .string ob, .int .u8 on, .int .u8 or] rfl rfl (new_row _ _ _) hone (by simp) (by omega) (by omega) ?_)
      intro A' c' w3 hown3 hg hat
      have f3 : Fr noB w w3 := Fr.grown Fa hg (fun g hg => Or.inr (hbase g hg))
      have hO3 : w3.ownsRow w.heap.size 90 9 (.slice A' (j + 1) c') (j + 1) ys := by
        have h9 := HT.out
        unfold EnV.C at h9
        rw [h9]
        refine own_mono hown3 (fun g hg => ?_)
        rcases hat with e | e
        · exact hbase g (e ▸ hg)
        · rw [hg] at e; simp at e; omega
      clear hg hat hown3 hOa Fa
      go_wp2_with fail
      go_roundw
      case rel => exact ⟨j + 1, by omega, by go_num, ⟨A', c', rfl, by rw [HY.out]; exact hO3⟩, f3⟩
      case measure => simp [intOf]; omega
    · have : j = n := by omega
      subst this
      rw [List.take_of_length_le (by rw [HN.out]; exact Nat.le_refl _)] at hO
      go_wp2_with fail
      go_ret
      exact ⟨B, j, d, rfl, HN, hO, hf⟩
end Go.Proofs.YtcaihinenfnekaaDoor
/- The reference's Of and Agree. -/
namespace Go.Proofs.YtcaihinenfnekaaDoor
open Go.RowKit
def ROfPost (w : World) (b : Nat) (q : List EnV × Nat) (ed : Ending) (w' : World) : Prop :=
  ∃ A n c b', ed = .returned (.tuple #[.agg #[.int .u64 (b' : Nat), .slice A n c], .int .i64 (q.2 : Nat)]) ∧ RefA w' A n c q.1 ∧ (q.2 = 0 → b' = b) ∧ Fr noB w w'
set_option maxRecDepth 100000 in
set_option maxHeartbeats 1600000 in
theorem ofR_calls (w : World) (b n c : Nat) (A : Option Addr) (L : List EnV) (hR : RefA w A n c L) (hn : n ≤ 1000000) (hwf : ∀ e ∈ L, e.wf) (hsz : ∀ e ∈ L, e.o.a.size ≤ 1000000000000 ∧ e.o.b.size ≤ 1000000000000) :
    Calls Tryd.prog 35 #[.int .u64 b, .slice A n c] w (ROfPost w b (ofL b L)) := by
  have HV : Hid (ofL b L = if 1099511627776 < b then ([], 17) else ofG b [] L) := rfl
  have hr : Hid (Tryd.f35.results = #[.cell 4 54, .tmp 5]) := by unfold Hid; kernel_rfl
  have f0 : Fr noB w (w.alloc (.cells #[.int .u64 0, .slice none 0 0] 54)) := (Fr.refl noB w).alloc _
  have hb4 : BlkAt (w.alloc (.cells #[.int .u64 0, .slice none 0 0] 54)) w.heap.size 54 #[.int .u64 0, .slice none 0 0] := BlkAt.new _ _ _
  have HN := hR.len
  have hrow := hR.row
  have hfs := fun (W : World) (q : Nat) (u0 u1 : Value) => ((fr_set1 W q 0 u0).then' (fr_set1 _ q 1 u1))
  generalize ofL b L = res at *
  clear hR
  by_cases hb : 1099511627776 < b
  · rw [if_pos hb] at HV
    have t1 : decide ((1099511627776 : Int) < b) = true := decide_eq_true (by omega)
    clear hb hrow
    go_enter Tryd.func35, Tryd.ntmps35
    go_upto_region 1 with fail
    generalize (w.alloc (.cells #[.int .u64 0, .slice none 0 0] 54)) = wa at *
    obtain ⟨y0, y1, yf⟩ := BlkAt.c2 hb4
    have FF := f0.trans (hfs wa w.heap.size (.int .u64 0) (.slice none 0 0)) (fun i hi h => by unfold eqB at h; omega)
    go_wp2_with fail
    have hr := hr.out
    exact bodyPost_ret (v := .tuple #[.agg #[.int .u64 0, .slice none 0 0], .int .i64 17]) (by simp [results, hr, go_sem, y0, y1]) rfl (by rw [HV.out]; exact ⟨none, 0, 0, 0, rfl, RefA.none _, (fun h => by cases h), FF⟩)
  · rw [if_neg hb] at HV
    have t1 : decide ((1099511627776 : Int) < b) = false := decide_eq_false (by omega)
    have hG0 : GoodL b [] := GoodL.new (by omega)
    clear hb
    go_enter Tryd.func35, Tryd.ntmps35
    go_upto_region 1 with fail
    generalize (w.alloc (.cells #[.int .u64 0, .slice none 0 0] 54)) = wa at *
    have f6 : Fr noB wa (wa.alloc (.cells #[.int .u64 b, .slice none 0 0] 54)) := (Fr.refl noB wa).alloc _
    have hb6 : BlkAt (wa.alloc (.cells #[.int .u64 b, .slice none 0 0] 54)) wa.heap.size 54 #[.int .u64 b, .slice none 0 0] := BlkAt.new _ _ _
    have hq4 := hb4.lt
    replace hb4 := hb4.fr f6 id
    have F6 := f0.then' f6
    go_upto_region 4 with fail
    generalize (wa.alloc (.cells #[.int .u64 b, .slice none 0 0] 54)) = wb at *
    obtain ⟨q6, hq6⟩ : ∃ q, wa.heap.size = q := ⟨_, rfl⟩
    rw [hq6] at hb6 hq4 ⊢
    clear hq6 f6 f0
    go_wp2_with fail
    go_loopw [18] (fun i wr => ∃ (j : Nat) (es : List EnV) (B : Option Addr) (m d : Nat), j ≤ n ∧ i = .int .i64 j ∧ res = ofG b es (L.drop j) ∧ BlkAt wr w.heap.size 54 #[.int .u64 0, .slice none 0 0] ∧ BlkAt wr q6 54 #[.int .u64 b, .slice B m d] ∧ RefA wr B m d es ∧ (∀ ad, B = some ad → ad.block ≠ w.heap.size ∧ ad.block ≠ q6) ∧ GoodL b es ∧ Fr noB w wr) (fun i _ => n - (intOf i).toNat)
    case atStart => exact ⟨0, [], none, 0, 0, Nat.zero_le _, rfl, by rw [HV.out]; rfl, hb4, hb6, RefA.none _, (fun ad e => by cases e), hG0, F6⟩
    case round =>
      clear hb4 hb6 hG0 F6 HV
      obtain ⟨j, es, B, m, d, hj, rfl, hres, hb4, hb6, hRB, hBn, hG, hf⟩ := hrel
      by_cases hjn : j < n
      · obtain ⟨e, he⟩ : ∃ e, L[j]? = some e := ⟨_, List.getElem?_eq_getElem (by rw [HN.out]; exact hjn)⟩
        obtain ⟨ad, rfl⟩ := hrow.some_flat (by simp [EnV.C]) he
        obtain ⟨z0, z1, z2, z3, z4, z5, z6, z7, z8⟩ := ((hrow.seg 9 (fun _ => rfl) he).fr hf id).c9
        have hmem := List.mem_of_getElem? he
        have fa : Fr noB wr (wr.alloc (.cells e.C.toArray 90)) := (Fr.refl noB wr).alloc _
        have hba : BlkAt (wr.alloc (.cells e.C.toArray 90)) wr.heap.size 90 e.C.toArray := BlkAt.new _ _ _
        have hF := hf.then' fa
        have hap := appR_calls (wr.alloc (.cells e.C.toArray 90)) b m d B es e (hRB.fr0 fa) hG (hwf e hmem) (hsz e hmem).1 (hsz e hmem).2
        have HR := hid (hres.trans (ofG_step he))
        have hG1 := hG.app (hwf e hmem)
        have hl4 := hb4.lt
        have hl6 := hb6.lt
        replace hb4 := hb4.fr fa id
        replace hb6 := hb6.fr fa id
        generalize appL b es e = ap at *
        obtain ⟨es1, r1⟩ := ap
        obtain ⟨op, view, cl, num, ⟨k, oa, ob, on, or⟩⟩ := e
        unfold EnV.C at fa hba hF hap hb4 hb6
        unfold EnV.v at hap
        simp only [] at *
        clear he hres hmem hf hRB
        go_upto_region 7 with fail
        generalize hwa : (wr.alloc (.cells #[.int .u64 op, .int .u64 view, .int .u8 cl, .int .u64 num, .int .u8 k, .string oa, .string ob, .int .u8 on, .int .u8 or] 90)) = wa at *
        clear hwa z0 z1 z2 z3 z4 z5 z6 z7 z8
        have hsa := fa.size
        clear fa
        obtain ⟨z0, z1, z2, z3, z4, z5, z6, z7, z8, zf⟩ := BlkAt.c9 hba
        obtain ⟨x0, x1, xf⟩ := BlkAt.c2 hb6
        go_wp2_with fail
        refine hap.mono ?_
        rintro ed w3 ⟨B', m', d', rfl, hR3, hP3, f3⟩
        have F3 := hF.then' f3
        have hBn' : ∀ ad, B' = some ad → ad.block ≠ w.heap.size ∧ ad.block ≠ q6 := fun ad e => by
          rcases hP3 with h1 | h1
          · exact hBn ad (h1 ▸ e)
          · have := (h1 ad e).1; omega
        have fn : Fr noB w3 (w3.alloc (.cells #[.int .u64 b, .slice B' m' d'] 54)) := (Fr.refl noB w3).alloc _
        have hb9 : BlkAt (w3.alloc (.cells #[.int .u64 b, .slice B' m' d'] 54)) w3.heap.size 54 #[.int .u64 b, .slice B' m' d'] := BlkAt.new _ _ _
        have hs3 := f3.size
        replace hb4 := (hb4.fr f3 id).fr fn id
        replace hb6 := (hb6.fr f3 id).fr fn id
        have hR4 := hR3.fr0 fn
        have F4 := F3.then' fn
        clear hap hP3 hR3 f3 fn F3 hF z0 z1 z2 z3 z4 z5 z6 z7 z8 zf hba x0 x1 xf hBn
        go_upto_region 8 with fail
        generalize hw4 : (w3.alloc (.cells #[.int .u64 b, .slice B' m' d'] 54)) = w4 at *
        clear hw4
        obtain ⟨q9, hq9⟩ : ∃ q, w3.heap.size = q := ⟨_, rfl⟩
        rw [hq9] at hb9 hs3 ⊢
        clear hq9
        by_cases hr0 : r1 = 0
        · rw [if_neg (by omega)] at HR
          subst hr0
          obtain ⟨x0, x1, xf⟩ := BlkAt.c2 hb9
          obtain ⟨y0, y1, yf⟩ := BlkAt.c2 hb6
          have fs := hfs w4 q6 (.int .u64 b) (.slice B' m' d')
          have hset := (hb6.set 0 (.int .u64 b)).set 1 (.slice B' m' d')
          have hb4' := hb4.fr fs (by unfold eqB; omega)
          have hR5 : RefA _ B' m' d' es1 := ⟨hR4.len, hR4.cap, hR4.nil, hR4.row.fr fs (fun ad e _ _ => (hBn' ad e).2)⟩
          have F5 : Fr noB w _ := F4.trans fs (fun i hi h => by unfold eqB at h; omega)
          clear hb4 hb6 hR4 F4 fs
          go_wp2_with fail
          go_roundw
          case rel => exact ⟨j + 1, es1, B', m', d', by omega, by go_num, HR.out, hb4', hset, hR5, hBn', hG1, F5⟩
          case measure => simp [intOf]; omega
        · rw [if_pos hr0] at HR
          have t2 : ((r1 : Int) != 0) = true := by rw [bne_iff_ne]; omega
          obtain ⟨y0, y1, yf⟩ := BlkAt.c2 hb4
          have FF := F4.trans (hfs w4 w.heap.size (.int .u64 0) (.slice none 0 0)) (fun i hi h => by unfold eqB at h; omega)
          go_wp2_with fail
          have hr := hr.out
          exact bodyPost_ret (v := .tuple #[.agg #[.int .u64 0, .slice none 0 0], .int .i64 r1]) (by simp [results, hr, go_sem, y0, y1]) rfl (by rw [HR.out]; exact ⟨none, 0, 0, 0, rfl, RefA.none _, (fun h => absurd h hr0), FF⟩)
      · have : j = n := by omega
        subst this
        have HR : Hid (res = (es, 0)) := by
          unfold Hid; rw [hres, List.drop_eq_nil_of_le (by rw [HN.out]; exact Nat.le_refl _)]; rfl
        obtain ⟨x0, x1, xf⟩ := BlkAt.c2 hb6
        obtain ⟨y0, y1, yf⟩ := BlkAt.c2 hb4
        have fs := hfs wr w.heap.size (.int .u64 b) (.slice B m d)
        have hR5 : RefA _ B m d es := ⟨hRB.len, hRB.cap, hRB.nil, hRB.row.fr fs (fun ad e _ _ => (hBn ad e).1)⟩
        have FF := hf.trans fs (fun i hi h => by unfold eqB at h; omega)
        clear hres hrow fs
        go_wp2_with fail
        have hr := hr.out
        exact bodyPost_ret (v := .tuple #[.agg #[.int .u64 b, .slice B m d], .int .i64 0]) (by simp [results, hr, go_sem, y0, y1]) rfl (by rw [HR.out]; exact ⟨B, m, d, b, rfl, hR5, (fun _ => rfl), FF⟩)

/-! ### Agree -/
theorem find_none {b : Nat} {es : List EnV} {k : Nat} (h : atV b es k = none) : findV b es k = -1 := by
  unfold atV at h
  unfold findV
  split at h
  · rename_i h1; rw [if_pos h1]
  · rename_i h1
    have := List.getElem?_eq_none_iff.1 h
    unfold lastL at h1
    omega
theorem find_some {b : Nat} {es : List EnV} {k : Nat} {y : EnV} (h : atV b es k = some y) : ∃ i : Nat, findV b es k = i ∧ es[i]? = some y := by
  unfold atV at h
  unfold findV
  split at h
  · cases h
  · rename_i h1; exact ⟨k - b - 1, by rw [if_neg h1], h⟩
open Classical in
set_option maxRecDepth 100000 in
set_option maxHeartbeats 1600000 in
theorem agreeR_calls (w : World) (b n c m d : Nat) (A B : Option Addr) (es L : List EnV) (hR : RefA w A n c es) (hG : GoodL b es) (hS : RefA w B m d L) (hm : m ≤ 9223372036854775807) :
    Calls Tryd.prog 38 #[.agg #[.int .u64 b, .slice A n c], .slice B m d] w (BoolPost w (!L.any (clashB b es))) := by
  have f0 : Fr noB w (w.alloc (.cells #[.int .u64 b, .slice A n c] 54)) := (Fr.refl noB w).alloc _
  have hb2 : BlkAt (w.alloc (.cells #[.int .u64 b, .slice A n c] 54)) w.heap.size 54 #[.int .u64 b, .slice A n c] := BlkAt.new _ _ _
  have HN := hR.len
  have HM := hS.len
  have hr1 := hR.row
  have hr2 := hS.row
  have hw16 := hG.few
  rw [HN.out] at hw16
  have HEQ : Hid (Tryd.prog.eqGuardType Tryd.prog.depth 90 = false) := Tryd.gR
  go_enter Tryd.func38, Tryd.ntmps38
  go_upto_region 1 with fail
  generalize (w.alloc (.cells #[.int .u64 b, .slice A n c] 54)) = wa at *
  go_wp2_with fail
  go_loopw [10] (fun i wr => ∃ j : Nat, j ≤ m ∧ i = .int .i64 j ∧ (L.take j).any (clashB b es) = false ∧ Fr noB wa wr) (fun i _ => m - (intOf i).toNat)
  case atStart => exact ⟨0, Nat.zero_le _, rfl, by simp, Fr.refl _ _⟩
  case round =>
    obtain ⟨j, hj, rfl, hne, hf⟩ := hrel
    by_cases hjm : j < m
    · obtain ⟨e, he⟩ : ∃ e, L[j]? = some e := ⟨_, List.getElem?_eq_getElem (by rw [HM.out]; exact hjm)⟩
      obtain ⟨ad, rfl⟩ := hr2.some_flat (by simp [EnV.C]) he
      obtain ⟨z0, z1, z2, z3, z4, z5, z6, z7, z8⟩ := ((hr2.seg 9 (fun _ => rfl) he).fr (f0.then' hf) id).c9
      have HT : Hid ((L.take (j + 1)).any (clashB b es) = clashB b es e) := by unfold Hid; rw [take_snoc' he, List.any_append, hne]; simp
      have HF : Hid (clashB b es e = true → (!L.any (clashB b es)) = false) := fun h => by rw [List.any_eq_true.2 ⟨e, List.mem_of_getElem? he, h⟩]; rfl
      have HV : Hid (clashB b es e = match atV b es e.op with | none => false | some x => !decide (x = e)) := rfl
      have fa : Fr noB wr (wr.alloc (.cells e.C.toArray 90)) := (Fr.refl noB wr).alloc _
      have hba : BlkAt (wr.alloc (.cells e.C.toArray 90)) wr.heap.size 90 e.C.toArray := BlkAt.new _ _ _
      have hfi := findR_calls (wr.alloc (.cells e.C.toArray 90)) b e.op n c A es (((hR.fr0 f0).fr0 hf).fr0 fa) hG
      have hF := hf.then' fa
      have HNQ : Hid (∀ W x, (binOp .neq 90 (EnV.v x) (EnV.v e)).run Tryd.prog W = .ok (.bool (!decide (x = e))) W) := fun W x => enNeqR W x e
      have hfn := fun h => find_none (b := b) (es := es) (k := e.op) h
      have hfs := fun y h => find_some (b := b) (es := es) (k := e.op) (y := y) h
      generalize clashB b es e = cv at *
      generalize atV b es e.op = o at *
      generalize findV b es e.op = fv at *
      obtain ⟨op, view, cl, num, ⟨k, oa, ob, on, or⟩⟩ := e
      unfold EnV.C at fa hba hfi hF
      unfold EnV.v at HNQ
      simp only [] at *
      clear he
      go_upto_region 4 with fail
      generalize hwb : (wr.alloc (.cells #[.int .u64 op, .int .u64 view, .int .u8 cl, .int .u64 num, .int .u8 k, .string oa, .string ob, .int .u8 on, .int .u8 or] 90)) = wb at *
      clear hwb z0 z1 z2 z3 z4 z5 z6 z7 z8
      obtain ⟨z0, z1, z2, z3, z4, z5, z6, z7, z8, zf⟩ := BlkAt.c9 hba
      replace hb2 := hb2.fr hF id
      obtain ⟨x0, x1, xf⟩ := BlkAt.c2 hb2
      go_wp2_with fail
      refine hfi.mono ?_
      rintro ed w2 ⟨rfl, f2⟩
      have F2 := hF.then' f2
      replace hb2 := hb2.fr f2 id
      replace hba := hba.fr f2 id
      clear hfi x0 x1 xf z0 z1 z2 z3 z4 z5 z6 z7 z8 zf f2 hF
      cases o with
      | none =>
        have hfv := hfn rfl
        subst hfv
        have hcv : cv = false := HV.out
        subst hcv
        clear hfn hfs HNQ HV HF
        go_wp2_with fail
        apply wp_region_calm (R := Fr noB) (C := fun _ W => Fr noB w2 W) [false, false, false, false, false, false, false, false, false, false, false]
          [eqv _, eqv (.bool false), eqv (.bool false), eqv _, eqv _, eqv _, eqv _, eqv _, eqv _, eqv _, eqv (.bool false)]
          (by kernel_rfl) (by kernel_rfl) (fun _ _ _ h1 h2 => h1.then' h2) ((Fr.refl _ _).drew) ((Fr.refl _ _).drew) (by kernel_rfl)
        · refine ⟨?_, ?_, ?_, ?_, ?_, ?_, ?_, ?_, ?_, ?_, ?_, trivial⟩
          · rw [if_neg (by decide)]; intro kq
            exact calm_mv 7 rfl rfl (Or.inl rfl) (Fr.refl _) (by decide) fun v w hd => hd
          · rw [if_neg (by decide)]; intro kq
            intro a W K hC hd hK
            have d18 : _ = _ := hd 18 (by decide)
            refine wpOp_plain rfl rfl ?_
            go_wp2_with fail
            exact hK _ _ (Fr.refl _ _) hC rfl
          · rw [if_neg (by decide)]; intro kq
            exact calm_mv 19 rfl rfl (Or.inl rfl) (Fr.refl _) (by decide) fun v w hd => hd
          · rw [if_neg (by decide)]; intro kq
            intro a W K hC hd hK
            have d2 : a.tmps[2]?.getD undef = .pointer (some ⟨w.heap.size, 0, none⟩) := hd 2 (by decide)
            have d20 : a.tmps[20]?.getD undef = .bool false := hd 20 (by decide)
            first | (exact wpOp_skip rfl (wanted_of (want := true) (b := false) rfl rfl (by rw [eval_get]; exact d20)) (hK _ _ (Fr.refl _ _) hC rfl)) | (refine wpOp_want rfl (wanted_of (want := true) (b := true) rfl rfl (by rw [eval_get]; exact d20)) ?_)
            all_goals (
              obtain ⟨x0, x1, xf⟩ := BlkAt.c2 (hb2.fr hC id)
              obtain ⟨z0, z1, z2, z3, z4, z5, z6, z7, z8, zf⟩ := BlkAt.c9 (hba.fr hC id)
              go_wp2_with fail
              exact hK _ _ (Fr.refl _ _) hC rfl)
          · rw [if_neg (by decide)]; intro kq
            intro a W K hC hd hK
            have d21 : _ = _ := hd 21 (by decide)
            have d20 : a.tmps[20]?.getD undef = .bool false := hd 20 (by decide)
            first | (exact wpOp_skip rfl (wanted_of (want := true) (b := false) rfl rfl (by rw [eval_get]; exact d20)) (hK _ _ (Fr.refl _ _) hC rfl)) | (refine wpOp_want rfl (wanted_of (want := true) (b := true) rfl rfl (by rw [eval_get]; exact d20)) ?_)
            all_goals (
              obtain ⟨x0, x1, xf⟩ := BlkAt.c2 (hb2.fr hC id)
              obtain ⟨z0, z1, z2, z3, z4, z5, z6, z7, z8, zf⟩ := BlkAt.c9 (hba.fr hC id)
              go_wp2_with fail
              exact hK _ _ (Fr.refl _ _) hC rfl)
          · rw [if_neg (by decide)]; intro kq
            intro a W K hC hd hK
            have d7 : a.tmps[7]?.getD undef = .int .i64 (-1) := hd 7 (by decide)
            have d20 : a.tmps[20]?.getD undef = .bool false := hd 20 (by decide)
            first | (exact wpOp_skip rfl (wanted_of (want := true) (b := false) rfl rfl (by rw [eval_get]; exact d20)) (hK _ _ (Fr.refl _ _) hC rfl)) | (refine wpOp_want rfl (wanted_of (want := true) (b := true) rfl rfl (by rw [eval_get]; exact d20)) ?_)
            all_goals (
              go_wp2_with fail
              exact hK _ _ (Fr.refl _ _) hC rfl)
          · rw [if_neg (by decide)]; intro kq
            intro a W K hC hd hK
            have d22 : _ = _ := hd 22 (by decide)
            have d23 : _ = _ := hd 23 (by decide)
            have d20 : a.tmps[20]?.getD undef = .bool false := hd 20 (by decide)
            first | (exact wpOp_skip rfl (wanted_of (want := true) (b := false) rfl rfl (by rw [eval_get]; exact d20)) (hK _ _ (Fr.refl _ _) hC rfl)) | (refine wpOp_want rfl (wanted_of (want := true) (b := true) rfl rfl (by rw [eval_get]; exact d20)) ?_)
            all_goals (
              obtain ⟨x0, x1, xf⟩ := BlkAt.c2 (hb2.fr hC id)
              obtain ⟨z0, z1, z2, z3, z4, z5, z6, z7, z8, zf⟩ := BlkAt.c9 (hba.fr hC id)
              go_wp2_with fail
              exact hK _ _ (Fr.refl _ _) hC rfl)
          · rw [if_neg (by decide)]; intro kq
            intro a W K hC hd hK
            have d24 : _ = _ := hd 24 (by decide)
            have d20 : a.tmps[20]?.getD undef = .bool false := hd 20 (by decide)
            first | (exact wpOp_skip rfl (wanted_of (want := true) (b := false) rfl rfl (by rw [eval_get]; exact d20)) (hK _ _ (Fr.refl _ _) hC rfl)) | (refine wpOp_want rfl (wanted_of (want := true) (b := true) rfl rfl (by rw [eval_get]; exact d20)) ?_)
            all_goals (
              obtain ⟨x0, x1, xf⟩ := BlkAt.c2 (hb2.fr hC id)
              obtain ⟨z0, z1, z2, z3, z4, z5, z6, z7, z8, zf⟩ := BlkAt.c9 (hba.fr hC id)
              go_wp2_with fail
              exact hK _ _ (Fr.refl _ _) hC rfl)
          · rw [if_neg (by decide)]; intro kq
            intro a W K hC hd hK
            have d6 : a.tmps[6]?.getD undef = .pointer (some ⟨wr.heap.size, 0, none⟩) := hd 6 (by decide)
            have d20 : a.tmps[20]?.getD undef = .bool false := hd 20 (by decide)
            first | (exact wpOp_skip rfl (wanted_of (want := true) (b := false) rfl rfl (by rw [eval_get]; exact d20)) (hK _ _ (Fr.refl _ _) hC rfl)) | (refine wpOp_want rfl (wanted_of (want := true) (b := true) rfl rfl (by rw [eval_get]; exact d20)) ?_)
            all_goals (
              obtain ⟨x0, x1, xf⟩ := BlkAt.c2 (hb2.fr hC id)
              obtain ⟨z0, z1, z2, z3, z4, z5, z6, z7, z8, zf⟩ := BlkAt.c9 (hba.fr hC id)
              go_wp2_with fail
              exact hK _ _ (Fr.refl _ _) hC rfl)
          · rw [if_neg (by decide)]; intro kq
            intro a W K hC hd hK
            have d25 : _ = _ := hd 25 (by decide)
            have d26 : _ = _ := hd 26 (by decide)
            have d20 : a.tmps[20]?.getD undef = .bool false := hd 20 (by decide)
            first | (exact wpOp_skip rfl (wanted_of (want := true) (b := false) rfl rfl (by rw [eval_get]; exact d20)) (hK _ _ (Fr.refl _ _) hC rfl)) | (refine wpOp_want rfl (wanted_of (want := true) (b := true) rfl rfl (by rw [eval_get]; exact d20)) ?_)
            all_goals (
              go_wp2_with fail
              exact hK _ _ (Fr.refl _ _) hC rfl)
          · rw [if_neg (by decide)]; intro kq
            intro a W K hC hd hK
            have d20 : a.tmps[20]?.getD undef = .bool false := hd 20 (by decide)
            have d27 : _ = _ := hd 27 (by decide)
            refine wpOp_plain rfl rfl ?_
            go_wp2_with fail
            exact hK _ _ (Fr.refl _ _) hC rfl
        · intro vs w8 fw8 cw8 hV
          have v18 : vs 0 = _ := hV 0 _ _ rfl rfl (by decide)
          have v19 : vs 1 = .bool false := hV 1 _ _ rfl rfl (by decide)
          have v20 : vs 2 = .bool false := hV 2 _ _ rfl rfl (by decide)
          have v21 : vs 3 = _ := hV 3 _ _ rfl rfl (by decide)
          have v22 : vs 4 = _ := hV 4 _ _ rfl rfl (by decide)
          have v23 : vs 5 = _ := hV 5 _ _ rfl rfl (by decide)
          have v24 : vs 6 = _ := hV 6 _ _ rfl rfl (by decide)
          have v25 : vs 7 = _ := hV 7 _ _ rfl rfl (by decide)
          have v26 : vs 8 = _ := hV 8 _ _ rfl rfl (by decide)
          have v27 : vs 9 = _ := hV 9 _ _ rfl rfl (by decide)
          have v28 : vs 10 = .bool false := hV 10 _ _ rfl rfl (by decide)
          clear hV
          simp only [putL, Act.put, Nat.reduceAdd, List.setIfInBounds_toArray, List.set_cons_zero, List.set_cons_succ, v18, v19, v20, v21, v22, v23, v24, v25, v26, v27, v28]

          have F8 := F2.then' fw8
          clear fw8 cw8
          go_wp2_with fail
          go_roundw
          case rel => exact ⟨j + 1, by omega, by go_num, HT.out, F8⟩
          case measure => simp [intOf]; omega
      | some y =>
        obtain ⟨i, rfl, hi⟩ := hfs y rfl
        have hin : i < n := by have := (List.getElem?_eq_some_iff.1 hi).1; rw [HN.out] at this; exact this
        obtain ⟨a1, rfl⟩ := hr1.some_flat (by simp [EnV.C]) hi
        have hsg := (hr1.seg 9 (fun _ => rfl) hi).fr (f0.then' F2) id
        obtain ⟨v, hv⟩ : ∃ v, (!decide (y = (⟨op, view, cl, num, ⟨k, oa, ob, on, or⟩⟩ : EnV))) = v := ⟨_, rfl⟩
        replace HNQ := hid fun W => HNQ.out W y
        simp only [hv] at HNQ HV
        have hcv : cv = v := HV.out
        subst hcv
        obtain ⟨op1, view1, cl1, num1, ⟨k1, oa1, ob1, on1, or1⟩⟩ := y
        unfold EnV.C at hsg
        simp only [] at HNQ hsg
        clear hfn hfs HV hi hv
        go_wp2_with fail
        apply wp_region_calm (R := Fr noB) (C := fun _ W => Fr noB w2 W) [false, false, false, false, false, false, false, false, false, false, false]
          [eqv _, eqv (.bool true), eqv (.bool true), eqv _, eqv _, eqv _, eqv _, eqv _, eqv _, eqv (.bool cv), eqv (.bool cv)]
          (by kernel_rfl) (by kernel_rfl) (fun _ _ _ h1 h2 => h1.then' h2) ((Fr.refl _ _).drew) ((Fr.refl _ _).drew) (by kernel_rfl)
        · refine ⟨?_, ?_, ?_, ?_, ?_, ?_, ?_, ?_, ?_, ?_, ?_, trivial⟩
          · rw [if_neg (by decide)]; intro kq
            exact calm_mv 7 rfl rfl (Or.inl rfl) (Fr.refl _) (by decide) fun v w hd => hd
          · rw [if_neg (by decide)]; intro kq
            intro a W K hC hd hK
            have d18 : _ = _ := hd 18 (by decide)
            refine wpOp_plain rfl rfl ?_
            go_wp2_with fail
            exact hK _ _ (Fr.refl _ _) hC rfl
          · rw [if_neg (by decide)]; intro kq
            exact calm_mv 19 rfl rfl (Or.inl rfl) (Fr.refl _) (by decide) fun v w hd => hd
          · rw [if_neg (by decide)]; intro kq
            intro a W K hC hd hK
            have d2 : a.tmps[2]?.getD undef = .pointer (some ⟨w.heap.size, 0, none⟩) := hd 2 (by decide)
            have d20 : a.tmps[20]?.getD undef = .bool true := hd 20 (by decide)
            first | (exact wpOp_skip rfl (wanted_of (want := true) (b := false) rfl rfl (by rw [eval_get]; exact d20)) (hK _ _ (Fr.refl _ _) hC rfl)) | (refine wpOp_want rfl (wanted_of (want := true) (b := true) rfl rfl (by rw [eval_get]; exact d20)) ?_)
            all_goals (
              obtain ⟨x0, x1, xf⟩ := BlkAt.c2 (hb2.fr hC id)
              obtain ⟨z0, z1, z2, z3, z4, z5, z6, z7, z8, zf⟩ := BlkAt.c9 (hba.fr hC id)
              obtain ⟨y0, y1, y2, y3, y4, y5, y6, y7, y8⟩ := (hsg.fr hC id).c9
              go_wp2_with fail
              exact hK _ _ (Fr.refl _ _) hC rfl)
          · rw [if_neg (by decide)]; intro kq
            intro a W K hC hd hK
            have d21 : _ = _ := hd 21 (by decide)
            have d20 : a.tmps[20]?.getD undef = .bool true := hd 20 (by decide)
            first | (exact wpOp_skip rfl (wanted_of (want := true) (b := false) rfl rfl (by rw [eval_get]; exact d20)) (hK _ _ (Fr.refl _ _) hC rfl)) | (refine wpOp_want rfl (wanted_of (want := true) (b := true) rfl rfl (by rw [eval_get]; exact d20)) ?_)
            all_goals (
              obtain ⟨x0, x1, xf⟩ := BlkAt.c2 (hb2.fr hC id)
              obtain ⟨z0, z1, z2, z3, z4, z5, z6, z7, z8, zf⟩ := BlkAt.c9 (hba.fr hC id)
              obtain ⟨y0, y1, y2, y3, y4, y5, y6, y7, y8⟩ := (hsg.fr hC id).c9
              go_wp2_with fail
              exact hK _ _ (Fr.refl _ _) hC rfl)
          · rw [if_neg (by decide)]; intro kq
            intro a W K hC hd hK
            have d7 : a.tmps[7]?.getD undef = .int .i64 i := hd 7 (by decide)
            have d20 : a.tmps[20]?.getD undef = .bool true := hd 20 (by decide)
            first | (exact wpOp_skip rfl (wanted_of (want := true) (b := false) rfl rfl (by rw [eval_get]; exact d20)) (hK _ _ (Fr.refl _ _) hC rfl)) | (refine wpOp_want rfl (wanted_of (want := true) (b := true) rfl rfl (by rw [eval_get]; exact d20)) ?_)
            all_goals (
              go_wp2_with fail
              exact hK _ _ (Fr.refl _ _) hC rfl)
          · rw [if_neg (by decide)]; intro kq
            intro a W K hC hd hK
            have d22 : _ = _ := hd 22 (by decide)
            have d23 : _ = _ := hd 23 (by decide)
            have d20 : a.tmps[20]?.getD undef = .bool true := hd 20 (by decide)
            first | (exact wpOp_skip rfl (wanted_of (want := true) (b := false) rfl rfl (by rw [eval_get]; exact d20)) (hK _ _ (Fr.refl _ _) hC rfl)) | (refine wpOp_want rfl (wanted_of (want := true) (b := true) rfl rfl (by rw [eval_get]; exact d20)) ?_)
            all_goals (
              obtain ⟨x0, x1, xf⟩ := BlkAt.c2 (hb2.fr hC id)
              obtain ⟨z0, z1, z2, z3, z4, z5, z6, z7, z8, zf⟩ := BlkAt.c9 (hba.fr hC id)
              obtain ⟨y0, y1, y2, y3, y4, y5, y6, y7, y8⟩ := (hsg.fr hC id).c9
              go_wp2_with fail
              exact hK _ _ (Fr.refl _ _) hC rfl)
          · rw [if_neg (by decide)]; intro kq
            intro a W K hC hd hK
            have d24 : _ = _ := hd 24 (by decide)
            have d20 : a.tmps[20]?.getD undef = .bool true := hd 20 (by decide)
            first | (exact wpOp_skip rfl (wanted_of (want := true) (b := false) rfl rfl (by rw [eval_get]; exact d20)) (hK _ _ (Fr.refl _ _) hC rfl)) | (refine wpOp_want rfl (wanted_of (want := true) (b := true) rfl rfl (by rw [eval_get]; exact d20)) ?_)
            all_goals (
              obtain ⟨x0, x1, xf⟩ := BlkAt.c2 (hb2.fr hC id)
              obtain ⟨z0, z1, z2, z3, z4, z5, z6, z7, z8, zf⟩ := BlkAt.c9 (hba.fr hC id)
              obtain ⟨y0, y1, y2, y3, y4, y5, y6, y7, y8⟩ := (hsg.fr hC id).c9
              go_wp2_with fail
              exact hK _ _ (Fr.refl _ _) hC rfl)
          · rw [if_neg (by decide)]; intro kq
            intro a W K hC hd hK
            have d6 : a.tmps[6]?.getD undef = .pointer (some ⟨wr.heap.size, 0, none⟩) := hd 6 (by decide)
            have d20 : a.tmps[20]?.getD undef = .bool true := hd 20 (by decide)
            first | (exact wpOp_skip rfl (wanted_of (want := true) (b := false) rfl rfl (by rw [eval_get]; exact d20)) (hK _ _ (Fr.refl _ _) hC rfl)) | (refine wpOp_want rfl (wanted_of (want := true) (b := true) rfl rfl (by rw [eval_get]; exact d20)) ?_)
            all_goals (
              obtain ⟨x0, x1, xf⟩ := BlkAt.c2 (hb2.fr hC id)
              obtain ⟨z0, z1, z2, z3, z4, z5, z6, z7, z8, zf⟩ := BlkAt.c9 (hba.fr hC id)
              obtain ⟨y0, y1, y2, y3, y4, y5, y6, y7, y8⟩ := (hsg.fr hC id).c9
              go_wp2_with fail
              exact hK _ _ (Fr.refl _ _) hC rfl)
          · rw [if_neg (by decide)]; intro kq
            intro a W K hC hd hK
            have d25 : _ = _ := hd 25 (by decide)
            have d26 : _ = _ := hd 26 (by decide)
            have d20 : a.tmps[20]?.getD undef = .bool true := hd 20 (by decide)
            first | (exact wpOp_skip rfl (wanted_of (want := true) (b := false) rfl rfl (by rw [eval_get]; exact d20)) (hK _ _ (Fr.refl _ _) hC rfl)) | (refine wpOp_want rfl (wanted_of (want := true) (b := true) rfl rfl (by rw [eval_get]; exact d20)) ?_)
            all_goals (
              have hnq := HNQ.out
              have hm := HEQ.out
              go_wp2_with fail
              exact hK _ _ (Fr.refl _ _) hC rfl)
          · rw [if_neg (by decide)]; intro kq
            intro a W K hC hd hK
            have d20 : a.tmps[20]?.getD undef = .bool true := hd 20 (by decide)
            have d27 : a.tmps[27]?.getD undef = .bool cv := hd 27 (by decide)
            refine wpOp_plain rfl rfl ?_
            go_wp2_with fail
            exact hK _ _ (Fr.refl _ _) hC rfl
        · intro vs w8 fw8 cw8 hV
          have v18 : vs 0 = _ := hV 0 _ _ rfl rfl (by decide)
          have v19 : vs 1 = .bool true := hV 1 _ _ rfl rfl (by decide)
          have v20 : vs 2 = .bool true := hV 2 _ _ rfl rfl (by decide)
          have v21 : vs 3 = _ := hV 3 _ _ rfl rfl (by decide)
          have v22 : vs 4 = _ := hV 4 _ _ rfl rfl (by decide)
          have v23 : vs 5 = _ := hV 5 _ _ rfl rfl (by decide)
          have v24 : vs 6 = _ := hV 6 _ _ rfl rfl (by decide)
          have v25 : vs 7 = _ := hV 7 _ _ rfl rfl (by decide)
          have v26 : vs 8 = _ := hV 8 _ _ rfl rfl (by decide)
          have v27 : vs 9 = .bool cv := hV 9 _ _ rfl rfl (by decide)
          have v28 : vs 10 = .bool cv := hV 10 _ _ rfl rfl (by decide)
          clear hV
          simp only [putL, Act.put, Nat.reduceAdd, List.setIfInBounds_toArray, List.set_cons_zero, List.set_cons_succ, v18, v19, v20, v21, v22, v23, v24, v25, v26, v27, v28]

          have F8 := F2.then' fw8
          clear fw8 cw8 HNQ
          cases cv with
          | true =>
            go_wp2_with fail
            go_ret
            exact BoolPost.mk' (HF.out (by trivial)).symm (f0.then' F8)
          | false =>
            go_wp2_with fail
            go_roundw
            case rel => exact ⟨j + 1, by omega, by go_num, HT.out, F8⟩
            case measure => simp [intOf]; omega
    · have : j = m := by omega
      subst this
      rw [List.take_of_length_le (by rw [HM.out]; exact Nat.le_refl _)] at hne
      have HE := hid hne
      clear hne
      go_wp2_with fail
      go_ret
      exact BoolPost.mk' (by rw [HE.out]; rfl) (f0.then' hf)
end Go.Proofs.YtcaihinenfnekaaDoor
