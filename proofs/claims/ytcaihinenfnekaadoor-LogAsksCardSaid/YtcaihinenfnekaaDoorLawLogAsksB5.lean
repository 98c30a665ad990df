/- What the row leans on, part 5: contracts and plain laws. -/
import Derived.Test.YtcaihinenfnekaaDoorProg
import Derived.WalkKit
import Derived.Maps.AppendAt
import Derived.Lib.AppendStr
import Derived.Laws.AppendOwnNone
import Derived.Deep.Draws
import Derived.WalkSpells
import Derived.Laws.IdiomStrings
import Derived.Lib.ConvBytes
import Derived.Lib.LaidTab
import Derived.LaidSub
import Derived.Deep.QuietTactic
import Derived.BigQuiet
import Derived.Lib.OthersKept
import Derived.Laws.RangeAny
import Derived.LaidEqlPtr
import Derived.Laws.StructEq
import Derived.Deep.Light
import Derived.Laws.Bits64b
import Derived.Laws.ResultCell
import Derived.Deep.RegionHeld3
import Derived.Deep.Cut
import Derived.RangeFuncNested
import Derived.RangeFuncBound
import Derived.RangeFuncCalls
import Derived.RangeFuncLeaves
import Derived.Shelf.Abstract
import Derived.Shelf.RegionOpen
import Derived.OwnWalkIn
import Derived.TacticsInMore
import Derived.LoopNIn
import Derived.LoopIn
import Derived.SliceStrings
import Derived.Deep.Slices
import Derived.ProofKit
import Derived.Test.YtcaihinenfnekaaDoorLawLogAsksB4
/- entry.Check and the reference's. -/
namespace Go.Proofs.YtcaihinenfnekaaDoor
open Go.RowKit

set_option maxRecDepth 100000 in
set_option maxHeartbeats 1600000 in
theorem checkEn_calls (w : World) (e : EnV) (ht : SignsAt w) (hw : e.wf) (ha : e.o.a.size ≤ 1000000000000) (hb : e.o.b.size ≤ 1000000000000) : Calls Tryd.prog 72 #[e.v] w (IntPost w (checkE e : Nat)) := by
  have hck := fun W (hx : Fr noB w W) => check_calls W e.o (ht.fr0 hx) hw.o (by omega) (by omega)
  have HV : Hid (checkE e = if e.op = 0 ∨ 1099511627776 < e.op ∨ 1099511627776 < e.view then 17 else if e.cl = 255 then (if e.num ≠ 0 ∨ e.o.k ≠ 16 ∨ checkV e.o ≠ 0 then 1 else 0) else if 8 ≤ e.cl ∨ e.num = 0 ∨ 1099511627776 < e.num then 1 else checkV e.o) := rfl
  generalize checkE e = res at *
  generalize checkV e.o = cv at *
  obtain ⟨op, view, cl, num, k, a, b, n, r⟩ := e
  unfold EnV.v OpV.v at *
  simp only [] at *
  obtain ⟨h1, h2, h3, h4, hk, hn, hr⟩ := hw
  simp only [] at *
  have f0 : Fr noB w (w.alloc (.cells #[.int .u64 op, .int .u64 view, .int .u8 cl, .int .u64 num, .int .u8 k, .string a, .string b, .int .u8 n, .int .u8 r] 42)) := (Fr.refl noB w).alloc _
  have hb0 : BlkAt (w.alloc (.cells #[.int .u64 op, .int .u64 view, .int .u8 cl, .int .u64 num, .int .u8 k, .string a, .string b, .int .u8 n, .int .u8 r] 42)) w.heap.size 42 #[.int .u64 op, .int .u64 view, .int .u8 cl, .int .u64 num, .int .u8 k, .string a, .string b, .int .u8 n, .int .u8 r] := BlkAt.new _ _ _


  obtain ⟨c0, hc0⟩ : ∃ c, ((op : Int) == 0) = c := ⟨_, rfl⟩
  have hd0 : Hid (c0 = true ↔ op = 0) := by rw [← hc0]; unfold Hid; rw [beq_iff_eq]; omega
  obtain ⟨c1, hc1⟩ : ∃ c, decide ((1099511627776 : Int) < op) = c := ⟨_, rfl⟩
  have hd1 : Hid (c1 = true ↔ 1099511627776 < op) := by rw [← hc1]; unfold Hid; rw [decide_eq_true_eq]; omega
  obtain ⟨c2, hc2⟩ : ∃ c, decide ((1099511627776 : Int) < view) = c := ⟨_, rfl⟩
  have hd2 : Hid (c2 = true ↔ 1099511627776 < view) := by rw [← hc2]; unfold Hid; rw [decide_eq_true_eq]; omega
  obtain ⟨c3, hc3⟩ : ∃ c, ((cl : Int) == 255) = c := ⟨_, rfl⟩
  have hd3 : Hid (c3 = true ↔ cl = 255) := by rw [← hc3]; unfold Hid; rw [beq_iff_eq]; omega
  obtain ⟨c4, hc4⟩ : ∃ c, ((num : Int) != 0) = c := ⟨_, rfl⟩
  have hd4 : Hid (c4 = true ↔ num ≠ 0) := by rw [← hc4]; unfold Hid; rw [bne_iff_ne]; omega
  obtain ⟨c5, hc5⟩ : ∃ c, ((k : Int) != 16) = c := ⟨_, rfl⟩
  have hd5 : Hid (c5 = true ↔ k ≠ 16) := by rw [← hc5]; unfold Hid; rw [bne_iff_ne]; omega
  obtain ⟨c6, hc6⟩ : ∃ c, ((cv : Int) != 0) = c := ⟨_, rfl⟩
  have hd6 : Hid (c6 = true ↔ cv ≠ 0) := by rw [← hc6]; unfold Hid; rw [bne_iff_ne]; omega
  obtain ⟨c7, hc7⟩ : ∃ c, decide ((8 : Int) ≤ cl) = c := ⟨_, rfl⟩
  have hd7 : Hid (c7 = true ↔ 8 ≤ cl) := by rw [← hc7]; unfold Hid; rw [decide_eq_true_eq]; omega
  obtain ⟨c8, hc8⟩ : ∃ c, ((num : Int) == 0) = c := ⟨_, rfl⟩
  have hd8 : Hid (c8 = true ↔ num = 0) := by rw [← hc8]; unfold Hid; rw [beq_iff_eq]; omega
  obtain ⟨c9, hc9⟩ : ∃ c, decide ((1099511627776 : Int) < num) = c := ⟨_, rfl⟩
  have hd9 : Hid (c9 = true ↔ 1099511627776 < num) := by rw [← hc9]; unfold Hid; rw [decide_eq_true_eq]; omega
  clear h1 h2 h3 h4 hk hn hr ha hb
  go_enter Tryd.func72, Tryd.ntmps72
  go_upto_region 1 with fail
  generalize (w.alloc (.cells #[.int .u64 op, .int .u64 view, .int .u8 cl, .int .u64 num, .int .u8 k, .string a, .string b, .int .u8 n, .int .u8 r] 42)) = wa at *
  obtain ⟨x0, x1, x2, x3, x4, x5, x6, x7, x8, xf⟩ := BlkAt.c9 hb0
  have f1 : Fr noB w (wa.alloc (.cells #[.int .u8 cl, .int .u64 num, .int .u8 k, .string a, .string b, .int .u8 n, .int .u8 r] 40)) := f0.alloc _
  have hb1 : BlkAt (wa.alloc (.cells #[.int .u8 cl, .int .u64 num, .int .u8 k, .string a, .string b, .int .u8 n, .int .u8 r] 40)) wa.heap.size 40 #[.int .u8 cl, .int .u64 num, .int .u8 k, .string a, .string b, .int .u8 n, .int .u8 r] := BlkAt.new _ _ _
  have hb2 := hb0.al (.cells #[.int .u8 cl, .int .u64 num, .int .u8 k, .string a, .string b, .int .u8 n, .int .u8 r] 40)
  go_upto_region 2 with fail
  generalize (wa.alloc (.cells #[.int .u8 cl, .int .u64 num, .int .u8 k, .string a, .string b, .int .u8 n, .int .u8 r] 40)) = wb at *
  clear hb0 f0 x0 x1 x2 x3 x4 x5 x6 x7 x8 xf
  obtain ⟨x0, x1, x2, x3, x4, x5, x6, x7, x8, xf⟩ := BlkAt.c9 hb2
  obtain ⟨y0, y1, y2, y3, y4, y5, y6, yf⟩ := BlkAt.c7 hb1
  go_wp2_with fail

  all_goals first
    | (go_ret; refine IntPost.mk' ?_ f1; clear hck hb1 hb2 f1 x0 x1 x2 x3 x4 x5 x6 x7 x8 xf y0 y1 y2 y3 y4 y5 y6 yf)
    | (refine (hck wb f1).mono ?_
       rintro e w2 ⟨rfl, f2⟩
       have F2 := f1.then' f2
       clear x0 x1 x2 x3 x4 x5 x6 x7 x8 xf y0 y1 y2 y3 y4 y5 y6 yf
       obtain ⟨y0, y1, y2, y3, y4, y5, y6, yf⟩ := BlkAt.c7 (hb1.fr f2 id)
       clear f2 f1 hb1 hb2
       go_wp2_with fail
       all_goals first
         | (go_ret; refine IntPost.mk' ?_ F2; clear hck y0 y1 y2 y3 y4 y5 y6 yf F2)
         | (refine (hck w2 F2).mono ?_
            rintro e w3 ⟨rfl, f3⟩
            have F3 := F2.then' f3
            clear y0 y1 y2 y3 y4 y5 y6 yf f3 F2
            go_wp2_with fail
            go_ret
            refine IntPost.mk' ?_ F3
            clear hck F3))
  all_goals (
    go_light
    have hv := HV.out
    have e0 := hd0.out
    have e1 := hd1.out
    have e2 := hd2.out
    have e3 := hd3.out
    have e4 := hd4.out
    have e5 := hd5.out
    have e6 := hd6.out
    have e7 := hd7.out
    have e8 := hd8.out
    have e9 := hd9.out
    clear HV hd0 hc0 hd1 hc1 hd2 hc2 hd3 hc3 hd4 hc4 hd5 hc5 hd6 hc6 hd7 hc7 hd8 hc8 hd9 hc9
    simp_all
    all_goals first | omega | ((repeat' split) <;> first | rfl | omega | (simp_all; done) | (simp_all; omega)))
set_option maxRecDepth 100000 in
set_option maxHeartbeats 1600000 in
theorem checkEr_calls (w : World) (e : EnV) (hw : e.wf) (ha : e.o.a.size ≤ 1000000000000) (hb : e.o.b.size ≤ 1000000000000) : Calls Tryd.prog 115 #[e.v] w (IntPost w (checkE e : Nat)) := by
  have hck := fun W => checkO_calls W e.o hw.o ha hb
  rw [check_eq] at hck
  have HV : Hid (checkE e = if e.op = 0 ∨ 1099511627776 < e.op ∨ 1099511627776 < e.view then 17 else if e.cl = 255 then (if e.num ≠ 0 ∨ e.o.k ≠ 16 ∨ checkV e.o ≠ 0 then 1 else 0) else if 8 ≤ e.cl ∨ e.num = 0 ∨ 1099511627776 < e.num then 1 else checkV e.o) := rfl
  generalize checkE e = res at *
  generalize checkV e.o = cv at *
  obtain ⟨op, view, cl, num, k, a, b, n, r⟩ := e
  unfold EnV.v OpV.v at *
  simp only [] at *
  obtain ⟨h1, h2, h3, h4, hk, hn, hr⟩ := hw
  simp only [] at *
  have f0 : Fr noB w (w.alloc (.cells #[.int .u64 op, .int .u64 view, .int .u8 cl, .int .u64 num, .int .u8 k, .string a, .string b, .int .u8 n, .int .u8 r] 90)) := (Fr.refl noB w).alloc _
  have hb0 : BlkAt (w.alloc (.cells #[.int .u64 op, .int .u64 view, .int .u8 cl, .int .u64 num, .int .u8 k, .string a, .string b, .int .u8 n, .int .u8 r] 90)) w.heap.size 90 #[.int .u64 op, .int .u64 view, .int .u8 cl, .int .u64 num, .int .u8 k, .string a, .string b, .int .u8 n, .int .u8 r] := BlkAt.new _ _ _


  obtain ⟨c0, hc0⟩ : ∃ c, decide ((op : Int) < 1) = c := ⟨_, rfl⟩
  have hd0 : Hid (c0 = true ↔ op = 0) := by rw [← hc0]; unfold Hid; rw [decide_eq_true_eq]; omega
  obtain ⟨c1, hc1⟩ : ∃ c, decide ((1099511627776 : Int) < op) = c := ⟨_, rfl⟩
  have hd1 : Hid (c1 = true ↔ 1099511627776 < op) := by rw [← hc1]; unfold Hid; rw [decide_eq_true_eq]; omega
  obtain ⟨c2, hc2⟩ : ∃ c, decide ((1099511627776 : Int) < view) = c := ⟨_, rfl⟩
  have hd2 : Hid (c2 = true ↔ 1099511627776 < view) := by rw [← hc2]; unfold Hid; rw [decide_eq_true_eq]; omega
  obtain ⟨c3, hc3⟩ : ∃ c, ((cl : Int) == 255) = c := ⟨_, rfl⟩
  have hd3 : Hid (c3 = true ↔ cl = 255) := by rw [← hc3]; unfold Hid; rw [beq_iff_eq]; omega
  obtain ⟨c4, hc4⟩ : ∃ c, ((num : Int) != 0) = c := ⟨_, rfl⟩
  have hd4 : Hid (c4 = true ↔ num ≠ 0) := by rw [← hc4]; unfold Hid; rw [bne_iff_ne]; omega
  obtain ⟨c5, hc5⟩ : ∃ c, ((k : Int) != 16) = c := ⟨_, rfl⟩
  have hd5 : Hid (c5 = true ↔ k ≠ 16) := by rw [← hc5]; unfold Hid; rw [bne_iff_ne]; omega
  obtain ⟨c6, hc6⟩ : ∃ c, ((cv : Int) != 0) = c := ⟨_, rfl⟩
  have hd6 : Hid (c6 = true ↔ cv ≠ 0) := by rw [← hc6]; unfold Hid; rw [bne_iff_ne]; omega
  obtain ⟨c7, hc7⟩ : ∃ c, decide ((7 : Int) < cl) = c := ⟨_, rfl⟩
  have hd7 : Hid (c7 = true ↔ 8 ≤ cl) := by rw [← hc7]; unfold Hid; rw [decide_eq_true_eq]; omega
  obtain ⟨c8, hc8⟩ : ∃ c, decide ((num : Int) < 1) = c := ⟨_, rfl⟩
  have hd8 : Hid (c8 = true ↔ num = 0) := by rw [← hc8]; unfold Hid; rw [decide_eq_true_eq]; omega
  obtain ⟨c9, hc9⟩ : ∃ c, decide ((1099511627776 : Int) < num) = c := ⟨_, rfl⟩
  have hd9 : Hid (c9 = true ↔ 1099511627776 < num) := by rw [← hc9]; unfold Hid; rw [decide_eq_true_eq]; omega
  clear h1 h2 h3 h4 hk hn hr ha hb
  go_enter Tryd.func115, Tryd.ntmps115
  go_upto_region 1 with fail
  generalize (w.alloc (.cells #[.int .u64 op, .int .u64 view, .int .u8 cl, .int .u64 num, .int .u8 k, .string a, .string b, .int .u8 n, .int .u8 r] 90)) = wa at *
  obtain ⟨x0, x1, x2, x3, x4, x5, x6, x7, x8, xf⟩ := BlkAt.c9 hb0
  go_upto_region 4 with fail
  all_goals first
    | (go_ret; refine IntPost.mk' ?_ f0; clear hck hb0 f0 x0 x1 x2 x3 x4 x5 x6 x7 x8 xf)
    | (have f1 : Fr noB w (wa.alloc (.cells #[.int .u8 cl, .int .u64 num, .int .u8 k, .string a, .string b, .int .u8 n, .int .u8 r] 88)) := f0.alloc _
       have hb1 : BlkAt (wa.alloc (.cells #[.int .u8 cl, .int .u64 num, .int .u8 k, .string a, .string b, .int .u8 n, .int .u8 r] 88)) wa.heap.size 88 #[.int .u8 cl, .int .u64 num, .int .u8 k, .string a, .string b, .int .u8 n, .int .u8 r] := BlkAt.new _ _ _
       go_upto_region 5 with fail
       generalize (wa.alloc (.cells #[.int .u8 cl, .int .u64 num, .int .u8 k, .string a, .string b, .int .u8 n, .int .u8 r] 88)) = wb at *
       clear hb0 f0 x0 x1 x2 x3 x4 x5 x6 x7 x8 xf
       obtain ⟨y0, y1, y2, y3, y4, y5, y6, yf⟩ := BlkAt.c7 hb1
       go_wp2_with fail
       refine (hck wb).mono ?_
       rintro e w2 ⟨rfl, f2⟩
       have F2 := f1.then' f2
       clear y0 y1 y2 y3 y4 y5 y6 yf
       obtain ⟨y0, y1, y2, y3, y4, y5, y6, yf⟩ := BlkAt.c7 (hb1.fr f2 id)
       clear f2 f1 hb1 hck
       go_wp2_with fail
       all_goals (go_ret; refine IntPost.mk' ?_ F2; clear y0 y1 y2 y3 y4 y5 y6 yf F2))
  all_goals (
    go_light
    have hv := HV.out
    have e0 := hd0.out
    have e1 := hd1.out
    have e2 := hd2.out
    have e3 := hd3.out
    have e4 := hd4.out
    have e5 := hd5.out
    have e6 := hd6.out
    have e7 := hd7.out
    have e8 := hd8.out
    have e9 := hd9.out
    clear HV hd0 hc0 hd1 hc1 hd2 hc2 hd3 hc3 hd4 hc4 hd5 hc5 hd6 hc6 hd7 hc7 hd8 hc8 hd9 hc9
    simp_all
    all_goals first | omega | ((repeat' split) <;> first | rfl | omega | (simp_all; done) | (simp_all; omega)))
end Go.Proofs.YtcaihinenfnekaaDoor
/- log.Log: its cells; New, Last, Len, Full, Base; one. -/
namespace Go.Proofs.YtcaihinenfnekaaDoor
open Go.RowKit

/-- At p lies a Log of base b and these entries, in blocks of U that are its own. -/
def LogA (w : World) (U : Nat → Prop) (p b : Nat) (es : List EnV) : Prop :=
  ∃ A n c, Hid (es.length = n) ∧ BlkAt w p 120 #[.int .u64 b, .slice A n c] ∧ w.ownsRow 0 42 9 (.slice A n c) n (es.flatMap EnV.C) ∧ U p ∧ (∀ g, (Value.slice A n c).ownBlock = some g → U g ∧ g ≠ p)
theorem flatE_length (es : List EnV) : (es.flatMap EnV.C).length = es.length * 9 := by
  induction es with
  | nil => rfl
  | cons e es ih => rw [List.flatMap_cons, List.length_append, ih, List.length_cons]; simp [EnV.C]; omega
theorem flatE_one (es : List EnV) : ∀ u ∈ es.flatMap EnV.C, u.oneCell' = true := by
  intro u hu
  simp only [List.mem_flatMap, EnV.C, List.mem_cons, List.not_mem_nil, or_false] at hu
  obtain ⟨e, _, h⟩ := hu
  rcases h with rfl | rfl | rfl | rfl | rfl | rfl | rfl | rfl | rfl <;> rfl
theorem LogA.fr {w w' : World} {U T : Nat → Prop} {p b : Nat} {es : List EnV} (h : LogA w U p b es) (f : Fr T w w') (hd : ∀ k, k < w.heap.size → U k → ¬ T k) : LogA w' U p b es := by
  obtain ⟨A, n, c, h1, h2, h3, h4, h5⟩ := h
  exact ⟨A, n, c, h1, h2.fr f (hd p h2.lt h4), own_fr h3 f (fun g hg => hd g (own_lt h3 hg) (h5 g hg).1), h4, h5⟩
theorem LogA.fr0 {w w' : World} {U : Nat → Prop} {p b : Nat} {es : List EnV} (h : LogA w U p b es) (f : Fr noB w w') : LogA w' U p b es := h.fr f (fun _ _ _ => id)
theorem LogA.mono {w : World} {U V : Nat → Prop} {p b : Nat} {es : List EnV} (h : LogA w U p b es) (hd : ∀ k, k < w.heap.size → U k → V k) : LogA w V p b es := by
  obtain ⟨A, n, c, h1, h2, h3, h4, h5⟩ := h
  exact ⟨A, n, c, h1, h2, h3, hd p h2.lt h4, fun g hg => ⟨hd g (own_lt h3 hg) (h5 g hg).1, (h5 g hg).2⟩⟩
theorem LogA.lt {w : World} {U : Nat → Prop} {p b : Nat} {es : List EnV} (h : LogA w U p b es) : p < w.heap.size := by
  obtain ⟨A, n, c, h1, h2, _⟩ := h; exact h2.lt
set_option maxRecDepth 100000 in
theorem newL_calls (w : World) (b : Nat) : Calls Tryd.prog 22 #[.int .u64 b] w (fun e w' => e = .returned (.pointer (some ⟨w.heap.size, 0, none⟩)) ∧ LogA w' (upB w.heap.size) w.heap.size (min b 1099511627776) [] ∧ Fr noB w w') := by
  have HM : Hid (min b 1099511627776 = if b ≤ 1099511627776 then b else 1099511627776) := by unfold Hid; split <;> omega
  generalize min b 1099511627776 = m at *
  have hnew : ∀ m : Nat, LogA (w.alloc (.cells #[.int .u64 m, .slice none 0 0] 120)) (upB w.heap.size) w.heap.size m [] := fun m =>
    ⟨none, 0, 0, rfl, BlkAt.new _ _ _, World.ownsRow_nil _ _ _ _, Nat.le_refl _, fun g hg => by simp [Value.ownBlock] at hg⟩
  by_cases h : b ≤ 1099511627776
  · rw [if_pos h] at HM
    have d1 : decide ((b : Int) < 1099511627776) = true ∨ (b : Int) = 1099511627776 := by simp; omega
    have hmin : min (b : Int) 1099511627776 = b := by omega
    go_enter Tryd.func22, Tryd.ntmps22
    go_wp2_with fail
    go_ret
    rw [HM.out]
    exact ⟨rfl, hnew b, (Fr.refl noB w).alloc _⟩
  · rw [if_neg h] at HM
    have hmin : min (b : Int) 1099511627776 = 1099511627776 := by omega
    go_enter Tryd.func22, Tryd.ntmps22
    go_wp2_with fail
    go_ret
    rw [HM.out]
    exact ⟨rfl, hnew _, (Fr.refl noB w).alloc _⟩
set_option maxRecDepth 100000 in
theorem lastL_calls (w : World) (U : Nat → Prop) (p b : Nat) (es : List EnV) (h : LogA w U p b es) (hl : lastL b es < 18446744073709551616) : Calls Tryd.prog 23 #[.pointer (some ⟨p, 0, none⟩)] w (fun e w' => e = .returned (.int .u64 (lastL b es)) ∧ Fr noB w w') := by
  obtain ⟨A, n, c, h1, h2, h3, h4, h5⟩ := h
  have HL : Hid (lastL b es = b + n) := by unfold Hid lastL; rw [h1.out]
  have hw : IntKind.u64.wrap (n : Int) = n := by have := HL.out; rw [IntKind.wrap_u64]; omega
  have hw2 : IntKind.u64.wrap ((b : Int) + n) = lastL b es := by have := HL.out; rw [IntKind.wrap_u64]; omega
  generalize lastL b es = v at *
  clear h3 h5 hl
  go_enter Tryd.func23, Tryd.ntmps23
  go_wp2_with fail
  apply wp_region_calm (R := Fr noB) (C := fun _ w' => Fr noB w w') [false, false, false, false, false, false, false, false, false, false, false, false]
    [eqv _, eqv _, eqv _, eqv _, eqv _, eqv _, eqv _, eqv _, eqv _, eqv _, eqv _, eqv _]
    (by kernel_rfl) (by kernel_rfl) (fun _ _ _ h1 h2 => h1.then' h2) ((Fr.refl _ _).drew) ((Fr.refl _ _).drew) (by kernel_rfl)
  · refine ⟨?_, ?_, ?_, ?_, ?_, ?_, ?_, ?_, ?_, ?_, ?_, ?_, trivial⟩
    · rw [if_neg (by decide)]; intro kq
      exact calm_mv 0 rfl rfl (Or.inl rfl) (Fr.refl _) (by decide) fun v w hd => hd
    · rw [if_neg (by decide)]; intro kq
      intro a W K hC hd hK
      have d3 : _ = _ := hd 3 (by decide)
      refine wpOp_plain rfl rfl ?_
      go_wp2_with fail
      exact hK _ _ (Fr.refl _ _) hC rfl
    · rw [if_neg (by decide)]; intro kq
      intro a W K hC hd hK
      have d4 : _ = _ := hd 4 (by decide)
      refine wpOp_plain rfl rfl ?_
      obtain ⟨x0, x1, xf⟩ := BlkAt.c2 (h2.fr hC id)
      go_wp2_with fail
      exact hK _ _ (Fr.refl _ _) hC rfl
    · rw [if_neg (by decide)]; intro kq
      intro a W K hC hd hK
      have d5 : _ = _ := hd 5 (by decide)
      refine wpOp_plain rfl rfl ?_
      obtain ⟨x0, x1, xf⟩ := BlkAt.c2 (h2.fr hC id)
      go_wp2_with fail
      exact hK _ _ (Fr.refl _ _) hC rfl
    · rw [if_neg (by decide)]; intro kq
      exact calm_mv 0 rfl rfl (Or.inl rfl) (Fr.refl _) (by decide) fun v w hd => hd
    · rw [if_neg (by decide)]; intro kq
      intro a W K hC hd hK
      have d7 : _ = _ := hd 7 (by decide)
      refine wpOp_plain rfl rfl ?_
      go_wp2_with fail
      exact hK _ _ (Fr.refl _ _) hC rfl
    · rw [if_neg (by decide)]; intro kq
      intro a W K hC hd hK
      have d8 : _ = _ := hd 8 (by decide)
      refine wpOp_plain rfl rfl ?_
      obtain ⟨x0, x1, xf⟩ := BlkAt.c2 (h2.fr hC id)
      go_wp2_with fail
      exact hK _ _ (Fr.refl _ _) hC rfl
    · rw [if_neg (by decide)]; intro kq
      intro a W K hC hd hK
      have d9 : _ = _ := hd 9 (by decide)
      refine wpOp_plain rfl rfl ?_
      obtain ⟨x0, x1, xf⟩ := BlkAt.c2 (h2.fr hC id)
      go_wp2_with fail
      exact hK _ _ (Fr.refl _ _) hC rfl
    · rw [if_neg (by decide)]; intro kq
      intro a W K hC hd hK
      have d10 : _ = _ := hd 10 (by decide)
      refine wpOp_plain rfl rfl ?_
      obtain ⟨x0, x1, xf⟩ := BlkAt.c2 (h2.fr hC id)
      go_wp2_with fail
      exact hK _ _ (Fr.refl _ _) hC rfl
    · rw [if_neg (by decide)]; intro kq
      intro a W K hC hd hK
      have d11 : _ = _ := hd 11 (by decide)
      refine wpOp_plain rfl rfl ?_
      go_wp2_with fail
      exact hK _ _ (Fr.refl _ _) hC rfl
    · rw [if_neg (by decide)]; intro kq
      intro a W K hC hd hK
      have d6 : _ = _ := hd 6 (by decide)
      have d12 : _ = _ := hd 12 (by decide)
      refine wpOp_plain rfl rfl ?_
      go_wp2_with fail
      exact hK _ _ (Fr.refl _ _) hC rfl
    · rw [if_neg (by decide)]; intro kq
      exact calm_mv 13 rfl rfl (Or.inr rfl) (Fr.refl _) (by decide) fun v w hd => hd
  · intro vs w8 fw8 cw8 hV
    have v3 : vs 0 = _ := hV 0 _ _ rfl rfl (by decide)
    have v4 : vs 1 = _ := hV 1 _ _ rfl rfl (by decide)
    have v5 : vs 2 = _ := hV 2 _ _ rfl rfl (by decide)
    have v6 : vs 3 = _ := hV 3 _ _ rfl rfl (by decide)
    have v7 : vs 4 = _ := hV 4 _ _ rfl rfl (by decide)
    have v8 : vs 5 = _ := hV 5 _ _ rfl rfl (by decide)
    have v9 : vs 6 = _ := hV 6 _ _ rfl rfl (by decide)
    have v10 : vs 7 = _ := hV 7 _ _ rfl rfl (by decide)
    have v11 : vs 8 = _ := hV 8 _ _ rfl rfl (by decide)
    have v12 : vs 9 = _ := hV 9 _ _ rfl rfl (by decide)
    have v13 : vs 10 = _ := hV 10 _ _ rfl rfl (by decide)
    have v2 : vs 11 = _ := hV 11 _ _ rfl rfl (by decide)
    clear hV
    simp only [putL, Act.put, Nat.reduceAdd, List.setIfInBounds_toArray, List.set_cons_zero, List.set_cons_succ, v3, v4, v5, v6, v7, v8, v9, v10, v11, v12, v13, v2]
    go_wp2_with fail
    go_ret
    exact ⟨rfl, fw8⟩
set_option maxRecDepth 100000 in
theorem lenL_calls (w : World) (U : Nat → Prop) (p b : Nat) (es : List EnV) (h : LogA w U p b es) : Calls Tryd.prog 26 #[.pointer (some ⟨p, 0, none⟩)] w (fun e w' => e = .returned (.int .i64 es.length) ∧ Fr noB w w') := by
  obtain ⟨A, n, c, h1, h2, h3, h4, h5⟩ := h
  obtain ⟨x0, x1, xf⟩ := BlkAt.c2 h2
  rw [h1.out]
  clear h2 h3 h5
  go_enter Tryd.func26, Tryd.ntmps26
  go_wp2_with fail
  go_ret
  exact ⟨rfl, Fr.refl _ _⟩
set_option maxRecDepth 100000 in
theorem baseL_calls (w : World) (U : Nat → Prop) (p b : Nat) (es : List EnV) (h : LogA w U p b es) : Calls Tryd.prog 28 #[.pointer (some ⟨p, 0, none⟩)] w (fun e w' => e = .returned (.int .u64 b) ∧ Fr noB w w') := by
  obtain ⟨A, n, c, h1, h2, h3, h4, h5⟩ := h
  obtain ⟨x0, x1, xf⟩ := BlkAt.c2 h2
  clear h2 h3 h5
  go_enter Tryd.func28, Tryd.ntmps28
  go_wp2_with fail
  go_ret
  exact ⟨rfl, Fr.refl _ _⟩
set_option maxRecDepth 100000 in
theorem fullL_calls (w : World) (U : Nat → Prop) (p b : Nat) (es : List EnV) (h : LogA w U p b es) : Calls Tryd.prog 30 #[.pointer (some ⟨p, 0, none⟩)] w (fun e w' => e = .returned (.bool (decide (16 ≤ es.length))) ∧ Fr noB w w') := by
  obtain ⟨A, n, c, h1, h2, h3, h4, h5⟩ := h
  obtain ⟨x0, x1, xf⟩ := BlkAt.c2 h2
  rw [h1.out]
  obtain ⟨v, hv⟩ : ∃ v, decide ((16 : Int) ≤ n) = v := ⟨_, rfl⟩
  have hd : decide (16 ≤ n) = v := by rw [← hv]; exact decide_eq_decide.2 (by omega)
  rw [hd]
  clear h2 h3 h5 hd
  go_enter Tryd.func30, Tryd.ntmps30
  go_wp2_with fail
  go_ret
  exact ⟨rfl, Fr.refl _ _⟩
def oneE (n : Nat) : EnV := ⟨n, 0, 1, n, ⟨15, ⟨#[]⟩, ⟨#[]⟩, 0, 0⟩⟩
set_option maxRecDepth 100000 in
theorem one_calls (w : World) (n : Nat) : Calls Tryd.prog 29 #[.int .u64 n] w (fun e w' => e = .returned (oneE n).v ∧ Fr noB w w') := by
  have hr : Hid (Tryd.f29.results = #[.cell 2 42]) := by unfold Hid; kernel_rfl
  go_enter Tryd.func29, Tryd.ntmps29
  go_wp2_with fail
  have hb := BlkAt.new w #[.int .u64 n, .int .u64 0, .int .u8 1, .int .u64 n, .int .u8 15, .string ⟨#[]⟩, .string ⟨#[]⟩, .int .u8 0, .int .u8 0] 42
  have f := (Fr.refl noB w).alloc (.cells #[.int .u64 n, .int .u64 0, .int .u8 1, .int .u64 n, .int .u8 15, .string ⟨#[]⟩, .string ⟨#[]⟩, .int .u8 0, .int .u8 0] 42)
  generalize w.alloc (.cells #[.int .u64 n, .int .u64 0, .int .u8 1, .int .u64 n, .int .u8 15, .string ⟨#[]⟩, .string ⟨#[]⟩, .int .u8 0, .int .u8 0] 42) = wa at *
  obtain ⟨x0, x1, x2, x3, x4, x5, x6, x7, x8, xf⟩ := BlkAt.c9 hb
  have hr := hr.out
  exact bodyPost_ret (v := (oneE n).v) (by simp [results, hr, go_sem, x0, x1, x2, x3, x4, x5, x6, x7, x8, oneE, EnV.v]) rfl ⟨rfl, f⟩
end Go.Proofs.YtcaihinenfnekaaDoor
/- A region that draws its order, and the state may speak of all slots' values. Written by a small program out of the elder rule's text. -/
namespace Go.Proofs.YtcaihinenfnekaaDoor.H
open Go.RowKit Go.Proofs.YtcaihinenfnekaaDoor
section
variable {P : Program} {ops : Array Oper} {Q : Exit → Act → World → Prop} {R : World → World → Prop}
def upd (ν : Tmp → Value) (d : Option Tmp) (v : Value) : Tmp → Value := fun t => if d = some t then v else ν t
def lookV : List Oper → (Nat → Value) → Nat → (Tmp → Value) → Tmp → Value
  | [], _, _, ν => ν
  | o :: l, vs, i, ν => lookV l vs (i + 1) (upd ν o.dst (vs i))
theorem upd_put (a : Act) (d : Option Tmp) (v : Value) (hd : ∀ t, d = some t → t < a.tmps.size) : (fun t => (a.put d v).eval (.tmp t)) = upd (fun t => a.eval (.tmp t)) d v := by
  funext t
  unfold upd
  by_cases hg : d = some t
  · rw [if_pos hg, hg, eval_put_same _ _ _ (hd t hg)]
  · rw [if_neg hg, eval_put_ne _ _ _ _ hg]
theorem lookV_eq : ∀ (l : List Oper) (vs : Nat → Value) (i : Nat) (a : Act), (∀ (j : Nat) o d, l[j]? = some o → o.dst = some d → d < a.tmps.size) → (fun t => (putL l vs i a).eval (.tmp t)) = lookV l vs i (fun t => a.eval (.tmp t))
  | [], _, _, _, _ => rfl
  | o :: l, vs, i, a, hd => by
    unfold putL lookV
    rw [← upd_put a o.dst (vs i) (fun t ht => hd 0 o t rfl ht)]
    exact lookV_eq l vs (i + 1) (a.put o.dst (vs i)) (fun j o' d hj hd' => by
      have hsz : (a.put o.dst (vs i)).tmps.size = a.tmps.size := by cases o.dst <;> simp [Act.put]
      rw [hsz]; exact hd (j + 1) o' d (by simpa using hj) hd')
/-- One operation's part. -/
def CalmOp (P : Program) (ops : Array Oper) (Q : Exit → Act → World → Prop) (C : Nat → (Tmp → Value) → World → Prop) (Vs : List (Stb R)) (a0 : Act) (i : Nat) (V : Stb R) (o : Oper) (k k' : Nat) : Prop :=
  ∀ (a : Act) (w : World) (K : Act → World → Prop), C k (fun t => a.eval (.tmp t)) w → (∀ t, t ∈ o.looksAt ops → slotD ops.toList Vs a0 t (a.tmps[t]?.getD undef) w) →
    (∀ v w', R w w' → C k' (upd (fun t => a.eval (.tmp t)) o.dst v) w' → V.V v w' → K (a.put o.dst v) w') → wpOp P ops Q i K a w


/-- All operations' parts. -/
def CalmAll (P : Program) (ops : Array Oper) (Q : Exit → Act → World → Prop) (C : Nat → (Tmp → Value) → World → Prop) (Vs : List (Stb R)) (a0 : Act) : Nat → Nat → List Oper → List (Stb R) → List Bool → Prop
  | i, r, o :: l, V :: Ws, s :: st => (if s = true then CalmOp P ops Q C Vs a0 i V o r (r + 1) else ∀ k, CalmOp P ops Q C Vs a0 i V o k k) ∧ CalmAll P ops Q C Vs a0 (i + 1) (stepR s r) l Ws st
  | _, _, [], [], [] => True
  | _, _, _, _, _ => False


theorem calmAll_get {C : Nat → (Tmp → Value) → World → Prop} {Vs : List (Stb R)} {a0 : Act} : ∀ (l : List Oper) (Ws : List (Stb R)) (st : List Bool) (i r : Nat), CalmAll P ops Q C Vs a0 i r l Ws st →
    l.length = Ws.length ∧ l.length = st.length ∧ ∀ j o, l[j]? = some o → ∃ V s, Ws[j]? = some V ∧ st[j]? = some s ∧
      (if s = true then CalmOp P ops Q C Vs a0 (i + j) V o (r + rank st j) (r + rank st j + 1) else ∀ k, CalmOp P ops Q C Vs a0 (i + j) V o k k)
  | [], [], [], i, r, _ => ⟨rfl, rfl, fun j o h => by simp at h⟩
  | o :: l, V :: Ws, s :: st, i, r, h => by
    obtain ⟨h1, h2⟩ := h
    obtain ⟨e1, e2, e3⟩ := calmAll_get l Ws st (i + 1) _ h2
    refine ⟨by simp [e1], by simp [e2], fun j o' hj => ?_⟩
    cases j with
    | zero =>
      simp at hj; subst hj
      exact ⟨V, s, rfl, rfl, by simpa [rank] using h1⟩
    | succ j =>
      obtain ⟨V', s', g1, g2, g3⟩ := e3 j o' (by simpa using hj)
      refine ⟨V', s', by simpa using g1, by simpa using g2, ?_⟩
      have er : rank (s :: st) (j + 1) = (if s = true then 1 else 0) + rank st j := by
        unfold rank; rw [List.take_succ_cons, List.count_cons]; cases s <;> simp <;> omega
      rw [er, show i + (j + 1) = i + 1 + j from by omega]
      cases s
      · simpa [stepR] using g3
      · rw [if_pos rfl, ← Nat.add_assoc]; exact g3
  | [], _ :: _, _, _, _, h => h.elim
  | [], [], _ :: _, _, _, h => h.elim
  | _ :: _, [], _, _, _, h => h.elim
  | _ :: _, _ :: _, [], _, _, h => h.elim


structure CalmInv (ops : Array Oper) (C : Nat → (Tmp → Value) → World → Prop) (Vs : List (Stb R)) (a0 : Act) (st : List Bool) (w0 : World) (listed : Array Bool) (a : Act) (w : World) (k : Nat) : Prop where
  size : listed.size = ops.size
  closed : ∀ i o, ops[i]? = some o → listed.getD i false = true → ∀ e ∈ o.after, Region.binds .any e = true → listed.getD e.on false = true
  defers : a.defers = a0.defers
  tsize : a.tmps.size = a0.tmps.size
  old : ∀ t, (∀ i o, ops[i]? = some o → listed.getD i false = true → o.dst ≠ some t) → a.eval (.tmp t) = a0.eval (.tmp t)
  new : ∀ i o V d, ops[i]? = some o → Vs[i]? = some V → listed.getD i false = true → o.dst = some d → V.V (a.eval (.tmp d)) w
  state : C k (fun t => a.eval (.tmp t)) w
  upto : ∀ j, st[j]? = some true → (listed.getD j false = true ↔ rank st j < k)
  base : R w0 w
  kle : k ≤ rank st ops.size


theorem calm_step {C : Nat → (Tmp → Value) → World → Prop} {Vs : List (Stb R)} {a0 : Act} {st : List Bool} {w0 : World} (hB : CalmOK ops st) (hall : CalmAll P ops Q C Vs a0 0 0 ops.toList Vs st)
    (htr : ∀ a b c, R a b → R b c → R a c) (hds : ∀ (i : Nat) o d, ops[i]? = some o → o.dst = some d → d < a0.tmps.size)
    {listed : Array Bool} {a : Act} {w : World} {k : Nat} (hI : CalmInv ops C Vs a0 st w0 listed a w k) {i : Nat} (hi : i ∈ Region.ready .any ops listed)
    {K : Act → World → Prop} (hK : ∀ a' w' k', CalmInv ops C Vs a0 st w0 (listed.setIfInBounds i true) a' w' k' → K a' w') : wpOp P ops Q i K a w := by
  obtain ⟨_, hBd, hBs, hBn⟩ := hB
  obtain ⟨hl1, hl2, hget⟩ := calmAll_get ops.toList Vs st 0 0 hall
  obtain ⟨hun, o, ho, haft⟩ := mem_ready.1 hi
  have hlt : i < ops.size := (Array.getElem?_eq_some_iff.1 ho).1
  have hun' : listed.getD i false = false := by
    have : i < listed.size := by rw [hI.size]; exact hlt
    simp [this] at hun ⊢; exact hun
  obtain ⟨V, s, hV, hs, hop⟩ := hget i o (by simpa using ho)
  have deps : ∀ t, t ∈ o.looksAt ops → slotD ops.toList Vs a0 t (a.tmps[t]?.getD undef) w := fun t ht => by
    rw [← eval_get]
    refine slotD_of _ _ hl1 (fun j p V' hj hV' hd => ?_) (fun hn => ?_)
    · obtain ⟨e, he, hb, hej⟩ := hBd i j o p t ho (by simpa using hj) hd ht
      exact hI.new j p V' t (by simpa using hj) hV' (by rw [← hej]; exact haft e he hb) hd
    · rw [← eval_get]; exact hI.old t fun j p hj _ => hn j p (by simpa using hj)
  have key : ∀ k', (s = true → k' = k + 1) → (s = false → k' = k) → (s = true → rank st i = k) → ∀ v w', R w w' → C k' (upd (fun t => a.eval (.tmp t)) o.dst v) w' → V.V v w' → K (a.put o.dst v) w' := by
    intro k' hk1 hk0 hrk v w' hR hC0 hv
    have hC : C k' (fun t => (a.put o.dst v).eval (.tmp t)) w' := by
      have e : (fun t => (a.put o.dst v).eval (.tmp t)) = upd (fun t => a.eval (.tmp t)) o.dst v := by
        funext t
        unfold upd
        by_cases hg : o.dst = some t
        · rw [if_pos hg, hg, eval_put_same _ _ _ (by rw [hI.tsize]; exact hds i o t ho hg)]
        · rw [if_neg hg, eval_put_ne _ _ _ _ hg]
      rw [e]; exact hC0
    refine hK _ _ k' ⟨by simp [hI.size], fun j p hj hlj e he hb => ?_, ?_, ?_, fun t hn => ?_, fun j p V' d hj hV' hlj hd => ?_, hC, fun j hj => ?_, htr _ _ _ hI.base hR, ?_⟩
    · rw [getD_set _ _ _ (by rw [hI.size]; exact hlt)] at hlj ⊢
      simp only [Bool.or_eq_true, decide_eq_true_eq] at hlj ⊢
      rcases hlj with rfl | hlj
      · rw [ho] at hj; cases hj; exact .inr (haft e he hb)
      · exact .inr (hI.closed j p hj hlj e he hb)
    · rw [← hI.defers]; cases o.dst <;> rfl
    · rw [← hI.tsize]; cases o.dst <;> simp [Act.put]
    · have hne : o.dst ≠ some t := hn i o ho (by rw [getD_set _ _ _ (by rw [hI.size]; exact hlt)]; simp)
      rw [eval_put_ne _ _ _ _ hne]
      exact hI.old t fun j p hj hlj => hn j p hj (by rw [getD_set _ _ _ (by rw [hI.size]; exact hlt), hlj]; simp)
    · rw [getD_set _ _ _ (by rw [hI.size]; exact hlt)] at hlj
      by_cases hij : i = j
      · subst hij
        rw [ho] at hj; cases hj
        rw [hV] at hV'; cases hV'
        rw [hd, eval_put_same _ _ _ (by rw [hI.tsize]; exact hds i o d ho hd)]
        exact hv
      · simp only [hij, decide_false, Bool.false_or] at hlj
        have hne : o.dst ≠ some d := by
          intro e
          -- two operations that write one slot
          have h1 : (ops.toList.filterMap (·.dst)).Nodup := hBn
          obtain ⟨hi1, hi2⟩ := Array.getElem?_eq_some_iff.1 ho
          obtain ⟨hj1, hj2⟩ := Array.getElem?_eq_some_iff.1 hj
          exact nodup_dst _ h1 i j o p d (by simpa using ho) (by simpa using hj) e hd hij
        rw [eval_put_ne _ _ _ _ hne]
        exact V'.st _ _ _ (hI.new j p V' d hj hV' hlj hd) hR
    · rw [getD_set _ _ _ (by rw [hI.size]; exact hlt)]
      simp only [Bool.or_eq_true, decide_eq_true_eq]
      have hu := hI.upto j hj
      cases s with
      | true =>
        rw [hk1 rfl]
        by_cases hij : i = j
        · subst hij; have := hrk rfl; simp; omega
        · have : rank st j ≠ k := by
            rw [← hrk rfl]
            rcases Nat.lt_or_gt_of_ne hij with h | h
            · have := rank_lt st h hs; omega
            · have := rank_lt st h hj; omega
          simp only [hij, false_or, hu]; omega
      | false =>
        rw [hk0 rfl]
        have hij : i ≠ j := by rintro rfl; rw [hs] at hj; cases hj
        simp only [hij, false_or, hu]
    · cases s with
      | true =>
        rw [hk1 rfl, ← hrk rfl]
        have := rank_mono st (show i + 1 ≤ ops.size by omega)
        rw [rank_succ, if_pos hs] at this; exact this
      | false => rw [hk0 rfl]; exact hI.kle
  cases s with
  | true =>
    have hrk : rank st i = k := by
      have h1 := hI.upto i hs
      rw [hun'] at h1
      have h2 : ¬ rank st i < k := fun h => by simpa using h1.2 h
      have := hBs listed k i o ho hs hI.closed haft hI.upto
      omega
    rw [if_pos rfl, Nat.zero_add, Nat.zero_add, hrk] at hop
    exact hop a w K hI.state deps (key (k + 1) (fun _ => rfl) (fun h => by cases h) (fun _ => hrk))
  | false =>
    simp only [Bool.false_eq_true, if_false] at hop
    rw [Nat.zero_add] at hop
    exact hop k a w K hI.state deps (key k (fun h => by cases h) (fun _ => rfl) (fun h => by cases h))


theorem calm_any {C : Nat → (Tmp → Value) → World → Prop} {Vs : List (Stb R)} {a0 : Act} {st : List Bool} {w0 : World} (hB : CalmOK ops st) (hall : CalmAll P ops Q C Vs a0 0 0 ops.toList Vs st)
    (htr : ∀ a b c, R a b → R b c → R a c) (hds : ∀ (i : Nat) o d, ops[i]? = some o → o.dst = some d → d < a0.tmps.size)
    (hQ : ∀ listed a w k, CalmInv ops C Vs a0 st w0 listed a w k → (∀ i, i < ops.size → listed.getD i false = true) → Q .normal a w) :
    ∀ (fuel : Nat) (listed : Array Bool) (a : Act) (w : World) (k : Nat), CalmInv ops C Vs a0 st w0 listed a w k →
      ((List.range ops.size).filter fun i => !listed.getD i false).length ≤ fuel → wpAny P .any ops Q fuel listed a w := by
  have hfull : ∀ listed : Array Bool, listed.size = ops.size → Region.ready .any ops listed = [] → ∀ i, i < ops.size → listed.getD i false = true := by
    intro listed hsz hr i
    induction i using Nat.strongRecOn with
    | _ i ih =>
      intro hi
      rcases hl : listed.getD i false with _ | _
      · exfalso
        have : i ∈ Region.ready .any ops listed := mem_ready.2 ⟨by
            have h2 : i < listed.size := by rw [hsz]; exact hi
            simp [h2] at hl ⊢; exact hl, ops[i], by simp [hi], fun e he hb => by
            have h3 := hB.bl i ops[i] (by simp [hi]) e he hb
            exact ih e.on h3 (by omega)⟩
        rw [hr] at this; cases this
      · rfl
  intro fuel
  induction fuel with
  | zero =>
    intro listed a w k hI hlen
    have hnone : ∀ i, i < ops.size → listed.getD i false = true := fun i hi => by
      have h0 := List.eq_nil_of_length_eq_zero (Nat.le_zero.1 hlen)
      have := List.filter_eq_nil_iff.1 h0 i (List.mem_range.2 hi)
      simpa using this
    refine ⟨?_, hQ listed a w k hI hnone⟩
    rw [List.eq_nil_iff_forall_not_mem]
    intro i hi
    obtain ⟨h1, o, ho, _⟩ := mem_ready.1 hi
    have hlt : i < ops.size := (Array.getElem?_eq_some_iff.1 ho).1
    have h2 := hnone i hlt
    have h3 : i < listed.size := by rw [hI.size]; exact hlt
    simp [h3] at h1 h2; rw [h1] at h2; cases h2
  | succ fuel ih =>
    intro listed a w k hI hlen
    refine ⟨fun hr => hQ listed a w k hI (hfull listed hI.size hr), fun i hi => ?_⟩
    refine calm_step hB hall htr hds hI hi fun a' w' k' hI' => ih _ a' w' k' hI' ?_
    obtain ⟨h1, o, ho, _⟩ := mem_ready.1 hi
    have hlt : i < ops.size := (Array.getElem?_eq_some_iff.1 ho).1
    have hsz : i < listed.size := by rw [hI.size]; exact hlt
    have hne : listed.getD i false = false := by simp [hsz] at h1 ⊢; exact h1
    have : ((List.range ops.size).filter fun j => !(listed.setIfInBounds i true).getD j false).length < ((List.range ops.size).filter fun j => !listed.getD j false).length := by
      have e : ((List.range ops.size).filter fun j => !(listed.setIfInBounds i true).getD j false) = ((List.range ops.size).filter fun j => !listed.getD j false).filter fun j => !decide (i = j) := by
        rw [List.filter_filter]
        congr 1; funext j
        rw [getD_set _ _ _ hsz, Bool.not_or]
      rw [e]
      refine List.length_filter_lt_length_iff_exists.2 ⟨i, List.mem_filter.2 ⟨List.mem_range.2 hlt, by rw [hne]; rfl⟩, by simp⟩
    omega


/-- THE RULE: a region that draws its order. -/
theorem wp_region_calm' {id : Nat} {l : List Oper} {C : Nat → (Tmp → Value) → World → Prop} {a : Act} {w : World} (st : List Bool) (Vs : List (Stb R)) (hm : P.follows .mixedOrders = true) (hB : CalmOK l.toArray st)
    (htr : ∀ a b c, R a b → R b c → R a c) (h0 : R w w.drew) (hC : C 0 (fun t => a.eval (.tmp t)) w.drew) (hds : l.all (fun o => (o.dst.map fun d => decide (d < a.tmps.size)).getD true) = true)
    (hall : CalmAll P l.toArray Q C Vs a 0 0 l Vs st)
    (hfin : ∀ (vs : Nat → Value) (w' : World), R w w' → C (rank st l.length) (lookV l vs 0 (fun t => a.eval (.tmp t))) w' → (∀ (i : Nat) o V, l[i]? = some o → Vs[i]? = some V → o.dst ≠ none → V.V (vs i) w') → Q .normal (putL l vs 0 a) w') :
    (Code.region id l.toArray true).wp P Q a w := by
  have hds' : ∀ (i : Nat) o d, l.toArray[i]? = some o → o.dst = some d → d < a.tmps.size := fun i o d hi hd => by
    have := List.all_eq_true.1 hds o (List.mem_of_getElem? (by simpa using hi))
    rw [hd] at this; simpa using this
  have hall' : CalmAll P l.toArray Q C Vs a 0 0 l.toArray.toList Vs st := hall
  have hrep : ∀ i, (Array.replicate l.toArray.size false).getD i false = false := fun i => by
    rw [Array.getD_eq_getD_getElem?, Array.getElem?_replicate]; split <;> rfl
  refine wp_region_any hm (calm_any (w0 := w) (k := 0) hB hall' htr hds' ?_ _ _ _ _ ⟨by simp, ?_, rfl, rfl, fun _ _ => rfl, ?_, hC, ?_, h0, Nat.zero_le _⟩ ?_)
  · intro listed a' w' k hI hfull
    obtain ⟨hl1, hl2, hget⟩ := calmAll_get l Vs st 0 0 hall
    have hBn : (l.filterMap (·.dst)).Nodup := hB.bn
    have hk : k = rank st l.length := by
      have h1 := hI.kle
      simp only [List.size_toArray] at h1
      rcases Nat.lt_or_ge k (rank st l.length) with h | h
      · obtain ⟨j, hj1, hj2, hj3⟩ := rank_hit st l.length k h
        have := (hI.upto j hj2).1 (hfull j (by simpa using hj1)); omega
      · omega
    obtain ⟨p1, p2, p3, p4⟩ := putL_spec l (fun i => ((l[i]?).bind (·.dst)).elim undef fun d => a'.eval (.tmp d)) 0 a hBn (fun j o d hj hd => hds' j o d (by simpa using hj) hd)
    have hlist : ∀ {j : Nat} {o : Oper}, l[j]? = some o → listed.getD j false = true := fun hj => hfull _ (by simpa using (List.getElem?_eq_some_iff.1 hj).1)
    have e : a' = putL l (fun i => ((l[i]?).bind (·.dst)).elim undef fun d => a'.eval (.tmp d)) 0 a := by
      refine act_ext (hI.defers.trans p1.symm) (hI.tsize.trans p2.symm) fun t => ?_
      by_cases ht : ∃ (j : Nat) (o : Oper), l[j]? = some o ∧ o.dst = some t
      · obtain ⟨j, o, hj, hd⟩ := ht
        rw [p3 j o t hj hd, Nat.zero_add, hj]
        simp [hd]
      · have hn : ∀ (j : Nat) (o : Oper), l[j]? = some o → o.dst ≠ some t := fun j o hj hd => ht ⟨j, o, hj, hd⟩
        rw [p4 t hn]
        exact hI.old t fun j o hj _ => hn j o (by simpa using hj)
    have hst : C (rank st l.length) (lookV l (fun i => ((l[i]?).bind (·.dst)).elim undef fun d => a'.eval (.tmp d)) 0 (fun t => a.eval (.tmp t))) w' := by
      rw [← lookV_eq l _ 0 a (fun j o d hj hd => hds' j o d (by simpa using hj) hd), ← e, ← hk]; exact hI.state
    rw [e]
    refine hfin _ w' hI.base hst fun i o V hi hV hne => ?_
    cases hd : o.dst with
    | none => exact absurd hd hne
    | some d =>
      have := hI.new i o V d (by simpa using hi) hV (hlist hi) hd
      simpa [hi, hd] using this
  · intro i o _ h; rw [hrep] at h; cases h
  · intro i o V d _ _ h; rw [hrep] at h; cases h
  · intro j _; rw [hrep]; simp
  · simpa using List.length_filter_le _ (List.range l.length)


/-- The rule with levels. -/
theorem wp_region_calmL {id : Nat} {l : List Oper} {C : Nat → (Tmp → Value) → World → Prop} {a : Act} {w : World} (st : List Bool) (lv : List Nat) (Vs : List (Stb R)) (hm : P.follows .mixedOrders = true) (hB : calmL l.toArray st lv = true)
    (htr : ∀ a b c, R a b → R b c → R a c) (h0 : R w w.drew) (hC : C 0 (fun t => a.eval (.tmp t)) w.drew) (hds : l.all (fun o => (o.dst.map fun d => decide (d < a.tmps.size)).getD true) = true)
    (hall : CalmAll P l.toArray Q C Vs a 0 0 l Vs st)
    (hfin : ∀ (vs : Nat → Value) (w' : World), R w w' → C (rank st l.length) (lookV l vs 0 (fun t => a.eval (.tmp t))) w' → (∀ (i : Nat) o V, l[i]? = some o → Vs[i]? = some V → o.dst ≠ none → V.V (vs i) w') → Q .normal (putL l vs 0 a) w') :
    (Code.region id l.toArray true).wp P Q a w :=
  wp_region_calm' st Vs hm (calmL_ok hB) htr h0 hC hds hall hfin


theorem calm_mv {C : Nat → (Tmp → Value) → World → Prop} {Vs : List (Stb R)} {a0 : Act} {i k : Nat} {V : Stb R} {o : Oper} (t : Tmp) (hi : ops[i]? = some o) (hg : o.guard = none) (ho : o.op = .move (.tmp t) ∨ o.op = .assign (.tmp t)) (hng : ∀ ν v w, C k ν w → C k (upd ν o.dst v) w) (hR : ∀ w, R w w) (ht : t ∈ o.looksAt ops)
    (hV : ∀ (v : Value) (w : World), slotD ops.toList Vs a0 t v w → V.V v w) : CalmOp P ops Q C Vs a0 i V o k k := by
  intro a w K hC hd hK
  refine calm_run hi hg (a.eval (.tmp t)) (w' := w) ?_ (hK _ _ (hR w) (hng _ _ _ hC) (hV _ w (by rw [eval_get]; exact hd t ht)))
  rcases ho with ho | ho <;> simp [execOp, ho]
end
end Go.Proofs.YtcaihinenfnekaaDoor.H
/- slices.Clone of entries; Append. -/
namespace Go.Proofs.YtcaihinenfnekaaDoor
open Go.RowKit

theorem Tryd.appE : AppTy Tryd.prog 33 42 (.agg #[.int .u64 0, .int .u64 0, .int .u8 0, .int .u64 0, .int .u8 0, .string ⟨#[]⟩, .string ⟨#[]⟩, .int .u8 0, .int .u8 0]) 9 80 := ⟨Tryd.underlying33, by kernel_rfl, rfl, by decide⟩
/-- append, as one operation. -/
theorem op_app {P : Program} {o : Oper} {a : Act} {w : World} {K : Act → World → Prop} {Q : Exit → Act → World → Prop} {t e : TypeId} {z : Value} {size bytes : Nat} (A : AppTy P t e z size bytes)
    (s x : Operand) (ho : o.op = .call { callee := .builtin .append, args := #[s, x], argTypes := #[t, t] })
    (v : Value) (n : Nat) (xs : List Value) (hs : a.eval s = v) (hown : w.ownsRow 0 e size v n xs)
    (B : Option Addr) (m c : Nat) (news : List Value) (hx : a.eval x = .slice B m c) (hl : news.length = m * size) (hnews : RowAt w B news) (h1 : ∀ u ∈ news, u.oneCell' = true)
    (hB : B ≠ none) (hbytes : (n + m) * bytes ≤ 140737488355328) (h63 : n + m ≤ 140737488355328)
    (h : ∀ A' c' w', w'.ownsRow 0 e size (.slice A' (n + m) c') (n + m) (xs ++ news) → w.grownBy w' v.ownBlock → ((Value.slice A' (n + m) c').ownBlock = v.ownBlock ∨ (Value.slice A' (n + m) c').ownBlock = some w.heap.size) → K (a.put o.dst (.slice A' (n + m) c')) w') :
    o.wp P a w K Q := by
  obtain ⟨i, hi, hz, hsz, hby⟩ := info_parts A.info
  have hm : n + m ≤ maxLen := by unfold maxLen; omega
  cases B with
  | none => exact absurd rfl hB
  | some ad =>
    obtain ⟨v', w', hr, h2, h3, _, h5⟩ := run_append_own_at (P := P) w 0 t o.type e i z size bytes A.und hi hz hsz hby A.zs A.pos v n xs hown ad m c news hl (fun j u hu => hnews.cell hu) h1 hm hbytes (Nat.zero_le _)
    obtain ⟨A', c', rfl⟩ := own_slice h2
    unfold Oper.wp execOp
    simp only [ho, resolve, invoke, builtin, Sem.run_bind, Sem.run_pure, Result.andThen_ok, List.map_toArray, List.map_cons, List.map_nil, hs, hx, hr]
    exact h A' c' w' h2 h3 h5
set_option maxRecDepth 100000 in
theorem cloneE_calls (w : World) (B : Option Addr) (n cap : Nat) (es : List EnV) (hx : RowAt w B (es.flatMap EnV.C)) (HN : Hid (es.length = n)) (hB : B = none → n = 0 ∧ cap = 0) (hl : n ≤ 1000000000000) :
    Calls Tryd.prog 73 #[.slice B n cap] w (fun e w' => ∃ A c, e = .returned (.slice A n c) ∧ w'.ownsRow w.heap.size 42 9 (.slice A n c) n (es.flatMap EnV.C) ∧ Fr noB w w') := by
  have hlen := flatE_length es
  rw [HN.out] at hlen
  have hone := flatE_one es
  have heq := fun (w : World) (a : Option Addr) (n c : Nat) => Lib.run_eql_slice_nil (P := Tryd.prog) w 33 42 a n c 0 0 Tryd.underlying33
  generalize es.flatMap EnV.C = xs at *
  cases B with
  | none =>
    obtain ⟨rfl, rfl⟩ := hB rfl
    have hxs : xs = [] := List.eq_nil_of_length_eq_zero (by omega)
    subst hxs
    clear hlen
    go_enter Tryd.func73, Tryd.ntmps73
    go_wp2
    go_ret
    exact ⟨none, 0, rfl, World.ownsRow_nil _ _ _ _, Fr.refl _ _⟩
  | some ad =>
    have hown : (w.alloc (.cells #[] 42)).ownsRow 0 42 9 (.slice (some ⟨w.heap.size, 0, none⟩) 0 0) 0 [] := World.ownsRow_made w #[] 0 (Nat.zero_le _) (by unfold maxLen; omega) rfl
    have hx2 : RowAt (w.alloc (.cells #[] 42)) (some ad) xs := hx.fr0 ((Fr.refl noB w).alloc _)
    have hl' : Hid (n ≤ 1000000000000) := hl
    have HLN := hid hlen
    clear hl hlen
    go_enter Tryd.func73, Tryd.ntmps73
    go_wp2_with (at_builtin; refine wpList_app Tryd.appE rfl (.tmp 5) (.tmp 6) rfl _ 0 [] rfl hown (some ad) n cap xs rfl HLN.out hx2 hone (by simp) (by have := hl'.out; omega) (by have := hl'.out; omega) ?_)
    intro A' c' w1 hown' hg hat
    go_wp2
    go_ret
    have hat' : ∃ k, (Value.slice A' n c').ownBlock = some k ∧ w.heap.size ≤ k := by
      rcases hat with e | e
      · exact ⟨_, e, Nat.le_refl _⟩
      · exact ⟨_, e, by simp⟩
    refine ⟨A', c', rfl, own_mono hown' ?_, ?_⟩
    · obtain ⟨k, e, hk⟩ := hat'
      intro g hg; rw [e] at hg; cases hg; exact hk
    · refine Fr.grown ((Fr.refl noB w).alloc _) hg (fun k hk => Or.inr ?_)
      simp [Value.ownBlock] at hk; omega

/-! ### Append -/
def AppS (p : Nat) (v : Value) : Nat → Prop := fun k => k = p ∨ v.ownBlock = some k
def AppC (n0 p b n : Nat) (v : Value) (xs ys : List Value) : Nat → Value → World → Prop
  | 0, _, W => BlkAt W p 120 #[.int .u64 b, v] ∧ W.ownsRow 0 42 9 v n xs
  | 1, _, W => BlkAt W p 120 #[.int .u64 b, v] ∧ W.ownsRow 0 42 9 v n xs
  | 2, u, W => BlkAt W p 120 #[.int .u64 b, v] ∧ ∃ A c, u = .slice A (n + 1) c ∧ W.ownsRow 0 42 9 (.slice A (n + 1) c) (n + 1) ys ∧ ∀ g, (Value.slice A (n + 1) c).ownBlock = some g → v.ownBlock = some g ∨ n0 ≤ g
  | _, _, W => ∃ A c, BlkAt W p 120 #[.int .u64 b, .slice A (n + 1) c] ∧ W.ownsRow 0 42 9 (.slice A (n + 1) c) (n + 1) ys ∧ ∀ g, (Value.slice A (n + 1) c).ownBlock = some g → v.ownBlock = some g ∨ n0 ≤ g
theorem AppC.fr0 {n0 p b n : Nat} {v : Value} {xs ys : List Value} {q : Nat} {u : Value} {W W' : World} (h : AppC n0 p b n v xs ys q u W) (f : Fr noB W W') : AppC n0 p b n v xs ys q u W' := by
  match q, h with
  | 0, h => exact ⟨h.1.fr f id, own_fr h.2 f (fun _ _ => id)⟩
  | 1, h => exact ⟨h.1.fr f id, own_fr h.2 f (fun _ _ => id)⟩
  | 2, h => obtain ⟨h1, A, c, h2, h3, h4⟩ := h; exact ⟨h1.fr f id, A, c, h2, own_fr h3 f (fun _ _ => id), h4⟩
  | q + 3, h => obtain ⟨A, c, h1, h3, h4⟩ := h; exact ⟨A, c, h1.fr f id, own_fr h3 f (fun _ _ => id), h4⟩
/-- A new row of one element. -/
def OneS (n0 : Nat) (S : Nat → Prop) (hS : ∀ k, n0 ≤ k → ¬ S k) (xs : List Value) : Stb (Fr S) :=
  ⟨fun v W => ∃ q, v = .slice (some ⟨q, 0, none⟩) 1 1 ∧ RowAt W (some ⟨q, 0, none⟩) xs ∧ n0 ≤ q,
   fun _ _ _ ⟨q, h1, h2, h3⟩ f => ⟨q, h1, h2.fr f (fun ad e _ _ => by cases e; exact hS q h3), h3⟩⟩
set_option maxRecDepth 100000 in
set_option maxHeartbeats 1600000 in
theorem appL_calls (w : World) (U : Nat → Prop) (p b : Nat) (es : List EnV) (e : EnV) (ht : SignsAt w) (h : LogA w U p b es) (hU : ∀ k, w.heap.size ≤ k → U k) (hgd : GoodL b es) (hw : e.wf) (ha : e.o.a.size ≤ 1000000000000) (hb : e.o.b.size ≤ 1000000000000) :
    Calls Tryd.prog 24 #[.pointer (some ⟨p, 0, none⟩), e.v] w
      (fun ed w' => ed = .returned (.int .i64 ((appL b es e).2 : Nat)) ∧ LogA w' U p b (appL b es e).1 ∧ Fr U w w') := by
  have HV : Hid (appL b es e = if checkE e ≠ 0 then (es, checkE e) else if e.op ≠ lastL b es + 1 then (es, 12) else if 16 ≤ es.length then (es, 7) else (es ++ [e], 0)) := rfl
  have hck := fun W (hx : Fr noB w W) => checkEn_calls W e (ht.fr0 hx) hw ha hb
  have hll := hgd.last
  have hla := fun W (hx : LogA W U p b es) => lastL_calls W U p b es hx (by omega)
  have hfl := fun W (hx : LogA W U p b es) => fullL_calls W U p b es hx
  have f0 : Fr noB w (w.alloc (.cells #[.int .u64 e.op, .int .u64 e.view, .int .u8 e.cl, .int .u64 e.num, .int .u8 e.o.k, .string e.o.a, .string e.o.b, .int .u8 e.o.n, .int .u8 e.o.r] 42)) := (Fr.refl noB w).alloc _
  have hb0 : BlkAt (w.alloc (.cells #[.int .u64 e.op, .int .u64 e.view, .int .u8 e.cl, .int .u64 e.num, .int .u8 e.o.k, .string e.o.a, .string e.o.b, .int .u8 e.o.n, .int .u8 e.o.r] 42)) w.heap.size 42 #[.int .u64 e.op, .int .u64 e.view, .int .u8 e.cl, .int .u64 e.num, .int .u8 e.o.k, .string e.o.a, .string e.o.b, .int .u8 e.o.n, .int .u8 e.o.r] := BlkAt.new _ _ _
  have hplt := h.lt
  have hop := hw.op
  have hfl1 : (es ++ [e]).flatMap EnV.C = es.flatMap EnV.C ++ [.int .u64 e.op, .int .u64 e.view, .int .u8 e.cl, .int .u64 e.num, .int .u8 e.o.k, .string e.o.a, .string e.o.b, .int .u8 e.o.n, .int .u8 e.o.r] := by simp [EnV.C]
  have hone : ∀ u ∈ ([.int .u64 e.op, .int .u64 e.view, .int .u8 e.cl, .int .u64 e.num, .int .u8 e.o.k, .string e.o.a, .string e.o.b, .int .u8 e.o.n, .int .u8 e.o.r] : List Value), u.oneCell' = true := by have := flatE_one [e]; simpa [EnV.C] using this
  have hw16 := hgd.few
  have hv : e.v = .agg #[.int .u64 e.op, .int .u64 e.view, .int .u8 e.cl, .int .u64 e.num, .int .u8 e.o.k, .string e.o.a, .string e.o.b, .int .u8 e.o.n, .int .u8 e.o.r] := rfl
  rw [hv] at hck ⊢
  clear hv hw ha hb ht hgd
  have HSN : Hid (∀ n, es.length = n → (es ++ [e]).length = n + 1) := fun n h => by rw [List.length_append, h]; rfl
  obtain ⟨op, view, cl, num, k, oa, ob, on, or⟩ := e
  have H0 := h
  obtain ⟨A, n, c, hn, hB, hO, hUp, hgp⟩ := h
  have hsn := HSN.out n hn.out
  rw [hn.out] at HV hw16
  have hfd : ∀ W, LogA W U p b es → Calls Tryd.prog 30 #[.pointer (some ⟨p, 0, none⟩)] W (fun e w' => e = .returned (.bool (decide (16 ≤ n))) ∧ Fr noB W w') := fun W hx => by
    have := hfl W hx; rwa [hn.out] at this
  simp only [] at *
  generalize es ++ [(⟨op, view, cl, num, k, oa, ob, on, or⟩ : EnV)] = es1 at *
  generalize checkE ⟨op, view, cl, num, k, oa, ob, on, or⟩ = cv at *
  generalize appL b es ⟨op, view, cl, num, k, oa, ob, on, or⟩ = res at *
  generalize lastL b es = la at *
  have hw2 : IntKind.u64.wrap ((la : Int) + 1) = la + 1 := by rw [IntKind.wrap_u64]; omega
  obtain ⟨c2, hc2⟩ : ∃ c, ((op : Int) != (la : Int) + 1) = c := ⟨_, rfl⟩
  have hd2 : Hid (c2 = true ↔ op ≠ la + 1) := by rw [← hc2]; unfold Hid; rw [bne_iff_ne]; omega
  go_enter Tryd.func24, Tryd.ntmps24
  go_upto_region 1 with fail
  generalize (w.alloc (.cells #[.int .u64 op, .int .u64 view, .int .u8 cl, .int .u64 num, .int .u8 k, .string oa, .string ob, .int .u8 on, .int .u8 or] 42)) = wa at *
  obtain ⟨x0, x1, x2, x3, x4, x5, x6, x7, x8, xf⟩ := BlkAt.c9 hb0
  go_wp2_with fail
  refine (hck wa f0).mono ?_
  rintro ed w1 ⟨rfl, f1⟩
  have F1 := f0.then' f1
  replace hb0 := hb0.fr f1 id
  clear x0 x1 x2 x3 x4 x5 x6 x7 x8 xf hck f1 f0
  by_cases hcv : cv = 0
  · rw [if_neg (by omega)] at HV
    subst hcv
    go_wp2_with fail
    apply wp_region_calm (R := Fr noB) (C := fun _ w' => Fr noB w1 w') [false, false, false, false, false, false, false]
      [eqv _, eqv _, eqv _, eqv _, eqv _, eqv _, eqv _]
      (by kernel_rfl) (by kernel_rfl) (fun _ _ _ h1 h2 => h1.then' h2) ((Fr.refl _ _).drew) ((Fr.refl _ _).drew) (by kernel_rfl)
    · refine ⟨?_, ?_, ?_, ?_, ?_, ?_, ?_, trivial⟩
      · rw [if_neg (by decide)]; intro kq
        intro a W K hC hd hK
        have d3 : a.tmps[3]?.getD undef = .pointer (some ⟨w.heap.size, 0, none⟩) := hd 3 (by decide)
        refine wpOp_plain rfl rfl ?_
        obtain ⟨x0, x1, x2, x3, x4, x5, x6, x7, x8, xf⟩ := BlkAt.c9 (hb0.fr hC id)
        go_wp2_with fail
        exact hK _ _ (Fr.refl _ _) hC rfl
      · rw [if_neg (by decide)]; intro kq
        intro a W K hC hd hK
        have d13 : _ = _ := hd 13 (by decide)
        refine wpOp_plain rfl rfl ?_
        obtain ⟨x0, x1, x2, x3, x4, x5, x6, x7, x8, xf⟩ := BlkAt.c9 (hb0.fr hC id)
        go_wp2_with fail
        exact hK _ _ (Fr.refl _ _) hC rfl
      · rw [if_neg (by decide)]; intro kq
        exact calm_mv 0 rfl rfl (Or.inl rfl) (Fr.refl _) (by decide) fun v w hd => hd
      · rw [if_neg (by decide)]; intro kq
        intro a W K hC hd hK
        have d15 : _ = _ := hd 15 (by decide)
        refine wpOp_plain rfl rfl ?_
        obtain ⟨x0, x1, x2, x3, x4, x5, x6, x7, x8, xf⟩ := BlkAt.c9 (hb0.fr hC id)
        go_wp2_with fail
        refine (hla W (H0.fr0 (F1.then' hC))).mono ?_
        rintro e9 w9 ⟨rfl, f9⟩
        exact hK _ _ f9 (hC.then' f9) rfl
      · rw [if_neg (by decide)]; intro kq
        intro a W K hC hd hK
        have d16 : _ = _ := hd 16 (by decide)
        refine wpOp_plain rfl rfl ?_
        go_wp2_with fail
        exact hK _ _ (Fr.refl _ _) hC rfl
      · rw [if_neg (by decide)]; intro kq
        intro a W K hC hd hK
        have d14 : _ = _ := hd 14 (by decide)
        have d17 : _ = _ := hd 17 (by decide)
        refine wpOp_plain rfl rfl ?_
        go_wp2_with fail
        exact hK _ _ (Fr.refl _ _) hC rfl
      · rw [if_neg (by decide)]; intro kq
        exact calm_mv 18 rfl rfl (Or.inr rfl) (Fr.refl _) (by decide) fun v w hd => hd
    · intro vs w2 fw2 cw2 hV
      have v13 : vs 0 = _ := hV 0 _ _ rfl rfl (by decide)
      have v14 : vs 1 = _ := hV 1 _ _ rfl rfl (by decide)
      have v15 : vs 2 = _ := hV 2 _ _ rfl rfl (by decide)
      have v16 : vs 3 = _ := hV 3 _ _ rfl rfl (by decide)
      have v17 : vs 4 = _ := hV 4 _ _ rfl rfl (by decide)
      have v18 : vs 5 = _ := hV 5 _ _ rfl rfl (by decide)
      have v12 : vs 6 = _ := hV 6 _ _ rfl rfl (by decide)
      clear hV
      simp only [putL, Act.put, Nat.reduceAdd, List.setIfInBounds_toArray, List.set_cons_zero, List.set_cons_succ, v13, v14, v15, v16, v17, v18, v12]
      have F2 := F1.then' fw2
      replace hb0 := hb0.fr fw2 id
      clear F1 fw2 cw2 hla
      cases c2 with
      | true =>
        rw [if_pos (hd2.out.1 rfl)] at HV
        go_wp2_with fail
        go_ret
        rw [HV.out]
        exact ⟨rfl, H0.fr0 F2, F2.mono fun _ _ h => h.elim⟩
      | false =>
        rw [if_neg (fun h => by have := hd2.out.2 h; cases this)] at HV
        go_wp2_with fail
        refine (hfd w2 (H0.fr0 F2)).mono ?_
        rintro ed w3 ⟨rfl, f3⟩
        have F3 := F2.then' f3
        replace hb0 := hb0.fr f3 id
        clear F2 f3 hfd hfl
        by_cases h16 : 16 ≤ n
        · rw [if_pos h16] at HV
          rw [decide_eq_true h16]
          go_wp2_with fail
          go_ret
          rw [HV.out]
          exact ⟨rfl, H0.fr0 F3, F3.mono fun _ _ h => h.elim⟩
        · rw [if_neg h16] at HV
          rw [decide_eq_false h16]
          have hB3 := hB.fr F3 id
          have hO3 := own_fr hO F3 (fun _ _ => id)
          have hs3 := F3.size
          have hog : ∀ g, (Value.slice A n c).ownBlock = some g → g < w.heap.size := fun g hg => own_lt hO hg
          have hS : ∀ k, w3.heap.size ≤ k → ¬ AppS p (.slice A n c) k := fun k hk h => by
            rcases h with h | h
            · omega
            · have := hog k h; omega
          have hnS : ¬ AppS p (.slice A n c) w.heap.size := fun h => by
            rcases h with h | h
            · omega
            · have := hog _ h; omega
          generalize es.flatMap EnV.C = xs at *
          go_wp2_with fail
          apply H.wp_region_calmL (R := Fr (AppS p (.slice A n c))) (C := fun q ν W => Fr (AppS p (.slice A n c)) w3 W ∧ BlkAt W w.heap.size 42 #[.int .u64 op, .int .u64 view, .int .u8 cl, .int .u64 num, .int .u8 k, .string oa, .string ob, .int .u8 on, .int .u8 or] ∧ AppC w3.heap.size p b n (.slice A n c) xs (xs ++ [.int .u64 op, .int .u64 view, .int .u8 cl, .int .u64 num, .int .u8 k, .string oa, .string ob, .int .u8 on, .int .u8 or]) q (ν 29) W) [false, false, false, false, true, false, false, true, false, false, true] [0, 0, 0, 0, 0, 0, 0, 1, 2, 2, 2]
            [eqv _, eqv _, eqv _, eqv _, eqv _, eqv _, OneS w3.heap.size (AppS p (.slice A n c)) hS [.int .u64 op, .int .u64 view, .int .u8 cl, .int .u64 num, .int .u8 k, .string oa, .string ob, .int .u8 on, .int .u8 or], anyv, eqv _, eqv _, anyv]
            (by kernel_rfl) (by kernel_rfl) (fun _ _ _ h1 h2 => h1.then' h2) ((Fr.refl _ _).drew) ⟨(Fr.refl _ _).drew, hb0, hB3, own_fr hO3 ((Fr.refl noB _).drew) (fun _ _ => id)⟩ (by kernel_rfl)
          · refine ⟨?_, ?_, ?_, ?_, ?_, ?_, ?_, ?_, ?_, ?_, ?_, trivial⟩
            · rw [if_neg (by decide)]; intro kq
              exact H.calm_mv 0 rfl rfl (Or.inl rfl) (fun _ _ _ h => h) (Fr.refl _) (by decide) fun v w hd => hd
            · rw [if_neg (by decide)]; intro kq
              exact H.calm_mv 0 rfl rfl (Or.inl rfl) (fun _ _ _ h => h) (Fr.refl _) (by decide) fun v w hd => hd
            · rw [if_neg (by decide)]; intro kq
              intro a W K hC hd hK
              have d23 : _ = _ := hd 23 (by decide)
              refine wpOp_plain rfl rfl ?_
              go_wp2_with fail
              exact hK _ _ (Fr.refl _ _) hC rfl
            · rw [if_neg (by decide)]; intro kq
              intro a W K hC hd hK
              have d24 : _ = _ := hd 24 (by decide)
              refine wpOp_plain rfl rfl ?_
              obtain ⟨y0, y1, y2, y3, y4, y5, y6, y7, y8, yf⟩ := BlkAt.c9 hC.2.1
              go_wp2_with fail
              exact hK _ _ (Fr.refl _ _) hC rfl
            · rw [if_pos (by decide)]
              intro a W K hC hd hK
              replace hC : (fun q ν W => Fr (AppS p (.slice A n c)) w3 W ∧ BlkAt W w.heap.size 42 #[.int .u64 op, .int .u64 view, .int .u8 cl, .int .u64 num, .int .u8 k, .string oa, .string ob, .int .u8 on, .int .u8 or] ∧ AppC w3.heap.size p b n (.slice A n c) xs (xs ++ [.int .u64 op, .int .u64 view, .int .u8 cl, .int .u64 num, .int .u8 k, .string oa, .string ob, .int .u8 on, .int .u8 or]) q (ν 29) W) 0 (fun t => a.eval (.tmp t)) W := hC
              have d25 : _ = _ := hd 25 (by decide)
              refine wpOp_plain rfl rfl ?_
              obtain ⟨y0, y1, y2, y3, y4, y5, y6, y7, y8, yf⟩ := BlkAt.c9 hC.2.1
              obtain ⟨x0, x1, xf⟩ := BlkAt.c2 hC.2.2.1
              go_wp2_with fail
              exact hK _ _ (Fr.refl _ _) ⟨hC.1, hC.2.1, hC.2.2⟩ rfl
            · rw [if_neg (by decide)]; intro kq
              intro a W K hC hd hK
              have d3 : a.tmps[3]?.getD undef = .pointer (some ⟨w.heap.size, 0, none⟩) := hd 3 (by decide)
              refine wpOp_plain rfl rfl ?_
              obtain ⟨y0, y1, y2, y3, y4, y5, y6, y7, y8, yf⟩ := BlkAt.c9 hC.2.1
              go_wp2_with fail
              exact hK _ _ (Fr.refl _ _) hC rfl
            · rw [if_neg (by decide)]; intro kq
              intro a W K hC hd hK
              have d27 : _ = _ := hd 27 (by decide)
              refine wpOp_plain rfl rfl ?_
              go_wp2_with fail
              have fs := (Fr.refl (AppS p (.slice A n c)) W).alloc (.cells #[.int .u64 op, .int .u64 view, .int .u8 cl, .int .u64 num, .int .u8 k, .string oa, .string ob, .int .u8 on, .int .u8 or] 42)
              have fn := (Fr.refl noB W).alloc (.cells #[.int .u64 op, .int .u64 view, .int .u8 cl, .int .u64 num, .int .u8 k, .string oa, .string ob, .int .u8 on, .int .u8 or] 42)
              exact hK _ _ fs ⟨hC.1.then' fs, hC.2.1.fr fn id, hC.2.2.fr0 fn⟩ ⟨W.heap.size, rfl, new_row _ _ _, hC.1.size⟩
            · rw [if_pos (by decide)]
              intro a W K hC hd hK
              replace hC : (fun q ν W => Fr (AppS p (.slice A n c)) w3 W ∧ BlkAt W w.heap.size 42 #[.int .u64 op, .int .u64 view, .int .u8 cl, .int .u64 num, .int .u8 k, .string oa, .string ob, .int .u8 on, .int .u8 or] ∧ AppC w3.heap.size p b n (.slice A n c) xs (xs ++ [.int .u64 op, .int .u64 view, .int .u8 cl, .int .u64 num, .int .u8 k, .string oa, .string ob, .int .u8 on, .int .u8 or]) q (ν 29) W) 1 (fun t => a.eval (.tmp t)) W := hC
              have d26 : _ = _ := hd 26 (by decide)
              have d28 : (OneS w3.heap.size (AppS p (.slice A n c)) hS [.int .u64 op, .int .u64 view, .int .u8 cl, .int .u64 num, .int .u8 k, .string oa, .string ob, .int .u8 on, .int .u8 or]).V (a.tmps[28]?.getD undef) W := hd 28 (by decide)
              refine wpOp_plain rfl rfl ?_
              obtain ⟨y0, y1, y2, y3, y4, y5, y6, y7, y8, yf⟩ := BlkAt.c9 hC.2.1
              obtain ⟨q9, d28, hq1, hq2⟩ := d28
              refine op_app Tryd.appE (.tmp 26) (.tmp 28) rfl (.slice A n c) n xs (by rw [eval_get]; exact d26) hC.2.2.2 (some ⟨q9, 0, none⟩) 1 1 [.int .u64 op, .int .u64 view, .int .u8 cl, .int .u64 num, .int .u8 k, .string oa, .string ob, .int .u8 on, .int .u8 or] (by rw [eval_get]; exact d28) rfl hq1 hone (by simp) (by omega) (by omega) ?_
              intro A9 c9 w9 ho9 hg9 hat9
              have fg0 : Fr (fun k => (Value.slice A n c).ownBlock = some k) W w9 := (Fr.refl _ W).grown hg9 (fun k hk => Or.inl hk)
              have fg : Fr (AppS p (.slice A n c)) W w9 := fg0.mono (fun _ _ h => Or.inr h)
              have hsW := hC.1.size
              exact hK _ _ fg ⟨hC.1.then' fg, hC.2.1.fr fg hnS, hC.2.2.1.fr fg0 (fun h => (hgp _ h).2 rfl), A9, c9, rfl, ho9, fun g hg => by rcases hat9 with e9 | e9 <;> rw [e9] at hg <;> first | exact Or.inl hg | (cases hg; exact Or.inr hsW)⟩ trivial
            · rw [if_neg (by decide)]; intro kq
              intro a W K hC hd hK
              have d22 : _ = _ := hd 22 (by decide)
              refine wpOp_plain rfl rfl ?_
              go_wp2_with fail
              exact hK _ _ (Fr.refl _ _) hC rfl
            · rw [if_neg (by decide)]; intro kq
              intro a W K hC hd hK
              have d30 : _ = _ := hd 30 (by decide)
              refine wpOp_plain rfl rfl ?_
              obtain ⟨y0, y1, y2, y3, y4, y5, y6, y7, y8, yf⟩ := BlkAt.c9 hC.2.1
              go_wp2_with fail
              exact hK _ _ (Fr.refl _ _) hC rfl
            · rw [if_pos (by decide)]
              intro a W K hC hd hK
              replace hC : (fun q ν W => Fr (AppS p (.slice A n c)) w3 W ∧ BlkAt W w.heap.size 42 #[.int .u64 op, .int .u64 view, .int .u8 cl, .int .u64 num, .int .u8 k, .string oa, .string ob, .int .u8 on, .int .u8 or] ∧ AppC w3.heap.size p b n (.slice A n c) xs (xs ++ [.int .u64 op, .int .u64 view, .int .u8 cl, .int .u64 num, .int .u8 k, .string oa, .string ob, .int .u8 on, .int .u8 or]) q (ν 29) W) 2 (fun t => a.eval (.tmp t)) W := hC
              have d31 : _ = _ := hd 31 (by decide)
              have d29 : (anyv).V (a.tmps[29]?.getD undef) W := hd 29 (by decide)
              refine wpOp_plain rfl rfl ?_
              obtain ⟨y0, y1, y2, y3, y4, y5, y6, y7, y8, yf⟩ := BlkAt.c9 hC.2.1
              obtain ⟨hc1, A9, c9, hv9, ho9, hw9⟩ := hC.2.2
              have d29' : a.tmps[29]?.getD undef = .slice A9 (n + 1) c9 := by rw [← eval_get]; exact hv9
              obtain ⟨x0, x1, xf⟩ := BlkAt.c2 hc1
              have fs := fr_set1 W p 1 (.slice A9 (n + 1) c9)
              have hset := hc1.set 1 (.slice A9 (n + 1) c9)
              go_wp2_with fail
              exact hK undef _ (fs.mono (fun _ _ h => Or.inl h)) ⟨hC.1.then' (fs.mono (fun _ _ h => Or.inl h)), hC.2.1.fr fs (by unfold eqB; omega), A9, c9, hset, own_fr ho9 fs (fun g hg h => by unfold eqB at h; rcases hw9 g hg with h1 | h1 <;> first | exact (hgp g h1).2 h | omega), hw9⟩ trivial
          · intro vs w8 fw8 cw8 hV
            have v22 : vs 0 = _ := hV 0 _ _ rfl rfl (by decide)
            have v23 : vs 1 = _ := hV 1 _ _ rfl rfl (by decide)
            have v24 : vs 2 = _ := hV 2 _ _ rfl rfl (by decide)
            have v25 : vs 3 = _ := hV 3 _ _ rfl rfl (by decide)
            have v26 : vs 4 = _ := hV 4 _ _ rfl rfl (by decide)
            have v27 : vs 5 = _ := hV 5 _ _ rfl rfl (by decide)
            have v28 : (OneS w3.heap.size (AppS p (.slice A n c)) hS [.int .u64 op, .int .u64 view, .int .u8 cl, .int .u64 num, .int .u8 k, .string oa, .string ob, .int .u8 on, .int .u8 or]).V (vs 6) w8 := hV 6 _ _ rfl rfl (by decide)
            have v29 : (anyv).V (vs 7) w8 := hV 7 _ _ rfl rfl (by decide)
            have v30 : vs 8 = _ := hV 8 _ _ rfl rfl (by decide)
            have v31 : vs 9 = _ := hV 9 _ _ rfl rfl (by decide)
            clear hV
            simp only [putL, Act.put, Nat.reduceAdd, List.setIfInBounds_toArray, List.set_cons_zero, List.set_cons_succ, v22, v23, v24, v25, v26, v27, v30, v31]
            obtain ⟨A9, c9, hb9, ho9, hw9⟩ := cw8.2.2
            clear cw8
            go_wp2_with fail
            go_ret
            rw [HV.out]
            refine ⟨rfl, ⟨A9, n + 1, c9, hsn, hb9, by rw [hfl1]; exact ho9, hUp, fun g hg => ?_⟩, (F3.mono fun _ _ h => h.elim).then' (fw8.mono fun k hk h => ?_)⟩
            · rcases hw9 g hg with h1 | h1
              · exact hgp g h1
              · exact ⟨hU g (by omega), by omega⟩
            · rcases h with h1 | h1
              · subst h1; exact hUp
              · exact (hgp k h1).1
  · rw [if_pos hcv] at HV
    have t1 : ((cv : Int) != 0) = true := by rw [bne_iff_ne]; omega
    clear hcv
    go_wp2_with fail
    go_ret
    rw [HV.out]
    exact ⟨rfl, H0.fr0 F1, F1.mono fun _ _ h => h.elim⟩
end Go.Proofs.YtcaihinenfnekaaDoor
/- log: Trim, From, Copy. -/
namespace Go.Proofs.YtcaihinenfnekaaDoor
open Go.RowKit

theorem RowAt.dropE {w : World} {A : Option Addr} {xs : List Value} (h : RowAt w A xs) (k : Nat) : RowAt w (A.map (·.add k)) (xs.drop k) := fun j u hu => by
  rw [List.getElem?_drop] at hu
  obtain ⟨ad, e, hc⟩ := h _ u hu
  subst e
  exact ⟨_, rfl, by rw [add_add']; exact hc⟩
theorem flatE_drop (es : List EnV) (k : Nat) : (es.drop k).flatMap EnV.C = (es.flatMap EnV.C).drop (k * 9) := by
  induction es generalizing k with
  | nil => simp
  | cons e es ih =>
    cases k with
    | zero => simp
    | succ k =>
      have h9 : (EnV.C e).length = 9 := rfl
      have h0 : (EnV.C e).drop ((k + 1) * 9) = [] := List.drop_eq_nil_of_le (by rw [h9]; omega)
      rw [List.drop_succ_cons, ih k, List.flatMap_cons, List.drop_append, h0, List.nil_append, h9]
      congr 1; omega
theorem ownE_caps {w : World} {base n : Nat} {e : TypeId} {size : Nat} {A : Option Addr} {m c : Nat} {xs : List Value} (h : w.ownsRow base e size (.slice A m c) n xs) : m ≤ c ∧ c ≤ 9223372036854775807 ∧ (∀ ad, A = some ad → base ≤ ad.block) ∧ (A = none → m = 0 ∧ c = 0) := by
  rcases h.2 with ⟨e1, _⟩ | ⟨g, cap, cur, e1, hb, _, hc, hm, _⟩
  · injection e1 with h0 h1 h2; subst h0 h1 h2; exact ⟨Nat.le_refl _, by decide, fun _ h => (by cases h), fun _ => ⟨rfl, rfl⟩⟩
  · injection e1 with h0 h1 h2; subst h0 h1 h2; exact ⟨hc, Nat.le_trans hm (by decide), fun ad h => (by cases h; exact hb), fun h => (by cases h)⟩
/-- x[k:] of entries. -/
theorem run_sliceE (w : World) (A : Option Addr) (n c k : Nat) (kd : IntKind) (hk : k ≤ n) (hc : n ≤ c) (hA : A = none → n = 0 ∧ c = 0) (es : List EnV) (HN : Hid (es.length = n)) (hx : RowAt w A (es.flatMap EnV.C)) :
    ∃ B d, (Instr.slice 33 (.slice A n c) (some (.int kd k)) none none).run Tryd.prog w = .ok (.slice B (n - k) d) w ∧ n - k ≤ d ∧ (B = none → n - k = 0 ∧ d = 0) ∧ RowAt w B ((es.drop k).flatMap EnV.C) ∧ (∀ ad, B = some ad → ∃ a0, A = some a0 ∧ ad.block = a0.block) := by
  have hu : Tryd.prog.underlying 33 = some (.slice 42) := Tryd.underlying33
  have hs : (sizeOf 42).run Tryd.prog w = .ok 9 w := by kernel_rfl
  have hb : (0 : Int) ≤ k ∧ (k : Int) ≤ n := ⟨by omega, by omega⟩
  refine ⟨if c = k then A else A.map (·.add (k * 9)), c - k, ?_, by omega, fun h => ?_, ?_, fun ad h => ?_⟩
  · simp [Instr.slice, Instr.sliceBounds, Instr.sliceBound, asIntOf, run_underlying hu, hs, hb, go_sem]
    exact fun h => absurd h (by omega)
  · by_cases h1 : c = k
    · rw [if_pos h1] at h; have := hA h; omega
    · rw [if_neg h1] at h
      have := hA (by simpa using h)
      omega
  · by_cases h1 : c = k
    · have h2 : es.drop k = [] := List.drop_eq_nil_of_le (by rw [HN.out]; omega)
      rw [h2]; exact RowAt.nil _ _
    · rw [if_neg h1, flatE_drop]; exact hx.dropE _
  · split at h
    · exact ⟨ad, h, rfl⟩
    · cases A with
      | none => cases h
      | some a0 => simp at h; subst h; exact ⟨a0, rfl, add_block _ _⟩
/-- New entries. -/
def NewE (w : World) (es : List EnV) (e : Ending) (w' : World) : Prop :=
  ∃ A n c, e = .returned (.slice A n c) ∧ Hid (es.length = n) ∧ w'.ownsRow w.heap.size 42 9 (.slice A n c) n (es.flatMap EnV.C) ∧ Fr noB w w'
/-- Entries that lie somewhere, not in p. -/
def SubE (S : Nat → Prop) (es : List EnV) : Stb (Fr S) :=
  ⟨fun v W => ∃ B m d, v = .slice B m d ∧ es.length = m ∧ (B = none → m = 0 ∧ d = 0) ∧ RowAt W B (es.flatMap EnV.C) ∧ ∀ ad, B = some ad → ¬ S ad.block,
   fun _ _ _ ⟨B, m, d, h1, h2, h3, h4, h5⟩ f => ⟨B, m, d, h1, h2, h3, h4.fr f (fun ad e _ _ => h5 ad e), h5⟩⟩
def OwnE (n0 : Nat) (S : Nat → Prop) (hS : ∀ k, n0 ≤ k → ¬ S k) (es : List EnV) : Stb (Fr S) :=
  ⟨fun v W => ∃ A n c, v = .slice A n c ∧ Hid (es.length = n) ∧ W.ownsRow n0 42 9 (.slice A n c) n (es.flatMap EnV.C),
   fun _ _ _ ⟨A, n, c, h1, h2, h3⟩ f => ⟨A, n, c, h1, h2, own_fr h3 f (fun g hg => hS g (h3.lt g hg).1)⟩⟩
set_option maxRecDepth 100000 in
set_option maxHeartbeats 1600000 in
theorem fromL_calls (w : World) (U : Nat → Prop) (p b k : Nat) (es : List EnV) (h : LogA w U p b es) (hgd : GoodL b es) (hk : k < 18446744073709551616) :
    Calls Tryd.prog 25 #[.pointer (some ⟨p, 0, none⟩), .int .u64 k] w (NewE w (fromL b es k)) := by
  have hll := hgd.last
  have hw16 := hgd.few
  have hbb := hgd.base
  have hla := fun W (hx : LogA W U p b es) => lastL_calls W U p b es hx (by omega)
  have H0 := h
  obtain ⟨A, n, c, hn, hB, hO, hUp, hgp⟩ := h
  rw [hn.out] at hw16
  have HLA : Hid (lastL b es = b + n) := by unfold Hid lastL; rw [hn.out]
  by_cases h1 : lastL b es < k
  · have HV : Hid (fromL b es k = []) := by
      unfold Hid fromL; exact List.drop_eq_nil_of_le (by have := HLA.out; rw [hn.out]; omega)
    have t1 : decide (lastL b es < k) = true := decide_eq_true h1
    generalize lastL b es = la at *
    clear h1 hB hO hgp
    go_enter Tryd.func25, Tryd.ntmps25
    go_wp2_with fail
    refine (hla w H0).mono ?_
    rintro ed w1 ⟨rfl, f1⟩
    go_wp2_with fail
    go_ret
    rw [HV.out]
    exact ⟨none, 0, 0, rfl, rfl, World.ownsRow_nil _ _ _ _, f1⟩
  · have t1 : decide (lastL b es < k) = false := decide_eq_false h1
    obtain ⟨m, hm⟩ : ∃ m, max k (b + 1) = m := ⟨_, rfl⟩
    have HV : Hid (fromL b es k = es.drop (m - b - 1)) := by unfold Hid fromL; rw [hm]
    have hmax : max (k : Int) ((b : Int) + 1) = m := by omega
    have hm1 : b + 1 ≤ m := by omega
    have hm2 : m ≤ b + n + 1 := by have := HLA.out; omega
    have hb1 : IntKind.u64.wrap ((b : Int) + 1) = b + 1 := by rw [IntKind.wrap_u64]; omega
    have hb2 : IntKind.u64.wrap ((m : Int) - b) = (m - b : Nat) := by rw [IntKind.wrap_u64]; omega
    have hb3 : IntKind.u64.wrap (((m - b : Nat) : Int) - 1) = (m - b - 1 : Nat) := by rw [IntKind.wrap_u64]; omega
    obtain ⟨hcap1, hcap2, _, hnil⟩ := ownE_caps hO
    have hrow := own_row hO
    have hjn : m - b - 1 ≤ n := by omega
    have HD : Hid ((es.drop (m - b - 1)).length = n - (m - b - 1)) := by unfold Hid; rw [List.length_drop, hn.out]
    generalize fromL b es k = res at *
    generalize lastL b es = la at *
    generalize m - b - 1 = j at *
    generalize m - b = mb at *
    clear h1 hO hgp hm
    go_enter Tryd.func25, Tryd.ntmps25
    go_wp2_with fail
    refine (hla w H0).mono ?_
    rintro ed w1 ⟨rfl, f1⟩
    replace hB := hB.fr f1 id
    replace hrow := hrow.fr0 f1
    go_wp2_with fail
    apply wp_region_calm (R := Fr noB) (C := fun _ w' => Fr noB w1 w') [false, false, false, false, false, false, false, false, false, false, false, false, false, false, false, false, false, false, false, false]
      [eqv _, eqv _, eqv _, eqv _, eqv _, eqv _, eqv _, eqv _, eqv _, eqv _, eqv (.int .u64 m), eqv _, eqv _, eqv _, eqv _, eqv _, eqv _, SubE noB (es.drop j), OwnE w1.heap.size noB (fun _ _ h => h) (es.drop j), OwnE w1.heap.size noB (fun _ _ h => h) (es.drop j)]
      (by kernel_rfl) (by kernel_rfl) (fun _ _ _ h1 h2 => h1.then' h2) ((Fr.refl _ _).drew) ((Fr.refl _ _).drew) (by kernel_rfl)
    · refine ⟨?_, ?_, ?_, ?_, ?_, ?_, ?_, ?_, ?_, ?_, ?_, ?_, ?_, ?_, ?_, ?_, ?_, ?_, ?_, ?_, trivial⟩
      · rw [if_neg (by decide)]; intro kq
        exact calm_mv 0 rfl rfl (Or.inl rfl) (Fr.refl _) (by decide) fun v w hd => hd
      · rw [if_neg (by decide)]; intro kq
        intro a W K hC hd hK
        have d9 : _ = _ := hd 9 (by decide)
        refine wpOp_plain rfl rfl ?_
        go_wp2_with fail
        exact hK _ _ (Fr.refl _ _) hC rfl
      · rw [if_neg (by decide)]; intro kq
        intro a W K hC hd hK
        have d10 : _ = _ := hd 10 (by decide)
        refine wpOp_plain rfl rfl ?_
        obtain ⟨x0, x1, xf⟩ := BlkAt.c2 (hB.fr hC id)
        go_wp2_with fail
        exact hK _ _ (Fr.refl _ _) hC rfl
      · rw [if_neg (by decide)]; intro kq
        intro a W K hC hd hK
        have d11 : _ = _ := hd 11 (by decide)
        refine wpOp_plain rfl rfl ?_
        obtain ⟨x0, x1, xf⟩ := BlkAt.c2 (hB.fr hC id)
        go_wp2_with fail
        exact hK _ _ (Fr.refl _ _) hC rfl
      · rw [if_neg (by decide)]; intro kq
        exact calm_mv 1 rfl rfl (Or.inl rfl) (Fr.refl _) (by decide) fun v w hd => hd
      · rw [if_neg (by decide)]; intro kq
        exact calm_mv 0 rfl rfl (Or.inl rfl) (Fr.refl _) (by decide) fun v w hd => hd
      · rw [if_neg (by decide)]; intro kq
        intro a W K hC hd hK
        have d14 : _ = _ := hd 14 (by decide)
        refine wpOp_plain rfl rfl ?_
        go_wp2_with fail
        exact hK _ _ (Fr.refl _ _) hC rfl
      · rw [if_neg (by decide)]; intro kq
        intro a W K hC hd hK
        have d15 : _ = _ := hd 15 (by decide)
        refine wpOp_plain rfl rfl ?_
        obtain ⟨x0, x1, xf⟩ := BlkAt.c2 (hB.fr hC id)
        go_wp2_with fail
        exact hK _ _ (Fr.refl _ _) hC rfl
      · rw [if_neg (by decide)]; intro kq
        intro a W K hC hd hK
        have d16 : _ = _ := hd 16 (by decide)
        refine wpOp_plain rfl rfl ?_
        obtain ⟨x0, x1, xf⟩ := BlkAt.c2 (hB.fr hC id)
        go_wp2_with fail
        exact hK _ _ (Fr.refl _ _) hC rfl
      · rw [if_neg (by decide)]; intro kq
        intro a W K hC hd hK
        have d17 : _ = _ := hd 17 (by decide)
        refine wpOp_plain rfl rfl ?_
        go_wp2_with fail
        exact hK _ _ (Fr.refl _ _) hC rfl
      · rw [if_neg (by decide)]; intro kq
        intro a W K hC hd hK
        have d13 : _ = _ := hd 13 (by decide)
        have d18 : _ = _ := hd 18 (by decide)
        refine wpOp_plain rfl rfl ?_
        obtain ⟨x0, x1, xf⟩ := BlkAt.c2 (hB.fr hC id)
        go_wp2_with fail
        all_goals (refine hK _ _ (Fr.refl _ _) hC ?_; show Value.int _ _ = Value.int _ _; congr 1; omega)
      · rw [if_neg (by decide)]; intro kq
        exact calm_mv 0 rfl rfl (Or.inl rfl) (Fr.refl _) (by decide) fun v w hd => hd
      · rw [if_neg (by decide)]; intro kq
        intro a W K hC hd hK
        have d20 : _ = _ := hd 20 (by decide)
        refine wpOp_plain rfl rfl ?_
        go_wp2_with fail
        exact hK _ _ (Fr.refl _ _) hC rfl
      · rw [if_neg (by decide)]; intro kq
        intro a W K hC hd hK
        have d21 : _ = _ := hd 21 (by decide)
        refine wpOp_plain rfl rfl ?_
        obtain ⟨x0, x1, xf⟩ := BlkAt.c2 (hB.fr hC id)
        go_wp2_with fail
        exact hK _ _ (Fr.refl _ _) hC rfl
      · rw [if_neg (by decide)]; intro kq
        intro a W K hC hd hK
        have d22 : _ = _ := hd 22 (by decide)
        refine wpOp_plain rfl rfl ?_
        obtain ⟨x0, x1, xf⟩ := BlkAt.c2 (hB.fr hC id)
        go_wp2_with fail
        exact hK _ _ (Fr.refl _ _) hC rfl
      · rw [if_neg (by decide)]; intro kq
        intro a W K hC hd hK
        have d19 : a.tmps[19]?.getD undef = .int .u64 m := hd 19 (by decide)
        have d23 : _ = _ := hd 23 (by decide)
        refine wpOp_plain rfl rfl ?_
        go_wp2_with fail
        exact hK _ _ (Fr.refl _ _) hC rfl
      · rw [if_neg (by decide)]; intro kq
        intro a W K hC hd hK
        have d24 : _ = _ := hd 24 (by decide)
        refine wpOp_plain rfl rfl ?_
        go_wp2_with fail
        exact hK _ _ (Fr.refl _ _) hC rfl
      · rw [if_neg (by decide)]; intro kq
        intro a W K hC hd hK
        have d12 : _ = _ := hd 12 (by decide)
        have d25 : _ = _ := hd 25 (by decide)
        refine wpOp_plain rfl rfl ?_
        obtain ⟨B9, d9, hr9, hd9, hn9, hx9, hb9⟩ := run_sliceE W A n c j .u64 hjn hcap1 hnil es hn (hrow.fr0 hC)
        go_wp2_with fail
        exact hK _ _ (Fr.refl _ _) hC ⟨B9, n - j, d9, rfl, HD.out, hn9, hx9, fun _ _ h => h⟩
      · rw [if_neg (by decide)]; intro kq
        intro a W K hC hd hK
        have d26 : (SubE noB (es.drop j)).V (a.tmps[26]?.getD undef) W := hd 26 (by decide)
        refine wpOp_plain rfl rfl ?_
        obtain ⟨x0, x1, xf⟩ := BlkAt.c2 (hB.fr hC id)
        obtain ⟨B9, m9, d9, d26, hm9, hn9, hx9, _⟩ := d26
        have hcl := cloneE_calls W B9 m9 d9 (es.drop j) hx9 hm9 hn9 (by have := HD.out; omega)
        go_wp2_with fail
        refine hcl.mono ?_
        rintro e9 w9 ⟨A9, c9, rfl, h9, f9⟩
        exact hK _ _ f9 (hC.then' f9) ⟨A9, m9, c9, rfl, hm9, own_mono h9 (fun g hg => Nat.le_trans hC.size (h9.lt g hg).1)⟩
      · rw [if_neg (by decide)]; intro kq
        exact calm_mv 27 rfl rfl (Or.inr rfl) (Fr.refl _) (by decide) fun v w hd => hd
    · intro vs w8 fw8 cw8 hV
      have v9 : vs 0 = _ := hV 0 _ _ rfl rfl (by decide)
      have v10 : vs 1 = _ := hV 1 _ _ rfl rfl (by decide)
      have v11 : vs 2 = _ := hV 2 _ _ rfl rfl (by decide)
      have v12 : vs 3 = _ := hV 3 _ _ rfl rfl (by decide)
      have v13 : vs 4 = _ := hV 4 _ _ rfl rfl (by decide)
      have v14 : vs 5 = _ := hV 5 _ _ rfl rfl (by decide)
      have v15 : vs 6 = _ := hV 6 _ _ rfl rfl (by decide)
      have v16 : vs 7 = _ := hV 7 _ _ rfl rfl (by decide)
      have v17 : vs 8 = _ := hV 8 _ _ rfl rfl (by decide)
      have v18 : vs 9 = _ := hV 9 _ _ rfl rfl (by decide)
      have v19 : vs 10 = .int .u64 m := hV 10 _ _ rfl rfl (by decide)
      have v20 : vs 11 = _ := hV 11 _ _ rfl rfl (by decide)
      have v21 : vs 12 = _ := hV 12 _ _ rfl rfl (by decide)
      have v22 : vs 13 = _ := hV 13 _ _ rfl rfl (by decide)
      have v23 : vs 14 = _ := hV 14 _ _ rfl rfl (by decide)
      have v24 : vs 15 = _ := hV 15 _ _ rfl rfl (by decide)
      have v25 : vs 16 = _ := hV 16 _ _ rfl rfl (by decide)
      have v26 : (SubE noB (es.drop j)).V (vs 17) w8 := hV 17 _ _ rfl rfl (by decide)
      have v27 : (OwnE w1.heap.size noB (fun _ _ h => h) (es.drop j)).V (vs 18) w8 := hV 18 _ _ rfl rfl (by decide)
      have v4 : (OwnE w1.heap.size noB (fun _ _ h => h) (es.drop j)).V (vs 19) w8 := hV 19 _ _ rfl rfl (by decide)
      clear hV
      simp only [putL, Act.put, Nat.reduceAdd, List.setIfInBounds_toArray, List.set_cons_zero, List.set_cons_succ, v9, v10, v11, v12, v13, v14, v15, v16, v17, v18, v19, v20, v21, v22, v23, v24, v25]
      obtain ⟨A8, m8, c8, e8, hm8, h8⟩ := v4
      have F8 := f1.then' fw8
      have hs1 := f1.size
      rw [e8]
      clear cw8 v26 v27 e8
      go_wp2_with fail
      go_ret
      rw [HV.out]
      exact ⟨A8, m8, c8, rfl, hm8, own_mono h8 (fun g hg => Nat.le_trans hs1 (h8.lt g hg).1), F8⟩


/-! ### Trim -/
def TrimC (n0 p b : Nat) (v : Value) (ys : List EnV) : Nat → World → Prop
  | 0, W => BlkAt W p 120 #[.int .u64 b, v]
  | 1, W => BlkAt W p 120 #[.int .u64 b, v]
  | _, W => ∃ A n c, Hid (ys.length = n) ∧ BlkAt W p 120 #[.int .u64 b, .slice A n c] ∧ W.ownsRow n0 42 9 (.slice A n c) n (ys.flatMap EnV.C)
theorem TrimC.fr0 {n0 p b : Nat} {v : Value} {ys : List EnV} {q : Nat} {W W' : World} (h : TrimC n0 p b v ys q W) (f : Fr noB W W') : TrimC n0 p b v ys q W' := by
  match q, h with
  | 0, h => exact BlkAt.fr h f id
  | 1, h => exact BlkAt.fr h f id
  | q + 2, h => obtain ⟨A, n, c, h1, h2, h3⟩ := h; exact ⟨A, n, c, h1, h2.fr f id, own_fr h3 f (fun _ _ => id)⟩
theorem TrimC.blk {n0 p b : Nat} {v : Value} {ys : List EnV} {q : Nat} {W : World} (h : TrimC n0 p b v ys q W) : ∃ u, BlkAt W p 120 #[.int .u64 b, u] := by
  match q, h with
  | 0, h => exact ⟨_, h⟩
  | 1, h => exact ⟨_, h⟩
  | q + 2, h => obtain ⟨A, n, c, _, h2, _⟩ := h; exact ⟨_, h2⟩
set_option maxRecDepth 100000 in
set_option maxHeartbeats 1600000 in
theorem trimL_calls (w : World) (U : Nat → Prop) (p b t : Nat) (es : List EnV) (h : LogA w U p b es) (hU : ∀ k, w.heap.size ≤ k → U k) (hgd : GoodL b es) (htt : t < 18446744073709551616) :
    Calls Tryd.prog 27 #[.pointer (some ⟨p, 0, none⟩), .int .u64 t] w
      (fun ed w' => ed = .returned (.int .i64 ((trimL b es t).2 : Nat)) ∧ LogA w' U p (trimL b es t).1.1 (trimL b es t).1.2 ∧ Fr (eqB p) w w') := by
  have hll := hgd.last
  have hw16 := hgd.few
  have hla := fun W (hx : LogA W U p b es) => lastL_calls W U p b es hx (by omega)
  have H0 := h
  obtain ⟨A, n, c, hn, hB, hO, hUp, hgp⟩ := h
  rw [hn.out] at hw16
  have HLA : Hid (lastL b es = b + n) := by unfold Hid lastL; rw [hn.out]
  have HV : Hid (trimL b es t = if t < b ∨ lastL b es < t then ((b, es), 1) else ((t, es.drop (t - b)), 0)) := rfl
  obtain ⟨c1, hc1⟩ : ∃ c, decide (t < b) = c := ⟨_, rfl⟩
  obtain ⟨c2, hc2⟩ : ∃ c, decide (lastL b es < t) = c := ⟨_, rfl⟩
  have hd : Hid ((c1 = true ∨ c2 = true) ↔ (t < b ∨ lastL b es < t)) := by unfold Hid; rw [← hc1, ← hc2, decide_eq_true_eq, decide_eq_true_eq]
  obtain ⟨hcap1, hcap2, _, hnil⟩ := ownE_caps hO
  have hrow := own_row hO
  have hplt := hB.lt
  generalize trimL b es t = res at *
  generalize lastL b es = la at *
  cases c1 with
  | true =>
    rw [if_pos (hd.out.1 (Or.inl rfl))] at HV
    obtain ⟨x0, x1, xf⟩ := BlkAt.c2 hB
    clear hd hB hO hrow
    go_enter Tryd.func27, Tryd.ntmps27
    go_wp2_with fail
    go_ret
    rw [HV.out]
    exact ⟨rfl, H0, Fr.refl _ _⟩
  | false =>
    cases c2 with
    | true =>
      rw [if_pos (hd.out.1 (Or.inr rfl))] at HV
      obtain ⟨x0, x1, xf⟩ := BlkAt.c2 hB
      clear hd hB hO hrow
      go_enter Tryd.func27, Tryd.ntmps27
      go_wp2_with fail
      refine (hla w H0).mono ?_
      rintro ed w1 ⟨rfl, f1⟩
      go_wp2_with fail
      go_ret
      rw [HV.out]
      exact ⟨rfl, H0.fr0 f1, f1.mono fun _ _ h => h.elim⟩
    | false =>
      have hno : ¬ (t < b ∨ la < t) := fun h => by rcases hd.out.2 h with h | h <;> cases h
      rw [if_neg hno] at HV
      obtain ⟨x0, x1, xf⟩ := BlkAt.c2 hB
      have hbt : b ≤ t ∧ t ≤ b + n := by have := HLA.out; omega
      obtain ⟨j, hj⟩ : ∃ j, t - b = j := ⟨_, rfl⟩
      rw [hj] at HV
      have hb2 : IntKind.u64.wrap ((t : Int) - b) = j := by rw [IntKind.wrap_u64]; omega
      have hjn : j ≤ n := by omega
      have HD : Hid ((es.drop j).length = n - j) := by unfold Hid; rw [List.length_drop, hn.out]
      clear hd hno hj
      go_enter Tryd.func27, Tryd.ntmps27
      go_wp2_with fail
      refine (hla w H0).mono ?_
      rintro ed w1 ⟨rfl, f1⟩
      clear x0 x1 xf
      replace hB := hB.fr f1 id
      replace hrow := hrow.fr0 f1
      have hs1 := f1.size
      have hS : ∀ k, w1.heap.size ≤ k → ¬ eqB p k := fun k hk h => by unfold eqB at h; omega
      have hAp : ∀ ad, A = some ad → ¬ eqB p ad.block := fun ad e h => (hgp ad.block (by subst e; rfl)).2 h
      go_wp2_with fail
      apply wp_region_calm (R := Fr (eqB p)) (C := fun q W => Fr (eqB p) w1 W ∧ RowAt W A (es.flatMap EnV.C) ∧ TrimC w1.heap.size p b (.slice A n c) (es.drop j) q W) [false, false, false, false, true, false, false, false, false, false, false, false, false, false, false, true]
        [eqv _, eqv _, eqv _, eqv _, eqv _, eqv _, eqv _, eqv _, eqv _, eqv _, eqv _, SubE (eqB p) (es.drop j), OwnE w1.heap.size (eqB p) hS (es.drop j), eqv _, eqv _, anyv]
        (by kernel_rfl) (by kernel_rfl) (fun _ _ _ h1 h2 => h1.then' h2) ((Fr.refl _ _).drew) ⟨(Fr.refl _ _).drew, hrow, hB⟩ (by kernel_rfl)
      · refine ⟨?_, ?_, ?_, ?_, ?_, ?_, ?_, ?_, ?_, ?_, ?_, ?_, ?_, ?_, ?_, ?_, trivial⟩
        · rw [if_neg (by decide)]; intro kq
          exact calm_mv 0 rfl rfl (Or.inl rfl) (Fr.refl _) (by decide) fun v w hd => hd
        · rw [if_neg (by decide)]; intro kq
          exact calm_mv 0 rfl rfl (Or.inl rfl) (Fr.refl _) (by decide) fun v w hd => hd
        · rw [if_neg (by decide)]; intro kq
          intro a W K hC hd hK
          have d18 : _ = _ := hd 18 (by decide)
          refine wpOp_plain rfl rfl ?_
          go_wp2_with fail
          exact hK _ _ (Fr.refl _ _) hC rfl
        · rw [if_neg (by decide)]; intro kq
          intro a W K hC hd hK
          have d19 : _ = _ := hd 19 (by decide)
          refine wpOp_plain rfl rfl ?_
          obtain ⟨vq, hbq⟩ := hC.2.2.blk
          obtain ⟨x0, x1, xf⟩ := BlkAt.c2 hbq
          go_wp2_with fail
          exact hK _ _ (Fr.refl _ _) hC rfl
        · rw [if_pos (by decide)]
          intro a W K hC hd hK
          replace hC : (fun q W => Fr (eqB p) w1 W ∧ RowAt W A (es.flatMap EnV.C) ∧ TrimC w1.heap.size p b (.slice A n c) (es.drop j) q W) 0 W := hC
          have d20 : _ = _ := hd 20 (by decide)
          refine wpOp_plain rfl rfl ?_
          obtain ⟨vq, hbq⟩ := hC.2.2.blk
          obtain ⟨x0, x1, xf⟩ := BlkAt.c2 hbq
          clear x0 x1 xf hbq
          obtain ⟨x0, x1, xf⟩ := BlkAt.c2 hC.2.2
          go_wp2_with fail
          exact hK _ _ (Fr.refl _ _) hC rfl
        · rw [if_neg (by decide)]; intro kq
          exact calm_mv 1 rfl rfl (Or.inl rfl) (Fr.refl _) (by decide) fun v w hd => hd
        · rw [if_neg (by decide)]; intro kq
          exact calm_mv 0 rfl rfl (Or.inl rfl) (Fr.refl _) (by decide) fun v w hd => hd
        · rw [if_neg (by decide)]; intro kq
          intro a W K hC hd hK
          have d23 : _ = _ := hd 23 (by decide)
          refine wpOp_plain rfl rfl ?_
          go_wp2_with fail
          exact hK _ _ (Fr.refl _ _) hC rfl
        · rw [if_neg (by decide)]; intro kq
          intro a W K hC hd hK
          have d24 : _ = _ := hd 24 (by decide)
          refine wpOp_plain rfl rfl ?_
          obtain ⟨vq, hbq⟩ := hC.2.2.blk
          obtain ⟨x0, x1, xf⟩ := BlkAt.c2 hbq
          go_wp2_with fail
          exact hK _ _ (Fr.refl _ _) hC rfl
        · rw [if_neg (by decide)]; intro kq
          intro a W K hC hd hK
          have d25 : _ = _ := hd 25 (by decide)
          refine wpOp_plain rfl rfl ?_
          obtain ⟨vq, hbq⟩ := hC.2.2.blk
          obtain ⟨x0, x1, xf⟩ := BlkAt.c2 hbq
          go_wp2_with fail
          exact hK _ _ (Fr.refl _ _) hC rfl
        · rw [if_neg (by decide)]; intro kq
          intro a W K hC hd hK
          have d22 : _ = _ := hd 22 (by decide)
          have d26 : _ = _ := hd 26 (by decide)
          refine wpOp_plain rfl rfl ?_
          go_wp2_with fail
          exact hK _ _ (Fr.refl _ _) hC rfl
        · rw [if_neg (by decide)]; intro kq
          intro a W K hC hd hK
          have d21 : _ = _ := hd 21 (by decide)
          have d27 : _ = _ := hd 27 (by decide)
          refine wpOp_plain rfl rfl ?_
          obtain ⟨B9, d9, hr9, hd9, hn9, hx9, hb9⟩ := run_sliceE W A n c j .u64 hjn hcap1 hnil es hn hC.2.1
          go_wp2_with fail
          exact hK _ _ (Fr.refl _ _) hC ⟨B9, n - j, d9, rfl, HD.out, hn9, hx9, fun ad e h => by obtain ⟨a0, e0, e1⟩ := hb9 ad e; rw [e1] at h; exact hAp a0 e0 h⟩
        · rw [if_neg (by decide)]; intro kq
          intro a W K hC hd hK
          have d28 : (SubE (eqB p) (es.drop j)).V (a.tmps[28]?.getD undef) W := hd 28 (by decide)
          refine wpOp_plain rfl rfl ?_
          obtain ⟨vq, hbq⟩ := hC.2.2.blk
          obtain ⟨x0, x1, xf⟩ := BlkAt.c2 hbq
          obtain ⟨B9, m9, d9, d28, hm9, hn9, hx9, _⟩ := d28
          have hcl := cloneE_calls W B9 m9 d9 (es.drop j) hx9 hm9 hn9 (by have := HD.out; omega)
          go_wp2_with fail
          refine hcl.mono ?_
          rintro e9 w9 ⟨A9, c9, rfl, h9, f9⟩
          exact hK _ _ (f9.mono fun _ _ h => h.elim) ⟨hC.1.then' (f9.mono fun _ _ h => h.elim), hC.2.1.fr0 f9, hC.2.2.fr0 f9⟩ ⟨A9, m9, c9, rfl, hm9, own_mono h9 (fun g hg => Nat.le_trans hC.1.size (h9.lt g hg).1)⟩
        · rw [if_neg (by decide)]; intro kq
          intro a W K hC hd hK
          have d17 : _ = _ := hd 17 (by decide)
          refine wpOp_plain rfl rfl ?_
          go_wp2_with fail
          exact hK _ _ (Fr.refl _ _) hC rfl
        · rw [if_neg (by decide)]; intro kq
          intro a W K hC hd hK
          have d30 : _ = _ := hd 30 (by decide)
          refine wpOp_plain rfl rfl ?_
          obtain ⟨vq, hbq⟩ := hC.2.2.blk
          obtain ⟨x0, x1, xf⟩ := BlkAt.c2 hbq
          go_wp2_with fail
          exact hK _ _ (Fr.refl _ _) hC rfl
        · rw [if_pos (by decide)]
          intro a W K hC hd hK
          replace hC : (fun q W => Fr (eqB p) w1 W ∧ RowAt W A (es.flatMap EnV.C) ∧ TrimC w1.heap.size p b (.slice A n c) (es.drop j) q W) 1 W := hC
          have d31 : _ = _ := hd 31 (by decide)
          have d29 : (OwnE w1.heap.size (eqB p) hS (es.drop j)).V (a.tmps[29]?.getD undef) W := hd 29 (by decide)
          refine wpOp_plain rfl rfl ?_
          obtain ⟨vq, hbq⟩ := hC.2.2.blk
          obtain ⟨x0, x1, xf⟩ := BlkAt.c2 hbq
          obtain ⟨A9, m9, c9, d29, hm9, ho9⟩ := d29
          clear x0 x1 xf hbq
          obtain ⟨x0, x1, xf⟩ := BlkAt.c2 hC.2.2
          have fs := fr_set1 W p 1 (.slice A9 m9 c9)
          have hset := BlkAt.set hC.2.2 1 (.slice A9 m9 c9)
          go_wp2_with fail
          exact hK undef _ fs ⟨hC.1.then' fs, hC.2.1.fr fs (fun ad e h0 _ => hAp ad e), A9, m9, c9, hm9, hset, own_fr ho9 fs (fun g hg => hS g (ho9.lt g hg).1)⟩ trivial
      · intro vs w8 fw8 cw8 hV
        have v17 : vs 0 = _ := hV 0 _ _ rfl rfl (by decide)
        have v18 : vs 1 = _ := hV 1 _ _ rfl rfl (by decide)
        have v19 : vs 2 = _ := hV 2 _ _ rfl rfl (by decide)
        have v20 : vs 3 = _ := hV 3 _ _ rfl rfl (by decide)
        have v21 : vs 4 = _ := hV 4 _ _ rfl rfl (by decide)
        have v22 : vs 5 = _ := hV 5 _ _ rfl rfl (by decide)
        have v23 : vs 6 = _ := hV 6 _ _ rfl rfl (by decide)
        have v24 : vs 7 = _ := hV 7 _ _ rfl rfl (by decide)
        have v25 : vs 8 = _ := hV 8 _ _ rfl rfl (by decide)
        have v26 : vs 9 = _ := hV 9 _ _ rfl rfl (by decide)
        have v27 : vs 10 = _ := hV 10 _ _ rfl rfl (by decide)
        have v28 : (SubE (eqB p) (es.drop j)).V (vs 11) w8 := hV 11 _ _ rfl rfl (by decide)
        have v29 : (OwnE w1.heap.size (eqB p) hS (es.drop j)).V (vs 12) w8 := hV 12 _ _ rfl rfl (by decide)
        have v30 : vs 13 = _ := hV 13 _ _ rfl rfl (by decide)
        have v31 : vs 14 = _ := hV 14 _ _ rfl rfl (by decide)
        clear hV
        simp only [putL, Act.put, Nat.reduceAdd, List.setIfInBounds_toArray, List.set_cons_zero, List.set_cons_succ, v17, v18, v19, v20, v21, v22, v23, v24, v25, v26, v27, v30, v31]
        obtain ⟨A9, m9, c9, hm9, hb9, ho9⟩ := cw8.2.2
        have F8 := (f1.mono (T := eqB p) fun _ _ h => h.elim).then' fw8
        obtain ⟨x0, x1, xf⟩ := BlkAt.c2 hb9
        have fs := fr_set1 w8 p 0 (.int .u64 t)
        have hset := hb9.set 0 (.int .u64 t)
        clear cw8
        go_wp2_with fail
        go_ret
        rw [HV.out]
        refine ⟨rfl, ⟨A9, m9, c9, hm9, hset, own_fr (own_mono ho9 (fun _ _ => Nat.zero_le _)) fs (fun g hg => hS g (ho9.lt g hg).1), hUp, fun g hg => ⟨hU g (by have := (ho9.lt g hg).1; omega), fun e => hS g (ho9.lt g hg).1 e⟩⟩, F8.then' fs⟩
end Go.Proofs.YtcaihinenfnekaaDoor
/- Entries compared. -/
namespace Go.Proofs.YtcaihinenfnekaaDoor
open Go.RowKit
theorem bytes_list (s t : ByteArray) : (s.toList = t.toList) = (s = t) := by
  have := str_eq s t
  apply propext
  constructor
  · intro h; rw [h] at this; simpa using this.symm
  · intro h; rw [h]
theorem nat_int (a b : Nat) : ((a : Int) = b) = (a = b) := propext ⟨fun h => by omega, fun h => by omega⟩
open Classical in
theorem enNeq (w : World) (e f : EnV) : (binOp .neq 42 e.v f.v).run Tryd.prog w = .ok (.bool (!decide (e = f))) w := by
  have h1 : Tryd.prog.stoodInHeld 42 = false := by kernel_rfl
  have h2 : Tryd.prog.underlying 42 = some (.struct (Tryd.prog.fieldsOf 42)) := by kernel_rfl
  have g1 : Tryd.prog.stoodInHeld 40 = false := by kernel_rfl
  have g2 : Tryd.prog.underlying 40 = some (.struct (Tryd.prog.fieldsOf 40)) := by kernel_rfl
  have k1 : Tryd.prog.stoodInHeld 38 = false := by kernel_rfl
  have k2 : Tryd.prog.underlying 38 = some (.struct (Tryd.prog.fieldsOf 38)) := by kernel_rfl
  unfold EnV.v
  rw [run_neq_struct, run_equalIn_struct w 9999 _ _ _ h2 h1]
  simp only [Program.fieldsOf, Tryd.underlying42]
  simp [go_sem]
  simp only [bytes_list, nat_int]
  by_cases h : e = f
  · subst h; simp
  · simp only [h, decide_false, Bool.not_false]
    repeat' split
    all_goals first | rfl | (exfalso; apply h; rw [EnV.eq_iff, OpV.eq_iff]; simp_all)
open Classical in
theorem enNeqR (w : World) (e f : EnV) : (binOp .neq 90 e.v f.v).run Tryd.prog w = .ok (.bool (!decide (e = f))) w := by
  have h1 : Tryd.prog.stoodInHeld 90 = false := by kernel_rfl
  have h2 : Tryd.prog.underlying 90 = some (.struct (Tryd.prog.fieldsOf 90)) := by kernel_rfl
  have g1 : Tryd.prog.stoodInHeld 88 = false := by kernel_rfl
  have g2 : Tryd.prog.underlying 88 = some (.struct (Tryd.prog.fieldsOf 88)) := by kernel_rfl
  have k1 : Tryd.prog.stoodInHeld 69 = false := by kernel_rfl
  have k2 : Tryd.prog.underlying 69 = some (.struct (Tryd.prog.fieldsOf 69)) := by kernel_rfl
  unfold EnV.v
  rw [run_neq_struct, run_equalIn_struct w 9999 _ _ _ h2 h1]
  simp only [Program.fieldsOf, Tryd.underlying90]
  simp [go_sem]
  simp only [bytes_list, nat_int]
  by_cases h : e = f
  · subst h; simp
  · simp only [h, decide_false, Bool.not_false]
    repeat' split
    all_goals first | rfl | (exfalso; apply h; rw [EnV.eq_iff, OpV.eq_iff]; simp_all)
theorem Tryd.gE : Tryd.prog.eqGuardType Tryd.prog.depth 42 = false := by kernel_rfl
theorem Tryd.gR : Tryd.prog.eqGuardType Tryd.prog.depth 90 = false := by kernel_rfl
end Go.Proofs.YtcaihinenfnekaaDoor
/- interrexlaw20.lives; entries in a row that is read. -/
namespace Go.Proofs.YtcaihinenfnekaaDoor
open Go.RowKit

def opUp : OpV := ⟨15, ⟨#[]⟩, ⟨#[]⟩, 0, 0⟩
theorem opUp_wf : opUp.wf := ⟨by decide, by decide, by decide⟩
theorem opUp_bytes : writeB opUp (zOf opUp) = [15] := by decide
theorem opUp_ok : checkV opUp = 0 := by
  unfold checkV
  have h0 : bareFrom opUp (zOf opUp) = opUp := by rw [OpV.eq_iff]; exact ⟨rfl, rfl, rfl, rfl, rfl⟩
  have h1 : bareB opUp = true := by unfold bareB; rw [h0]; simp
  rw [if_neg (by decide), if_neg (by rw [h1]; decide), if_neg (by decide), if_neg (by decide), opUp_bytes, if_neg (by decide)]
theorem oneE_ok {n : Nat} (h1 : 1 ≤ n) (h2 : n ≤ 1099511627776) : checkE (oneE n) = 0 := by
  unfold checkE
  have h3 : checkV (oneE n).o = 0 := opUp_ok
  have e1 : (oneE n).op = n := rfl
  have e2 : (oneE n).view = 0 := rfl
  have e3 : (oneE n).cl = 1 := rfl
  have e4 : (oneE n).num = n := rfl
  rw [e1, e2, e3, e4, h3, if_neg (by omega), if_neg (by decide), if_neg (by omega)]
theorem oneE_wf {n : Nat} (h2 : n < 18446744073709551616) : (oneE n).wf := ⟨h2, by show (0 : Nat) < 18446744073709551616; decide, by show (1 : Nat) < 256; decide, h2, opUp_wf⟩
theorem oneE_a (n : Nat) : (oneE n).o.a.size = 0 := rfl
theorem oneE_b (n : Nat) : (oneE n).o.b.size = 0 := rfl
theorem appL_one {b : Nat} {es : List EnV} (h : GoodL b es) (hl : lastL b es < 1099511627776) : appL b es (oneE (lastL b es + 1)) = if 16 ≤ es.length then (es, 7) else (es ++ [oneE (lastL b es + 1)], 0) := by
  unfold appL
  rw [if_neg (by rw [oneE_ok (by omega) (by omega)]; decide), if_neg (fun h => h rfl)]
set_option maxRecDepth 100000 in
set_option maxHeartbeats 1600000 in
theorem lives20_calls (w : World) (ht : SignsAt w) : Calls Tryd.prog 21 #[] w (BoolPost w true) := by
  have hg0 : GoodL 4 [] := GoodL.new (by decide)
  have hn := newL_calls w 4
  have hm : min 4 1099511627776 = 4 := by decide
  rw [hm] at hn
  have ha0 : appL 4 [] (oneE 5) = ([oneE 5], 0) := by
    have := appL_one hg0 (by decide); simpa [lastL] using this
  have hg1 : GoodL 4 [oneE 5] := by have := hg0.app (oneE_wf (n := 5) (by decide)); rwa [ha0] at this
  have ha1 : appL 4 [oneE 5] (oneE 7) = ([oneE 5], 12) := by
    unfold appL
    rw [if_neg (by rw [oneE_ok (by omega) (by omega)]; decide), if_pos (by show 7 ≠ 4 + 1 + 1; decide)]
  have hc0 := fun W hT h hU => appL_calls W (upB w.heap.size) w.heap.size 4 [] (oneE 5) hT h hU hg0 (oneE_wf (by decide)) (by rw [oneE_a]; decide) (by rw [oneE_b]; decide)
  have hc1 := fun W hT h hU => appL_calls W (upB w.heap.size) w.heap.size 4 [oneE 5] (oneE 7) hT h hU hg1 (oneE_wf (by decide)) (by rw [oneE_a]; decide) (by rw [oneE_b]; decide)
  have hl := fun W h => lastL_calls W (upB w.heap.size) w.heap.size 4 [oneE 5] h (by decide)
  have hll : lastL 4 [oneE 5] = 5 := rfl
  have h5 := fun W => one_calls W 5
  have h7 := fun W => one_calls W 7
  rw [ha0] at hc0
  rw [ha1] at hc1
  rw [hll] at hl
  generalize (oneE 5) = e5 at *
  generalize (oneE 7) = e7 at *
  clear ha0 ha1 hg0 hg1 hll hm
  obtain ⟨o5, v5, c5, n5, k5, a5, b5, m5, r5⟩ := e5
  obtain ⟨o7, v7, c7, n7, k7, a7, b7, m7, r7⟩ := e7
  unfold EnV.v at *
  simp only [] at *
  go_enter Tryd.func21, Tryd.ntmps21
  go_wp2_with fail
  refine hn.mono ?_
  rintro e w1 ⟨rfl, hL1, f1⟩
  have hs1 := f1.size
  go_wp2_with fail
  refine (h5 w1).mono ?_
  rintro e w2 ⟨rfl, f2⟩
  have F2 := f1.then' f2
  have hs2 := F2.size
  go_wp2_with fail
  refine (hc0 w2 (ht.fr0 F2) (hL1.fr0 f2) (fun k hk => by unfold upB; omega)).mono ?_
  rintro e w3 ⟨rfl, hL3, f3⟩
  have F3 : Fr noB w w3 := F2.trans f3 (fun i hi h => by unfold upB at h; omega)
  clear hc0 f1 f2 f3 h5 hn
  go_wp2_with fail
  refine (hl w3 hL3).mono ?_
  rintro e w4 ⟨rfl, f4⟩
  have F4 := F3.then' f4
  go_wp2_with fail
  refine (h7 w4).mono ?_
  rintro e w5 ⟨rfl, f5⟩
  have F5 := F4.then' f5
  have hs5 := F5.size
  go_wp2_with fail
  refine (hc1 w5 (ht.fr0 F5) ((hL3.fr0 f4).fr0 f5) (fun k hk => by unfold upB; omega)).mono ?_
  rintro e w6 ⟨rfl, hL6, f6⟩
  have F6 : Fr noB w w6 := F5.trans f6 (fun i hi h => by unfold upB at h; omega)
  go_wp2_with fail
  go_ret
  exact BoolPost.mk' rfl F6
theorem fromL_zero (b : Nat) (es : List EnV) : fromL b es 0 = es := by
  unfold fromL
  rw [show max 0 (b + 1) - b - 1 = 0 from by omega]; rfl
theorem trimL_at {b k : Nat} {es : List EnV} (h : k ≤ es.length) : trimL b es (b + k) = ((b + k, es.drop k), 0) := by
  unfold trimL lastL
  rw [if_neg (by omega), show b + k - b = k from by omega]
end Go.Proofs.YtcaihinenfnekaaDoor
/- The reference's logs: Last, From, Trim; interrexlaw17.Ref, interrexlaw19.Ref, Same. -/
namespace Go.Proofs.YtcaihinenfnekaaDoor
open Go.RowKit

theorem Tryd.appER : AppTy Tryd.prog 52 90 (.agg #[.int .u64 0, .int .u64 0, .int .u8 0, .int .u64 0, .int .u8 0, .string ⟨#[]⟩, .string ⟨#[]⟩, .int .u8 0, .int .u8 0]) 9 80 := ⟨Tryd.underlying52, by kernel_rfl, rfl, by decide⟩
/-- A slice value of the reference that reads as these entries. -/
structure RefA (w : World) (A : Option Addr) (n c : Nat) (es : List EnV) : Prop where
  len : Hid (es.length = n)
  cap : n ≤ c
  nil : A = none → n = 0 ∧ c = 0
  row : RowAt w A (es.flatMap EnV.C)
theorem RefA.fr0 {w w' : World} {A : Option Addr} {n c : Nat} {es : List EnV} (h : RefA w A n c es) (f : Fr noB w w') : RefA w' A n c es := ⟨h.len, h.cap, h.nil, h.row.fr0 f⟩
theorem RefA.of_own {w : World} {base : Nat} {A : Option Addr} {n c : Nat} {es : List EnV} {T : TypeId} (hn : Hid (es.length = n)) (h : w.ownsRow base T 9 (.slice A n c) n (es.flatMap EnV.C)) : RefA w A n c es := by
  obtain ⟨h1, h2, h3, h4⟩ := ownE_caps h
  exact ⟨hn, h1, h4, own_row h⟩
/-- The row is the one that was there, or lies in a new block of entries. -/
def Placed (w w' : World) (A B : Option Addr) : Prop := B = A ∨ ∀ ad, B = some ad → w.heap.size ≤ ad.block ∧ ∃ C fz, w'.heap[ad.block]? = some (.cells C 90 fz)
theorem Placed.lt {w w' : World} {A B : Option Addr} (h : Placed w w' A B) (hs : w.heap.size ≤ w'.heap.size) (hA : ∀ ad, A = some ad → ad.block < w.heap.size) : ∀ ad, B = some ad → ad.block < w'.heap.size := fun ad e => by
  rcases h with rfl | h
  · have := hA ad e; omega
  · obtain ⟨_, C, fz, h2⟩ := h ad e
    exact (Array.getElem?_eq_some_iff.1 h2).1
theorem Placed.of_own {w0 w w' : World} {A B : Option Addr} {n c : Nat} {xs : List Value} (h : w'.ownsRow w.heap.size 90 9 (.slice B n c) n xs) (hs : w0.heap.size ≤ w.heap.size) : Placed w0 w' A B := Or.inr fun ad e => by
  rcases h.2 with ⟨e1, _⟩ | ⟨g, cap, cur, e1, hb, hg, _⟩
  · injection e1 with e1; subst e1; cases e
  · injection e1 with e1; subst e1; cases e; exact ⟨Nat.le_trans hs hb, _, _, hg⟩
theorem RefA.none (w : World) : RefA w none 0 0 [] := ⟨rfl, Nat.le_refl _, fun _ => ⟨rfl, rfl⟩, RowAt.nil _ _⟩
set_option maxRecDepth 100000 in
theorem lastR_calls (w : World) (b n c : Nat) (A : Option Addr) (hl : b + n < 18446744073709551616) : Calls Tryd.prog 45 #[.agg #[.int .u64 b, .slice A n c]] w (fun e w' => e = .returned (.int .u64 (b + n : Nat)) ∧ Fr noB w w') := by
  have hb := BlkAt.new w #[.int .u64 b, .slice A n c] 54
  have f := (Fr.refl noB w).alloc (.cells #[.int .u64 b, .slice A n c] 54)
  have hw : IntKind.u64.wrap (n : Int) = n := by rw [IntKind.wrap_u64]; omega
  have hw2 : IntKind.u64.wrap ((b : Int) + n) = (b + n : Nat) := by rw [IntKind.wrap_u64]; omega
  go_enter Tryd.func45, Tryd.ntmps45
  go_upto_region 1 with fail
  generalize w.alloc (.cells #[.int .u64 b, .slice A n c] 54) = wa at *
  obtain ⟨x0, x1, xf⟩ := BlkAt.c2 hb
  go_wp2_with fail
  go_ret
  exact ⟨rfl, f⟩
set_option maxRecDepth 100000 in
theorem ref17_calls (w : World) (cl num k on or : Nat) (oa ob : ByteArray) : Calls Tryd.prog 92 #[.agg #[.int .u8 cl, .int .u64 num, .int .u8 k, .string oa, .string ob, .int .u8 on, .int .u8 or]] w (fun e w' => e = .returned (.agg #[.int .u8 cl, .int .u64 num, .int .u8 k, .string oa, .string ob, .int .u8 on, .int .u8 or]) ∧ Fr noB w w') := by
  have f0 : Fr noB w ((w.alloc (.cells #[.int .u8 cl, .int .u64 num, .int .u8 k, .string oa, .string ob, .int .u8 on, .int .u8 or] 40)).alloc (.cells #[.int .u8 0, .int .u64 0, .int .u8 0, .string ⟨#[]⟩, .string ⟨#[]⟩, .int .u8 0, .int .u8 0] 88)) := ((Fr.refl noB w).alloc _).alloc _
  have hb0 : BlkAt ((w.alloc (.cells #[.int .u8 cl, .int .u64 num, .int .u8 k, .string oa, .string ob, .int .u8 on, .int .u8 or] 40)).alloc (.cells #[.int .u8 0, .int .u64 0, .int .u8 0, .string ⟨#[]⟩, .string ⟨#[]⟩, .int .u8 0, .int .u8 0] 88)) w.heap.size 40 #[.int .u8 cl, .int .u64 num, .int .u8 k, .string oa, .string ob, .int .u8 on, .int .u8 or] := (BlkAt.new _ _ _).al _
  have hb1 : BlkAt ((w.alloc (.cells #[.int .u8 cl, .int .u64 num, .int .u8 k, .string oa, .string ob, .int .u8 on, .int .u8 or] 40)).alloc (.cells #[.int .u8 0, .int .u64 0, .int .u8 0, .string ⟨#[]⟩, .string ⟨#[]⟩, .int .u8 0, .int .u8 0] 88)) (w.heap.size + 1) 88 #[.int .u8 0, .int .u64 0, .int .u8 0, .string ⟨#[]⟩, .string ⟨#[]⟩, .int .u8 0, .int .u8 0] := by
    have := BlkAt.new (w.alloc (.cells #[.int .u8 cl, .int .u64 num, .int .u8 k, .string oa, .string ob, .int .u8 on, .int .u8 or] 40)) #[.int .u8 0, .int .u64 0, .int .u8 0, .string ⟨#[]⟩, .string ⟨#[]⟩, .int .u8 0, .int .u8 0] 88
    rwa [al_size] at this
  have hr : Hid (Tryd.f92.results = #[.cell 2 88]) := by unfold Hid; kernel_rfl
  go_enter Tryd.func92, Tryd.ntmps92
  go_upto_region 1 with fail
  generalize ((w.alloc (.cells #[.int .u8 cl, .int .u64 num, .int .u8 k, .string oa, .string ob, .int .u8 on, .int .u8 or] 40)).alloc (.cells #[.int .u8 0, .int .u64 0, .int .u8 0, .string ⟨#[]⟩, .string ⟨#[]⟩, .int .u8 0, .int .u8 0] 88)) = wa at *
  obtain ⟨x0, x1, x2, x3, x4, x5, x6, xf⟩ := BlkAt.c7 hb0
  obtain ⟨y0, y1, y2, y3, y4, y5, y6, yf⟩ := BlkAt.c7 hb1
  go_wp2_with fail
  have hr := hr.out
  have FF : Fr noB w _ := f0.trans ((((((((Fr.refl (eqB (w.heap.size + 1)) wa).setCell (p := ⟨w.heap.size + 1, 0, none⟩) (Or.inl rfl) (.int .u8 cl)).setCell (p := ⟨w.heap.size + 1, 1, none⟩) (Or.inl rfl) (.int .u64 num)).setCell (p := ⟨w.heap.size + 1, 2, none⟩) (Or.inl rfl) (.int .u8 k)).setCell (p := ⟨w.heap.size + 1, 3, none⟩) (Or.inl rfl) (.string oa)).setCell (p := ⟨w.heap.size + 1, 4, none⟩) (Or.inl rfl) (.string ob)).setCell (p := ⟨w.heap.size + 1, 5, none⟩) (Or.inl rfl) (.int .u8 on)).setCell (p := ⟨w.heap.size + 1, 6, none⟩) (Or.inl rfl) (.int .u8 or)) (fun i hi h => by unfold eqB at h; omega)
  exact bodyPost_ret (v := .agg #[.int .u8 cl, .int .u64 num, .int .u8 k, .string oa, .string ob, .int .u8 on, .int .u8 or]) (by simp [results, hr, go_sem, y0, y1, y2, y3, y4, y5, y6]) rfl ⟨rfl, FF⟩

def RefC (q0 q1 : Nat) (E Z F : Array Value) : Nat → World → Prop
  | 0, W => BlkAt W q0 42 E ∧ BlkAt W q1 90 Z
  | _, W => BlkAt W q0 42 E ∧ BlkAt W q1 90 F
theorem RefC.fr0 {q0 q1 : Nat} {E Z F : Array Value} {q : Nat} {W W' : World} (h : RefC q0 q1 E Z F q W) (f : Fr noB W W') : RefC q0 q1 E Z F q W' := by
  match q, h with
  | 0, h => exact ⟨h.1.fr f id, h.2.fr f id⟩
  | q + 1, h => exact ⟨h.1.fr f id, h.2.fr f id⟩
theorem RefC.fst {q0 q1 : Nat} {E Z F : Array Value} {q : Nat} {W : World} (h : RefC q0 q1 E Z F q W) : BlkAt W q0 42 E := by
  match q, h with
  | 0, h => exact h.1
  | q + 1, h => exact h.1
theorem BlkAt.set9 {w : World} {b : Nat} {T : TypeId} {v0 v1 v2 v3 v4 v5 v6 v7 v8 : Value} (h : BlkAt w b T #[v0, v1, v2, v3, v4, v5, v6, v7, v8]) (u0 u1 u2 u3 u4 u5 u6 u7 u8 : Value) : BlkAt (((((((((w.setCell ⟨b, 0, none⟩ u0).setCell ⟨b, 1, none⟩ u1).setCell ⟨b, 2, none⟩ u2).setCell ⟨b, 3, none⟩ u3).setCell ⟨b, 4, none⟩ u4).setCell ⟨b, 5, none⟩ u5).setCell ⟨b, 6, none⟩ u6).setCell ⟨b, 7, none⟩ u7).setCell ⟨b, 8, none⟩ u8) b T #[u0, u1, u2, u3, u4, u5, u6, u7, u8] := by
  have := (((((((((h.set 0 u0).set 1 u1).set 2 u2).set 3 u3).set 4 u4).set 5 u5).set 6 u6).set 7 u7).set 8 u8)
  simpa using this
theorem fr_set9 (w : World) (b : Nat) (u0 u1 u2 u3 u4 u5 u6 u7 u8 : Value) : Fr (eqB b) w (((((((((w.setCell ⟨b, 0, none⟩ u0).setCell ⟨b, 1, none⟩ u1).setCell ⟨b, 2, none⟩ u2).setCell ⟨b, 3, none⟩ u3).setCell ⟨b, 4, none⟩ u4).setCell ⟨b, 5, none⟩ u5).setCell ⟨b, 6, none⟩ u6).setCell ⟨b, 7, none⟩ u7).setCell ⟨b, 8, none⟩ u8) :=
  ((((((((fr_set1 w b 0 u0).then' (fr_set1 _ b 1 u1)).then' (fr_set1 _ b 2 u2)).then' (fr_set1 _ b 3 u3)).then' (fr_set1 _ b 4 u4)).then' (fr_set1 _ b 5 u5)).then' (fr_set1 _ b 6 u6)).then' (fr_set1 _ b 7 u7)).then' (fr_set1 _ b 8 u8)
set_option maxRecDepth 100000 in
set_option maxHeartbeats 1600000 in
theorem ref19_calls (w : World) (e : EnV) : Calls Tryd.prog 48 #[e.v] w (fun ed w' => ed = .returned e.v ∧ Fr noB w w') := by
  obtain ⟨op, view, cl, num, ⟨k, oa, ob, on, or⟩⟩ := e
  unfold EnV.v
  simp only []
  have hrq := fun W => ref17_calls W cl num k on or oa ob
  have f0 : Fr noB w ((w.alloc (.cells #[.int .u64 op, .int .u64 view, .int .u8 cl, .int .u64 num, .int .u8 k, .string oa, .string ob, .int .u8 on, .int .u8 or] 42)).alloc (.cells #[.int .u64 0, .int .u64 0, .int .u8 0, .int .u64 0, .int .u8 0, .string ⟨#[]⟩, .string ⟨#[]⟩, .int .u8 0, .int .u8 0] 90)) := ((Fr.refl noB w).alloc _).alloc _
  have hb0 : BlkAt ((w.alloc (.cells #[.int .u64 op, .int .u64 view, .int .u8 cl, .int .u64 num, .int .u8 k, .string oa, .string ob, .int .u8 on, .int .u8 or] 42)).alloc (.cells #[.int .u64 0, .int .u64 0, .int .u8 0, .int .u64 0, .int .u8 0, .string ⟨#[]⟩, .string ⟨#[]⟩, .int .u8 0, .int .u8 0] 90)) w.heap.size 42 #[.int .u64 op, .int .u64 view, .int .u8 cl, .int .u64 num, .int .u8 k, .string oa, .string ob, .int .u8 on, .int .u8 or] := (BlkAt.new _ _ _).al _
  have hb1 : BlkAt ((w.alloc (.cells #[.int .u64 op, .int .u64 view, .int .u8 cl, .int .u64 num, .int .u8 k, .string oa, .string ob, .int .u8 on, .int .u8 or] 42)).alloc (.cells #[.int .u64 0, .int .u64 0, .int .u8 0, .int .u64 0, .int .u8 0, .string ⟨#[]⟩, .string ⟨#[]⟩, .int .u8 0, .int .u8 0] 90)) (w.heap.size + 1) 90 #[.int .u64 0, .int .u64 0, .int .u8 0, .int .u64 0, .int .u8 0, .string ⟨#[]⟩, .string ⟨#[]⟩, .int .u8 0, .int .u8 0] := by
    have := BlkAt.new (w.alloc (.cells #[.int .u64 op, .int .u64 view, .int .u8 cl, .int .u64 num, .int .u8 k, .string oa, .string ob, .int .u8 on, .int .u8 or] 42)) #[.int .u64 0, .int .u64 0, .int .u8 0, .int .u64 0, .int .u8 0, .string ⟨#[]⟩, .string ⟨#[]⟩, .int .u8 0, .int .u8 0] 90
    rwa [al_size] at this
  have hr : Hid (Tryd.f48.results = #[.cell 2 90]) := by unfold Hid; kernel_rfl
  go_enter Tryd.func48, Tryd.ntmps48
  go_upto_region 1 with fail
  generalize ((w.alloc (.cells #[.int .u64 op, .int .u64 view, .int .u8 cl, .int .u64 num, .int .u8 k, .string oa, .string ob, .int .u8 on, .int .u8 or] 42)).alloc (.cells #[.int .u64 0, .int .u64 0, .int .u8 0, .int .u64 0, .int .u8 0, .string ⟨#[]⟩, .string ⟨#[]⟩, .int .u8 0, .int .u8 0] 90)) = wa at *
  apply wp_region_calm (R := Fr (eqB (w.heap.size + 1))) (C := fun q W => Fr (eqB (w.heap.size + 1)) wa W ∧ RefC w.heap.size (w.heap.size + 1) #[.int .u64 op, .int .u64 view, .int .u8 cl, .int .u64 num, .int .u8 k, .string oa, .string ob, .int .u8 on, .int .u8 or] #[.int .u64 0, .int .u64 0, .int .u8 0, .int .u64 0, .int .u8 0, .string ⟨#[]⟩, .string ⟨#[]⟩, .int .u8 0, .int .u8 0] #[.int .u64 op, .int .u64 view, .int .u8 cl, .int .u64 num, .int .u8 k, .string oa, .string ob, .int .u8 on, .int .u8 or] q W) [false, false, false, false, false, false, false, false, true]
    [eqv _, eqv _, eqv _, eqv _, eqv _, eqv _, eqv _, eqv _, anyv]
    (by kernel_rfl) (by kernel_rfl) (fun _ _ _ h1 h2 => h1.then' h2) ((Fr.refl _ _).drew) ⟨(Fr.refl _ _).drew, hb0, hb1⟩ (by kernel_rfl)
  · refine ⟨?_, ?_, ?_, ?_, ?_, ?_, ?_, ?_, ?_, trivial⟩
    · rw [if_neg (by decide)]; intro kq
      intro a W K hC hd hK
      have d1 : a.tmps[1]?.getD undef = .pointer (some ⟨w.heap.size, 0, none⟩) := hd 1 (by decide)
      refine wpOp_plain rfl rfl ?_
      obtain ⟨x0, x1, x2, x3, x4, x5, x6, x7, x8, xf⟩ := BlkAt.c9 hC.2.fst
      go_wp2_with fail
      exact hK _ _ (Fr.refl _ _) hC rfl
    · rw [if_neg (by decide)]; intro kq
      intro a W K hC hd hK
      have d3 : _ = _ := hd 3 (by decide)
      refine wpOp_plain rfl rfl ?_
      obtain ⟨x0, x1, x2, x3, x4, x5, x6, x7, x8, xf⟩ := BlkAt.c9 hC.2.fst
      go_wp2_with fail
      exact hK _ _ (Fr.refl _ _) hC rfl
    · rw [if_neg (by decide)]; intro kq
      intro a W K hC hd hK
      have d1 : a.tmps[1]?.getD undef = .pointer (some ⟨w.heap.size, 0, none⟩) := hd 1 (by decide)
      refine wpOp_plain rfl rfl ?_
      obtain ⟨x0, x1, x2, x3, x4, x5, x6, x7, x8, xf⟩ := BlkAt.c9 hC.2.fst
      go_wp2_with fail
      exact hK _ _ (Fr.refl _ _) hC rfl
    · rw [if_neg (by decide)]; intro kq
      intro a W K hC hd hK
      have d5 : _ = _ := hd 5 (by decide)
      refine wpOp_plain rfl rfl ?_
      obtain ⟨x0, x1, x2, x3, x4, x5, x6, x7, x8, xf⟩ := BlkAt.c9 hC.2.fst
      go_wp2_with fail
      exact hK _ _ (Fr.refl _ _) hC rfl
    · rw [if_neg (by decide)]; intro kq
      intro a W K hC hd hK
      have d1 : a.tmps[1]?.getD undef = .pointer (some ⟨w.heap.size, 0, none⟩) := hd 1 (by decide)
      refine wpOp_plain rfl rfl ?_
      obtain ⟨x0, x1, x2, x3, x4, x5, x6, x7, x8, xf⟩ := BlkAt.c9 hC.2.fst
      go_wp2_with fail
      exact hK _ _ (Fr.refl _ _) hC rfl
    · rw [if_neg (by decide)]; intro kq
      intro a W K hC hd hK
      have d7 : _ = _ := hd 7 (by decide)
      refine wpOp_plain rfl rfl ?_
      obtain ⟨x0, x1, x2, x3, x4, x5, x6, x7, x8, xf⟩ := BlkAt.c9 hC.2.fst
      go_wp2_with fail
      exact hK _ _ (Fr.refl _ _) hC rfl
    · rw [if_neg (by decide)]; intro kq
      intro a W K hC hd hK
      have d8 : _ = _ := hd 8 (by decide)
      refine wpOp_plain rfl rfl ?_
      obtain ⟨x0, x1, x2, x3, x4, x5, x6, x7, x8, xf⟩ := BlkAt.c9 hC.2.fst
      go_wp2_with fail
      refine (hrq W).mono ?_
      rintro e9 w9 ⟨rfl, f9⟩
      exact hK _ _ (f9.mono fun _ _ h => h.elim) ⟨hC.1.then' (f9.mono fun _ _ h => h.elim), hC.2.fr0 f9⟩ rfl
    · rw [if_neg (by decide)]; intro kq
      intro a W K hC hd hK
      have d4 : _ = _ := hd 4 (by decide)
      have d6 : _ = _ := hd 6 (by decide)
      have d9 : _ = _ := hd 9 (by decide)
      refine wpOp_plain rfl rfl ?_
      go_wp2_with fail
      exact hK _ _ (Fr.refl _ _) hC rfl
    · rw [if_pos (by decide)]
      intro a W K hC hd hK
      replace hC : (fun q W => Fr (eqB (w.heap.size + 1)) wa W ∧ RefC w.heap.size (w.heap.size + 1) #[.int .u64 op, .int .u64 view, .int .u8 cl, .int .u64 num, .int .u8 k, .string oa, .string ob, .int .u8 on, .int .u8 or] #[.int .u64 0, .int .u64 0, .int .u8 0, .int .u64 0, .int .u8 0, .string ⟨#[]⟩, .string ⟨#[]⟩, .int .u8 0, .int .u8 0] #[.int .u64 op, .int .u64 view, .int .u8 cl, .int .u64 num, .int .u8 k, .string oa, .string ob, .int .u8 on, .int .u8 or] q W) 0 W := hC
      have d2 : a.tmps[2]?.getD undef = .pointer (some ⟨w.heap.size + 1, 0, none⟩) := hd 2 (by decide)
      have d10 : _ = _ := hd 10 (by decide)
      refine wpOp_plain rfl rfl ?_
      obtain ⟨x0, x1, x2, x3, x4, x5, x6, x7, x8, xf⟩ := BlkAt.c9 hC.2.fst
      have hz := hC.2.2
      obtain ⟨y0, y1, y2, y3, y4, y5, y6, y7, y8, yf⟩ := BlkAt.c9 hz
      have fs := fr_set9 W (w.heap.size + 1) (.int .u64 op) (.int .u64 view) (.int .u8 cl) (.int .u64 num) (.int .u8 k) (.string oa) (.string ob) (.int .u8 on) (.int .u8 or)
      have hset := BlkAt.set9 hz (.int .u64 op) (.int .u64 view) (.int .u8 cl) (.int .u64 num) (.int .u8 k) (.string oa) (.string ob) (.int .u8 on) (.int .u8 or)
      go_wp2_with fail
      exact hK undef _ fs ⟨hC.1.then' fs, hC.2.1.fr fs (by unfold eqB; omega), hset⟩ trivial
  · intro vs w8 fw8 cw8 hV
    have v3 : vs 0 = _ := hV 0 _ _ rfl rfl (by decide)
    have v4 : vs 1 = _ := hV 1 _ _ rfl rfl (by decide)
    have v5 : vs 2 = _ := hV 2 _ _ rfl rfl (by decide)
    have v6 : vs 3 = _ := hV 3 _ _ rfl rfl (by decide)
    have v7 : vs 4 = _ := hV 4 _ _ rfl rfl (by decide)
    have v8 : vs 5 = _ := hV 5 _ _ rfl rfl (by decide)
    have v9 : vs 6 = _ := hV 6 _ _ rfl rfl (by decide)
    have v10 : vs 7 = _ := hV 7 _ _ rfl rfl (by decide)
    clear hV
    simp only [putL, Act.put, Nat.reduceAdd, List.setIfInBounds_toArray, List.set_cons_zero, List.set_cons_succ, v3, v4, v5, v6, v7, v8, v9, v10]
    obtain ⟨y0, y1, y2, y3, y4, y5, y6, y7, y8, yf⟩ := BlkAt.c9 cw8.2.2
    go_wp2_with fail
    have hr := hr.out
    exact bodyPost_ret (v := .agg #[.int .u64 op, .int .u64 view, .int .u8 cl, .int .u64 num, .int .u8 k, .string oa, .string ob, .int .u8 on, .int .u8 or]) (by simp [results, hr, go_sem, y0, y1, y2, y3, y4, y5, y6, y7, y8]) rfl ⟨rfl, f0.trans fw8 (fun i hi h => by unfold eqB at h; omega)⟩
set_option maxRecDepth 100000 in
set_option maxHeartbeats 1600000 in
theorem same19_calls (w : World) (A B : Option Addr) (n c m d : Nat) (es fs : List EnV) (h : RefA w A n c es) (g : RefA w B m d fs) (hn : n ≤ 9223372036854775807) (hm : m ≤ 9223372036854775807) (hq : es = fs) :
    Calls Tryd.prog 49 #[.slice A n c, .slice B m d] w (BoolPost w true) := by
  subst hq
  obtain rfl : n = m := by rw [← h.len.out, g.len.out]
  have hr1 := h.row
  have hr2 := g.row
  have HN := h.len
  have HM : Hid (Tryd.prog.eqGuardType Tryd.prog.depth 90 = false) := Tryd.gR
  clear h g
  go_enter Tryd.func49, Tryd.ntmps49
  go_wp2_with fail
  go_loopw [13] (fun i wr => ∃ x : Nat, x ≤ n ∧ i = .int .i64 x ∧ Fr noB w wr) (fun i _ => n - (intOf i).toNat)
  case atStart => exact ⟨0, Nat.zero_le _, rfl, Fr.refl _ _⟩
  case round =>
    obtain ⟨x, hx, rfl, hf⟩ := hrel
    by_cases hxn : x < n
    · obtain ⟨e, he⟩ : ∃ e, es[x]? = some e := ⟨_, List.getElem?_eq_getElem (by rw [HN.out]; exact hxn)⟩
      obtain ⟨a1, rfl⟩ := hr1.some_flat (by simp [EnV.C]) he
      obtain ⟨a2, rfl⟩ := hr2.some_flat (by simp [EnV.C]) he
      have hg1 := (hr1.seg 9 (fun _ => rfl) he).fr hf id
      have hg2 := (hr2.seg 9 (fun _ => rfl) he).fr hf id
      have hrf := fun W => ref19_calls W e
      have HNQ : Hid (∀ W, (binOp .neq 90 e.v e.v).run Tryd.prog W = .ok (.bool false) W) := fun W => by rw [enNeqR]; simp
      obtain ⟨op, view, cl, num, ⟨k, oa, ob, on, or⟩⟩ := e
      unfold EnV.v at HNQ hrf
      unfold EnV.C at hg1 hg2
      simp only [] at HNQ hg1 hg2 hrf
      clear he hr1 hr2
      go_wp2_with fail
      apply wp_region_calm (R := Fr noB) (C := fun _ W => Fr noB wr W) [false, false, false, false, false, false, false, false, false, false]
        [eqv _, eqv _, eqv _, eqv _, eqv _, eqv _, eqv _, eqv _, eqv _, eqv _]
        (by kernel_rfl) (by kernel_rfl) (fun _ _ _ h1 h2 => h1.then' h2) ((Fr.refl _ _).drew) ((Fr.refl _ _).drew) (by kernel_rfl)
      · refine ⟨?_, ?_, ?_, ?_, ?_, ?_, ?_, ?_, ?_, ?_, trivial⟩
        · rw [if_neg (by decide)]; intro kq
          exact calm_mv 0 rfl rfl (Or.inl rfl) (Fr.refl _) (by decide) fun v w hd => hd
        · rw [if_neg (by decide)]; intro kq
          exact calm_mv 5 rfl rfl (Or.inl rfl) (Fr.refl _) (by decide) fun v w hd => hd
        · rw [if_neg (by decide)]; intro kq
          intro a W K hC hd hK
          have d16 : _ = _ := hd 16 (by decide)
          have d17 : _ = _ := hd 17 (by decide)
          refine wpOp_plain rfl rfl ?_
          obtain ⟨x0, x1, x2, x3, x4, x5, x6, x7, x8⟩ := (hg1.fr hC id).c9
          obtain ⟨y0, y1, y2, y3, y4, y5, y6, y7, y8⟩ := (hg2.fr hC id).c9
          go_wp2_with fail
          exact hK _ _ (Fr.refl _ _) hC rfl
        · rw [if_neg (by decide)]; intro kq
          intro a W K hC hd hK
          have d18 : _ = _ := hd 18 (by decide)
          refine wpOp_plain rfl rfl ?_
          obtain ⟨x0, x1, x2, x3, x4, x5, x6, x7, x8⟩ := (hg1.fr hC id).c9
          obtain ⟨y0, y1, y2, y3, y4, y5, y6, y7, y8⟩ := (hg2.fr hC id).c9
          go_wp2_with fail
          exact hK _ _ (Fr.refl _ _) hC rfl
        · rw [if_neg (by decide)]; intro kq
          intro a W K hC hd hK
          have d19 : _ = _ := hd 19 (by decide)
          refine wpOp_plain rfl rfl ?_
          obtain ⟨x0, x1, x2, x3, x4, x5, x6, x7, x8⟩ := (hg1.fr hC id).c9
          obtain ⟨y0, y1, y2, y3, y4, y5, y6, y7, y8⟩ := (hg2.fr hC id).c9
          go_wp2_with fail
          refine (hrf W).mono ?_
          rintro e9 w9 ⟨rfl, f9⟩
          exact hK _ _ f9 (hC.then' f9) rfl
        · rw [if_neg (by decide)]; intro kq
          exact calm_mv 1 rfl rfl (Or.inl rfl) (Fr.refl _) (by decide) fun v w hd => hd
        · rw [if_neg (by decide)]; intro kq
          exact calm_mv 5 rfl rfl (Or.inl rfl) (Fr.refl _) (by decide) fun v w hd => hd
        · rw [if_neg (by decide)]; intro kq
          intro a W K hC hd hK
          have d21 : _ = _ := hd 21 (by decide)
          have d22 : _ = _ := hd 22 (by decide)
          refine wpOp_plain rfl rfl ?_
          obtain ⟨x0, x1, x2, x3, x4, x5, x6, x7, x8⟩ := (hg1.fr hC id).c9
          obtain ⟨y0, y1, y2, y3, y4, y5, y6, y7, y8⟩ := (hg2.fr hC id).c9
          go_wp2_with fail
          exact hK _ _ (Fr.refl _ _) hC rfl
        · rw [if_neg (by decide)]; intro kq
          intro a W K hC hd hK
          have d23 : _ = _ := hd 23 (by decide)
          refine wpOp_plain rfl rfl ?_
          obtain ⟨x0, x1, x2, x3, x4, x5, x6, x7, x8⟩ := (hg1.fr hC id).c9
          obtain ⟨y0, y1, y2, y3, y4, y5, y6, y7, y8⟩ := (hg2.fr hC id).c9
          go_wp2_with fail
          exact hK _ _ (Fr.refl _ _) hC rfl
        · rw [if_neg (by decide)]; intro kq
          intro a W K hC hd hK
          have d20 : _ = _ := hd 20 (by decide)
          have d24 : _ = _ := hd 24 (by decide)
          refine wpOp_plain rfl rfl ?_
          have hnq := HNQ.out
          have hm := HM.out
          go_wp2_with fail
          exact hK _ _ (Fr.refl _ _) hC rfl
      · intro vs w9 fw9 cw9 hV
        have v16 : vs 0 = _ := hV 0 _ _ rfl rfl (by decide)
        have v17 : vs 1 = _ := hV 1 _ _ rfl rfl (by decide)
        have v18 : vs 2 = _ := hV 2 _ _ rfl rfl (by decide)
        have v19 : vs 3 = _ := hV 3 _ _ rfl rfl (by decide)
        have v20 : vs 4 = _ := hV 4 _ _ rfl rfl (by decide)
        have v21 : vs 5 = _ := hV 5 _ _ rfl rfl (by decide)
        have v22 : vs 6 = _ := hV 6 _ _ rfl rfl (by decide)
        have v23 : vs 7 = _ := hV 7 _ _ rfl rfl (by decide)
        have v24 : vs 8 = _ := hV 8 _ _ rfl rfl (by decide)
        have v25 : vs 9 = _ := hV 9 _ _ rfl rfl (by decide)
        clear hV
        simp only [putL, Act.put, Nat.reduceAdd, List.setIfInBounds_toArray, List.set_cons_zero, List.set_cons_succ, v16, v17, v18, v19, v20, v21, v22, v23, v24, v25]
        go_wp2_with fail
        go_roundw
        case rel => exact ⟨x + 1, by omega, by go_num, hf.then' fw9⟩
        case measure => simp [intOf]; omega
    · have : x = n := by omega
      subst this
      clear hr1 hr2
      go_wp2_with fail
      go_ret
      exact BoolPost.mk' rfl hf
end Go.Proofs.YtcaihinenfnekaaDoor
/- The reference's logs: From, Trim. -/
namespace Go.Proofs.YtcaihinenfnekaaDoor
open Go.RowKit

/-- New entries of the reference. -/
def NewR (w : World) (es : List EnV) (e : Ending) (w' : World) : Prop :=
  ∃ A n c, e = .returned (.slice A n c) ∧ Hid (es.length = n) ∧ w'.ownsRow w.heap.size 90 9 (.slice A n c) n (es.flatMap EnV.C) ∧ Fr noB w w'
def fromF (es : List EnV) (k : Nat) : List EnV := es.filter fun e => decide (k ≤ e.op)
theorem fromF_snoc {es : List EnV} {j k : Nat} {e : EnV} (h : es[j]? = some e) : fromF (es.take (j + 1)) k = if k ≤ e.op then fromF (es.take j) k ++ [e] else fromF (es.take j) k := by
  unfold fromF
  rw [take_snoc' h, List.filter_append]
  split
  · rename_i h1; simp [h1]
  · rename_i h1; simp [h1]
theorem fromF_le (es : List EnV) (j k : Nat) : (fromF (es.take j) k).length ≤ j := by
  unfold fromF
  exact Nat.le_trans (List.length_filter_le _ _) (by rw [List.length_take]; omega)
set_option maxRecDepth 100000 in
set_option maxHeartbeats 1600000 in
theorem fromLR_calls (w : World) (b k n c : Nat) (A : Option Addr) (es : List EnV) (h : RefA w A n c es) (hn : n ≤ 1000000) :
    Calls Tryd.prog 50 #[.agg #[.int .u64 b, .slice A n c], .int .u64 k] w (NewR w (fromF es k)) := by
  have hb := BlkAt.new w #[.int .u64 b, .slice A n c] 54
  have f := (Fr.refl noB w).alloc (.cells #[.int .u64 b, .slice A n c] 54)
  have HN := h.len
  have hrow := h.row
  have hs0 := f.size
  clear h
  go_enter Tryd.func50, Tryd.ntmps50
  go_upto_region 1 with fail
  generalize w.alloc (.cells #[.int .u64 b, .slice A n c] 54) = wa at *
  obtain ⟨x0, x1, xf⟩ := BlkAt.c2 hb
  go_wp2_with fail
  clear x0 x1 xf hb
  go_loopw [5, 11] (fun v i wr => ∃ j : Nat, j ≤ n ∧ i = .int .i64 j ∧ (∃ B m d, Hid ((fromF (es.take j) k).length = m) ∧ v = .slice B m d ∧ wr.ownsRow w.heap.size 90 9 (.slice B m d) m ((fromF (es.take j) k).flatMap EnV.C)) ∧ Fr noB w wr) (fun _ i _ => n - (intOf i).toNat)
  case atStart => exact ⟨0, Nat.zero_le _, rfl, ⟨none, 0, 0, rfl, rfl, World.ownsRow_nil _ _ _ _⟩, f⟩
  case round =>
    obtain ⟨j, hj, rfl, ⟨B, m, d, HM, rfl, hO⟩, hf⟩ := hrel
    by_cases hjn : j < n
    · obtain ⟨e, he⟩ : ∃ e, es[j]? = some e := ⟨_, List.getElem?_eq_getElem (by rw [HN.out]; exact hjn)⟩
      obtain ⟨ad, rfl⟩ := hrow.some_flat (by simp [EnV.C]) he
      obtain ⟨x0, x1, x2, x3, x4, x5, x6, x7, x8⟩ := ((hrow.seg 9 (fun _ => rfl) he).fr hf id).c9
      have HS := hid (fromF_snoc (k := k) he)
      have hml := fromF_le es j k
      rw [HM.out] at hml
      have hlen1 : ∀ m, (fromF (es.take j) k).length = m → (fromF (es.take j) k ++ [e]).length = m + 1 := fun m h => by rw [List.length_append, h]; rfl
      replace hlen1 := hid (hlen1 m HM.out)
      have hfl1 : (fromF (es.take j) k ++ [e]).flatMap EnV.C = (fromF (es.take j) k).flatMap EnV.C ++ e.C := by simp
      have hone := flatE_one [e]
      simp only [List.flatMap_cons, List.flatMap_nil, List.append_nil] at hone
      have hfa : Fr noB wr (wr.alloc (.cells e.C.toArray 90)) := (Fr.refl noB wr).alloc _
      have hba : BlkAt (wr.alloc (.cells e.C.toArray 90)) wr.heap.size 90 e.C.toArray := BlkAt.new _ _ _
      have hO0 := own_fr hO hfa (fun _ _ => id)
      have hF0 := hf.then' hfa
      have hop : k ≤ e.op ↔ decide (k ≤ e.op) = true := by simp
      obtain ⟨op, view, cl, num, ⟨kk, oa, ob, on, or⟩⟩ := e
      unfold EnV.C at hfa hba hO0 hF0
      have hfl1 := hid hfl1
      simp only [] at *
      clear he hO hf hop
      obtain ⟨nx, hnx⟩ : ∃ x, fromF (es.take (j + 1)) k = x := ⟨_, rfl⟩
      rw [hnx] at HS
      have HNX := hid hnx
      clear hnx
      generalize hfx : fromF (es.take j) k = fx at *
      have hws := hF0.size
      go_upto_region 5 with fail
      generalize hwb : (wr.alloc (.cells #[.int .u64 op, .int .u64 view, .int .u8 cl, .int .u64 num, .int .u8 kk, .string oa, .string ob, .int .u8 on, .int .u8 or] 90)) = wb at *
      clear hwb x0 x1 x2 x3 x4 x5 x6 x7 x8
      obtain ⟨x0, x1, x2, x3, x4, x5, x6, x7, x8, xf⟩ := BlkAt.c9 hba
      by_cases hk : k ≤ op
      · rw [if_pos hk] at HS
        have d1 : decide (k ≤ op) = true := decide_eq_true hk
        have hO1 : (wb.alloc (.cells #[.int .u64 op, .int .u64 view, .int .u8 cl, .int .u64 num, .int .u8 kk, .string oa, .string ob, .int .u8 on, .int .u8 or] 90)).ownsRow 0 90 9 (.slice B m d) m (fx.flatMap EnV.C) := own_mono (own_fr hO0 ((Fr.refl noB wb).alloc _) (fun _ _ => id)) (fun _ _ => Nat.zero_le _)
        have F1 : Fr noB w (wb.alloc (.cells #[.int .u64 op, .int .u64 view, .int .u8 cl, .int .u64 num, .int .u8 kk, .string oa, .string ob, .int .u8 on, .int .u8 or] 90)) := hF0.alloc _
        clear hk
        go_wp2_with (at_builtin; refine wpList_app Tryd.appER rfl (.tmp 19) (.tmp 21) rfl _ m (fx.flatMap EnV.C) rfl hO1 _ 1 1 [.int .u64 op, .int .u64 view, .int .u8 cl, .int .u64 num, .int .u8 kk, .string oa, .string ob, .int .u8 on, .int .u8 or] rfl rfl (new_row _ _ _) (by intro u hu; exact hone u (by unfold EnV.C; exact hu)) (by simp) (by omega) (by omega) ?_)
        intro A' c' w3 hown3 hg hat
        have f3 : Fr noB w w3 := Fr.grown F1 hg (fun g hg => Or.inr ((hO0.lt g hg).1))
        have hO3 : w3.ownsRow w.heap.size 90 9 (.slice A' (m + 1) c') (m + 1) (nx.flatMap EnV.C) := by
          rw [HS.out, hfl1.out]
          refine own_mono hown3 (fun g hg => ?_)
          rcases hat with e | e
          · exact (hO0.lt g (e ▸ hg)).1
          · rw [hg] at e; simp at e; omega
        have hlen2 : Hid (nx.length = m + 1) := by rw [HS.out]; exact hlen1
        clear hg hat hown3 hO1 hO0 F1
        go_wp2_with fail
        go_roundw
        case rel => exact ⟨j + 1, by omega, by go_num, ⟨A', m + 1, c', by rw [HNX.out]; exact hlen2, rfl, by rw [HNX.out]; exact hO3⟩, f3⟩
        case measure => simp [intOf]; omega
      · rw [if_neg hk] at HS
        have d1 : decide (k ≤ op) = false := decide_eq_false hk
        clear hk
        go_wp2_with fail
        go_roundw
        case rel => exact ⟨j + 1, by omega, by go_num, ⟨B, m, d, by rw [HNX.out, HS.out]; exact HM, rfl, by rw [HNX.out, HS.out]; exact hO0⟩, hF0⟩
        case measure => simp [intOf]; omega
    · have : j = n := by omega
      subst this
      rw [List.take_of_length_le (by rw [HN.out]; exact Nat.le_refl _)] at HM hO
      go_wp2_with fail
      go_ret
      exact ⟨B, m, d, rfl, HM, hO, hf⟩

/-! ### the plain law of From -/
theorem fromF_eq {b : Nat} {es : List EnV} (hop : ∀ i e, es[i]? = some e → e.op = b + i + 1) (k : Nat) : fromF es k = fromL b es k := by
  unfold fromF fromL
  induction es generalizing b with
  | nil => simp
  | cons e es ih =>
    have h0 := hop 0 e rfl
    have h1 := ih (b := b + 1) (fun i x hx => by have := hop (i + 1) x (by simpa using hx); omega)
    rw [List.filter_cons, h1]
    by_cases hk : k ≤ b + 1
    · rw [if_pos (by simp; omega), show max k (b + 1) - b - 1 = 0 from by omega, show max k (b + 1 + 1) - (b + 1) - 1 = 0 from by omega]; simp
    · rw [if_neg (by simp; omega), show max k (b + 1) - b - 1 = (max k (b + 1 + 1) - (b + 1) - 1) + 1 from by omega, List.drop_succ_cons]
theorem fromL_trim {b t : Nat} {es : List EnV} (h : b ≤ t) : fromL b es (t + 1) = es.drop (t - b) := by
  unfold fromL
  congr 1; omega
/-! ### Trim -/
def RLogPost (w : World) (A0 : Option Addr) (q : (Nat × List EnV) × Nat) (e : Ending) (w' : World) : Prop :=
  ∃ A n c, e = .returned (.tuple #[.agg #[.int .u64 q.1.1, .slice A n c], .int .i64 (q.2 : Nat)]) ∧ RefA w' A n c q.1.2 ∧ Placed w w' A0 A ∧ Fr noB w w'
set_option maxRecDepth 100000 in
set_option maxHeartbeats 1600000 in
theorem trimR_calls (w : World) (b t n c : Nat) (A : Option Addr) (es : List EnV) (h : RefA w A n c es) (hG : GoodL b es) (ht : t < 18446744073709551616) :
    Calls Tryd.prog 75 #[.agg #[.int .u64 b, .slice A n c], .int .u64 t] w (RLogPost w A (trimL b es t)) := by
  have f0 : Fr noB w ((w.alloc (.cells #[.int .u64 b, .slice A n c] 54)).alloc (.cells #[.int .u64 0, .slice none 0 0] 54)) := ((Fr.refl noB w).alloc _).alloc _
  have hb0 : BlkAt ((w.alloc (.cells #[.int .u64 b, .slice A n c] 54)).alloc (.cells #[.int .u64 0, .slice none 0 0] 54)) w.heap.size 54 #[.int .u64 b, .slice A n c] := (BlkAt.new _ _ _).al _
  have hb1 : BlkAt ((w.alloc (.cells #[.int .u64 b, .slice A n c] 54)).alloc (.cells #[.int .u64 0, .slice none 0 0] 54)) (w.heap.size + 1) 54 #[.int .u64 0, .slice none 0 0] := by
    have := BlkAt.new (w.alloc (.cells #[.int .u64 b, .slice A n c] 54)) #[.int .u64 0, .slice none 0 0] 54
    rwa [al_size] at this
  have hr : Hid (Tryd.f75.results = #[.cell 4 54, .tmp 5]) := by unfold Hid; kernel_rfl
  have hll := hG.last
  have hw16 := hG.few
  have HLA : Hid (lastL b es = b + n) := by unfold Hid lastL; rw [h.len.out]
  have HN := h.len
  rw [HN.out] at hw16
  have hla := fun W => lastR_calls W b n c A (by have := HLA.out; omega)
  have hfr := fun W h => fromLR_calls W b (t + 1) n c A es h (by omega)
  rw [fromF_eq hG.op] at hfr
  have HV : Hid (trimL b es t = if t < b ∨ lastL b es < t then ((b, es), 1) else ((t, es.drop (t - b)), 0)) := rfl
  rw [HLA.out] at HV
  obtain ⟨c1, hc1⟩ : ∃ c, decide (t < b) = c := ⟨_, rfl⟩
  obtain ⟨c2, hc2⟩ : ∃ c, decide (b + n < t) = c := ⟨_, rfl⟩
  have hd : Hid ((c1 = true ∨ c2 = true) ↔ (t < b ∨ b + n < t)) := by unfold Hid; rw [← hc1, ← hc2, decide_eq_true_eq, decide_eq_true_eq]
  have HFT : Hid (b ≤ t → fromL b es (t + 1) = es.drop (t - b)) := fun h => fromL_trim h
  generalize trimL b es t = res at *
  generalize fromL b es (t + 1) = fl at *
  generalize es.drop (t - b) = dr at *
  have hcl : ((b + n : Nat) : Int) = (b : Int) + n := by omega
  have hbb := hG.base
  clear HLA hG hll
  go_enter Tryd.func75, Tryd.ntmps75
  go_upto_region 1 with fail
  generalize ((w.alloc (.cells #[.int .u64 b, .slice A n c] 54)).alloc (.cells #[.int .u64 0, .slice none 0 0] 54)) = wa at *
  obtain ⟨x0, x1, xf⟩ := BlkAt.c2 hb0
  obtain ⟨y0, y1, yf⟩ := BlkAt.c2 hb1
  have hfs := fun (W : World) (u0 u1 : Value) => ((fr_set1 W (w.heap.size + 1) 0 u0).then' (fr_set1 _ (w.heap.size + 1) 1 u1))
  cases c1 with
  | true =>
    rw [if_pos (hd.out.1 (Or.inl rfl))] at HV
    clear hd hla hfr
    go_wp2_with fail
    have hr := hr.out
    have FF := f0.trans (hfs wa (.int .u64 b) (.slice A n c)) (fun i hi h => by unfold eqB at h; omega)
    exact bodyPost_ret (v := .tuple #[.agg #[.int .u64 b, .slice A n c], .int .i64 1]) (by simp [results, hr, go_sem, y0, y1]) rfl (by rw [HV.out]; exact ⟨A, n, c, rfl, h.fr0 FF, Or.inl rfl, FF⟩)
  | false =>
    cases c2 with
    | true =>
      rw [if_pos (hd.out.1 (Or.inr rfl))] at HV
      clear hd hfr
      go_wp2_with fail
      refine (hla wa).mono ?_
      rintro ed w1 ⟨rfl, f1⟩
      rw [hcl]
      clear x0 x1 xf y0 y1 yf
      obtain ⟨x0, x1, xf⟩ := BlkAt.c2 (hb0.fr f1 id)
      obtain ⟨y0, y1, yf⟩ := BlkAt.c2 (hb1.fr f1 id)
      have F1 := f0.then' f1
      clear hla f1
      have hc3 : decide ((b : Int) + n < t) = true := decide_eq_true (by have := of_decide_eq_true hc2; omega)
      go_wp2_with fail
      have hr := hr.out
      have FF := F1.trans (hfs w1 (.int .u64 b) (.slice A n c)) (fun i hi h => by unfold eqB at h; omega)
      exact bodyPost_ret (v := .tuple #[.agg #[.int .u64 b, .slice A n c], .int .i64 1]) (by simp [results, hr, go_sem, y0, y1]) rfl (by rw [HV.out]; exact ⟨A, n, c, rfl, h.fr0 FF, Or.inl rfl, FF⟩)
    | false =>
      have hno : ¬ (t < b ∨ b + n < t) := fun h => by rcases hd.out.2 h with h | h <;> cases h
      rw [if_neg hno] at HV
      have htb : b ≤ t := by omega
      have hfe := HFT.out htb
      subst hfe
      clear hd
      go_wp2_with fail
      refine (hla wa).mono ?_
      rintro ed w1 ⟨rfl, f1⟩
      rw [hcl]
      clear x0 x1 xf y0 y1 yf
      obtain ⟨x0, x1, xf⟩ := BlkAt.c2 (hb0.fr f1 id)
      have F1 := f0.then' f1
      have hb11 := hb1.fr f1 id
      clear hla f1
      have hc3 : decide ((b : Int) + n < t) = false := decide_eq_false (by omega)
      have hw1 : IntKind.u64.wrap ((t : Int) + 1) = (t + 1 : Nat) := by rw [IntKind.wrap_u64]; omega
      go_wp2_with fail
      refine (hfr w1 (h.fr0 F1)).mono ?_
      rintro ed w2 ⟨A2, n2, c2, rfl, hn2, hO2, f2⟩
      obtain ⟨y0, y1, yf⟩ := BlkAt.c2 (hb11.fr f2 id)
      have F2 := F1.then' f2
      have hR := RefA.of_own hn2 (own_fr hO2 (hfs w2 (.int .u64 t) (.slice A2 n2 c2)) (fun g hg h => by have := (hO2.lt g hg).1; have := hb11.lt; unfold eqB at h; omega))
      have hP : Placed w ((w2.setCell ⟨w.heap.size + 1, 0, none⟩ (.int .u64 t)).setCell ⟨w.heap.size + 1, 1, none⟩ (.slice A2 n2 c2)) A A2 := Placed.of_own (w := w1) (own_fr hO2 (hfs w2 (.int .u64 t) (.slice A2 n2 c2)) (fun g hg h => by have := (hO2.lt g hg).1; have := hb11.lt; unfold eqB at h; omega)) F1.size
      clear hfr x0 x1 xf f2 hO2
      go_wp2_with fail
      have hr := hr.out
      have FF := F2.trans (hfs w2 (.int .u64 t) (.slice A2 n2 c2)) (fun i hi h => by unfold eqB at h; omega)
      exact bodyPost_ret (v := .tuple #[.agg #[.int .u64 t, .slice A2 n2 c2], .int .i64 0]) (by simp [results, hr, go_sem, y0, y1]) rfl (by rw [HV.out]; exact ⟨A2, n2, c2, rfl, hR, hP, FF⟩)

/-! ### Append -/
def curV (q : Nat) (u v : Value) : Value := if q ≤ 1 then u else v
def undefOr (v : Value) (p : Prop) : Prop := v = undef ∨ p
/-- The state while the reference appends: slot 25 (an empty row), 28 (the copy), 30 (the new one), 31 (both). -/
structure AppRC (n0 pl pe b n c : Nat) (A : Option Addr) (xs E : List Value) (q : Nat) (v25 v28 v30 v31 : Value) (W : World) : Prop where
  ent : BlkAt W pe 90 E.toArray
  old : q ≤ 1 → RowAt W A xs
  log : q ≤ 3 → BlkAt W pl 54 #[.int .u64 b, .slice A n c]
  done : 4 ≤ q → ∃ B d, BlkAt W pl 54 #[.int .u64 b, .slice B (n + 1) d] ∧ W.ownsRow n0 90 9 (.slice B (n + 1) d) (n + 1) (xs ++ E)
  e25 : q ≤ 1 → v25 = undef ∨ ∃ g, v25 = .slice (some ⟨g, 0, none⟩) 0 0 ∧ W.ownsRow n0 90 9 v25 0 []
  e28 : q = 2 → ∃ B d, v28 = .slice B n d ∧ W.ownsRow n0 90 9 v28 n xs
  e31 : q = 3 → ∃ B d, v31 = .slice B (n + 1) d ∧ W.ownsRow n0 90 9 v31 (n + 1) (xs ++ E)
  e30 : q ≤ 2 → v30 = undef ∨ ∃ g, v30 = .slice (some ⟨g, 0, none⟩) 1 1 ∧ RowAt W (some ⟨g, 0, none⟩) E ∧ n0 ≤ g ∧ g < W.heap.size ∧ (curV q v25 v28).ownBlock ≠ some g
theorem AppRC.fr0 {n0 pl pe b n c : Nat} {A : Option Addr} {xs E : List Value} {q : Nat} {v25 v28 v30 v31 : Value} {W W' : World} (h : AppRC n0 pl pe b n c A xs E q v25 v28 v30 v31 W) (f : Fr noB W W') : AppRC n0 pl pe b n c A xs E q v25 v28 v30 v31 W' :=
  ⟨h.ent.fr f id, fun k => (h.old k).fr0 f, fun k => (h.log k).fr f id, fun k => by obtain ⟨B, d, h1, h2⟩ := h.done k; exact ⟨B, d, h1.fr f id, own_fr h2 f (fun _ _ => id)⟩,
   fun k => by rcases h.e25 k with h1 | ⟨g, h1, h2⟩; exact Or.inl h1; exact Or.inr ⟨g, h1, own_fr h2 f (fun _ _ => id)⟩,
   fun k => by obtain ⟨B, d, h1, h2⟩ := h.e28 k; exact ⟨B, d, h1, own_fr h2 f (fun _ _ => id)⟩,
   fun k => by obtain ⟨B, d, h1, h2⟩ := h.e31 k; exact ⟨B, d, h1, own_fr h2 f (fun _ _ => id)⟩,
   fun k => by rcases h.e30 k with h1 | ⟨g, h1, h2, h3, h4, h5⟩; exact Or.inl h1; exact Or.inr ⟨g, h1, h2.fr0 f, h3, Nat.lt_of_lt_of_le h4 f.size, h5⟩⟩
end Go.Proofs.YtcaihinenfnekaaDoor
