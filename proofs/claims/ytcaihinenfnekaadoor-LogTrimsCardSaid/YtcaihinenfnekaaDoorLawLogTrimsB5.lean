/- What the row leans on, part 5: contracts and plain laws. -/
import Derived.Test.YtcaihinenfnekaaDoorProg
import Derived.WalkKit
import Derived.Maps.AppendAt
import Derived.Lib.AppendStr
import Derived.Laws.AppendOwnNone
import Derived.Deep.Draws
import Derived.WalkSpells
import Derived.Laws.IdiomStrings
import Derived.Lib.ConvBytes
import Derived.Lib.LaidTab
import Derived.LaidSub
import Derived.Deep.QuietTactic
import Derived.BigQuiet
import Derived.Lib.OthersKept
import Derived.Laws.RangeAny
import Derived.LaidEqlPtr
import Derived.Laws.StructEq
import Derived.Deep.Light
import Derived.Laws.Bits64b
import Derived.Laws.ResultCell
import Derived.Deep.RegionHeld3
import Derived.Deep.Cut
import Derived.SliceStrings
import Derived.Deep.Slices
import Derived.ProofKit
import Derived.Test.YtcaihinenfnekaaDoorLawLogTrimsB4
/- entry.Check and the reference's. -/
namespace Go.Proofs.YtcaihinenfnekaaDoor
open Go.RowKit

set_option maxRecDepth 100000 in
set_option maxHeartbeats 1600000 in
theorem checkEn_calls (w : World) (e : EnV) (ht : SignsAt w) (hw : e.wf) (ha : e.o.a.size ≤ 1000000000000) (hb : e.o.b.size ≤ 1000000000000) : Calls Tryd.prog 72 #[e.v] w (IntPost w (checkE e : Nat)) := by
  have hck := fun W (hx : Fr noB w W) => check_calls W e.o (ht.fr0 hx) hw.o (by omega) (by omega)
  have HV : Hid (checkE e = if e.op = 0 ∨ 1099511627776 < e.op ∨ 1099511627776 < e.view then 17 else if e.cl = 255 then (if e.num ≠ 0 ∨ e.o.k ≠ 16 ∨ checkV e.o ≠ 0 then 1 else 0) else if 8 ≤ e.cl ∨ e.num = 0 ∨ 1099511627776 < e.num then 1 else checkV e.o) := rfl
  generalize checkE e = res at *
  generalize checkV e.o = cv at *
  obtain ⟨op, view, cl, num, k, a, b, n, r⟩ := e
  unfold EnV.v OpV.v at *
  simp only [] at *
  obtain ⟨h1, h2, h3, h4, hk, hn, hr⟩ := hw
  simp only [] at *
  have f0 : Fr noB w (w.alloc (.cells #[.int .u64 op, .int .u64 view, .int .u8 cl, .int .u64 num, .int .u8 k, .string a, .string b, .int .u8 n, .int .u8 r] 42)) := (Fr.refl noB w).alloc _
  have hb0 : BlkAt (w.alloc (.cells #[.int .u64 op, .int .u64 view, .int .u8 cl, .int .u64 num, .int .u8 k, .string a, .string b, .int .u8 n, .int .u8 r] 42)) w.heap.size 42 #[.int .u64 op, .int .u64 view, .int .u8 cl, .int .u64 num, .int .u8 k, .string a, .string b, .int .u8 n, .int .u8 r] := BlkAt.new _ _ _


  obtain ⟨c0, hc0⟩ : ∃ c, ((op : Int) == 0) = c := ⟨_, rfl⟩
  have hd0 : Hid (c0 = true ↔ op = 0) := by rw [← hc0]; unfold Hid; rw [beq_iff_eq]; omega
  obtain ⟨c1, hc1⟩ : ∃ c, decide ((1099511627776 : Int) < op) = c := ⟨_, rfl⟩
  have hd1 : Hid (c1 = true ↔ 1099511627776 < op) := by rw [← hc1]; unfold Hid; rw [decide_eq_true_eq]; omega
  obtain ⟨c2, hc2⟩ : ∃ c, decide ((1099511627776 : Int) < view) = c := ⟨_, rfl⟩
  have hd2 : Hid (c2 = true ↔ 1099511627776 < view) := by rw [← hc2]; unfold Hid; rw [decide_eq_true_eq]; omega
  obtain ⟨c3, hc3⟩ : ∃ c, ((cl : Int) == 255) = c := ⟨_, rfl⟩
  have hd3 : Hid (c3 = true ↔ cl = 255) := by rw [← hc3]; unfold Hid; rw [beq_iff_eq]; omega
  obtain ⟨c4, hc4⟩ : ∃ c, ((num : Int) != 0) = c := ⟨_, rfl⟩
  have hd4 : Hid (c4 = true ↔ num ≠ 0) := by rw [← hc4]; unfold Hid; rw [bne_iff_ne]; omega
  obtain ⟨c5, hc5⟩ : ∃ c, ((k : Int) != 16) = c := ⟨_, rfl⟩
  have hd5 : Hid (c5 = true ↔ k ≠ 16) := by rw [← hc5]; unfold Hid; rw [bne_iff_ne]; omega
  obtain ⟨c6, hc6⟩ : ∃ c, ((cv : Int) != 0) = c := ⟨_, rfl⟩
  have hd6 : Hid (c6 = true ↔ cv ≠ 0) := by rw [← hc6]; unfold Hid; rw [bne_iff_ne]; omega
  obtain ⟨c7, hc7⟩ : ∃ c, decide ((8 : Int) ≤ cl) = c := ⟨_, rfl⟩
  have hd7 : Hid (c7 = true ↔ 8 ≤ cl) := by rw [← hc7]; unfold Hid; rw [decide_eq_true_eq]; omega
  obtain ⟨c8, hc8⟩ : ∃ c, ((num : Int) == 0) = c := ⟨_, rfl⟩
  have hd8 : Hid (c8 = true ↔ num = 0) := by rw [← hc8]; unfold Hid; rw [beq_iff_eq]; omega
  obtain ⟨c9, hc9⟩ : ∃ c, decide ((1099511627776 : Int) < num) = c := ⟨_, rfl⟩
  have hd9 : Hid (c9 = true ↔ 1099511627776 < num) := by rw [← hc9]; unfold Hid; rw [decide_eq_true_eq]; omega
  clear h1 h2 h3 h4 hk hn hr ha hb
  go_enter Tryd.func72, Tryd.ntmps72
  go_upto_region 1 with fail
  generalize (w.alloc (.cells #[.int .u64 op, .int .u64 view, .int .u8 cl, .int .u64 num, .int .u8 k, .string a, .string b, .int .u8 n, .int .u8 r] 42)) = wa at *
  obtain ⟨x0, x1, x2, x3, x4, x5, x6, x7, x8, xf⟩ := BlkAt.c9 hb0
  have f1 : Fr noB w (wa.alloc (.cells #[.int .u8 cl, .int .u64 num, .int .u8 k, .string a, .string b, .int .u8 n, .int .u8 r] 40)) := f0.alloc _
  have hb1 : BlkAt (wa.alloc (.cells #[.int .u8 cl, .int .u64 num, .int .u8 k, .string a, .string b, .int .u8 n, .int .u8 r] 40)) wa.heap.size 40 #[.int .u8 cl, .int .u64 num, .int .u8 k, .string a, .string b, .int .u8 n, .int .u8 r] := BlkAt.new _ _ _
  have hb2 := hb0.al (.cells #[.int .u8 cl, .int .u64 num, .int .u8 k, .string a, .string b, .int .u8 n, .int .u8 r] 40)
  go_upto_region 2 with fail
  generalize (wa.alloc (.cells #[.int .u8 cl, .int .u64 num, .int .u8 k, .string a, .string b, .int .u8 n, .int .u8 r] 40)) = wb at *
  clear hb0 f0 x0 x1 x2 x3 x4 x5 x6 x7 x8 xf
  obtain ⟨x0, x1, x2, x3, x4, x5, x6, x7, x8, xf⟩ := BlkAt.c9 hb2
  obtain ⟨y0, y1, y2, y3, y4, y5, y6, yf⟩ := BlkAt.c7 hb1
  go_wp2_with fail

  all_goals first
    | (go_ret; refine IntPost.mk' ?_ f1; clear hck hb1 hb2 f1 x0 x1 x2 x3 x4 x5 x6 x7 x8 xf y0 y1 y2 y3 y4 y5 y6 yf)
    | (refine (hck wb f1).mono ?_
       rintro e w2 ⟨rfl, f2⟩
       have F2 := f1.then' f2
       clear x0 x1 x2 x3 x4 x5 x6 x7 x8 xf y0 y1 y2 y3 y4 y5 y6 yf
       obtain ⟨y0, y1, y2, y3, y4, y5, y6, yf⟩ := BlkAt.c7 (hb1.fr f2 id)
       clear f2 f1 hb1 hb2
       go_wp2_with fail
       all_goals first
         | (go_ret; refine IntPost.mk' ?_ F2; clear hck y0 y1 y2 y3 y4 y5 y6 yf F2)
         | (refine (hck w2 F2).mono ?_
            rintro e w3 ⟨rfl, f3⟩
            have F3 := F2.then' f3
            clear y0 y1 y2 y3 y4 y5 y6 yf f3 F2
            go_wp2_with fail
            go_ret
            refine IntPost.mk' ?_ F3
            clear hck F3))
  all_goals (
    go_light
    have hv := HV.out
    have e0 := hd0.out
    have e1 := hd1.out
    have e2 := hd2.out
    have e3 := hd3.out
    have e4 := hd4.out
    have e5 := hd5.out
    have e6 := hd6.out
    have e7 := hd7.out
    have e8 := hd8.out
    have e9 := hd9.out
    clear HV hd0 hc0 hd1 hc1 hd2 hc2 hd3 hc3 hd4 hc4 hd5 hc5 hd6 hc6 hd7 hc7 hd8 hc8 hd9 hc9
    simp_all
    all_goals first | omega | ((repeat' split) <;> first | rfl | omega | (simp_all; done) | (simp_all; omega)))
set_option maxRecDepth 100000 in
set_option maxHeartbeats 1600000 in
theorem checkEr_calls (w : World) (e : EnV) (hw : e.wf) (ha : e.o.a.size ≤ 1000000000000) (hb : e.o.b.size ≤ 1000000000000) : Calls Tryd.prog 115 #[e.v] w (IntPost w (checkE e : Nat)) := by
  have hck := fun W => checkO_calls W e.o hw.o ha hb
  rw [check_eq] at hck
  have HV : Hid (checkE e = if e.op = 0 ∨ 1099511627776 < e.op ∨ 1099511627776 < e.view then 17 else if e.cl = 255 then (if e.num ≠ 0 ∨ e.o.k ≠ 16 ∨ checkV e.o ≠ 0 then 1 else 0) else if 8 ≤ e.cl ∨ e.num = 0 ∨ 1099511627776 < e.num then 1 else checkV e.o) := rfl
  generalize checkE e = res at *
  generalize checkV e.o = cv at *
  obtain ⟨op, view, cl, num, k, a, b, n, r⟩ := e
  unfold EnV.v OpV.v at *
  simp only [] at *
  obtain ⟨h1, h2, h3, h4, hk, hn, hr⟩ := hw
  simp only [] at *
  have f0 : Fr noB w (w.alloc (.cells #[.int .u64 op, .int .u64 view, .int .u8 cl, .int .u64 num, .int .u8 k, .string a, .string b, .int .u8 n, .int .u8 r] 90)) := (Fr.refl noB w).alloc _
  have hb0 : BlkAt (w.alloc (.cells #[.int .u64 op, .int .u64 view, .int .u8 cl, .int .u64 num, .int .u8 k, .string a, .string b, .int .u8 n, .int .u8 r] 90)) w.heap.size 90 #[.int .u64 op, .int .u64 view, .int .u8 cl, .int .u64 num, .int .u8 k, .string a, .string b, .int .u8 n, .int .u8 r] := BlkAt.new _ _ _


  obtain ⟨c0, hc0⟩ : ∃ c, decide ((op : Int) < 1) = c := ⟨_, rfl⟩
  have hd0 : Hid (c0 = true ↔ op = 0) := by rw [← hc0]; unfold Hid; rw [decide_eq_true_eq]; omega
  obtain ⟨c1, hc1⟩ : ∃ c, decide ((1099511627776 : Int) < op) = c := ⟨_, rfl⟩
  have hd1 : Hid (c1 = true ↔ 1099511627776 < op) := by rw [← hc1]; unfold Hid; rw [decide_eq_true_eq]; omega
  obtain ⟨c2, hc2⟩ : ∃ c, decide ((1099511627776 : Int) < view) = c := ⟨_, rfl⟩
  have hd2 : Hid (c2 = true ↔ 1099511627776 < view) := by rw [← hc2]; unfold Hid; rw [decide_eq_true_eq]; omega
  obtain ⟨c3, hc3⟩ : ∃ c, ((cl : Int) == 255) = c := ⟨_, rfl⟩
  have hd3 : Hid (c3 = true ↔ cl = 255) := by rw [← hc3]; unfold Hid; rw [beq_iff_eq]; omega
  obtain ⟨c4, hc4⟩ : ∃ c, ((num : Int) != 0) = c := ⟨_, rfl⟩
  have hd4 : Hid (c4 = true ↔ num ≠ 0) := by rw [← hc4]; unfold Hid; rw [bne_iff_ne]; omega
  obtain ⟨c5, hc5⟩ : ∃ c, ((k : Int) != 16) = c := ⟨_, rfl⟩
  have hd5 : Hid (c5 = true ↔ k ≠ 16) := by rw [← hc5]; unfold Hid; rw [bne_iff_ne]; omega
  obtain ⟨c6, hc6⟩ : ∃ c, ((cv : Int) != 0) = c := ⟨_, rfl⟩
  have hd6 : Hid (c6 = true ↔ cv ≠ 0) := by rw [← hc6]; unfold Hid; rw [bne_iff_ne]; omega
  obtain ⟨c7, hc7⟩ : ∃ c, decide ((7 : Int) < cl) = c := ⟨_, rfl⟩
  have hd7 : Hid (c7 = true ↔ 8 ≤ cl) := by rw [← hc7]; unfold Hid; rw [decide_eq_true_eq]; omega
  obtain ⟨c8, hc8⟩ : ∃ c, decide ((num : Int) < 1) = c := ⟨_, rfl⟩
  have hd8 : Hid (c8 = true ↔ num = 0) := by rw [← hc8]; unfold Hid; rw [decide_eq_true_eq]; omega
  obtain ⟨c9, hc9⟩ : ∃ c, decide ((1099511627776 : Int) < num) = c := ⟨_, rfl⟩
  have hd9 : Hid (c9 = true ↔ 1099511627776 < num) := by rw [← hc9]; unfold Hid; rw [decide_eq_true_eq]; omega
  clear h1 h2 h3 h4 hk hn hr ha hb
  go_enter Tryd.func115, Tryd.ntmps115
  go_upto_region 1 with fail
  generalize (w.alloc (.cells #[.int .u64 op, .int .u64 view, .int .u8 cl, .int .u64 num, .int .u8 k, .string a, .string b, .int .u8 n, .int .u8 r] 90)) = wa at *
  obtain ⟨x0, x1, x2, x3, x4, x5, x6, x7, x8, xf⟩ := BlkAt.c9 hb0
  go_upto_region 4 with fail
  all_goals first
    | (go_ret; refine IntPost.mk' ?_ f0; clear hck hb0 f0 x0 x1 x2 x3 x4 x5 x6 x7 x8 xf)
    | (have f1 : Fr noB w (wa.alloc (.cells #[.int .u8 cl, .int .u64 num, .int .u8 k, .string a, .string b, .int .u8 n, .int .u8 r] 88)) := f0.alloc _
       have hb1 : BlkAt (wa.alloc (.cells #[.int .u8 cl, .int .u64 num, .int .u8 k, .string a, .string b, .int .u8 n, .int .u8 r] 88)) wa.heap.size 88 #[.int .u8 cl, .int .u64 num, .int .u8 k, .string a, .string b, .int .u8 n, .int .u8 r] := BlkAt.new _ _ _
       go_upto_region 5 with fail
       generalize (wa.alloc (.cells #[.int .u8 cl, .int .u64 num, .int .u8 k, .string a, .string b, .int .u8 n, .int .u8 r] 88)) = wb at *
       clear hb0 f0 x0 x1 x2 x3 x4 x5 x6 x7 x8 xf
       obtain ⟨y0, y1, y2, y3, y4, y5, y6, yf⟩ := BlkAt.c7 hb1
       go_wp2_with fail
       refine (hck wb).mono ?_
       rintro e w2 ⟨rfl, f2⟩
       have F2 := f1.then' f2
       clear y0 y1 y2 y3 y4 y5 y6 yf
       obtain ⟨y0, y1, y2, y3, y4, y5, y6, yf⟩ := BlkAt.c7 (hb1.fr f2 id)
       clear f2 f1 hb1 hck
       go_wp2_with fail
       all_goals (go_ret; refine IntPost.mk' ?_ F2; clear y0 y1 y2 y3 y4 y5 y6 yf F2))
  all_goals (
    go_light
    have hv := HV.out
    have e0 := hd0.out
    have e1 := hd1.out
    have e2 := hd2.out
    have e3 := hd3.out
    have e4 := hd4.out
    have e5 := hd5.out
    have e6 := hd6.out
    have e7 := hd7.out
    have e8 := hd8.out
    have e9 := hd9.out
    clear HV hd0 hc0 hd1 hc1 hd2 hc2 hd3 hc3 hd4 hc4 hd5 hc5 hd6 hc6 hd7 hc7 hd8 hc8 hd9 hc9
    simp_all
    all_goals first | omega | ((repeat' split) <;> first | rfl | omega | (simp_all; done) | (simp_all; omega)))
end Go.Proofs.YtcaihinenfnekaaDoor
/- log.Log: its cells; New, Last, Len, Full, Base; one. -/
namespace Go.Proofs.YtcaihinenfnekaaDoor
open Go.RowKit

/-- At p lies a Log of base b and these entries, in blocks of U that are its own. -/
def LogA (w : World) (U : Nat → Prop) (p b : Nat) (es : List EnV) : Prop :=
  ∃ A n c, Hid (es.length = n) ∧ BlkAt w p 120 #[.int .u64 b, .slice A n c] ∧ w.ownsRow 0 42 9 (.slice A n c) n (es.flatMap EnV.C) ∧ U p ∧ (∀ g, (Value.slice A n c).ownBlock = some g → U g ∧ g ≠ p)
theorem flatE_length (es : List EnV) : (es.flatMap EnV.C).length = es.length * 9 := by
  induction es with
  | nil => rfl
  | cons e es ih => rw [List.flatMap_cons, List.length_append, ih, List.length_cons]; simp [EnV.C]; omega
theorem flatE_one (es : List EnV) : ∀ u ∈ es.flatMap EnV.C, u.oneCell' = true := by
  intro u hu
  simp only [List.mem_flatMap, EnV.C, List.mem_cons, List.not_mem_nil, or_false] at hu
  obtain ⟨e, _, h⟩ := hu
  rcases h with rfl | rfl | rfl | rfl | rfl | rfl | rfl | rfl | rfl <;> rfl
theorem LogA.fr {w w' : World} {U T : Nat → Prop} {p b : Nat} {es : List EnV} (h : LogA w U p b es) (f : Fr T w w') (hd : ∀ k, k < w.heap.size → U k → ¬ T k) : LogA w' U p b es := by
  obtain ⟨A, n, c, h1, h2, h3, h4, h5⟩ := h
  exact ⟨A, n, c, h1, h2.fr f (hd p h2.lt h4), own_fr h3 f (fun g hg => hd g (own_lt h3 hg) (h5 g hg).1), h4, h5⟩
theorem LogA.fr0 {w w' : World} {U : Nat → Prop} {p b : Nat} {es : List EnV} (h : LogA w U p b es) (f : Fr noB w w') : LogA w' U p b es := h.fr f (fun _ _ _ => id)
theorem LogA.mono {w : World} {U V : Nat → Prop} {p b : Nat} {es : List EnV} (h : LogA w U p b es) (hd : ∀ k, k < w.heap.size → U k → V k) : LogA w V p b es := by
  obtain ⟨A, n, c, h1, h2, h3, h4, h5⟩ := h
  exact ⟨A, n, c, h1, h2, h3, hd p h2.lt h4, fun g hg => ⟨hd g (own_lt h3 hg) (h5 g hg).1, (h5 g hg).2⟩⟩
theorem LogA.lt {w : World} {U : Nat → Prop} {p b : Nat} {es : List EnV} (h : LogA w U p b es) : p < w.heap.size := by
  obtain ⟨A, n, c, h1, h2, _⟩ := h; exact h2.lt
set_option maxRecDepth 100000 in
theorem newL_calls (w : World) (b : Nat) : Calls Tryd.prog 22 #[.int .u64 b] w (fun e w' => e = .returned (.pointer (some ⟨w.heap.size, 0, none⟩)) ∧ LogA w' (upB w.heap.size) w.heap.size (min b 1099511627776) [] ∧ Fr noB w w') := by
  have HM : Hid (min b 1099511627776 = if b ≤ 1099511627776 then b else 1099511627776) := by unfold Hid; split <;> omega
  generalize min b 1099511627776 = m at *
  have hnew : ∀ m : Nat, LogA (w.alloc (.cells #[.int .u64 m, .slice none 0 0] 120)) (upB w.heap.size) w.heap.size m [] := fun m =>
    ⟨none, 0, 0, rfl, BlkAt.new _ _ _, World.ownsRow_nil _ _ _ _, Nat.le_refl _, fun g hg => by simp [Value.ownBlock] at hg⟩
  by_cases h : b ≤ 1099511627776
  · rw [if_pos h] at HM
    have d1 : decide ((b : Int) < 1099511627776) = true ∨ (b : Int) = 1099511627776 := by simp; omega
    have hmin : min (b : Int) 1099511627776 = b := by omega
    go_enter Tryd.func22, Tryd.ntmps22
    go_wp2_with fail
    go_ret
    rw [HM.out]
    exact ⟨rfl, hnew b, (Fr.refl noB w).alloc _⟩
  · rw [if_neg h] at HM
    have hmin : min (b : Int) 1099511627776 = 1099511627776 := by omega
    go_enter Tryd.func22, Tryd.ntmps22
    go_wp2_with fail
    go_ret
    rw [HM.out]
    exact ⟨rfl, hnew _, (Fr.refl noB w).alloc _⟩
set_option maxRecDepth 100000 in
theorem lastL_calls (w : World) (U : Nat → Prop) (p b : Nat) (es : List EnV) (h : LogA w U p b es) (hl : lastL b es < 18446744073709551616) : Calls Tryd.prog 23 #[.pointer (some ⟨p, 0, none⟩)] w (fun e w' => e = .returned (.int .u64 (lastL b es)) ∧ Fr noB w w') := by
  obtain ⟨A, n, c, h1, h2, h3, h4, h5⟩ := h
  have HL : Hid (lastL b es = b + n) := by unfold Hid lastL; rw [h1.out]
  have hw : IntKind.u64.wrap (n : Int) = n := by have := HL.out; rw [IntKind.wrap_u64]; omega
  have hw2 : IntKind.u64.wrap ((b : Int) + n) = lastL b es := by have := HL.out; rw [IntKind.wrap_u64]; omega
  generalize lastL b es = v at *
  clear h3 h5 hl
  go_enter Tryd.func23, Tryd.ntmps23
  go_wp2_with fail
  apply wp_region_calm (R := Fr noB) (C := fun _ w' => Fr noB w w') [false, false, false, false, false, false, false, false, false, false, false, false]
    [eqv _, eqv _, eqv _, eqv _, eqv _, eqv _, eqv _, eqv _, eqv _, eqv _, eqv _, eqv _]
    (by kernel_rfl) (by kernel_rfl) (fun _ _ _ h1 h2 => h1.then' h2) ((Fr.refl _ _).drew) ((Fr.refl _ _).drew) (by kernel_rfl)
  · refine ⟨?_, ?_, ?_, ?_, ?_, ?_, ?_, ?_, ?_, ?_, ?_, ?_, trivial⟩
    · rw [if_neg (by decide)]; intro kq
      exact calm_mv 0 rfl rfl (Or.inl rfl) (Fr.refl _) (by decide) fun v w hd => hd
    · rw [if_neg (by decide)]; intro kq
      intro a W K hC hd hK
      have d3 : _ = _ := hd 3 (by decide)
      refine wpOp_plain rfl rfl ?_
      go_wp2_with fail
      exact hK _ _ (Fr.refl _ _) hC rfl
    · rw [if_neg (by decide)]; intro kq
      intro a W K hC hd hK
      have d4 : _ = _ := hd 4 (by decide)
      refine wpOp_plain rfl rfl ?_
      obtain ⟨x0, x1, xf⟩ := BlkAt.c2 (h2.fr hC id)
      go_wp2_with fail
      exact hK _ _ (Fr.refl _ _) hC rfl
    · rw [if_neg (by decide)]; intro kq
      intro a W K hC hd hK
      have d5 : _ = _ := hd 5 (by decide)
      refine wpOp_plain rfl rfl ?_
      obtain ⟨x0, x1, xf⟩ := BlkAt.c2 (h2.fr hC id)
      go_wp2_with fail
      exact hK _ _ (Fr.refl _ _) hC rfl
    · rw [if_neg (by decide)]; intro kq
      exact calm_mv 0 rfl rfl (Or.inl rfl) (Fr.refl _) (by decide) fun v w hd => hd
    · rw [if_neg (by decide)]; intro kq
      intro a W K hC hd hK
      have d7 : _ = _ := hd 7 (by decide)
      refine wpOp_plain rfl rfl ?_
      go_wp2_with fail
      exact hK _ _ (Fr.refl _ _) hC rfl
    · rw [if_neg (by decide)]; intro kq
      intro a W K hC hd hK
      have d8 : _ = _ := hd 8 (by decide)
      refine wpOp_plain rfl rfl ?_
      obtain ⟨x0, x1, xf⟩ := BlkAt.c2 (h2.fr hC id)
      go_wp2_with fail
      exact hK _ _ (Fr.refl _ _) hC rfl
    · rw [if_neg (by decide)]; intro kq
      intro a W K hC hd hK
      have d9 : _ = _ := hd 9 (by decide)
      refine wpOp_plain rfl rfl ?_
      obtain ⟨x0, x1, xf⟩ := BlkAt.c2 (h2.fr hC id)
      go_wp2_with fail
      exact hK _ _ (Fr.refl _ _) hC rfl
    · rw [if_neg (by decide)]; intro kq
      intro a W K hC hd hK
      have d10 : _ = _ := hd 10 (by decide)
      refine wpOp_plain rfl rfl ?_
      obtain ⟨x0, x1, xf⟩ := BlkAt.c2 (h2.fr hC id)
      go_wp2_with fail
      exact hK _ _ (Fr.refl _ _) hC rfl
    · rw [if_neg (by decide)]; intro kq
      intro a W K hC hd hK
      have d11 : _ = _ := hd 11 (by decide)
      refine wpOp_plain rfl rfl ?_
      go_wp2_with fail
      exact hK _ _ (Fr.refl _ _) hC rfl
    · rw [if_neg (by decide)]; intro kq
      intro a W K hC hd hK
      have d6 : _ = _ := hd 6 (by decide)
      have d12 : _ = _ := hd 12 (by decide)
      refine wpOp_plain rfl rfl ?_
      go_wp2_with fail
      exact hK _ _ (Fr.refl _ _) hC rfl
    · rw [if_neg (by decide)]; intro kq
      exact calm_mv 13 rfl rfl (Or.inr rfl) (Fr.refl _) (by decide) fun v w hd => hd
  · intro vs w8 fw8 cw8 hV
    have v3 : vs 0 = _ := hV 0 _ _ rfl rfl (by decide)
    have v4 : vs 1 = _ := hV 1 _ _ rfl rfl (by decide)
    have v5 : vs 2 = _ := hV 2 _ _ rfl rfl (by decide)
    have v6 : vs 3 = _ := hV 3 _ _ rfl rfl (by decide)
    have v7 : vs 4 = _ := hV 4 _ _ rfl rfl (by decide)
    have v8 : vs 5 = _ := hV 5 _ _ rfl rfl (by decide)
    have v9 : vs 6 = _ := hV 6 _ _ rfl rfl (by decide)
    have v10 : vs 7 = _ := hV 7 _ _ rfl rfl (by decide)
    have v11 : vs 8 = _ := hV 8 _ _ rfl rfl (by decide)
    have v12 : vs 9 = _ := hV 9 _ _ rfl rfl (by decide)
    have v13 : vs 10 = _ := hV 10 _ _ rfl rfl (by decide)
    have v2 : vs 11 = _ := hV 11 _ _ rfl rfl (by decide)
    clear hV
    simp only [putL, Act.put, Nat.reduceAdd, List.setIfInBounds_toArray, List.set_cons_zero, List.set_cons_succ, v3, v4, v5, v6, v7, v8, v9, v10, v11, v12, v13, v2]
    go_wp2_with fail
    go_ret
    exact ⟨rfl, fw8⟩
set_option maxRecDepth 100000 in
theorem lenL_calls (w : World) (U : Nat → Prop) (p b : Nat) (es : List EnV) (h : LogA w U p b es) : Calls Tryd.prog 26 #[.pointer (some ⟨p, 0, none⟩)] w (fun e w' => e = .returned (.int .i64 es.length) ∧ Fr noB w w') := by
  obtain ⟨A, n, c, h1, h2, h3, h4, h5⟩ := h
  obtain ⟨x0, x1, xf⟩ := BlkAt.c2 h2
  rw [h1.out]
  clear h2 h3 h5
  go_enter Tryd.func26, Tryd.ntmps26
  go_wp2_with fail
  go_ret
  exact ⟨rfl, Fr.refl _ _⟩
set_option maxRecDepth 100000 in
theorem baseL_calls (w : World) (U : Nat → Prop) (p b : Nat) (es : List EnV) (h : LogA w U p b es) : Calls Tryd.prog 28 #[.pointer (some ⟨p, 0, none⟩)] w (fun e w' => e = .returned (.int .u64 b) ∧ Fr noB w w') := by
  obtain ⟨A, n, c, h1, h2, h3, h4, h5⟩ := h
  obtain ⟨x0, x1, xf⟩ := BlkAt.c2 h2
  clear h2 h3 h5
  go_enter Tryd.func28, Tryd.ntmps28
  go_wp2_with fail
  go_ret
  exact ⟨rfl, Fr.refl _ _⟩
set_option maxRecDepth 100000 in
theorem fullL_calls (w : World) (U : Nat → Prop) (p b : Nat) (es : List EnV) (h : LogA w U p b es) : Calls Tryd.prog 30 #[.pointer (some ⟨p, 0, none⟩)] w (fun e w' => e = .returned (.bool (decide (16 ≤ es.length))) ∧ Fr noB w w') := by
  obtain ⟨A, n, c, h1, h2, h3, h4, h5⟩ := h
  obtain ⟨x0, x1, xf⟩ := BlkAt.c2 h2
  rw [h1.out]
  obtain ⟨v, hv⟩ : ∃ v, decide ((16 : Int) ≤ n) = v := ⟨_, rfl⟩
  have hd : decide (16 ≤ n) = v := by rw [← hv]; exact decide_eq_decide.2 (by omega)
  rw [hd]
  clear h2 h3 h5 hd
  go_enter Tryd.func30, Tryd.ntmps30
  go_wp2_with fail
  go_ret
  exact ⟨rfl, Fr.refl _ _⟩
def oneE (n : Nat) : EnV := ⟨n, 0, 1, n, ⟨15, ⟨#[]⟩, ⟨#[]⟩, 0, 0⟩⟩
set_option maxRecDepth 100000 in
theorem one_calls (w : World) (n : Nat) : Calls Tryd.prog 29 #[.int .u64 n] w (fun e w' => e = .returned (oneE n).v ∧ Fr noB w w') := by
  have hr : Hid (Tryd.f29.results = #[.cell 2 42]) := by unfold Hid; kernel_rfl
  go_enter Tryd.func29, Tryd.ntmps29
  go_wp2_with fail
  have hb := BlkAt.new w #[.int .u64 n, .int .u64 0, .int .u8 1, .int .u64 n, .int .u8 15, .string ⟨#[]⟩, .string ⟨#[]⟩, .int .u8 0, .int .u8 0] 42
  have f := (Fr.refl noB w).alloc (.cells #[.int .u64 n, .int .u64 0, .int .u8 1, .int .u64 n, .int .u8 15, .string ⟨#[]⟩, .string ⟨#[]⟩, .int .u8 0, .int .u8 0] 42)
  generalize w.alloc (.cells #[.int .u64 n, .int .u64 0, .int .u8 1, .int .u64 n, .int .u8 15, .string ⟨#[]⟩, .string ⟨#[]⟩, .int .u8 0, .int .u8 0] 42) = wa at *
  obtain ⟨x0, x1, x2, x3, x4, x5, x6, x7, x8, xf⟩ := BlkAt.c9 hb
  have hr := hr.out
  exact bodyPost_ret (v := (oneE n).v) (by simp [results, hr, go_sem, x0, x1, x2, x3, x4, x5, x6, x7, x8, oneE, EnV.v]) rfl ⟨rfl, f⟩
end Go.Proofs.YtcaihinenfnekaaDoor
/- A region that draws its order, and the state may speak of all slots' values. Written by a small program out of the elder rule's text. -/
namespace Go.Proofs.YtcaihinenfnekaaDoor.H
open Go.RowKit Go.Proofs.YtcaihinenfnekaaDoor
section
variable {P : Program} {ops : Array Oper} {Q : Exit → Act → World → Prop} {R : World → World → Prop}
def upd (ν : Tmp → Value) (d : Option Tmp) (v : Value) : Tmp → Value := fun t => if d = some t then v else ν t
def lookV : List Oper → (Nat → Value) → Nat → (Tmp → Value) → Tmp → Value
  | [], _, _, ν => ν
  | o :: l, vs, i, ν => lookV l vs (i + 1) (upd ν o.dst (vs i))
theorem upd_put (a : Act) (d : Option Tmp) (v : Value) (hd : ∀ t, d = some t → t < a.tmps.size) : (fun t => (a.put d v).eval (.tmp t)) = upd (fun t => a.eval (.tmp t)) d v := by
  funext t
  unfold upd
  by_cases hg : d = some t
  · rw [if_pos hg, hg, eval_put_same _ _ _ (hd t hg)]
  · rw [if_neg hg, eval_put_ne _ _ _ _ hg]
theorem lookV_eq : ∀ (l : List Oper) (vs : Nat → Value) (i : Nat) (a : Act), (∀ (j : Nat) o d, l[j]? = some o → o.dst = some d → d < a.tmps.size) → (fun t => (putL l vs i a).eval (.tmp t)) = lookV l vs i (fun t => a.eval (.tmp t))
  | [], _, _, _, _ => rfl
  | o :: l, vs, i, a, hd => by
    unfold putL lookV
    rw [← upd_put a o.dst (vs i) (fun t ht => hd 0 o t rfl ht)]
    exact lookV_eq l vs (i + 1) (a.put o.dst (vs i)) (fun j o' d hj hd' => by
      have hsz : (a.put o.dst (vs i)).tmps.size = a.tmps.size := by cases o.dst <;> simp [Act.put]
      rw [hsz]; exact hd (j + 1) o' d (by simpa using hj) hd')
/-- One operation's part. -/
def CalmOp (P : Program) (ops : Array Oper) (Q : Exit → Act → World → Prop) (C : Nat → (Tmp → Value) → World → Prop) (Vs : List (Stb R)) (a0 : Act) (i : Nat) (V : Stb R) (o : Oper) (k k' : Nat) : Prop :=
  ∀ (a : Act) (w : World) (K : Act → World → Prop), C k (fun t => a.eval (.tmp t)) w → (∀ t, t ∈ o.looksAt ops → slotD ops.toList Vs a0 t (a.tmps[t]?.getD undef) w) →
    (∀ v w', R w w' → C k' (upd (fun t => a.eval (.tmp t)) o.dst v) w' → V.V v w' → K (a.put o.dst v) w') → wpOp P ops Q i K a w


/-- All operations' parts. -/
def CalmAll (P : Program) (ops : Array Oper) (Q : Exit → Act → World → Prop) (C : Nat → (Tmp → Value) → World → Prop) (Vs : List (Stb R)) (a0 : Act) : Nat → Nat → List Oper → List (Stb R) → List Bool → Prop
  | i, r, o :: l, V :: Ws, s :: st => (if s = true then CalmOp P ops Q C Vs a0 i V o r (r + 1) else ∀ k, CalmOp P ops Q C Vs a0 i V o k k) ∧ CalmAll P ops Q C Vs a0 (i + 1) (stepR s r) l Ws st
  | _, _, [], [], [] => True
  | _, _, _, _, _ => False


theorem calmAll_get {C : Nat → (Tmp → Value) → World → Prop} {Vs : List (Stb R)} {a0 : Act} : ∀ (l : List Oper) (Ws : List (Stb R)) (st : List Bool) (i r : Nat), CalmAll P ops Q C Vs a0 i r l Ws st →
    l.length = Ws.length ∧ l.length = st.length ∧ ∀ j o, l[j]? = some o → ∃ V s, Ws[j]? = some V ∧ st[j]? = some s ∧
      (if s = true then CalmOp P ops Q C Vs a0 (i + j) V o (r + rank st j) (r + rank st j + 1) else ∀ k, CalmOp P ops Q C Vs a0 (i + j) V o k k)
  | [], [], [], i, r, _ => ⟨rfl, rfl, fun j o h => by simp at h⟩
  | o :: l, V :: Ws, s :: st, i, r, h => by
    obtain ⟨h1, h2⟩ := h
    obtain ⟨e1, e2, e3⟩ := calmAll_get l Ws st (i + 1) _ h2
    refine ⟨by simp [e1], by simp [e2], fun j o' hj => ?_⟩
    cases j with
    | zero =>
      simp at hj; subst hj
      exact ⟨V, s, rfl, rfl, by simpa [rank] using h1⟩
    | succ j =>
      obtain ⟨V', s', g1, g2, g3⟩ := e3 j o' (by simpa using hj)
      refine ⟨V', s', by simpa using g1, by simpa using g2, ?_⟩
      have er : rank (s :: st) (j + 1) = (if s = true then 1 else 0) + rank st j := by
        unfold rank; rw [List.take_succ_cons, List.count_cons]; cases s <;> simp <;> omega
      rw [er, show i + (j + 1) = i + 1 + j from by omega]
      cases s
      · simpa [stepR] using g3
      · rw [if_pos rfl, ← Nat.add_assoc]; exact g3
  | [], _ :: _, _, _, _, h => h.elim
  | [], [], _ :: _, _, _, h => h.elim
  | _ :: _, [], _, _, _, h => h.elim
  | _ :: _, _ :: _, [], _, _, h => h.elim


structure CalmInv (ops : Array Oper) (C : Nat → (Tmp → Value) → World → Prop) (Vs : List (Stb R)) (a0 : Act) (st : List Bool) (w0 : World) (listed : Array Bool) (a : Act) (w : World) (k : Nat) : Prop where
  size : listed.size = ops.size
  closed : ∀ i o, ops[i]? = some o → listed.getD i false = true → ∀ e ∈ o.after, Region.binds .any e = true → listed.getD e.on false = true
  defers : a.defers = a0.defers
  tsize : a.tmps.size = a0.tmps.size
  old : ∀ t, (∀ i o, ops[i]? = some o → listed.getD i false = true → o.dst ≠ some t) → a.eval (.tmp t) = a0.eval (.tmp t)
  new : ∀ i o V d, ops[i]? = some o → Vs[i]? = some V → listed.getD i false = true → o.dst = some d → V.V (a.eval (.tmp d)) w
  state : C k (fun t => a.eval (.tmp t)) w
  upto : ∀ j, st[j]? = some true → (listed.getD j false = true ↔ rank st j < k)
  base : R w0 w
  kle : k ≤ rank st ops.size


theorem calm_step {C : Nat → (Tmp → Value) → World → Prop} {Vs : List (Stb R)} {a0 : Act} {st : List Bool} {w0 : World} (hB : CalmOK ops st) (hall : CalmAll P ops Q C Vs a0 0 0 ops.toList Vs st)
    (htr : ∀ a b c, R a b → R b c → R a c) (hds : ∀ (i : Nat) o d, ops[i]? = some o → o.dst = some d → d < a0.tmps.size)
    {listed : Array Bool} {a : Act} {w : World} {k : Nat} (hI : CalmInv ops C Vs a0 st w0 listed a w k) {i : Nat} (hi : i ∈ Region.ready .any ops listed)
    {K : Act → World → Prop} (hK : ∀ a' w' k', CalmInv ops C Vs a0 st w0 (listed.setIfInBounds i true) a' w' k' → K a' w') : wpOp P ops Q i K a w := by
  obtain ⟨_, hBd, hBs, hBn⟩ := hB
  obtain ⟨hl1, hl2, hget⟩ := calmAll_get ops.toList Vs st 0 0 hall
  obtain ⟨hun, o, ho, haft⟩ := mem_ready.1 hi
  have hlt : i < ops.size := (Array.getElem?_eq_some_iff.1 ho).1
  have hun' : listed.getD i false = false := by
    have : i < listed.size := by rw [hI.size]; exact hlt
    simp [this] at hun ⊢; exact hun
  obtain ⟨V, s, hV, hs, hop⟩ := hget i o (by simpa using ho)
  have deps : ∀ t, t ∈ o.looksAt ops → slotD ops.toList Vs a0 t (a.tmps[t]?.getD undef) w := fun t ht => by
    rw [← eval_get]
    refine slotD_of _ _ hl1 (fun j p V' hj hV' hd => ?_) (fun hn => ?_)
    · obtain ⟨e, he, hb, hej⟩ := hBd i j o p t ho (by simpa using hj) hd ht
      exact hI.new j p V' t (by simpa using hj) hV' (by rw [← hej]; exact haft e he hb) hd
    · rw [← eval_get]; exact hI.old t fun j p hj _ => hn j p (by simpa using hj)
  have key : ∀ k', (s = true → k' = k + 1) → (s = false → k' = k) → (s = true → rank st i = k) → ∀ v w', R w w' → C k' (upd (fun t => a.eval (.tmp t)) o.dst v) w' → V.V v w' → K (a.put o.dst v) w' := by
    intro k' hk1 hk0 hrk v w' hR hC0 hv
    have hC : C k' (fun t => (a.put o.dst v).eval (.tmp t)) w' := by
      have e : (fun t => (a.put o.dst v).eval (.tmp t)) = upd (fun t => a.eval (.tmp t)) o.dst v := by
        funext t
        unfold upd
        by_cases hg : o.dst = some t
        · rw [if_pos hg, hg, eval_put_same _ _ _ (by rw [hI.tsize]; exact hds i o t ho hg)]
        · rw [if_neg hg, eval_put_ne _ _ _ _ hg]
      rw [e]; exact hC0
    refine hK _ _ k' ⟨by simp [hI.size], fun j p hj hlj e he hb => ?_, ?_, ?_, fun t hn => ?_, fun j p V' d hj hV' hlj hd => ?_, hC, fun j hj => ?_, htr _ _ _ hI.base hR, ?_⟩
    · rw [getD_set _ _ _ (by rw [hI.size]; exact hlt)] at hlj ⊢
      simp only [Bool.or_eq_true, decide_eq_true_eq] at hlj ⊢
      rcases hlj with rfl | hlj
      · rw [ho] at hj; cases hj; exact .inr (haft e he hb)
      · exact .inr (hI.closed j p hj hlj e he hb)
    · rw [← hI.defers]; cases o.dst <;> rfl
    · rw [← hI.tsize]; cases o.dst <;> simp [Act.put]
    · have hne : o.dst ≠ some t := hn i o ho (by rw [getD_set _ _ _ (by rw [hI.size]; exact hlt)]; simp)
      rw [eval_put_ne _ _ _ _ hne]
      exact hI.old t fun j p hj hlj => hn j p hj (by rw [getD_set _ _ _ (by rw [hI.size]; exact hlt), hlj]; simp)
    · rw [getD_set _ _ _ (by rw [hI.size]; exact hlt)] at hlj
      by_cases hij : i = j
      · subst hij
        rw [ho] at hj; cases hj
        rw [hV] at hV'; cases hV'
        rw [hd, eval_put_same _ _ _ (by rw [hI.tsize]; exact hds i o d ho hd)]
        exact hv
      · simp only [hij, decide_false, Bool.false_or] at hlj
        have hne : o.dst ≠ some d := by
          intro e
          -- two operations that write one slot
          have h1 : (ops.toList.filterMap (·.dst)).Nodup := hBn
          obtain ⟨hi1, hi2⟩ := Array.getElem?_eq_some_iff.1 ho
          obtain ⟨hj1, hj2⟩ := Array.getElem?_eq_some_iff.1 hj
          exact nodup_dst _ h1 i j o p d (by simpa using ho) (by simpa using hj) e hd hij
        rw [eval_put_ne _ _ _ _ hne]
        exact V'.st _ _ _ (hI.new j p V' d hj hV' hlj hd) hR
    · rw [getD_set _ _ _ (by rw [hI.size]; exact hlt)]
      simp only [Bool.or_eq_true, decide_eq_true_eq]
      have hu := hI.upto j hj
      cases s with
      | true =>
        rw [hk1 rfl]
        by_cases hij : i = j
        · subst hij; have := hrk rfl; simp; omega
        · have : rank st j ≠ k := by
            rw [← hrk rfl]
            rcases Nat.lt_or_gt_of_ne hij with h | h
            · have := rank_lt st h hs; omega
            · have := rank_lt st h hj; omega
          simp only [hij, false_or, hu]; omega
      | false =>
        rw [hk0 rfl]
        have hij : i ≠ j := by rintro rfl; rw [hs] at hj; cases hj
        simp only [hij, false_or, hu]
    · cases s with
      | true =>
        rw [hk1 rfl, ← hrk rfl]
        have := rank_mono st (show i + 1 ≤ ops.size by omega)
        rw [rank_succ, if_pos hs] at this; exact this
      | false => rw [hk0 rfl]; exact hI.kle
  cases s with
  | true =>
    have hrk : rank st i = k := by
      have h1 := hI.upto i hs
      rw [hun'] at h1
      have h2 : ¬ rank st i < k := fun h => by simpa using h1.2 h
      have := hBs listed k i o ho hs hI.closed haft hI.upto
      omega
    rw [if_pos rfl, Nat.zero_add, Nat.zero_add, hrk] at hop
    exact hop a w K hI.state deps (key (k + 1) (fun _ => rfl) (fun h => by cases h) (fun _ => hrk))
  | false =>
    simp only [Bool.false_eq_true, if_false] at hop
    rw [Nat.zero_add] at hop
    exact hop k a w K hI.state deps (key k (fun h => by cases h) (fun _ => rfl) (fun h => by cases h))


theorem calm_any {C : Nat → (Tmp → Value) → World → Prop} {Vs : List (Stb R)} {a0 : Act} {st : List Bool} {w0 : World} (hB : CalmOK ops st) (hall : CalmAll P ops Q C Vs a0 0 0 ops.toList Vs st)
    (htr : ∀ a b c, R a b → R b c → R a c) (hds : ∀ (i : Nat) o d, ops[i]? = some o → o.dst = some d → d < a0.tmps.size)
    (hQ : ∀ listed a w k, CalmInv ops C Vs a0 st w0 listed a w k → (∀ i, i < ops.size → listed.getD i false = true) → Q .normal a w) :
    ∀ (fuel : Nat) (listed : Array Bool) (a : Act) (w : World) (k : Nat), CalmInv ops C Vs a0 st w0 listed a w k →
      ((List.range ops.size).filter fun i => !listed.getD i false).length ≤ fuel → wpAny P .any ops Q fuel listed a w := by
  have hfull : ∀ listed : Array Bool, listed.size = ops.size → Region.ready .any ops listed = [] → ∀ i, i < ops.size → listed.getD i false = true := by
    intro listed hsz hr i
    induction i using Nat.strongRecOn with
    | _ i ih =>
      intro hi
      rcases hl : listed.getD i false with _ | _
      · exfalso
        have : i ∈ Region.ready .any ops listed := mem_ready.2 ⟨by
            have h2 : i < listed.size := by rw [hsz]; exact hi
            simp [h2] at hl ⊢; exact hl, ops[i], by simp [hi], fun e he hb => by
            have h3 := hB.bl i ops[i] (by simp [hi]) e he hb
            exact ih e.on h3 (by omega)⟩
        rw [hr] at this; cases this
      · rfl
  intro fuel
  induction fuel with
  | zero =>
    intro listed a w k hI hlen
    have hnone : ∀ i, i < ops.size → listed.getD i false = true := fun i hi => by
      have h0 := List.eq_nil_of_length_eq_zero (Nat.le_zero.1 hlen)
      have := List.filter_eq_nil_iff.1 h0 i (List.mem_range.2 hi)
      simpa using this
    refine ⟨?_, hQ listed a w k hI hnone⟩
    rw [List.eq_nil_iff_forall_not_mem]
    intro i hi
    obtain ⟨h1, o, ho, _⟩ := mem_ready.1 hi
    have hlt : i < ops.size := (Array.getElem?_eq_some_iff.1 ho).1
    have h2 := hnone i hlt
    have h3 : i < listed.size := by rw [hI.size]; exact hlt
    simp [h3] at h1 h2; rw [h1] at h2; cases h2
  | succ fuel ih =>
    intro listed a w k hI hlen
    refine ⟨fun hr => hQ listed a w k hI (hfull listed hI.size hr), fun i hi => ?_⟩
    refine calm_step hB hall htr hds hI hi fun a' w' k' hI' => ih _ a' w' k' hI' ?_
    obtain ⟨h1, o, ho, _⟩ := mem_ready.1 hi
    have hlt : i < ops.size := (Array.getElem?_eq_some_iff.1 ho).1
    have hsz : i < listed.size := by rw [hI.size]; exact hlt
    have hne : listed.getD i false = false := by simp [hsz] at h1 ⊢; exact h1
    have : ((List.range ops.size).filter fun j => !(listed.setIfInBounds i true).getD j false).length < ((List.range ops.size).filter fun j => !listed.getD j false).length := by
      have e : ((List.range ops.size).filter fun j => !(listed.setIfInBounds i true).getD j false) = ((List.range ops.size).filter fun j => !listed.getD j false).filter fun j => !decide (i = j) := by
        rw [List.filter_filter]
        congr 1; funext j
        rw [getD_set _ _ _ hsz, Bool.not_or]
      rw [e]
      refine List.length_filter_lt_length_iff_exists.2 ⟨i, List.mem_filter.2 ⟨List.mem_range.2 hlt, by rw [hne]; rfl⟩, by simp⟩
    omega


/-- THE RULE: a region that draws its order. -/
theorem wp_region_calm' {id : Nat} {l : List Oper} {C : Nat → (Tmp → Value) → World → Prop} {a : Act} {w : World} (st : List Bool) (Vs : List (Stb R)) (hm : P.follows .mixedOrders = true) (hB : CalmOK l.toArray st)
    (htr : ∀ a b c, R a b → R b c → R a c) (h0 : R w w.drew) (hC : C 0 (fun t => a.eval (.tmp t)) w.drew) (hds : l.all (fun o => (o.dst.map fun d => decide (d < a.tmps.size)).getD true) = true)
    (hall : CalmAll P l.toArray Q C Vs a 0 0 l Vs st)
    (hfin : ∀ (vs : Nat → Value) (w' : World), R w w' → C (rank st l.length) (lookV l vs 0 (fun t => a.eval (.tmp t))) w' → (∀ (i : Nat) o V, l[i]? = some o → Vs[i]? = some V → o.dst ≠ none → V.V (vs i) w') → Q .normal (putL l vs 0 a) w') :
    (Code.region id l.toArray true).wp P Q a w := by
  have hds' : ∀ (i : Nat) o d, l.toArray[i]? = some o → o.dst = some d → d < a.tmps.size := fun i o d hi hd => by
    have := List.all_eq_true.1 hds o (List.mem_of_getElem? (by simpa using hi))
    rw [hd] at this; simpa using this
  have hall' : CalmAll P l.toArray Q C Vs a 0 0 l.toArray.toList Vs st := hall
  have hrep : ∀ i, (Array.replicate l.toArray.size false).getD i false = false := fun i => by
    rw [Array.getD_eq_getD_getElem?, Array.getElem?_replicate]; split <;> rfl
  refine wp_region_any hm (calm_any (w0 := w) (k := 0) hB hall' htr hds' ?_ _ _ _ _ ⟨by simp, ?_, rfl, rfl, fun _ _ => rfl, ?_, hC, ?_, h0, Nat.zero_le _⟩ ?_)
  · intro listed a' w' k hI hfull
    obtain ⟨hl1, hl2, hget⟩ := calmAll_get l Vs st 0 0 hall
    have hBn : (l.filterMap (·.dst)).Nodup := hB.bn
    have hk : k = rank st l.length := by
      have h1 := hI.kle
      simp only [List.size_toArray] at h1
      rcases Nat.lt_or_ge k (rank st l.length) with h | h
      · obtain ⟨j, hj1, hj2, hj3⟩ := rank_hit st l.length k h
        have := (hI.upto j hj2).1 (hfull j (by simpa using hj1)); omega
      · omega
    obtain ⟨p1, p2, p3, p4⟩ := putL_spec l (fun i => ((l[i]?).bind (·.dst)).elim undef fun d => a'.eval (.tmp d)) 0 a hBn (fun j o d hj hd => hds' j o d (by simpa using hj) hd)
    have hlist : ∀ {j : Nat} {o : Oper}, l[j]? = some o → listed.getD j false = true := fun hj => hfull _ (by simpa using (List.getElem?_eq_some_iff.1 hj).1)
    have e : a' = putL l (fun i => ((l[i]?).bind (·.dst)).elim undef fun d => a'.eval (.tmp d)) 0 a := by
      refine act_ext (hI.defers.trans p1.symm) (hI.tsize.trans p2.symm) fun t => ?_
      by_cases ht : ∃ (j : Nat) (o : Oper), l[j]? = some o ∧ o.dst = some t
      · obtain ⟨j, o, hj, hd⟩ := ht
        rw [p3 j o t hj hd, Nat.zero_add, hj]
        simp [hd]
      · have hn : ∀ (j : Nat) (o : Oper), l[j]? = some o → o.dst ≠ some t := fun j o hj hd => ht ⟨j, o, hj, hd⟩
        rw [p4 t hn]
        exact hI.old t fun j o hj _ => hn j o (by simpa using hj)
    have hst : C (rank st l.length) (lookV l (fun i => ((l[i]?).bind (·.dst)).elim undef fun d => a'.eval (.tmp d)) 0 (fun t => a.eval (.tmp t))) w' := by
      rw [← lookV_eq l _ 0 a (fun j o d hj hd => hds' j o d (by simpa using hj) hd), ← e, ← hk]; exact hI.state
    rw [e]
    refine hfin _ w' hI.base hst fun i o V hi hV hne => ?_
    cases hd : o.dst with
    | none => exact absurd hd hne
    | some d =>
      have := hI.new i o V d (by simpa using hi) hV (hlist hi) hd
      simpa [hi, hd] using this
  · intro i o _ h; rw [hrep] at h; cases h
  · intro i o V d _ _ h; rw [hrep] at h; cases h
  · intro j _; rw [hrep]; simp
  · simpa using List.length_filter_le _ (List.range l.length)


/-- The rule with levels. -/
theorem wp_region_calmL {id : Nat} {l : List Oper} {C : Nat → (Tmp → Value) → World → Prop} {a : Act} {w : World} (st : List Bool) (lv : List Nat) (Vs : List (Stb R)) (hm : P.follows .mixedOrders = true) (hB : calmL l.toArray st lv = true)
    (htr : ∀ a b c, R a b → R b c → R a c) (h0 : R w w.drew) (hC : C 0 (fun t => a.eval (.tmp t)) w.drew) (hds : l.all (fun o => (o.dst.map fun d => decide (d < a.tmps.size)).getD true) = true)
    (hall : CalmAll P l.toArray Q C Vs a 0 0 l Vs st)
    (hfin : ∀ (vs : Nat → Value) (w' : World), R w w' → C (rank st l.length) (lookV l vs 0 (fun t => a.eval (.tmp t))) w' → (∀ (i : Nat) o V, l[i]? = some o → Vs[i]? = some V → o.dst ≠ none → V.V (vs i) w') → Q .normal (putL l vs 0 a) w') :
    (Code.region id l.toArray true).wp P Q a w :=
  wp_region_calm' st Vs hm (calmL_ok hB) htr h0 hC hds hall hfin


theorem calm_mv {C : Nat → (Tmp → Value) → World → Prop} {Vs : List (Stb R)} {a0 : Act} {i k : Nat} {V : Stb R} {o : Oper} (t : Tmp) (hi : ops[i]? = some o) (hg : o.guard = none) (ho : o.op = .move (.tmp t) ∨ o.op = .assign (.tmp t)) (hng : ∀ ν v w, C k ν w → C k (upd ν o.dst v) w) (hR : ∀ w, R w w) (ht : t ∈ o.looksAt ops)
    (hV : ∀ (v : Value) (w : World), slotD ops.toList Vs a0 t v w → V.V v w) : CalmOp P ops Q C Vs a0 i V o k k := by
  intro a w K hC hd hK
  refine calm_run hi hg (a.eval (.tmp t)) (w' := w) ?_ (hK _ _ (hR w) (hng _ _ _ hC) (hV _ w (by rw [eval_get]; exact hd t ht)))
  rcases ho with ho | ho <;> simp [execOp, ho]
end
end Go.Proofs.YtcaihinenfnekaaDoor.H
/- slices.Clone of entries; Append. -/
namespace Go.Proofs.YtcaihinenfnekaaDoor
open Go.RowKit

theorem Tryd.appE : AppTy Tryd.prog 33 42 (.agg #[.int .u64 0, .int .u64 0, .int .u8 0, .int .u64 0, .int .u8 0, .string ⟨#[]⟩, .string ⟨#[]⟩, .int .u8 0, .int .u8 0]) 9 80 := ⟨Tryd.underlying33, by kernel_rfl, rfl, by decide⟩
/-- append, as one operation. -/
theorem op_app {P : Program} {o : Oper} {a : Act} {w : World} {K : Act → World → Prop} {Q : Exit → Act → World → Prop} {t e : TypeId} {z : Value} {size bytes : Nat} (A : AppTy P t e z size bytes)
    (s x : Operand) (ho : o.op = .call { callee := .builtin .append, args := #[s, x], argTypes := #[t, t] })
    (v : Value) (n : Nat) (xs : List Value) (hs : a.eval s = v) (hown : w.ownsRow 0 e size v n xs)
    (B : Option Addr) (m c : Nat) (news : List Value) (hx : a.eval x = .slice B m c) (hl : news.length = m * size) (hnews : RowAt w B news) (h1 : ∀ u ∈ news, u.oneCell' = true)
    (hB : B ≠ none) (hbytes : (n + m) * bytes ≤ 140737488355328) (h63 : n + m ≤ 140737488355328)
    (h : ∀ A' c' w', w'.ownsRow 0 e size (.slice A' (n + m) c') (n + m) (xs ++ news) → w.grownBy w' v.ownBlock → ((Value.slice A' (n + m) c').ownBlock = v.ownBlock ∨ (Value.slice A' (n + m) c').ownBlock = some w.heap.size) → K (a.put o.dst (.slice A' (n + m) c')) w') :
    o.wp P a w K Q := by
  obtain ⟨i, hi, hz, hsz, hby⟩ := info_parts A.info
  have hm : n + m ≤ maxLen := by unfold maxLen; omega
  cases B with
  | none => exact absurd rfl hB
  | some ad =>
    obtain ⟨v', w', hr, h2, h3, _, h5⟩ := run_append_own_at (P := P) w 0 t o.type e i z size bytes A.und hi hz hsz hby A.zs A.pos v n xs hown ad m c news hl (fun j u hu => hnews.cell hu) h1 hm hbytes (Nat.zero_le _)
    obtain ⟨A', c', rfl⟩ := own_slice h2
    unfold Oper.wp execOp
    simp only [ho, resolve, invoke, builtin, Sem.run_bind, Sem.run_pure, Result.andThen_ok, List.map_toArray, List.map_cons, List.map_nil, hs, hx, hr]
    exact h A' c' w' h2 h3 h5
set_option maxRecDepth 100000 in
theorem cloneE_calls (w : World) (B : Option Addr) (n cap : Nat) (es : List EnV) (hx : RowAt w B (es.flatMap EnV.C)) (HN : Hid (es.length = n)) (hB : B = none → n = 0 ∧ cap = 0) (hl : n ≤ 1000000000000) :
    Calls Tryd.prog 73 #[.slice B n cap] w (fun e w' => ∃ A c, e = .returned (.slice A n c) ∧ w'.ownsRow w.heap.size 42 9 (.slice A n c) n (es.flatMap EnV.C) ∧ Fr noB w w') := by
  have hlen := flatE_length es
  rw [HN.out] at hlen
  have hone := flatE_one es
  have heq := fun (w : World) (a : Option Addr) (n c : Nat) => Lib.run_eql_slice_nil (P := Tryd.prog) w 33 42 a n c 0 0 Tryd.underlying33
  generalize es.flatMap EnV.C = xs at *
  cases B with
  | none =>
    obtain ⟨rfl, rfl⟩ := hB rfl
    have hxs : xs = [] := List.eq_nil_of_length_eq_zero (by omega)
    subst hxs
    clear hlen
    go_enter Tryd.func73, Tryd.ntmps73
    go_wp2
    go_ret
    exact ⟨none, 0, rfl, World.ownsRow_nil _ _ _ _, Fr.refl _ _⟩
  | some ad =>
    have hown : (w.alloc (.cells #[] 42)).ownsRow 0 42 9 (.slice (some ⟨w.heap.size, 0, none⟩) 0 0) 0 [] := World.ownsRow_made w #[] 0 (Nat.zero_le _) (by unfold maxLen; omega) rfl
    have hx2 : RowAt (w.alloc (.cells #[] 42)) (some ad) xs := hx.fr0 ((Fr.refl noB w).alloc _)
    have hl' : Hid (n ≤ 1000000000000) := hl
    have HLN := hid hlen
    clear hl hlen
    go_enter Tryd.func73, Tryd.ntmps73
    go_wp2_with (at_builtin; refine wpList_app Tryd.appE rfl (.tmp 5) (.tmp 6) rfl _ 0 [] rfl hown (some ad) n cap xs rfl HLN.out hx2 hone (by simp) (by have := hl'.out; omega) (by have := hl'.out; omega) ?_)
    intro A' c' w1 hown' hg hat
    go_wp2
    go_ret
    have hat' : ∃ k, (Value.slice A' n c').ownBlock = some k ∧ w.heap.size ≤ k := by
      rcases hat with e | e
      · exact ⟨_, e, Nat.le_refl _⟩
      · exact ⟨_, e, by simp⟩
    refine ⟨A', c', rfl, own_mono hown' ?_, ?_⟩
    · obtain ⟨k, e, hk⟩ := hat'
      intro g hg; rw [e] at hg; cases hg; exact hk
    · refine Fr.grown ((Fr.refl noB w).alloc _) hg (fun k hk => Or.inr ?_)
      simp [Value.ownBlock] at hk; omega

/-! ### Append -/
def AppS (p : Nat) (v : Value) : Nat → Prop := fun k => k = p ∨ v.ownBlock = some k
def AppC (n0 p b n : Nat) (v : Value) (xs ys : List Value) : Nat → Value → World → Prop
  | 0, _, W => BlkAt W p 120 #[.int .u64 b, v] ∧ W.ownsRow 0 42 9 v n xs
  | 1, _, W => BlkAt W p 120 #[.int .u64 b, v] ∧ W.ownsRow 0 42 9 v n xs
  | 2, u, W => BlkAt W p 120 #[.int .u64 b, v] ∧ ∃ A c, u = .slice A (n + 1) c ∧ W.ownsRow 0 42 9 (.slice A (n + 1) c) (n + 1) ys ∧ ∀ g, (Value.slice A (n + 1) c).ownBlock = some g → v.ownBlock = some g ∨ n0 ≤ g
  | _, _, W => ∃ A c, BlkAt W p 120 #[.int .u64 b, .slice A (n + 1) c] ∧ W.ownsRow 0 42 9 (.slice A (n + 1) c) (n + 1) ys ∧ ∀ g, (Value.slice A (n + 1) c).ownBlock = some g → v.ownBlock = some g ∨ n0 ≤ g
theorem AppC.fr0 {n0 p b n : Nat} {v : Value} {xs ys : List Value} {q : Nat} {u : Value} {W W' : World} (h : AppC n0 p b n v xs ys q u W) (f : Fr noB W W') : AppC n0 p b n v xs ys q u W' := by
  match q, h with
  | 0, h => exact ⟨h.1.fr f id, own_fr h.2 f (fun _ _ => id)⟩
  | 1, h => exact ⟨h.1.fr f id, own_fr h.2 f (fun _ _ => id)⟩
  | 2, h => obtain ⟨h1, A, c, h2, h3, h4⟩ := h; exact ⟨h1.fr f id, A, c, h2, own_fr h3 f (fun _ _ => id), h4⟩
  | q + 3, h => obtain ⟨A, c, h1, h3, h4⟩ := h; exact ⟨A, c, h1.fr f id, own_fr h3 f (fun _ _ => id), h4⟩
/-- A new row of one element. -/
def OneS (n0 : Nat) (S : Nat → Prop) (hS : ∀ k, n0 ≤ k → ¬ S k) (xs : List Value) : Stb (Fr S) :=
  ⟨fun v W => ∃ q, v = .slice (some ⟨q, 0, none⟩) 1 1 ∧ RowAt W (some ⟨q, 0, none⟩) xs ∧ n0 ≤ q,
   fun _ _ _ ⟨q, h1, h2, h3⟩ f => ⟨q, h1, h2.fr f (fun ad e _ _ => by cases e; exact hS q h3), h3⟩⟩
set_option maxRecDepth 100000 in
set_option maxHeartbeats 1600000 in
theorem appL_calls (w : World) (U : Nat → Prop) (p b : Nat) (es : List EnV) (e : EnV) (ht : SignsAt w) (h : LogA w U p b es) (hU : ∀ k, w.heap.size ≤ k → U k) (hgd : GoodL b es) (hw : e.wf) (ha : e.o.a.size ≤ 1000000000000) (hb : e.o.b.size ≤ 1000000000000) :
    Calls Tryd.prog 24 #[.pointer (some ⟨p, 0, none⟩), e.v] w
      (fun ed w' => ed = .returned (.int .i64 ((appL b es e).2 : Nat)) ∧ LogA w' U p b (appL b es e).1 ∧ Fr U w w') := by
  have HV : Hid (appL b es e = if checkE e ≠ 0 then (es, checkE e) else if e.op ≠ lastL b es + 1 then (es, 12) else if 16 ≤ es.length then (es, 7) else (es ++ [e], 0)) := rfl
  have hck := fun W (hx : Fr noB w W) => checkEn_calls W e (ht.fr0 hx) hw ha hb
  have hll := hgd.last
  have hla := fun W (hx : LogA W U p b es) => lastL_calls W U p b es hx (by omega)
  have hfl := fun W (hx : LogA W U p b es) => fullL_calls W U p b es hx
  have f0 : Fr noB w (w.alloc (.cells #[.int .u64 e.op, .int .u64 e.view, .int .u8 e.cl, .int .u64 e.num, .int .u8 e.o.k, .string e.o.a, .string e.o.b, .int .u8 e.o.n, .int .u8 e.o.r] 42)) := (Fr.refl noB w).alloc _
  have hb0 : BlkAt (w.alloc (.cells #[.int .u64 e.op, .int .u64 e.view, .int .u8 e.cl, .int .u64 e.num, .int .u8 e.o.k, .string e.o.a, .string e.o.b, .int .u8 e.o.n, .int .u8 e.o.r] 42)) w.heap.size 42 #[.int .u64 e.op, .int .u64 e.view, .int .u8 e.cl, .int .u64 e.num, .int .u8 e.o.k, .string e.o.a, .string e.o.b, .int .u8 e.o.n, .int .u8 e.o.r] := BlkAt.new _ _ _
  have hplt := h.lt
  have hop := hw.op
  have hfl1 : (es ++ [e]).flatMap EnV.C = es.flatMap EnV.C ++ [.int .u64 e.op, .int .u64 e.view, .int .u8 e.cl, .int .u64 e.num, .int .u8 e.o.k, .string e.o.a, .string e.o.b, .int .u8 e.o.n, .int .u8 e.o.r] := by simp [EnV.C]
  have hone : ∀ u ∈ ([.int .u64 e.op, .int .u64 e.view, .int .u8 e.cl, .int .u64 e.num, .int .u8 e.o.k, .string e.o.a, .string e.o.b, .int .u8 e.o.n, .int .u8 e.o.r] : List Value), u.oneCell' = true := by have := flatE_one [e]; simpa [EnV.C] using this
  have hw16 := hgd.few
  have hv : e.v = .agg #[.int .u64 e.op, .int .u64 e.view, .int .u8 e.cl, .int .u64 e.num, .int .u8 e.o.k, .string e.o.a, .string e.o.b, .int .u8 e.o.n, .int .u8 e.o.r] := rfl
  rw [hv] at hck ⊢
  clear hv hw ha hb ht hgd
  have HSN : Hid (∀ n, es.length = n → (es ++ [e]).length = n + 1) := fun n h => by rw [List.length_append, h]; rfl
  obtain ⟨op, view, cl, num, k, oa, ob, on, or⟩ := e
  have H0 := h
  obtain ⟨A, n, c, hn, hB, hO, hUp, hgp⟩ := h
  have hsn := HSN.out n hn.out
  rw [hn.out] at HV hw16
  have hfd : ∀ W, LogA W U p b es → Calls Tryd.prog 30 #[.pointer (some ⟨p, 0, none⟩)] W (fun e w' => e = .returned (.bool (decide (16 ≤ n))) ∧ Fr noB W w') := fun W hx => by
    have := hfl W hx; rwa [hn.out] at this
  simp only [] at *
  generalize es ++ [(⟨op, view, cl, num, k, oa, ob, on, or⟩ : EnV)] = es1 at *
  generalize checkE ⟨op, view, cl, num, k, oa, ob, on, or⟩ = cv at *
  generalize appL b es ⟨op, view, cl, num, k, oa, ob, on, or⟩ = res at *
  generalize lastL b es = la at *
  have hw2 : IntKind.u64.wrap ((la : Int) + 1) = la + 1 := by rw [IntKind.wrap_u64]; omega
  obtain ⟨c2, hc2⟩ : ∃ c, ((op : Int) != (la : Int) + 1) = c := ⟨_, rfl⟩
  have hd2 : Hid (c2 = true ↔ op ≠ la + 1) := by rw [← hc2]; unfold Hid; rw [bne_iff_ne]; omega
  go_enter Tryd.func24, Tryd.ntmps24
  go_upto_region 1 with fail
  generalize (w.alloc (.cells #[.int .u64 op, .int .u64 view, .int .u8 cl, .int .u64 num, .int .u8 k, .string oa, .string ob, .int .u8 on, .int .u8 or] 42)) = wa at *
  obtain ⟨x0, x1, x2, x3, x4, x5, x6, x7, x8, xf⟩ := BlkAt.c9 hb0
  go_wp2_with fail
  refine (hck wa f0).mono ?_
  rintro ed w1 ⟨rfl, f1⟩
  have F1 := f0.then' f1
  replace hb0 := hb0.fr f1 id
  clear x0 x1 x2 x3 x4 x5 x6 x7 x8 xf hck f1 f0
  by_cases hcv : cv = 0
  · rw [if_neg (by omega)] at HV
    subst hcv
    go_wp2_with fail
    apply wp_region_calm (R := Fr noB) (C := fun _ w' => Fr noB w1 w') [false, false, false, false, false, false, false]
      [eqv _, eqv _, eqv _, eqv _, eqv _, eqv _, eqv _]
      (by kernel_rfl) (by kernel_rfl) (fun _ _ _ h1 h2 => h1.then' h2) ((Fr.refl _ _).drew) ((Fr.refl _ _).drew) (by kernel_rfl)
    · refine ⟨?_, ?_, ?_, ?_, ?_, ?_, ?_, trivial⟩
      · rw [if_neg (by decide)]; intro kq
        intro a W K hC hd hK
        have d3 : a.tmps[3]?.getD undef = .pointer (some ⟨w.heap.size, 0, none⟩) := hd 3 (by decide)
        refine wpOp_plain rfl rfl ?_
        obtain ⟨x0, x1, x2, x3, x4, x5, x6, x7, x8, xf⟩ := BlkAt.c9 (hb0.fr hC id)
        go_wp2_with fail
        exact hK _ _ (Fr.refl _ _) hC rfl
      · rw [if_neg (by decide)]; intro kq
        intro a W K hC hd hK
        have d13 : _ = _ := hd 13 (by decide)
        refine wpOp_plain rfl rfl ?_
        obtain ⟨x0, x1, x2, x3, x4, x5, x6, x7, x8, xf⟩ := BlkAt.c9 (hb0.fr hC id)
        go_wp2_with fail
        exact hK _ _ (Fr.refl _ _) hC rfl
      · rw [if_neg (by decide)]; intro kq
        exact calm_mv 0 rfl rfl (Or.inl rfl) (Fr.refl _) (by decide) fun v w hd => hd
      · rw [if_neg (by decide)]; intro kq
        intro a W K hC hd hK
        have d15 : _ = _ := hd 15 (by decide)
        refine wpOp_plain rfl rfl ?_
        obtain ⟨x0, x1, x2, x3, x4, x5, x6, x7, x8, xf⟩ := BlkAt.c9 (hb0.fr hC id)
        go_wp2_with fail
        refine (hla W (H0.fr0 (F1.then' hC))).mono ?_
        rintro e9 w9 ⟨rfl, f9⟩
        exact hK _ _ f9 (hC.then' f9) rfl
      · rw [if_neg (by decide)]; intro kq
        intro a W K hC hd hK
        have d16 : _ = _ := hd 16 (by decide)
        refine wpOp_plain rfl rfl ?_
        go_wp2_with fail
        exact hK _ _ (Fr.refl _ _) hC rfl
      · rw [if_neg (by decide)]; intro kq
        intro a W K hC hd hK
        have d14 : _ = _ := hd 14 (by decide)
        have d17 : _ = _ := hd 17 (by decide)
        refine wpOp_plain rfl rfl ?_
        go_wp2_with fail
        exact hK _ _ (Fr.refl _ _) hC rfl
      · rw [if_neg (by decide)]; intro kq
        exact calm_mv 18 rfl rfl (Or.inr rfl) (Fr.refl _) (by decide) fun v w hd => hd
    · intro vs w2 fw2 cw2 hV
      have v13 : vs 0 = _ := hV 0 _ _ rfl rfl (by decide)
      have v14 : vs 1 = _ := hV 1 _ _ rfl rfl (by decide)
      have v15 : vs 2 = _ := hV 2 _ _ rfl rfl (by decide)
      have v16 : vs 3 = _ := hV 3 _ _ rfl rfl (by decide)
      have v17 : vs 4 = _ := hV 4 _ _ rfl rfl (by decide)
      have v18 : vs 5 = _ := hV 5 _ _ rfl rfl (by decide)
      have v12 : vs 6 = _ := hV 6 _ _ rfl rfl (by decide)
      clear hV
      simp only [putL, Act.put, Nat.reduceAdd, List.setIfInBounds_toArray, List.set_cons_zero, List.set_cons_succ, v13, v14, v15, v16, v17, v18, v12]
      have F2 := F1.then' fw2
      replace hb0 := hb0.fr fw2 id
      clear F1 fw2 cw2 hla
      cases c2 with
      | true =>
        rw [if_pos (hd2.out.1 rfl)] at HV
        go_wp2_with fail
        go_ret
        rw [HV.out]
        exact ⟨rfl, H0.fr0 F2, F2.mono fun _ _ h => h.elim⟩
      | false =>
        rw [if_neg (fun h => by have := hd2.out.2 h; cases this)] at HV
        go_wp2_with fail
        refine (hfd w2 (H0.fr0 F2)).mono ?_
        rintro ed w3 ⟨rfl, f3⟩
        have F3 := F2.then' f3
        replace hb0 := hb0.fr f3 id
        clear F2 f3 hfd hfl
        by_cases h16 : 16 ≤ n
        · rw [if_pos h16] at HV
          rw [decide_eq_true h16]
          go_wp2_with fail
          go_ret
          rw [HV.out]
          exact ⟨rfl, H0.fr0 F3, F3.mono fun _ _ h => h.elim⟩
        · rw [if_neg h16] at HV
          rw [decide_eq_false h16]
          have hB3 := hB.fr F3 id
          have hO3 := own_fr hO F3 (fun _ _ => id)
          have hs3 := F3.size
          have hog : ∀ g, (Value.slice A n c).ownBlock = some g → g < w.heap.size := fun g hg => own_lt hO hg
          have hS : ∀ k, w3.heap.size ≤ k → ¬ AppS p (.slice A n c) k := fun k hk h => by
            rcases h with h | h
            · omega
            · have := hog k h; omega
          have hnS : ¬ AppS p (.slice A n c) w.heap.size := fun h => by
            rcases h with h | h
            · omega
            · have := hog _ h; omega
          generalize es.flatMap EnV.C = xs at *
          go_wp2_with fail
          apply H.wp_region_calmL (R := Fr (AppS p (.slice A n c))) (C := fun q ν W => Fr (AppS p (.slice A n c)) w3 W ∧ BlkAt W w.heap.size 42 #[.int .u64 op, .int .u64 view, .int .u8 cl, .int .u64 num, .int .u8 k, .string oa, .string ob, .int .u8 on, .int .u8 or] ∧ AppC w3.heap.size p b n (.slice A n c) xs (xs ++ [.int .u64 op, .int .u64 view, .int .u8 cl, .int .u64 num, .int .u8 k, .string oa, .string ob, .int .u8 on, .int .u8 or]) q (ν 29) W) [false, false, false, false, true, false, false, true, false, false, true] [0, 0, 0, 0, 0, 0, 0, 1, 2, 2, 2]
            [eqv _, eqv _, eqv _, eqv _, eqv _, eqv _, OneS w3.heap.size (AppS p (.slice A n c)) hS [.int .u64 op, .int .u64 view, .int .u8 cl, .int .u64 num, .int .u8 k, .string oa, .string ob, .int .u8 on, .int .u8 or], anyv, eqv _, eqv _, anyv]
            (by kernel_rfl) (by kernel_rfl) (fun _ _ _ h1 h2 => h1.then' h2) ((Fr.refl _ _).drew) ⟨(Fr.refl _ _).drew, hb0, hB3, own_fr hO3 ((Fr.refl noB _).drew) (fun _ _ => id)⟩ (by kernel_rfl)
          · refine ⟨?_, ?_, ?_, ?_, ?_, ?_, ?_, ?_, ?_, ?_, ?_, trivial⟩
            · rw [if_neg (by decide)]; intro kq
              exact H.calm_mv 0 rfl rfl (Or.inl rfl) (fun _ _ _ h => h) (Fr.refl _) (by decide) fun v w hd => hd
            · rw [if_neg (by decide)]; intro kq
              exact H.calm_mv 0 rfl rfl (Or.inl rfl) (fun _ _ _ h => h) (Fr.refl _) (by decide) fun v w hd => hd
            · rw [if_neg (by decide)]; intro kq
              intro a W K hC hd hK
              have d23 : _ = _ := hd 23 (by decide)
              refine wpOp_plain rfl rfl ?_
              go_wp2_with fail
              exact hK _ _ (Fr.refl _ _) hC rfl
            · rw [if_neg (by decide)]; intro kq
              intro a W K hC hd hK
              have d24 : _ = _ := hd 24 (by decide)
              refine wpOp_plain rfl rfl ?_
              obtain ⟨y0, y1, y2, y3, y4, y5, y6, y7, y8, yf⟩ := BlkAt.c9 hC.2.1
              go_wp2_with fail
              exact hK _ _ (Fr.refl _ _) hC rfl
            · rw [if_pos (by decide)]
              intro a W K hC hd hK
              replace hC : (fun q ν W => Fr (AppS p (.slice A n c)) w3 W ∧ BlkAt W w.heap.size 42 #[.int .u64 op, .int .u64 view, .int .u8 cl, .int .u64 num, .int .u8 k, .string oa, .string ob, .int .u8 on, .int .u8 or] ∧ AppC w3.heap.size p b n (.slice A n c) xs (xs ++ [.int .u64 op, .int .u64 view, .int .u8 cl, .int .u64 num, .int .u8 k, .string oa, .string ob, .int .u8 on, .int .u8 or]) q (ν 29) W) 0 (fun t => a.eval (.tmp t)) W := hC
              have d25 : _ = _ := hd 25 (by decide)
              refine wpOp_plain rfl rfl ?_
              obtain ⟨y0, y1, y2, y3, y4, y5, y6, y7, y8, yf⟩ := BlkAt.c9 hC.2.1
              obtain ⟨x0, x1, xf⟩ := BlkAt.c2 hC.2.2.1
              go_wp2_with fail
              exact hK _ _ (Fr.refl _ _) ⟨hC.1, hC.2.1, hC.2.2⟩ rfl
            · rw [if_neg (by decide)]; intro kq
              intro a W K hC hd hK
              have d3 : a.tmps[3]?.getD undef = .pointer (some ⟨w.heap.size, 0, none⟩) := hd 3 (by decide)
              refine wpOp_plain rfl rfl ?_
              obtain ⟨y0, y1, y2, y3, y4, y5, y6, y7, y8, yf⟩ := BlkAt.c9 hC.2.1
              go_wp2_with fail
              exact hK _ _ (Fr.refl _ _) hC rfl
            · rw [if_neg (by decide)]; intro kq
              intro a W K hC hd hK
              have d27 : _ = _ := hd 27 (by decide)
              refine wpOp_plain rfl rfl ?_
              go_wp2_with fail
              have fs := (Fr.refl (AppS p (.slice A n c)) W).alloc (.cells #[.int .u64 op, .int .u64 view, .int .u8 cl, .int .u64 num, .int .u8 k, .string oa, .string ob, .int .u8 on, .int .u8 or] 42)
              have fn := (Fr.refl noB W).alloc (.cells #[.int .u64 op, .int .u64 view, .int .u8 cl, .int .u64 num, .int .u8 k, .string oa, .string ob, .int .u8 on, .int .u8 or] 42)
              exact hK _ _ fs ⟨hC.1.then' fs, hC.2.1.fr fn id, hC.2.2.fr0 fn⟩ ⟨W.heap.size, rfl, new_row _ _ _, hC.1.size⟩
            · rw [if_pos (by decide)]
              intro a W K hC hd hK
              replace hC : (fun q ν W => Fr (AppS p (.slice A n c)) w3 W ∧ BlkAt W w.heap.size 42 #[.int .u64 op, .int .u64 view, .int .u8 cl, .int .u64 num, .int .u8 k, .string oa, .string ob, .int .u8 on, .int .u8 or] ∧ AppC w3.heap.size p b n (.slice A n c) xs (xs ++ [.int .u64 op, .int .u64 view, .int .u8 cl, .int .u64 num, .int .u8 k, .string oa, .string ob, .int .u8 on, .int .u8 or]) q (ν 29) W) 1 (fun t => a.eval (.tmp t)) W := hC
              have d26 : _ = _ := hd 26 (by decide)
              have d28 : (OneS w3.heap.size (AppS p (.slice A n c)) hS [.int .u64 op, .int .u64 view, .int .u8 cl, .int .u64 num, .int .u8 k, .string oa, .string ob, .int .u8 on, .int .u8 or]).V (a.tmps[28]?.getD undef) W := hd 28 (by decide)
              refine wpOp_plain rfl rfl ?_
              obtain ⟨y0, y1, y2, y3, y4, y5, y6, y7, y8, yf⟩ := BlkAt.c9 hC.2.1
              obtain ⟨q9, d28, hq1, hq2⟩ := d28
              refine op_app Tryd.appE (.tmp 26) (.tmp 28) rfl (.slice A n c) n xs (by rw [eval_get]; exact d26) hC.2.2.2 (some ⟨q9, 0, none⟩) 1 1 [.int .u64 op, .int .u64 view, .int .u8 cl, .int .u64 num, .int .u8 k, .string oa, .string ob, .int .u8 on, .int .u8 or] (by rw [eval_get]; exact d28) rfl hq1 hone (by simp) (by omega) (by omega) ?_
              intro A9 c9 w9 ho9 hg9 hat9
              have fg0 : Fr (fun k => (Value.slice A n c).ownBlock = some k) W w9 := (Fr.refl _ W).grown hg9 (fun k hk => Or.inl hk)
              have fg : Fr (AppS p (.slice A n c)) W w9 := fg0.mono (fun _ _ h => Or.inr h)
              have hsW := hC.1.size
              exact hK _ _ fg ⟨hC.1.then' fg, hC.2.1.fr fg hnS, hC.2.2.1.fr fg0 (fun h => (hgp _ h).2 rfl), A9, c9, rfl, ho9, fun g hg => by rcases hat9 with e9 | e9 <;> rw [e9] at hg <;> first | exact Or.inl hg | (cases hg; exact Or.inr hsW)⟩ trivial
            · rw [if_neg (by decide)]; intro kq
              intro a W K hC hd hK
              have d22 : _ = _ := hd 22 (by decide)
              refine wpOp_plain rfl rfl ?_
              go_wp2_with fail
              exact hK _ _ (Fr.refl _ _) hC rfl
            · rw [if_neg (by decide)]; intro kq
              intro a W K hC hd hK
              have d30 : _ = _ := hd 30 (by decide)
              refine wpOp_plain rfl rfl ?_
              obtain ⟨y0, y1, y2, y3, y4, y5, y6, y7, y8, yf⟩ := BlkAt.c9 hC.2.1
              go_wp2_with fail
              exact hK _ _ (Fr.refl _ _) hC rfl
            · rw [if_pos (by decide)]
              intro a W K hC hd hK
              replace hC : (fun q ν W => Fr (AppS p (.slice A n c)) w3 W ∧ BlkAt W w.heap.size 42 #[.int .u64 op, .int .u64 view, .int .u8 cl, .int .u64 num, .int .u8 k, .string oa, .string ob, .int .u8 on, .int .u8 or] ∧ AppC w3.heap.size p b n (.slice A n c) xs (xs ++ [.int .u64 op, .int .u64 view, .int .u8 cl, .int .u64 num, .int .u8 k, .string oa, .string ob, .int .u8 on, .int .u8 or]) q (ν 29) W) 2 (fun t => a.eval (.tmp t)) W := hC
              have d31 : _ = _ := hd 31 (by decide)
              have d29 : (anyv).V (a.tmps[29]?.getD undef) W := hd 29 (by decide)
              refine wpOp_plain rfl rfl ?_
              obtain ⟨y0, y1, y2, y3, y4, y5, y6, y7, y8, yf⟩ := BlkAt.c9 hC.2.1
              obtain ⟨hc1, A9, c9, hv9, ho9, hw9⟩ := hC.2.2
              have d29' : a.tmps[29]?.getD undef = .slice A9 (n + 1) c9 := by rw [← eval_get]; exact hv9
              obtain ⟨x0, x1, xf⟩ := BlkAt.c2 hc1
              have fs := fr_set1 W p 1 (.slice A9 (n + 1) c9)
              have hset := hc1.set 1 (.slice A9 (n + 1) c9)
              go_wp2_with fail
              exact hK undef _ (fs.mono (fun _ _ h => Or.inl h)) ⟨hC.1.then' (fs.mono (fun _ _ h => Or.inl h)), hC.2.1.fr fs (by unfold eqB; omega), A9, c9, hset, own_fr ho9 fs (fun g hg h => by unfold eqB at h; rcases hw9 g hg with h1 | h1 <;> first | exact (hgp g h1).2 h | omega), hw9⟩ trivial
          · intro vs w8 fw8 cw8 hV
            have v22 : vs 0 = _ := hV 0 _ _ rfl rfl (by decide)
            have v23 : vs 1 = _ := hV 1 _ _ rfl rfl (by decide)
            have v24 : vs 2 = _ := hV 2 _ _ rfl rfl (by decide)
            have v25 : vs 3 = _ := hV 3 _ _ rfl rfl (by decide)
            have v26 : vs 4 = _ := hV 4 _ _ rfl rfl (by decide)
            have v27 : vs 5 = _ := hV 5 _ _ rfl rfl (by decide)
            have v28 : (OneS w3.heap.size (AppS p (.slice A n c)) hS [.int .u64 op, .int .u64 view, .int .u8 cl, .int .u64 num, .int .u8 k, .string oa, .string ob, .int .u8 on, .int .u8 or]).V (vs 6) w8 := hV 6 _ _ rfl rfl (by decide)
            have v29 : (anyv).V (vs 7) w8 := hV 7 _ _ rfl rfl (by decide)
            have v30 : vs 8 = _ := hV 8 _ _ rfl rfl (by decide)
            have v31 : vs 9 = _ := hV 9 _ _ rfl rfl (by decide)
            clear hV
            simp only [putL, Act.put, Nat.reduceAdd, List.setIfInBounds_toArray, List.set_cons_zero, List.set_cons_succ, v22, v23, v24, v25, v26, v27, v30, v31]
            obtain ⟨A9, c9, hb9, ho9, hw9⟩ := cw8.2.2
            clear cw8
            go_wp2_with fail
            go_ret
            rw [HV.out]
            refine ⟨rfl, ⟨A9, n + 1, c9, hsn, hb9, by rw [hfl1]; exact ho9, hUp, fun g hg => ?_⟩, (F3.mono fun _ _ h => h.elim).then' (fw8.mono fun k hk h => ?_)⟩
            · rcases hw9 g hg with h1 | h1
              · exact hgp g h1
              · exact ⟨hU g (by omega), by omega⟩
            · rcases h with h1 | h1
              · subst h1; exact hUp
              · exact (hgp k h1).1
  · rw [if_pos hcv] at HV
    have t1 : ((cv : Int) != 0) = true := by rw [bne_iff_ne]; omega
    clear hcv
    go_wp2_with fail
    go_ret
    rw [HV.out]
    exact ⟨rfl, H0.fr0 F1, F1.mono fun _ _ h => h.elim⟩
end Go.Proofs.YtcaihinenfnekaaDoor
/- log: Trim, From, Copy. -/
namespace Go.Proofs.YtcaihinenfnekaaDoor
open Go.RowKit

theorem RowAt.dropE {w : World} {A : Option Addr} {xs : List Value} (h : RowAt w A xs) (k : Nat) : RowAt w (A.map (·.add k)) (xs.drop k) := fun j u hu => by
  rw [List.getElem?_drop] at hu
  obtain ⟨ad, e, hc⟩ := h _ u hu
  subst e
  exact ⟨_, rfl, by rw [add_add']; exact hc⟩
theorem flatE_drop (es : List EnV) (k : Nat) : (es.drop k).flatMap EnV.C = (es.flatMap EnV.C).drop (k * 9) := by
  induction es generalizing k with
  | nil => simp
  | cons e es ih =>
    cases k with
    | zero => simp
    | succ k =>
      have h9 : (EnV.C e).length = 9 := rfl
      have h0 : (EnV.C e).drop ((k + 1) * 9) = [] := List.drop_eq_nil_of_le (by rw [h9]; omega)
      rw [List.drop_succ_cons, ih k, List.flatMap_cons, List.drop_append, h0, List.nil_append, h9]
      congr 1; omega
theorem ownE_caps {w : World} {base n : Nat} {e : TypeId} {size : Nat} {A : Option Addr} {m c : Nat} {xs : List Value} (h : w.ownsRow base e size (.slice A m c) n xs) : m ≤ c ∧ c ≤ 9223372036854775807 ∧ (∀ ad, A = some ad → base ≤ ad.block) ∧ (A = none → m = 0 ∧ c = 0) := by
  rcases h.2 with ⟨e1, _⟩ | ⟨g, cap, cur, e1, hb, _, hc, hm, _⟩
  · injection e1 with h0 h1 h2; subst h0 h1 h2; exact ⟨Nat.le_refl _, by decide, fun _ h => (by cases h), fun _ => ⟨rfl, rfl⟩⟩
  · injection e1 with h0 h1 h2; subst h0 h1 h2; exact ⟨hc, Nat.le_trans hm (by decide), fun ad h => (by cases h; exact hb), fun h => (by cases h)⟩
/-- x[k:] of entries. -/
theorem run_sliceE (w : World) (A : Option Addr) (n c k : Nat) (kd : IntKind) (hk : k ≤ n) (hc : n ≤ c) (hA : A = none → n = 0 ∧ c = 0) (es : List EnV) (HN : Hid (es.length = n)) (hx : RowAt w A (es.flatMap EnV.C)) :
    ∃ B d, (Instr.slice 33 (.slice A n c) (some (.int kd k)) none none).run Tryd.prog w = .ok (.slice B (n - k) d) w ∧ n - k ≤ d ∧ (B = none → n - k = 0 ∧ d = 0) ∧ RowAt w B ((es.drop k).flatMap EnV.C) ∧ (∀ ad, B = some ad → ∃ a0, A = some a0 ∧ ad.block = a0.block) := by
  have hu : Tryd.prog.underlying 33 = some (.slice 42) := Tryd.underlying33
  have hs : (sizeOf 42).run Tryd.prog w = .ok 9 w := by kernel_rfl
  have hb : (0 : Int) ≤ k ∧ (k : Int) ≤ n := ⟨by omega, by omega⟩
  refine ⟨if c = k then A else A.map (·.add (k * 9)), c - k, ?_, by omega, fun h => ?_, ?_, fun ad h => ?_⟩
  · simp [Instr.slice, Instr.sliceBounds, Instr.sliceBound, asIntOf, run_underlying hu, hs, hb, go_sem]
    exact fun h => absurd h (by omega)
  · by_cases h1 : c = k
    · rw [if_pos h1] at h; have := hA h; omega
    · rw [if_neg h1] at h
      have := hA (by simpa using h)
      omega
  · by_cases h1 : c = k
    · have h2 : es.drop k = [] := List.drop_eq_nil_of_le (by rw [HN.out]; omega)
      rw [h2]; exact RowAt.nil _ _
    · rw [if_neg h1, flatE_drop]; exact hx.dropE _
  · split at h
    · exact ⟨ad, h, rfl⟩
    · cases A with
      | none => cases h
      | some a0 => simp at h; subst h; exact ⟨a0, rfl, add_block _ _⟩
/-- New entries. -/
def NewE (w : World) (es : List EnV) (e : Ending) (w' : World) : Prop :=
  ∃ A n c, e = .returned (.slice A n c) ∧ Hid (es.length = n) ∧ w'.ownsRow w.heap.size 42 9 (.slice A n c) n (es.flatMap EnV.C) ∧ Fr noB w w'
/-- Entries that lie somewhere, not in p. -/
def SubE (S : Nat → Prop) (es : List EnV) : Stb (Fr S) :=
  ⟨fun v W => ∃ B m d, v = .slice B m d ∧ es.length = m ∧ (B = none → m = 0 ∧ d = 0) ∧ RowAt W B (es.flatMap EnV.C) ∧ ∀ ad, B = some ad → ¬ S ad.block,
   fun _ _ _ ⟨B, m, d, h1, h2, h3, h4, h5⟩ f => ⟨B, m, d, h1, h2, h3, h4.fr f (fun ad e _ _ => h5 ad e), h5⟩⟩
def OwnE (n0 : Nat) (S : Nat → Prop) (hS : ∀ k, n0 ≤ k → ¬ S k) (es : List EnV) : Stb (Fr S) :=
  ⟨fun v W => ∃ A n c, v = .slice A n c ∧ Hid (es.length = n) ∧ W.ownsRow n0 42 9 (.slice A n c) n (es.flatMap EnV.C),
   fun _ _ _ ⟨A, n, c, h1, h2, h3⟩ f => ⟨A, n, c, h1, h2, own_fr h3 f (fun g hg => hS g (h3.lt g hg).1)⟩⟩
set_option maxRecDepth 100000 in
set_option maxHeartbeats 1600000 in
theorem fromL_calls (w : World) (U : Nat → Prop) (p b k : Nat) (es : List EnV) (h : LogA w U p b es) (hgd : GoodL b es) (hk : k < 18446744073709551616) :
    Calls Tryd.prog 25 #[.pointer (some ⟨p, 0, none⟩), .int .u64 k] w (NewE w (fromL b es k)) := by
  have hll := hgd.last
  have hw16 := hgd.few
  have hbb := hgd.base
  have hla := fun W (hx : LogA W U p b es) => lastL_calls W U p b es hx (by omega)
  have H0 := h
  obtain ⟨A, n, c, hn, hB, hO, hUp, hgp⟩ := h
  rw [hn.out] at hw16
  have HLA : Hid (lastL b es = b + n) := by unfold Hid lastL; rw [hn.out]
  by_cases h1 : lastL b es < k
  · have HV : Hid (fromL b es k = []) := by
      unfold Hid fromL; exact List.drop_eq_nil_of_le (by have := HLA.out; rw [hn.out]; omega)
    have t1 : decide (lastL b es < k) = true := decide_eq_true h1
    generalize lastL b es = la at *
    clear h1 hB hO hgp
    go_enter Tryd.func25, Tryd.ntmps25
    go_wp2_with fail
    refine (hla w H0).mono ?_
    rintro ed w1 ⟨rfl, f1⟩
    go_wp2_with fail
    go_ret
    rw [HV.out]
    exact ⟨none, 0, 0, rfl, rfl, World.ownsRow_nil _ _ _ _, f1⟩
  · have t1 : decide (lastL b es < k) = false := decide_eq_false h1
    obtain ⟨m, hm⟩ : ∃ m, max k (b + 1) = m := ⟨_, rfl⟩
    have HV : Hid (fromL b es k = es.drop (m - b - 1)) := by unfold Hid fromL; rw [hm]
    have hmax : max (k : Int) ((b : Int) + 1) = m := by omega
    have hm1 : b + 1 ≤ m := by omega
    have hm2 : m ≤ b + n + 1 := by have := HLA.out; omega
    have hb1 : IntKind.u64.wrap ((b : Int) + 1) = b + 1 := by rw [IntKind.wrap_u64]; omega
    have hb2 : IntKind.u64.wrap ((m : Int) - b) = (m - b : Nat) := by rw [IntKind.wrap_u64]; omega
    have hb3 : IntKind.u64.wrap (((m - b : Nat) : Int) - 1) = (m - b - 1 : Nat) := by rw [IntKind.wrap_u64]; omega
    obtain ⟨hcap1, hcap2, _, hnil⟩ := ownE_caps hO
    have hrow := own_row hO
    have hjn : m - b - 1 ≤ n := by omega
    have HD : Hid ((es.drop (m - b - 1)).length = n - (m - b - 1)) := by unfold Hid; rw [List.length_drop, hn.out]
    generalize fromL b es k = res at *
    generalize lastL b es = la at *
    generalize m - b - 1 = j at *
    generalize m - b = mb at *
    clear h1 hO hgp hm
    go_enter Tryd.func25, Tryd.ntmps25
    go_wp2_with fail
    refine (hla w H0).mono ?_
    rintro ed w1 ⟨rfl, f1⟩
    replace hB := hB.fr f1 id
    replace hrow := hrow.fr0 f1
    go_wp2_with fail
    apply wp_region_calm (R := Fr noB) (C := fun _ w' => Fr noB w1 w') [false, false, false, false, false, false, false, false, false, false, false, false, false, false, false, false, false, false, false, false]
      [eqv _, eqv _, eqv _, eqv _, eqv _, eqv _, eqv _, eqv _, eqv _, eqv _, eqv (.int .u64 m), eqv _, eqv _, eqv _, eqv _, eqv _, eqv _, SubE noB (es.drop j), OwnE w1.heap.size noB (fun _ _ h => h) (es.drop j), OwnE w1.heap.size noB (fun _ _ h => h) (es.drop j)]
      (by kernel_rfl) (by kernel_rfl) (fun _ _ _ h1 h2 => h1.then' h2) ((Fr.refl _ _).drew) ((Fr.refl _ _).drew) (by kernel_rfl)
    · refine ⟨?_, ?_, ?_, ?_, ?_, ?_, ?_, ?_, ?_, ?_, ?_, ?_, ?_, ?_, ?_, ?_, ?_, ?_, ?_, ?_, trivial⟩
      · rw [if_neg (by decide)]; intro kq
        exact calm_mv 0 rfl rfl (Or.inl rfl) (Fr.refl _) (by decide) fun v w hd => hd
      · rw [if_neg (by decide)]; intro kq
        intro a W K hC hd hK
        have d9 : _ = _ := hd 9 (by decide)
        refine wpOp_plain rfl rfl ?_
        go_wp2_with fail
        exact hK _ _ (Fr.refl _ _) hC rfl
      · rw [if_neg (by decide)]; intro kq
        intro a W K hC hd hK
        have d10 : _ = _ := hd 10 (by decide)
        refine wpOp_plain rfl rfl ?_
        obtain ⟨x0, x1, xf⟩ := BlkAt.c2 (hB.fr hC id)
        go_wp2_with fail
        exact hK _ _ (Fr.refl _ _) hC rfl
      · rw [if_neg (by decide)]; intro kq
        intro a W K hC hd hK
        have d11 : _ = _ := hd 11 (by decide)
        refine wpOp_plain rfl rfl ?_
        obtain ⟨x0, x1, xf⟩ := BlkAt.c2 (hB.fr hC id)
        go_wp2_with fail
        exact hK _ _ (Fr.refl _ _) hC rfl
      · rw [if_neg (by decide)]; intro kq
        exact calm_mv 1 rfl rfl (Or.inl rfl) (Fr.refl _) (by decide) fun v w hd => hd
      · rw [if_neg (by decide)]; intro kq
        exact calm_mv 0 rfl rfl (Or.inl rfl) (Fr.refl _) (by decide) fun v w hd => hd
      · rw [if_neg (by decide)]; intro kq
        intro a W K hC hd hK
        have d14 : _ = _ := hd 14 (by decide)
        refine wpOp_plain rfl rfl ?_
        go_wp2_with fail
        exact hK _ _ (Fr.refl _ _) hC rfl
      · rw [if_neg (by decide)]; intro kq
        intro a W K hC hd hK
        have d15 : _ = _ := hd 15 (by decide)
        refine wpOp_plain rfl rfl ?_
        obtain ⟨x0, x1, xf⟩ := BlkAt.c2 (hB.fr hC id)
        go_wp2_with fail
        exact hK _ _ (Fr.refl _ _) hC rfl
      · rw [if_neg (by decide)]; intro kq
        intro a W K hC hd hK
        have d16 : _ = _ := hd 16 (by decide)
        refine wpOp_plain rfl rfl ?_
        obtain ⟨x0, x1, xf⟩ := BlkAt.c2 (hB.fr hC id)
        go_wp2_with fail
        exact hK _ _ (Fr.refl _ _) hC rfl
      · rw [if_neg (by decide)]; intro kq
        intro a W K hC hd hK
        have d17 : _ = _ := hd 17 (by decide)
        refine wpOp_plain rfl rfl ?_
        go_wp2_with fail
        exact hK _ _ (Fr.refl _ _) hC rfl
      · rw [if_neg (by decide)]; intro kq
        intro a W K hC hd hK
        have d13 : _ = _ := hd 13 (by decide)
        have d18 : _ = _ := hd 18 (by decide)
        refine wpOp_plain rfl rfl ?_
        obtain ⟨x0, x1, xf⟩ := BlkAt.c2 (hB.fr hC id)
        go_wp2_with fail
        all_goals (refine hK _ _ (Fr.refl _ _) hC ?_; show Value.int _ _ = Value.int _ _; congr 1; omega)
      · rw [if_neg (by decide)]; intro kq
        exact calm_mv 0 rfl rfl (Or.inl rfl) (Fr.refl _) (by decide) fun v w hd => hd
      · rw [if_neg (by decide)]; intro kq
        intro a W K hC hd hK
        have d20 : _ = _ := hd 20 (by decide)
        refine wpOp_plain rfl rfl ?_
        go_wp2_with fail
        exact hK _ _ (Fr.refl _ _) hC rfl
      · rw [if_neg (by decide)]; intro kq
        intro a W K hC hd hK
        have d21 : _ = _ := hd 21 (by decide)
        refine wpOp_plain rfl rfl ?_
        obtain ⟨x0, x1, xf⟩ := BlkAt.c2 (hB.fr hC id)
        go_wp2_with fail
        exact hK _ _ (Fr.refl _ _) hC rfl
      · rw [if_neg (by decide)]; intro kq
        intro a W K hC hd hK
        have d22 : _ = _ := hd 22 (by decide)
        refine wpOp_plain rfl rfl ?_
        obtain ⟨x0, x1, xf⟩ := BlkAt.c2 (hB.fr hC id)
        go_wp2_with fail
        exact hK _ _ (Fr.refl _ _) hC rfl
      · rw [if_neg (by decide)]; intro kq
        intro a W K hC hd hK
        have d19 : a.tmps[19]?.getD undef = .int .u64 m := hd 19 (by decide)
        have d23 : _ = _ := hd 23 (by decide)
        refine wpOp_plain rfl rfl ?_
        go_wp2_with fail
        exact hK _ _ (Fr.refl _ _) hC rfl
      · rw [if_neg (by decide)]; intro kq
        intro a W K hC hd hK
        have d24 : _ = _ := hd 24 (by decide)
        refine wpOp_plain rfl rfl ?_
        go_wp2_with fail
        exact hK _ _ (Fr.refl _ _) hC rfl
      · rw [if_neg (by decide)]; intro kq
        intro a W K hC hd hK
        have d12 : _ = _ := hd 12 (by decide)
        have d25 : _ = _ := hd 25 (by decide)
        refine wpOp_plain rfl rfl ?_
        obtain ⟨B9, d9, hr9, hd9, hn9, hx9, hb9⟩ := run_sliceE W A n c j .u64 hjn hcap1 hnil es hn (hrow.fr0 hC)
        go_wp2_with fail
        exact hK _ _ (Fr.refl _ _) hC ⟨B9, n - j, d9, rfl, HD.out, hn9, hx9, fun _ _ h => h⟩
      · rw [if_neg (by decide)]; intro kq
        intro a W K hC hd hK
        have d26 : (SubE noB (es.drop j)).V (a.tmps[26]?.getD undef) W := hd 26 (by decide)
        refine wpOp_plain rfl rfl ?_
        obtain ⟨x0, x1, xf⟩ := BlkAt.c2 (hB.fr hC id)
        obtain ⟨B9, m9, d9, d26, hm9, hn9, hx9, _⟩ := d26
        have hcl := cloneE_calls W B9 m9 d9 (es.drop j) hx9 hm9 hn9 (by have := HD.out; omega)
        go_wp2_with fail
        refine hcl.mono ?_
        rintro e9 w9 ⟨A9, c9, rfl, h9, f9⟩
        exact hK _ _ f9 (hC.then' f9) ⟨A9, m9, c9, rfl, hm9, own_mono h9 (fun g hg => Nat.le_trans hC.size (h9.lt g hg).1)⟩
      · rw [if_neg (by decide)]; intro kq
        exact calm_mv 27 rfl rfl (Or.inr rfl) (Fr.refl _) (by decide) fun v w hd => hd
    · intro vs w8 fw8 cw8 hV
      have v9 : vs 0 = _ := hV 0 _ _ rfl rfl (by decide)
      have v10 : vs 1 = _ := hV 1 _ _ rfl rfl (by decide)
      have v11 : vs 2 = _ := hV 2 _ _ rfl rfl (by decide)
      have v12 : vs 3 = _ := hV 3 _ _ rfl rfl (by decide)
      have v13 : vs 4 = _ := hV 4 _ _ rfl rfl (by decide)
      have v14 : vs 5 = _ := hV 5 _ _ rfl rfl (by decide)
      have v15 : vs 6 = _ := hV 6 _ _ rfl rfl (by decide)
      have v16 : vs 7 = _ := hV 7 _ _ rfl rfl (by decide)
      have v17 : vs 8 = _ := hV 8 _ _ rfl rfl (by decide)
      have v18 : vs 9 = _ := hV 9 _ _ rfl rfl (by decide)
      have v19 : vs 10 = .int .u64 m := hV 10 _ _ rfl rfl (by decide)
      have v20 : vs 11 = _ := hV 11 _ _ rfl rfl (by decide)
      have v21 : vs 12 = _ := hV 12 _ _ rfl rfl (by decide)
      have v22 : vs 13 = _ := hV 13 _ _ rfl rfl (by decide)
      have v23 : vs 14 = _ := hV 14 _ _ rfl rfl (by decide)
      have v24 : vs 15 = _ := hV 15 _ _ rfl rfl (by decide)
      have v25 : vs 16 = _ := hV 16 _ _ rfl rfl (by decide)
      have v26 : (SubE noB (es.drop j)).V (vs 17) w8 := hV 17 _ _ rfl rfl (by decide)
      have v27 : (OwnE w1.heap.size noB (fun _ _ h => h) (es.drop j)).V (vs 18) w8 := hV 18 _ _ rfl rfl (by decide)
      have v4 : (OwnE w1.heap.size noB (fun _ _ h => h) (es.drop j)).V (vs 19) w8 := hV 19 _ _ rfl rfl (by decide)
      clear hV
      simp only [putL, Act.put, Nat.reduceAdd, List.setIfInBounds_toArray, List.set_cons_zero, List.set_cons_succ, v9, v10, v11, v12, v13, v14, v15, v16, v17, v18, v19, v20, v21, v22, v23, v24, v25]
      obtain ⟨A8, m8, c8, e8, hm8, h8⟩ := v4
      have F8 := f1.then' fw8
      have hs1 := f1.size
      rw [e8]
      clear cw8 v26 v27 e8
      go_wp2_with fail
      go_ret
      rw [HV.out]
      exact ⟨A8, m8, c8, rfl, hm8, own_mono h8 (fun g hg => Nat.le_trans hs1 (h8.lt g hg).1), F8⟩


/-! ### Trim -/
def TrimC (n0 p b : Nat) (v : Value) (ys : List EnV) : Nat → World → Prop
  | 0, W => BlkAt W p 120 #[.int .u64 b, v]
  | 1, W => BlkAt W p 120 #[.int .u64 b, v]
  | _, W => ∃ A n c, Hid (ys.length = n) ∧ BlkAt W p 120 #[.int .u64 b, .slice A n c] ∧ W.ownsRow n0 42 9 (.slice A n c) n (ys.flatMap EnV.C)
theorem TrimC.fr0 {n0 p b : Nat} {v : Value} {ys : List EnV} {q : Nat} {W W' : World} (h : TrimC n0 p b v ys q W) (f : Fr noB W W') : TrimC n0 p b v ys q W' := by
  match q, h with
  | 0, h => exact BlkAt.fr h f id
  | 1, h => exact BlkAt.fr h f id
  | q + 2, h => obtain ⟨A, n, c, h1, h2, h3⟩ := h; exact ⟨A, n, c, h1, h2.fr f id, own_fr h3 f (fun _ _ => id)⟩
theorem TrimC.blk {n0 p b : Nat} {v : Value} {ys : List EnV} {q : Nat} {W : World} (h : TrimC n0 p b v ys q W) : ∃ u, BlkAt W p 120 #[.int .u64 b, u] := by
  match q, h with
  | 0, h => exact ⟨_, h⟩
  | 1, h => exact ⟨_, h⟩
  | q + 2, h => obtain ⟨A, n, c, _, h2, _⟩ := h; exact ⟨_, h2⟩
set_option maxRecDepth 100000 in
set_option maxHeartbeats 1600000 in
theorem trimL_calls (w : World) (U : Nat → Prop) (p b t : Nat) (es : List EnV) (h : LogA w U p b es) (hU : ∀ k, w.heap.size ≤ k → U k) (hgd : GoodL b es) (htt : t < 18446744073709551616) :
    Calls Tryd.prog 27 #[.pointer (some ⟨p, 0, none⟩), .int .u64 t] w
      (fun ed w' => ed = .returned (.int .i64 ((trimL b es t).2 : Nat)) ∧ LogA w' U p (trimL b es t).1.1 (trimL b es t).1.2 ∧ Fr (eqB p) w w') := by
  have hll := hgd.last
  have hw16 := hgd.few
  have hla := fun W (hx : LogA W U p b es) => lastL_calls W U p b es hx (by omega)
  have H0 := h
  obtain ⟨A, n, c, hn, hB, hO, hUp, hgp⟩ := h
  rw [hn.out] at hw16
  have HLA : Hid (lastL b es = b + n) := by unfold Hid lastL; rw [hn.out]
  have HV : Hid (trimL b es t = if t < b ∨ lastL b es < t then ((b, es), 1) else ((t, es.drop (t - b)), 0)) := rfl
  obtain ⟨c1, hc1⟩ : ∃ c, decide (t < b) = c := ⟨_, rfl⟩
  obtain ⟨c2, hc2⟩ : ∃ c, decide (lastL b es < t) = c := ⟨_, rfl⟩
  have hd : Hid ((c1 = true ∨ c2 = true) ↔ (t < b ∨ lastL b es < t)) := by unfold Hid; rw [← hc1, ← hc2, decide_eq_true_eq, decide_eq_true_eq]
  obtain ⟨hcap1, hcap2, _, hnil⟩ := ownE_caps hO
  have hrow := own_row hO
  have hplt := hB.lt
  generalize trimL b es t = res at *
  generalize lastL b es = la at *
  cases c1 with
  | true =>
    rw [if_pos (hd.out.1 (Or.inl rfl))] at HV
    obtain ⟨x0, x1, xf⟩ := BlkAt.c2 hB
    clear hd hB hO hrow
    go_enter Tryd.func27, Tryd.ntmps27
    go_wp2_with fail
    go_ret
    rw [HV.out]
    exact ⟨rfl, H0, Fr.refl _ _⟩
  | false =>
    cases c2 with
    | true =>
      rw [if_pos (hd.out.1 (Or.inr rfl))] at HV
      obtain ⟨x0, x1, xf⟩ := BlkAt.c2 hB
      clear hd hB hO hrow
      go_enter Tryd.func27, Tryd.ntmps27
      go_wp2_with fail
      refine (hla w H0).mono ?_
      rintro ed w1 ⟨rfl, f1⟩
      go_wp2_with fail
      go_ret
      rw [HV.out]
      exact ⟨rfl, H0.fr0 f1, f1.mono fun _ _ h => h.elim⟩
    | false =>
      have hno : ¬ (t < b ∨ la < t) := fun h => by rcases hd.out.2 h with h | h <;> cases h
      rw [if_neg hno] at HV
      obtain ⟨x0, x1, xf⟩ := BlkAt.c2 hB
      have hbt : b ≤ t ∧ t ≤ b + n := by have := HLA.out; omega
      obtain ⟨j, hj⟩ : ∃ j, t - b = j := ⟨_, rfl⟩
      rw [hj] at HV
      have hb2 : IntKind.u64.wrap ((t : Int) - b) = j := by rw [IntKind.wrap_u64]; omega
      have hjn : j ≤ n := by omega
      have HD : Hid ((es.drop j).length = n - j) := by unfold Hid; rw [List.length_drop, hn.out]
      clear hd hno hj
      go_enter Tryd.func27, Tryd.ntmps27
      go_wp2_with fail
      refine (hla w H0).mono ?_
      rintro ed w1 ⟨rfl, f1⟩
      clear x0 x1 xf
      replace hB := hB.fr f1 id
      replace hrow := hrow.fr0 f1
      have hs1 := f1.size
      have hS : ∀ k, w1.heap.size ≤ k → ¬ eqB p k := fun k hk h => by unfold eqB at h; omega
      have hAp : ∀ ad, A = some ad → ¬ eqB p ad.block := fun ad e h => (hgp ad.block (by subst e; rfl)).2 h
      go_wp2_with fail
      apply wp_region_calm (R := Fr (eqB p)) (C := fun q W => Fr (eqB p) w1 W ∧ RowAt W A (es.flatMap EnV.C) ∧ TrimC w1.heap.size p b (.slice A n c) (es.drop j) q W) [false, false, false, false, true, false, false, false, false, false, false, false, false, false, false, true]
        [eqv _, eqv _, eqv _, eqv _, eqv _, eqv _, eqv _, eqv _, eqv _, eqv _, eqv _, SubE (eqB p) (es.drop j), OwnE w1.heap.size (eqB p) hS (es.drop j), eqv _, eqv _, anyv]
        (by kernel_rfl) (by kernel_rfl) (fun _ _ _ h1 h2 => h1.then' h2) ((Fr.refl _ _).drew) ⟨(Fr.refl _ _).drew, hrow, hB⟩ (by kernel_rfl)
      · refine ⟨?_, ?_, ?_, ?_, ?_, ?_, ?_, ?_, ?_, ?_, ?_, ?_, ?_, ?_, ?_, ?_, trivial⟩
        · rw [if_neg (by decide)]; intro kq
          exact calm_mv 0 rfl rfl (Or.inl rfl) (Fr.refl _) (by decide) fun v w hd => hd
        · rw [if_neg (by decide)]; intro kq
          exact calm_mv 0 rfl rfl (Or.inl rfl) (Fr.refl _) (by decide) fun v w hd => hd
        · rw [if_neg (by decide)]; intro kq
          intro a W K hC hd hK
          have d18 : _ = _ := hd 18 (by decide)
          refine wpOp_plain rfl rfl ?_
          go_wp2_with fail
          exact hK _ _ (Fr.refl _ _) hC rfl
        · rw [if_neg (by decide)]; intro kq
          intro a W K hC hd hK
          have d19 : _ = _ := hd 19 (by decide)
          refine wpOp_plain rfl rfl ?_
          obtain ⟨vq, hbq⟩ := hC.2.2.blk
          obtain ⟨x0, x1, xf⟩ := BlkAt.c2 hbq
          go_wp2_with fail
          exact hK _ _ (Fr.refl _ _) hC rfl
        · rw [if_pos (by decide)]
          intro a W K hC hd hK
          replace hC : (fun q W => Fr (eqB p) w1 W ∧ RowAt W A (es.flatMap EnV.C) ∧ TrimC w1.heap.size p b (.slice A n c) (es.drop j) q W) 0 W := hC
          have d20 : _ = _ := hd 20 (by decide)
          refine wpOp_plain rfl rfl ?_
          obtain ⟨vq, hbq⟩ := hC.2.2.blk
          obtain ⟨x0, x1, xf⟩ := BlkAt.c2 hbq
          clear x0 x1 xf hbq
          obtain ⟨x0, x1, xf⟩ := BlkAt.c2 hC.2.2
          go_wp2_with fail
          exact hK _ _ (Fr.refl _ _) hC rfl
        · rw [if_neg (by decide)]; intro kq
          exact calm_mv 1 rfl rfl (Or.inl rfl) (Fr.refl _) (by decide) fun v w hd => hd
        · rw [if_neg (by decide)]; intro kq
          exact calm_mv 0 rfl rfl (Or.inl rfl) (Fr.refl _) (by decide) fun v w hd => hd
        · rw [if_neg (by decide)]; intro kq
          intro a W K hC hd hK
          have d23 : _ = _ := hd 23 (by decide)
          refine wpOp_plain rfl rfl ?_
          go_wp2_with fail
          exact hK _ _ (Fr.refl _ _) hC rfl
        · rw [if_neg (by decide)]; intro kq
          intro a W K hC hd hK
          have d24 : _ = _ := hd 24 (by decide)
          refine wpOp_plain rfl rfl ?_
          obtain ⟨vq, hbq⟩ := hC.2.2.blk
          obtain ⟨x0, x1, xf⟩ := BlkAt.c2 hbq
          go_wp2_with fail
          exact hK _ _ (Fr.refl _ _) hC rfl
        · rw [if_neg (by decide)]; intro kq
          intro a W K hC hd hK
          have d25 : _ = _ := hd 25 (by decide)
          refine wpOp_plain rfl rfl ?_
          obtain ⟨vq, hbq⟩ := hC.2.2.blk
          obtain ⟨x0, x1, xf⟩ := BlkAt.c2 hbq
          go_wp2_with fail
          exact hK _ _ (Fr.refl _ _) hC rfl
        · rw [if_neg (by decide)]; intro kq
          intro a W K hC hd hK
          have d22 : _ = _ := hd 22 (by decide)
          have d26 : _ = _ := hd 26 (by decide)
          refine wpOp_plain rfl rfl ?_
          go_wp2_with fail
          exact hK _ _ (Fr.refl _ _) hC rfl
        · rw [if_neg (by decide)]; intro kq
          intro a W K hC hd hK
          have d21 : _ = _ := hd 21 (by decide)
          have d27 : _ = _ := hd 27 (by decide)
          refine wpOp_plain rfl rfl ?_
          obtain ⟨B9, d9, hr9, hd9, hn9, hx9, hb9⟩ := run_sliceE W A n c j .u64 hjn hcap1 hnil es hn hC.2.1
          go_wp2_with fail
          exact hK _ _ (Fr.refl _ _) hC ⟨B9, n - j, d9, rfl, HD.out, hn9, hx9, fun ad e h => by obtain ⟨a0, e0, e1⟩ := hb9 ad e; rw [e1] at h; exact hAp a0 e0 h⟩
        · rw [if_neg (by decide)]; intro kq
          intro a W K hC hd hK
          have d28 : (SubE (eqB p) (es.drop j)).V (a.tmps[28]?.getD undef) W := hd 28 (by decide)
          refine wpOp_plain rfl rfl ?_
          obtain ⟨vq, hbq⟩ := hC.2.2.blk
          obtain ⟨x0, x1, xf⟩ := BlkAt.c2 hbq
          obtain ⟨B9, m9, d9, d28, hm9, hn9, hx9, _⟩ := d28
          have hcl := cloneE_calls W B9 m9 d9 (es.drop j) hx9 hm9 hn9 (by have := HD.out; omega)
          go_wp2_with fail
          refine hcl.mono ?_
          rintro e9 w9 ⟨A9, c9, rfl, h9, f9⟩
          exact hK _ _ (f9.mono fun _ _ h => h.elim) ⟨hC.1.then' (f9.mono fun _ _ h => h.elim), hC.2.1.fr0 f9, hC.2.2.fr0 f9⟩ ⟨A9, m9, c9, rfl, hm9, own_mono h9 (fun g hg => Nat.le_trans hC.1.size (h9.lt g hg).1)⟩
        · rw [if_neg (by decide)]; intro kq
          intro a W K hC hd hK
          have d17 : _ = _ := hd 17 (by decide)
          refine wpOp_plain rfl rfl ?_
          go_wp2_with fail
          exact hK _ _ (Fr.refl _ _) hC rfl
        · rw [if_neg (by decide)]; intro kq
          intro a W K hC hd hK
          have d30 : _ = _ := hd 30 (by decide)
          refine wpOp_plain rfl rfl ?_
          obtain ⟨vq, hbq⟩ := hC.2.2.blk
          obtain ⟨x0, x1, xf⟩ := BlkAt.c2 hbq
          go_wp2_with fail
          exact hK _ _ (Fr.refl _ _) hC rfl
        · rw [if_pos (by decide)]
          intro a W K hC hd hK
          replace hC : (fun q W => Fr (eqB p) w1 W ∧ RowAt W A (es.flatMap EnV.C) ∧ TrimC w1.heap.size p b (.slice A n c) (es.drop j) q W) 1 W := hC
          have d31 : _ = _ := hd 31 (by decide)
          have d29 : (OwnE w1.heap.size (eqB p) hS (es.drop j)).V (a.tmps[29]?.getD undef) W := hd 29 (by decide)
          refine wpOp_plain rfl rfl ?_
          obtain ⟨vq, hbq⟩ := hC.2.2.blk
          obtain ⟨x0, x1, xf⟩ := BlkAt.c2 hbq
          obtain ⟨A9, m9, c9, d29, hm9, ho9⟩ := d29
          clear x0 x1 xf hbq
          obtain ⟨x0, x1, xf⟩ := BlkAt.c2 hC.2.2
          have fs := fr_set1 W p 1 (.slice A9 m9 c9)
          have hset := BlkAt.set hC.2.2 1 (.slice A9 m9 c9)
          go_wp2_with fail
          exact hK undef _ fs ⟨hC.1.then' fs, hC.2.1.fr fs (fun ad e h0 _ => hAp ad e), A9, m9, c9, hm9, hset, own_fr ho9 fs (fun g hg => hS g (ho9.lt g hg).1)⟩ trivial
      · intro vs w8 fw8 cw8 hV
        have v17 : vs 0 = _ := hV 0 _ _ rfl rfl (by decide)
        have v18 : vs 1 = _ := hV 1 _ _ rfl rfl (by decide)
        have v19 : vs 2 = _ := hV 2 _ _ rfl rfl (by decide)
        have v20 : vs 3 = _ := hV 3 _ _ rfl rfl (by decide)
        have v21 : vs 4 = _ := hV 4 _ _ rfl rfl (by decide)
        have v22 : vs 5 = _ := hV 5 _ _ rfl rfl (by decide)
        have v23 : vs 6 = _ := hV 6 _ _ rfl rfl (by decide)
        have v24 : vs 7 = _ := hV 7 _ _ rfl rfl (by decide)
        have v25 : vs 8 = _ := hV 8 _ _ rfl rfl (by decide)
        have v26 : vs 9 = _ := hV 9 _ _ rfl rfl (by decide)
        have v27 : vs 10 = _ := hV 10 _ _ rfl rfl (by decide)
        have v28 : (SubE (eqB p) (es.drop j)).V (vs 11) w8 := hV 11 _ _ rfl rfl (by decide)
        have v29 : (OwnE w1.heap.size (eqB p) hS (es.drop j)).V (vs 12) w8 := hV 12 _ _ rfl rfl (by decide)
        have v30 : vs 13 = _ := hV 13 _ _ rfl rfl (by decide)
        have v31 : vs 14 = _ := hV 14 _ _ rfl rfl (by decide)
        clear hV
        simp only [putL, Act.put, Nat.reduceAdd, List.setIfInBounds_toArray, List.set_cons_zero, List.set_cons_succ, v17, v18, v19, v20, v21, v22, v23, v24, v25, v26, v27, v30, v31]
        obtain ⟨A9, m9, c9, hm9, hb9, ho9⟩ := cw8.2.2
        have F8 := (f1.mono (T := eqB p) fun _ _ h => h.elim).then' fw8
        obtain ⟨x0, x1, xf⟩ := BlkAt.c2 hb9
        have fs := fr_set1 w8 p 0 (.int .u64 t)
        have hset := hb9.set 0 (.int .u64 t)
        clear cw8
        go_wp2_with fail
        go_ret
        rw [HV.out]
        refine ⟨rfl, ⟨A9, m9, c9, hm9, hset, own_fr (own_mono ho9 (fun _ _ => Nat.zero_le _)) fs (fun g hg => hS g (ho9.lt g hg).1), hUp, fun g hg => ⟨hU g (by have := (ho9.lt g hg).1; omega), fun e => hS g (ho9.lt g hg).1 e⟩⟩, F8.then' fs⟩
end Go.Proofs.YtcaihinenfnekaaDoor
/- Entries compared. -/
namespace Go.Proofs.YtcaihinenfnekaaDoor
open Go.RowKit
theorem bytes_list (s t : ByteArray) : (s.toList = t.toList) = (s = t) := by
  have := str_eq s t
  apply propext
  constructor
  · intro h; rw [h] at this; simpa using this.symm
  · intro h; rw [h]
theorem nat_int (a b : Nat) : ((a : Int) = b) = (a = b) := propext ⟨fun h => by omega, fun h => by omega⟩
open Classical in
theorem enNeq (w : World) (e f : EnV) : (binOp .neq 42 e.v f.v).run Tryd.prog w = .ok (.bool (!decide (e = f))) w := by
  have h1 : Tryd.prog.stoodInHeld 42 = false := by kernel_rfl
  have h2 : Tryd.prog.underlying 42 = some (.struct (Tryd.prog.fieldsOf 42)) := by kernel_rfl
  have g1 : Tryd.prog.stoodInHeld 40 = false := by kernel_rfl
  have g2 : Tryd.prog.underlying 40 = some (.struct (Tryd.prog.fieldsOf 40)) := by kernel_rfl
  have k1 : Tryd.prog.stoodInHeld 38 = false := by kernel_rfl
  have k2 : Tryd.prog.underlying 38 = some (.struct (Tryd.prog.fieldsOf 38)) := by kernel_rfl
  unfold EnV.v
  rw [run_neq_struct, run_equalIn_struct w 9999 _ _ _ h2 h1]
  simp only [Program.fieldsOf, Tryd.underlying42]
  simp [go_sem]
  simp only [bytes_list, nat_int]
  by_cases h : e = f
  · subst h; simp
  · simp only [h, decide_false, Bool.not_false]
    repeat' split
    all_goals first | rfl | (exfalso; apply h; rw [EnV.eq_iff, OpV.eq_iff]; simp_all)
open Classical in
theorem enNeqR (w : World) (e f : EnV) : (binOp .neq 90 e.v f.v).run Tryd.prog w = .ok (.bool (!decide (e = f))) w := by
  have h1 : Tryd.prog.stoodInHeld 90 = false := by kernel_rfl
  have h2 : Tryd.prog.underlying 90 = some (.struct (Tryd.prog.fieldsOf 90)) := by kernel_rfl
  have g1 : Tryd.prog.stoodInHeld 88 = false := by kernel_rfl
  have g2 : Tryd.prog.underlying 88 = some (.struct (Tryd.prog.fieldsOf 88)) := by kernel_rfl
  have k1 : Tryd.prog.stoodInHeld 69 = false := by kernel_rfl
  have k2 : Tryd.prog.underlying 69 = some (.struct (Tryd.prog.fieldsOf 69)) := by kernel_rfl
  unfold EnV.v
  rw [run_neq_struct, run_equalIn_struct w 9999 _ _ _ h2 h1]
  simp only [Program.fieldsOf, Tryd.underlying90]
  simp [go_sem]
  simp only [bytes_list, nat_int]
  by_cases h : e = f
  · subst h; simp
  · simp only [h, decide_false, Bool.not_false]
    repeat' split
    all_goals first | rfl | (exfalso; apply h; rw [EnV.eq_iff, OpV.eq_iff]; simp_all)
theorem Tryd.gE : Tryd.prog.eqGuardType Tryd.prog.depth 42 = false := by kernel_rfl
theorem Tryd.gR : Tryd.prog.eqGuardType Tryd.prog.depth 90 = false := by kernel_rfl
end Go.Proofs.YtcaihinenfnekaaDoor
/- interrexlaw20.lives; entries in a row that is read. -/
namespace Go.Proofs.YtcaihinenfnekaaDoor
open Go.RowKit

def opUp : OpV := ⟨15, ⟨#[]⟩, ⟨#[]⟩, 0, 0⟩
theorem opUp_wf : opUp.wf := ⟨by decide, by decide, by decide⟩
theorem opUp_bytes : writeB opUp (zOf opUp) = [15] := by decide
theorem opUp_ok : checkV opUp = 0 := by
  unfold checkV
  have h0 : bareFrom opUp (zOf opUp) = opUp := by rw [OpV.eq_iff]; exact ⟨rfl, rfl, rfl, rfl, rfl⟩
  have h1 : bareB opUp = true := by unfold bareB; rw [h0]; simp
  rw [if_neg (by decide), if_neg (by rw [h1]; decide), if_neg (by decide), if_neg (by decide), opUp_bytes, if_neg (by decide)]
theorem oneE_ok {n : Nat} (h1 : 1 ≤ n) (h2 : n ≤ 1099511627776) : checkE (oneE n) = 0 := by
  unfold checkE
  have h3 : checkV (oneE n).o = 0 := opUp_ok
  have e1 : (oneE n).op = n := rfl
  have e2 : (oneE n).view = 0 := rfl
  have e3 : (oneE n).cl = 1 := rfl
  have e4 : (oneE n).num = n := rfl
  rw [e1, e2, e3, e4, h3, if_neg (by omega), if_neg (by decide), if_neg (by omega)]
theorem oneE_wf {n : Nat} (h2 : n < 18446744073709551616) : (oneE n).wf := ⟨h2, by show (0 : Nat) < 18446744073709551616; decide, by show (1 : Nat) < 256; decide, h2, opUp_wf⟩
theorem oneE_a (n : Nat) : (oneE n).o.a.size = 0 := rfl
theorem oneE_b (n : Nat) : (oneE n).o.b.size = 0 := rfl
theorem appL_one {b : Nat} {es : List EnV} (h : GoodL b es) (hl : lastL b es < 1099511627776) : appL b es (oneE (lastL b es + 1)) = if 16 ≤ es.length then (es, 7) else (es ++ [oneE (lastL b es + 1)], 0) := by
  unfold appL
  rw [if_neg (by rw [oneE_ok (by omega) (by omega)]; decide), if_neg (fun h => h rfl)]
set_option maxRecDepth 100000 in
set_option maxHeartbeats 1600000 in
theorem lives20_calls (w : World) (ht : SignsAt w) : Calls Tryd.prog 21 #[] w (BoolPost w true) := by
  have hg0 : GoodL 4 [] := GoodL.new (by decide)
  have hn := newL_calls w 4
  have hm : min 4 1099511627776 = 4 := by decide
  rw [hm] at hn
  have ha0 : appL 4 [] (oneE 5) = ([oneE 5], 0) := by
    have := appL_one hg0 (by decide); simpa [lastL] using this
  have hg1 : GoodL 4 [oneE 5] := by have := hg0.app (oneE_wf (n := 5) (by decide)); rwa [ha0] at this
  have ha1 : appL 4 [oneE 5] (oneE 7) = ([oneE 5], 12) := by
    unfold appL
    rw [if_neg (by rw [oneE_ok (by omega) (by omega)]; decide), if_pos (by show 7 ≠ 4 + 1 + 1; decide)]
  have hc0 := fun W hT h hU => appL_calls W (upB w.heap.size) w.heap.size 4 [] (oneE 5) hT h hU hg0 (oneE_wf (by decide)) (by rw [oneE_a]; decide) (by rw [oneE_b]; decide)
  have hc1 := fun W hT h hU => appL_calls W (upB w.heap.size) w.heap.size 4 [oneE 5] (oneE 7) hT h hU hg1 (oneE_wf (by decide)) (by rw [oneE_a]; decide) (by rw [oneE_b]; decide)
  have hl := fun W h => lastL_calls W (upB w.heap.size) w.heap.size 4 [oneE 5] h (by decide)
  have hll : lastL 4 [oneE 5] = 5 := rfl
  have h5 := fun W => one_calls W 5
  have h7 := fun W => one_calls W 7
  rw [ha0] at hc0
  rw [ha1] at hc1
  rw [hll] at hl
  generalize (oneE 5) = e5 at *
  generalize (oneE 7) = e7 at *
  clear ha0 ha1 hg0 hg1 hll hm
  obtain ⟨o5, v5, c5, n5, k5, a5, b5, m5, r5⟩ := e5
  obtain ⟨o7, v7, c7, n7, k7, a7, b7, m7, r7⟩ := e7
  unfold EnV.v at *
  simp only [] at *
  go_enter Tryd.func21, Tryd.ntmps21
  go_wp2_with fail
  refine hn.mono ?_
  rintro e w1 ⟨rfl, hL1, f1⟩
  have hs1 := f1.size
  go_wp2_with fail
  refine (h5 w1).mono ?_
  rintro e w2 ⟨rfl, f2⟩
  have F2 := f1.then' f2
  have hs2 := F2.size
  go_wp2_with fail
  refine (hc0 w2 (ht.fr0 F2) (hL1.fr0 f2) (fun k hk => by unfold upB; omega)).mono ?_
  rintro e w3 ⟨rfl, hL3, f3⟩
  have F3 : Fr noB w w3 := F2.trans f3 (fun i hi h => by unfold upB at h; omega)
  clear hc0 f1 f2 f3 h5 hn
  go_wp2_with fail
  refine (hl w3 hL3).mono ?_
  rintro e w4 ⟨rfl, f4⟩
  have F4 := F3.then' f4
  go_wp2_with fail
  refine (h7 w4).mono ?_
  rintro e w5 ⟨rfl, f5⟩
  have F5 := F4.then' f5
  have hs5 := F5.size
  go_wp2_with fail
  refine (hc1 w5 (ht.fr0 F5) ((hL3.fr0 f4).fr0 f5) (fun k hk => by unfold upB; omega)).mono ?_
  rintro e w6 ⟨rfl, hL6, f6⟩
  have F6 : Fr noB w w6 := F5.trans f6 (fun i hi h => by unfold upB at h; omega)
  go_wp2_with fail
  go_ret
  exact BoolPost.mk' rfl F6
theorem fromL_zero (b : Nat) (es : List EnV) : fromL b es 0 = es := by
  unfold fromL
  rw [show max 0 (b + 1) - b - 1 = 0 from by omega]; rfl
theorem trimL_at {b k : Nat} {es : List EnV} (h : k ≤ es.length) : trimL b es (b + k) = ((b + k, es.drop k), 0) := by
  unfold trimL lastL
  rw [if_neg (by omega), show b + k - b = k from by omega]
end Go.Proofs.YtcaihinenfnekaaDoor
/- interrexlaw20.LogTrims: the walk. -/
namespace Go.Proofs.YtcaihinenfnekaaDoor
open Go.RowKit
theorem own_row9 {w : World} {base n : Nat} {A : Option Addr} {c : Nat} {es : List EnV} (h : w.ownsRow base 42 9 (.slice A n c) n (es.flatMap EnV.C)) {i : Nat} {e : EnV} (hi : es[i]? = some e) :
    ∃ ad, A = some ad ∧ SegAt w (ad.add (i * 9)) e.C := by
  have hr := own_row h
  obtain ⟨ad, rfl⟩ := hr.some_flat (by simp [EnV.C]) hi
  exact ⟨ad, rfl, hr.seg 9 (fun _ => rfl) hi⟩
set_option maxRecDepth 100000 in
set_option maxHeartbeats 3200000 in
theorem logTrims_walk (w : World) (ht : SignsAt w) (base to : Nat) (A : Option Addr) (n c : Nat) (L : List EnV) (hb : base < 18446744073709551616) (hto : to < 256) (hrow : RowAt w A (L.flatMap EnV.C)) (HN : Hid (L.length = n)) (hnm : n ≤ 9223372036854775807)
    (hwf : ∀ e ∈ L, e.wf) :
    Calls Tryd.prog 4 #[.int .u64 base, .slice A n c, .int .u8 to] w (BoolPost w true) := by
  by_cases h20 : 20 < n
  · have t1 : decide ((20 : Int) < n) = true := decide_eq_true (by omega)
    clear hrow h20
    go_enter Tryd.func4, Tryd.ntmps4
    go_wp2_with fail
    refine (lives20_calls w ht).mono ?_
    rintro e w1 ⟨rfl, f1⟩
    go_wp2_with fail
    refine (lives20_calls w1 (ht.fr0 f1)).mono ?_
    rintro e w2 ⟨rfl, f2⟩
    go_wp2_with fail
    go_ret
    exact BoolPost.mk' rfl (f1.then' f2)
  · have t1 : decide ((20 : Int) < n) = false := decide_eq_false (by omega)
    obtain ⟨b0, hb0⟩ : ∃ b0, base % 549755813888 = b0 := ⟨_, rfl⟩
    have hbi : (base : Int) % 549755813888 = b0 := by omega
    have hbl : b0 < 549755813888 := by omega
    clear h20 hb0
    go_enter Tryd.func4, Tryd.ntmps4
    go_wp2_with fail
    refine (lives20_calls w ht).mono ?_
    rintro e w1 ⟨rfl, f1⟩
    go_wp2_with fail
    refine (newL_calls w1 b0).mono ?_
    rintro e w2 ⟨rfl, hL2, f2⟩
    rw [show min b0 1099511627776 = b0 from by omega] at hL2
    have F2 := f1.then' f2
    have hs1 := f1.size
    have hs2 := f2.size
    have hp2 := hL2.lt
    obtain ⟨p, hp⟩ : ∃ p, w1.heap.size = p := ⟨_, rfl⟩
    rw [hp] at hL2 hs1 hs2 hp2 ⊢
    have hG2 : GoodL b0 [] := GoodL.new (by omega)
    clear f1 f2 hp
    go_wp2_with fail
    go_loopw [29] (fun i wr => ∃ (j : Nat) (es : List EnV), j ≤ n ∧ i = .int .i64 j ∧ LogA wr (upB p) p b0 es ∧ GoodL b0 es ∧ Fr noB w wr) (fun i _ => n - (intOf i).toNat)
    case atStart => exact ⟨0, [], Nat.zero_le _, rfl, hL2, hG2, F2⟩
    case round =>
      clear hL2 hG2 F2
      obtain ⟨j, es, hj, rfl, hL, hG, hf⟩ := hrel
      by_cases hjn : j < n
      · obtain ⟨e, he⟩ : ∃ e, L[j]? = some e := ⟨_, List.getElem?_eq_getElem (by rw [HN.out]; exact hjn)⟩
        obtain ⟨ad, rfl⟩ := hrow.some_flat (by simp [EnV.C]) he
        obtain ⟨x0, x1, x2, x3, x4, x5, x6, x7, x8⟩ := ((hrow.seg 9 (fun _ => rfl) he).fr hf id).c9
        have hwe := hwf e (List.mem_of_getElem? he)
        have hsz := hf.size
        obtain ⟨q, hq⟩ : ∃ q, wr.heap.size = q := ⟨_, rfl⟩
        have hba : BlkAt (wr.alloc (.cells e.C.toArray 42)) q 42 e.C.toArray := by rw [← hq]; exact BlkAt.new _ _ _
        have fa : Fr noB wr (wr.alloc (.cells e.C.toArray 42)) := (Fr.refl noB wr).alloc _
        have hla : LogA (wr.alloc (.cells e.C.toArray 42)) (fun k => p ≤ k ∧ k < q) p b0 es := (hL.mono (V := fun k => p ≤ k ∧ k < q) fun k hk hu => ⟨hu, by omega⟩).fr0 fa
        have hpq : p < q := by have := hL.lt; omega
        have Fa := hf.then' fa
        have hl40 := hG.last
        have hGL := fun (hl : lastL b0 es < 1099511627776) => hl
        have hw16 := hG.few
        have hla1 : lastL b0 es ≤ b0 + 16 := by unfold lastL; omega
        have hlast := fun W h => lastL_calls W (fun k => p ≤ k ∧ k < q) p b0 es h (by omega)
        obtain ⟨op, view, cl, num, ⟨k, oa, ob, on, or⟩⟩ := e
        have hap := fun W hT h hU lo => appL_calls W (upB p) p b0 es ⟨lastL b0 es + 1, view, cl, num, ⟨k, oa, ob, on, or⟩⟩ hT h hU hG ⟨by show lastL b0 es + 1 < 18446744073709551616; omega, hwe.view, hwe.cl, hwe.num, hwe.o⟩ lo
        have hG' : GoodL b0 (appL b0 es ⟨lastL b0 es + 1, view, cl, num, ⟨k, oa, ob, on, or⟩⟩).1 := hG.app ⟨by show lastL b0 es + 1 < 18446744073709551616; omega, hwe.view, hwe.cl, hwe.num, hwe.o⟩
        generalize lastL b0 es = la at *
        have hwr : IntKind.u64.wrap ((la : Int) + 1) = (la + 1 : Nat) := by rw [IntKind.wrap_u64]; omega
        obtain ⟨la1, hla1'⟩ : ∃ x, la + 1 = x := ⟨_, rfl⟩
        rw [hla1'] at hwr hap hG'
        generalize appL b0 es ⟨la1, view, cl, num, ⟨k, oa, ob, on, or⟩⟩ = es' at *
        obtain ⟨es1, r1⟩ := es'
        unfold EnV.C at hba fa hla Fa
        unfold EnV.v at hap
        simp only [] at *
        have HW := hid hwe
        clear hL hf he hwe hl40 hGL hG hla1'
        go_upto_region 8 with fail
        generalize (wr.alloc (.cells #[.int .u64 op, .int .u64 view, .int .u8 cl, .int .u64 num, .int .u8 k, .string oa, .string ob, .int .u8 on, .int .u8 or] 42)) = wa at *
        have hsa := Fa.size
        have hqa := hba.lt
        obtain ⟨y0, y1, y2, y3, y4, y5, y6, y7, y8, yf⟩ := BlkAt.c9 hba
        by_cases hab : 200 < oa.size ∨ 200 < ob.size
        · obtain ⟨c1, hc1⟩ : ∃ c, decide ((200 : Int) < oa.size) = c := ⟨_, rfl⟩
          have hc2 : c1 = false → decide ((200 : Int) < ob.size) = true := fun h => by
            rw [h, decide_eq_false_iff_not] at hc1
            exact decide_eq_true (by omega)
          clear hab
          cases c1
          all_goals
            first | (replace hc2 := hc2 rfl) | clear hc2
            go_wp2_with fail
            go_ret
            exact BoolPost.mk' rfl Fa
        · have d1 : decide ((200 : Int) < oa.size) = false := decide_eq_false (by omega)
          have d2 : decide ((200 : Int) < ob.size) = false := decide_eq_false (by omega)
          have hla2 : oa.size ≤ 1000000000000 := by omega
          have hlb2 : ob.size ≤ 1000000000000 := by omega
          clear hab
          go_wp2_with fail
          refine (hlast wa hla).mono ?_
          rintro ed w3 ⟨rfl, f3⟩
          have hb3 := hba.fr f3 id
          have hl3 := hla.fr0 f3
          have F3 := Fa.then' f3
          have hs3 := f3.size
          clear y0 y1 y2 y3 y4 y5 y6 y7 y8 yf
          obtain ⟨y0, y1, y2, y3, y4, y5, y6, y7, y8, yf⟩ := BlkAt.c9 hb3
          have fs := fr_set1 w3 q 0 (.int .u64 la1)
          have hbs : BlkAt (w3.setCell ⟨q, 0, none⟩ (.int .u64 la1)) q 42 #[.int .u64 la1, .int .u64 view, .int .u8 cl, .int .u64 num, .int .u8 k, .string oa, .string ob, .int .u8 on, .int .u8 or] := hb3.set 0 (.int .u64 la1)
          have hl4 : LogA (w3.setCell ⟨q, 0, none⟩ (.int .u64 la1)) (fun k => p ≤ k ∧ k < q) p b0 es := hl3.fr fs (fun k _ hu h => by unfold eqB at h; omega)
          have F4 : Fr noB w (w3.setCell ⟨q, 0, none⟩ (.int .u64 la1)) := F3.trans fs (fun i hi h => by unfold eqB at h; omega)
          have hs4 : (w3.setCell ⟨q, 0, none⟩ (.int .u64 la1)).heap.size = w3.heap.size := by simp [World.setCell]
          go_upto_region 11 with fail
          generalize (w3.setCell ⟨q, 0, none⟩ (.int .u64 la1)) = w4 at *
          clear y0 y1 y2 y3 y4 y5 y6 y7 y8 yf
          obtain ⟨y0, y1, y2, y3, y4, y5, y6, y7, y8, yf⟩ := BlkAt.c9 hbs
          go_wp2_with fail
          refine (hap w4 (ht.fr0 F4) (hl4.mono fun k _ hu => hu.1) (fun k hk => by unfold upB; omega) hla2 hlb2).mono ?_
          rintro ed w5 ⟨rfl, hL5, f5⟩
          have F5 : Fr noB w w5 := F4.trans f5 (fun i hi h => by unfold upB at h; omega)
          go_wp2_with fail
          go_roundw
          case rel => exact ⟨j + 1, es1, by omega, by go_num, hL5, hG', F5⟩
          case measure => simp [intOf]; omega
      · have : j = n := by omega
        subst this
        clear hrow
        have hz := fromL_zero b0 es
        have hfr := fun W h => fromL_calls W (upB p) p b0 0 es h hG (by decide)
        rw [hz] at hfr
        have hlen := fun W h => lenL_calls W (upB p) p b0 es h
        have hw16 := hG.few
        obtain ⟨m, hm⟩ : ∃ m, es.length = m := ⟨_, rfl⟩
        rw [hm] at hlen hw16
        obtain ⟨kk, hkk⟩ : ∃ kk, to % (m + 1) = kk := ⟨_, rfl⟩
        have hkm : kk ≤ m := by have := Nat.mod_lt to (show 0 < m + 1 by omega); omega
        have hki : (to : Int) % ((m : Int) + 1) = kk := by rw [← hkk]; simp
        clear hkk
        go_wp2_with fail
        refine (hfr wr hL).mono ?_
        rintro ed w3 ⟨A3, n3, c3, rfl, hn3, hO3, f3⟩
        obtain rfl : n3 = m := by rw [← hm, hn3.out]
        have F3 := hf.then' f3
        have hL3 := hL.fr0 f3
        have hpl := hL.lt
        clear hfr hf hL f3
        go_wp2_with fail
        refine (hlen w3 hL3).mono ?_
        rintro ed w4 ⟨rfl, f4⟩
        have F4 := F3.then' f4
        have hL4 := hL3.fr0 f4
        have hO4 := own_fr hO3 f4 (fun _ _ => id)
        clear hlen F3 hL3 f4
        have hU4 : ∀ k, w4.heap.size ≤ k → upB p k := fun k hk => by unfold upB; have := hL4.lt; omega
        have hG' : GoodL (b0 + kk) (es.drop kk) := hG.drop (by omega)
        have htr := trimL_calls w4 (upB p) p b0 (b0 + kk) es hL4 hU4 hG (by omega)
        rw [trimL_at (by omega)] at htr
        have hcb : ((b0 + kk : Nat) : Int) = (b0 : Int) + kk := by omega
        have hbs := fun W h => baseL_calls W (upB p) p (b0 + kk) (es.drop kk) h
        have hn2 : (es.drop kk).length = n3 - kk := by rw [List.length_drop, hm]
        have hln := fun W h => lenL_calls W (upB p) p (b0 + kk) (es.drop kk) h
        have hz := fromL_zero (b0 + kk) (es.drop kk)
        have hfr := fun W h => fromL_calls W (upB p) p (b0 + kk) 0 (es.drop kk) h hG' (by decide)
        rw [hz] at hfr
        rw [hn2] at hln
        obtain ⟨n2, hn2'⟩ : ∃ x, n3 - kk = x := ⟨_, rfl⟩
        rw [hn2'] at hln hn2
        have hsub : (n3 : Int) - kk = n2 := by omega
        have hget : ∀ i e, (es.drop kk)[i]? = some e → es[kk + i]? = some e := fun i e h => by rwa [List.getElem?_drop] at h
        have hap := fun W es3 hT h hU hG => appL_calls W (upB p) p (b0 + kk) es3 (oneE (lastL (b0 + kk) es3 + 1)) hT h hU hG
        simp only [] at htr
        rw [hcb] at htr hbs
        generalize es.drop kk = es2 at *
        obtain ⟨bk, hbk⟩ : ∃ x, b0 + kk = x := ⟨_, rfl⟩
        rw [hbk] at htr hbs hln hfr hG' hap
        clear hL4 hz hcb
        go_wp2_with fail
        refine htr.mono ?_
        rintro ed w5 ⟨rfl, hL5, f5⟩
        have F5 : Fr noB w w5 := F4.trans f5 (fun i hi h => by unfold eqB at h; omega)
        have hO5 := own_fr hO4 f5 (fun g hg h => by have := (hO3.lt g hg).1; unfold eqB at h; omega)
        clear htr F4 hO4 hO3
        go_wp2_with fail
        refine (hbs w5 hL5).mono ?_
        rintro ed w6 ⟨rfl, f6⟩
        have F6 := F5.then' f6
        go_wp2_with fail
        refine (hln w6 (hL5.fr0 f6)).mono ?_
        rintro ed w7 ⟨rfl, f7⟩
        have F7 := F6.then' f7
        have hL7 := (hL5.fr0 f6).fr0 f7
        go_wp2_with fail
        refine (hfr w7 hL7).mono ?_
        rintro ed w8 ⟨A8, n8, c8, rfl, hn8, hO8, f8⟩
        obtain rfl : n8 = n2 := by rw [← hn2, hn8.out]
        have F8 := F7.then' f8
        have hL8 := hL7.fr0 f8
        have hO58 := ((own_fr hO5 f6 (fun _ _ => id)) |> fun h => own_fr (own_fr h f7 (fun _ _ => id)) f8 (fun _ _ => id))
        clear hbs hln hfr F5 F6 F7 hL7 hL5 f5 f6 f7 f8 hO5
        go_wp2_with fail
        have HM : Hid (Tryd.prog.eqGuardType Tryd.prog.depth 42 = false) := Tryd.gE
        go_loopw [92] (fun i wr => ∃ x : Nat, x ≤ n8 ∧ i = .int .i64 x ∧ Fr noB w8 wr) (fun i _ => n8 - (intOf i).toNat)
        case atStart => exact ⟨0, Nat.zero_le _, rfl, Fr.refl _ _⟩
        case round =>
          obtain ⟨x, hx, rfl, hf⟩ := hrel
          by_cases hx8 : x < n8
          · obtain ⟨e, he⟩ : ∃ e, es2[x]? = some e := ⟨_, List.getElem?_eq_getElem (by omega)⟩
            obtain ⟨a2, rfl, hg2⟩ := own_row9 hO8 he
            obtain ⟨a1, rfl, hg1⟩ := own_row9 hO58 (hget x e he)
            replace hg2 := hg2.fr hf id
            replace hg1 := hg1.fr hf id
            have HNQ : Hid (∀ W, (binOp .neq 42 e.v e.v).run Tryd.prog W = .ok (.bool false) W) := fun W => by rw [enNeq]; simp
            obtain ⟨s, hs⟩ : ∃ s, kk + x = s := ⟨_, rfl⟩
            have hsi : (kk : Int) + x = s := by omega
            have hsn : s < n3 := by omega
            rw [hs] at hg1
            obtain ⟨op, view, cl, num, ⟨k, oa, ob, on, or⟩⟩ := e
            unfold EnV.v at HNQ
            unfold EnV.C at hg1 hg2
            simp only [] at HNQ hg1 hg2
            have hf9 := hf
            clear he hget hap hs hf hO8 hO58 hL8 hG hU4
            go_wp2_with fail
            apply wp_region_calm (R := Fr noB) (C := fun _ W => Fr noB wr W) [false, false, false, false, false, false, false, false, false, false, false, false]
              [eqv _, eqv _, eqv _, eqv _, eqv _, eqv _, eqv _, eqv _, eqv _, eqv _, eqv _, eqv _]
              (by kernel_rfl) (by kernel_rfl) (fun _ _ _ h1 h2 => h1.then' h2) ((Fr.refl _ _).drew) ((Fr.refl _ _).drew) (by kernel_rfl)
            · refine ⟨?_, ?_, ?_, ?_, ?_, ?_, ?_, ?_, ?_, ?_, ?_, ?_, trivial⟩
              · rw [if_neg (by decide)]; intro kq
                exact calm_mv 12 rfl rfl (Or.inl rfl) (Fr.refl _) (by decide) fun v w hd => hd
              · rw [if_neg (by decide)]; intro kq
                exact calm_mv 13 rfl rfl (Or.inl rfl) (Fr.refl _) (by decide) fun v w hd => hd
              · rw [if_neg (by decide)]; intro kq
                intro a W K hC hd hK
                have d95 : _ = _ := hd 95 (by decide)
                have d96 : _ = _ := hd 96 (by decide)
                refine wpOp_plain rfl rfl ?_
                obtain ⟨x0, x1, x2, x3, x4, x5, x6, x7, x8⟩ := (hg2.fr hC id).c9
                obtain ⟨y0, y1, y2, y3, y4, y5, y6, y7, y8⟩ := (hg1.fr hC id).c9
                go_wp2_with fail
                exact hK _ _ (Fr.refl _ _) hC rfl
              · rw [if_neg (by decide)]; intro kq
                intro a W K hC hd hK
                have d97 : _ = _ := hd 97 (by decide)
                refine wpOp_plain rfl rfl ?_
                obtain ⟨x0, x1, x2, x3, x4, x5, x6, x7, x8⟩ := (hg2.fr hC id).c9
                obtain ⟨y0, y1, y2, y3, y4, y5, y6, y7, y8⟩ := (hg1.fr hC id).c9
                go_wp2_with fail
                exact hK _ _ (Fr.refl _ _) hC rfl
              · rw [if_neg (by decide)]; intro kq
                exact calm_mv 10 rfl rfl (Or.inl rfl) (Fr.refl _) (by decide) fun v w hd => hd
              · rw [if_neg (by decide)]; intro kq
                exact calm_mv 11 rfl rfl (Or.inl rfl) (Fr.refl _) (by decide) fun v w hd => hd
              · rw [if_neg (by decide)]; intro kq
                intro a W K hC hd hK
                have d100 : _ = _ := hd 100 (by decide)
                refine wpOp_plain rfl rfl ?_
                go_wp2_with fail
                exact hK _ _ (Fr.refl _ _) hC rfl
              · rw [if_neg (by decide)]; intro kq
                exact calm_mv 13 rfl rfl (Or.inl rfl) (Fr.refl _) (by decide) fun v w hd => hd
              · rw [if_neg (by decide)]; intro kq
                intro a W K hC hd hK
                have d101 : _ = _ := hd 101 (by decide)
                have d102 : _ = _ := hd 102 (by decide)
                refine wpOp_plain rfl rfl ?_
                go_wp2_with fail
                exact hK _ _ (Fr.refl _ _) hC rfl
              · rw [if_neg (by decide)]; intro kq
                intro a W K hC hd hK
                have d99 : _ = _ := hd 99 (by decide)
                have d103 : _ = _ := hd 103 (by decide)
                refine wpOp_plain rfl rfl ?_
                obtain ⟨x0, x1, x2, x3, x4, x5, x6, x7, x8⟩ := (hg2.fr hC id).c9
                obtain ⟨y0, y1, y2, y3, y4, y5, y6, y7, y8⟩ := (hg1.fr hC id).c9
                go_wp2_with fail
                exact hK _ _ (Fr.refl _ _) hC rfl
              · rw [if_neg (by decide)]; intro kq
                intro a W K hC hd hK
                have d104 : _ = _ := hd 104 (by decide)
                refine wpOp_plain rfl rfl ?_
                obtain ⟨x0, x1, x2, x3, x4, x5, x6, x7, x8⟩ := (hg2.fr hC id).c9
                obtain ⟨y0, y1, y2, y3, y4, y5, y6, y7, y8⟩ := (hg1.fr hC id).c9
                go_wp2_with fail
                exact hK _ _ (Fr.refl _ _) hC rfl
              · rw [if_neg (by decide)]; intro kq
                intro a W K hC hd hK
                have d98 : _ = _ := hd 98 (by decide)
                have d105 : _ = _ := hd 105 (by decide)
                refine wpOp_plain rfl rfl ?_
                have hnq := HNQ.out
                have hm := HM.out
                go_wp2_with fail
                exact hK _ _ (Fr.refl _ _) hC rfl
            · intro vs w9 fw9 cw9 hV
              have v95 : vs 0 = _ := hV 0 _ _ rfl rfl (by decide)
              have v96 : vs 1 = _ := hV 1 _ _ rfl rfl (by decide)
              have v97 : vs 2 = _ := hV 2 _ _ rfl rfl (by decide)
              have v98 : vs 3 = _ := hV 3 _ _ rfl rfl (by decide)
              have v99 : vs 4 = _ := hV 4 _ _ rfl rfl (by decide)
              have v100 : vs 5 = _ := hV 5 _ _ rfl rfl (by decide)
              have v101 : vs 6 = _ := hV 6 _ _ rfl rfl (by decide)
              have v102 : vs 7 = _ := hV 7 _ _ rfl rfl (by decide)
              have v103 : vs 8 = _ := hV 8 _ _ rfl rfl (by decide)
              have v104 : vs 9 = _ := hV 9 _ _ rfl rfl (by decide)
              have v105 : vs 10 = _ := hV 10 _ _ rfl rfl (by decide)
              have v106 : vs 11 = _ := hV 11 _ _ rfl rfl (by decide)
              clear hV
              simp only [putL, Act.put, Nat.reduceAdd, List.setIfInBounds_toArray, List.set_cons_zero, List.set_cons_succ, v95, v96, v97, v98, v99, v100, v101, v102, v103, v104, v105, v106]
              go_wp2_with fail
              go_roundw
              case rel => exact ⟨x + 1, by omega, by go_num, hf9.then' fw9⟩
              case measure => simp [intOf]; omega
          · have : x = n8 := by omega
            subst this
            have F9 := F8.then' hf
            have hL9 := hL8.fr0 hf
            clear hf hO8 hO58 hL8 hget F8
            go_wp2_with fail
            have h16 : x ≤ 16 := by omega
            clear hn8 hn2' hsub hn3 hki hm
            go_loopw [14] (fun i wr => ∃ es3 : List EnV, x ≤ es3.length ∧ i = .int .i64 (es3.length - x : Nat) ∧ LogA wr (upB p) p bk es3 ∧ GoodL bk es3 ∧ Fr noB w wr) (fun i _ => 16 - x - (intOf i).toNat)
            case atStart => exact ⟨es2, by omega, by rw [hn2]; simp, hL9, hG', F9⟩
            case round =>
              clear hL9 hG' F9
              obtain ⟨es3, hxe, rfl, hL, hG3, hf⟩ := hrel
              have hw3 := hG3.few
              have hl40 : lastL bk es3 < 1099511627776 := by unfold lastL; omega
              have hone := appL_one hG3 hl40
              have hlast := fun W h => lastL_calls W (upB p) p bk es3 h (by omega)
              have hap3 := fun W hT h hU => hap W es3 hT h hU hG3 (oneE_wf (by omega)) (by rw [oneE_a]; decide) (by rw [oneE_b]; decide)
              have hgo := hG3.app (oneE_wf (n := lastL bk es3 + 1) (by omega))
              have hfu := fun W h => fullL_calls W (upB p) p bk es3 h
              have hon := fun W => one_calls W (lastL bk es3 + 1)
              rw [hone] at hap3 hgo
              generalize lastL bk es3 = la at *
              generalize oneE (la + 1) = e1 at *
              obtain ⟨op, view, cl, num, ⟨k, oa, ob, on, or⟩⟩ := e1
              unfold EnV.v at hap3 hon
              simp only [] at hap3 hon
              have hcl : ((la + 1 : Nat) : Int) = (la : Int) + 1 := by omega
              rw [hcl] at hon
              obtain ⟨m3, hm3⟩ : ∃ m3, es3.length = m3 := ⟨_, rfl⟩
              rw [hm3] at hap3 hgo hfu hw3 hxe ⊢
              clear hap hone hcl hG3
              go_wp2_with fail
              refine (hlast wr hL).mono ?_
              rintro ed w2 ⟨rfl, f2⟩
              have F2 := hf.then' f2
              have hL2 := hL.fr0 f2
              go_wp2_with fail
              refine (hon w2).mono ?_
              rintro ed w3 ⟨rfl, f3⟩
              have F3 := F2.then' f3
              have hL3 := hL2.fr0 f3
              have hp3 := hL3.lt
              clear hlast hon F2 f2 f3 hL2
              go_wp2_with fail
              refine (hap3 w3 (ht.fr0 F3) hL3 (fun k hk => by unfold upB; omega)).mono ?_
              clear hap3
              rintro ed w4 ⟨rfl, hL4, f4⟩
              have F4 : Fr noB w w4 := F3.trans f4 (fun i hi h => by unfold upB at h; omega)
              by_cases hmx : 16 ≤ m3
              · rw [if_pos hmx] at hL4
                rw [if_pos hmx]
                have hsub2 : (16 : Int) - x = (m3 - x : Nat) := by omega
                have hfd : decide (16 ≤ m3) = true := decide_eq_true hmx
                rw [hfd] at hfu
                clear hgo
                go_wp2_with fail
                refine (hfu w4 hL4).mono ?_
                rintro ed w5 ⟨rfl, f5⟩
                go_wp2_with fail
                go_ret
                exact BoolPost.mk' rfl (F4.then' f5)
              · rw [if_neg hmx] at hL4 hgo
                rw [if_neg hmx]
                clear hfu
                go_wp2_with fail
                go_roundw
                case rel => exact ⟨_, by simp; omega, by go_num, hL4, hgo, F4⟩
                case measure => simp [intOf]; omega
end Go.Proofs.YtcaihinenfnekaaDoor
/- Arguments that are read as data, as rows in memory. -/
namespace Go.Proofs.YtcaihinenfnekaaDoor
open Go.RowKit Go.ChangeShapes Go.WideShapes

theorem list1 {α : Type} {l : List α} (h : l.length = 1) : ∃ a0, l = [a0] :=
  match l, h with | [a0], _ => ⟨a0, rfl⟩
theorem list2 {α : Type} {l : List α} (h : l.length = 2) : ∃ a0 a1, l = [a0, a1] :=
  match l, h with | [a0, a1], _ => ⟨a0, a1, rfl⟩
theorem list3 {α : Type} {l : List α} (h : l.length = 3) : ∃ a0 a1 a2, l = [a0, a1, a2] :=
  match l, h with | [a0, a1, a2], _ => ⟨a0, a1, a2, rfl⟩
theorem list4 {α : Type} {l : List α} (h : l.length = 4) : ∃ a0 a1 a2 a3, l = [a0, a1, a2, a3] :=
  match l, h with | [a0, a1, a2, a3], _ => ⟨a0, a1, a2, a3, rfl⟩
theorem list5 {α : Type} {l : List α} (h : l.length = 5) : ∃ a0 a1 a2 a3 a4, l = [a0, a1, a2, a3, a4] :=
  match l, h with | [a0, a1, a2, a3, a4], _ => ⟨a0, a1, a2, a3, a4, rfl⟩
theorem list6 {α : Type} {l : List α} (h : l.length = 6) : ∃ a0 a1 a2 a3 a4 a5, l = [a0, a1, a2, a3, a4, a5] :=
  match l, h with | [a0, a1, a2, a3, a4, a5], _ => ⟨a0, a1, a2, a3, a4, a5, rfl⟩
theorem list7 {α : Type} {l : List α} (h : l.length = 7) : ∃ a0 a1 a2 a3 a4 a5 a6, l = [a0, a1, a2, a3, a4, a5, a6] :=
  match l, h with | [a0, a1, a2, a3, a4, a5, a6], _ => ⟨a0, a1, a2, a3, a4, a5, a6, rfl⟩
theorem list8 {α : Type} {l : List α} (h : l.length = 8) : ∃ a0 a1 a2 a3 a4 a5 a6 a7, l = [a0, a1, a2, a3, a4, a5, a6, a7] :=
  match l, h with | [a0, a1, a2, a3, a4, a5, a6, a7], _ => ⟨a0, a1, a2, a3, a4, a5, a6, a7, rfl⟩
theorem list9 {α : Type} {l : List α} (h : l.length = 9) : ∃ a0 a1 a2 a3 a4 a5 a6 a7 a8, l = [a0, a1, a2, a3, a4, a5, a6, a7, a8] :=
  match l, h with | [a0, a1, a2, a3, a4, a5, a6, a7, a8], _ => ⟨a0, a1, a2, a3, a4, a5, a6, a7, a8, rfl⟩
theorem list10 {α : Type} {l : List α} (h : l.length = 10) : ∃ a0 a1 a2 a3 a4 a5 a6 a7 a8 a9, l = [a0, a1, a2, a3, a4, a5, a6, a7, a8, a9] :=
  match l, h with | [a0, a1, a2, a3, a4, a5, a6, a7, a8, a9], _ => ⟨a0, a1, a2, a3, a4, a5, a6, a7, a8, a9, rfl⟩
theorem list11 {α : Type} {l : List α} (h : l.length = 11) : ∃ a0 a1 a2 a3 a4 a5 a6 a7 a8 a9 a10, l = [a0, a1, a2, a3, a4, a5, a6, a7, a8, a9, a10] :=
  match l, h with | [a0, a1, a2, a3, a4, a5, a6, a7, a8, a9, a10], _ => ⟨a0, a1, a2, a3, a4, a5, a6, a7, a8, a9, a10, rfl⟩
theorem list12 {α : Type} {l : List α} (h : l.length = 12) : ∃ a0 a1 a2 a3 a4 a5 a6 a7 a8 a9 a10 a11, l = [a0, a1, a2, a3, a4, a5, a6, a7, a8, a9, a10, a11] :=
  match l, h with | [a0, a1, a2, a3, a4, a5, a6, a7, a8, a9, a10, a11], _ => ⟨a0, a1, a2, a3, a4, a5, a6, a7, a8, a9, a10, a11, rfl⟩
theorem list13 {α : Type} {l : List α} (h : l.length = 13) : ∃ a0 a1 a2 a3 a4 a5 a6 a7 a8 a9 a10 a11 a12, l = [a0, a1, a2, a3, a4, a5, a6, a7, a8, a9, a10, a11, a12] :=
  match l, h with | [a0, a1, a2, a3, a4, a5, a6, a7, a8, a9, a10, a11, a12], _ => ⟨a0, a1, a2, a3, a4, a5, a6, a7, a8, a9, a10, a11, a12, rfl⟩
theorem list14 {α : Type} {l : List α} (h : l.length = 14) : ∃ a0 a1 a2 a3 a4 a5 a6 a7 a8 a9 a10 a11 a12 a13, l = [a0, a1, a2, a3, a4, a5, a6, a7, a8, a9, a10, a11, a12, a13] :=
  match l, h with | [a0, a1, a2, a3, a4, a5, a6, a7, a8, a9, a10, a11, a12, a13], _ => ⟨a0, a1, a2, a3, a4, a5, a6, a7, a8, a9, a10, a11, a12, a13, rfl⟩
theorem list15 {α : Type} {l : List α} (h : l.length = 15) : ∃ a0 a1 a2 a3 a4 a5 a6 a7 a8 a9 a10 a11 a12 a13 a14, l = [a0, a1, a2, a3, a4, a5, a6, a7, a8, a9, a10, a11, a12, a13, a14] :=
  match l, h with | [a0, a1, a2, a3, a4, a5, a6, a7, a8, a9, a10, a11, a12, a13, a14], _ => ⟨a0, a1, a2, a3, a4, a5, a6, a7, a8, a9, a10, a11, a12, a13, a14, rfl⟩
theorem list16 {α : Type} {l : List α} (h : l.length = 16) : ∃ a0 a1 a2 a3 a4 a5 a6 a7 a8 a9 a10 a11 a12 a13 a14 a15, l = [a0, a1, a2, a3, a4, a5, a6, a7, a8, a9, a10, a11, a12, a13, a14, a15] :=
  match l, h with | [a0, a1, a2, a3, a4, a5, a6, a7, a8, a9, a10, a11, a12, a13, a14, a15], _ => ⟨a0, a1, a2, a3, a4, a5, a6, a7, a8, a9, a10, a11, a12, a13, a14, a15, rfl⟩
section
variable {H : Type} {enc : TypeId × Value → H} {P : Program} {w : World}
theorem open_strs {t e : TypeId} {A : Option Addr} {len cap : Nat} {d : DataW H} {ps : List MemPlace} (ht : P.underlying t = some (.slice e)) (he : P.underlying e = some .string) (hc : P.cellsOf e = 1)
    (h : DataW.Trod enc P w 0 (fun _ => true) true t (.slice A len cap) d ps) :
    ∃ ss : List ByteArray, RowAt w A (strs ss) ∧ ss.length = len ∧ len ≤ cap ∧ cap ≤ maxLen ∧ (∀ s ∈ ss, s.size ≤ maxLen) ∧ (A = none → len = 0 ∧ cap = 0) := by
  obtain ⟨fuel, hf⟩ := h
  rcases open_strings ht he hc hf with ⟨hcs, _⟩ | ⟨a, l, c, ss, hcs, _, hl, hm, hz, _, hcell, hsz⟩
  · simp [Value.cells] at hcs
    obtain ⟨rfl, rfl, rfl⟩ := hcs
    exact ⟨[], RowAt.nil _ _, rfl, Nat.le_refl _, Nat.zero_le _, by simp, fun _ => ⟨rfl, rfl⟩⟩
  · simp [Value.cells] at hcs
    obtain ⟨rfl, rfl, rfl⟩ := hcs
    simp only [if_true] at hz
    refine ⟨ss.take len, fun j u hu => ⟨a, rfl, ?_⟩, by rw [List.length_take]; omega, hl, hm, fun s hs => hsz s (List.mem_of_mem_take hs), fun e => by cases e⟩
    have hj : j < (ss.take len).length := by have := (List.getElem?_eq_some_iff.1 hu).1; simpa [strs] using this
    have hj2 : j < ss.length := by rw [List.length_take] at hj; omega
    rw [hcell j hj2]
    simp only [strs, List.getElem?_map] at hu
    rw [List.getElem?_take, if_pos (by rw [List.length_take] at hj; omega), List.getElem?_eq_getElem hj2] at hu
    simp at hu
    rw [← hu, List.getD_eq_getElem?_getD, List.getElem?_eq_getElem hj2]
    rfl
theorem flat_inv {α β : Type} (f : α → List β) (m : Nat) : ∀ (l : List α), (∀ a ∈ l, (f a).length = m) → ∀ (j : Nat) (u : β), (l.flatMap f)[j]? = some u → ∃ i a k, l[i]? = some a ∧ (f a)[k]? = some u ∧ j = i * m + k
  | [], _, j, u, h => by simp at h
  | c :: l, hf, j, u, h => by
    have hc := hf c (List.mem_cons_self ..)
    rw [List.flatMap_cons] at h
    by_cases hj : j < m
    · rw [List.getElem?_append_left (by rw [hc]; exact hj)] at h
      exact ⟨0, c, j, rfl, h, by omega⟩
    · rw [List.getElem?_append_right (by rw [hc]; omega), hc] at h
      obtain ⟨i, a, k, h1, h2, h3⟩ := flat_inv f m l (fun a ha => hf a (List.mem_cons_of_mem _ ha)) _ _ h
      exact ⟨i + 1, a, k, by simpa using h1, h2, by rw [Nat.succ_mul]; omega⟩
/-- A slice of structs (or of whatever), each element by a lemma of its own. -/
theorem open_rows {t e : TypeId} {A : Option Addr} {len cap : Nat} {d : DataW H} {ps : List MemPlace} {α : Type} [Inhabited α] (f : α → List Value) (good : α → Prop) (ht : P.underlying t = some (.slice e))
    (each : ∀ n cs y, DataW.trod enc P w 0 (fun _ => true) true n e cs = some y → ∃ a, cs = f a ∧ good a)
    (h : DataW.Trod enc P w 0 (fun _ => true) true t (.slice A len cap) d ps) :
    ∃ l : List α, RowAt w A (l.flatMap f) ∧ l.length = len ∧ len ≤ cap ∧ cap ≤ maxLen ∧ (∀ a ∈ l, good a) ∧ (A = none → len = 0 ∧ cap = 0) := by
  obtain ⟨fuel, hf⟩ := h
  rcases Deep.open_slice ht hf with ⟨hcs, _⟩ | ⟨ad, l, c, m, n, D, Pl, hcs, _, hl, hm, hmm, _, hx⟩
  · simp [Value.cells] at hcs
    obtain ⟨rfl, rfl, rfl⟩ := hcs
    exact ⟨[], by simpa using RowAt.nil _ _, rfl, Nat.le_refl _, Nat.zero_le _, by simp, fun _ => ⟨rfl, rfl⟩⟩
  · simp [Value.cells] at hcs
    obtain ⟨rfl, rfl, rfl⟩ := hcs
    simp only [if_true] at hmm
    subst hmm
    obtain ⟨F, hF⟩ := Deep.choose_lt (α := α) (n := len) (p := fun i a => w.cells? 0 (ad.add (i * P.cellsOf e)) (P.cellsOf e) = some (f a) ∧ good a) (fun i hi => by
      obtain ⟨cs', h1, h2⟩ := hx i (by omega)
      obtain ⟨a, rfl, hg⟩ := each n cs' _ h2
      exact ⟨a, h1, hg⟩)
    have hlen : ∀ a ∈ (List.range len).map F, (f a).length = P.cellsOf e := by
      intro a ha
      obtain ⟨i, hi, rfl⟩ := List.mem_map.1 ha
      exact (World.cells?_some (hF i (List.mem_range.1 hi)).1).2.1
    refine ⟨(List.range len).map F, fun j u hu => ?_, by simp, hl, hm, fun a ha => ?_, fun e => by cases e⟩
    · obtain ⟨i, a, k, h1, h2, rfl⟩ := flat_inv f _ _ hlen j u hu
      obtain ⟨hi, h3⟩ : i < len ∧ F i = a := by
        rw [List.getElem?_map] at h1
        cases hr : (List.range len)[i]? with
        | none => rw [hr] at h1; simp at h1
        | some x =>
          rw [hr] at h1
          obtain ⟨hx1, hx2⟩ := List.getElem?_eq_some_iff.1 hr
          simp at hx1 hx2 h1
          subst hx2
          exact ⟨hx1, h1⟩
      subst h3
      obtain ⟨_, h4, h5⟩ := World.cells?_some (hF i hi).1
      have hk : k < P.cellsOf e := by rw [← h4]; exact (List.getElem?_eq_some_iff.1 h2).1
      refine ⟨ad, rfl, ?_⟩
      rw [← add_add', h5 k hk, h2]
    · obtain ⟨i, hi, rfl⟩ := List.mem_map.1 ha
      exact (hF i (List.mem_range.1 hi)).2
end
end Go.Proofs.YtcaihinenfnekaaDoor
/- Entries among the arguments. -/
namespace Go.Proofs.YtcaihinenfnekaaDoor
open Go.RowKit Go.ChangeShapes Go.WideShapes
theorem u8_natE {n : Int} (h : (Lit.int .u8 n).wf = true) : 0 ≤ n ∧ n < 256 := by
  simp [Lit.wf, IntKind.min, IntKind.max, IntKind.bits, IntKind.signed] at h; omega
theorem u64_natE {n : Int} (h : (Lit.int .u64 n).wf = true) : 0 ≤ n ∧ n ≤ 18446744073709551615 := by
  simp [Lit.wf, IntKind.min, IntKind.max, IntKind.bits, IntKind.signed] at h; omega
theorem listE_5 {α : Type} : ∀ {l : List α}, l.length = 5 → ∃ x0 x1 x2 x3 x4, l = [x0, x1, x2, x3, x4]
  | [x0, x1, x2, x3, x4], _ => ⟨x0, x1, x2, x3, x4, rfl⟩
theorem listE_3 {α : Type} : ∀ {l : List α}, l.length = 3 → ∃ x0 x1 x2, l = [x0, x1, x2]
  | [x0, x1, x2], _ => ⟨x0, x1, x2, rfl⟩
theorem listE_7 {α : Type} : ∀ {l : List α}, l.length = 7 → ∃ x0 x1 x2 x3 x4 x5 x6, l = [x0, x1, x2, x3, x4, x5, x6]
  | [x0, x1, x2, x3, x4, x5, x6], _ => ⟨x0, x1, x2, x3, x4, x5, x6, rfl⟩
theorem listE_9 {α : Type} : ∀ {l : List α}, l.length = 9 → ∃ x0 x1 x2 x3 x4 x5 x6 x7 x8, l = [x0, x1, x2, x3, x4, x5, x6, x7, x8]
  | [x0, x1, x2, x3, x4, x5, x6, x7, x8], _ => ⟨x0, x1, x2, x3, x4, x5, x6, x7, x8, rfl⟩
instance : Inhabited EnV := ⟨zeroE⟩
structure OpOKE (o : OpV) : Prop where
  wf : o.wf
  a : o.a.size ≤ maxLen
  b : o.b.size ≤ maxLen
structure EnOK (e : EnV) : Prop where
  wf : e.wf
  a : e.o.a.size ≤ maxLen
  b : e.o.b.size ≤ maxLen
section
variable {H : Type} {enc : TypeId × Value → H} {w : World}
set_option maxRecDepth 100000 in
theorem open_opE (n : Nat) (cs : List Value) (y : DataW H × List MemPlace) (h : DataW.trod enc Tryd.prog w 0 (fun _ => true) true n 38 cs = some y) :
    ∃ o : OpV, cs = [.int .u8 o.k, .string o.a, .string o.b, .int .u8 o.n, .int .u8 o.r] ∧ OpOKE o := by
  obtain ⟨xs, m, _, rfl, hl, hlen, hf⟩ := DataW.trod_struct Tryd.underlying38 h
  have ct : Tryd.prog.cellsOf 38 = 5 := by kernel_rfl
  have k0 : Tryd.prog.cellsOf 5 = 1 := by kernel_rfl
  have k1 : Tryd.prog.cellsOf 9 = 1 := by kernel_rfl
  have k2 : Tryd.prog.cellsOf 36 = 1 := by kernel_rfl
  rw [ct] at hl
  obtain ⟨v0, v1, v2, v3, v4, rfl⟩ := listE_5 hl
  obtain ⟨x0, x1, x2, x3, x4, rfl⟩ := listE_5 (show xs.length = 5 from hlen)
  have g0 : DataW.trod enc Tryd.prog w 0 (fun _ => true) true m 5 (([v0, v1, v2, v3, v4].drop 0).take (Tryd.prog.cellsOf 5)) = some x0 := by
    have := hf 0 _ rfl
    exact this
  rw [k0] at g0
  have f0 : DataW.trod enc Tryd.prog w 0 (fun _ => true) true m 5 [v0] = some x0 := g0
  have g1 : DataW.trod enc Tryd.prog w 0 (fun _ => true) true m 9 (([v0, v1, v2, v3, v4].drop 1).take (Tryd.prog.cellsOf 9)) = some x1 := by
    have := hf 1 _ rfl
    exact this
  rw [k1] at g1
  have f1 : DataW.trod enc Tryd.prog w 0 (fun _ => true) true m 9 [v1] = some x1 := g1
  have g2 : DataW.trod enc Tryd.prog w 0 (fun _ => true) true m 9 (([v0, v1, v2, v3, v4].drop 2).take (Tryd.prog.cellsOf 9)) = some x2 := by
    have := hf 2 _ rfl
    exact this
  rw [k1] at g2
  have f2 : DataW.trod enc Tryd.prog w 0 (fun _ => true) true m 9 [v2] = some x2 := g2
  have g3 : DataW.trod enc Tryd.prog w 0 (fun _ => true) true m 5 (([v0, v1, v2, v3, v4].drop 3).take (Tryd.prog.cellsOf 5)) = some x3 := by
    have := hf 3 _ rfl
    exact this
  rw [k0] at g3
  have f3 : DataW.trod enc Tryd.prog w 0 (fun _ => true) true m 5 [v3] = some x3 := g3
  have g4 : DataW.trod enc Tryd.prog w 0 (fun _ => true) true m 36 (([v0, v1, v2, v3, v4].drop 4).take (Tryd.prog.cellsOf 36)) = some x4 := by
    have := hf 4 _ rfl
    exact this
  rw [k2] at g4
  have f4 : DataW.trod enc Tryd.prog w 0 (fun _ => true) true m 36 [v4] = some x4 := g4
  obtain ⟨n0, e0, _, w0⟩ := DataW.trod_int Tryd.underlying5 f0
  simp only [List.cons.injEq, and_true] at e0
  subst e0
  obtain ⟨u0, hu0⟩ := u8_natE w0
  obtain ⟨m0, rfl⟩ := Int.eq_ofNat_of_zero_le u0
  obtain ⟨s1, e1, _, hs1⟩ := DataW.trod_string Tryd.underlying9 f1
  simp only [List.cons.injEq, and_true] at e1
  subst e1
  obtain ⟨s2, e2, _, hs2⟩ := DataW.trod_string Tryd.underlying9 f2
  simp only [List.cons.injEq, and_true] at e2
  subst e2
  obtain ⟨n3, e3, _, w3⟩ := DataW.trod_int Tryd.underlying5 f3
  simp only [List.cons.injEq, and_true] at e3
  subst e3
  obtain ⟨u3, hu3⟩ := u8_natE w3
  obtain ⟨m3, rfl⟩ := Int.eq_ofNat_of_zero_le u3
  obtain ⟨n4, e4, _, w4⟩ := DataW.trod_int Tryd.underlying36 f4
  simp only [List.cons.injEq, and_true] at e4
  subst e4
  obtain ⟨u4, hu4⟩ := u8_natE w4
  obtain ⟨m4, rfl⟩ := Int.eq_ofNat_of_zero_le u4
  exact ⟨⟨m0, s1, s2, m3, m4⟩, rfl, ⟨⟨by simp only []; omega, by simp only []; omega, by simp only []; omega⟩, hs1, hs2⟩⟩
set_option maxRecDepth 100000 in
theorem open_reqE (n : Nat) (cs : List Value) (y : DataW H × List MemPlace) (h : DataW.trod enc Tryd.prog w 0 (fun _ => true) true n 40 cs = some y) :
    ∃ q : EnV, cs = [.int .u8 q.cl, .int .u64 q.num, .int .u8 q.o.k, .string q.o.a, .string q.o.b, .int .u8 q.o.n, .int .u8 q.o.r] ∧ (q.cl < 256 ∧ q.num < 18446744073709551616 ∧ OpOKE q.o) := by
  obtain ⟨xs, m, _, rfl, hl, hlen, hf⟩ := DataW.trod_struct Tryd.underlying40 h
  have ct : Tryd.prog.cellsOf 40 = 7 := by kernel_rfl
  have k0 : Tryd.prog.cellsOf 5 = 1 := by kernel_rfl
  have k1 : Tryd.prog.cellsOf 32 = 1 := by kernel_rfl
  have k2 : Tryd.prog.cellsOf 38 = 5 := by kernel_rfl
  rw [ct] at hl
  obtain ⟨v0, v1, v2, v3, v4, v5, v6, rfl⟩ := listE_7 hl
  obtain ⟨x0, x1, x2, rfl⟩ := listE_3 (show xs.length = 3 from hlen)
  have g0 : DataW.trod enc Tryd.prog w 0 (fun _ => true) true m 5 (([v0, v1, v2, v3, v4, v5, v6].drop 0).take (Tryd.prog.cellsOf 5)) = some x0 := by
    have := hf 0 _ rfl
    exact this
  rw [k0] at g0
  have f0 : DataW.trod enc Tryd.prog w 0 (fun _ => true) true m 5 [v0] = some x0 := g0
  have g1 : DataW.trod enc Tryd.prog w 0 (fun _ => true) true m 32 (([v0, v1, v2, v3, v4, v5, v6].drop 1).take (Tryd.prog.cellsOf 32)) = some x1 := by
    have := hf 1 _ rfl
    exact this
  rw [k1] at g1
  have f1 : DataW.trod enc Tryd.prog w 0 (fun _ => true) true m 32 [v1] = some x1 := g1
  have g2 : DataW.trod enc Tryd.prog w 0 (fun _ => true) true m 38 (([v0, v1, v2, v3, v4, v5, v6].drop 2).take (Tryd.prog.cellsOf 38)) = some x2 := by
    have := hf 2 _ rfl
    exact this
  rw [k2] at g2
  have f2 : DataW.trod enc Tryd.prog w 0 (fun _ => true) true m 38 [v2, v3, v4, v5, v6] = some x2 := g2
  obtain ⟨n0, e0, _, w0⟩ := DataW.trod_int Tryd.underlying5 f0
  simp only [List.cons.injEq, and_true] at e0
  subst e0
  obtain ⟨u0, hu0⟩ := u8_natE w0
  obtain ⟨m0, rfl⟩ := Int.eq_ofNat_of_zero_le u0
  obtain ⟨n1, e1, _, w1⟩ := DataW.trod_int Tryd.underlying32 f1
  simp only [List.cons.injEq, and_true] at e1
  subst e1
  obtain ⟨u1, hu1⟩ := u64_natE w1
  obtain ⟨m1, rfl⟩ := Int.eq_ofNat_of_zero_le u1
  obtain ⟨o2, e2, h2⟩ := open_opE m _ _ f2
  simp only [and_true, List.cons.injEq, and_true] at e2
  obtain ⟨rfl, rfl, rfl, rfl, rfl⟩ := e2
  exact ⟨⟨0, 0, m0, m1, o2⟩, rfl, ⟨by simp only []; omega, by simp only []; omega, h2⟩⟩
set_option maxRecDepth 100000 in
theorem open_enE (n : Nat) (cs : List Value) (y : DataW H × List MemPlace) (h : DataW.trod enc Tryd.prog w 0 (fun _ => true) true n 42 cs = some y) :
    ∃ e : EnV, cs = e.C ∧ EnOK e := by
  obtain ⟨xs, m, _, rfl, hl, hlen, hf⟩ := DataW.trod_struct Tryd.underlying42 h
  have ct : Tryd.prog.cellsOf 42 = 9 := by kernel_rfl
  have k0 : Tryd.prog.cellsOf 32 = 1 := by kernel_rfl
  have k1 : Tryd.prog.cellsOf 40 = 7 := by kernel_rfl
  rw [ct] at hl
  obtain ⟨v0, v1, v2, v3, v4, v5, v6, v7, v8, rfl⟩ := listE_9 hl
  obtain ⟨x0, x1, x2, rfl⟩ := listE_3 (show xs.length = 3 from hlen)
  have g0 : DataW.trod enc Tryd.prog w 0 (fun _ => true) true m 32 (([v0, v1, v2, v3, v4, v5, v6, v7, v8].drop 0).take (Tryd.prog.cellsOf 32)) = some x0 := by
    have := hf 0 _ rfl
    exact this
  rw [k0] at g0
  have f0 : DataW.trod enc Tryd.prog w 0 (fun _ => true) true m 32 [v0] = some x0 := g0
  have g1 : DataW.trod enc Tryd.prog w 0 (fun _ => true) true m 32 (([v0, v1, v2, v3, v4, v5, v6, v7, v8].drop 1).take (Tryd.prog.cellsOf 32)) = some x1 := by
    have := hf 1 _ rfl
    exact this
  rw [k0] at g1
  have f1 : DataW.trod enc Tryd.prog w 0 (fun _ => true) true m 32 [v1] = some x1 := g1
  have g2 : DataW.trod enc Tryd.prog w 0 (fun _ => true) true m 40 (([v0, v1, v2, v3, v4, v5, v6, v7, v8].drop 2).take (Tryd.prog.cellsOf 40)) = some x2 := by
    have := hf 2 _ rfl
    exact this
  rw [k1] at g2
  have f2 : DataW.trod enc Tryd.prog w 0 (fun _ => true) true m 40 [v2, v3, v4, v5, v6, v7, v8] = some x2 := g2
  obtain ⟨n0, e0, _, w0⟩ := DataW.trod_int Tryd.underlying32 f0
  simp only [List.cons.injEq, and_true] at e0
  subst e0
  obtain ⟨u0, hu0⟩ := u64_natE w0
  obtain ⟨m0, rfl⟩ := Int.eq_ofNat_of_zero_le u0
  obtain ⟨n1, e1, _, w1⟩ := DataW.trod_int Tryd.underlying32 f1
  simp only [List.cons.injEq, and_true] at e1
  subst e1
  obtain ⟨u1, hu1⟩ := u64_natE w1
  obtain ⟨m1, rfl⟩ := Int.eq_ofNat_of_zero_le u1
  obtain ⟨o2, e2, h2⟩ := open_reqE m _ _ f2
  simp only [and_true, List.cons.injEq, and_true] at e2
  obtain ⟨rfl, rfl, rfl, rfl, rfl, rfl, rfl⟩ := e2
  exact ⟨⟨m0, m1, o2.cl, o2.num, o2.o⟩, rfl, ⟨⟨by simp only []; omega, by simp only []; omega, h2.1, h2.2.1, h2.2.2.wf⟩, h2.2.2.a, h2.2.2.b⟩⟩
theorem open_ens {A : Option Addr} {len cap : Nat} {d : DataW H} {ps : List MemPlace} (h : DataW.Trod enc Tryd.prog w 0 (fun _ => true) true 33 (.slice A len cap) d ps) :
    ∃ L : List EnV, RowAt w A (L.flatMap EnV.C) ∧ L.length = len ∧ len ≤ cap ∧ cap ≤ maxLen ∧ (∀ e ∈ L, EnOK e) ∧ (A = none → len = 0 ∧ cap = 0) := by
  obtain ⟨l, h1, h2, h3, h4, h5, h6⟩ := open_rows EnV.C EnOK Tryd.underlying33 open_enE h
  exact ⟨l, h1, h2, h3, h4, h5, h6⟩
set_option maxRecDepth 100000 in
theorem open_en {v : Value} {d : DataW H} {ps : List MemPlace} {r : Reach} {b0 : Nat} {W : World} (hv : Value.okWide Tryd.prog W r b0 42 v) (h : DataW.Trod enc Tryd.prog w 0 (fun _ => true) true 42 v d ps) :
    ∃ e : EnV, v = e.v ∧ EnOK e := by
  obtain ⟨cs, rfl, _⟩ := okWide_struct Tryd.underlying42 hv
  obtain ⟨m, hm⟩ := h
  obtain ⟨o, e, ho⟩ := open_enE m _ _ hm
  refine ⟨o, ?_, ho⟩
  have : cs.toList = o.C := e
  unfold EnV.v
  unfold EnV.C at this
  rw [← this]
end
end Go.Proofs.YtcaihinenfnekaaDoor
/- LogTrims' law over its arguments. -/
namespace Go.Proofs.YtcaihinenfnekaaDoor
open Go.RowKit
theorem logTrims_law (w : World) (ht : SignsAt w) (a : Int) (wa : (Lit.int .u64 a).wf = true) (A : Option Addr) (n c : Nat) (L : List EnV) (o : RowAt w A (L.flatMap EnV.C) ∧ L.length = n ∧ n ≤ c ∧ c ≤ maxLen ∧ (∀ e ∈ L, EnOK e) ∧ (A = none → n = 0 ∧ c = 0)) (b : Int) (wb : (Lit.int .u8 b).wf = true) :
    Calls Tryd.prog 4 #[.int .u64 a, .slice A n c, .int .u8 b] w (BoolPost w true) := by
  obtain ⟨h1, h2⟩ := u64_natE wa
  obtain ⟨k1, k2⟩ := u8_natE wb
  obtain ⟨a', rfl⟩ := Int.eq_ofNat_of_zero_le h1
  obtain ⟨b', rfl⟩ := Int.eq_ofNat_of_zero_le k1
  exact logTrims_walk w ht a' b' A n c L (by omega) (by omega) o.1 o.2.1 (Nat.le_trans (Nat.le_trans o.2.2.1 o.2.2.2.1) (by decide)) (fun e he => (o.2.2.2.2.1 e he).wf)
end Go.Proofs.YtcaihinenfnekaaDoor
