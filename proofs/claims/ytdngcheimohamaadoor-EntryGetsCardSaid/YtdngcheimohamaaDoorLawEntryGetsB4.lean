/- What the row leans on, part 4: contracts and plain laws. -/
import Derived.Test.YtdngcheimohamaaDoorProg
import Derived.WalkKit
import Derived.Maps.AppendAt
import Derived.Lib.AppendStr
import Derived.Laws.AppendOwnNone
import Derived.Deep.Draws
import Derived.WalkSpells
import Derived.Laws.IdiomStrings
import Derived.Lib.ConvBytes
import Derived.Lib.LaidTab
import Derived.LaidSub
import Derived.Deep.QuietTactic
import Derived.BigQuiet
import Derived.Lib.OthersKept
import Derived.Laws.RangeAny
import Derived.LaidEqlPtr
import Derived.Laws.StructEq
import Derived.Deep.Light
import Derived.Laws.Bits64b
import Derived.Laws.ResultCell
import Derived.Deep.RegionHeld3
import Derived.Deep.Cut
import Derived.SliceStrings
import Derived.Deep.Slices
import Derived.Test.YtdngcheimohamaaDoorLawEntryGetsB3
/- entry.Check and the reference's. -/
namespace Go.Proofs.YtdngcheimohamaaDoor
open Go.RowKit

set_option maxRecDepth 100000 in
set_option maxHeartbeats 1600000 in
theorem checkEn_calls (w : World) (e : EnV) (ht : SignsAt w) (hw : e.wf) (ha : e.o.a.size ≤ 1000000000000) (hb : e.o.b.size ≤ 1000000000000) : Calls Tryd.prog 20 #[e.v] w (IntPost w (checkE e : Nat)) := by
  have hck := fun W (hx : Fr noB w W) => check_calls W e.o (ht.fr0 hx) hw.o (by omega) (by omega)
  have HV : Hid (checkE e = if e.op = 0 ∨ 1099511627776 < e.op ∨ 1099511627776 < e.view then 17 else if e.cl = 255 then (if e.num ≠ 0 ∨ e.o.k ≠ 16 ∨ checkV e.o ≠ 0 then 1 else 0) else if 8 ≤ e.cl ∨ e.num = 0 ∨ 1099511627776 < e.num then 1 else checkV e.o) := rfl
  generalize checkE e = res at *
  generalize checkV e.o = cv at *
  obtain ⟨op, view, cl, num, k, a, b, n, r⟩ := e
  unfold EnV.v OpV.v at *
  simp only [] at *
  obtain ⟨h1, h2, h3, h4, hk, hn, hr⟩ := hw
  simp only [] at *
  have f0 : Fr noB w (w.alloc (.cells #[.int .u64 op, .int .u64 view, .int .u8 cl, .int .u64 num, .int .u8 k, .string a, .string b, .int .u8 n, .int .u8 r] 49)) := (Fr.refl noB w).alloc _
  have hb0 : BlkAt (w.alloc (.cells #[.int .u64 op, .int .u64 view, .int .u8 cl, .int .u64 num, .int .u8 k, .string a, .string b, .int .u8 n, .int .u8 r] 49)) w.heap.size 49 #[.int .u64 op, .int .u64 view, .int .u8 cl, .int .u64 num, .int .u8 k, .string a, .string b, .int .u8 n, .int .u8 r] := BlkAt.new _ _ _


  obtain ⟨c0, hc0⟩ : ∃ c, ((op : Int) == 0) = c := ⟨_, rfl⟩
  have hd0 : Hid (c0 = true ↔ op = 0) := by rw [← hc0]; unfold Hid; rw [beq_iff_eq]; omega
  obtain ⟨c1, hc1⟩ : ∃ c, decide ((1099511627776 : Int) < op) = c := ⟨_, rfl⟩
  have hd1 : Hid (c1 = true ↔ 1099511627776 < op) := by rw [← hc1]; unfold Hid; rw [decide_eq_true_eq]; omega
  obtain ⟨c2, hc2⟩ : ∃ c, decide ((1099511627776 : Int) < view) = c := ⟨_, rfl⟩
  have hd2 : Hid (c2 = true ↔ 1099511627776 < view) := by rw [← hc2]; unfold Hid; rw [decide_eq_true_eq]; omega
  obtain ⟨c3, hc3⟩ : ∃ c, ((cl : Int) == 255) = c := ⟨_, rfl⟩
  have hd3 : Hid (c3 = true ↔ cl = 255) := by rw [← hc3]; unfold Hid; rw [beq_iff_eq]; omega
  obtain ⟨c4, hc4⟩ : ∃ c, ((num : Int) != 0) = c := ⟨_, rfl⟩
  have hd4 : Hid (c4 = true ↔ num ≠ 0) := by rw [← hc4]; unfold Hid; rw [bne_iff_ne]; omega
  obtain ⟨c5, hc5⟩ : ∃ c, ((k : Int) != 16) = c := ⟨_, rfl⟩
  have hd5 : Hid (c5 = true ↔ k ≠ 16) := by rw [← hc5]; unfold Hid; rw [bne_iff_ne]; omega
  obtain ⟨c6, hc6⟩ : ∃ c, ((cv : Int) != 0) = c := ⟨_, rfl⟩
  have hd6 : Hid (c6 = true ↔ cv ≠ 0) := by rw [← hc6]; unfold Hid; rw [bne_iff_ne]; omega
  obtain ⟨c7, hc7⟩ : ∃ c, decide ((8 : Int) ≤ cl) = c := ⟨_, rfl⟩
  have hd7 : Hid (c7 = true ↔ 8 ≤ cl) := by rw [← hc7]; unfold Hid; rw [decide_eq_true_eq]; omega
  obtain ⟨c8, hc8⟩ : ∃ c, ((num : Int) == 0) = c := ⟨_, rfl⟩
  have hd8 : Hid (c8 = true ↔ num = 0) := by rw [← hc8]; unfold Hid; rw [beq_iff_eq]; omega
  obtain ⟨c9, hc9⟩ : ∃ c, decide ((1099511627776 : Int) < num) = c := ⟨_, rfl⟩
  have hd9 : Hid (c9 = true ↔ 1099511627776 < num) := by rw [← hc9]; unfold Hid; rw [decide_eq_true_eq]; omega
  clear h1 h2 h3 h4 hk hn hr ha hb
  go_enter Tryd.func20, Tryd.ntmps20
  go_upto_region 1 with fail
  generalize (w.alloc (.cells #[.int .u64 op, .int .u64 view, .int .u8 cl, .int .u64 num, .int .u8 k, .string a, .string b, .int .u8 n, .int .u8 r] 49)) = wa at *
  obtain ⟨x0, x1, x2, x3, x4, x5, x6, x7, x8, xf⟩ := BlkAt.c9 hb0
  have f1 : Fr noB w (wa.alloc (.cells #[.int .u8 cl, .int .u64 num, .int .u8 k, .string a, .string b, .int .u8 n, .int .u8 r] 47)) := f0.alloc _
  have hb1 : BlkAt (wa.alloc (.cells #[.int .u8 cl, .int .u64 num, .int .u8 k, .string a, .string b, .int .u8 n, .int .u8 r] 47)) wa.heap.size 47 #[.int .u8 cl, .int .u64 num, .int .u8 k, .string a, .string b, .int .u8 n, .int .u8 r] := BlkAt.new _ _ _
  have hb2 := hb0.al (.cells #[.int .u8 cl, .int .u64 num, .int .u8 k, .string a, .string b, .int .u8 n, .int .u8 r] 47)
  go_upto_region 2 with fail
  generalize (wa.alloc (.cells #[.int .u8 cl, .int .u64 num, .int .u8 k, .string a, .string b, .int .u8 n, .int .u8 r] 47)) = wb at *
  clear hb0 f0 x0 x1 x2 x3 x4 x5 x6 x7 x8 xf
  obtain ⟨x0, x1, x2, x3, x4, x5, x6, x7, x8, xf⟩ := BlkAt.c9 hb2
  obtain ⟨y0, y1, y2, y3, y4, y5, y6, yf⟩ := BlkAt.c7 hb1
  go_wp2_with fail

  all_goals first
    | (go_ret; refine IntPost.mk' ?_ f1; clear hck hb1 hb2 f1 x0 x1 x2 x3 x4 x5 x6 x7 x8 xf y0 y1 y2 y3 y4 y5 y6 yf)
    | (refine (hck wb f1).mono ?_
       rintro e w2 ⟨rfl, f2⟩
       have F2 := f1.then' f2
       clear x0 x1 x2 x3 x4 x5 x6 x7 x8 xf y0 y1 y2 y3 y4 y5 y6 yf
       obtain ⟨y0, y1, y2, y3, y4, y5, y6, yf⟩ := BlkAt.c7 (hb1.fr f2 id)
       clear f2 f1 hb1 hb2
       go_wp2_with fail
       all_goals first
         | (go_ret; refine IntPost.mk' ?_ F2; clear hck y0 y1 y2 y3 y4 y5 y6 yf F2)
         | (refine (hck w2 F2).mono ?_
            rintro e w3 ⟨rfl, f3⟩
            have F3 := F2.then' f3
            clear y0 y1 y2 y3 y4 y5 y6 yf f3 F2
            go_wp2_with fail
            go_ret
            refine IntPost.mk' ?_ F3
            clear hck F3))
  all_goals (
    go_light
    have hv := HV.out
    have e0 := hd0.out
    have e1 := hd1.out
    have e2 := hd2.out
    have e3 := hd3.out
    have e4 := hd4.out
    have e5 := hd5.out
    have e6 := hd6.out
    have e7 := hd7.out
    have e8 := hd8.out
    have e9 := hd9.out
    clear HV hd0 hc0 hd1 hc1 hd2 hc2 hd3 hc3 hd4 hc4 hd5 hc5 hd6 hc6 hd7 hc7 hd8 hc8 hd9 hc9
    simp_all
    all_goals first | omega | ((repeat' split) <;> first | rfl | omega | (simp_all; done) | (simp_all; omega)))
set_option maxRecDepth 100000 in
set_option maxHeartbeats 1600000 in
theorem checkEr_calls (w : World) (e : EnV) (hw : e.wf) (ha : e.o.a.size ≤ 1000000000000) (hb : e.o.b.size ≤ 1000000000000) : Calls Tryd.prog 18 #[e.v] w (IntPost w (checkE e : Nat)) := by
  have hck := fun W => checkO_calls W e.o hw.o ha hb
  rw [check_eq] at hck
  have HV : Hid (checkE e = if e.op = 0 ∨ 1099511627776 < e.op ∨ 1099511627776 < e.view then 17 else if e.cl = 255 then (if e.num ≠ 0 ∨ e.o.k ≠ 16 ∨ checkV e.o ≠ 0 then 1 else 0) else if 8 ≤ e.cl ∨ e.num = 0 ∨ 1099511627776 < e.num then 1 else checkV e.o) := rfl
  generalize checkE e = res at *
  generalize checkV e.o = cv at *
  obtain ⟨op, view, cl, num, k, a, b, n, r⟩ := e
  unfold EnV.v OpV.v at *
  simp only [] at *
  obtain ⟨h1, h2, h3, h4, hk, hn, hr⟩ := hw
  simp only [] at *
  have f0 : Fr noB w (w.alloc (.cells #[.int .u64 op, .int .u64 view, .int .u8 cl, .int .u64 num, .int .u8 k, .string a, .string b, .int .u8 n, .int .u8 r] 58)) := (Fr.refl noB w).alloc _
  have hb0 : BlkAt (w.alloc (.cells #[.int .u64 op, .int .u64 view, .int .u8 cl, .int .u64 num, .int .u8 k, .string a, .string b, .int .u8 n, .int .u8 r] 58)) w.heap.size 58 #[.int .u64 op, .int .u64 view, .int .u8 cl, .int .u64 num, .int .u8 k, .string a, .string b, .int .u8 n, .int .u8 r] := BlkAt.new _ _ _


  obtain ⟨c0, hc0⟩ : ∃ c, decide ((op : Int) < 1) = c := ⟨_, rfl⟩
  have hd0 : Hid (c0 = true ↔ op = 0) := by rw [← hc0]; unfold Hid; rw [decide_eq_true_eq]; omega
  obtain ⟨c1, hc1⟩ : ∃ c, decide ((1099511627776 : Int) < op) = c := ⟨_, rfl⟩
  have hd1 : Hid (c1 = true ↔ 1099511627776 < op) := by rw [← hc1]; unfold Hid; rw [decide_eq_true_eq]; omega
  obtain ⟨c2, hc2⟩ : ∃ c, decide ((1099511627776 : Int) < view) = c := ⟨_, rfl⟩
  have hd2 : Hid (c2 = true ↔ 1099511627776 < view) := by rw [← hc2]; unfold Hid; rw [decide_eq_true_eq]; omega
  obtain ⟨c3, hc3⟩ : ∃ c, ((cl : Int) == 255) = c := ⟨_, rfl⟩
  have hd3 : Hid (c3 = true ↔ cl = 255) := by rw [← hc3]; unfold Hid; rw [beq_iff_eq]; omega
  obtain ⟨c4, hc4⟩ : ∃ c, ((num : Int) != 0) = c := ⟨_, rfl⟩
  have hd4 : Hid (c4 = true ↔ num ≠ 0) := by rw [← hc4]; unfold Hid; rw [bne_iff_ne]; omega
  obtain ⟨c5, hc5⟩ : ∃ c, ((k : Int) != 16) = c := ⟨_, rfl⟩
  have hd5 : Hid (c5 = true ↔ k ≠ 16) := by rw [← hc5]; unfold Hid; rw [bne_iff_ne]; omega
  obtain ⟨c6, hc6⟩ : ∃ c, ((cv : Int) != 0) = c := ⟨_, rfl⟩
  have hd6 : Hid (c6 = true ↔ cv ≠ 0) := by rw [← hc6]; unfold Hid; rw [bne_iff_ne]; omega
  obtain ⟨c7, hc7⟩ : ∃ c, decide ((7 : Int) < cl) = c := ⟨_, rfl⟩
  have hd7 : Hid (c7 = true ↔ 8 ≤ cl) := by rw [← hc7]; unfold Hid; rw [decide_eq_true_eq]; omega
  obtain ⟨c8, hc8⟩ : ∃ c, decide ((num : Int) < 1) = c := ⟨_, rfl⟩
  have hd8 : Hid (c8 = true ↔ num = 0) := by rw [← hc8]; unfold Hid; rw [decide_eq_true_eq]; omega
  obtain ⟨c9, hc9⟩ : ∃ c, decide ((1099511627776 : Int) < num) = c := ⟨_, rfl⟩
  have hd9 : Hid (c9 = true ↔ 1099511627776 < num) := by rw [← hc9]; unfold Hid; rw [decide_eq_true_eq]; omega
  clear h1 h2 h3 h4 hk hn hr ha hb
  go_enter Tryd.func18, Tryd.ntmps18
  go_upto_region 1 with fail
  generalize (w.alloc (.cells #[.int .u64 op, .int .u64 view, .int .u8 cl, .int .u64 num, .int .u8 k, .string a, .string b, .int .u8 n, .int .u8 r] 58)) = wa at *
  obtain ⟨x0, x1, x2, x3, x4, x5, x6, x7, x8, xf⟩ := BlkAt.c9 hb0
  go_upto_region 4 with fail
  all_goals first
    | (go_ret; refine IntPost.mk' ?_ f0; clear hck hb0 f0 x0 x1 x2 x3 x4 x5 x6 x7 x8 xf)
    | (have f1 : Fr noB w (wa.alloc (.cells #[.int .u8 cl, .int .u64 num, .int .u8 k, .string a, .string b, .int .u8 n, .int .u8 r] 56)) := f0.alloc _
       have hb1 : BlkAt (wa.alloc (.cells #[.int .u8 cl, .int .u64 num, .int .u8 k, .string a, .string b, .int .u8 n, .int .u8 r] 56)) wa.heap.size 56 #[.int .u8 cl, .int .u64 num, .int .u8 k, .string a, .string b, .int .u8 n, .int .u8 r] := BlkAt.new _ _ _
       go_upto_region 5 with fail
       generalize (wa.alloc (.cells #[.int .u8 cl, .int .u64 num, .int .u8 k, .string a, .string b, .int .u8 n, .int .u8 r] 56)) = wb at *
       clear hb0 f0 x0 x1 x2 x3 x4 x5 x6 x7 x8 xf
       obtain ⟨y0, y1, y2, y3, y4, y5, y6, yf⟩ := BlkAt.c7 hb1
       go_wp2_with fail
       refine (hck wb).mono ?_
       rintro e w2 ⟨rfl, f2⟩
       have F2 := f1.then' f2
       clear y0 y1 y2 y3 y4 y5 y6 yf
       obtain ⟨y0, y1, y2, y3, y4, y5, y6, yf⟩ := BlkAt.c7 (hb1.fr f2 id)
       clear f2 f1 hb1 hck
       go_wp2_with fail
       all_goals (go_ret; refine IntPost.mk' ?_ F2; clear y0 y1 y2 y3 y4 y5 y6 yf F2))
  all_goals (
    go_light
    have hv := HV.out
    have e0 := hd0.out
    have e1 := hd1.out
    have e2 := hd2.out
    have e3 := hd3.out
    have e4 := hd4.out
    have e5 := hd5.out
    have e6 := hd6.out
    have e7 := hd7.out
    have e8 := hd8.out
    have e9 := hd9.out
    clear HV hd0 hc0 hd1 hc1 hd2 hc2 hd3 hc3 hd4 hc4 hd5 hc5 hd6 hc6 hd7 hc7 hd8 hc8 hd9 hc9
    simp_all
    all_goals first | omega | ((repeat' split) <;> first | rfl | omega | (simp_all; done) | (simp_all; omega)))
end Go.Proofs.YtdngcheimohamaaDoor
/- A region that draws its order, and the state may speak of all slots' values. Written by a small program out of the elder rule's text. -/
namespace Go.Proofs.YtdngcheimohamaaDoor.H
open Go.RowKit Go.Proofs.YtdngcheimohamaaDoor
section
variable {P : Program} {ops : Array Oper} {Q : Exit → Act → World → Prop} {R : World → World → Prop}
def upd (ν : Tmp → Value) (d : Option Tmp) (v : Value) : Tmp → Value := fun t => if d = some t then v else ν t
def lookV : List Oper → (Nat → Value) → Nat → (Tmp → Value) → Tmp → Value
  | [], _, _, ν => ν
  | o :: l, vs, i, ν => lookV l vs (i + 1) (upd ν o.dst (vs i))
theorem upd_put (a : Act) (d : Option Tmp) (v : Value) (hd : ∀ t, d = some t → t < a.tmps.size) : (fun t => (a.put d v).eval (.tmp t)) = upd (fun t => a.eval (.tmp t)) d v := by
  funext t
  unfold upd
  by_cases hg : d = some t
  · rw [if_pos hg, hg, eval_put_same _ _ _ (hd t hg)]
  · rw [if_neg hg, eval_put_ne _ _ _ _ hg]
theorem lookV_eq : ∀ (l : List Oper) (vs : Nat → Value) (i : Nat) (a : Act), (∀ (j : Nat) o d, l[j]? = some o → o.dst = some d → d < a.tmps.size) → (fun t => (putL l vs i a).eval (.tmp t)) = lookV l vs i (fun t => a.eval (.tmp t))
  | [], _, _, _, _ => rfl
  | o :: l, vs, i, a, hd => by
    unfold putL lookV
    rw [← upd_put a o.dst (vs i) (fun t ht => hd 0 o t rfl ht)]
    exact lookV_eq l vs (i + 1) (a.put o.dst (vs i)) (fun j o' d hj hd' => by
      have hsz : (a.put o.dst (vs i)).tmps.size = a.tmps.size := by cases o.dst <;> simp [Act.put]
      rw [hsz]; exact hd (j + 1) o' d (by simpa using hj) hd')
/-- One operation's part. -/
def CalmOp (P : Program) (ops : Array Oper) (Q : Exit → Act → World → Prop) (C : Nat → (Tmp → Value) → World → Prop) (Vs : List (Stb R)) (a0 : Act) (i : Nat) (V : Stb R) (o : Oper) (k k' : Nat) : Prop :=
  ∀ (a : Act) (w : World) (K : Act → World → Prop), C k (fun t => a.eval (.tmp t)) w → (∀ t, t ∈ o.looksAt ops → slotD ops.toList Vs a0 t (a.tmps[t]?.getD undef) w) →
    (∀ v w', R w w' → C k' (upd (fun t => a.eval (.tmp t)) o.dst v) w' → V.V v w' → K (a.put o.dst v) w') → wpOp P ops Q i K a w


/-- All operations' parts. -/
def CalmAll (P : Program) (ops : Array Oper) (Q : Exit → Act → World → Prop) (C : Nat → (Tmp → Value) → World → Prop) (Vs : List (Stb R)) (a0 : Act) : Nat → Nat → List Oper → List (Stb R) → List Bool → Prop
  | i, r, o :: l, V :: Ws, s :: st => (if s = true then CalmOp P ops Q C Vs a0 i V o r (r + 1) else ∀ k, CalmOp P ops Q C Vs a0 i V o k k) ∧ CalmAll P ops Q C Vs a0 (i + 1) (stepR s r) l Ws st
  | _, _, [], [], [] => True
  | _, _, _, _, _ => False


theorem calmAll_get {C : Nat → (Tmp → Value) → World → Prop} {Vs : List (Stb R)} {a0 : Act} : ∀ (l : List Oper) (Ws : List (Stb R)) (st : List Bool) (i r : Nat), CalmAll P ops Q C Vs a0 i r l Ws st →
    l.length = Ws.length ∧ l.length = st.length ∧ ∀ j o, l[j]? = some o → ∃ V s, Ws[j]? = some V ∧ st[j]? = some s ∧
      (if s = true then CalmOp P ops Q C Vs a0 (i + j) V o (r + rank st j) (r + rank st j + 1) else ∀ k, CalmOp P ops Q C Vs a0 (i + j) V o k k)
  | [], [], [], i, r, _ => ⟨rfl, rfl, fun j o h => by simp at h⟩
  | o :: l, V :: Ws, s :: st, i, r, h => by
    obtain ⟨h1, h2⟩ := h
    obtain ⟨e1, e2, e3⟩ := calmAll_get l Ws st (i + 1) _ h2
    refine ⟨by simp [e1], by simp [e2], fun j o' hj => ?_⟩
    cases j with
    | zero =>
      simp at hj; subst hj
      exact ⟨V, s, rfl, rfl, by simpa [rank] using h1⟩
    | succ j =>
      obtain ⟨V', s', g1, g2, g3⟩ := e3 j o' (by simpa using hj)
      refine ⟨V', s', by simpa using g1, by simpa using g2, ?_⟩
      have er : rank (s :: st) (j + 1) = (if s = true then 1 else 0) + rank st j := by
        unfold rank; rw [List.take_succ_cons, List.count_cons]; cases s <;> simp <;> omega
      rw [er, show i + (j + 1) = i + 1 + j from by omega]
      cases s
      · simpa [stepR] using g3
      · rw [if_pos rfl, ← Nat.add_assoc]; exact g3
  | [], _ :: _, _, _, _, h => h.elim
  | [], [], _ :: _, _, _, h => h.elim
  | _ :: _, [], _, _, _, h => h.elim
  | _ :: _, _ :: _, [], _, _, h => h.elim


structure CalmInv (ops : Array Oper) (C : Nat → (Tmp → Value) → World → Prop) (Vs : List (Stb R)) (a0 : Act) (st : List Bool) (w0 : World) (listed : Array Bool) (a : Act) (w : World) (k : Nat) : Prop where
  size : listed.size = ops.size
  closed : ∀ i o, ops[i]? = some o → listed.getD i false = true → ∀ e ∈ o.after, Region.binds .any e = true → listed.getD e.on false = true
  defers : a.defers = a0.defers
  tsize : a.tmps.size = a0.tmps.size
  old : ∀ t, (∀ i o, ops[i]? = some o → listed.getD i false = true → o.dst ≠ some t) → a.eval (.tmp t) = a0.eval (.tmp t)
  new : ∀ i o V d, ops[i]? = some o → Vs[i]? = some V → listed.getD i false = true → o.dst = some d → V.V (a.eval (.tmp d)) w
  state : C k (fun t => a.eval (.tmp t)) w
  upto : ∀ j, st[j]? = some true → (listed.getD j false = true ↔ rank st j < k)
  base : R w0 w
  kle : k ≤ rank st ops.size


theorem calm_step {C : Nat → (Tmp → Value) → World → Prop} {Vs : List (Stb R)} {a0 : Act} {st : List Bool} {w0 : World} (hB : CalmOK ops st) (hall : CalmAll P ops Q C Vs a0 0 0 ops.toList Vs st)
    (htr : ∀ a b c, R a b → R b c → R a c) (hds : ∀ (i : Nat) o d, ops[i]? = some o → o.dst = some d → d < a0.tmps.size)
    {listed : Array Bool} {a : Act} {w : World} {k : Nat} (hI : CalmInv ops C Vs a0 st w0 listed a w k) {i : Nat} (hi : i ∈ Region.ready .any ops listed)
    {K : Act → World → Prop} (hK : ∀ a' w' k', CalmInv ops C Vs a0 st w0 (listed.setIfInBounds i true) a' w' k' → K a' w') : wpOp P ops Q i K a w := by
  obtain ⟨_, hBd, hBs, hBn⟩ := hB
  obtain ⟨hl1, hl2, hget⟩ := calmAll_get ops.toList Vs st 0 0 hall
  obtain ⟨hun, o, ho, haft⟩ := mem_ready.1 hi
  have hlt : i < ops.size := (Array.getElem?_eq_some_iff.1 ho).1
  have hun' : listed.getD i false = false := by
    have : i < listed.size := by rw [hI.size]; exact hlt
    simp [this] at hun ⊢; exact hun
  obtain ⟨V, s, hV, hs, hop⟩ := hget i o (by simpa using ho)
  have deps : ∀ t, t ∈ o.looksAt ops → slotD ops.toList Vs a0 t (a.tmps[t]?.getD undef) w := fun t ht => by
    rw [← eval_get]
    refine slotD_of _ _ hl1 (fun j p V' hj hV' hd => ?_) (fun hn => ?_)
    · obtain ⟨e, he, hb, hej⟩ := hBd i j o p t ho (by simpa using hj) hd ht
      exact hI.new j p V' t (by simpa using hj) hV' (by rw [← hej]; exact haft e he hb) hd
    · rw [← eval_get]; exact hI.old t fun j p hj _ => hn j p (by simpa using hj)
  have key : ∀ k', (s = true → k' = k + 1) → (s = false → k' = k) → (s = true → rank st i = k) → ∀ v w', R w w' → C k' (upd (fun t => a.eval (.tmp t)) o.dst v) w' → V.V v w' → K (a.put o.dst v) w' := by
    intro k' hk1 hk0 hrk v w' hR hC0 hv
    have hC : C k' (fun t => (a.put o.dst v).eval (.tmp t)) w' := by
      have e : (fun t => (a.put o.dst v).eval (.tmp t)) = upd (fun t => a.eval (.tmp t)) o.dst v := by
        funext t
        unfold upd
        by_cases hg : o.dst = some t
        · rw [if_pos hg, hg, eval_put_same _ _ _ (by rw [hI.tsize]; exact hds i o t ho hg)]
        · rw [if_neg hg, eval_put_ne _ _ _ _ hg]
      rw [e]; exact hC0
    refine hK _ _ k' ⟨by simp [hI.size], fun j p hj hlj e he hb => ?_, ?_, ?_, fun t hn => ?_, fun j p V' d hj hV' hlj hd => ?_, hC, fun j hj => ?_, htr _ _ _ hI.base hR, ?_⟩
    · rw [getD_set _ _ _ (by rw [hI.size]; exact hlt)] at hlj ⊢
      simp only [Bool.or_eq_true, decide_eq_true_eq] at hlj ⊢
      rcases hlj with rfl | hlj
      · rw [ho] at hj; cases hj; exact .inr (haft e he hb)
      · exact .inr (hI.closed j p hj hlj e he hb)
    · rw [← hI.defers]; cases o.dst <;> rfl
    · rw [← hI.tsize]; cases o.dst <;> simp [Act.put]
    · have hne : o.dst ≠ some t := hn i o ho (by rw [getD_set _ _ _ (by rw [hI.size]; exact hlt)]; simp)
      rw [eval_put_ne _ _ _ _ hne]
      exact hI.old t fun j p hj hlj => hn j p hj (by rw [getD_set _ _ _ (by rw [hI.size]; exact hlt), hlj]; simp)
    · rw [getD_set _ _ _ (by rw [hI.size]; exact hlt)] at hlj
      by_cases hij : i = j
      · subst hij
        rw [ho] at hj; cases hj
        rw [hV] at hV'; cases hV'
        rw [hd, eval_put_same _ _ _ (by rw [hI.tsize]; exact hds i o d ho hd)]
        exact hv
      · simp only [hij, decide_false, Bool.false_or] at hlj
        have hne : o.dst ≠ some d := by
          intro e
          -- two operations that write one slot
          have h1 : (ops.toList.filterMap (·.dst)).Nodup := hBn
          obtain ⟨hi1, hi2⟩ := Array.getElem?_eq_some_iff.1 ho
          obtain ⟨hj1, hj2⟩ := Array.getElem?_eq_some_iff.1 hj
          exact nodup_dst _ h1 i j o p d (by simpa using ho) (by simpa using hj) e hd hij
        rw [eval_put_ne _ _ _ _ hne]
        exact V'.st _ _ _ (hI.new j p V' d hj hV' hlj hd) hR
    · rw [getD_set _ _ _ (by rw [hI.size]; exact hlt)]
      simp only [Bool.or_eq_true, decide_eq_true_eq]
      have hu := hI.upto j hj
      cases s with
      | true =>
        rw [hk1 rfl]
        by_cases hij : i = j
        · subst hij; have := hrk rfl; simp; omega
        · have : rank st j ≠ k := by
            rw [← hrk rfl]
            rcases Nat.lt_or_gt_of_ne hij with h | h
            · have := rank_lt st h hs; omega
            · have := rank_lt st h hj; omega
          simp only [hij, false_or, hu]; omega
      | false =>
        rw [hk0 rfl]
        have hij : i ≠ j := by rintro rfl; rw [hs] at hj; cases hj
        simp only [hij, false_or, hu]
    · cases s with
      | true =>
        rw [hk1 rfl, ← hrk rfl]
        have := rank_mono st (show i + 1 ≤ ops.size by omega)
        rw [rank_succ, if_pos hs] at this; exact this
      | false => rw [hk0 rfl]; exact hI.kle
  cases s with
  | true =>
    have hrk : rank st i = k := by
      have h1 := hI.upto i hs
      rw [hun'] at h1
      have h2 : ¬ rank st i < k := fun h => by simpa using h1.2 h
      have := hBs listed k i o ho hs hI.closed haft hI.upto
      omega
    rw [if_pos rfl, Nat.zero_add, Nat.zero_add, hrk] at hop
    exact hop a w K hI.state deps (key (k + 1) (fun _ => rfl) (fun h => by cases h) (fun _ => hrk))
  | false =>
    simp only [Bool.false_eq_true, if_false] at hop
    rw [Nat.zero_add] at hop
    exact hop k a w K hI.state deps (key k (fun h => by cases h) (fun _ => rfl) (fun h => by cases h))


theorem calm_any {C : Nat → (Tmp → Value) → World → Prop} {Vs : List (Stb R)} {a0 : Act} {st : List Bool} {w0 : World} (hB : CalmOK ops st) (hall : CalmAll P ops Q C Vs a0 0 0 ops.toList Vs st)
    (htr : ∀ a b c, R a b → R b c → R a c) (hds : ∀ (i : Nat) o d, ops[i]? = some o → o.dst = some d → d < a0.tmps.size)
    (hQ : ∀ listed a w k, CalmInv ops C Vs a0 st w0 listed a w k → (∀ i, i < ops.size → listed.getD i false = true) → Q .normal a w) :
    ∀ (fuel : Nat) (listed : Array Bool) (a : Act) (w : World) (k : Nat), CalmInv ops C Vs a0 st w0 listed a w k →
      ((List.range ops.size).filter fun i => !listed.getD i false).length ≤ fuel → wpAny P .any ops Q fuel listed a w := by
  have hfull : ∀ listed : Array Bool, listed.size = ops.size → Region.ready .any ops listed = [] → ∀ i, i < ops.size → listed.getD i false = true := by
    intro listed hsz hr i
    induction i using Nat.strongRecOn with
    | _ i ih =>
      intro hi
      rcases hl : listed.getD i false with _ | _
      · exfalso
        have : i ∈ Region.ready .any ops listed := mem_ready.2 ⟨by
            have h2 : i < listed.size := by rw [hsz]; exact hi
            simp [h2] at hl ⊢; exact hl, ops[i], by simp [hi], fun e he hb => by
            have h3 := hB.bl i ops[i] (by simp [hi]) e he hb
            exact ih e.on h3 (by omega)⟩
        rw [hr] at this; cases this
      · rfl
  intro fuel
  induction fuel with
  | zero =>
    intro listed a w k hI hlen
    have hnone : ∀ i, i < ops.size → listed.getD i false = true := fun i hi => by
      have h0 := List.eq_nil_of_length_eq_zero (Nat.le_zero.1 hlen)
      have := List.filter_eq_nil_iff.1 h0 i (List.mem_range.2 hi)
      simpa using this
    refine ⟨?_, hQ listed a w k hI hnone⟩
    rw [List.eq_nil_iff_forall_not_mem]
    intro i hi
    obtain ⟨h1, o, ho, _⟩ := mem_ready.1 hi
    have hlt : i < ops.size := (Array.getElem?_eq_some_iff.1 ho).1
    have h2 := hnone i hlt
    have h3 : i < listed.size := by rw [hI.size]; exact hlt
    simp [h3] at h1 h2; rw [h1] at h2; cases h2
  | succ fuel ih =>
    intro listed a w k hI hlen
    refine ⟨fun hr => hQ listed a w k hI (hfull listed hI.size hr), fun i hi => ?_⟩
    refine calm_step hB hall htr hds hI hi fun a' w' k' hI' => ih _ a' w' k' hI' ?_
    obtain ⟨h1, o, ho, _⟩ := mem_ready.1 hi
    have hlt : i < ops.size := (Array.getElem?_eq_some_iff.1 ho).1
    have hsz : i < listed.size := by rw [hI.size]; exact hlt
    have hne : listed.getD i false = false := by simp [hsz] at h1 ⊢; exact h1
    have : ((List.range ops.size).filter fun j => !(listed.setIfInBounds i true).getD j false).length < ((List.range ops.size).filter fun j => !listed.getD j false).length := by
      have e : ((List.range ops.size).filter fun j => !(listed.setIfInBounds i true).getD j false) = ((List.range ops.size).filter fun j => !listed.getD j false).filter fun j => !decide (i = j) := by
        rw [List.filter_filter]
        congr 1; funext j
        rw [getD_set _ _ _ hsz, Bool.not_or]
      rw [e]
      refine List.length_filter_lt_length_iff_exists.2 ⟨i, List.mem_filter.2 ⟨List.mem_range.2 hlt, by rw [hne]; rfl⟩, by simp⟩
    omega


/-- THE RULE: a region that draws its order. -/
theorem wp_region_calm' {id : Nat} {l : List Oper} {C : Nat → (Tmp → Value) → World → Prop} {a : Act} {w : World} (st : List Bool) (Vs : List (Stb R)) (hm : P.follows .mixedOrders = true) (hB : CalmOK l.toArray st)
    (htr : ∀ a b c, R a b → R b c → R a c) (h0 : R w w.drew) (hC : C 0 (fun t => a.eval (.tmp t)) w.drew) (hds : l.all (fun o => (o.dst.map fun d => decide (d < a.tmps.size)).getD true) = true)
    (hall : CalmAll P l.toArray Q C Vs a 0 0 l Vs st)
    (hfin : ∀ (vs : Nat → Value) (w' : World), R w w' → C (rank st l.length) (lookV l vs 0 (fun t => a.eval (.tmp t))) w' → (∀ (i : Nat) o V, l[i]? = some o → Vs[i]? = some V → o.dst ≠ none → V.V (vs i) w') → Q .normal (putL l vs 0 a) w') :
    (Code.region id l.toArray true).wp P Q a w := by
  have hds' : ∀ (i : Nat) o d, l.toArray[i]? = some o → o.dst = some d → d < a.tmps.size := fun i o d hi hd => by
    have := List.all_eq_true.1 hds o (List.mem_of_getElem? (by simpa using hi))
    rw [hd] at this; simpa using this
  have hall' : CalmAll P l.toArray Q C Vs a 0 0 l.toArray.toList Vs st := hall
  have hrep : ∀ i, (Array.replicate l.toArray.size false).getD i false = false := fun i => by
    rw [Array.getD_eq_getD_getElem?, Array.getElem?_replicate]; split <;> rfl
  refine wp_region_any hm (calm_any (w0 := w) (k := 0) hB hall' htr hds' ?_ _ _ _ _ ⟨by simp, ?_, rfl, rfl, fun _ _ => rfl, ?_, hC, ?_, h0, Nat.zero_le _⟩ ?_)
  · intro listed a' w' k hI hfull
    obtain ⟨hl1, hl2, hget⟩ := calmAll_get l Vs st 0 0 hall
    have hBn : (l.filterMap (·.dst)).Nodup := hB.bn
    have hk : k = rank st l.length := by
      have h1 := hI.kle
      simp only [List.size_toArray] at h1
      rcases Nat.lt_or_ge k (rank st l.length) with h | h
      · obtain ⟨j, hj1, hj2, hj3⟩ := rank_hit st l.length k h
        have := (hI.upto j hj2).1 (hfull j (by simpa using hj1)); omega
      · omega
    obtain ⟨p1, p2, p3, p4⟩ := putL_spec l (fun i => ((l[i]?).bind (·.dst)).elim undef fun d => a'.eval (.tmp d)) 0 a hBn (fun j o d hj hd => hds' j o d (by simpa using hj) hd)
    have hlist : ∀ {j : Nat} {o : Oper}, l[j]? = some o → listed.getD j false = true := fun hj => hfull _ (by simpa using (List.getElem?_eq_some_iff.1 hj).1)
    have e : a' = putL l (fun i => ((l[i]?).bind (·.dst)).elim undef fun d => a'.eval (.tmp d)) 0 a := by
      refine act_ext (hI.defers.trans p1.symm) (hI.tsize.trans p2.symm) fun t => ?_
      by_cases ht : ∃ (j : Nat) (o : Oper), l[j]? = some o ∧ o.dst = some t
      · obtain ⟨j, o, hj, hd⟩ := ht
        rw [p3 j o t hj hd, Nat.zero_add, hj]
        simp [hd]
      · have hn : ∀ (j : Nat) (o : Oper), l[j]? = some o → o.dst ≠ some t := fun j o hj hd => ht ⟨j, o, hj, hd⟩
        rw [p4 t hn]
        exact hI.old t fun j o hj _ => hn j o (by simpa using hj)
    have hst : C (rank st l.length) (lookV l (fun i => ((l[i]?).bind (·.dst)).elim undef fun d => a'.eval (.tmp d)) 0 (fun t => a.eval (.tmp t))) w' := by
      rw [← lookV_eq l _ 0 a (fun j o d hj hd => hds' j o d (by simpa using hj) hd), ← e, ← hk]; exact hI.state
    rw [e]
    refine hfin _ w' hI.base hst fun i o V hi hV hne => ?_
    cases hd : o.dst with
    | none => exact absurd hd hne
    | some d =>
      have := hI.new i o V d (by simpa using hi) hV (hlist hi) hd
      simpa [hi, hd] using this
  · intro i o _ h; rw [hrep] at h; cases h
  · intro i o V d _ _ h; rw [hrep] at h; cases h
  · intro j _; rw [hrep]; simp
  · simpa using List.length_filter_le _ (List.range l.length)


/-- The rule with levels. -/
theorem wp_region_calmL {id : Nat} {l : List Oper} {C : Nat → (Tmp → Value) → World → Prop} {a : Act} {w : World} (st : List Bool) (lv : List Nat) (Vs : List (Stb R)) (hm : P.follows .mixedOrders = true) (hB : calmL l.toArray st lv = true)
    (htr : ∀ a b c, R a b → R b c → R a c) (h0 : R w w.drew) (hC : C 0 (fun t => a.eval (.tmp t)) w.drew) (hds : l.all (fun o => (o.dst.map fun d => decide (d < a.tmps.size)).getD true) = true)
    (hall : CalmAll P l.toArray Q C Vs a 0 0 l Vs st)
    (hfin : ∀ (vs : Nat → Value) (w' : World), R w w' → C (rank st l.length) (lookV l vs 0 (fun t => a.eval (.tmp t))) w' → (∀ (i : Nat) o V, l[i]? = some o → Vs[i]? = some V → o.dst ≠ none → V.V (vs i) w') → Q .normal (putL l vs 0 a) w') :
    (Code.region id l.toArray true).wp P Q a w :=
  wp_region_calm' st Vs hm (calmL_ok hB) htr h0 hC hds hall hfin


theorem calm_mv {C : Nat → (Tmp → Value) → World → Prop} {Vs : List (Stb R)} {a0 : Act} {i k : Nat} {V : Stb R} {o : Oper} (t : Tmp) (hi : ops[i]? = some o) (hg : o.guard = none) (ho : o.op = .move (.tmp t) ∨ o.op = .assign (.tmp t)) (hng : ∀ ν v w, C k ν w → C k (upd ν o.dst v) w) (hR : ∀ w, R w w) (ht : t ∈ o.looksAt ops)
    (hV : ∀ (v : Value) (w : World), slotD ops.toList Vs a0 t v w → V.V v w) : CalmOp P ops Q C Vs a0 i V o k k := by
  intro a w K hC hd hK
  refine calm_run hi hg (a.eval (.tmp t)) (w' := w) ?_ (hK _ _ (hR w) (hng _ _ _ hC) (hV _ w (by rw [eval_get]; exact hd t ht)))
  rcases ho with ho | ho <;> simp [execOp, ho]
end
end Go.Proofs.YtdngcheimohamaaDoor.H
/- interrexref19.Text. -/
namespace Go.Proofs.YtdngcheimohamaaDoor
open Go.RowKit
def textE (e : EnV) : List UInt8 := leB 8 e.op ++ leB 8 e.view ++ leB 1 e.cl ++ leB 8 e.num ++ textR (mkS (textO e.o))
def RowOne (bs : List UInt8) : Stb (Fr noB) := ⟨fun v W => ∃ q, v = .slice (some ⟨q, 0, none⟩) 1 1 ∧ RowAt W (some ⟨q, 0, none⟩) (bcells bs), fun _ _ _ ⟨q, h1, h2⟩ f => ⟨q, h1, h2.fr0 f⟩⟩
set_option maxRecDepth 100000 in
set_option maxHeartbeats 3200000 in
theorem textE_calls (w : World) (e : EnV) (hw : e.wf) (ha : e.o.a.size ≤ 1000000000) (hb : e.o.b.size ≤ 1000000000) :
    Calls Tryd.prog 22 #[e.v] w (StrPost w (textE e)) := by
  have f0 : Fr noB w (w.alloc (.cells e.C.toArray 58)) := (Fr.refl noB w).alloc _
  have hb0 : BlkAt (w.alloc (.cells e.C.toArray 58)) w.heap.size 58 e.C.toArray := BlkAt.new _ _ _
  have hl := textO_length e.o
  have hto := fun W => textO_calls W e.o hw.o (by omega) (by omega)
  have htr := fun W => textR_calls W (mkS (textO e.o)) (by rw [mkS_size]; omega)
  have hl2 := textR_length (mkS (textO e.o))
  rw [mkS_size] at hl2
  have hT : Hid (textE e = leB 8 e.op ++ leB 8 e.view ++ leB 1 e.cl ++ leB 8 e.num ++ textR (mkS (textO e.o))) := rfl
  have hcl := hw.cl
  generalize textE e = te at *
  generalize textO e.o = to at *
  generalize textR (mkS to) = tr at *
  obtain ⟨op, view, cl, num, ⟨k, oa, ob, on, or⟩⟩ := e
  unfold EnV.C at f0 hb0
  unfold EnV.v OpV.v at *
  simp only [] at *
  have hn1 := fun W => numR_calls W op 8 (by have := hw.op; simp only [] at this; omega) (by omega)
  have hn2 := fun W => numR_calls W view 8 (by have := hw.view; simp only [] at this; omega) (by omega)
  have hn3 := fun W => numR_calls W num 8 (by have := hw.num; simp only [] at this; omega) (by omega)
  have hrow : ∀ W : World, RowAt (W.alloc (.cells #[.int .u8 cl] 5)) (some ⟨W.heap.size, 0, none⟩) (bcells (leB 1 cl)) := fun W => by
    have h := new_row W #[.int .u8 cl] 5
    have e : bcells (leB 1 cl) = (#[Value.int .u8 cl] : Array Value).toList := by simp [leB, bcells]; omega
    rw [e]; exact h
  have z1 := leB_length 8 op
  have z2 := leB_length 8 view
  have z3 := leB_length 1 cl
  have z4 := leB_length 8 num
  generalize leB 8 op = b1 at *
  generalize leB 8 view = b2 at *
  generalize leB 1 cl = b3 at *
  generalize leB 8 num = b4 at *
  have g1 : (mkS b1).size + (mkS b2).size ≤ 9223372036854775807 := by rw [mkS_size, mkS_size]; omega
  have g2 : (mkS (b1 ++ b2)).size + (mkS b3).size ≤ 9223372036854775807 := by rw [mkS_size, mkS_size, List.length_append]; omega
  have g3 : (mkS (b1 ++ b2 ++ b3)).size + (mkS b4).size ≤ 9223372036854775807 := by rw [mkS_size, mkS_size]; simp only [List.length_append]; omega
  have g4 : (mkS (b1 ++ b2 ++ b3 ++ b4)).size + (mkS tr).size ≤ 9223372036854775807 := by rw [mkS_size, mkS_size]; simp only [List.length_append]; omega
  have m1 := mkS_append b1 b2
  have m2 := mkS_append (b1 ++ b2) b3
  have m3 := mkS_append (b1 ++ b2 ++ b3) b4
  have m4 := mkS_append (b1 ++ b2 ++ b3 ++ b4) tr
  generalize b1 ++ b2 ++ b3 ++ b4 ++ tr = c5 at *
  generalize b1 ++ b2 ++ b3 ++ b4 = c4 at *
  generalize b1 ++ b2 ++ b3 = c3 at *
  generalize b1 ++ b2 = c2 at *
  clear hl hl2 z1 z2 z4 hw ha hb
  go_enter Tryd.func22, Tryd.ntmps22
  go_upto_region 1 with fail
  generalize (w.alloc (.cells #[.int .u64 op, .int .u64 view, .int .u8 cl, .int .u64 num, .int .u8 k, .string oa, .string ob, .int .u8 on, .int .u8 or] 58)) = wa at *
  apply wp_region_calm (R := Fr noB) (C := fun _ W => Fr noB wa W) [false, false, false, false, false, false, false, false, false, false, false, false, false, false, false, false, false, false, false, false, false, false, false, false, false]
    [eqv _, eqv _, eqv (.string (mkS b1)), eqv _, eqv _, eqv (.string (mkS b2)), eqv (.string (mkS c2)), eqv _, eqv _, eqv _, RowOne b3, eqv (.string (mkS b3)), eqv (.string (mkS c3)), eqv _, eqv _, eqv _, eqv (.string (mkS b4)), eqv (.string (mkS c4)), eqv _, eqv _, eqv _, eqv (.string (mkS to)), eqv (.string (mkS tr)), eqv (.string (mkS c5)), eqv (.string (mkS c5))]
    (by kernel_rfl) (by kernel_rfl) (fun _ _ _ h1 h2 => h1.then' h2) ((Fr.refl _ _).drew) ((Fr.refl _ _).drew) (by kernel_rfl)
  · refine ⟨?_, ?_, ?_, ?_, ?_, ?_, ?_, ?_, ?_, ?_, ?_, ?_, ?_, ?_, ?_, ?_, ?_, ?_, ?_, ?_, ?_, ?_, ?_, ?_, ?_, trivial⟩
    · rw [if_neg (by decide)]; intro kq
      intro a W K hC hd hK
      have d1 : a.tmps[1]?.getD undef = .pointer (some ⟨w.heap.size, 0, none⟩) := hd 1 (by decide)
      refine wpOp_plain rfl rfl ?_
      obtain ⟨x0, x1, x2, x3, x4, x5, x6, x7, x8, xf⟩ := BlkAt.c9 (hb0.fr hC id)
      go_wp2_with fail
      exact hK _ _ (Fr.refl _ _) hC rfl
    · rw [if_neg (by decide)]; intro kq
      intro a W K hC hd hK
      have d3 : _ = _ := hd 3 (by decide)
      refine wpOp_plain rfl rfl ?_
      obtain ⟨x0, x1, x2, x3, x4, x5, x6, x7, x8, xf⟩ := BlkAt.c9 (hb0.fr hC id)
      go_wp2_with fail
      exact hK _ _ (Fr.refl _ _) hC rfl
    · rw [if_neg (by decide)]; intro kq
      intro a W K hC hd hK
      have d4 : _ = _ := hd 4 (by decide)
      refine wpOp_plain rfl rfl ?_
      obtain ⟨x0, x1, x2, x3, x4, x5, x6, x7, x8, xf⟩ := BlkAt.c9 (hb0.fr hC id)
      go_wp2_with fail
      refine (hn1 W).mono ?_
      rintro e9 w9 ⟨rfl, f9⟩
      exact hK _ _ f9 (hC.then' f9) rfl
    · rw [if_neg (by decide)]; intro kq
      intro a W K hC hd hK
      have d1 : a.tmps[1]?.getD undef = .pointer (some ⟨w.heap.size, 0, none⟩) := hd 1 (by decide)
      refine wpOp_plain rfl rfl ?_
      obtain ⟨x0, x1, x2, x3, x4, x5, x6, x7, x8, xf⟩ := BlkAt.c9 (hb0.fr hC id)
      go_wp2_with fail
      exact hK _ _ (Fr.refl _ _) hC rfl
    · rw [if_neg (by decide)]; intro kq
      intro a W K hC hd hK
      have d6 : _ = _ := hd 6 (by decide)
      refine wpOp_plain rfl rfl ?_
      obtain ⟨x0, x1, x2, x3, x4, x5, x6, x7, x8, xf⟩ := BlkAt.c9 (hb0.fr hC id)
      go_wp2_with fail
      exact hK _ _ (Fr.refl _ _) hC rfl
    · rw [if_neg (by decide)]; intro kq
      intro a W K hC hd hK
      have d7 : _ = _ := hd 7 (by decide)
      refine wpOp_plain rfl rfl ?_
      obtain ⟨x0, x1, x2, x3, x4, x5, x6, x7, x8, xf⟩ := BlkAt.c9 (hb0.fr hC id)
      go_wp2_with fail
      refine (hn2 W).mono ?_
      rintro e9 w9 ⟨rfl, f9⟩
      exact hK _ _ f9 (hC.then' f9) rfl
    · rw [if_neg (by decide)]; intro kq
      intro a W K hC hd hK
      have d5 : a.tmps[5]?.getD undef = .string (mkS b1) := hd 5 (by decide)
      have d8 : a.tmps[8]?.getD undef = .string (mkS b2) := hd 8 (by decide)
      refine wpOp_plain rfl rfl ?_
      go_wp2_with fail
      exact hK _ _ (Fr.refl _ _) hC rfl
    · rw [if_neg (by decide)]; intro kq
      intro a W K hC hd hK
      have d1 : a.tmps[1]?.getD undef = .pointer (some ⟨w.heap.size, 0, none⟩) := hd 1 (by decide)
      refine wpOp_plain rfl rfl ?_
      obtain ⟨x0, x1, x2, x3, x4, x5, x6, x7, x8, xf⟩ := BlkAt.c9 (hb0.fr hC id)
      go_wp2_with fail
      exact hK _ _ (Fr.refl _ _) hC rfl
    · rw [if_neg (by decide)]; intro kq
      intro a W K hC hd hK
      have d10 : _ = _ := hd 10 (by decide)
      refine wpOp_plain rfl rfl ?_
      obtain ⟨x0, x1, x2, x3, x4, x5, x6, x7, x8, xf⟩ := BlkAt.c9 (hb0.fr hC id)
      go_wp2_with fail
      exact hK _ _ (Fr.refl _ _) hC rfl
    · rw [if_neg (by decide)]; intro kq
      intro a W K hC hd hK
      have d11 : _ = _ := hd 11 (by decide)
      refine wpOp_plain rfl rfl ?_
      obtain ⟨x0, x1, x2, x3, x4, x5, x6, x7, x8, xf⟩ := BlkAt.c9 (hb0.fr hC id)
      go_wp2_with fail
      exact hK _ _ (Fr.refl _ _) hC rfl
    · rw [if_neg (by decide)]; intro kq
      intro a W K hC hd hK
      have d12 : _ = _ := hd 12 (by decide)
      refine wpOp_plain rfl rfl ?_
      go_wp2_with fail
      have fa := (Fr.refl noB W).alloc (.cells #[.int .u8 cl] 5)
      exact hK _ _ fa (hC.then' fa) ⟨W.heap.size, rfl, hrow W⟩
    · rw [if_neg (by decide)]; intro kq
      intro a W K hC hd hK
      have d13 : (RowOne b3).V (a.tmps[13]?.getD undef) W := hd 13 (by decide)
      refine wpOp_plain rfl rfl ?_
      obtain ⟨q9, d13, hr9⟩ := d13
      have hst := Tryd.toStr hr9 z3 1
      go_wp2_with fail
      exact hK _ _ (Fr.refl _ _) hC rfl
    · rw [if_neg (by decide)]; intro kq
      intro a W K hC hd hK
      have d9 : a.tmps[9]?.getD undef = .string (mkS c2) := hd 9 (by decide)
      have d14 : a.tmps[14]?.getD undef = .string (mkS b3) := hd 14 (by decide)
      refine wpOp_plain rfl rfl ?_
      go_wp2_with fail
      exact hK _ _ (Fr.refl _ _) hC rfl
    · rw [if_neg (by decide)]; intro kq
      intro a W K hC hd hK
      have d1 : a.tmps[1]?.getD undef = .pointer (some ⟨w.heap.size, 0, none⟩) := hd 1 (by decide)
      refine wpOp_plain rfl rfl ?_
      obtain ⟨x0, x1, x2, x3, x4, x5, x6, x7, x8, xf⟩ := BlkAt.c9 (hb0.fr hC id)
      go_wp2_with fail
      exact hK _ _ (Fr.refl _ _) hC rfl
    · rw [if_neg (by decide)]; intro kq
      intro a W K hC hd hK
      have d16 : _ = _ := hd 16 (by decide)
      refine wpOp_plain rfl rfl ?_
      obtain ⟨x0, x1, x2, x3, x4, x5, x6, x7, x8, xf⟩ := BlkAt.c9 (hb0.fr hC id)
      go_wp2_with fail
      exact hK _ _ (Fr.refl _ _) hC rfl
    · rw [if_neg (by decide)]; intro kq
      intro a W K hC hd hK
      have d17 : _ = _ := hd 17 (by decide)
      refine wpOp_plain rfl rfl ?_
      obtain ⟨x0, x1, x2, x3, x4, x5, x6, x7, x8, xf⟩ := BlkAt.c9 (hb0.fr hC id)
      go_wp2_with fail
      exact hK _ _ (Fr.refl _ _) hC rfl
    · rw [if_neg (by decide)]; intro kq
      intro a W K hC hd hK
      have d18 : _ = _ := hd 18 (by decide)
      refine wpOp_plain rfl rfl ?_
      obtain ⟨x0, x1, x2, x3, x4, x5, x6, x7, x8, xf⟩ := BlkAt.c9 (hb0.fr hC id)
      go_wp2_with fail
      refine (hn3 W).mono ?_
      rintro e9 w9 ⟨rfl, f9⟩
      exact hK _ _ f9 (hC.then' f9) rfl
    · rw [if_neg (by decide)]; intro kq
      intro a W K hC hd hK
      have d15 : a.tmps[15]?.getD undef = .string (mkS c3) := hd 15 (by decide)
      have d19 : a.tmps[19]?.getD undef = .string (mkS b4) := hd 19 (by decide)
      refine wpOp_plain rfl rfl ?_
      go_wp2_with fail
      exact hK _ _ (Fr.refl _ _) hC rfl
    · rw [if_neg (by decide)]; intro kq
      intro a W K hC hd hK
      have d1 : a.tmps[1]?.getD undef = .pointer (some ⟨w.heap.size, 0, none⟩) := hd 1 (by decide)
      refine wpOp_plain rfl rfl ?_
      obtain ⟨x0, x1, x2, x3, x4, x5, x6, x7, x8, xf⟩ := BlkAt.c9 (hb0.fr hC id)
      go_wp2_with fail
      exact hK _ _ (Fr.refl _ _) hC rfl
    · rw [if_neg (by decide)]; intro kq
      intro a W K hC hd hK
      have d21 : _ = _ := hd 21 (by decide)
      refine wpOp_plain rfl rfl ?_
      obtain ⟨x0, x1, x2, x3, x4, x5, x6, x7, x8, xf⟩ := BlkAt.c9 (hb0.fr hC id)
      go_wp2_with fail
      exact hK _ _ (Fr.refl _ _) hC rfl
    · rw [if_neg (by decide)]; intro kq
      intro a W K hC hd hK
      have d22 : _ = _ := hd 22 (by decide)
      refine wpOp_plain rfl rfl ?_
      obtain ⟨x0, x1, x2, x3, x4, x5, x6, x7, x8, xf⟩ := BlkAt.c9 (hb0.fr hC id)
      go_wp2_with fail
      exact hK _ _ (Fr.refl _ _) hC rfl
    · rw [if_neg (by decide)]; intro kq
      intro a W K hC hd hK
      have d23 : _ = _ := hd 23 (by decide)
      refine wpOp_plain rfl rfl ?_
      obtain ⟨x0, x1, x2, x3, x4, x5, x6, x7, x8, xf⟩ := BlkAt.c9 (hb0.fr hC id)
      go_wp2_with fail
      refine (hto W).mono ?_
      rintro e9 w9 ⟨rfl, f9⟩
      exact hK _ _ f9 (hC.then' f9) rfl
    · rw [if_neg (by decide)]; intro kq
      intro a W K hC hd hK
      have d24 : a.tmps[24]?.getD undef = .string (mkS to) := hd 24 (by decide)
      refine wpOp_plain rfl rfl ?_
      obtain ⟨x0, x1, x2, x3, x4, x5, x6, x7, x8, xf⟩ := BlkAt.c9 (hb0.fr hC id)
      go_wp2_with fail
      refine (htr W).mono ?_
      rintro e9 w9 ⟨rfl, f9⟩
      exact hK _ _ f9 (hC.then' f9) rfl
    · rw [if_neg (by decide)]; intro kq
      intro a W K hC hd hK
      have d20 : a.tmps[20]?.getD undef = .string (mkS c4) := hd 20 (by decide)
      have d25 : a.tmps[25]?.getD undef = .string (mkS tr) := hd 25 (by decide)
      refine wpOp_plain rfl rfl ?_
      go_wp2_with fail
      exact hK _ _ (Fr.refl _ _) hC rfl
    · rw [if_neg (by decide)]; intro kq
      exact calm_mv 26 rfl rfl (Or.inr rfl) (Fr.refl _) (by decide) fun v w hd => hd
  · intro vs w8 fw8 cw8 hV
    have v3 : vs 0 = _ := hV 0 _ _ rfl rfl (by decide)
    have v4 : vs 1 = _ := hV 1 _ _ rfl rfl (by decide)
    have v5 : vs 2 = .string (mkS b1) := hV 2 _ _ rfl rfl (by decide)
    have v6 : vs 3 = _ := hV 3 _ _ rfl rfl (by decide)
    have v7 : vs 4 = _ := hV 4 _ _ rfl rfl (by decide)
    have v8 : vs 5 = .string (mkS b2) := hV 5 _ _ rfl rfl (by decide)
    have v9 : vs 6 = .string (mkS c2) := hV 6 _ _ rfl rfl (by decide)
    have v10 : vs 7 = _ := hV 7 _ _ rfl rfl (by decide)
    have v11 : vs 8 = _ := hV 8 _ _ rfl rfl (by decide)
    have v12 : vs 9 = _ := hV 9 _ _ rfl rfl (by decide)
    have v13 : (RowOne b3).V (vs 10) w8 := hV 10 _ _ rfl rfl (by decide)
    have v14 : vs 11 = .string (mkS b3) := hV 11 _ _ rfl rfl (by decide)
    have v15 : vs 12 = .string (mkS c3) := hV 12 _ _ rfl rfl (by decide)
    have v16 : vs 13 = _ := hV 13 _ _ rfl rfl (by decide)
    have v17 : vs 14 = _ := hV 14 _ _ rfl rfl (by decide)
    have v18 : vs 15 = _ := hV 15 _ _ rfl rfl (by decide)
    have v19 : vs 16 = .string (mkS b4) := hV 16 _ _ rfl rfl (by decide)
    have v20 : vs 17 = .string (mkS c4) := hV 17 _ _ rfl rfl (by decide)
    have v21 : vs 18 = _ := hV 18 _ _ rfl rfl (by decide)
    have v22 : vs 19 = _ := hV 19 _ _ rfl rfl (by decide)
    have v23 : vs 20 = _ := hV 20 _ _ rfl rfl (by decide)
    have v24 : vs 21 = .string (mkS to) := hV 21 _ _ rfl rfl (by decide)
    have v25 : vs 22 = .string (mkS tr) := hV 22 _ _ rfl rfl (by decide)
    have v26 : vs 23 = .string (mkS c5) := hV 23 _ _ rfl rfl (by decide)
    have v2 : vs 24 = .string (mkS c5) := hV 24 _ _ rfl rfl (by decide)
    clear hV
    simp only [putL, Act.put, Nat.reduceAdd, List.setIfInBounds_toArray, List.set_cons_zero, List.set_cons_succ, v3, v4, v5, v6, v7, v8, v9, v10, v11, v12, v14, v15, v16, v17, v18, v19, v20, v21, v22, v23, v24, v25, v26, v2]
    go_wp2_with fail
    go_ret
    exact ⟨by rw [hT.out]; rfl, f0.then' fw8⟩
end Go.Proofs.YtdngcheimohamaaDoor
/- Entries as bytes (no program). -/
namespace Go.Proofs.YtdngcheimohamaaDoor
open Go.RowKit
/-- An entry's bytes. -/
def enB (e : EnV) : List UInt8 := leB 8 e.op ++ (leB 8 e.view ++ (leB 1 e.cl ++ (leB 8 e.num ++ textB (mkS (writeB e.o (zOf e.o))))))
def enR1 (bs : List UInt8) : Rd × Nat := rNum ⟨bs, 0⟩ 8
def enR2 (bs : List UInt8) : Rd × Nat := rNum (enR1 bs).1 8
def enR3 (bs : List UInt8) : Rd × Nat := rNum (enR2 bs).1 1
def enR4 (bs : List UInt8) : Rd × Nat := rNum (enR3 bs).1 8
def enR5 (bs : List UInt8) : Rd × List UInt8 := rText (enR4 bs).1 64
def enE (bs : List UInt8) : EnV := ⟨(enR1 bs).2, (enR2 bs).2, (enR3 bs).2, (enR4 bs).2, (opRead (enR5 bs).2).1⟩
/-- What is read of bytes, and the error's number. -/
noncomputable def enRead (bs : List UInt8) : EnV × Nat :=
  if rEnd (enR5 bs).1 ≠ 0 then (zeroE, rEnd (enR5 bs).1) else if (opRead (enR5 bs).2).2 ≠ 0 then (zeroE, (opRead (enR5 bs).2).2) else if checkE (enE bs) ≠ 0 then (zeroE, checkE (enE bs)) else (enE bs, 0)
theorem enB_length {e : EnV} (h : checkE e = 0) : (enB e).length ≤ 91 := by
  have h1 := (checkV_ok (checkE_o h)).2.2.2.2
  have h2 := textB_length (mkS (writeB e.o (zOf e.o)))
  rw [mkS_size] at h2
  unfold enB
  simp only [List.length_append, leB_length]
  omega
theorem enRead_write {e : EnV} (hw : e.wf) (h : checkE e = 0) : enRead (enB e) = (e, 0) := by
  have hl := (checkV_ok (checkE_o h)).2.2.2.2
  have e1 : enR1 (enB e) = (⟨leB 8 e.view ++ (leB 1 e.cl ++ (leB 8 e.num ++ textB (mkS (writeB e.o (zOf e.o))))), 0⟩, e.op) := by
    unfold enR1 enB; rw [rNum_app, Nat.mod_eq_of_lt hw.op]
  have e2 : enR2 (enB e) = (⟨leB 1 e.cl ++ (leB 8 e.num ++ textB (mkS (writeB e.o (zOf e.o)))), 0⟩, e.view) := by
    unfold enR2; rw [e1, rNum_app, Nat.mod_eq_of_lt hw.view]
  have e3 : enR3 (enB e) = (⟨leB 8 e.num ++ textB (mkS (writeB e.o (zOf e.o))), 0⟩, e.cl) := by
    unfold enR3; rw [e2, rNum_app, Nat.mod_eq_of_lt hw.cl]
  have e4 : enR4 (enB e) = (⟨textB (mkS (writeB e.o (zOf e.o))), 0⟩, e.num) := by
    unfold enR4; rw [e3, rNum_app, Nat.mod_eq_of_lt hw.num]
  have e5 : enR5 (enB e) = (⟨[], 0⟩, writeB e.o (zOf e.o)) := by
    unfold enR5; rw [e4]
    have := rText_app (mkS (writeB e.o (zOf e.o))) [] 64 (by rw [mkS_size]; omega) (by rw [mkS_size]; omega)
    rw [List.append_nil] at this
    rw [this, mkS_data]
  have ho := opRead_write hw.o (checkE_o h)
  have e6 : enE (enB e) = e := by unfold enE; rw [e1, e2, e3, e4, e5, ho]
  unfold enRead
  rw [e6, e5, ho, h]
  rfl
theorem rText_ok' {r : Rd} {most : Int} (h0 : (rText r most).1.e = 0) : r.e = 0 ∧ r.bs = textB (mkS (rText r most).2) ++ (rText r most).1.bs := by
  obtain ⟨x, hx⟩ : ∃ x, rText r most = x := ⟨_, rfl⟩
  rw [hx] at h0 ⊢
  obtain ⟨a, b⟩ := x
  have := rText_ok hx h0
  exact ⟨this.1, this.2.1⟩
theorem rNum_ok' {r : Rd} {n : Nat} (h0 : (rNum r n).1.e = 0) : r.e = 0 ∧ r.bs = leB n (rNum r n).2 ++ (rNum r n).1.bs ∧ (rNum r n).2 < 256 ^ n := by
  obtain ⟨x, hx⟩ : ∃ x, rNum r n = x := ⟨_, rfl⟩
  rw [hx] at h0 ⊢
  obtain ⟨a, b⟩ := x
  exact rNum_ok hx h0
theorem enR5_ok {bs : List UInt8} (h0 : (enR5 bs).1.e = 0) : (enR4 bs).1.e = 0 ∧ (enR4 bs).1.bs = textB (mkS (enR5 bs).2) ++ (enR5 bs).1.bs := by
  unfold enR5 at *; exact rText_ok' h0
theorem enR4_ok {bs : List UInt8} (h0 : (enR4 bs).1.e = 0) : (enR3 bs).1.e = 0 ∧ (enR3 bs).1.bs = leB 8 (enR4 bs).2 ++ (enR4 bs).1.bs ∧ (enR4 bs).2 < 256 ^ 8 := by
  unfold enR4 at *; exact rNum_ok' h0
theorem enR3_ok {bs : List UInt8} (h0 : (enR3 bs).1.e = 0) : (enR2 bs).1.e = 0 ∧ (enR2 bs).1.bs = leB 1 (enR3 bs).2 ++ (enR3 bs).1.bs ∧ (enR3 bs).2 < 256 ^ 1 := by
  unfold enR3 at *; exact rNum_ok' h0
theorem enR2_ok {bs : List UInt8} (h0 : (enR2 bs).1.e = 0) : (enR1 bs).1.e = 0 ∧ (enR1 bs).1.bs = leB 8 (enR2 bs).2 ++ (enR2 bs).1.bs ∧ (enR2 bs).2 < 256 ^ 8 := by
  unfold enR2 at *; exact rNum_ok' h0
theorem enR1_ok {bs : List UInt8} (h0 : (enR1 bs).1.e = 0) : bs = leB 8 (enR1 bs).2 ++ (enR1 bs).1.bs ∧ (enR1 bs).2 < 256 ^ 8 := by
  unfold enR1 at *; exact (rNum_ok' h0).2
theorem enRead_ok {bs : List UInt8} {e : EnV} (h : enRead bs = (e, 0)) : e.wf ∧ checkE e = 0 ∧ enB e = bs := by
  unfold enRead at h
  split at h
  · rename_i h1; simp only [Prod.mk.injEq] at h; exact absurd h.2 h1
  · rename_i h1
    split at h
    · rename_i h2; simp only [Prod.mk.injEq] at h; exact absurd h.2 h2
    · rename_i h2
      split at h
      · rename_i h3; simp only [Prod.mk.injEq] at h; exact absurd h.2 h3
      · rename_i h3
        simp only [Prod.mk.injEq, and_true] at h
        simp only [ne_eq, Decidable.not_not] at h1 h2 h3
        subst h
        obtain ⟨z1, z2⟩ := rEnd_zero h1
        obtain ⟨a1, a2⟩ := enR5_ok z1
        obtain ⟨b1, b2, b3⟩ := enR4_ok a1
        obtain ⟨c1, c2, c3⟩ := enR3_ok b1
        obtain ⟨d1, d2, d3⟩ := enR2_ok c1
        obtain ⟨f2, f3⟩ := enR1_ok d1
        have ho : (opRead (enR5 bs).2).1.wf ∧ checkV (opRead (enR5 bs).2).1 = 0 ∧ writeB (opRead (enR5 bs).2).1 (zOf (opRead (enR5 bs).2).1) = (enR5 bs).2 := by
          obtain ⟨x, hx⟩ : ∃ x, opRead (enR5 bs).2 = x := ⟨_, rfl⟩
          rw [hx] at h2 ⊢
          obtain ⟨o, f⟩ := x
          simp only [] at h2
          subst h2
          have := opRead_ok hx
          exact ⟨this.1, this.2.1, this.2.2.1⟩
        have g8 : (256 : Nat) ^ 8 = 18446744073709551616 := by decide
        have g1 : (256 : Nat) ^ 1 = 256 := by decide
        rw [g8] at f3 d3 b3
        rw [g1] at c3
        have he : (enE bs).o = (opRead (enR5 bs).2).1 := by simp only [enE]
        refine ⟨⟨f3, d3, c3, b3, by rw [he]; exact ho.1⟩, h3, ?_⟩
        unfold enB
        rw [he, ho.2.2]
        show leB 8 (enR1 bs).2 ++ (leB 8 (enR2 bs).2 ++ (leB 1 (enR3 bs).2 ++ (leB 8 (enR4 bs).2 ++ textB (mkS (enR5 bs).2)))) = bs
        rw [z2, List.append_nil] at a2
        rw [← a2, ← b2, ← c2, ← d2]
        exact f2.symm
end Go.Proofs.YtdngcheimohamaaDoor
/- entry.Bytes. -/
namespace Go.Proofs.YtdngcheimohamaaDoor
open Go.RowKit
theorem WrAt.madeE {w : World} {n0 : Nat} (h : w.heap.size = n0) : WrAt (w.alloc (.cells #[.slice none 0 0] 80)) (upB n0) n0 [] := by
  subst h; exact WrAt.new w
theorem WrAt.upnE {w w' : World} {n0 : Nat} {p : Nat} {bs : List UInt8} (h : WrAt w' (andNew (upB n0) w) p bs) (hs : n0 ≤ w.heap.size) : WrAt w' (upB n0) p bs :=
  h.mono fun k _ hk => hk.elim id fun q => Nat.le_trans hs q
/-- What is written behind so many operations. -/
def EnWC (n0 : Nat) (p1 p2 p3 p4 p5 : List UInt8) : Nat → World → Prop
  | 0, W => W.heap.size = n0
  | 1, W => WrAt W (upB n0) n0 []
  | 2, W => WrAt W (upB n0) n0 p1
  | 3, W => WrAt W (upB n0) n0 p2
  | 4, W => WrAt W (upB n0) n0 p3
  | 5, W => WrAt W (upB n0) n0 p4
  | _, W => WrAt W (upB n0) n0 p5
set_option maxRecDepth 100000 in
set_option maxHeartbeats 1600000 in
theorem enBytesNo_calls (w : World) (e : EnV) (ht : SignsAt w) (hw : e.wf) (ha : e.o.a.size ≤ 1000000000000) (hb : e.o.b.size ≤ 1000000000000) (h : checkE e ≠ 0) :
    Calls Tryd.prog 17 #[e.v] w (fun ed w' => ed = .returned (.tuple #[.slice none 0 0, .int .i64 (checkE e : Nat)]) ∧ Fr noB w w') := by
  have f0 : Fr noB w (w.alloc (.cells e.C.toArray 49)) := (Fr.refl noB w).alloc _
  have hb0 : BlkAt (w.alloc (.cells e.C.toArray 49)) w.heap.size 49 e.C.toArray := BlkAt.new _ _ _
  have hck := checkEn_calls (w.alloc (.cells e.C.toArray 49)) e (ht.fr0 f0) hw ha hb
  have t1 : ((checkE e : Int) != 0) = true := by rw [bne_iff_ne]; omega
  generalize checkE e = cv at *
  obtain ⟨op, view, cl, num, ⟨k, oa, ob, on, or⟩⟩ := e
  unfold EnV.C at f0 hb0 hck
  unfold EnV.v at *
  simp only [] at *
  go_enter Tryd.func17, Tryd.ntmps17
  go_upto_region 1 with fail
  generalize (w.alloc (.cells #[.int .u64 op, .int .u64 view, .int .u8 cl, .int .u64 num, .int .u8 k, .string oa, .string ob, .int .u8 on, .int .u8 or] 49)) = wa at *
  obtain ⟨x0, x1, x2, x3, x4, x5, x6, x7, x8, xf⟩ := BlkAt.c9 hb0
  go_wp2_with fail
  refine hck.mono ?_
  rintro ed w1 ⟨rfl, f1⟩
  clear hck x0 x1 x2 x3 x4 x5 x6 x7 x8 xf hb0 h
  go_wp2_with fail
  go_ret2
  exact ⟨rfl, f0.then' f1⟩
set_option maxRecDepth 100000 in
set_option maxHeartbeats 3200000 in
theorem enBytesOk_calls (w : World) (e : EnV) (ht : SignsAt w) (hw : e.wf) (h : checkE e = 0) :
    Calls Tryd.prog 17 #[e.v] w (BytesEPost w (enB e)) := by
  have hsz := checkE_size h
  have f0 : Fr noB w (w.alloc (.cells e.C.toArray 49)) := (Fr.refl noB w).alloc _
  have hb0 : BlkAt (w.alloc (.cells e.C.toArray 49)) w.heap.size 49 e.C.toArray := BlkAt.new _ _ _
  have hck := checkEn_calls (w.alloc (.cells e.C.toArray 49)) e (ht.fr0 f0) hw (by omega) (by omega)
  have hob := fun W (f : Fr noB w W) => bytesOk_calls W e.o (ht.fr0 f) hw.o (checkE_o h)
  have hwl := (checkV_ok (checkE_o h)).2.2.2.2
  have HE : Hid (enB e = leB 8 e.op ++ (leB 8 e.view ++ (leB 1 e.cl ++ (leB 8 e.num ++ textB (mkS (writeB e.o (zOf e.o))))))) := rfl
  rw [h] at hck
  have hcl := hw.cl
  generalize writeB e.o (zOf e.o) = wb at *
  generalize enB e = eb at *
  obtain ⟨m, hm⟩ : ∃ m, wb.length = m := ⟨_, rfl⟩
  unfold BytesEPost at hob
  rw [hm] at hob hwl
  have HM := hid hm
  obtain ⟨op, view, cl, num, ⟨k, oa, ob, on, or⟩⟩ := e
  unfold EnV.C at f0 hb0 hck
  unfold EnV.v OpV.v at *
  simp only [] at *
  have HCL := hid hcl
  clear h hsz hm hcl
  obtain ⟨p1, hp1⟩ : ∃ p, leB 8 op = p := ⟨_, rfl⟩
  obtain ⟨p2, hp2⟩ : ∃ p, p1 ++ leB 8 view = p := ⟨_, rfl⟩
  obtain ⟨p3, hp3⟩ : ∃ p, p2 ++ leB 1 cl = p := ⟨_, rfl⟩
  obtain ⟨p4, hp4⟩ : ∃ p, p3 ++ leB 8 num = p := ⟨_, rfl⟩
  obtain ⟨p5, hp5⟩ : ∃ p, p4 ++ textB (mkS wb) = p := ⟨_, rfl⟩
  have HL : Hid (p1.length = 8 ∧ p2.length = 16 ∧ p3.length = 17 ∧ p4.length = 25 ∧ p5.length ≤ 1000) := by
    have hlt := textB_length (mkS wb)
    rw [mkS_size, HM.out] at hlt
    unfold Hid
    rw [← hp5, ← hp4, ← hp3, ← hp2, ← hp1]
    simp only [List.length_append, leB_length]
    refine ⟨trivial, trivial, trivial, trivial, ?_⟩
    omega
  have HB : Hid (eb = p5) := by
    unfold Hid; rw [HE.out, ← hp5, ← hp4, ← hp3, ← hp2, ← hp1]; simp only [List.append_assoc]
  have HP1 := hid hp1
  have HP2 := hid hp2
  have HP3 := hid hp3
  have HP4 := hid hp4
  have HP5 := hid hp5
  clear hp1 hp2 hp3 hp4 hp5 HE
  go_enter Tryd.func17, Tryd.ntmps17
  go_upto_region 1 with fail
  generalize (w.alloc (.cells #[.int .u64 op, .int .u64 view, .int .u8 cl, .int .u64 num, .int .u8 k, .string oa, .string ob, .int .u8 on, .int .u8 or] 49)) = wa at *
  obtain ⟨x0, x1, x2, x3, x4, x5, x6, x7, x8, xf⟩ := BlkAt.c9 hb0
  go_wp2_with fail
  refine hck.mono ?_
  rintro ed w1 ⟨rfl, f1⟩
  have F1 := f0.then' f1
  replace hb0 := hb0.fr f1 id
  clear hck x0 x1 x2 x3 x4 x5 x6 x7 x8 xf f0 f1
  obtain ⟨x0, x1, x2, x3, x4, x5, x6, x7, x8, xf⟩ := BlkAt.c9 hb0
  go_wp2_with fail
  refine (hob w1 F1).mono ?_
  rintro ed w2 ⟨A2, c2, rfl, h2, f2⟩
  have F2 := F1.then' f2
  replace hb0 := hb0.fr f2 id
  have hr2 := own_row h2
  have hA2 : ∀ ad, A2 = some ad → ad.block < w2.heap.size := fun ad e => own_lt h2 (by subst e; rfl)
  have hq := hb0.lt
  have hs2 := F2.size
  obtain ⟨n0, hn0⟩ : ∃ n0, w2.heap.size = n0 := ⟨_, rfl⟩
  rw [hn0] at hA2 hq hs2
  clear hob x0 x1 x2 x3 x4 x5 x6 x7 x8 xf F1 f2 h2
  go_wp2_with fail
  apply wp_region_calmL (R := Fr (upB n0)) (C := fun q W => Fr (upB n0) w2 W ∧ BlkAt W w.heap.size 49 #[.int .u64 op, .int .u64 view, .int .u8 cl, .int .u64 num, .int .u8 k, .string oa, .string ob, .int .u8 on, .int .u8 or] ∧ RowAt W A2 (bcells wb) ∧ EnWC n0 p1 p2 p3 p4 p5 q W) [false, true, false, false, true, false, false, true, false, false, false, true, false, false, false, true, false, false, true, false] [0, 0, 0, 0, 1, 0, 0, 2, 0, 0, 0, 3, 0, 0, 0, 4, 0, 0, 5, 6]
    [eqv _, eqv (.pointer (some ⟨n0, 0, none⟩)), eqv _, eqv _, eqv (.pointer (some ⟨n0, 0, none⟩)), eqv _, eqv _, eqv (.pointer (some ⟨n0, 0, none⟩)), eqv _, eqv _, eqv _, eqv (.pointer (some ⟨n0, 0, none⟩)), eqv _, eqv _, eqv _, eqv (.pointer (some ⟨n0, 0, none⟩)), eqv (.slice A2 m c2), eqv (.string (mkS wb)), eqv (.pointer (some ⟨n0, 0, none⟩)), eqv (.pointer (some ⟨n0, 0, none⟩))]
    (by kernel_rfl) (by kernel_rfl) (fun _ _ _ h1 h2 => h1.then' h2) ((Fr.refl _ _).drew) ⟨(Fr.refl _ _).drew, hb0, hr2, hn0⟩ (by kernel_rfl)
  · refine ⟨?_, ?_, ?_, ?_, ?_, ?_, ?_, ?_, ?_, ?_, ?_, ?_, ?_, ?_, ?_, ?_, ?_, ?_, ?_, ?_, trivial⟩
    · rw [if_neg (by decide)]; intro kq
      intro a W K hC hd hK
      refine wpOp_plain rfl rfl ?_
      go_wp2_with fail
      exact hK _ _ (Fr.refl _ _) hC rfl
    · rw [if_pos (by decide)]
      intro a W K hC hd hK
      replace hC : (fun q W => Fr (upB n0) w2 W ∧ BlkAt W w.heap.size 49 #[.int .u64 op, .int .u64 view, .int .u8 cl, .int .u64 num, .int .u8 k, .string oa, .string ob, .int .u8 on, .int .u8 or] ∧ RowAt W A2 (bcells wb) ∧ EnWC n0 p1 p2 p3 p4 p5 q W) 0 W := hC
      have d23 : _ = _ := hd 23 (by decide)
      refine wpOp_plain rfl rfl ?_
      have hwn := WrAt.new W
      have hz : W.heap.size = n0 := hC.2.2.2
      go_wp2_with fail
      have fs : Fr (upB n0) W (W.alloc (.cells #[.slice none 0 0] 80)) := (Fr.refl _ W).alloc _
      exact hK _ _ fs ⟨hC.1.then' fs, hC.2.1.al _, hC.2.2.1.fr0 ((Fr.refl noB W).alloc _), WrAt.madeE hz⟩ rfl
    · rw [if_neg (by decide)]; intro kq
      intro a W K hC hd hK
      have d1 : a.tmps[1]?.getD undef = .pointer (some ⟨w.heap.size, 0, none⟩) := hd 1 (by decide)
      refine wpOp_plain rfl rfl ?_
      obtain ⟨x0, x1, x2, x3, x4, x5, x6, x7, x8, xf⟩ := BlkAt.c9 hC.2.1
      go_wp2_with fail
      exact hK _ _ (Fr.refl _ _) hC rfl
    · rw [if_neg (by decide)]; intro kq
      intro a W K hC hd hK
      have d25 : _ = _ := hd 25 (by decide)
      refine wpOp_plain rfl rfl ?_
      obtain ⟨x0, x1, x2, x3, x4, x5, x6, x7, x8, xf⟩ := BlkAt.c9 hC.2.1
      go_wp2_with fail
      exact hK _ _ (Fr.refl _ _) hC rfl
    · rw [if_pos (by decide)]
      intro a W K hC hd hK
      replace hC : (fun q W => Fr (upB n0) w2 W ∧ BlkAt W w.heap.size 49 #[.int .u64 op, .int .u64 view, .int .u8 cl, .int .u64 num, .int .u8 k, .string oa, .string ob, .int .u8 on, .int .u8 or] ∧ RowAt W A2 (bcells wb) ∧ EnWC n0 p1 p2 p3 p4 p5 q W) 1 W := hC
      have d24 : a.tmps[24]?.getD undef = .pointer (some ⟨n0, 0, none⟩) := hd 24 (by decide)
      have d26 : _ = _ := hd 26 (by decide)
      refine wpOp_plain rfl rfl ?_
      obtain ⟨x0, x1, x2, x3, x4, x5, x6, x7, x8, xf⟩ := BlkAt.c9 hC.2.1
      go_wp2_with fail
      refine (eight_calls W (upB n0) n0 [] op hC.2.2.2 (by simp)).mono ?_
      rintro e9 w9 ⟨rfl, h9, f9⟩
      rw [List.nil_append, HP1.out] at h9
      exact hK _ _ f9 ⟨hC.1.then' f9, hC.2.1.fr f9 (fun h => by unfold upB at h; omega), hC.2.2.1.fr f9 (fun a ea hb _ hu => by have := hA2 a ea; unfold upB at hu; omega), h9.upnE (by have := hC.1.size; omega)⟩ rfl
    · rw [if_neg (by decide)]; intro kq
      intro a W K hC hd hK
      have d1 : a.tmps[1]?.getD undef = .pointer (some ⟨w.heap.size, 0, none⟩) := hd 1 (by decide)
      refine wpOp_plain rfl rfl ?_
      obtain ⟨x0, x1, x2, x3, x4, x5, x6, x7, x8, xf⟩ := BlkAt.c9 hC.2.1
      go_wp2_with fail
      exact hK _ _ (Fr.refl _ _) hC rfl
    · rw [if_neg (by decide)]; intro kq
      intro a W K hC hd hK
      have d28 : _ = _ := hd 28 (by decide)
      refine wpOp_plain rfl rfl ?_
      obtain ⟨x0, x1, x2, x3, x4, x5, x6, x7, x8, xf⟩ := BlkAt.c9 hC.2.1
      go_wp2_with fail
      exact hK _ _ (Fr.refl _ _) hC rfl
    · rw [if_pos (by decide)]
      intro a W K hC hd hK
      replace hC : (fun q W => Fr (upB n0) w2 W ∧ BlkAt W w.heap.size 49 #[.int .u64 op, .int .u64 view, .int .u8 cl, .int .u64 num, .int .u8 k, .string oa, .string ob, .int .u8 on, .int .u8 or] ∧ RowAt W A2 (bcells wb) ∧ EnWC n0 p1 p2 p3 p4 p5 q W) 2 W := hC
      have d27 : a.tmps[27]?.getD undef = .pointer (some ⟨n0, 0, none⟩) := hd 27 (by decide)
      have d29 : _ = _ := hd 29 (by decide)
      refine wpOp_plain rfl rfl ?_
      obtain ⟨x0, x1, x2, x3, x4, x5, x6, x7, x8, xf⟩ := BlkAt.c9 hC.2.1
      go_wp2_with fail
      refine (eight_calls W (upB n0) n0 p1 view hC.2.2.2 (by have := HL.out; omega)).mono ?_
      rintro e9 w9 ⟨rfl, h9, f9⟩
      rw [HP2.out] at h9
      exact hK _ _ f9 ⟨hC.1.then' f9, hC.2.1.fr f9 (fun h => by unfold upB at h; omega), hC.2.2.1.fr f9 (fun a ea hb _ hu => by have := hA2 a ea; unfold upB at hu; omega), h9.upnE (by have := hC.1.size; omega)⟩ rfl
    · rw [if_neg (by decide)]; intro kq
      intro a W K hC hd hK
      have d1 : a.tmps[1]?.getD undef = .pointer (some ⟨w.heap.size, 0, none⟩) := hd 1 (by decide)
      refine wpOp_plain rfl rfl ?_
      obtain ⟨x0, x1, x2, x3, x4, x5, x6, x7, x8, xf⟩ := BlkAt.c9 hC.2.1
      go_wp2_with fail
      exact hK _ _ (Fr.refl _ _) hC rfl
    · rw [if_neg (by decide)]; intro kq
      intro a W K hC hd hK
      have d31 : _ = _ := hd 31 (by decide)
      refine wpOp_plain rfl rfl ?_
      obtain ⟨x0, x1, x2, x3, x4, x5, x6, x7, x8, xf⟩ := BlkAt.c9 hC.2.1
      go_wp2_with fail
      exact hK _ _ (Fr.refl _ _) hC rfl
    · rw [if_neg (by decide)]; intro kq
      intro a W K hC hd hK
      have d32 : _ = _ := hd 32 (by decide)
      refine wpOp_plain rfl rfl ?_
      obtain ⟨x0, x1, x2, x3, x4, x5, x6, x7, x8, xf⟩ := BlkAt.c9 hC.2.1
      go_wp2_with fail
      exact hK _ _ (Fr.refl _ _) hC rfl
    · rw [if_pos (by decide)]
      intro a W K hC hd hK
      replace hC : (fun q W => Fr (upB n0) w2 W ∧ BlkAt W w.heap.size 49 #[.int .u64 op, .int .u64 view, .int .u8 cl, .int .u64 num, .int .u8 k, .string oa, .string ob, .int .u8 on, .int .u8 or] ∧ RowAt W A2 (bcells wb) ∧ EnWC n0 p1 p2 p3 p4 p5 q W) 3 W := hC
      have d30 : a.tmps[30]?.getD undef = .pointer (some ⟨n0, 0, none⟩) := hd 30 (by decide)
      have d33 : _ = _ := hd 33 (by decide)
      refine wpOp_plain rfl rfl ?_
      obtain ⟨x0, x1, x2, x3, x4, x5, x6, x7, x8, xf⟩ := BlkAt.c9 hC.2.1
      go_wp2_with fail
      refine (byte_calls W (upB n0) n0 p2 cl hC.2.2.2 HCL.out (by have := HL.out; omega)).mono ?_
      rintro e9 w9 ⟨rfl, h9, f9⟩
      rw [HP3.out] at h9
      exact hK _ _ f9 ⟨hC.1.then' f9, hC.2.1.fr f9 (fun h => by unfold upB at h; omega), hC.2.2.1.fr f9 (fun a ea hb _ hu => by have := hA2 a ea; unfold upB at hu; omega), h9.upnE (by have := hC.1.size; omega)⟩ rfl
    · rw [if_neg (by decide)]; intro kq
      intro a W K hC hd hK
      have d1 : a.tmps[1]?.getD undef = .pointer (some ⟨w.heap.size, 0, none⟩) := hd 1 (by decide)
      refine wpOp_plain rfl rfl ?_
      obtain ⟨x0, x1, x2, x3, x4, x5, x6, x7, x8, xf⟩ := BlkAt.c9 hC.2.1
      go_wp2_with fail
      exact hK _ _ (Fr.refl _ _) hC rfl
    · rw [if_neg (by decide)]; intro kq
      intro a W K hC hd hK
      have d35 : _ = _ := hd 35 (by decide)
      refine wpOp_plain rfl rfl ?_
      obtain ⟨x0, x1, x2, x3, x4, x5, x6, x7, x8, xf⟩ := BlkAt.c9 hC.2.1
      go_wp2_with fail
      exact hK _ _ (Fr.refl _ _) hC rfl
    · rw [if_neg (by decide)]; intro kq
      intro a W K hC hd hK
      have d36 : _ = _ := hd 36 (by decide)
      refine wpOp_plain rfl rfl ?_
      obtain ⟨x0, x1, x2, x3, x4, x5, x6, x7, x8, xf⟩ := BlkAt.c9 hC.2.1
      go_wp2_with fail
      exact hK _ _ (Fr.refl _ _) hC rfl
    · rw [if_pos (by decide)]
      intro a W K hC hd hK
      replace hC : (fun q W => Fr (upB n0) w2 W ∧ BlkAt W w.heap.size 49 #[.int .u64 op, .int .u64 view, .int .u8 cl, .int .u64 num, .int .u8 k, .string oa, .string ob, .int .u8 on, .int .u8 or] ∧ RowAt W A2 (bcells wb) ∧ EnWC n0 p1 p2 p3 p4 p5 q W) 4 W := hC
      have d34 : a.tmps[34]?.getD undef = .pointer (some ⟨n0, 0, none⟩) := hd 34 (by decide)
      have d37 : _ = _ := hd 37 (by decide)
      refine wpOp_plain rfl rfl ?_
      obtain ⟨x0, x1, x2, x3, x4, x5, x6, x7, x8, xf⟩ := BlkAt.c9 hC.2.1
      go_wp2_with fail
      refine (eight_calls W (upB n0) n0 p3 num hC.2.2.2 (by have := HL.out; omega)).mono ?_
      rintro e9 w9 ⟨rfl, h9, f9⟩
      rw [HP4.out] at h9
      exact hK _ _ f9 ⟨hC.1.then' f9, hC.2.1.fr f9 (fun h => by unfold upB at h; omega), hC.2.2.1.fr f9 (fun a ea hb _ hu => by have := hA2 a ea; unfold upB at hu; omega), h9.upnE (by have := hC.1.size; omega)⟩ rfl
    · rw [if_neg (by decide)]; intro kq
      exact calm_mv 5 rfl rfl (Or.inl rfl) (Fr.refl _) (by decide) fun v w hd => hd
    · rw [if_neg (by decide)]; intro kq
      intro a W K hC hd hK
      have d39 : a.tmps[39]?.getD undef = .slice A2 m c2 := hd 39 (by decide)
      refine wpOp_plain rfl rfl ?_
      have hst := Tryd.toStr hC.2.2.1 HM.out c2
      go_wp2_with fail
      exact hK _ _ (Fr.refl _ _) hC rfl
    · rw [if_pos (by decide)]
      intro a W K hC hd hK
      replace hC : (fun q W => Fr (upB n0) w2 W ∧ BlkAt W w.heap.size 49 #[.int .u64 op, .int .u64 view, .int .u8 cl, .int .u64 num, .int .u8 k, .string oa, .string ob, .int .u8 on, .int .u8 or] ∧ RowAt W A2 (bcells wb) ∧ EnWC n0 p1 p2 p3 p4 p5 q W) 5 W := hC
      have d38 : a.tmps[38]?.getD undef = .pointer (some ⟨n0, 0, none⟩) := hd 38 (by decide)
      have d40 : a.tmps[40]?.getD undef = .string (mkS wb) := hd 40 (by decide)
      refine wpOp_plain rfl rfl ?_
      obtain ⟨x0, x1, x2, x3, x4, x5, x6, x7, x8, xf⟩ := BlkAt.c9 hC.2.1
      go_wp2_with fail
      refine (text_calls W (upB n0) n0 p4 (mkS wb) hC.2.2.2 (by rw [mkS_size, HM.out]; unfold maxLen; omega) (by rw [mkS_size, HM.out]; have := HL.out; omega)).mono ?_
      rintro e9 w9 ⟨rfl, h9, f9⟩
      rw [HP5.out] at h9
      exact hK _ _ f9 ⟨hC.1.then' f9, hC.2.1.fr f9 (fun h => by unfold upB at h; omega), hC.2.2.1.fr f9 (fun a ea hb _ hu => by have := hA2 a ea; unfold upB at hu; omega), h9.upnE (by have := hC.1.size; omega)⟩ rfl
    · rw [if_neg (by decide)]; intro kq
      exact calm_mv 41 rfl rfl (Or.inr rfl) (Fr.refl _) (by decide) fun v w hd => hd
  · intro vs w8 fw8 cw8 hV
    have v23 : vs 0 = _ := hV 0 _ _ rfl rfl (by decide)
    have v24 : vs 1 = .pointer (some ⟨n0, 0, none⟩) := hV 1 _ _ rfl rfl (by decide)
    have v25 : vs 2 = _ := hV 2 _ _ rfl rfl (by decide)
    have v26 : vs 3 = _ := hV 3 _ _ rfl rfl (by decide)
    have v27 : vs 4 = .pointer (some ⟨n0, 0, none⟩) := hV 4 _ _ rfl rfl (by decide)
    have v28 : vs 5 = _ := hV 5 _ _ rfl rfl (by decide)
    have v29 : vs 6 = _ := hV 6 _ _ rfl rfl (by decide)
    have v30 : vs 7 = .pointer (some ⟨n0, 0, none⟩) := hV 7 _ _ rfl rfl (by decide)
    have v31 : vs 8 = _ := hV 8 _ _ rfl rfl (by decide)
    have v32 : vs 9 = _ := hV 9 _ _ rfl rfl (by decide)
    have v33 : vs 10 = _ := hV 10 _ _ rfl rfl (by decide)
    have v34 : vs 11 = .pointer (some ⟨n0, 0, none⟩) := hV 11 _ _ rfl rfl (by decide)
    have v35 : vs 12 = _ := hV 12 _ _ rfl rfl (by decide)
    have v36 : vs 13 = _ := hV 13 _ _ rfl rfl (by decide)
    have v37 : vs 14 = _ := hV 14 _ _ rfl rfl (by decide)
    have v38 : vs 15 = .pointer (some ⟨n0, 0, none⟩) := hV 15 _ _ rfl rfl (by decide)
    have v39 : vs 16 = .slice A2 m c2 := hV 16 _ _ rfl rfl (by decide)
    have v40 : vs 17 = .string (mkS wb) := hV 17 _ _ rfl rfl (by decide)
    have v41 : vs 18 = .pointer (some ⟨n0, 0, none⟩) := hV 18 _ _ rfl rfl (by decide)
    have v7 : vs 19 = .pointer (some ⟨n0, 0, none⟩) := hV 19 _ _ rfl rfl (by decide)
    clear hV
    simp only [putL, Act.put, Nat.reduceAdd, List.setIfInBounds_toArray, List.set_cons_zero, List.set_cons_succ, v23, v24, v25, v26, v27, v28, v29, v30, v31, v32, v33, v34, v35, v36, v37, v38, v39, v40, v41, v7]
    have hw8 : WrAt w8 (upB n0) n0 p5 := cw8.2.2.2
    have F8 : Fr noB w w8 := F2.trans fw8 (fun i hi h => by unfold upB at h; omega)
    clear cw8 fw8
    go_wp2_with fail
    refine (bytes_calls w8 _ _ p5 hw8 (by have := HL.out; omega)).mono ?_
    rintro ed w9 ⟨A9, c9, rfl, h9, f9⟩
    have F9 := F8.then' f9
    have h9' := own_mono h9 (b' := w.heap.size) (fun g hg => Nat.le_trans F8.size (h9.lt g hg).1)
    clear h9 f9 hw8
    go_wp2_with fail
    go_ret2
    rw [HB.out]
    exact ⟨A9, c9, rfl, h9', F9⟩
end Go.Proofs.YtdngcheimohamaaDoor
/- entry.Read. -/
namespace Go.Proofs.YtdngcheimohamaaDoor
open Go.RowKit
def EnEPost (w : World) (q : EnV × Nat) (e : Ending) (w' : World) : Prop := e = .returned (.tuple #[q.1.v, .int .i64 (q.2 : Nat)]) ∧ Fr noB w w'
theorem fr_set9 (w : World) (b : Nat) (u0 u1 u2 u3 u4 u5 u6 u7 u8 : Value) : Fr (eqB b) w (((((((((w.setCell ⟨b, 0, none⟩ u0).setCell ⟨b, 1, none⟩ u1).setCell ⟨b, 2, none⟩ u2).setCell ⟨b, 3, none⟩ u3).setCell ⟨b, 4, none⟩ u4).setCell ⟨b, 5, none⟩ u5).setCell ⟨b, 6, none⟩ u6).setCell ⟨b, 7, none⟩ u7).setCell ⟨b, 8, none⟩ u8) :=
  (fr_set5 w b u0 u1 u2 u3 u4).then' (((((fr_set1 _ b 5 u5).then' (fr_set1 _ b 6 u6)).then' (fr_set1 _ b 7 u7)).then' (fr_set1 _ b 8 u8)))
theorem entry_wf4 {k1 k2 k3 k4 : Nat} {o : OpV} (h1 : k1 < 256 ^ 8) (h2 : k2 < 256 ^ 8) (h3 : k3 < 256 ^ 1) (h4 : k4 < 256 ^ 8) (ho : o.wf) : (⟨k1, k2, k3, k4, o⟩ : EnV).wf := by
  have g8 : (256 : Nat) ^ 8 = 18446744073709551616 := by decide
  have g1 : (256 : Nat) ^ 1 = 256 := by decide
  rw [g8] at h1 h2 h4
  rw [g1] at h3
  exact ⟨h1, h2, h3, h4, ho⟩
theorem pair_ex {α β : Type} (x : α × β) : ∃ a b, x = (a, b) := ⟨x.1, x.2, rfl⟩
theorem rNum_lt' {r r1 : Rd} {n k : Nat} (h : rNum r n = (r1, k)) : k < 256 ^ n := by have := rNum_lt r n; rw [h] at this; exact this
set_option maxRecDepth 100000 in
set_option maxHeartbeats 3200000 in
theorem enRead_calls (w : World) (A : Option Addr) (n c : Nat) (bs : List UInt8) (ht : SignsAt w) (hx : RowAt w A (bcells bs)) (hn : bs.length = n) (hB : A = none → n = 0 ∧ c = 0) (hl : n ≤ 1000000000000) :
    Calls Tryd.prog 21 #[.slice A n c] w (EnEPost w (enRead bs)) := by
  have hb0 : BlkAt (w.alloc (.cells #[.int .u64 0, .int .u64 0, .int .u8 0, .int .u64 0, .int .u8 0, .string ⟨#[]⟩, .string ⟨#[]⟩, .int .u8 0, .int .u8 0] 49)) w.heap.size 49 #[.int .u64 0, .int .u64 0, .int .u8 0, .int .u64 0, .int .u8 0, .string ⟨#[]⟩, .string ⟨#[]⟩, .int .u8 0, .int .u8 0] := BlkAt.new _ _ _
  have f0 : Fr noB w (w.alloc (.cells #[.int .u64 0, .int .u64 0, .int .u8 0, .int .u64 0, .int .u8 0, .string ⟨#[]⟩, .string ⟨#[]⟩, .int .u8 0, .int .u8 0] 49)) := (Fr.refl noB w).alloc _
  have hz0 := al_size w (.cells #[.int .u64 0, .int .u64 0, .int .u8 0, .int .u64 0, .int .u8 0, .string ⟨#[]⟩, .string ⟨#[]⟩, .int .u8 0, .int .u8 0] 49)
  have hoc := of_calls (w.alloc (.cells #[.int .u64 0, .int .u64 0, .int .u8 0, .int .u64 0, .int .u8 0, .string ⟨#[]⟩, .string ⟨#[]⟩, .int .u8 0, .int .u8 0] 49)) A n c bs (hx.fr0 f0) hn hB hl
  obtain ⟨r1, k1, q1⟩ := pair_ex (enR1 bs)
  obtain ⟨r2, k2, q2⟩ := pair_ex (enR2 bs)
  obtain ⟨r3, k3, q3⟩ := pair_ex (enR3 bs)
  obtain ⟨r4, k4, q4⟩ := pair_ex (enR4 bs)
  obtain ⟨r5, t5, q5⟩ := pair_ex (enR5 bs)
  have e1 : rNum ⟨bs, 0⟩ 8 = (r1, k1) := q1
  have e2 : rNum r1 8 = (r2, k2) := by rw [← q2]; unfold enR2; rw [q1]
  have e3 : rNum r2 1 = (r3, k3) := by rw [← q3]; unfold enR3; rw [q2]
  have e4 : rNum r3 8 = (r4, k4) := by rw [← q4]; unfold enR4; rw [q3]
  have e5 : rText r4 64 = (r5, t5) := by rw [← q5]; unfold enR5; rw [q4]
  have HR : Hid (enRead bs = if rEnd r5 ≠ 0 then (zeroE, rEnd r5) else if (opRead t5).2 ≠ 0 then (zeroE, (opRead t5).2) else if checkE ⟨k1, k2, k3, k4, (opRead t5).1⟩ ≠ 0 then (zeroE, checkE ⟨k1, k2, k3, k4, (opRead t5).1⟩) else (⟨k1, k2, k3, k4, (opRead t5).1⟩, 0)) := by
    unfold Hid enRead enE; rw [q1, q2, q3, q4, q5]
  have HWF := fun (o : OpV) (ho : o.wf) => entry_wf4 (rNum_lt' e1) (rNum_lt' e2) (rNum_lt' e3) (rNum_lt' e4) ho
  have c1 := fun W S p h => eightRd_calls W S p ⟨bs, 0⟩ h
  have c2 := fun W S p h => eightRd_calls W S p r1 h
  have c3 := fun W S p h => byteRd_calls W S p r2 h
  have c4 := fun W S p h => eightRd_calls W S p r3 h
  have c5 := fun W S p h => textRd_calls W S p r4 64 h (by decide) (by decide)
  rw [e1] at c1
  rw [e2] at c2
  rw [e3] at c3
  rw [e4] at c4
  rw [e5] at c5
  simp only [] at c1 c2 c3 c4 c5
  clear q1 q2 q3 q4 q5 e1 e2 e3 e4 e5
  have hop := fun W A n c ht hx hn hB => opRead_calls W A n c t5 ht hx hn hB
  have hok := fun o h => opRead_ok (bs := t5) (o := o) h
  generalize opRead t5 = x at *
  obtain ⟨o, oe⟩ := x
  have HRES : Hid (Tryd.f21.results = #[.cell 2 49, .tmp 3]) := by unfold Hid; kernel_rfl
  simp only [] at hop HR
  clear hn hx
  go_enter Tryd.func21, Tryd.ntmps21
  go_wp2_with fail
  refine hoc.mono ?_
  rintro ed w1 ⟨p, rfl, hp1, hp2, h1, f1⟩
  have hi1 := h1.inn
  obtain ⟨S, hS, HSd⟩ : ∃ S : Nat → Prop, RdAt w1 S p ⟨bs, 0⟩ ∧ ∀ k, S k → w.heap.size < k ∧ k < w1.heap.size := ⟨_, hi1, fun k hk => by have := hk.1; unfold upB at this; omega⟩
  have F1 := f0.then' f1
  have hb1 := hb0.fr f1 id
  clear h1 hi1 f1 f0 hb0 hoc hp1 hp2 hz0 hB
  go_wp2_with fail
  refine (c1 w1 S p hS).mono ?_
  rintro ed w2 ⟨rfl, h2, f2⟩
  go_wp2_with fail
  refine (c2 w2 S p h2).mono ?_
  rintro ed w3 ⟨rfl, h3, f3⟩
  go_wp2_with fail
  refine (c3 w3 S p h3).mono ?_
  rintro ed w4 ⟨rfl, h4, f4⟩
  go_wp2_with fail
  refine (c4 w4 S p h4).mono ?_
  rintro ed w5 ⟨rfl, h5, f5⟩
  have f5 := f2.then' (f3.then' (f4.then' f5))
  have F5 : Fr noB w w5 := F1.trans f5 (fun i hi h => by have := HSd _ h; omega)
  have hb5 := hb1.fr f5 (fun h => by have := HSd _ h; omega)
  have hs5 := f5.size
  obtain ⟨po, hpo⟩ : ∃ x, w5.heap.size = x := ⟨_, rfl⟩
  have hpS : ¬ S po := fun h => by have := HSd _ h; omega
  clear c1 c2 c3 c4 hS h2 h3 h4 f2 f3 f4 f5 hb1 F1
  go_upto_region 3 with fail
  have f6 := (Fr.refl noB w5).alloc (.cells #[.int .u64 k1, .int .u64 k2, .int .u8 k3, .int .u64 k4, .int .u8 0, .string ⟨#[]⟩, .string ⟨#[]⟩, .int .u8 0, .int .u8 0] 49)
  have hbo : BlkAt (w5.alloc (.cells #[.int .u64 k1, .int .u64 k2, .int .u8 k3, .int .u64 k4, .int .u8 0, .string ⟨#[]⟩, .string ⟨#[]⟩, .int .u8 0, .int .u8 0] 49)) w5.heap.size 49 #[.int .u64 k1, .int .u64 k2, .int .u8 k3, .int .u64 k4, .int .u8 0, .string ⟨#[]⟩, .string ⟨#[]⟩, .int .u8 0, .int .u8 0] := BlkAt.new _ _ _
  have F6 := F5.then' f6
  have hb6 := hb5.fr f6 id
  have h6 := h5.fr f6 (fun _ _ _ => id)
  rw [hpo] at hbo
  generalize (w5.alloc (.cells #[.int .u64 k1, .int .u64 k2, .int .u8 k3, .int .u64 k4, .int .u8 0, .string ⟨#[]⟩, .string ⟨#[]⟩, .int .u8 0, .int .u8 0] 49)) = w6 at *
  have hpw : w.heap.size < po := by have := F5.size; have := hb5.lt; omega
  clear f6 F5 hb5 h5 hs5 hpo
  go_wp2_with fail
  refine (c5 w6 S p h6).mono ?_
  rintro ed w7 ⟨rfl, h7, f7⟩
  have F7 : Fr noB w w7 := F6.trans f7 (fun i hi h => by have := HSd _ h; omega)
  have hb7 := hb6.fr f7 (fun h => by have := HSd _ h; omega)
  have hbo7 := hbo.fr f7 hpS
  have hE := endRd_calls w7 S p r5 h7
  clear c5 h6 f7 F6 hb6 hbo h7
  by_cases h0 : rEnd r5 = 0
  · rw [if_neg (by omega)] at HR
    rw [h0] at hE
    clear h0
    go_wp2_with fail
    refine hE.mono ?_
    rintro ed w8 ⟨rfl, rfl⟩
    clear hE
    have hcv := Tryd.fromStr w7 (mkS t5)
    have hwf := bytesW_fr w7 (mkS t5)
    have hwr := bytesW_row w7 (mkS t5)
    rw [mkS_data] at hwr
    rw [mkS_size] at hcv
    generalize Lib.bytesWorld w7 5 (mkS t5) = wc at *
    generalize (⟨w7.heap.size, 0, none⟩ : Addr) = ad at *
    have FC := F7.then' hwf
    have hbC := hb7.fr hwf id
    have hoC := hbo7.fr hwf id
    have hop' := fun c => hop wc (some ad) t5.length c (ht.fr0 FC) hwr rfl (fun e => nomatch e)
    clear hop hwf hwr F7 hb7 hbo7
    obtain ⟨m, hm⟩ : ∃ m, t5.length = m := ⟨_, rfl⟩
    rw [hm] at hcv hop'
    clear hm
    go_wp2_with fail
    refine (hop' _).mono ?_
    rintro ed w8 ⟨rfl, f8⟩
    obtain ⟨ok, oa, ob, on, or⟩ := o
    unfold OpV.v
    simp only [] at hok HR ⊢
    have F8 := FC.then' f8
    have hb8 := hbC.fr f8 id
    have ho8 := hoC.fr f8 id
    obtain ⟨y0, y1, y2, y3, y4, y5, y6, y7, y8, yf⟩ := BlkAt.c9 hb8
    obtain ⟨x0, x1, x2, x3, x4, x5, x6, x7, x8, xf⟩ := BlkAt.c9 ho8
    clear hop' hcv FC hbC hoC f8
    by_cases h1 : oe = 0
    · subst h1
      have ho := hok _ rfl
      rw [if_neg (by decide)] at HR
      have hck := fun W (f : Fr noB w W) => checkEn_calls W ⟨k1, k2, k3, k4, ⟨ok, oa, ob, on, or⟩⟩ (ht.fr0 f) (HWF _ ho.1) (by have := ho.2.2.2; simp only [] at this ⊢; omega) (by have := ho.2.2.2; simp only [] at this ⊢; omega)
      have f9 := (((((fr_set1 w8 po 4 (.int .u8 ok)).then' (fr_set1 _ po 5 (.string oa))).then' (fr_set1 _ po 6 (.string ob))).then' (fr_set1 _ po 7 (.int .u8 on))).then' (fr_set1 _ po 8 (.int .u8 or)))
      have F9 : Fr noB w _ := F8.trans f9 (fun i hi h => by unfold eqB at h; omega)
      have hb9 := hb8.fr f9 (fun h => by unfold eqB at h; omega)
      have ho9 : BlkAt _ po 49 _ := ((((ho8.set 4 (.int .u8 ok)).set 5 (.string oa)).set 6 (.string ob)).set 7 (.int .u8 on)).set 8 (.int .u8 or)
      generalize checkE ⟨k1, k2, k3, k4, ⟨ok, oa, ob, on, or⟩⟩ = cv at *
      unfold EnV.v at hck
      simp only [] at hck
      clear hok HWF ho f9
      go_upto_region 7 with fail
      generalize (((((w8.setCell ⟨po, 4, none⟩ (.int .u8 ok)).setCell ⟨po, 5, none⟩ (.string oa)).setCell ⟨po, 6, none⟩ (.string ob)).setCell ⟨po, 7, none⟩ (.int .u8 on)).setCell ⟨po, 8, none⟩ (.int .u8 or)) = w9 at *
      clear x0 x1 x2 x3 x4 x5 x6 x7 x8 xf y0 y1 y2 y3 y4 y5 y6 y7 y8 yf ho8 hb8 F8
      obtain ⟨x0, x1, x2, x3, x4, x5, x6, x7, x8, xf⟩ := BlkAt.c9 ho9
      go_wp2_with fail
      refine (hck _ F9).mono ?_
      rintro ed w10 ⟨rfl, f10⟩
      have F10 := F9.then' f10
      replace hb9 := hb9.fr f10 id
      replace ho9 := ho9.fr f10 id
      clear x0 x1 x2 x3 x4 x5 x6 x7 x8 xf hck
      obtain ⟨x0, x1, x2, x3, x4, x5, x6, x7, x8, xf⟩ := BlkAt.c9 ho9
      obtain ⟨y0, y1, y2, y3, y4, y5, y6, y7, y8, yf⟩ := BlkAt.c9 hb9
      by_cases h2 : cv = 0
      · rw [if_neg (by omega)] at HR
        subst h2
        have FF := F10.trans (fr_set9 w10 w.heap.size (.int .u64 k1) (.int .u64 k2) (.int .u8 k3) (.int .u64 k4) (.int .u8 ok) (.string oa) (.string ob) (.int .u8 on) (.int .u8 or)) (fun i hi h => by unfold eqB at h; omega)
        go_wp2_with fail
        have hr := HRES.out
        exact bodyPost_ret (v := .tuple #[(⟨k1, k2, k3, k4, ⟨ok, oa, ob, on, or⟩⟩ : EnV).v, .int .i64 0]) (by simp [results, hr, go_sem, EnV.v, y0, y1, y2, y3, y4, y5, y6, y7, y8]) rfl ⟨by rw [HR.out] <;> rfl, FF⟩
      · rw [if_pos h2] at HR
        have t2 : ((cv : Int) != 0) = true := by rw [bne_iff_ne]; omega
        clear h2
        have FF := F10.trans (fr_set9 w10 w.heap.size (.int .u64 0) (.int .u64 0) (.int .u8 0) (.int .u64 0) (.int .u8 0) (.string ⟨#[]⟩) (.string ⟨#[]⟩) (.int .u8 0) (.int .u8 0)) (fun i hi h => by unfold eqB at h; omega)
        go_wp2_with fail
        have hr := HRES.out
        exact bodyPost_ret (v := .tuple #[zeroE.v, .int .i64 cv]) (by simp [results, hr, go_sem, zeroE, zeroOp, EnV.v, y0, y1, y2, y3, y4, y5, y6, y7, y8]) rfl ⟨by rw [HR.out] <;> rfl, FF⟩
    · rw [if_pos h1] at HR
      have t1 : ((oe : Int) == 0) = false := by rw [beq_eq_false_iff_ne]; omega
      have t2 : ((oe : Int) != 0) = true := by rw [bne_iff_ne]; omega
      have F9 : Fr noB w _ := F8.trans (((((fr_set1 w8 po 4 (.int .u8 ok)).then' (fr_set1 _ po 5 (.string oa))).then' (fr_set1 _ po 6 (.string ob))).then' (fr_set1 _ po 7 (.int .u8 on))).then' (fr_set1 _ po 8 (.int .u8 or))) (fun i hi h => by unfold eqB at h; omega)
      clear h1 hok HWF
      have hb9 := hb8.fr (((((fr_set1 w8 po 4 (.int .u8 ok)).then' (fr_set1 _ po 5 (.string oa))).then' (fr_set1 _ po 6 (.string ob))).then' (fr_set1 _ po 7 (.int .u8 on))).then' (fr_set1 _ po 8 (.int .u8 or))) (fun h => by unfold eqB at h; omega)
      go_upto_region 7 with fail
      generalize (((((w8.setCell ⟨po, 4, none⟩ (.int .u8 ok)).setCell ⟨po, 5, none⟩ (.string oa)).setCell ⟨po, 6, none⟩ (.string ob)).setCell ⟨po, 7, none⟩ (.int .u8 on)).setCell ⟨po, 8, none⟩ (.int .u8 or)) = w9 at *
      clear x0 x1 x2 x3 x4 x5 x6 x7 x8 xf y0 y1 y2 y3 y4 y5 y6 y7 y8 yf ho8 hb8 F8
      obtain ⟨y0, y1, y2, y3, y4, y5, y6, y7, y8, yf⟩ := BlkAt.c9 hb9
      have FF := F9.trans (fr_set9 w9 w.heap.size (.int .u64 0) (.int .u64 0) (.int .u8 0) (.int .u64 0) (.int .u8 0) (.string ⟨#[]⟩) (.string ⟨#[]⟩) (.int .u8 0) (.int .u8 0)) (fun i hi h => by unfold eqB at h; omega)
      go_wp2_with fail
      have hr := HRES.out
      exact bodyPost_ret (v := .tuple #[zeroE.v, .int .i64 oe]) (by simp [results, hr, go_sem, zeroE, zeroOp, EnV.v, y0, y1, y2, y3, y4, y5, y6, y7, y8]) rfl ⟨by rw [HR.out] <;> rfl, FF⟩
  · rw [if_pos h0] at HR
    have t1 : ((rEnd r5 : Int) == 0) = false := by rw [beq_eq_false_iff_ne]; omega
    have t2 : ((rEnd r5 : Int) != 0) = true := by rw [bne_iff_ne]; omega
    generalize rEnd r5 = re at *
    obtain ⟨y0, y1, y2, y3, y4, y5, y6, y7, y8, yf⟩ := BlkAt.c9 hb7
    have FF := F7.trans (fr_set9 w7 w.heap.size (.int .u64 0) (.int .u64 0) (.int .u8 0) (.int .u64 0) (.int .u8 0) (.string ⟨#[]⟩) (.string ⟨#[]⟩) (.int .u8 0) (.int .u8 0)) (fun i hi h => by unfold eqB at h; omega)
    clear h0
    go_wp2_with fail
    refine hE.mono ?_
    rintro ed w8 ⟨rfl, rfl⟩
    clear hE hop hok HWF
    go_wp2_with fail
    have hr := HRES.out
    exact bodyPost_ret (v := .tuple #[zeroE.v, .int .i64 re]) (by simp [results, hr, go_sem, zeroE, zeroOp, EnV.v, y0, y1, y2, y3, y4, y5, y6, y7, y8]) rfl ⟨by rw [HR.out] <;> rfl, FF⟩
end Go.Proofs.YtdngcheimohamaaDoor
/- interrexref19.Read. -/
namespace Go.Proofs.YtdngcheimohamaaDoor
open Go.RowKit
theorem rNum_left (r : Rd) (n : Nat) : (rNum r n).1.bs.length ≤ r.bs.length := rTake_left r n
set_option maxRecDepth 100000 in
set_option maxHeartbeats 6400000 in
theorem enReadR_calls (w : World) (bs : List UInt8) (hl : bs.length ≤ 1000000000000) :
    Calls Tryd.prog 23 #[.string (mkS bs)] w (EnEPost w (enRead bs)) := by
  have hb0 : BlkAt (w.alloc (.cells #[.int .u64 0, .int .u64 0, .int .u8 0, .int .u64 0, .int .u8 0, .string ⟨#[]⟩, .string ⟨#[]⟩, .int .u8 0, .int .u8 0] 58)) w.heap.size 58 #[.int .u64 0, .int .u64 0, .int .u8 0, .int .u64 0, .int .u8 0, .string ⟨#[]⟩, .string ⟨#[]⟩, .int .u8 0, .int .u8 0] := BlkAt.new _ _ _
  have f0 : Fr noB w (w.alloc (.cells #[.int .u64 0, .int .u64 0, .int .u8 0, .int .u64 0, .int .u8 0, .string ⟨#[]⟩, .string ⟨#[]⟩, .int .u8 0, .int .u8 0] 58)) := (Fr.refl noB w).alloc _
  have i0 : (⟨bs, 0⟩ : Rd).inv := fun h => absurd rfl h
  obtain ⟨r1, k1, q1⟩ := pair_ex (enR1 bs)
  obtain ⟨r2, k2, q2⟩ := pair_ex (enR2 bs)
  obtain ⟨r3, k3, q3⟩ := pair_ex (enR3 bs)
  obtain ⟨r4, k4, q4⟩ := pair_ex (enR4 bs)
  obtain ⟨r5, t5, q5⟩ := pair_ex (enR5 bs)
  have e1 : rNum ⟨bs, 0⟩ 8 = (r1, k1) := q1
  have e2 : rNum r1 8 = (r2, k2) := by rw [← q2]; unfold enR2; rw [q1]
  have e3 : rNum r2 1 = (r3, k3) := by rw [← q3]; unfold enR3; rw [q2]
  have e4 : rNum r3 8 = (r4, k4) := by rw [← q4]; unfold enR4; rw [q3]
  have e5 : rText r4 64 = (r5, t5) := by rw [← q5]; unfold enR5; rw [q4]
  have HR : Hid (enRead bs = if rEnd r5 ≠ 0 then (zeroE, rEnd r5) else if (opRead t5).2 ≠ 0 then (zeroE, (opRead t5).2) else if checkE ⟨k1, k2, k3, k4, (opRead t5).1⟩ ≠ 0 then (zeroE, checkE ⟨k1, k2, k3, k4, (opRead t5).1⟩) else (⟨k1, k2, k3, k4, (opRead t5).1⟩, 0)) := by
    unfold Hid enRead enE; rw [q1, q2, q3, q4, q5]
  have HWF := fun (o : OpV) (ho : o.wf) => entry_wf4 (rNum_lt' e1) (rNum_lt' e2) (rNum_lt' e3) (rNum_lt' e4) ho
  have hk3 := rNum_lt' e3
  rw [show (256 : Nat) ^ 1 = 256 by decide] at hk3
  have i1 : r1.inv := by have := rNum_inv (r := ⟨bs, 0⟩) 8 i0; rw [e1] at this; exact this
  have l1 : r1.bs.length ≤ 1000000000000 := by have := rNum_left ⟨bs, 0⟩ 8; rw [e1] at this; simp only [] at this; omega
  have i2 : r2.inv := by have := rNum_inv (r := r1) 8 i1; rw [e2] at this; exact this
  have l2 : r2.bs.length ≤ 1000000000000 := by have := rNum_left r1 8; rw [e2] at this; simp only [] at this; omega
  have i3 : r3.inv := by have := rNum_inv (r := r2) 1 i2; rw [e3] at this; exact this
  have l3 : r3.bs.length ≤ 1000000000000 := by have := rNum_left r2 1; rw [e3] at this; simp only [] at this; omega
  have i4 : r4.inv := by have := rNum_inv (r := r3) 8 i3; rw [e4] at this; exact this
  have l4 : r4.bs.length ≤ 1000000000000 := by have := rNum_left r3 8; rw [e4] at this; simp only [] at this; omega
  have i5 : r5.inv := by have := rText_inv (r := r4) i4 64; rw [e5] at this; exact this
  have l5 : r5.bs.length ≤ 1000000000000 := by have := rText_left r4 64; rw [e5] at this; simp only [] at this; omega
  have c1 := fun W => getR_calls W ⟨bs, 0⟩ 8 i0 hl (by omega)
  have c2 := fun W => getR_calls W r1 8 i1 l1 (by omega)
  have c3 := fun W => getR_calls W r2 1 i2 l2 (by omega)
  have c4 := fun W => getR_calls W r3 8 i3 l3 (by omega)
  have c5 := fun W => textGetR_calls W r4 64 i4 l4 (by decide) (by decide)
  rw [e1] at c1
  rw [e2] at c2
  rw [e3] at c3
  rw [e4] at c4
  rw [e5] at c5
  unfold RRPost at c5
  have HT : Hid (t5.length ≤ 1000000000000) := by
    have h := rText_left r4 64
    unfold Hid
    have h2 : (rText r4 64).2.length ≤ (rCount r4 64).1.bs.length := by
      show (rTake _ _).2.length ≤ _
      unfold rTake; split <;> simp [List.length_take] <;> omega
    have h3 : (rCount r4 64).1.bs.length ≤ r4.bs.length := by
      unfold rCount; split
      · exact Nat.le_trans (rFail_len _ _) (rNum_left _ _)
      · exact rNum_left _ _
    rw [e5] at h2
    simp only [] at h2
    omega
  have hop := fun W => opReadR_calls W t5 HT.out
  have hok := fun o h => opRead_ok (bs := t5) (o := o) h
  generalize opRead t5 = x at *
  clear q1 q2 q3 q4 q5 e1 e2 e3 e4 e5 l1 l2 l3 l4 l5 i0 i1 i2 i3 i4 HT hl
  obtain ⟨b1, x1⟩ := r1
  obtain ⟨b2, x2⟩ := r2
  obtain ⟨b3, x3⟩ := r3
  obtain ⟨b4, x4⟩ := r4
  obtain ⟨b5, x5⟩ := r5
  obtain ⟨o, oe⟩ := x
  simp only [Rd.val] at c1 c2 c3 c4 c5
  unfold OpEPost at hop
  obtain ⟨ok, oa, ob, on, or⟩ := o
  unfold OpV.v at hop
  simp only [] at hop HR hok
  have HRES : Hid (Tryd.f23.results = #[.cell 2 58, .tmp 3]) := by unfold Hid; kernel_rfl
  go_enter Tryd.func23, Tryd.ntmps23
  go_upto_region 1 with fail
  generalize (w.alloc (.cells #[.int .u64 0, .int .u64 0, .int .u8 0, .int .u64 0, .int .u8 0, .string ⟨#[]⟩, .string ⟨#[]⟩, .int .u8 0, .int .u8 0] 58)) = w0 at *
  go_wp2_with fail
  refine (c1 w0).mono ?_
  rintro ed w1 ⟨rfl, f1⟩
  have F1 := f0.then' f1
  have hb1 := hb0.fr f1 id
  clear f0 f1 hb0 c1
  go_upto_region 2 with fail
  have hbr : BlkAt (w1.alloc (.cells #[.string (mkS b1), .int .i64 x1] 71)) w1.heap.size 71 #[.string (mkS b1), .int .i64 x1] := BlkAt.new _ _ _
  have fa := (Fr.refl noB w1).alloc (.cells #[.string (mkS b1), .int .i64 x1] 71)
  generalize (w1.alloc (.cells #[.string (mkS b1), .int .i64 x1] 71)) = w2 at *
  have F2 := F1.then' fa
  have hb2 := hb1.fr fa id
  have hpp : w.heap.size < w1.heap.size := by have := hb1.lt; omega
  obtain ⟨p, hp⟩ : ∃ p, w1.heap.size = p := ⟨_, rfl⟩
  rw [hp] at hbr hpp ⊢
  clear hp fa F1 hb1
  have hwp : w.heap.size < p := hpp
  clear hpp
  obtain ⟨y0, y1, yf⟩ := BlkAt.c2 hbr
  go_wp2_with fail
  refine (c2 w2).mono ?_
  rintro ed w2a ⟨rfl, fx⟩
  replace hb2 := hb2.fr fx id
  replace hbr := hbr.fr fx id
  replace F2 := F2.then' fx
  clear fx c2 y0 y1 yf
  obtain ⟨y0, y1, yf⟩ := BlkAt.c2 hbr
  go_upto_region 3 with fail
  replace hb2 : BlkAt ((w2a.setCell ⟨p, 0, none⟩ (.string (mkS b2))).setCell ⟨p, 1, none⟩ (.int .i64 x2)) (w.heap.size) 58 #[.int .u64 0, .int .u64 0, .int .u8 0, .int .u64 0, .int .u8 0, .string ⟨#[]⟩, .string ⟨#[]⟩, .int .u8 0, .int .u8 0] := ((hb2).fr (fr_set1 _ (p) 0 (.string (mkS b2))) (by unfold eqB; omega)).fr (fr_set1 _ (p) 1 (.int .i64 x2)) (by unfold eqB; omega)
  replace hbr : BlkAt ((w2a.setCell ⟨p, 0, none⟩ (.string (mkS b2))).setCell ⟨p, 1, none⟩ (.int .i64 x2)) (p) 71 #[.string (mkS b2), .int .i64 x2] := ((hbr).set 0 (.string (mkS b2))).set 1 (.int .i64 x2)
  replace F2 := ((F2).trans (fr_set1 _ (p) 0 (.string (mkS b2))) (fun i hi h => by unfold eqB at h; omega)).trans (fr_set1 _ (p) 1 (.int .i64 x2)) (fun i hi h => by unfold eqB at h; omega)
  generalize ((w2a.setCell ⟨p, 0, none⟩ (.string (mkS b2))).setCell ⟨p, 1, none⟩ (.int .i64 x2)) = w3 at *
  clear y0 y1 yf
  obtain ⟨y0, y1, yf⟩ := BlkAt.c2 hbr
  go_wp2_with fail
  refine (c3 w3).mono ?_
  rintro ed w3a ⟨rfl, fx⟩
  replace hb2 := hb2.fr fx id
  replace hbr := hbr.fr fx id
  replace F2 := F2.then' fx
  clear fx c3 y0 y1 yf
  obtain ⟨y0, y1, yf⟩ := BlkAt.c2 hbr
  go_upto_region 4 with fail
  replace hb2 : BlkAt ((w3a.setCell ⟨p, 0, none⟩ (.string (mkS b3))).setCell ⟨p, 1, none⟩ (.int .i64 x3)) (w.heap.size) 58 #[.int .u64 0, .int .u64 0, .int .u8 0, .int .u64 0, .int .u8 0, .string ⟨#[]⟩, .string ⟨#[]⟩, .int .u8 0, .int .u8 0] := ((hb2).fr (fr_set1 _ (p) 0 (.string (mkS b3))) (by unfold eqB; omega)).fr (fr_set1 _ (p) 1 (.int .i64 x3)) (by unfold eqB; omega)
  replace hbr : BlkAt ((w3a.setCell ⟨p, 0, none⟩ (.string (mkS b3))).setCell ⟨p, 1, none⟩ (.int .i64 x3)) (p) 71 #[.string (mkS b3), .int .i64 x3] := ((hbr).set 0 (.string (mkS b3))).set 1 (.int .i64 x3)
  replace F2 := ((F2).trans (fr_set1 _ (p) 0 (.string (mkS b3))) (fun i hi h => by unfold eqB at h; omega)).trans (fr_set1 _ (p) 1 (.int .i64 x3)) (fun i hi h => by unfold eqB at h; omega)
  generalize ((w3a.setCell ⟨p, 0, none⟩ (.string (mkS b3))).setCell ⟨p, 1, none⟩ (.int .i64 x3)) = w4 at *
  clear y0 y1 yf
  obtain ⟨y0, y1, yf⟩ := BlkAt.c2 hbr
  go_wp2_with fail
  refine (c4 w4).mono ?_
  rintro ed w4a ⟨rfl, fx⟩
  replace hb2 := hb2.fr fx id
  replace hbr := hbr.fr fx id
  replace F2 := F2.then' fx
  clear fx c4 y0 y1 yf
  obtain ⟨y0, y1, yf⟩ := BlkAt.c2 hbr
  go_upto_region 5 with fail
  replace hb2 : BlkAt ((w4a.setCell ⟨p, 0, none⟩ (.string (mkS b4))).setCell ⟨p, 1, none⟩ (.int .i64 x4)) (w.heap.size) 58 #[.int .u64 0, .int .u64 0, .int .u8 0, .int .u64 0, .int .u8 0, .string ⟨#[]⟩, .string ⟨#[]⟩, .int .u8 0, .int .u8 0] := ((hb2).fr (fr_set1 _ (p) 0 (.string (mkS b4))) (by unfold eqB; omega)).fr (fr_set1 _ (p) 1 (.int .i64 x4)) (by unfold eqB; omega)
  replace hbr : BlkAt ((w4a.setCell ⟨p, 0, none⟩ (.string (mkS b4))).setCell ⟨p, 1, none⟩ (.int .i64 x4)) (p) 71 #[.string (mkS b4), .int .i64 x4] := ((hbr).set 0 (.string (mkS b4))).set 1 (.int .i64 x4)
  replace F2 := ((F2).trans (fr_set1 _ (p) 0 (.string (mkS b4))) (fun i hi h => by unfold eqB at h; omega)).trans (fr_set1 _ (p) 1 (.int .i64 x4)) (fun i hi h => by unfold eqB at h; omega)
  generalize ((w4a.setCell ⟨p, 0, none⟩ (.string (mkS b4))).setCell ⟨p, 1, none⟩ (.int .i64 x4)) = w5 at *
  clear y0 y1 yf
  obtain ⟨y0, y1, yf⟩ := BlkAt.c2 hbr
  go_wp2_with fail
  refine (c5 w5).mono ?_
  rintro ed w5a ⟨rfl, fx⟩
  replace hb2 := hb2.fr fx id
  replace hbr := hbr.fr fx id
  replace F2 := F2.then' fx
  clear fx c5 y0 y1 yf
  obtain ⟨y0, y1, yf⟩ := BlkAt.c2 hbr
  go_upto_region 6 with fail
  replace hb2 : BlkAt ((w5a.setCell ⟨p, 0, none⟩ (.string (mkS b5))).setCell ⟨p, 1, none⟩ (.int .i64 x5)) (w.heap.size) 58 #[.int .u64 0, .int .u64 0, .int .u8 0, .int .u64 0, .int .u8 0, .string ⟨#[]⟩, .string ⟨#[]⟩, .int .u8 0, .int .u8 0] := ((hb2).fr (fr_set1 _ (p) 0 (.string (mkS b5))) (by unfold eqB; omega)).fr (fr_set1 _ (p) 1 (.int .i64 x5)) (by unfold eqB; omega)
  replace hbr : BlkAt ((w5a.setCell ⟨p, 0, none⟩ (.string (mkS b5))).setCell ⟨p, 1, none⟩ (.int .i64 x5)) (p) 71 #[.string (mkS b5), .int .i64 x5] := ((hbr).set 0 (.string (mkS b5))).set 1 (.int .i64 x5)
  replace F2 := ((F2).trans (fr_set1 _ (p) 0 (.string (mkS b5))) (fun i hi h => by unfold eqB at h; omega)).trans (fr_set1 _ (p) 1 (.int .i64 x5)) (fun i hi h => by unfold eqB at h; omega)
  generalize ((w5a.setCell ⟨p, 0, none⟩ (.string (mkS b5))).setCell ⟨p, 1, none⟩ (.int .i64 x5)) = w6 at *
  clear y0 y1 yf
  obtain ⟨y0, y1, yf⟩ := BlkAt.c2 hbr
  have hi5 : x5 ≠ 0 → b5 = [] := fun h => i5 h
  clear i5
  by_cases h5 : x5 = 0
  · subst h5
    clear hi5
    by_cases hb : b5 = []
    · subst hb
      have hz : rEnd ⟨[], 0⟩ = 0 := rfl
      rw [hz, if_neg (by decide)] at HR
      have hmn : mkS [] = ⟨#[]⟩ := rfl
      clear hz
      go_wp2_with fail
      refine (hop w6).mono ?_
      rintro ed w7 ⟨rfl, f7⟩
      replace hb2 := hb2.fr f7 id
      replace F2 := F2.then' f7
      clear hop f7 y0 y1 yf hbr
      go_upto_region 11 with fail
      have hbo : BlkAt (w7.alloc (.cells #[.int .u8 ok, .string oa, .string ob, .int .u8 on, .int .u8 or] 54)) w7.heap.size 54 #[.int .u8 ok, .string oa, .string ob, .int .u8 on, .int .u8 or] := BlkAt.new _ _ _
      have fa := (Fr.refl noB w7).alloc (.cells #[.int .u8 ok, .string oa, .string ob, .int .u8 on, .int .u8 or] 54)
      generalize (w7.alloc (.cells #[.int .u8 ok, .string oa, .string ob, .int .u8 on, .int .u8 or] 54)) = w8 at *
      replace hb2 := hb2.fr fa id
      replace F2 := F2.then' fa
      clear fa
      by_cases h1 : oe = 0
      · subst h1
        have ho := hok _ rfl
        rw [if_neg (by decide)] at HR
        have hck := fun W => checkEr_calls W ⟨k1, k2, k3, k4, ⟨ok, oa, ob, on, or⟩⟩ (HWF _ ho.1) (by have := ho.2.2.2; simp only [] at this ⊢; omega) (by have := ho.2.2.2; simp only [] at this ⊢; omega)
        generalize checkE ⟨k1, k2, k3, k4, ⟨ok, oa, ob, on, or⟩⟩ = cv at *
        unfold EnV.v at hck
        simp only [] at hck
        clear hok HWF ho
        obtain ⟨x0, x1', x2', x3', x4', xf⟩ := BlkAt.c5 hbo
        go_upto_region 14 with fail
        have hbn : BlkAt (w8.alloc (.cells #[.int .u64 k1, .int .u64 k2, .int .u8 k3, .int .u64 k4, .int .u8 ok, .string oa, .string ob, .int .u8 on, .int .u8 or] 58)) w8.heap.size 58 #[.int .u64 k1, .int .u64 k2, .int .u8 k3, .int .u64 k4, .int .u8 ok, .string oa, .string ob, .int .u8 on, .int .u8 or] := BlkAt.new _ _ _
        have fb := (Fr.refl noB w8).alloc (.cells #[.int .u64 k1, .int .u64 k2, .int .u8 k3, .int .u64 k4, .int .u8 ok, .string oa, .string ob, .int .u8 on, .int .u8 or] 58)
        generalize (w8.alloc (.cells #[.int .u64 k1, .int .u64 k2, .int .u8 k3, .int .u64 k4, .int .u8 ok, .string oa, .string ob, .int .u8 on, .int .u8 or] 58)) = w9 at *
        replace hb2 := hb2.fr fb id
        replace F2 := F2.then' fb
        clear fb x0 x1' x2' x3' x4' xf hbo
        obtain ⟨x0, x1', x2', x3', x4', x5', x6', x7', x8', xf⟩ := BlkAt.c9 hbn
        go_wp2_with fail
        refine (hck w9).mono ?_
        rintro ed w10 ⟨rfl, f10⟩
        replace hb2 := hb2.fr f10 id
        replace hbn := hbn.fr f10 id
        replace F2 := F2.then' f10
        clear x0 x1' x2' x3' x4' x5' x6' x7' x8' xf hck f10
        obtain ⟨x0, x1', x2', x3', x4', x5', x6', x7', x8', xf⟩ := BlkAt.c9 hbn
        obtain ⟨y0, y1, y2, y3, y4, y5, y6, y7, y8, yf⟩ := BlkAt.c9 hb2
        by_cases h2 : cv = 0
        · rw [if_neg (by omega)] at HR
          subst h2
          have FF := F2.trans (fr_set9 w10 w.heap.size (.int .u64 k1) (.int .u64 k2) (.int .u8 k3) (.int .u64 k4) (.int .u8 ok) (.string oa) (.string ob) (.int .u8 on) (.int .u8 or)) (fun i hi h => by unfold eqB at h; omega)
          go_wp2_with fail
          have hr := HRES.out
          exact bodyPost_ret (v := .tuple #[(⟨k1, k2, k3, k4, ⟨ok, oa, ob, on, or⟩⟩ : EnV).v, .int .i64 0]) (by simp [results, hr, go_sem, EnV.v, y0, y1, y2, y3, y4, y5, y6, y7, y8]) rfl ⟨by rw [HR.out] <;> rfl, FF⟩
        · rw [if_pos h2] at HR
          have t2 : ((cv : Int) != 0) = true := by rw [bne_iff_ne]; omega
          clear h2
          have FF := F2.trans (fr_set9 w10 w.heap.size (.int .u64 0) (.int .u64 0) (.int .u8 0) (.int .u64 0) (.int .u8 0) (.string ⟨#[]⟩) (.string ⟨#[]⟩) (.int .u8 0) (.int .u8 0)) (fun i hi h => by unfold eqB at h; omega)
          go_wp2_with fail
          have hr := HRES.out
          exact bodyPost_ret (v := .tuple #[zeroE.v, .int .i64 cv]) (by simp [results, hr, go_sem, zeroE, zeroOp, EnV.v, y0, y1, y2, y3, y4, y5, y6, y7, y8]) rfl ⟨by rw [HR.out] <;> rfl, FF⟩
      · rw [if_pos h1] at HR
        have t2 : ((oe : Int) != 0) = true := by rw [bne_iff_ne]; omega
        clear h1 hok HWF
        obtain ⟨y0, y1, y2, y3, y4, y5, y6, y7, y8, yf⟩ := BlkAt.c9 hb2
        have FF := F2.trans (fr_set9 w8 w.heap.size (.int .u64 0) (.int .u64 0) (.int .u8 0) (.int .u64 0) (.int .u8 0) (.string ⟨#[]⟩) (.string ⟨#[]⟩) (.int .u8 0) (.int .u8 0)) (fun i hi h => by unfold eqB at h; omega)
        go_wp2_with fail
        have hr := HRES.out
        exact bodyPost_ret (v := .tuple #[zeroE.v, .int .i64 oe]) (by simp [results, hr, go_sem, zeroE, zeroOp, EnV.v, y0, y1, y2, y3, y4, y5, y6, y7, y8]) rfl ⟨by rw [HR.out] <;> rfl, FF⟩
    · have hz : rEnd ⟨b5, 0⟩ = 3 := by unfold rEnd; rw [if_pos ⟨rfl, List.length_pos_iff.2 hb⟩]
      rw [hz, if_pos (by decide)] at HR
      have hne : (mkS b5).toList.isEmpty = false := by rw [mkS_toList]; simpa using hb
      clear hz hop hok HWF hb
      go_upto_region 9 with fail
      replace hb2 : BlkAt (w6.setCell ⟨p, 1, none⟩ (.int .i64 3)) (w.heap.size) 58 #[.int .u64 0, .int .u64 0, .int .u8 0, .int .u64 0, .int .u8 0, .string ⟨#[]⟩, .string ⟨#[]⟩, .int .u8 0, .int .u8 0] := (hb2).fr (fr_set1 _ (p) 1 (.int .i64 3)) (by unfold eqB; omega)
      replace hbr : BlkAt (w6.setCell ⟨p, 1, none⟩ (.int .i64 3)) (p) 71 #[.string (mkS b5), .int .i64 3] := (hbr).set 1 (.int .i64 3)
      replace F2 := (F2).trans (fr_set1 _ (p) 1 (.int .i64 3)) (fun i hi h => by unfold eqB at h; omega)
      generalize (w6.setCell ⟨p, 1, none⟩ (.int .i64 3)) = w7 at *
      apply wp_region_calm (R := Fr (eqB (w.heap.size))) (C := fun q W => Fr (eqB (w.heap.size)) w7 W ∧ BlkAt W (p) 71 #[.string (mkS b5), .int .i64 3] ∧ BlkAt W (w.heap.size) 58 (if q = 0 then #[.int .u64 0, .int .u64 0, .int .u8 0, .int .u64 0, .int .u8 0, .string ⟨#[]⟩, .string ⟨#[]⟩, .int .u8 0, .int .u8 0] else #[.int .u64 0, .int .u64 0, .int .u8 0, .int .u64 0, .int .u8 0, .string ⟨#[]⟩, .string ⟨#[]⟩, .int .u8 0, .int .u8 0])) [false, false, false, true, false]
        [eqv _, eqv _, eqv _, anyv, eqv _]
        (by kernel_rfl) (by kernel_rfl) (fun _ _ _ h1 h2 => h1.then' h2) ((Fr.refl _ _).drew) ⟨(Fr.refl _ _).drew, hbr, hb2⟩ (by kernel_rfl)
      · refine ⟨?_, ?_, ?_, ?_, ?_, trivial⟩
        · rw [if_neg (by decide)]; intro kq
          intro a W K hC hd hK
          refine wpOp_plain rfl rfl ?_
          go_wp2_with fail
          exact hK _ _ (Fr.refl _ _) hC rfl
        · rw [if_neg (by decide)]; intro kq
          intro a W K hC hd hK
          have d4 : a.tmps[4]?.getD undef = .pointer (some ⟨p, 0, none⟩) := hd 4 (by decide)
          refine wpOp_plain rfl rfl ?_
          obtain ⟨x0_0, x0_1, z0⟩ := BlkAt.c2 (hC.2.1)
          go_wp2_with fail
          exact hK _ _ (Fr.refl _ _) hC rfl
        · rw [if_neg (by decide)]; intro kq
          intro a W K hC hd hK
          have d53 : _ = _ := hd 53 (by decide)
          refine wpOp_plain rfl rfl ?_
          obtain ⟨x0_0, x0_1, z0⟩ := BlkAt.c2 (hC.2.1)
          go_wp2_with fail
          exact hK _ _ (Fr.refl _ _) hC rfl
        · rw [if_pos (by decide)]
          intro a W K hC hd hK
          replace hC : (fun q W => Fr (eqB (w.heap.size)) w7 W ∧ BlkAt W (p) 71 #[.string (mkS b5), .int .i64 3] ∧ BlkAt W (w.heap.size) 58 (if q = 0 then #[.int .u64 0, .int .u64 0, .int .u8 0, .int .u64 0, .int .u8 0, .string ⟨#[]⟩, .string ⟨#[]⟩, .int .u8 0, .int .u8 0] else #[.int .u64 0, .int .u64 0, .int .u8 0, .int .u64 0, .int .u8 0, .string ⟨#[]⟩, .string ⟨#[]⟩, .int .u8 0, .int .u8 0])) 0 W := hC
          have d2 : a.tmps[2]?.getD undef = .pointer (some ⟨w.heap.size, 0, none⟩) := hd 2 (by decide)
          have d52 : _ = _ := hd 52 (by decide)
          refine wpOp_plain rfl rfl ?_
          obtain ⟨x0_0, x0_1, z0⟩ := BlkAt.c2 (hC.2.1)
          have hz0 : BlkAt W (w.heap.size) 58 #[.int .u64 0, .int .u64 0, .int .u8 0, .int .u64 0, .int .u8 0, .string ⟨#[]⟩, .string ⟨#[]⟩, .int .u8 0, .int .u8 0] := hC.2.2
          obtain ⟨b0_0, b0_1, b0_2, b0_3, b0_4, b0_5, b0_6, b0_7, b0_8, zz0⟩ := BlkAt.c9 hz0
          have fs : Fr (eqB (w.heap.size)) W (((((((((W.setCell ⟨w.heap.size, 0, none⟩ (.int .u64 0)).setCell ⟨w.heap.size, 1, none⟩ (.int .u64 0)).setCell ⟨w.heap.size, 2, none⟩ (.int .u8 0)).setCell ⟨w.heap.size, 3, none⟩ (.int .u64 0)).setCell ⟨w.heap.size, 4, none⟩ (.int .u8 0)).setCell ⟨w.heap.size, 5, none⟩ (.string ⟨#[]⟩)).setCell ⟨w.heap.size, 6, none⟩ (.string ⟨#[]⟩)).setCell ⟨w.heap.size, 7, none⟩ (.int .u8 0)).setCell ⟨w.heap.size, 8, none⟩ (.int .u8 0)) := ((((((((((Fr.refl (eqB (w.heap.size)) W)).setCell (p := ⟨w.heap.size, 0, none⟩) (Or.inl rfl) (.int .u64 0)).setCell (p := ⟨w.heap.size, 1, none⟩) (Or.inl rfl) (.int .u64 0)).setCell (p := ⟨w.heap.size, 2, none⟩) (Or.inl rfl) (.int .u8 0)).setCell (p := ⟨w.heap.size, 3, none⟩) (Or.inl rfl) (.int .u64 0)).setCell (p := ⟨w.heap.size, 4, none⟩) (Or.inl rfl) (.int .u8 0)).setCell (p := ⟨w.heap.size, 5, none⟩) (Or.inl rfl) (.string ⟨#[]⟩)).setCell (p := ⟨w.heap.size, 6, none⟩) (Or.inl rfl) (.string ⟨#[]⟩)).setCell (p := ⟨w.heap.size, 7, none⟩) (Or.inl rfl) (.int .u8 0)).setCell (p := ⟨w.heap.size, 8, none⟩) (Or.inl rfl) (.int .u8 0)
          have hn0 : BlkAt (((((((((W.setCell ⟨w.heap.size, 0, none⟩ (.int .u64 0)).setCell ⟨w.heap.size, 1, none⟩ (.int .u64 0)).setCell ⟨w.heap.size, 2, none⟩ (.int .u8 0)).setCell ⟨w.heap.size, 3, none⟩ (.int .u64 0)).setCell ⟨w.heap.size, 4, none⟩ (.int .u8 0)).setCell ⟨w.heap.size, 5, none⟩ (.string ⟨#[]⟩)).setCell ⟨w.heap.size, 6, none⟩ (.string ⟨#[]⟩)).setCell ⟨w.heap.size, 7, none⟩ (.int .u8 0)).setCell ⟨w.heap.size, 8, none⟩ (.int .u8 0)) (w.heap.size) 58 #[.int .u64 0, .int .u64 0, .int .u8 0, .int .u64 0, .int .u8 0, .string ⟨#[]⟩, .string ⟨#[]⟩, .int .u8 0, .int .u8 0] := (((((((((hz0).set 0 (.int .u64 0)).set 1 (.int .u64 0)).set 2 (.int .u8 0)).set 3 (.int .u64 0)).set 4 (.int .u8 0)).set 5 (.string ⟨#[]⟩)).set 6 (.string ⟨#[]⟩)).set 7 (.int .u8 0)).set 8 (.int .u8 0)
          go_wp2_with fail
          exact hK undef _ fs ⟨hC.1.then' fs, (hC.2.1).fr fs (by unfold eqB; omega), hn0⟩ trivial
        · rw [if_neg (by decide)]; intro kq
          exact calm_mv 54 rfl rfl (Or.inr rfl) (Fr.refl _) (by decide) fun v w hd => hd
      · intro vs w9 fw9 cw9 hV
        have v52 : vs 0 = _ := hV 0 _ _ rfl rfl (by decide)
        have v53 : vs 1 = _ := hV 1 _ _ rfl rfl (by decide)
        have v54 : vs 2 = _ := hV 2 _ _ rfl rfl (by decide)
        have v3 : vs 4 = _ := hV 4 _ _ rfl rfl (by decide)
        clear hV
        replace hbr : BlkAt w9 (p) 71 #[.string (mkS b5), .int .i64 3] := cw9.2.1
        replace hb2 : BlkAt w9 (w.heap.size) 58 #[.int .u64 0, .int .u64 0, .int .u8 0, .int .u64 0, .int .u8 0, .string ⟨#[]⟩, .string ⟨#[]⟩, .int .u8 0, .int .u8 0] := cw9.2.2
        replace F2 := F2.trans fw9 (fun i hi h => by unfold eqB at h; omega)
        clear cw9
        simp only [putL, Act.put, Nat.reduceAdd, List.setIfInBounds_toArray, List.set_cons_zero, List.set_cons_succ, v52, v53, v54, v3]
        obtain ⟨z0, z1, z2, z3, z4, z5, z6, z7, z8, zf⟩ := BlkAt.c9 hb2
        go_wp2_with fail
        have hr := HRES.out
        exact bodyPost_ret (v := .tuple #[zeroE.v, .int .i64 3]) (by simp [results, hr, go_sem, zeroE, zeroOp, EnV.v, z0, z1, z2, z3, z4, z5, z6, z7, z8]) rfl ⟨by rw [HR.out] <;> rfl, F2⟩
  · have hb := hi5 h5
    subst hb
    have hz : rEnd ⟨[], x5⟩ = x5 := by unfold rEnd; rw [if_neg (fun h => h5 h.1)]
    rw [hz, if_pos h5] at HR
    have t1 : ((x5 : Int) == 0) = false := by rw [beq_eq_false_iff_ne]; omega
    have t2 : ((x5 : Int) != 0) = true := by rw [bne_iff_ne]; omega
    clear hz hop hok HWF h5 hi5
    go_upto_region 9 with fail
    obtain ⟨b5, hb5⟩ : ∃ b, ([] : List UInt8) = b := ⟨_, rfl⟩
    rw [hb5] at hbr
    clear hb5
    apply wp_region_calm (R := Fr (eqB (w.heap.size))) (C := fun q W => Fr (eqB (w.heap.size)) w6 W ∧ BlkAt W (p) 71 #[.string (mkS b5), .int .i64 x5] ∧ BlkAt W (w.heap.size) 58 (if q = 0 then #[.int .u64 0, .int .u64 0, .int .u8 0, .int .u64 0, .int .u8 0, .string ⟨#[]⟩, .string ⟨#[]⟩, .int .u8 0, .int .u8 0] else #[.int .u64 0, .int .u64 0, .int .u8 0, .int .u64 0, .int .u8 0, .string ⟨#[]⟩, .string ⟨#[]⟩, .int .u8 0, .int .u8 0])) [false, false, false, true, false]
      [eqv _, eqv _, eqv _, anyv, eqv _]
      (by kernel_rfl) (by kernel_rfl) (fun _ _ _ h1 h2 => h1.then' h2) ((Fr.refl _ _).drew) ⟨(Fr.refl _ _).drew, hbr, hb2⟩ (by kernel_rfl)
    · refine ⟨?_, ?_, ?_, ?_, ?_, trivial⟩
      · rw [if_neg (by decide)]; intro kq
        intro a W K hC hd hK
        refine wpOp_plain rfl rfl ?_
        go_wp2_with fail
        exact hK _ _ (Fr.refl _ _) hC rfl
      · rw [if_neg (by decide)]; intro kq
        intro a W K hC hd hK
        have d4 : a.tmps[4]?.getD undef = .pointer (some ⟨p, 0, none⟩) := hd 4 (by decide)
        refine wpOp_plain rfl rfl ?_
        obtain ⟨x0_0, x0_1, z0⟩ := BlkAt.c2 (hC.2.1)
        go_wp2_with fail
        exact hK _ _ (Fr.refl _ _) hC rfl
      · rw [if_neg (by decide)]; intro kq
        intro a W K hC hd hK
        have d53 : _ = _ := hd 53 (by decide)
        refine wpOp_plain rfl rfl ?_
        obtain ⟨x0_0, x0_1, z0⟩ := BlkAt.c2 (hC.2.1)
        go_wp2_with fail
        exact hK _ _ (Fr.refl _ _) hC rfl
      · rw [if_pos (by decide)]
        intro a W K hC hd hK
        replace hC : (fun q W => Fr (eqB (w.heap.size)) w6 W ∧ BlkAt W (p) 71 #[.string (mkS b5), .int .i64 x5] ∧ BlkAt W (w.heap.size) 58 (if q = 0 then #[.int .u64 0, .int .u64 0, .int .u8 0, .int .u64 0, .int .u8 0, .string ⟨#[]⟩, .string ⟨#[]⟩, .int .u8 0, .int .u8 0] else #[.int .u64 0, .int .u64 0, .int .u8 0, .int .u64 0, .int .u8 0, .string ⟨#[]⟩, .string ⟨#[]⟩, .int .u8 0, .int .u8 0])) 0 W := hC
        have d2 : a.tmps[2]?.getD undef = .pointer (some ⟨w.heap.size, 0, none⟩) := hd 2 (by decide)
        have d52 : _ = _ := hd 52 (by decide)
        refine wpOp_plain rfl rfl ?_
        obtain ⟨x0_0, x0_1, z0⟩ := BlkAt.c2 (hC.2.1)
        have hz0 : BlkAt W (w.heap.size) 58 #[.int .u64 0, .int .u64 0, .int .u8 0, .int .u64 0, .int .u8 0, .string ⟨#[]⟩, .string ⟨#[]⟩, .int .u8 0, .int .u8 0] := hC.2.2
        obtain ⟨b0_0, b0_1, b0_2, b0_3, b0_4, b0_5, b0_6, b0_7, b0_8, zz0⟩ := BlkAt.c9 hz0
        have fs : Fr (eqB (w.heap.size)) W (((((((((W.setCell ⟨w.heap.size, 0, none⟩ (.int .u64 0)).setCell ⟨w.heap.size, 1, none⟩ (.int .u64 0)).setCell ⟨w.heap.size, 2, none⟩ (.int .u8 0)).setCell ⟨w.heap.size, 3, none⟩ (.int .u64 0)).setCell ⟨w.heap.size, 4, none⟩ (.int .u8 0)).setCell ⟨w.heap.size, 5, none⟩ (.string ⟨#[]⟩)).setCell ⟨w.heap.size, 6, none⟩ (.string ⟨#[]⟩)).setCell ⟨w.heap.size, 7, none⟩ (.int .u8 0)).setCell ⟨w.heap.size, 8, none⟩ (.int .u8 0)) := ((((((((((Fr.refl (eqB (w.heap.size)) W)).setCell (p := ⟨w.heap.size, 0, none⟩) (Or.inl rfl) (.int .u64 0)).setCell (p := ⟨w.heap.size, 1, none⟩) (Or.inl rfl) (.int .u64 0)).setCell (p := ⟨w.heap.size, 2, none⟩) (Or.inl rfl) (.int .u8 0)).setCell (p := ⟨w.heap.size, 3, none⟩) (Or.inl rfl) (.int .u64 0)).setCell (p := ⟨w.heap.size, 4, none⟩) (Or.inl rfl) (.int .u8 0)).setCell (p := ⟨w.heap.size, 5, none⟩) (Or.inl rfl) (.string ⟨#[]⟩)).setCell (p := ⟨w.heap.size, 6, none⟩) (Or.inl rfl) (.string ⟨#[]⟩)).setCell (p := ⟨w.heap.size, 7, none⟩) (Or.inl rfl) (.int .u8 0)).setCell (p := ⟨w.heap.size, 8, none⟩) (Or.inl rfl) (.int .u8 0)
        have hn0 : BlkAt (((((((((W.setCell ⟨w.heap.size, 0, none⟩ (.int .u64 0)).setCell ⟨w.heap.size, 1, none⟩ (.int .u64 0)).setCell ⟨w.heap.size, 2, none⟩ (.int .u8 0)).setCell ⟨w.heap.size, 3, none⟩ (.int .u64 0)).setCell ⟨w.heap.size, 4, none⟩ (.int .u8 0)).setCell ⟨w.heap.size, 5, none⟩ (.string ⟨#[]⟩)).setCell ⟨w.heap.size, 6, none⟩ (.string ⟨#[]⟩)).setCell ⟨w.heap.size, 7, none⟩ (.int .u8 0)).setCell ⟨w.heap.size, 8, none⟩ (.int .u8 0)) (w.heap.size) 58 #[.int .u64 0, .int .u64 0, .int .u8 0, .int .u64 0, .int .u8 0, .string ⟨#[]⟩, .string ⟨#[]⟩, .int .u8 0, .int .u8 0] := (((((((((hz0).set 0 (.int .u64 0)).set 1 (.int .u64 0)).set 2 (.int .u8 0)).set 3 (.int .u64 0)).set 4 (.int .u8 0)).set 5 (.string ⟨#[]⟩)).set 6 (.string ⟨#[]⟩)).set 7 (.int .u8 0)).set 8 (.int .u8 0)
        go_wp2_with fail
        exact hK undef _ fs ⟨hC.1.then' fs, (hC.2.1).fr fs (by unfold eqB; omega), hn0⟩ trivial
      · rw [if_neg (by decide)]; intro kq
        exact calm_mv 54 rfl rfl (Or.inr rfl) (Fr.refl _) (by decide) fun v w hd => hd
    · intro vs w9 fw9 cw9 hV
      have v52 : vs 0 = _ := hV 0 _ _ rfl rfl (by decide)
      have v53 : vs 1 = _ := hV 1 _ _ rfl rfl (by decide)
      have v54 : vs 2 = _ := hV 2 _ _ rfl rfl (by decide)
      have v3 : vs 4 = _ := hV 4 _ _ rfl rfl (by decide)
      clear hV
      replace hbr : BlkAt w9 (p) 71 #[.string (mkS b5), .int .i64 x5] := cw9.2.1
      replace hb2 : BlkAt w9 (w.heap.size) 58 #[.int .u64 0, .int .u64 0, .int .u8 0, .int .u64 0, .int .u8 0, .string ⟨#[]⟩, .string ⟨#[]⟩, .int .u8 0, .int .u8 0] := cw9.2.2
      replace F2 := F2.trans fw9 (fun i hi h => by unfold eqB at h; omega)
      clear cw9
      simp only [putL, Act.put, Nat.reduceAdd, List.setIfInBounds_toArray, List.set_cons_zero, List.set_cons_succ, v52, v53, v54, v3]
      obtain ⟨z0, z1, z2, z3, z4, z5, z6, z7, z8, zf⟩ := BlkAt.c9 hb2
      go_wp2_with fail
      have hr := HRES.out
      exact bodyPost_ret (v := .tuple #[zeroE.v, .int .i64 x5]) (by simp [results, hr, go_sem, zeroE, zeroOp, EnV.v, z0, z1, z2, z3, z4, z5, z6, z7, z8]) rfl ⟨by rw [HR.out] <;> rfl, F2⟩
end Go.Proofs.YtdngcheimohamaaDoor
/- interrexlaw17.Ref, interrexlaw19.Ref (as in XLogR1, for a seat without logs); interrexlaw19.lives, little. -/
namespace Go.Proofs.YtdngcheimohamaaDoor
open Go.RowKit
set_option maxRecDepth 100000 in
theorem ref17_calls (w : World) (cl num k on or : Nat) (oa ob : ByteArray) : Calls Tryd.prog 46 #[.agg #[.int .u8 cl, .int .u64 num, .int .u8 k, .string oa, .string ob, .int .u8 on, .int .u8 or]] w (fun e w' => e = .returned (.agg #[.int .u8 cl, .int .u64 num, .int .u8 k, .string oa, .string ob, .int .u8 on, .int .u8 or]) ∧ Fr noB w w') := by
  have f0 : Fr noB w ((w.alloc (.cells #[.int .u8 cl, .int .u64 num, .int .u8 k, .string oa, .string ob, .int .u8 on, .int .u8 or] 47)).alloc (.cells #[.int .u8 0, .int .u64 0, .int .u8 0, .string ⟨#[]⟩, .string ⟨#[]⟩, .int .u8 0, .int .u8 0] 56)) := ((Fr.refl noB w).alloc _).alloc _
  have hb0 : BlkAt ((w.alloc (.cells #[.int .u8 cl, .int .u64 num, .int .u8 k, .string oa, .string ob, .int .u8 on, .int .u8 or] 47)).alloc (.cells #[.int .u8 0, .int .u64 0, .int .u8 0, .string ⟨#[]⟩, .string ⟨#[]⟩, .int .u8 0, .int .u8 0] 56)) w.heap.size 47 #[.int .u8 cl, .int .u64 num, .int .u8 k, .string oa, .string ob, .int .u8 on, .int .u8 or] := (BlkAt.new _ _ _).al _
  have hb1 : BlkAt ((w.alloc (.cells #[.int .u8 cl, .int .u64 num, .int .u8 k, .string oa, .string ob, .int .u8 on, .int .u8 or] 47)).alloc (.cells #[.int .u8 0, .int .u64 0, .int .u8 0, .string ⟨#[]⟩, .string ⟨#[]⟩, .int .u8 0, .int .u8 0] 56)) (w.heap.size + 1) 56 #[.int .u8 0, .int .u64 0, .int .u8 0, .string ⟨#[]⟩, .string ⟨#[]⟩, .int .u8 0, .int .u8 0] := by
    have := BlkAt.new (w.alloc (.cells #[.int .u8 cl, .int .u64 num, .int .u8 k, .string oa, .string ob, .int .u8 on, .int .u8 or] 47)) #[.int .u8 0, .int .u64 0, .int .u8 0, .string ⟨#[]⟩, .string ⟨#[]⟩, .int .u8 0, .int .u8 0] 56
    rwa [al_size] at this
  have hr : Hid (Tryd.f46.results = #[.cell 2 56]) := by unfold Hid; kernel_rfl
  go_enter Tryd.func46, Tryd.ntmps46
  go_upto_region 1 with fail
  generalize ((w.alloc (.cells #[.int .u8 cl, .int .u64 num, .int .u8 k, .string oa, .string ob, .int .u8 on, .int .u8 or] 47)).alloc (.cells #[.int .u8 0, .int .u64 0, .int .u8 0, .string ⟨#[]⟩, .string ⟨#[]⟩, .int .u8 0, .int .u8 0] 56)) = wa at *
  obtain ⟨x0, x1, x2, x3, x4, x5, x6, xf⟩ := BlkAt.c7 hb0
  obtain ⟨y0, y1, y2, y3, y4, y5, y6, yf⟩ := BlkAt.c7 hb1
  go_wp2_with fail
  have hr := hr.out
  have FF : Fr noB w _ := f0.trans ((((((((Fr.refl (eqB (w.heap.size + 1)) wa).setCell (p := ⟨w.heap.size + 1, 0, none⟩) (Or.inl rfl) (.int .u8 cl)).setCell (p := ⟨w.heap.size + 1, 1, none⟩) (Or.inl rfl) (.int .u64 num)).setCell (p := ⟨w.heap.size + 1, 2, none⟩) (Or.inl rfl) (.int .u8 k)).setCell (p := ⟨w.heap.size + 1, 3, none⟩) (Or.inl rfl) (.string oa)).setCell (p := ⟨w.heap.size + 1, 4, none⟩) (Or.inl rfl) (.string ob)).setCell (p := ⟨w.heap.size + 1, 5, none⟩) (Or.inl rfl) (.int .u8 on)).setCell (p := ⟨w.heap.size + 1, 6, none⟩) (Or.inl rfl) (.int .u8 or)) (fun i hi h => by unfold eqB at h; omega)
  exact bodyPost_ret (v := .agg #[.int .u8 cl, .int .u64 num, .int .u8 k, .string oa, .string ob, .int .u8 on, .int .u8 or]) (by simp [results, hr, go_sem, y0, y1, y2, y3, y4, y5, y6]) rfl ⟨rfl, FF⟩

def RefC (q0 q1 : Nat) (E Z F : Array Value) : Nat → World → Prop
  | 0, W => BlkAt W q0 49 E ∧ BlkAt W q1 58 Z
  | _, W => BlkAt W q0 49 E ∧ BlkAt W q1 58 F
theorem RefC.fr0 {q0 q1 : Nat} {E Z F : Array Value} {q : Nat} {W W' : World} (h : RefC q0 q1 E Z F q W) (f : Fr noB W W') : RefC q0 q1 E Z F q W' := by
  match q, h with
  | 0, h => exact ⟨h.1.fr f id, h.2.fr f id⟩
  | q + 1, h => exact ⟨h.1.fr f id, h.2.fr f id⟩
theorem RefC.fst {q0 q1 : Nat} {E Z F : Array Value} {q : Nat} {W : World} (h : RefC q0 q1 E Z F q W) : BlkAt W q0 49 E := by
  match q, h with
  | 0, h => exact h.1
  | q + 1, h => exact h.1
theorem BlkAt.set9 {w : World} {b : Nat} {T : TypeId} {v0 v1 v2 v3 v4 v5 v6 v7 v8 : Value} (h : BlkAt w b T #[v0, v1, v2, v3, v4, v5, v6, v7, v8]) (u0 u1 u2 u3 u4 u5 u6 u7 u8 : Value) : BlkAt (((((((((w.setCell ⟨b, 0, none⟩ u0).setCell ⟨b, 1, none⟩ u1).setCell ⟨b, 2, none⟩ u2).setCell ⟨b, 3, none⟩ u3).setCell ⟨b, 4, none⟩ u4).setCell ⟨b, 5, none⟩ u5).setCell ⟨b, 6, none⟩ u6).setCell ⟨b, 7, none⟩ u7).setCell ⟨b, 8, none⟩ u8) b T #[u0, u1, u2, u3, u4, u5, u6, u7, u8] := by
  have := (((((((((h.set 0 u0).set 1 u1).set 2 u2).set 3 u3).set 4 u4).set 5 u5).set 6 u6).set 7 u7).set 8 u8)
  simpa using this
set_option maxRecDepth 100000 in
set_option maxHeartbeats 1600000 in
theorem ref19_calls (w : World) (e : EnV) : Calls Tryd.prog 19 #[e.v] w (fun ed w' => ed = .returned e.v ∧ Fr noB w w') := by
  obtain ⟨op, view, cl, num, ⟨k, oa, ob, on, or⟩⟩ := e
  unfold EnV.v
  simp only []
  have hrq := fun W => ref17_calls W cl num k on or oa ob
  have f0 : Fr noB w ((w.alloc (.cells #[.int .u64 op, .int .u64 view, .int .u8 cl, .int .u64 num, .int .u8 k, .string oa, .string ob, .int .u8 on, .int .u8 or] 49)).alloc (.cells #[.int .u64 0, .int .u64 0, .int .u8 0, .int .u64 0, .int .u8 0, .string ⟨#[]⟩, .string ⟨#[]⟩, .int .u8 0, .int .u8 0] 58)) := ((Fr.refl noB w).alloc _).alloc _
  have hb0 : BlkAt ((w.alloc (.cells #[.int .u64 op, .int .u64 view, .int .u8 cl, .int .u64 num, .int .u8 k, .string oa, .string ob, .int .u8 on, .int .u8 or] 49)).alloc (.cells #[.int .u64 0, .int .u64 0, .int .u8 0, .int .u64 0, .int .u8 0, .string ⟨#[]⟩, .string ⟨#[]⟩, .int .u8 0, .int .u8 0] 58)) w.heap.size 49 #[.int .u64 op, .int .u64 view, .int .u8 cl, .int .u64 num, .int .u8 k, .string oa, .string ob, .int .u8 on, .int .u8 or] := (BlkAt.new _ _ _).al _
  have hb1 : BlkAt ((w.alloc (.cells #[.int .u64 op, .int .u64 view, .int .u8 cl, .int .u64 num, .int .u8 k, .string oa, .string ob, .int .u8 on, .int .u8 or] 49)).alloc (.cells #[.int .u64 0, .int .u64 0, .int .u8 0, .int .u64 0, .int .u8 0, .string ⟨#[]⟩, .string ⟨#[]⟩, .int .u8 0, .int .u8 0] 58)) (w.heap.size + 1) 58 #[.int .u64 0, .int .u64 0, .int .u8 0, .int .u64 0, .int .u8 0, .string ⟨#[]⟩, .string ⟨#[]⟩, .int .u8 0, .int .u8 0] := by
    have := BlkAt.new (w.alloc (.cells #[.int .u64 op, .int .u64 view, .int .u8 cl, .int .u64 num, .int .u8 k, .string oa, .string ob, .int .u8 on, .int .u8 or] 49)) #[.int .u64 0, .int .u64 0, .int .u8 0, .int .u64 0, .int .u8 0, .string ⟨#[]⟩, .string ⟨#[]⟩, .int .u8 0, .int .u8 0] 58
    rwa [al_size] at this
  have hr : Hid (Tryd.f19.results = #[.cell 2 58]) := by unfold Hid; kernel_rfl
  go_enter Tryd.func19, Tryd.ntmps19
  go_upto_region 1 with fail
  generalize ((w.alloc (.cells #[.int .u64 op, .int .u64 view, .int .u8 cl, .int .u64 num, .int .u8 k, .string oa, .string ob, .int .u8 on, .int .u8 or] 49)).alloc (.cells #[.int .u64 0, .int .u64 0, .int .u8 0, .int .u64 0, .int .u8 0, .string ⟨#[]⟩, .string ⟨#[]⟩, .int .u8 0, .int .u8 0] 58)) = wa at *
  apply wp_region_calm (R := Fr (eqB (w.heap.size + 1))) (C := fun q W => Fr (eqB (w.heap.size + 1)) wa W ∧ RefC w.heap.size (w.heap.size + 1) #[.int .u64 op, .int .u64 view, .int .u8 cl, .int .u64 num, .int .u8 k, .string oa, .string ob, .int .u8 on, .int .u8 or] #[.int .u64 0, .int .u64 0, .int .u8 0, .int .u64 0, .int .u8 0, .string ⟨#[]⟩, .string ⟨#[]⟩, .int .u8 0, .int .u8 0] #[.int .u64 op, .int .u64 view, .int .u8 cl, .int .u64 num, .int .u8 k, .string oa, .string ob, .int .u8 on, .int .u8 or] q W) [false, false, false, false, false, false, false, false, true]
    [eqv _, eqv _, eqv _, eqv _, eqv _, eqv _, eqv _, eqv _, anyv]
    (by kernel_rfl) (by kernel_rfl) (fun _ _ _ h1 h2 => h1.then' h2) ((Fr.refl _ _).drew) ⟨(Fr.refl _ _).drew, hb0, hb1⟩ (by kernel_rfl)
  · refine ⟨?_, ?_, ?_, ?_, ?_, ?_, ?_, ?_, ?_, trivial⟩
    · rw [if_neg (by decide)]; intro kq
      intro a W K hC hd hK
      have d1 : a.tmps[1]?.getD undef = .pointer (some ⟨w.heap.size, 0, none⟩) := hd 1 (by decide)
      refine wpOp_plain rfl rfl ?_
      obtain ⟨x0, x1, x2, x3, x4, x5, x6, x7, x8, xf⟩ := BlkAt.c9 hC.2.fst
      go_wp2_with fail
      exact hK _ _ (Fr.refl _ _) hC rfl
    · rw [if_neg (by decide)]; intro kq
      intro a W K hC hd hK
      have d3 : _ = _ := hd 3 (by decide)
      refine wpOp_plain rfl rfl ?_
      obtain ⟨x0, x1, x2, x3, x4, x5, x6, x7, x8, xf⟩ := BlkAt.c9 hC.2.fst
      go_wp2_with fail
      exact hK _ _ (Fr.refl _ _) hC rfl
    · rw [if_neg (by decide)]; intro kq
      intro a W K hC hd hK
      have d1 : a.tmps[1]?.getD undef = .pointer (some ⟨w.heap.size, 0, none⟩) := hd 1 (by decide)
      refine wpOp_plain rfl rfl ?_
      obtain ⟨x0, x1, x2, x3, x4, x5, x6, x7, x8, xf⟩ := BlkAt.c9 hC.2.fst
      go_wp2_with fail
      exact hK _ _ (Fr.refl _ _) hC rfl
    · rw [if_neg (by decide)]; intro kq
      intro a W K hC hd hK
      have d5 : _ = _ := hd 5 (by decide)
      refine wpOp_plain rfl rfl ?_
      obtain ⟨x0, x1, x2, x3, x4, x5, x6, x7, x8, xf⟩ := BlkAt.c9 hC.2.fst
      go_wp2_with fail
      exact hK _ _ (Fr.refl _ _) hC rfl
    · rw [if_neg (by decide)]; intro kq
      intro a W K hC hd hK
      have d1 : a.tmps[1]?.getD undef = .pointer (some ⟨w.heap.size, 0, none⟩) := hd 1 (by decide)
      refine wpOp_plain rfl rfl ?_
      obtain ⟨x0, x1, x2, x3, x4, x5, x6, x7, x8, xf⟩ := BlkAt.c9 hC.2.fst
      go_wp2_with fail
      exact hK _ _ (Fr.refl _ _) hC rfl
    · rw [if_neg (by decide)]; intro kq
      intro a W K hC hd hK
      have d7 : _ = _ := hd 7 (by decide)
      refine wpOp_plain rfl rfl ?_
      obtain ⟨x0, x1, x2, x3, x4, x5, x6, x7, x8, xf⟩ := BlkAt.c9 hC.2.fst
      go_wp2_with fail
      exact hK _ _ (Fr.refl _ _) hC rfl
    · rw [if_neg (by decide)]; intro kq
      intro a W K hC hd hK
      have d8 : _ = _ := hd 8 (by decide)
      refine wpOp_plain rfl rfl ?_
      obtain ⟨x0, x1, x2, x3, x4, x5, x6, x7, x8, xf⟩ := BlkAt.c9 hC.2.fst
      go_wp2_with fail
      refine (hrq W).mono ?_
      rintro e9 w9 ⟨rfl, f9⟩
      exact hK _ _ (f9.mono fun _ _ h => h.elim) ⟨hC.1.then' (f9.mono fun _ _ h => h.elim), hC.2.fr0 f9⟩ rfl
    · rw [if_neg (by decide)]; intro kq
      intro a W K hC hd hK
      have d4 : _ = _ := hd 4 (by decide)
      have d6 : _ = _ := hd 6 (by decide)
      have d9 : _ = _ := hd 9 (by decide)
      refine wpOp_plain rfl rfl ?_
      go_wp2_with fail
      exact hK _ _ (Fr.refl _ _) hC rfl
    · rw [if_pos (by decide)]
      intro a W K hC hd hK
      replace hC : (fun q W => Fr (eqB (w.heap.size + 1)) wa W ∧ RefC w.heap.size (w.heap.size + 1) #[.int .u64 op, .int .u64 view, .int .u8 cl, .int .u64 num, .int .u8 k, .string oa, .string ob, .int .u8 on, .int .u8 or] #[.int .u64 0, .int .u64 0, .int .u8 0, .int .u64 0, .int .u8 0, .string ⟨#[]⟩, .string ⟨#[]⟩, .int .u8 0, .int .u8 0] #[.int .u64 op, .int .u64 view, .int .u8 cl, .int .u64 num, .int .u8 k, .string oa, .string ob, .int .u8 on, .int .u8 or] q W) 0 W := hC
      have d2 : a.tmps[2]?.getD undef = .pointer (some ⟨w.heap.size + 1, 0, none⟩) := hd 2 (by decide)
      have d10 : _ = _ := hd 10 (by decide)
      refine wpOp_plain rfl rfl ?_
      obtain ⟨x0, x1, x2, x3, x4, x5, x6, x7, x8, xf⟩ := BlkAt.c9 hC.2.fst
      have hz := hC.2.2
      obtain ⟨y0, y1, y2, y3, y4, y5, y6, y7, y8, yf⟩ := BlkAt.c9 hz
      have fs := fr_set9 W (w.heap.size + 1) (.int .u64 op) (.int .u64 view) (.int .u8 cl) (.int .u64 num) (.int .u8 k) (.string oa) (.string ob) (.int .u8 on) (.int .u8 or)
      have hset := BlkAt.set9 hz (.int .u64 op) (.int .u64 view) (.int .u8 cl) (.int .u64 num) (.int .u8 k) (.string oa) (.string ob) (.int .u8 on) (.int .u8 or)
      go_wp2_with fail
      exact hK undef _ fs ⟨hC.1.then' fs, hC.2.1.fr fs (by unfold eqB; omega), hset⟩ trivial
  · intro vs w8 fw8 cw8 hV
    have v3 : vs 0 = _ := hV 0 _ _ rfl rfl (by decide)
    have v4 : vs 1 = _ := hV 1 _ _ rfl rfl (by decide)
    have v5 : vs 2 = _ := hV 2 _ _ rfl rfl (by decide)
    have v6 : vs 3 = _ := hV 3 _ _ rfl rfl (by decide)
    have v7 : vs 4 = _ := hV 4 _ _ rfl rfl (by decide)
    have v8 : vs 5 = _ := hV 5 _ _ rfl rfl (by decide)
    have v9 : vs 6 = _ := hV 6 _ _ rfl rfl (by decide)
    have v10 : vs 7 = _ := hV 7 _ _ rfl rfl (by decide)
    clear hV
    simp only [putL, Act.put, Nat.reduceAdd, List.setIfInBounds_toArray, List.set_cons_zero, List.set_cons_succ, v3, v4, v5, v6, v7, v8, v9, v10]
    obtain ⟨y0, y1, y2, y3, y4, y5, y6, y7, y8, yf⟩ := BlkAt.c9 cw8.2.2
    go_wp2_with fail
    have hr := hr.out
    exact bodyPost_ret (v := .agg #[.int .u64 op, .int .u64 view, .int .u8 cl, .int .u64 num, .int .u8 k, .string oa, .string ob, .int .u8 on, .int .u8 or]) (by simp [results, hr, go_sem, y0, y1, y2, y3, y4, y5, y6, y7, y8]) rfl ⟨rfl, f0.trans fw8 (fun i hi h => by unfold eqB at h; omega)⟩
theorem opUpE_wf : (⟨15, ⟨#[]⟩, ⟨#[]⟩, 0, 0⟩ : OpV).wf := ⟨by decide, by decide, by decide⟩
def upE : EnV := ⟨1, 0, 2, 1, ⟨15, ⟨#[]⟩, ⟨#[]⟩, 0, 0⟩⟩
theorem upE_wf : upE.wf := ⟨by decide, by decide, by decide, by decide, opUpE_wf⟩
theorem upE_ok : checkE upE = 0 := by
  have hb : bareB ⟨15, ⟨#[]⟩, ⟨#[]⟩, 0, 0⟩ = true := (bareB_iff (by decide)).2 (by unfold badR; decide)
  have hz : zOf ⟨15, ⟨#[]⟩, ⟨#[]⟩, 0, 0⟩ = [] := rfl
  have hc : checkV ⟨15, ⟨#[]⟩, ⟨#[]⟩, 0, 0⟩ = 0 := by
    unfold checkV
    rw [if_neg (by decide), if_neg (by rw [hb]; decide), hz, if_neg (by decide), if_neg (by decide), if_neg (by decide)]
  unfold checkE upE
  simp only []
  rw [if_neg (by decide), if_neg (by decide), if_neg (by decide), hc]
theorem upE_B : enB upE = [1, 0, 0, 0, 0, 0, 0, 0, 0, 0, 0, 0, 0, 0, 0, 0, 2, 1, 0, 0, 0, 0, 0, 0, 0, 1, 0, 15] := by
  have h : writeB upE.o (zOf upE.o) = [15] := by unfold upE; rfl
  unfold enB
  rw [h]
  rfl
set_option maxRecDepth 100000 in
set_option maxHeartbeats 1600000 in
theorem lives19_calls (w : World) (ht : SignsAt w) : Calls Tryd.prog 15 #[] w (BoolPost w true) := by
  have hb := enBytesOk_calls w upE ht upE_wf upE_ok
  rw [upE_B] at hb
  unfold upE EnV.v BytesEPost at hb
  simp only [] at hb
  go_enter Tryd.func15, Tryd.ntmps15
  go_wp2_with fail
  refine hb.mono ?_
  rintro e w1 ⟨A, c, rfl, h1, f1⟩
  have hrow := own_row h1
  obtain ⟨a, rfl⟩ := hrow.some_of (by simp [bcells])
  have q0 : w1.cell? (a.add 0) = some (.int .u8 1) := hrow.cell (j := 0) rfl
  have q00 : w1.cell? a = some (.int .u8 1) := by simpa [Addr.add] using q0
  have q1 : w1.cell? ⟨a.block, a.off + 16, none⟩ = some (.int .u8 2) := by simpa [Addr.add] using hrow.cell (j := 16) (u := .int .u8 2) rfl
  have q2 : w1.cell? ⟨a.block, a.off + 17, none⟩ = some (.int .u8 1) := by simpa [Addr.add] using hrow.cell (j := 17) (u := .int .u8 1) rfl
  have q3 : w1.cell? ⟨a.block, a.off + 25, none⟩ = some (.int .u8 1) := by simpa [Addr.add] using hrow.cell (j := 25) (u := .int .u8 1) rfl
  have q4 : w1.cell? ⟨a.block, a.off + 27, none⟩ = some (.int .u8 15) := by simpa [Addr.add] using hrow.cell (j := 27) (u := .int .u8 15) rfl
  clear hb h1 hrow
  go_wp2_with fail
  go_ret
  exact BoolPost.mk' rfl f1
end Go.Proofs.YtdngcheimohamaaDoor
/- Entries compared. -/
namespace Go.Proofs.YtdngcheimohamaaDoor
open Go.RowKit
theorem bytes_list (s t : ByteArray) : (s.toList = t.toList) = (s = t) := by
  have := str_eq s t
  apply propext
  constructor
  · intro h; rw [h] at this; simpa using this.symm
  · intro h; rw [h]
theorem nat_int (a b : Nat) : ((a : Int) = b) = (a = b) := propext ⟨fun h => by omega, fun h => by omega⟩
open Classical in
theorem enNeq (w : World) (e f : EnV) : (binOp .neq 49 e.v f.v).run Tryd.prog w = .ok (.bool (!decide (e = f))) w := by
  have h1 : Tryd.prog.stoodInHeld 49 = false := by kernel_rfl
  have h2 : Tryd.prog.underlying 49 = some (.struct (Tryd.prog.fieldsOf 49)) := by kernel_rfl
  have g1 : Tryd.prog.stoodInHeld 47 = false := by kernel_rfl
  have g2 : Tryd.prog.underlying 47 = some (.struct (Tryd.prog.fieldsOf 47)) := by kernel_rfl
  have k1 : Tryd.prog.stoodInHeld 24 = false := by kernel_rfl
  have k2 : Tryd.prog.underlying 24 = some (.struct (Tryd.prog.fieldsOf 24)) := by kernel_rfl
  unfold EnV.v
  rw [run_neq_struct, run_equalIn_struct w 9999 _ _ _ h2 h1]
  simp only [Program.fieldsOf, Tryd.underlying49]
  simp [go_sem]
  simp only [bytes_list, nat_int]
  by_cases h : e = f
  · subst h; simp
  · simp only [h, decide_false, Bool.not_false]
    repeat' split
    all_goals first | rfl | (exfalso; apply h; rw [EnV.eq_iff, OpV.eq_iff]; simp_all)
open Classical in
theorem enNeqR (w : World) (e f : EnV) : (binOp .neq 58 e.v f.v).run Tryd.prog w = .ok (.bool (!decide (e = f))) w := by
  have h1 : Tryd.prog.stoodInHeld 58 = false := by kernel_rfl
  have h2 : Tryd.prog.underlying 58 = some (.struct (Tryd.prog.fieldsOf 58)) := by kernel_rfl
  have g1 : Tryd.prog.stoodInHeld 56 = false := by kernel_rfl
  have g2 : Tryd.prog.underlying 56 = some (.struct (Tryd.prog.fieldsOf 56)) := by kernel_rfl
  have k1 : Tryd.prog.stoodInHeld 54 = false := by kernel_rfl
  have k2 : Tryd.prog.underlying 54 = some (.struct (Tryd.prog.fieldsOf 54)) := by kernel_rfl
  unfold EnV.v
  rw [run_neq_struct, run_equalIn_struct w 9999 _ _ _ h2 h1]
  simp only [Program.fieldsOf, Tryd.underlying58]
  simp [go_sem]
  simp only [bytes_list, nat_int]
  by_cases h : e = f
  · subst h; simp
  · simp only [h, decide_false, Bool.not_false]
    repeat' split
    all_goals first | rfl | (exfalso; apply h; rw [EnV.eq_iff, OpV.eq_iff]; simp_all)
theorem Tryd.gE : Tryd.prog.eqGuardType Tryd.prog.depth 49 = false := by kernel_rfl
theorem Tryd.gR : Tryd.prog.eqGuardType Tryd.prog.depth 58 = false := by kernel_rfl
end Go.Proofs.YtdngcheimohamaaDoor
/- interrexlaw14.OpReads: the walk. -/
namespace Go.Proofs.YtdngcheimohamaaDoor
open Go.RowKit

open Classical in
theorem opNeqR (w : World) (o : OpV) : (binOp .neq 54 (.agg #[.int .u8 o.k, .string o.a, .string o.b, .int .u8 o.n, .int .u8 o.r]) (.agg #[.int .u8 o.k, .string o.a, .string o.b, .int .u8 o.n, .int .u8 o.r])).run Tryd.prog w = .ok (.bool false) w := by
  have h1 : Tryd.prog.stoodInHeld 54 = false := by kernel_rfl
  have h2 : Tryd.prog.underlying 54 = some (.struct (Tryd.prog.fieldsOf 54)) := by kernel_rfl
  rw [run_neq_struct, run_equalIn_struct w 9999 _ _ _ h2 h1]
  simp only [Program.fieldsOf, Tryd.underlying54]
  simp [go_sem]
theorem opEqR (w : World) (o : OpV) : (binOp .eql 24 (.agg #[.int .u8 o.k, .string o.a, .string o.b, .int .u8 o.n, .int .u8 o.r]) (.agg #[.int .u8 o.k, .string o.a, .string o.b, .int .u8 o.n, .int .u8 o.r])).run Tryd.prog w = .ok (.bool true) w := by
  have h1 : Tryd.prog.stoodInHeld 24 = false := by kernel_rfl
  have h2 : Tryd.prog.underlying 24 = some (.struct (Tryd.prog.fieldsOf 24)) := by kernel_rfl
  rw [run_eql_struct, run_equalIn_struct w 9999 _ _ _ h2 h1]
  simp only [Program.fieldsOf, Tryd.underlying24]
  simp [go_sem]
theorem opRead_err {bs : List UInt8} (h : (opRead bs).2 ≠ 0) : (opRead bs).1 = zeroOp := by
  unfold opRead at *
  split
  · rfl
  · split
    · rfl
    · split
      · rename_i h1 h2 h3; rw [if_neg h1, if_neg h2, if_pos h3] at h; exact absurd rfl h
      · rfl
theorem zeroOp_wf : zeroOp.wf := ⟨by decide, by decide, by decide⟩
theorem zeroOp_ok : checkV zeroOp = 0 := by
  have hb : bareB zeroOp = true := (bareB_iff (by decide)).2 (by unfold badR; decide)
  have hz : zOf zeroOp = [97, 98] := rfl
  unfold checkV
  rw [if_neg (by decide), if_neg (by rw [hb]; decide), hz, if_neg (by decide), if_neg (by decide), if_neg (by decide)]

end Go.Proofs.YtdngcheimohamaaDoor
/- interrexlaw14.OpBytes: the walk. -/
namespace Go.Proofs.YtdngcheimohamaaDoor
open Go.RowKit

theorem own_nil {w : World} {base n : Nat} {e : TypeId} {size : Nat} {A : Option Addr} {m c : Nat} {xs : List Value} (h : w.ownsRow base e size (.slice A m c) n xs) : A = none → m = 0 ∧ c = 0 := by
  rintro rfl
  rcases h.2 with ⟨e1, _⟩ | ⟨g, cap, cur, e1, _⟩
  · injection e1 with _ h1 h2; exact ⟨h1, h2⟩
  · injection e1 with h1; cases h1
end Go.Proofs.YtdngcheimohamaaDoor
