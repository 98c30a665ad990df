/- Contracts, several texts in one. -/
import Derived.Test.YtnkdlmmdaagonaaDev8
import Derived.Test.YtnkdlmmdaagonaaSeg
import Derived.RangeFuncNested
import Derived.RangeFuncBound
import Derived.RangeFuncCalls
import Derived.RangeFuncLeaves
import Derived.Shelf.Abstract
import Derived.Shelf.RegionOpen
import Derived.WalkKit
import Derived.OwnWalkIn
import Derived.TacticsInMore
import Derived.LoopNIn
import Derived.LoopIn
import Derived.Test.YtnkdlmmdaagonaaClone
import Derived.ControlIn
/- block.Device: a range over slices.Backward. -/
namespace Go.Proofs.Ytnkdlmmdaagonaa
open Go.RowKit Go.Shelf
attribute [local go_sem] Oper.semAt_some
set_option maxRecDepth 100000 in
theorem backwardW_calls (w : World) (A : Option Addr) (n c : Nat) : Calls Try.prog 48 #[.slice A n c] w (fun e w' => e = .returned (.func (.func 73) #[] #[.pointer (some ⟨w.heap.size, 0, none⟩)]) ∧ w' = w.alloc (.cells #[.slice A n c] 85)) := by
  have hmf : ∀ (fn : Fn) (first cap : Array Value) (w : World), (Instr.makeFunc fn first cap).run Try.prog w = .ok (.func fn first cap) w := fun _ _ _ _ => rfl
  go_enter Try.func48, Try.ntmps48
  go_wp2_with fail
  go_ret
  exact ⟨rfl, rfl⟩
section
variable {E : Type} (fi : E → Nat) (fv : E → Value) (z : E)
def wC (x : E) : List Value := [.int .i64 (fi x : Nat), fv x]
def backW (es : List E) (k : Nat) : List (Nat × E) := (List.range k).map fun j => (es.length - 1 - j, es.getD (es.length - 1 - j) z)
theorem backW_succ (es : List E) (k : Nat) : backW z es (k + 1) = backW z es k ++ [(es.length - 1 - k, es.getD (es.length - 1 - k) z)] := by simp [backW, List.range_succ]
theorem backW_length (es : List E) (k : Nat) : (backW z es k).length = k := by simp [backW]
def encW (x : Nat × E) : Array Value := #[.int .i64 (x.1 : Int), .agg #[.int .i64 (fi x.2 : Nat), fv x.2]]
set_option maxRecDepth 100000 in
set_option maxHeartbeats 2000000 in
theorem backW1_in (F : Fence) (m : Nat) (hF : F.fn 73) (hro : F.round = none) (hm : 1 ≤ m) (l Bs n₀ n c : Nat) (A : Option Addr) (es : List E) (HN : Hid (es.length = n)) (hn : n ≤ 1000000) (hb : Bs < n₀) (hlow : ∀ ad, A = some ad → ad.block < n₀)
    (J Jx : List (Nat × E) → World → Prop)
    (hY : ∀ pre x W, J pre W → pre.length < n → YieldAt F (m - 1) Try.prog l (encW fi fv x) W fun e W' =>
      (e = .returned (.bool true) ∧ J (pre ++ [x]) W' ∧ Below n₀ W W') ∨ (e = .returned (.bool false) ∧ Jx (pre ++ [x]) W'))
    (W : World) (hBs : W.cell? ⟨Bs, 0, none⟩ = some (.slice A n c)) (hc : RowAt W A (es.flatMap (wC fi fv))) (h0 : J [] W) :
    CallsIn F m Try.prog 73 #[.func (.yield l) #[] #[], .pointer (some ⟨Bs, 0, none⟩)] W fun e W' => (∃ v, e = .returned v) ∧
      ((∃ ys, ys = backW z es n ∧ J ys W') ∨ (∃ pre, (∃ k, k ≤ n ∧ pre = backW z es k) ∧ Jx pre W')) := by
  refine callsIn_of_wp Try.func73 rfl hF ?_ hro
  simp only [Try.ntmps73, List.size_toArray, List.length_cons, List.length_nil, Nat.reduceAdd, Nat.reduceSub, Array.replicate_succ, Array.replicate_zero, List.push_toArray, List.append_toArray, List.nil_append, List.cons_append]
  gi_wp2
  gi_loopw [3] (fun i wr => ∃ k : Nat, k ≤ n ∧ i = .int .i64 ((n : Int) - 1 - k) ∧ J (backW z es k) wr ∧ Below n₀ W wr)
    (fun i _ => (intOf i + 1).toNat)
  case atStart => exact ⟨0, Nat.zero_le _, by simp, h0, Below.refl _ _⟩
  case round =>
    obtain ⟨k, hk, rfl, hJs, hnx⟩ := hrel
    have hBs' : wr.cell? ⟨Bs, 0, none⟩ = some (.slice A n c) := (hnx.cell (p := ⟨Bs, 0, none⟩) hb).trans hBs
    by_cases hlt : k < n
    · obtain ⟨j, hj⟩ : ∃ j, n - 1 - k = j := ⟨_, rfl⟩
      obtain ⟨e, he⟩ : ∃ e, es[j]? = some e := ⟨_, List.getElem?_eq_getElem (by rw [HN.out]; omega)⟩
      have HX : Hid ((es.length - 1 - k, es.getD (es.length - 1 - k) z) = (j, e)) := by
        unfold Hid; rw [HN.out, hj, List.getD_eq_getElem?_getD, he]; rfl
      obtain ⟨fn, tmps, assign, body, hy, hR⟩ := hY _ (j, e) wr hJs (by rw [backW_length]; exact hlt)
      have HJ := hid (backW_succ z es k)
      rw [HX.out] at HJ
      obtain ⟨ad, rfl⟩ := hc.some_flat (by simp [wC]) he
      have hsg : SegAt wr (ad.add (j * 2)) (wC fi fv e) := fun t u hu => (hnx.cell (p := (ad.add (j * 2)).add t) (by rw [add_block, add_block]; exact hlow ad rfl)).trans ((hc.seg 2 (fun _ => rfl) he) t u hu)
      have hji : (n : Int) - 1 - k = j := by omega
      have hji2 : (n : Int) - 1 - ((k + 1 : Nat) : Int) = (j : Int) - 1 := by omega
      have hjn : j < n := by omega
      unfold wC at hsg
      unfold encW at hy
      simp only [] at hsg hy
      obtain ⟨z0, z1⟩ := hsg.c2
      rw [hji]
      clear he HX hsg
      gi_wp2
      refine hR.mono ?_
      rintro e W3 (⟨rfl, hJ3, hk3⟩ | ⟨rfl, hJx3⟩)
      · gi_wp2
        go_roundw
        case rel => exact ⟨k + 1, by omega, by rw [hji2], by rw [HJ.out]; exact hJ3, hnx.trans hk3⟩
        case measure => simp [intOf] <;> omega
      · gi_wp2
        refine bodyPost_ret (results_none rfl _ _ _) rfl ?_
        exact ⟨⟨_, rfl⟩, .inr ⟨_, ⟨k + 1, by omega, HJ.out.symm⟩, hJx3⟩⟩
    · obtain rfl : k = n := by omega
      have hm1 : (k : Int) - 1 - k = -1 := by omega
      rw [hm1]
      gi_wp2
      go_end0
      exact ⟨⟨_, rfl⟩, .inl ⟨_, rfl, hJs⟩⟩
theorem backW_stops (F : Fence) (m : Nat) (hF : F.fn 73) (hro : F.round = none) (hm : 1 ≤ m) (Bs n₀ n c : Nat) (A : Option Addr) (es : List E) (HN : Hid (es.length = n)) (hn : n ≤ 1000000) (w : World) (hb : Bs < n₀) (hn₀ : n₀ ≤ w.heap.size) (hlow : ∀ ad, A = some ad → ad.block < n₀)
    (hBs : w.cell? ⟨Bs, 0, none⟩ = some (.slice A n c)) (hc : RowAt w A (es.flatMap (wC fi fv))) :
    SeqStopsK F m Try.prog 73 #[.pointer (some ⟨Bs, 0, none⟩)] (encW fi fv) (Below n₀) (fun ys => ys = backW z es n) (fun pre => ∃ k, k ≤ n ∧ pre = backW z es k) n w := fun l J Jx W hW _ _ hY h0 => by
  have hc' : RowAt W A (es.flatMap (wC fi fv)) := fun j u hu => by
    obtain ⟨ad, e, h1⟩ := hc j u hu
    exact ⟨ad, e, (hW.cell (p := ad.add j) (by rw [add_block]; exact Nat.lt_of_lt_of_le (hlow ad e) hn₀)).trans h1⟩
  exact backW1_in fi fv z F m hF hro hm l Bs n₀ n c A es HN hn hb hlow J Jx hY W ((hW.cell (p := ⟨Bs, 0, none⟩) (Nat.lt_of_lt_of_le hb hn₀)).trans hBs) hc' h0

end
end Go.Proofs.Ytnkdlmmdaagonaa
/- block.Device: Read. -/
namespace Go.Proofs.Ytnkdlmmdaagonaa
open Go.RowKit Go.Shelf
attribute [local go_sem] Oper.semAt_some
def blockD (d : DevV) (j : Nat) : List UInt8 := ((d.wait.reverse.find? fun x => x.1 == j).map (·.2)).getD (d.kept.getD j [])
set_option maxRecDepth 100000 in
set_option maxHeartbeats 4000000 in
theorem read_no (w : World) (p : Nat) (d : DevV) (i : Int) (h : DevAt w p d) (hi : -9223372036854775808 ≤ i ∧ i ≤ 9223372036854775807) (hne : thereE d i ≠ 0) :
    Calls Try.prog 16 #[.pointer (some ⟨p, 0, none⟩), .int .i64 i] w (fun e w' => e = .returned (.tuple #[.slice none 0 0, .int .i64 (thereE d i : Nat)]) ∧ Fr noB w w') := by
  have hr : Hid (Try.f16.results = #[.cell 4 22, .cell 5 31]) := by unfold Hid; kernel_rfl
  have ht := fun W f => there_calls W p d i (h.fr0 f)
  generalize thereE d i = te at *
  have t1 : ((te : Int) != 0) = true := by rw [bne_iff_ne]; omega
  refine (callsIn_wide (n := 6)).1 ?_
  refine callsIn_of_wp_marks Try.func16 rfl trivial ?_ rfl
  simp only [Try.ntmps16, List.size_toArray, List.length_cons, List.length_nil, Nat.reduceAdd, Nat.reduceSub, Array.replicate_succ, Array.replicate_zero, List.push_toArray, List.append_toArray, List.nil_append, List.cons_append]
  have f0 : Fr noB w (((w.alloc (.cells #[.int .i64 i] 3)).alloc (.cells #[.slice none 0 0] 22)).alloc (.cells #[.int .i64 0] 31)) := (((Fr.refl noB w).alloc _).alloc _).alloc _
  have b3 := ((BlkAt.new w #[.int .i64 i] 3).al (.cells #[.slice none 0 0] 22)).al (.cells #[.int .i64 0] 31)
  have b4 := (BlkAt.new (w.alloc (.cells #[.int .i64 i] 3)) #[.slice none 0 0] 22).al (.cells #[.int .i64 0] 31)
  have b5 := BlkAt.new ((w.alloc (.cells #[.int .i64 i] 3)).alloc (.cells #[.slice none 0 0] 22)) #[.int .i64 0] 31
  simp only [al_size] at b4 b5
  obtain ⟨x0, xf⟩ := BlkAt.c1 b3
  obtain ⟨y0, yf⟩ := BlkAt.c1 b4
  obtain ⟨z0, zf⟩ := BlkAt.c1 b5
  refine wpIn_wide.2 ?_
  go_wp2_with fail
  refine (ht _ f0).mono ?_
  rintro e w' ⟨rfl, rfl⟩
  go_wp2_with fail
  have b4' := (BlkAt.new (w.alloc (.cells #[.int .i64 i] 3)) #[.slice none 0 0] 22).al (.cells #[.int .i64 te] 31)
  have b5' := BlkAt.new ((w.alloc (.cells #[.int .i64 i] 3)).alloc (.cells #[.slice none 0 0] 22)) #[.int .i64 te] 31
  have f1 : Fr noB w (((w.alloc (.cells #[.int .i64 i] 3)).alloc (.cells #[.slice none 0 0] 22)).alloc (.cells #[.int .i64 te] 31)) := (((Fr.refl noB w).alloc _).alloc _).alloc _
  simp only [al_size] at b4' b5'
  generalize (((w.alloc (.cells #[.int .i64 i] 3)).alloc (.cells #[.slice none 0 0] 22)).alloc (.cells #[.int .i64 te] 31)) = Wf at *
  have k6 : Wf.cell? ⟨w.heap.size + 1, 0, none⟩ = some (.slice none 0 0) := BlkAt.cell b4' rfl
  have k7 : Wf.cell? ⟨w.heap.size + 1 + 1, 0, none⟩ = some (.int .i64 te) := BlkAt.cell b5' rfl
  have hr := hr.out
  exact ⟨.tuple #[.slice none 0 0, .int .i64 te], by simp [results, hr, go_sem, k6, k7], rfl, f1⟩
end Go.Proofs.Ytnkdlmmdaagonaa
/- block.Device: what Read answers, over the writes that wait. -/
namespace Go.Proofs.Ytnkdlmmdaagonaa
open Go.RowKit
/-- A write that waits, with its block: number, block, bytes. -/
abbrev WrE (W0 : World) := { x : Nat × Nat × List UInt8 // BlkAt W0 x.2.1 5 (bcells x.2.2).toArray ∧ x.2.2.length = 128 }
def fiE {W0 : World} (e : WrE W0) : Nat := e.1.1
def fvE {W0 : World} (e : WrE W0) : Value := .slice (some ⟨e.1.2.1, 0, none⟩) 128 128
theorem elemsE {W0 : World} : ∀ (wait : List (Nat × List UInt8)) (ws : List (Nat × Value)), ws.length = wait.length → (∀ (j : Nat) (x : Nat × List UInt8), wait[j]? = some x → ∃ v, ws[j]? = some (x.1, v) ∧ slotB W0 v x.2) →
    ∃ es : List (WrE W0), waitC ws = es.flatMap (wC fiE fvE) ∧ es.map (fun e => (e.1.1, e.1.2.2)) = wait
  | [], [], _, _ => ⟨[], rfl, rfl⟩
  | [], _ :: _, h, _ => by simp at h
  | _ :: _, [], h, _ => by simp at h
  | x :: l, y :: ws, h, hw => by
    obtain ⟨es, h1, h2⟩ := elemsE l ws (by simpa using h) fun j u hj => by simpa using hw (j + 1) u (by simpa using hj)
    obtain ⟨v, e1, a, e2, e3, e4⟩ := hw 0 x rfl
    simp at e1
    refine ⟨⟨(x.1, a, x.2), e3, e4⟩ :: es, ?_, ?_⟩
    · unfold waitC at h1 ⊢
      rw [List.flatMap_cons, List.flatMap_cons, h1, e1, e2]
      rfl
    · rw [List.map_cons, h2]
theorem take_snocD {α : Type} {l : List α} {k : Nat} {x : α} (h : l[k]? = some x) : l.take (k + 1) = l.take k ++ [x] := by
  obtain ⟨hk, rfl⟩ := List.getElem?_eq_some_iff.1 h
  exact List.take_succ_eq_append_getElem hk
theorem backW_rev {E : Type} (z : E) (es : List E) : ∀ k, k ≤ es.length → (backW z es k).map (·.2) = es.reverse.take k
  | 0, _ => by simp [backW]
  | k + 1, h => by
    have hg : es.reverse[k]? = some (es.getD (es.length - 1 - k) z) := by
      rw [List.getElem?_reverse (by omega), List.getD_eq_getElem?_getD, List.getElem?_eq_getElem (by omega)]; rfl
    rw [backW_succ, List.map_append, backW_rev z es k (by omega), take_snocD hg]
    rfl
theorem find_skipD {α : Type} {p : α → Bool} : ∀ {l m : List α}, l.all (fun y => !p y) = true → (l ++ m).find? p = m.find? p
  | [], _, _ => rfl
  | x :: l, m, h => by
    simp only [List.all_cons, Bool.and_eq_true, Bool.not_eq_true'] at h
    rw [List.cons_append, List.find?_cons, h.1]
    exact find_skipD h.2
theorem find_map {W0 : World} (j : Nat) : ∀ es : List (WrE W0), ((es.map fun e => (e.1.1, e.1.2.2)).find? fun x => x.1 == j).map (·.2) = (es.find? fun e => fiE e == j).map fun e => e.1.2.2
  | [] => rfl
  | e :: l => by
    rw [List.map_cons, List.find?_cons, List.find?_cons]
    have ih := find_map j l
    by_cases h : e.1.1 == j
    · have h2 : (fiE e == j) = true := h
      rw [h2]; simp [h]
    · have h2 : (fiE e == j) = false := by rw [Bool.eq_false_iff]; exact h
      have h3 : (e.1.1 == j) = false := h2
      rw [h2, h3]; exact ih
/-- A round has found one: it is what Read answers. -/
def hitE {W0 : World} (j : Nat) (pre : List (Nat × WrE W0)) : Prop := ∃ q x, pre = q ++ [x] ∧ q.all (fun y => !(fiE y.2 == j)) = true ∧ (fiE x.2 == j) = true
def lastE {W0 : World} (pre : List (Nat × WrE W0)) : List UInt8 := (pre.getLast?.map fun x => x.2.1.2.2).getD []
theorem block_hit {W0 : World} {d : DevV} {z : WrE W0} {es : List (WrE W0)} {j k : Nat} (he : es.map (fun e => (e.1.1, e.1.2.2)) = d.wait) (hk : k ≤ es.length) (h : hitE j (backW z es k)) : blockD d j = lastE (backW z es k) := by
  obtain ⟨q, x, h1, h2, h3⟩ := h
  have hm := backW_rev z es k hk
  rw [h1] at hm ⊢
  have hl : lastE (q ++ [x]) = x.2.1.2.2 := by unfold lastE; simp
  rw [hl]
  unfold blockD
  rw [← he, ← List.map_reverse, find_map]
  have hr : es.reverse = q.map (·.2) ++ (x.2 :: es.reverse.drop k) := by
    have := (List.take_append_drop k es.reverse).symm
    rw [← hm] at this
    simpa using this
  rw [hr, find_skipD (by rw [List.all_map]; exact h2), List.find?_cons, h3]
  rfl
theorem block_miss {W0 : World} {d : DevV} {z : WrE W0} {es : List (WrE W0)} {j : Nat} (he : es.map (fun e => (e.1.1, e.1.2.2)) = d.wait) (h : (backW z es es.length).all (fun y => !(fiE y.2 == j)) = true) : blockD d j = d.kept.getD j [] := by
  have hm := backW_rev z es es.length (Nat.le_refl _)
  rw [List.take_of_length_le (by simp)] at hm
  unfold blockD
  rw [← he, ← List.map_reverse, find_map]
  have := find_skipD (p := fun e : WrE W0 => fiE e == j) (l := (backW z es es.length).map (·.2)) (m := []) (by rw [List.all_map]; exact h)
  rw [List.append_nil, hm] at this
  rw [this]
  rfl
end Go.Proofs.Ytnkdlmmdaagonaa
