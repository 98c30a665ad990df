/- block.Device: a range over slices.Backward. -/
import Derived.Test.YtnkdlmmdaagonaaDev8
import Derived.Test.YtnkdlmmdaagonaaSeg
import Derived.RangeFuncNested
import Derived.RangeFuncBound
import Derived.RangeFuncCalls
import Derived.RangeFuncLeaves
import Derived.Shelf.Abstract
import Derived.Shelf.RegionOpen
import Derived.WalkKit
import Derived.OwnWalkIn
import Derived.TacticsInMore
import Derived.LoopNIn
import Derived.LoopIn
namespace Go.Proofs.Ytnkdlmmdaagonaa
open Go.RowKit Go.Shelf
attribute [local go_sem] Oper.semAt_some
set_option maxRecDepth 100000 in
theorem backwardW_calls (w : World) (A : Option Addr) (n c : Nat) : Calls Try.prog 48 #[.slice A n c] w (fun e w' => e = .returned (.func (.func 73) #[] #[.pointer (some ⟨w.heap.size, 0, none⟩)]) ∧ w' = w.alloc (.cells #[.slice A n c] 85)) := by
  have hmf : ∀ (fn : Fn) (first cap : Array Value) (w : World), (Instr.makeFunc fn first cap).run Try.prog w = .ok (.func fn first cap) w := fun _ _ _ _ => rfl
  go_enter Try.func48, Try.ntmps48
  go_wp2_with fail
  go_ret
  exact ⟨rfl, rfl⟩
section
variable {E : Type} (fi : E → Nat) (fv : E → Value) (z : E)
def wC (x : E) : List Value := [.int .i64 (fi x : Nat), fv x]
def backW (es : List E) (k : Nat) : List (Nat × E) := (List.range k).map fun j => (es.length - 1 - j, es.getD (es.length - 1 - j) z)
theorem backW_succ (es : List E) (k : Nat) : backW z es (k + 1) = backW z es k ++ [(es.length - 1 - k, es.getD (es.length - 1 - k) z)] := by simp [backW, List.range_succ]
theorem backW_length (es : List E) (k : Nat) : (backW z es k).length = k := by simp [backW]
def encW (x : Nat × E) : Array Value := #[.int .i64 (x.1 : Int), .agg #[.int .i64 (fi x.2 : Nat), fv x.2]]
set_option maxRecDepth 100000 in
set_option maxHeartbeats 2000000 in
theorem backW1_in (F : Fence) (m : Nat) (hF : F.fn 73) (hro : F.round = none) (hm : 1 ≤ m) (l Bs n₀ n c : Nat) (A : Option Addr) (es : List E) (HN : Hid (es.length = n)) (hn : n ≤ 1000000) (hb : Bs < n₀) (hlow : ∀ ad, A = some ad → ad.block < n₀)
    (J Jx : List (Nat × E) → World → Prop)
    (hY : ∀ pre x W, J pre W → pre.length < n → YieldAt F (m - 1) Try.prog l (encW fi fv x) W fun e W' =>
      (e = .returned (.bool true) ∧ J (pre ++ [x]) W' ∧ Below n₀ W W') ∨ (e = .returned (.bool false) ∧ Jx (pre ++ [x]) W'))
    (W : World) (hBs : W.cell? ⟨Bs, 0, none⟩ = some (.slice A n c)) (hc : RowAt W A (es.flatMap (wC fi fv))) (h0 : J [] W) :
    CallsIn F m Try.prog 73 #[.func (.yield l) #[] #[], .pointer (some ⟨Bs, 0, none⟩)] W fun e W' => (∃ v, e = .returned v) ∧
      ((∃ ys, ys = backW z es n ∧ J ys W') ∨ (∃ pre, (∃ k, k ≤ n ∧ pre = backW z es k) ∧ Jx pre W')) := by
  refine callsIn_of_wp Try.func73 rfl hF ?_ hro
  simp only [Try.ntmps73, List.size_toArray, List.length_cons, List.length_nil, Nat.reduceAdd, Nat.reduceSub, Array.replicate_succ, Array.replicate_zero, List.push_toArray, List.append_toArray, List.nil_append, List.cons_append]
  gi_wp2
  gi_loopw [3] (fun i wr => ∃ k : Nat, k ≤ n ∧ i = .int .i64 ((n : Int) - 1 - k) ∧ J (backW z es k) wr ∧ Below n₀ W wr)
    (fun i _ => (intOf i + 1).toNat)
  case atStart => exact ⟨0, Nat.zero_le _, by simp, h0, Below.refl _ _⟩
  case round =>
    obtain ⟨k, hk, rfl, hJs, hnx⟩ := hrel
    have hBs' : wr.cell? ⟨Bs, 0, none⟩ = some (.slice A n c) := (hnx.cell (p := ⟨Bs, 0, none⟩) hb).trans hBs
    by_cases hlt : k < n
    · obtain ⟨j, hj⟩ : ∃ j, n - 1 - k = j := ⟨_, rfl⟩
      obtain ⟨e, he⟩ : ∃ e, es[j]? = some e := ⟨_, List.getElem?_eq_getElem (by rw [HN.out]; omega)⟩
      have HX : Hid ((es.length - 1 - k, es.getD (es.length - 1 - k) z) = (j, e)) := by
        unfold Hid; rw [HN.out, hj, List.getD_eq_getElem?_getD, he]; rfl
      obtain ⟨fn, tmps, assign, body, hy, hR⟩ := hY _ (j, e) wr hJs (by rw [backW_length]; exact hlt)
      have HJ := hid (backW_succ z es k)
      rw [HX.out] at HJ
      obtain ⟨ad, rfl⟩ := hc.some_flat (by simp [wC]) he
      have hsg : SegAt wr (ad.add (j * 2)) (wC fi fv e) := fun t u hu => (hnx.cell (p := (ad.add (j * 2)).add t) (by rw [add_block, add_block]; exact hlow ad rfl)).trans ((hc.seg 2 (fun _ => rfl) he) t u hu)
      have hji : (n : Int) - 1 - k = j := by omega
      have hji2 : (n : Int) - 1 - ((k + 1 : Nat) : Int) = (j : Int) - 1 := by omega
      have hjn : j < n := by omega
      unfold wC at hsg
      unfold encW at hy
      simp only [] at hsg hy
      obtain ⟨z0, z1⟩ := hsg.c2
      rw [hji]
      clear he HX hsg
      gi_wp2
      refine hR.mono ?_
      rintro e W3 (⟨rfl, hJ3, hk3⟩ | ⟨rfl, hJx3⟩)
      · gi_wp2
        go_roundw
        case rel => exact ⟨k + 1, by omega, by rw [hji2], by rw [HJ.out]; exact hJ3, hnx.trans hk3⟩
        case measure => simp [intOf] <;> omega
      · gi_wp2
        refine bodyPost_ret (results_none rfl _ _ _) rfl ?_
        exact ⟨⟨_, rfl⟩, .inr ⟨_, ⟨k + 1, by omega, HJ.out.symm⟩, hJx3⟩⟩
    · obtain rfl : k = n := by omega
      have hm1 : (k : Int) - 1 - k = -1 := by omega
      rw [hm1]
      gi_wp2
      go_end0
      exact ⟨⟨_, rfl⟩, .inl ⟨_, rfl, hJs⟩⟩
theorem backW_stops (F : Fence) (m : Nat) (hF : F.fn 73) (hro : F.round = none) (hm : 1 ≤ m) (Bs n₀ n c : Nat) (A : Option Addr) (es : List E) (HN : Hid (es.length = n)) (hn : n ≤ 1000000) (w : World) (hb : Bs < n₀) (hn₀ : n₀ ≤ w.heap.size) (hlow : ∀ ad, A = some ad → ad.block < n₀)
    (hBs : w.cell? ⟨Bs, 0, none⟩ = some (.slice A n c)) (hc : RowAt w A (es.flatMap (wC fi fv))) :
    SeqStopsK F m Try.prog 73 #[.pointer (some ⟨Bs, 0, none⟩)] (encW fi fv) (Below n₀) (fun ys => ys = backW z es n) (fun pre => ∃ k, k ≤ n ∧ pre = backW z es k) n w := fun l J Jx W hW _ _ hY h0 => by
  have hc' : RowAt W A (es.flatMap (wC fi fv)) := fun j u hu => by
    obtain ⟨ad, e, h1⟩ := hc j u hu
    exact ⟨ad, e, (hW.cell (p := ad.add j) (by rw [add_block]; exact Nat.lt_of_lt_of_le (hlow ad e) hn₀)).trans h1⟩
  exact backW1_in fi fv z F m hF hro hm l Bs n₀ n c A es HN hn hb hlow J Jx hY W ((hW.cell (p := ⟨Bs, 0, none⟩) (Nat.lt_of_lt_of_le hb hn₀)).trans hBs) hc' h0

end
end Go.Proofs.Ytnkdlmmdaagonaa
