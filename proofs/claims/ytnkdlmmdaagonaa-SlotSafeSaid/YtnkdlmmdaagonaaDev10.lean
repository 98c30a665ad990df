/- block.Device: Read. -/
import Derived.Test.YtnkdlmmdaagonaaDev9
import Derived.Test.YtnkdlmmdaagonaaClone
import Derived.ControlIn
import Derived.RangeFuncNested
import Derived.RangeFuncBound
import Derived.RangeFuncCalls
import Derived.RangeFuncLeaves
import Derived.Shelf.Abstract
import Derived.Shelf.RegionOpen
import Derived.WalkKit
import Derived.OwnWalkIn
import Derived.TacticsInMore
import Derived.LoopNIn
import Derived.LoopIn
namespace Go.Proofs.Ytnkdlmmdaagonaa
open Go.RowKit Go.Shelf
attribute [local go_sem] Oper.semAt_some
def blockD (d : DevV) (j : Nat) : List UInt8 := ((d.wait.reverse.find? fun x => x.1 == j).map (·.2)).getD (d.kept.getD j [])
set_option maxRecDepth 100000 in
set_option maxHeartbeats 4000000 in
theorem read_no (w : World) (p : Nat) (d : DevV) (i : Int) (h : DevAt w p d) (hi : -9223372036854775808 ≤ i ∧ i ≤ 9223372036854775807) (hne : thereE d i ≠ 0) :
    Calls Try.prog 16 #[.pointer (some ⟨p, 0, none⟩), .int .i64 i] w (fun e w' => e = .returned (.tuple #[.slice none 0 0, .int .i64 (thereE d i : Nat)]) ∧ Fr noB w w') := by
  have hr : Hid (Try.f16.results = #[.cell 4 22, .cell 5 31]) := by unfold Hid; kernel_rfl
  have ht := fun W f => there_calls W p d i (h.fr0 f)
  generalize thereE d i = te at *
  have t1 : ((te : Int) != 0) = true := by rw [bne_iff_ne]; omega
  refine (callsIn_wide (n := 6)).1 ?_
  refine callsIn_of_wp_marks Try.func16 rfl trivial ?_ rfl
  simp only [Try.ntmps16, List.size_toArray, List.length_cons, List.length_nil, Nat.reduceAdd, Nat.reduceSub, Array.replicate_succ, Array.replicate_zero, List.push_toArray, List.append_toArray, List.nil_append, List.cons_append]
  have f0 : Fr noB w (((w.alloc (.cells #[.int .i64 i] 3)).alloc (.cells #[.slice none 0 0] 22)).alloc (.cells #[.int .i64 0] 31)) := (((Fr.refl noB w).alloc _).alloc _).alloc _
  have b3 := ((BlkAt.new w #[.int .i64 i] 3).al (.cells #[.slice none 0 0] 22)).al (.cells #[.int .i64 0] 31)
  have b4 := (BlkAt.new (w.alloc (.cells #[.int .i64 i] 3)) #[.slice none 0 0] 22).al (.cells #[.int .i64 0] 31)
  have b5 := BlkAt.new ((w.alloc (.cells #[.int .i64 i] 3)).alloc (.cells #[.slice none 0 0] 22)) #[.int .i64 0] 31
  simp only [al_size] at b4 b5
  obtain ⟨x0, xf⟩ := BlkAt.c1 b3
  obtain ⟨y0, yf⟩ := BlkAt.c1 b4
  obtain ⟨z0, zf⟩ := BlkAt.c1 b5
  refine wpIn_wide.2 ?_
  go_wp2_with fail
  refine (ht _ f0).mono ?_
  rintro e w' ⟨rfl, rfl⟩
  go_wp2_with fail
  have b4' := (BlkAt.new (w.alloc (.cells #[.int .i64 i] 3)) #[.slice none 0 0] 22).al (.cells #[.int .i64 te] 31)
  have b5' := BlkAt.new ((w.alloc (.cells #[.int .i64 i] 3)).alloc (.cells #[.slice none 0 0] 22)) #[.int .i64 te] 31
  have f1 : Fr noB w (((w.alloc (.cells #[.int .i64 i] 3)).alloc (.cells #[.slice none 0 0] 22)).alloc (.cells #[.int .i64 te] 31)) := (((Fr.refl noB w).alloc _).alloc _).alloc _
  simp only [al_size] at b4' b5'
  generalize (((w.alloc (.cells #[.int .i64 i] 3)).alloc (.cells #[.slice none 0 0] 22)).alloc (.cells #[.int .i64 te] 31)) = Wf at *
  have k6 : Wf.cell? ⟨w.heap.size + 1, 0, none⟩ = some (.slice none 0 0) := BlkAt.cell b4' rfl
  have k7 : Wf.cell? ⟨w.heap.size + 1 + 1, 0, none⟩ = some (.int .i64 te) := BlkAt.cell b5' rfl
  have hr := hr.out
  exact ⟨.tuple #[.slice none 0 0, .int .i64 te], by simp [results, hr, go_sem, k6, k7], rfl, f1⟩
end Go.Proofs.Ytnkdlmmdaagonaa
