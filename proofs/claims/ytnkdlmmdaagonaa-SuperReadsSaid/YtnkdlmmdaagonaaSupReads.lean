/- SuperReads. -/
import Derived.Test.YtnkdlmmdaagonaaSupR2
import Derived.Test.YtnkdlmmdaagonaaSup6
import Derived.Test.YtnkdlmmdaagonaaSupEq
import Derived.Test.YtnkdlmmdaagonaaFew
import Derived.Test.YtnkdlmmdaagonaaConv
import Derived.Test.YtnkdlmmdaagonaaOpenBytes
namespace Go.Proofs.Ytnkdlmmdaagonaa
open Go.RowKit
set_option maxRecDepth 100000 in
set_option maxHeartbeats 6400000 in
theorem superReads_walk (w : World) (A : Option Addr) (n c : Nat) (bs : List UInt8) (hx : RowAt w A (bcells bs)) (hn : bs.length = n) (hnc : n ≤ c) (hc : c ≤ 9223372036854775807) (hB : A = none → n = 0 ∧ c = 0) :
    Calls Try.prog 7 #[.slice A n c] w (BoolPost w true) := by
  have hlv := fun W => lives22_calls W
  by_cases h200 : 200 < n
  · have d1 : decide ((200 : Int) < n) = true := decide_eq_true (by omega)
    go_enter Try.func7, Try.ntmps7
    go_wp2_with fail
    refine (hlv w).mono ?_
    rintro e w1 ⟨rfl, f1⟩
    go_wp2_with fail
    refine (hlv w1).mono ?_
    rintro e w2 ⟨rfl, f2⟩
    go_wp2_with fail
    go_ret
    exact BoolPost.mk' rfl (f1.then' f2)
  · have d1 : decide ((200 : Int) < n) = false := decide_eq_false (by omega)
    have hA := fun W hx => suRead_calls W A n c bs hx hn hnc hc
    have hR := fun W => suReadR_calls W (mkS bs) (by rw [mkS_size]; omega)
    rw [mkS_data] at hR
    generalize suRead bs = q at *
    obtain ⟨s, er⟩ := q
    unfold SuEPost at hA hR
    simp only [] at hA hR
    have HNQ : ∀ W, (binOp .eql 64 s.v s.v).run Try.prog W = .ok (.bool true) W := fun W => by rw [suEqlR]; simp
    have HM : Try.prog.eqGuardType Try.prog.depth 64 = false := Try.gSuR
    have hne : ((er : Int) == er) = true := by simp
    obtain ⟨seq, view, normal, gen, half, slot, base, size, sum⟩ := s
    unfold SuV.v SuV.C at *
    simp only [] at *
    have hlv1 := hlv w
    clear hlv h200
    go_enter Try.func7, Try.ntmps7
    go_wp2_with fail
    refine hlv1.mono ?_
    rintro e' w1 ⟨rfl, f1⟩
    clear hlv1
    go_wp2_with fail
    refine (hA w1 (hx.fr0 f1)).mono ?_
    rintro e' w2 ⟨rfl, f2⟩
    have F2 := f1.then' f2
    have hb1 : BlkAt (w2.alloc (.cells #[.int .u64 seq, .int .u64 view, .int .u64 normal, .int .u64 gen, .int .u8 half, .int .u8 slot, .int .u64 base, .int .u32 size, .int .u32 sum] 61)) w2.heap.size 61 #[.int .u64 seq, .int .u64 view, .int .u64 normal, .int .u64 gen, .int .u8 half, .int .u8 slot, .int .u64 base, .int .u32 size, .int .u32 sum] := BlkAt.new _ _ _
    have F3 := F2.alloc (.cells #[.int .u64 seq, .int .u64 view, .int .u64 normal, .int .u64 gen, .int .u8 half, .int .u8 slot, .int .u64 base, .int .u32 size, .int .u32 sum] 61)
    clear hA f1 f2 F2
    go_upto_region 4 with fail
    generalize hp1 : w2.heap.size = p1 at *
    generalize (w2.alloc (.cells #[.int .u64 seq, .int .u64 view, .int .u64 normal, .int .u64 gen, .int .u8 half, .int .u8 slot, .int .u64 base, .int .u32 size, .int .u32 sum] 61)) = w3 at *
    clear hp1
    have hst := Try.toStr (hx.fr0 F3) hn c
    go_wp2_with fail
    refine (hR w3).mono ?_
    rintro e' w4 ⟨rfl, f4⟩
    have hb4 := (hb1.fr f4 id).al (.cells #[.int .u64 seq, .int .u64 view, .int .u64 normal, .int .u64 gen, .int .u8 half, .int .u8 slot, .int .u64 base, .int .u32 size, .int .u32 sum] 64)
    have F4 := (F3.then' f4).alloc (.cells #[.int .u64 seq, .int .u64 view, .int .u64 normal, .int .u64 gen, .int .u8 half, .int .u8 slot, .int .u64 base, .int .u32 size, .int .u32 sum] 64)
    have hb5 : BlkAt (w4.alloc (.cells #[.int .u64 seq, .int .u64 view, .int .u64 normal, .int .u64 gen, .int .u8 half, .int .u8 slot, .int .u64 base, .int .u32 size, .int .u32 sum] 64)) w4.heap.size 64 #[.int .u64 seq, .int .u64 view, .int .u64 normal, .int .u64 gen, .int .u8 half, .int .u8 slot, .int .u64 base, .int .u32 size, .int .u32 sum] := BlkAt.new _ _ _
    clear hR hst f4 F3 hb1
    go_upto_region 5 with fail
    generalize hp2 : w4.heap.size = p2 at *
    generalize (w4.alloc (.cells #[.int .u64 seq, .int .u64 view, .int .u64 normal, .int .u64 gen, .int .u8 half, .int .u8 slot, .int .u64 base, .int .u32 size, .int .u32 sum] 64)) = w5 at *
    clear hp2
    obtain ⟨x0, x1, x2, x3, x4, x5, x6, x7, x8, xf⟩ := BlkAt.c9 hb4
    obtain ⟨y0, y1, y2, y3, y4, y5, y6, y7, y8, yf⟩ := BlkAt.c9 hb5
    go_wp2_with fail
    go_ret
    exact ⟨rfl, F4⟩
theorem superReads_law (w : World) (A : Option Addr) (n c : Nat) (bs : List UInt8) (o : RowAt w A (bcells bs) ∧ bs.length = n ∧ n ≤ c ∧ c ≤ maxLen ∧ (A = none → n = 0 ∧ c = 0)) :
    Calls Try.prog 7 #[.slice A n c] w (BoolPost w true) :=
  superReads_walk w A n c bs o.1 o.2.1 o.2.2.1 (by have := o.2.2.2.1; unfold maxLen at this; omega) o.2.2.2.2
end Go.Proofs.Ytnkdlmmdaagonaa
