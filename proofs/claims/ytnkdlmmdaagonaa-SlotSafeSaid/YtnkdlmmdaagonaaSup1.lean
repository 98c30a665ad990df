/- super.Super as a value; its Check. -/
import Derived.Test.YtnkdlmmdaagonaaRes
import Derived.Test.YtnkdlmmdaagonaaWr
import Derived.Deep.Cut
namespace Go.Proofs.Ytnkdlmmdaagonaa
open Go.RowKit
structure SuV where
  seq : Nat
  view : Nat
  normal : Nat
  gen : Nat
  half : Nat
  slot : Nat
  base : Nat
  size : Nat
  sum : Nat
def SuV.C (s : SuV) : List Value := [.int .u64 s.seq, .int .u64 s.view, .int .u64 s.normal, .int .u64 s.gen, .int .u8 s.half, .int .u8 s.slot, .int .u64 s.base, .int .u32 s.size, .int .u32 s.sum]
def SuV.v (s : SuV) : Value := .agg s.C.toArray
structure SuV.wf (s : SuV) : Prop where
  seq : s.seq < 18446744073709551616
  view : s.view < 18446744073709551616
  normal : s.normal < 18446744073709551616
  gen : s.gen < 18446744073709551616
  half : s.half < 256
  slot : s.slot < 256
  base : s.base < 18446744073709551616
  size : s.size < 4294967296
  sum : s.sum < 4294967296
def zeroS : SuV := ⟨0, 0, 0, 0, 0, 0, 0, 0, 0⟩
theorem zeroS_wf : zeroS.wf := by constructor <;> decide
def checkS (s : SuV) : Nat :=
  if 1099511627776 < s.seq ∨ 1099511627776 < s.view ∨ 1099511627776 < s.normal ∨ 1099511627776 < s.gen ∨ 1099511627776 < s.base then 17 else if 1 < s.half ∨ 1 < s.slot then 4 else if s.view < s.normal then 12 else 0
theorem max2_int (k : IntKind) (x y : Int) : Builtin.max2 (.int k x) (.int k y) = pure (Value.int k (max x y)) := by
  show pure (Value.int k (if y > x then y else x)) = _
  have e : (if y > x then y else x) = max x y := by split <;> omega
  rw [e]
theorem run_max5 (P : Program) (tt : Array TypeId) (t : TypeId) (k : IntKind) (a b c d e : Int) (W : World) : (Builtin.max_ tt t #[.int k a, .int k b, .int k c, .int k d, .int k e]).run P W = .ok (.int k (max (max (max (max a b) c) d) e)) W := by
  unfold Builtin.max_
  simp only [List.foldlM, max2_int, pure_bind]
  rfl
set_option maxRecDepth 100000 in
set_option maxHeartbeats 1600000 in
theorem checkS_calls (w : World) (s : SuV) : Calls Try.prog 33 #[s.v] w (fun e w' => e = .returned (.int .i64 (checkS s : Nat)) ∧ Fr noB w w') := by
  have f0 : Fr noB w (w.alloc (.cells s.C.toArray 61)) := (Fr.refl noB w).alloc _
  have hb0 : BlkAt (w.alloc (.cells s.C.toArray 61)) w.heap.size 61 s.C.toArray := BlkAt.new _ _ _
  have HC : Hid (checkS s = if 1099511627776 < s.seq ∨ 1099511627776 < s.view ∨ 1099511627776 < s.normal ∨ 1099511627776 < s.gen ∨ 1099511627776 < s.base then 17 else if 1 < s.half ∨ 1 < s.slot then 4 else if s.view < s.normal then 12 else 0) := rfl
  generalize checkS s = cv at *
  obtain ⟨seq, view, normal, gen, half, slot, base, size, sum⟩ := s
  unfold SuV.C at f0 hb0
  unfold SuV.v SuV.C
  simp only [] at *
  go_enter Try.func33, Try.ntmps33
  go_upto_region 1 with fail
  generalize (w.alloc _) = wa at *
  obtain ⟨x0, x1, x2, x3, x4, x5, x6, x7, x8, xf⟩ := BlkAt.c9 hb0
  have hmx := fun tt t W => run_max5 Try.prog tt t .u64 seq view normal gen base W
  obtain ⟨M, hM⟩ : ∃ M : Nat, max (max (max (max (seq : Int) view) normal) gen) base = M := ⟨max (max (max (max seq view) normal) gen) base, by omega⟩
  rw [hM] at hmx
  obtain ⟨v1, h1⟩ : ∃ v, decide (1099511627776 < M) = v := ⟨_, rfl⟩
  obtain ⟨v2, h2⟩ : ∃ v, decide (1 < half) = v := ⟨_, rfl⟩
  obtain ⟨v3, h3⟩ : ∃ v, decide (1 < slot) = v := ⟨_, rfl⟩
  obtain ⟨v4, h4⟩ : ∃ v, decide (view < normal) = v := ⟨_, rfl⟩
  have HC2 : Hid (cv = if v1 then 17 else if v2 || v3 then 4 else if v4 then 12 else 0) := by
    unfold Hid
    rw [HC.out, ← h1, ← h2, ← h3, ← h4]
    have e1 : (1099511627776 < seq ∨ 1099511627776 < view ∨ 1099511627776 < normal ∨ 1099511627776 < gen ∨ 1099511627776 < base) ↔ 1099511627776 < M := by omega
    simp only [e1, Bool.or_eq_true, decide_eq_true_eq]
  clear HC hM
  have hi1 : decide ((1099511627776 : Int) < M) = v1 := by rw [← h1]; exact decide_eq_decide.2 (by omega)
  have hi2 : decide ((1 : Int) < half) = v2 := by rw [← h2]; exact decide_eq_decide.2 (by omega)
  have hi3 : decide ((1 : Int) < slot) = v3 := by rw [← h3]; exact decide_eq_decide.2 (by omega)
  cases v1 <;> cases v2 <;> cases v3 <;> cases v4
  all_goals
    have HC3 := HC2.out
    clear HC2
    change cv = _ at HC3
    subst HC3
    go_wp2_with fail
    go_ret
    exact ⟨rfl, f0⟩
end Go.Proofs.Ytnkdlmmdaagonaa
