/- Sums: plain laws. -/
import Derived.Test.YtnkdlmmdaagonaaCrcT
namespace Go.Proofs.Ytnkdlmmdaagonaa
open Go.RowKit

theorem crcStep_zero : crcStep 0 = 0 := by decide
theorem xor_mod2 (a b : Nat) : (a ^^^ b) % 2 = (a % 2) ^^^ (b % 2) := by
  have := Nat.xor_mod_two_pow (a := a) (b := b) (n := 1)
  simpa using this
theorem xor_div2 (a b : Nat) : (a ^^^ b) / 2 = (a / 2) ^^^ (b / 2) := Nat.xor_div_two
theorem crcStep_xor (a b : Nat) : crcStep (a ^^^ b) = crcStep a ^^^ crcStep b := by
  unfold crcStep
  rw [xor_mod2, xor_div2]
  generalize a / 2 = x
  generalize b / 2 = y
  generalize (3988292384 : Nat) = P
  rcases Nat.mod_two_eq_zero_or_one a with ha | ha <;> rcases Nat.mod_two_eq_zero_or_one b with hb | hb <;> rw [ha, hb]
  · simp
  · simp [Nat.xor_assoc]
  · simp only [show (1 ^^^ 0 : Nat) = 1 from rfl, if_true, show ¬ (0 : Nat) = 1 by decide, if_false]
    rw [Nat.xor_assoc, Nat.xor_comm y P, ← Nat.xor_assoc]
  · simp only [show (1 ^^^ 1 : Nat) = 0 from rfl, if_true, show ¬ (0 : Nat) = 1 by decide, if_false]
    refine Nat.eq_of_testBit_eq fun i => ?_
    simp only [Nat.testBit_xor]
    cases x.testBit i <;> cases y.testBit i <;> cases P.testBit i <;> rfl
theorem crcIter_xor (n a b : Nat) : crcIter n (a ^^^ b) = crcIter n a ^^^ crcIter n b := by
  induction n with
  | zero => rfl
  | succ n ih => rw [crcIter, ih, crcStep_xor]; rfl
theorem crcIter_zero (n : Nat) : crcIter n 0 = 0 := by
  induction n with
  | zero => rfl
  | succ n ih => rw [crcIter, ih, crcStep_zero]
theorem crcIter_add (m n x : Nat) : crcIter (m + n) x = crcIter m (crcIter n x) := by
  induction m with
  | zero => rw [Nat.zero_add]; rfl
  | succ m ih => rw [Nat.succ_add, crcIter, ih]; rfl
/-- Even numbers are only shifted. -/
theorem crcIter_shift (n h : Nat) : crcIter n (2 ^ n * h) = h := by
  induction n generalizing h with
  | zero => simp [crcIter]
  | succ n ih =>
    rw [Nat.pow_succ, Nat.mul_assoc, crcIter, ih, crcStep, if_neg (by omega)]
    omega
theorem low_high (n r : Nat) : (r % 2 ^ n) ^^^ (2 ^ n * (r / 2 ^ n)) = r := by
  refine Nat.eq_of_testBit_eq fun i => ?_
  rw [Nat.testBit_xor, Nat.testBit_mod_two_pow, Nat.mul_comm, Nat.testBit_mul_two_pow, Nat.testBit_div_two_pow]
  by_cases h : i < n
  · simp [h, Nat.not_le.2 h]
  · have h2 : n ≤ i := by omega
    simp [h, h2, Nat.sub_add_cancel h2]
theorem crcByte_eq (r x : Nat) : crcByte r x = crcIter 8 (r ^^^ x) := by
  have h := low_high 8 r
  have e : r ^^^ x = ((r % 256) ^^^ x) ^^^ (2 ^ 8 * (r / 256)) := by
    conv => lhs; rw [← h]
    rw [Nat.xor_assoc, Nat.xor_comm (2 ^ 8 * _) x, ← Nat.xor_assoc]
  rw [e, crcIter_xor, crcIter_shift]
  rfl
theorem crcByte_xor (r s x y : Nat) : crcByte (r ^^^ s) (x ^^^ y) = crcByte r x ^^^ crcByte s y := by
  rw [crcByte_eq, crcByte_eq, crcByte_eq, ← crcIter_xor]
  congr 1
  rw [Nat.xor_assoc, ← Nat.xor_assoc s, Nat.xor_comm s x, Nat.xor_assoc, ← Nat.xor_assoc r x]
/-- A step takes different numbers to different ones. -/
theorem crcStep_inj {x : Nat} (hx : x < 4294967296) (h : crcStep x = 0) : x = 0 := by
  unfold crcStep at h
  split at h
  · rename_i h1
    have := congrArg (fun n => n.testBit 31) h
    simp only [Nat.testBit_xor, Nat.zero_testBit] at this
    have h2 : (x / 2).testBit 31 = false := Nat.testBit_lt_two_pow (by omega)
    have h3 : (3988292384 : Nat).testBit 31 = true := by decide
    rw [h2, h3] at this
    cases this
  · omega
theorem crcIter_inj {x : Nat} (hx : x < 4294967296) (n : Nat) (h : crcIter n x = 0) : x = 0 := by
  induction n with
  | zero => exact h
  | succ n ih => exact ih (crcStep_inj (crcIter_lt hx n) h)
end Go.Proofs.Ytnkdlmmdaagonaa
