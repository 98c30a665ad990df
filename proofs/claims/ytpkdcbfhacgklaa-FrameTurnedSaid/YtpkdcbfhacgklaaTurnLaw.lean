/- Turned bits are told: plain laws. -/
import Derived.Test.YtpkdcbfhacgklaaCrcOpens
namespace Go.Proofs.Ytpkdcbfhacgklaa
open Go.RowKit

theorem add_xor (n a v : Nat) (h : a < 2 ^ n) : a + 2 ^ n * v = a ^^^ (2 ^ n * v) := by
  have := low_high n (a + 2 ^ n * v)
  rw [Nat.add_mul_mod_self_left, Nat.mod_eq_of_lt h, Nat.add_mul_div_left _ _ (Nat.two_pow_pos n), Nat.div_eq_of_lt h, Nat.zero_add] at this
  exact this.symm
theorem leV_cons (x : UInt8) (l : List UInt8) : leV (x :: l) = x.toNat ^^^ (2 ^ 8 * leV l) := by
  rw [← add_xor 8 _ _ x.toNat_lt]; rfl
theorem crcReg_leV (r : Nat) (l : List UInt8) : crcReg r l = crcIter (8 * l.length) (r ^^^ leV l) := by
  induction l generalizing r with
  | nil => simp [crcReg, leV, crcIter]
  | cons x l ih =>
    have e : crcReg r (x :: l) = crcReg (crcByte r x.toNat) l := rfl
    rw [e, ih, crcByte_eq, List.length_cons, Nat.mul_succ, crcIter_add, leV_cons, ← Nat.xor_assoc, crcIter_xor 8 (r ^^^ x.toNat), crcIter_shift]
theorem xor_not {x : Nat} (h : x < 4294967296) : x ^^^ not32 x = 4294967295 := by
  unfold not32
  rw [← not_nat x h, Nat.xor_comm 4294967295 x, ← Nat.xor_assoc, Nat.xor_self, Nat.zero_xor]
/-- What a good seal leaves in the register. -/
theorem crcReg_good {l : List UInt8} {k : Nat} (hl : l.length = k + 4) (h : leV (l.drop k) = crcSum (l.take k)) : crcReg (not32 0) l = crcIter 32 4294967295 := by
  have e : crcReg (not32 0) l = crcReg (crcReg (not32 0) (l.take k)) (l.drop k) := by rw [← crcReg_append, List.take_append_drop]
  have h4 : (l.drop k).length = 4 := by rw [List.length_drop, hl]; omega
  rw [e, crcReg_leV, h4, h]
  have hlt := crcReg_lt (not32_lt 0) (l.take k)
  unfold crcSum crcMore
  rw [xor_not hlt]
theorem turned_told {b l : List UInt8} {a t : Nat} (hl : l.length = (sealB b).length) (hv : leV l = leV (sealB b) ^^^ (2 ^ a * t)) (ht : t ≠ 0) (ht2 : t < 4294967296) (ha : a ≤ 8 * l.length) : openB l = ([], 5) := by
  have hsl := sealB_length b
  have hk : l.length = b.length + 4 := by omega
  unfold openB
  rw [if_neg (by omega), hk, Nat.add_sub_cancel]
  split
  · rename_i h
    exfalso
    have g1 := crcReg_good hk h
    have hb : (sealB b).take b.length = b := by unfold sealB; simp
    have hs2 : leV ((sealB b).drop b.length) = crcSum ((sealB b).take b.length) := by
      rw [hb]; unfold sealB
      rw [List.drop_left, leV_leB]
      exact Nat.mod_eq_of_lt (crcSum_lt b)
    have g2 := crcReg_good hsl hs2
    rw [crcReg_leV] at g1 g2
    rw [hl] at g1
    have g3 : crcIter (8 * (sealB b).length) (2 ^ a * t) = 0 := by
      have e : 2 ^ a * t = (not32 0 ^^^ leV l) ^^^ (not32 0 ^^^ leV (sealB b)) := by
        rw [hv]
        refine Nat.eq_of_testBit_eq fun i => ?_
        simp only [Nat.testBit_xor]
        cases (not32 0).testBit i <;> cases (leV (sealB b)).testBit i <;> cases (2 ^ a * t).testBit i <;> rfl
      rw [e, crcIter_xor, g1, g2, Nat.xor_self]
    have e : 8 * (sealB b).length = (8 * (sealB b).length - a) + a := by omega
    rw [e, crcIter_add, crcIter_shift] at g3
    exact ht (crcIter_inj ht2 _ g3)
  · rfl
/-- A bit of a row of bytes is turned. -/
theorem leV_flip (l : List UInt8) (j e : Nat) (x y : UInt8) (he : e < 8) (hx : l[j]? = some x) (hy : y.toNat = x.toNat ^^^ 2 ^ e) : leV (l.set j y) = leV l ^^^ 2 ^ (8 * j + e) := by
  induction l generalizing j with
  | nil => simp at hx
  | cons z l ih =>
    cases j with
    | zero =>
      simp at hx; subst hx
      rw [List.set_cons_zero, leV_cons, leV_cons, hy, Nat.mul_zero, Nat.zero_add, Nat.xor_assoc, Nat.xor_assoc]
      congr 1
      exact Nat.xor_comm _ _
    | succ j =>
      rw [List.set_cons_succ, leV_cons, leV_cons, ih j (by simpa using hx), Nat.xor_assoc]
      congr 1
      rw [Nat.mul_comm, Nat.mul_comm (2 ^ 8) (leV l)]
      refine Nat.eq_of_testBit_eq fun i => ?_
      simp only [Nat.testBit_xor, Nat.testBit_mul_two_pow, Nat.testBit_two_pow]
      by_cases h : 8 ≤ i
      · simp only [h, decide_true, Bool.true_and]
        congr 1
        rw [decide_eq_decide]; omega
      · simp only [h, decide_false, Bool.false_and, Bool.false_bne]
        symm; rw [decide_eq_false_iff_not]; omega
theorem turn_step (a t k : Nat) : 2 ^ a * (t % 2 ^ (k + 1)) = (2 ^ a * (t % 2 ^ k)) ^^^ (if t.testBit k then 2 ^ (a + k) else 0) := by
  rw [Nat.mul_comm, Nat.mul_comm (2 ^ a) (t % 2 ^ k)]
  refine Nat.eq_of_testBit_eq fun i => ?_
  have h0 : ∀ c : Bool, (if c = true then 2 ^ (a + k) else 0).testBit i = (c && decide (a + k = i)) := fun c => by cases c <;> simp [Nat.testBit_two_pow]
  rw [Nat.testBit_xor, h0, Nat.testBit_mul_two_pow, Nat.testBit_mul_two_pow, Nat.testBit_mod_two_pow, Nat.testBit_mod_two_pow]
  by_cases h : a ≤ i
  · simp only [h, decide_true, Bool.true_and]
    by_cases h1 : i - a = k
    · rw [h1]
      have : a + k = i := by omega
      simp [this]
    · have h2 : ¬ (a + k = i) := by omega
      have h3 : decide (i - a < k + 1) = decide (i - a < k) := by rw [decide_eq_decide]; omega
      simp [h2, h3]
  · have h2 : ¬ (a + k = i) := by omega
    simp [h, h2]
end Go.Proofs.Ytpkdcbfhacgklaa
