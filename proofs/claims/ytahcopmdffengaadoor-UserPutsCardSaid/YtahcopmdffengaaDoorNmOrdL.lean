/- Texts stand in an order, byte by byte: the plain law. -/
import Derived.Test.YtahcopmdffengaaDoorNm9
namespace Go.Proofs.YtahcopmdffengaaDoor
open Go.RowKit
/-- -1, 0 or 1: how two rows of bytes stand. -/
def cmpL : List UInt8 → List UInt8 → Int
  | [], [] => 0
  | [], _ :: _ => -1
  | _ :: _, [] => 1
  | x :: xs, y :: ys => if x.toNat < y.toNat then -1 else if y.toNat < x.toNat then 1 else cmpL xs ys
theorem cmpL_range : ∀ l m, cmpL l m = -1 ∨ cmpL l m = 0 ∨ cmpL l m = 1
  | [], [] => by simp [cmpL]
  | [], _ :: _ => by simp [cmpL]
  | _ :: _, [] => by simp [cmpL]
  | x :: xs, y :: ys => by
    unfold cmpL
    have := cmpL_range xs ys
    split
    · simp
    · split
      · simp
      · exact this
theorem cmpL_neg : ∀ l m, cmpL m l = -cmpL l m
  | [], [] => by simp [cmpL]
  | [], _ :: _ => by simp [cmpL]
  | _ :: _, [] => by simp [cmpL]
  | x :: xs, y :: ys => by
    unfold cmpL
    have := cmpL_neg xs ys
    by_cases h1 : x.toNat < y.toNat
    · have h2 : ¬ y.toNat < x.toNat := by omega
      simp [h1, h2]
    · by_cases h2 : y.toNat < x.toNat
      · simp [h1, h2]
      · simp [h1, h2, this]
theorem cmpL_eq : ∀ l m, cmpL l m = 0 ↔ l = m
  | [], [] => by simp [cmpL]
  | [], _ :: _ => by simp [cmpL]
  | _ :: _, [] => by simp [cmpL]
  | x :: xs, y :: ys => by
    unfold cmpL
    have := cmpL_eq xs ys
    by_cases h1 : x.toNat < y.toNat
    · rw [if_pos h1]
      have : x ≠ y := fun h => by subst h; omega
      simp [this]
    · by_cases h2 : y.toNat < x.toNat
      · rw [if_neg h1, if_pos h2]
        have : x ≠ y := fun h => by subst h; omega
        simp [this]
      · rw [if_neg h1, if_neg h2, this]
        have : x = y := UInt8.toNat_inj.mp (by omega)
        simp [this]
theorem cmpL_trans : ∀ l m k, cmpL l m ≤ 0 → cmpL m k ≤ 0 → cmpL l k ≤ 0
  | [], m, [], _, _ => by simp [cmpL]
  | [], m, _ :: _, _, _ => by simp [cmpL]
  | x :: xs, [], k, h, _ => by simp [cmpL] at h
  | x :: xs, y :: ys, [], _, h => by simp [cmpL] at h
  | x :: xs, y :: ys, z :: zs, h1, h2 => by
    have ih := cmpL_trans xs ys zs
    unfold cmpL at h1 h2 ⊢
    by_cases a1 : x.toNat < y.toNat
    · by_cases b1 : y.toNat < z.toNat
      · rw [if_pos (by omega)]; decide
      · rw [if_neg b1] at h2
        by_cases b2 : z.toNat < y.toNat
        · rw [if_pos b2] at h2; exact absurd h2 (by decide)
        · rw [if_pos (by omega)]; decide
    · rw [if_neg a1] at h1
      by_cases a2 : y.toNat < x.toNat
      · rw [if_pos a2] at h1; exact absurd h1 (by decide)
      · rw [if_neg a2] at h1
        by_cases b1 : y.toNat < z.toNat
        · rw [if_pos (by omega)]; decide
        · rw [if_neg b1] at h2
          by_cases b2 : z.toNat < y.toNat
          · rw [if_pos b2] at h2; exact absurd h2 (by decide)
          · rw [if_neg b2] at h2
            rw [if_neg (by omega), if_neg (by omega)]
            exact ih h1 h2
theorem cmpL_less : ∀ l m, Op.bytesLess l m = decide (cmpL l m < 0)
  | [], [] => by simp [cmpL, Op.bytesLess]
  | [], _ :: _ => by simp [cmpL, Op.bytesLess]
  | _ :: _, [] => by simp [cmpL, Op.bytesLess]
  | x :: xs, y :: ys => by
    unfold cmpL Op.bytesLess
    have := cmpL_less xs ys
    by_cases h1 : x.toNat < y.toNat
    · rw [if_pos h1]; simp [UInt8.lt_iff_toNat_lt, h1]
    · by_cases h2 : y.toNat < x.toNat
      · rw [if_neg h1, if_pos h2]
        have : x ≠ y := fun h => by subst h; omega
        simp [UInt8.lt_iff_toNat_lt, h1, this]
      · rw [if_neg h1, if_neg h2, ← this]
        have : x = y := UInt8.toNat_inj.mp (by omega)
        simp [this]
/-- Two rows that begin alike stand as what is behind. -/
theorem cmpL_step : ∀ (i : Nat) (l m : List UInt8), i < l.length → i < m.length → (∀ j, j < i → l.getD j 0 = m.getD j 0) → cmpL l m = if (l.getD i 0).toNat < (m.getD i 0).toNat then -1 else if (m.getD i 0).toNat < (l.getD i 0).toNat then 1 else cmpL (l.drop (i + 1)) (m.drop (i + 1))
  | _, [], _, h, _, _ => absurd h (by simp)
  | _, _ :: _, [], _, h, _ => absurd h (by simp)
  | 0, x :: xs, y :: ys, _, _, _ => by simp [cmpL]
  | i + 1, x :: xs, y :: ys, h1, h2, h3 => by
    have ih := cmpL_step i xs ys (by simpa using h1) (by simpa using h2) (fun j hj => by simpa using h3 (j + 1) (by omega))
    obtain rfl : x = y := by simpa using h3 0 (by omega)
    have e : cmpL (x :: xs) (x :: ys) = cmpL xs ys := by rw [cmpL]; simp
    rw [e, ih]
    simp
theorem cmpL_end : ∀ (l m : List UInt8), (∀ j, j < l.length → j < m.length → l.getD j 0 = m.getD j 0) → cmpL l m = if l.length < m.length then -1 else if m.length < l.length then 1 else 0
  | [], [], _ => by simp [cmpL]
  | [], _ :: _, _ => by simp [cmpL]
  | _ :: _, [], _ => by simp [cmpL]
  | x :: xs, y :: ys, h3 => by
    have ih := cmpL_end xs ys (fun j h1 h2 => by simpa using h3 (j + 1) (by simpa using h1) (by simpa using h2))
    obtain rfl : x = y := by simpa using h3 0 (by simp) (by simp)
    have e : cmpL (x :: xs) (x :: ys) = cmpL xs ys := by rw [cmpL]; simp
    rw [e, ih]
    simp
end Go.Proofs.YtahcopmdffengaaDoor
