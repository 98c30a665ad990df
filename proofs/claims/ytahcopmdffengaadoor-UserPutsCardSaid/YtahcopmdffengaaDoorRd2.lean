/- octet.Reader's methods. -/
import Derived.Test.YtahcopmdffengaaDoorRd
import Derived.Test.YtahcopmdffengaaDoorWr3
import Derived.Laws.Bits64b
namespace Go.Proofs.YtahcopmdffengaaDoor
open Go.RowKit

theorem leV_lt (xs : List UInt8) : leV xs < 256 ^ xs.length := by
  induction xs with
  | nil => simp [leV]
  | cons b xs ih =>
    have := b.toNat_lt
    simp only [leV, List.length_cons, Nat.pow_succ]
    omega
theorem leV_snoc (xs : List UInt8) (b : UInt8) : leV (xs ++ [b]) = leV xs + b.toNat * 256 ^ xs.length := by
  induction xs with
  | nil => simp [leV]
  | cons c xs ih =>
    simp only [List.cons_append, leV, ih, List.length_cons, Nat.pow_succ, Nat.mul_add]
    rw [← Nat.mul_assoc, Nat.mul_comm (256 ^ xs.length) 256, ← Nat.mul_assoc, Nat.mul_comm b.toNat 256, Nat.add_assoc]
theorem rTake_len (r : Rd) (n : Nat) : (rTake r n).2.length ≤ n := by
  unfold rTake
  split
  · simp
  · simp; omega

theorem or_step (x b j : Nat) (hx : x < 256 ^ j) (hb : b < 256) (hj : j < 8) : bits .or .u64 (x : Int) (IntKind.u64.wrap ((b : Int) * 2 ^ (8 * j))) = ((x + b * 256 ^ j : Nat) : Int) := by
  have hp : (256 : Nat) ^ j = 2 ^ (8 * j) := by rw [Nat.pow_mul]
  have hle : (256 : Nat) ^ (j + 1) ≤ 256 ^ 8 := Nat.pow_le_pow_right (by omega) (by omega)
  have hm : b * 256 ^ j < 256 ^ (j + 1) := by rw [Nat.pow_succ, Nat.mul_comm (256 ^ j)]; exact Nat.mul_lt_mul_of_pos_right hb (Nat.pow_pos (by omega))
  have h64 : (256 : Nat) ^ 8 = 18446744073709551616 := by decide
  have e1 : (b : Int) * 2 ^ (8 * j) = ((b * 256 ^ j : Nat) : Int) := by rw [hp]; push_cast; rfl
  have e2 : IntKind.u64.wrap ((b * 256 ^ j : Nat) : Int) = ((b * 256 ^ j : Nat) : Int) := by
    generalize b * 256 ^ j = m at *
    simp [IntKind.wrap, IntKind.bits, IntKind.signed]
    omega
  have hx2 : x < 18446744073709551616 := by
    have : 256 ^ j ≤ 256 ^ (j + 1) := Nat.pow_le_pow_right (by omega) (by omega)
    omega
  rw [e1, e2, bits_or_u64_nat x _ hx2 (by omega)]
  congr 1
  rw [hp] at hx ⊢
  have := Nat.two_pow_add_eq_or_of_lt hx b
  rw [Nat.or_comm, Nat.mul_comm b, ← this, Nat.add_comm]
set_option maxRecDepth 100000 in
set_option maxHeartbeats 1600000 in
theorem numRd_calls (w : World) (S : Nat → Prop) (p : Nat) (r : Rd) (k : Nat) (h : RdAt w S p r) (hk : k ≤ 8) :
    Calls Tryd.prog 91 #[.pointer (some ⟨p, 0, none⟩), .int .i64 k] w (RPost w S p (rNum r k).1 (.int .u64 ((rNum r k).2 : Nat))) := by
  have hl := rTake_len r k
  go_enter Tryd.func91, Tryd.ntmps91
  go_wp2_with fail
  refine (take_calls w S p r k h).mono ?_
  rintro e w1 ⟨A, n, c, rfl, hn, hr, hA, hm, h1, f1⟩
  have HF : Hid (rNum r k = ((rTake r k).1, leV (rTake r k).2)) := rfl
  generalize (rTake r k).1 = r1 at *
  generalize (rTake r k).2 = xs at *
  rw [hn.out] at hl
  go_wp2_with fail
  go_loop [5, 12] (fun y i => ∃ j : Nat, j ≤ n ∧ i = .int .i64 j ∧ y = .int .u64 (leV (xs.take j) : Nat)) (fun _ i => n - (intOf i).toNat)
  case atStart => exact ⟨0, Nat.zero_le _, rfl, rfl⟩
  case round =>
    obtain ⟨j, hj, rfl, rfl⟩ := hrel
    by_cases hjn : j < n
    · obtain ⟨b, hb⟩ : ∃ b, xs[j]? = some b := ⟨_, List.getElem?_eq_getElem (by rw [hn.out]; exact hjn)⟩
      obtain ⟨a, rfl⟩ := hr.some_of (by rw [bcells_length, hn.out]; omega)
      have hc := hr.cell (j := j) (u := .int .u8 b.toNat) (by simp only [bcells, List.getElem?_map, hb]; rfl)
      have hb1 := b.toNat_lt
      have HB := hid hb; clear hb
      go_wp2_with fail
      have hlt : leV (xs.take j) < 256 ^ j := by
        have := leV_lt (xs.take j)
        rw [List.length_take, hn.out, Nat.min_eq_left (by omega)] at this; exact this
      have hst := or_step (leV (xs.take j)) b.toNat j hlt hb1 (by omega)
      have hsn : leV (xs.take (j + 1)) = leV (xs.take j) + b.toNat * 256 ^ j := by
        rw [take_snoc' HB.out, leV_snoc, List.length_take, hn.out, Nat.min_eq_left (by omega)]
      go_round
      case rel => exact ⟨j + 1, by omega, by go_num, by rw [hst, hsn]⟩
      case measure => simp [intOf]; omega
    · have : j = n := by omega
      subst this
      go_wp2_with fail
      go_ret
      rw [HF.out]
      refine ⟨?_, h1, f1⟩
      rw [List.take_of_length_le (by rw [hn.out]; exact Nat.le_refl _)]
      rfl

theorem rNum_lt (r : Rd) (n : Nat) : (rNum r n).2 < 256 ^ n := by
  have h1 := leV_lt (rTake r n).2
  have h3 : 256 ^ (rTake r n).2.length ≤ 256 ^ n := Nat.pow_le_pow_right (by omega) (rTake_len r n)
  unfold rNum; simp only; omega
theorem byteRd_calls (w : World) (S : Nat → Prop) (p : Nat) (r : Rd) (h : RdAt w S p r) :
    Calls Tryd.prog 80 #[.pointer (some ⟨p, 0, none⟩)] w (RPost w S p (rNum r 1).1 (.int .u8 ((rNum r 1).2 : Nat))) := by
  have hb : (rNum r 1).2 < 256 := rNum_lt r 1
  go_enter Tryd.func80, Tryd.ntmps80
  go_wp2_with fail
  refine (numRd_calls w S p r 1 h (by omega)).mono ?_
  rintro e w1 ⟨rfl, h1, f1⟩
  go_wp2_with fail
  go_ret
  exact ⟨rfl, h1, f1⟩
theorem twoRd_calls (w : World) (S : Nat → Prop) (p : Nat) (r : Rd) (h : RdAt w S p r) :
    Calls Tryd.prog 90 #[.pointer (some ⟨p, 0, none⟩)] w (RPost w S p (rNum r 2).1 (.int .u16 ((rNum r 2).2 : Nat))) := by
  have hb : (rNum r 2).2 < 65536 := rNum_lt r 2
  go_enter Tryd.func90, Tryd.ntmps90
  go_wp2_with fail
  refine (numRd_calls w S p r 2 h (by omega)).mono ?_
  rintro e w1 ⟨rfl, h1, f1⟩
  go_wp2_with fail
  go_ret
  exact ⟨rfl, h1, f1⟩
theorem truthRd_calls (w : World) (S : Nat → Prop) (p : Nat) (r : Rd) (h : RdAt w S p r) :
    Calls Tryd.prog 62 #[.pointer (some ⟨p, 0, none⟩)] w (RPost w S p (rTruth r).1 (.bool (rTruth r).2)) := by
  have hb : (rNum r 1).2 < 256 := rNum_lt r 1
  have HF : Hid (rTruth r = (if 1 < (rNum r 1).2 then rFail (rNum r 1).1 4 else (rNum r 1).1, (rNum r 1).2 == 1)) := rfl
  have hc := byteRd_calls w S p r h
  generalize (rNum r 1).1 = r1 at *
  generalize (rNum r 1).2 = x at *
  by_cases hx : 1 < x
  · have t1 : ((x : Int) == 1) = false := by simp; omega
    have t2 : (x == 1) = false := by simp; omega
    rw [if_pos hx, t2] at HF
    go_enter Tryd.func62, Tryd.ntmps62
    go_wp2_with fail
    refine hc.mono ?_
    rintro e w1 ⟨rfl, h1, f1⟩
    go_wp2_with fail
    refine (fail_calls w1 S p r1 4 h1).mono ?_
    rintro e w2 ⟨rfl, h2, f2⟩
    go_wp2_with fail
    go_ret
    rw [HF.out]
    exact ⟨rfl, h2, f1.then' f2⟩
  · obtain ⟨t, ht⟩ : ∃ t, t = (x == 1) := ⟨_, rfl⟩
    have t1 : ((x : Int) == 1) = t := by rw [ht, Bool.eq_iff_iff]; simp; omega
    rw [if_neg hx, ← ht] at HF
    clear ht
    go_enter Tryd.func62, Tryd.ntmps62
    go_wp2_with fail
    refine hc.mono ?_
    rintro e w1 ⟨rfl, h1, f1⟩
    go_wp2_with fail
    go_ret
    rw [HF.out]
    exact ⟨rfl, h1, f1⟩
theorem countRd_calls (w : World) (S : Nat → Prop) (p : Nat) (r : Rd) (most : Int) (h : RdAt w S p r) (hm1 : -9223372036854775808 ≤ most) (hm2 : most ≤ 9223372036854775807) :
    Calls Tryd.prog 79 #[.pointer (some ⟨p, 0, none⟩), .int .i64 most] w (RPost w S p (rCount r most).1 (.int .i64 ((rCount r most).2 : Nat))) := by
  have hb : (rNum r 2).2 < 65536 := rNum_lt r 2
  have HF : Hid (rCount r most = if max 0 most < ((rNum r 2).2 : Int) then (rFail (rNum r 2).1 3, 0) else ((rNum r 2).1, (rNum r 2).2)) := rfl
  have hc := twoRd_calls w S p r h
  generalize (rNum r 2).1 = r1 at *
  generalize (rNum r 2).2 = x at *
  by_cases hx : max 0 most < (x : Int)
  · rw [if_pos hx] at HF
    go_enter Tryd.func79, Tryd.ntmps79
    go_wp2_with fail
    refine hc.mono ?_
    rintro e w1 ⟨rfl, h1, f1⟩
    go_wp2_with fail
    all_goals
      refine (fail_calls w1 S p r1 3 h1).mono ?_
      rintro e w2 ⟨rfl, h2, f2⟩
      go_wp2_with fail
      go_ret
      rw [HF.out]
      exact ⟨rfl, h2, f1.then' f2⟩
  · rw [if_neg hx] at HF
    go_enter Tryd.func79, Tryd.ntmps79
    go_wp2_with fail
    refine hc.mono ?_
    rintro e w1 ⟨rfl, h1, f1⟩
    go_wp2_with fail
    all_goals
      go_ret
      rw [HF.out]
      exact ⟨rfl, h1, f1⟩
theorem textRd_calls (w : World) (S : Nat → Prop) (p : Nat) (r : Rd) (most : Int) (h : RdAt w S p r) (hm1 : -9223372036854775808 ≤ most) (hm2 : most ≤ 9223372036854775807) :
    Calls Tryd.prog 61 #[.pointer (some ⟨p, 0, none⟩), .int .i64 most] w (RPost w S p (rText r most).1 (.string (mkS (rText r most).2))) := by
  have hc := countRd_calls w S p r most h hm1 hm2
  have HF : Hid (rText r most = ((rTake (rCount r most).1 (rCount r most).2).1, (rTake (rCount r most).1 (rCount r most).2).2)) := rfl
  generalize (rCount r most).1 = r1 at *
  generalize (rCount r most).2 = x at *
  go_enter Tryd.func61, Tryd.ntmps61
  go_wp2_with fail
  refine hc.mono ?_
  rintro e w1 ⟨rfl, h1, f1⟩
  go_wp2_with fail
  refine (take_calls w1 S p r1 x h1).mono ?_
  rintro e w2 ⟨A, n, c, rfl, hn, hr, hA, hm, h2, f2⟩
  have hcv := Tryd.toStr hr hn.out c
  clear hr hA
  go_wp2_with fail
  go_ret
  rw [HF.out]
  exact ⟨rfl, h2, f1.then' f2⟩
/-- Raw hands back new bytes. -/
def RawPost (w : World) (S : Nat → Prop) (p : Nat) (r : Rd) (xs : List UInt8) (e : Ending) (w' : World) : Prop :=
  ∃ A n c, e = .returned (.slice A n c) ∧ Hid (xs.length = n) ∧ w'.ownsRow w.heap.size 5 1 (.slice A n c) n (bcells xs) ∧ RdAt w' S p r ∧ Fr S w w'
theorem leftRd_calls (w : World) (S : Nat → Prop) (p : Nat) (r : Rd) (h : RdAt w S p r) :
    Calls Tryd.prog 35 #[.pointer (some ⟨p, 0, none⟩)] w (fun e w' => e = .returned (.int .i64 r.bs.length) ∧ w = w') := by
  obtain ⟨A, n, c, T, h⟩ := h
  obtain ⟨c0, c1, z0, z1⟩ := h.cells
  have HL := h.len
  go_enter Tryd.func35, Tryd.ntmps35
  go_wp2_with fail
  go_ret
  exact ⟨by rw [HL.out]; rfl, rfl⟩
theorem errRd_calls (w : World) (S : Nat → Prop) (p : Nat) (r : Rd) (h : RdAt w S p r) :
    Calls Tryd.prog 34 #[.pointer (some ⟨p, 0, none⟩)] w (fun e w' => e = .returned (.int .i64 (r.e : Nat)) ∧ w = w') := by
  obtain ⟨A, n, c, T, h⟩ := h
  obtain ⟨c0, c1, z0, z1⟩ := h.cells
  go_enter Tryd.func34, Tryd.ntmps34
  go_wp2_with fail
  go_ret
  exact ⟨rfl, rfl⟩
theorem endRd_calls (w : World) (S : Nat → Prop) (p : Nat) (r : Rd) (h : RdAt w S p r) :
    Calls Tryd.prog 40 #[.pointer (some ⟨p, 0, none⟩)] w (fun e w' => e = .returned (.int .i64 (rEnd r : Nat)) ∧ w = w') := by
  obtain ⟨A, n, c, T, h⟩ := h
  obtain ⟨c0, c1, z0, z1⟩ := h.cells
  have hmx := h.max
  have hcp := h.cap
  have HL := h.len
  by_cases e0 : r.e = 0
  · have t0 : ((r.e : Int) == 0) = true := by simp; exact e0
    by_cases n0 : 0 < n
    · have HF : Hid (rEnd r = 3) := by unfold Hid rEnd; rw [if_pos ⟨e0, by rw [HL.out]; exact n0⟩]
      have E0 := hid e0; clear e0
      go_enter Tryd.func40, Tryd.ntmps40
      go_wp2_with fail
      go_ret
      exact ⟨by rw [HF.out]; rfl, rfl⟩
    · have HF : Hid (rEnd r = r.e) := by unfold Hid rEnd; rw [if_neg (fun h => n0 (by rw [← HL.out]; exact h.2))]
      have E0 := hid e0; clear e0
      go_enter Tryd.func40, Tryd.ntmps40
      go_wp2_with fail
      go_ret
      exact ⟨by rw [HF.out]; rfl, rfl⟩
  · have t0 : ((r.e : Int) == 0) = false := by simp; exact e0
    have HF : Hid (rEnd r = r.e) := by unfold Hid rEnd; rw [if_neg (fun h => e0 h.1)]
    have E0 := hid e0; clear e0
    go_enter Tryd.func40, Tryd.ntmps40
    go_wp2_with fail
    go_ret
    exact ⟨by rw [HF.out]; rfl, rfl⟩
end Go.Proofs.YtahcopmdffengaaDoor
