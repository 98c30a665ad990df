/- interrexref16's functions. -/
import Derived.Test.YtcpcmcdfncjnaaaAdv
import Derived.Test.YtcpcmcdfncjnaaaRef1
namespace Go.Proofs.Ytcpcmcdfncjnaaa
open Go.RowKit

theorem right_calls (w : World) (n : Int) : Calls Try.prog 52 #[.int .i64 n] w (fun e w' => e = .returned (.bool (rightB n)) ∧ w = w') := by
  by_cases h3 : n = 3
  · subst h3
    go_enter Try.func52, Try.ntmps52
    go_wp2_with fail
    go_ret
    exact ⟨rfl, rfl⟩
  · by_cases h5 : n = 5
    · subst h5
      go_enter Try.func52, Try.ntmps52
      go_wp2_with fail
      go_ret
      exact ⟨rfl, rfl⟩
    · have t3 : (n == 3) = false := by simp; exact h3
      have t5 : (n == 5) = false := by simp; exact h5
      have HR : Hid (rightB n = (n == 7)) := by unfold Hid rightB; rw [t3, t5]; simp
      clear h3 h5
      go_enter Try.func52, Try.ntmps52
      go_wp2_with fail
      go_ret
      rw [HR.out]
      exact ⟨rfl, rfl⟩
theorem hasB_step (r a : Nat) : hasB r a = (!(a % 2 == 1 && r % 2 == 0) && hasB (r / 2) (a / 2)) := by
  unfold hasB
  rw [Bool.eq_iff_iff]
  simp only [Bool.and_eq_true, decide_eq_true_eq, Bool.not_eq_true', Bool.and_eq_false_iff]
  have e1 : (r &&& a) / 2 = (r / 2) &&& (a / 2) := Nat.and_div_two
  have e2 : (r &&& a) % 2 = (r % 2) &&& (a % 2) := by
    have := Nat.and_mod_two_pow (a := r) (b := a) (n := 1)
    simpa using this
  generalize hx : r &&& a = x at *
  generalize hy : (r / 2) &&& (a / 2) = y at *
  have hr : r % 2 = 0 ∨ r % 2 = 1 := by omega
  have ha : a % 2 = 0 ∨ a % 2 = 1 := by omega
  rcases hr with hr | hr <;> rcases ha with ha | ha
  · have e3 : x % 2 = 0 := by rw [e2, hr, ha]; rfl
    simp only [hr, ha]; simp; omega
  · have e3 : x % 2 = 0 := by rw [e2, hr, ha]; rfl
    simp only [hr, ha]; simp; omega
  · have e3 : x % 2 = 0 := by rw [e2, hr, ha]; rfl
    simp only [hr, ha]; simp; omega
  · have e3 : x % 2 = 1 := by rw [e2, hr, ha]; rfl
    simp only [hr, ha]; simp; omega
theorem hasB_zero (r : Nat) : hasB r 0 = true := by unfold hasB; simp
set_option maxHeartbeats 800000 in
theorem hasR_calls (w : World) (r a : Nat) (hr : r < 256) (ha : a < 256) :
    Calls Try.prog 60 #[.int .u8 r, .int .u8 a] w (fun e w' => e = .returned (.bool (hasB r a)) ∧ w = w') := by
  have HB : ∃ t, Hid (hasB r a = t) := ⟨_, rfl⟩
  obtain ⟨t, HB⟩ := HB
  rw [HB.out]
  go_enter Try.func60, Try.ntmps60
  go_wp2_with fail
  go_loop [0, 1, 5] (fun x y i => ∃ k p q : Nat, k ≤ 8 ∧ i = .int .i64 k ∧ x = .int .u8 p ∧ y = .int .u8 q ∧ p < 256 ∧ q < 2 ^ (8 - k) ∧ Hid (hasB p q = t)) (fun _ _ i => 8 - (intOf i).toNat)
  case atStart => exact ⟨0, r, a, by omega, rfl, rfl, rfl, hr, ha, HB⟩
  case round =>
    obtain ⟨k, p, q, hk, rfl, rfl, rfl, hp, hq, HQ⟩ := hrel
    by_cases hk8 : k < 8
    · have hst := hasB_step p q
      have hq2 : q / 2 < 2 ^ (8 - (k + 1)) := by
        have e : (2 : Nat) ^ (8 - k) = 2 ^ (8 - (k + 1)) * 2 := by rw [← Nat.pow_succ]; congr 1; omega
        omega
      have hq256 : q < 256 := by
        have : 2 ^ (8 - k) ≤ 2 ^ 8 := Nat.pow_le_pow_right (by omega) (by omega)
        omega
      have HQ2 := hid hq2; clear hq2 hq
      rcases (show q % 2 = 0 ∨ q % 2 = 1 by omega) with h1 | h1
      · have t1 : ((q : Int) % 2 == 1) = false := by simp; omega
        have H : Hid (hasB (p / 2) (q / 2) = t) := by unfold Hid; rw [← HQ.out, hst, h1]; simp
        clear hst h1 HQ
        go_wp2_with fail
        go_round
        case rel => exact ⟨k + 1, p / 2, q / 2, by omega, by go_num, by go_num, by go_num, by omega, HQ2.out, H⟩
        case measure => simp [intOf]; omega
      · have t1 : ((q : Int) % 2 == 1) = true := by simp; omega
        rcases (show p % 2 = 0 ∨ p % 2 = 1 by omega) with h2 | h2
        · have t2 : ((p : Int) % 2 == 0) = true := by simp; omega
          have H : Hid (t = false) := by unfold Hid; rw [← HQ.out, hst, h1, h2]; simp
          clear hst h1 h2 HQ
          go_wp2_with fail
          go_ret
          exact ⟨by rw [H.out]; rfl, rfl⟩
        · have t2 : ((p : Int) % 2 == 0) = false := by simp; omega
          have H : Hid (hasB (p / 2) (q / 2) = t) := by unfold Hid; rw [← HQ.out, hst, h1, h2]; simp
          clear hst h1 h2 HQ
          go_wp2_with fail
          go_round
          case rel => exact ⟨k + 1, p / 2, q / 2, by omega, by go_num, by go_num, by go_num, by omega, HQ2.out, H⟩
          case measure => simp [intOf]; omega
    · have : k = 8 := by omega
      subst this
      have hq0 : q = 0 := by simp at hq; omega
      subst hq0
      have H : Hid (t = true) := by unfold Hid; rw [← HQ.out, hasB_zero]
      go_wp2_with fail
      go_ret
      exact ⟨by rw [H.out]; rfl, rfl⟩
/-- The reference's board, in memory. -/
def rbC (n : Nat) (L : List Nat) : List Value := .int .i64 n :: ncells L
def rbV (n : Nat) (L : List Nat) : Value := .agg (rbC n L).toArray
theorem rb_at {w : World} {b n : Nat} {L : List Nat} {T : TypeId} (h : w.heap[b]? = some (.cells (rbC n L).toArray T (0, 0))) {i x : Nat} (hx : L[i]? = some x) : w.cell? ⟨b, 1 + i, none⟩ = some (.int .u8 (x : Nat)) := by
  rw [cell_of_row _ _ _ _ _ _ h]
  rw [List.getElem?_toArray, Nat.add_comm, rbC, List.getElem?_cons_succ, ncells, List.getElem?_map, hx]
  rfl
theorem rb_n {w : World} {b n : Nat} {L : List Nat} {T : TypeId} (h : w.heap[b]? = some (.cells (rbC n L).toArray T (0, 0))) : w.cell? ⟨b, 0, none⟩ = some (.int .i64 (n : Nat)) := by
  rw [cell_of_row _ _ _ _ _ _ h]; rfl
/-- What the reference's Note does. -/
def rNote (n : Nat) (L : List Nat) (k r : Nat) : List Nat × Nat := if k < n ∧ 1 ≤ r ∧ r ≤ 3 then (L.set k r, 0) else (L, 1)
theorem rNote_take (n : Nat) (L : List Nat) (k r : Nat) (hn : n ≤ L.length) : (rNote n L k r).1.take n = (bNote (L.take n) k r).1 ∧ (rNote n L k r).2 = (bNote (L.take n) k r).2 ∧ (rNote n L k r).1.length = L.length := by
  unfold rNote bNote
  rw [List.length_take, Nat.min_eq_left hn]
  split
  · refine ⟨by rw [List.take_set], rfl, by simp⟩
  · exact ⟨rfl, rfl, rfl⟩
set_option maxHeartbeats 1600000 in
theorem noteR_calls (w : World) (n : Nat) (L : List Nat) (k r : Nat) (hL : L.length = 7) (hn : n ≤ 7) (hk : k < 256) (hr : r < 256) :
    Calls Try.prog 53 #[rbV n L, .int .u8 k, .int .u8 r] w (fun e w' => e = .returned (.tuple #[rbV n (rNote n L k r).1, .int .i64 ((rNote n L k r).2 : Nat)]) ∧ Fr noB w w') := by
  obtain ⟨x0, x1, x2, x3, x4, x5, x6, rfl⟩ := list7 hL
  by_cases h1 : k < n
  · by_cases h2 : 1 ≤ r
    · by_cases h3 : r ≤ 3
      · have HB : Hid (rNote n [x0, x1, x2, x3, x4, x5, x6] k r = ([x0, x1, x2, x3, x4, x5, x6].set k r, 0)) := by unfold Hid rNote; rw [if_pos ⟨h1, h2, h3⟩]
        rw [HB.out]
        clear hL HB
        have hk7 : k = 0 ∨ k = 1 ∨ k = 2 ∨ k = 3 ∨ k = 4 ∨ k = 5 ∨ k = 6 := by omega
        rcases hk7 with rfl | rfl | rfl | rfl | rfl | rfl | rfl
        · show Calls Try.prog 53 #[.agg #[.int .i64 n, .int .u8 x0, .int .u8 x1, .int .u8 x2, .int .u8 x3, .int .u8 x4, .int .u8 x5, .int .u8 x6], .int .u8 0, .int .u8 r] w (fun e w' => e = .returned (.tuple #[.agg #[.int .i64 n, .int .u8 r, .int .u8 x1, .int .u8 x2, .int .u8 x3, .int .u8 x4, .int .u8 x5, .int .u8 x6], .int .i64 0]) ∧ Fr noB w w')
          go_enter Try.func53, Try.ntmps53
          go_wp2_with fail
          exact bodyPost_ret (v := .tuple #[.agg #[.int .i64 n, .int .u8 r, .int .u8 x1, .int .u8 x2, .int .u8 x3, .int .u8 x4, .int .u8 x5, .int .u8 x6], .int .i64 0]) (by simp [results, Try.results53, go_sem]) rfl ⟨rfl, ((Fr.refl noB w).alloc _).alloc _⟩
        · show Calls Try.prog 53 #[.agg #[.int .i64 n, .int .u8 x0, .int .u8 x1, .int .u8 x2, .int .u8 x3, .int .u8 x4, .int .u8 x5, .int .u8 x6], .int .u8 1, .int .u8 r] w (fun e w' => e = .returned (.tuple #[.agg #[.int .i64 n, .int .u8 x0, .int .u8 r, .int .u8 x2, .int .u8 x3, .int .u8 x4, .int .u8 x5, .int .u8 x6], .int .i64 0]) ∧ Fr noB w w')
          go_enter Try.func53, Try.ntmps53
          go_wp2_with fail
          exact bodyPost_ret (v := .tuple #[.agg #[.int .i64 n, .int .u8 x0, .int .u8 r, .int .u8 x2, .int .u8 x3, .int .u8 x4, .int .u8 x5, .int .u8 x6], .int .i64 0]) (by simp [results, Try.results53, go_sem]) rfl ⟨rfl, ((Fr.refl noB w).alloc _).alloc _⟩
        · show Calls Try.prog 53 #[.agg #[.int .i64 n, .int .u8 x0, .int .u8 x1, .int .u8 x2, .int .u8 x3, .int .u8 x4, .int .u8 x5, .int .u8 x6], .int .u8 2, .int .u8 r] w (fun e w' => e = .returned (.tuple #[.agg #[.int .i64 n, .int .u8 x0, .int .u8 x1, .int .u8 r, .int .u8 x3, .int .u8 x4, .int .u8 x5, .int .u8 x6], .int .i64 0]) ∧ Fr noB w w')
          go_enter Try.func53, Try.ntmps53
          go_wp2_with fail
          exact bodyPost_ret (v := .tuple #[.agg #[.int .i64 n, .int .u8 x0, .int .u8 x1, .int .u8 r, .int .u8 x3, .int .u8 x4, .int .u8 x5, .int .u8 x6], .int .i64 0]) (by simp [results, Try.results53, go_sem]) rfl ⟨rfl, ((Fr.refl noB w).alloc _).alloc _⟩
        · show Calls Try.prog 53 #[.agg #[.int .i64 n, .int .u8 x0, .int .u8 x1, .int .u8 x2, .int .u8 x3, .int .u8 x4, .int .u8 x5, .int .u8 x6], .int .u8 3, .int .u8 r] w (fun e w' => e = .returned (.tuple #[.agg #[.int .i64 n, .int .u8 x0, .int .u8 x1, .int .u8 x2, .int .u8 r, .int .u8 x4, .int .u8 x5, .int .u8 x6], .int .i64 0]) ∧ Fr noB w w')
          go_enter Try.func53, Try.ntmps53
          go_wp2_with fail
          exact bodyPost_ret (v := .tuple #[.agg #[.int .i64 n, .int .u8 x0, .int .u8 x1, .int .u8 x2, .int .u8 r, .int .u8 x4, .int .u8 x5, .int .u8 x6], .int .i64 0]) (by simp [results, Try.results53, go_sem]) rfl ⟨rfl, ((Fr.refl noB w).alloc _).alloc _⟩
        · show Calls Try.prog 53 #[.agg #[.int .i64 n, .int .u8 x0, .int .u8 x1, .int .u8 x2, .int .u8 x3, .int .u8 x4, .int .u8 x5, .int .u8 x6], .int .u8 4, .int .u8 r] w (fun e w' => e = .returned (.tuple #[.agg #[.int .i64 n, .int .u8 x0, .int .u8 x1, .int .u8 x2, .int .u8 x3, .int .u8 r, .int .u8 x5, .int .u8 x6], .int .i64 0]) ∧ Fr noB w w')
          go_enter Try.func53, Try.ntmps53
          go_wp2_with fail
          exact bodyPost_ret (v := .tuple #[.agg #[.int .i64 n, .int .u8 x0, .int .u8 x1, .int .u8 x2, .int .u8 x3, .int .u8 r, .int .u8 x5, .int .u8 x6], .int .i64 0]) (by simp [results, Try.results53, go_sem]) rfl ⟨rfl, ((Fr.refl noB w).alloc _).alloc _⟩
        · show Calls Try.prog 53 #[.agg #[.int .i64 n, .int .u8 x0, .int .u8 x1, .int .u8 x2, .int .u8 x3, .int .u8 x4, .int .u8 x5, .int .u8 x6], .int .u8 5, .int .u8 r] w (fun e w' => e = .returned (.tuple #[.agg #[.int .i64 n, .int .u8 x0, .int .u8 x1, .int .u8 x2, .int .u8 x3, .int .u8 x4, .int .u8 r, .int .u8 x6], .int .i64 0]) ∧ Fr noB w w')
          go_enter Try.func53, Try.ntmps53
          go_wp2_with fail
          exact bodyPost_ret (v := .tuple #[.agg #[.int .i64 n, .int .u8 x0, .int .u8 x1, .int .u8 x2, .int .u8 x3, .int .u8 x4, .int .u8 r, .int .u8 x6], .int .i64 0]) (by simp [results, Try.results53, go_sem]) rfl ⟨rfl, ((Fr.refl noB w).alloc _).alloc _⟩
        · show Calls Try.prog 53 #[.agg #[.int .i64 n, .int .u8 x0, .int .u8 x1, .int .u8 x2, .int .u8 x3, .int .u8 x4, .int .u8 x5, .int .u8 x6], .int .u8 6, .int .u8 r] w (fun e w' => e = .returned (.tuple #[.agg #[.int .i64 n, .int .u8 x0, .int .u8 x1, .int .u8 x2, .int .u8 x3, .int .u8 x4, .int .u8 x5, .int .u8 r], .int .i64 0]) ∧ Fr noB w w')
          go_enter Try.func53, Try.ntmps53
          go_wp2_with fail
          exact bodyPost_ret (v := .tuple #[.agg #[.int .i64 n, .int .u8 x0, .int .u8 x1, .int .u8 x2, .int .u8 x3, .int .u8 x4, .int .u8 x5, .int .u8 r], .int .i64 0]) (by simp [results, Try.results53, go_sem]) rfl ⟨rfl, ((Fr.refl noB w).alloc _).alloc _⟩
      · have HB : Hid (rNote n [x0, x1, x2, x3, x4, x5, x6] k r = ([x0, x1, x2, x3, x4, x5, x6], 1)) := by unfold Hid rNote; rw [if_neg (by omega)]
        rw [HB.out]
        show Calls Try.prog 53 #[.agg #[.int .i64 n, .int .u8 x0, .int .u8 x1, .int .u8 x2, .int .u8 x3, .int .u8 x4, .int .u8 x5, .int .u8 x6], .int .u8 k, .int .u8 r] w (fun e w' => e = .returned (.tuple #[.agg #[.int .i64 n, .int .u8 x0, .int .u8 x1, .int .u8 x2, .int .u8 x3, .int .u8 x4, .int .u8 x5, .int .u8 x6], .int .i64 1]) ∧ Fr noB w w')
        go_enter Try.func53, Try.ntmps53
        go_wp2_with fail
        exact bodyPost_ret (v := .tuple #[.agg #[.int .i64 n, .int .u8 x0, .int .u8 x1, .int .u8 x2, .int .u8 x3, .int .u8 x4, .int .u8 x5, .int .u8 x6], .int .i64 1]) (by simp [results, Try.results53, go_sem]) rfl ⟨rfl, ((Fr.refl noB w).alloc _).alloc _⟩
    · have HB : Hid (rNote n [x0, x1, x2, x3, x4, x5, x6] k r = ([x0, x1, x2, x3, x4, x5, x6], 1)) := by unfold Hid rNote; rw [if_neg (by omega)]
      rw [HB.out]
      show Calls Try.prog 53 #[.agg #[.int .i64 n, .int .u8 x0, .int .u8 x1, .int .u8 x2, .int .u8 x3, .int .u8 x4, .int .u8 x5, .int .u8 x6], .int .u8 k, .int .u8 r] w (fun e w' => e = .returned (.tuple #[.agg #[.int .i64 n, .int .u8 x0, .int .u8 x1, .int .u8 x2, .int .u8 x3, .int .u8 x4, .int .u8 x5, .int .u8 x6], .int .i64 1]) ∧ Fr noB w w')
      go_enter Try.func53, Try.ntmps53
      go_wp2_with fail
      exact bodyPost_ret (v := .tuple #[.agg #[.int .i64 n, .int .u8 x0, .int .u8 x1, .int .u8 x2, .int .u8 x3, .int .u8 x4, .int .u8 x5, .int .u8 x6], .int .i64 1]) (by simp [results, Try.results53, go_sem]) rfl ⟨rfl, ((Fr.refl noB w).alloc _).alloc _⟩
  · have HB : Hid (rNote n [x0, x1, x2, x3, x4, x5, x6] k r = ([x0, x1, x2, x3, x4, x5, x6], 1)) := by unfold Hid rNote; rw [if_neg (by omega)]
    rw [HB.out]
    show Calls Try.prog 53 #[.agg #[.int .i64 n, .int .u8 x0, .int .u8 x1, .int .u8 x2, .int .u8 x3, .int .u8 x4, .int .u8 x5, .int .u8 x6], .int .u8 k, .int .u8 r] w (fun e w' => e = .returned (.tuple #[.agg #[.int .i64 n, .int .u8 x0, .int .u8 x1, .int .u8 x2, .int .u8 x3, .int .u8 x4, .int .u8 x5, .int .u8 x6], .int .i64 1]) ∧ Fr noB w w')
    go_enter Try.func53, Try.ntmps53
    go_wp2_with fail
    exact bodyPost_ret (v := .tuple #[.agg #[.int .i64 n, .int .u8 x0, .int .u8 x1, .int .u8 x2, .int .u8 x3, .int .u8 x4, .int .u8 x5, .int .u8 x6], .int .i64 1]) (by simp [results, Try.results53, go_sem]) rfl ⟨rfl, ((Fr.refl noB w).alloc _).alloc _⟩
end Go.Proofs.Ytcpcmcdfncjnaaa
