/- Contracts, several texts in one. -/
import Derived.Test.YtnkdlmmdaagonaaConv
import Derived.Test.YtnkdlmmdaagonaaSeg
import Derived.Test.YtnkdlmmdaagonaaWr3
import Derived.Laws.Bits64b
/- octet.Reader: what it holds, and its contracts. -/
namespace Go.Proofs.Ytnkdlmmdaagonaa
open Go.RowKit

/-- A Reader: what is left, and the first error. -/
structure Rd where
  bs : List UInt8
  e : Nat
def rFail (r : Rd) (k : Nat) : Rd := if r.e = 0 ∧ k ≠ 0 then ⟨[], k⟩ else r
def rTake (r : Rd) (n : Nat) : Rd × List UInt8 := if r.bs.length < n then (rFail r 2, []) else (⟨r.bs.drop n, r.e⟩, r.bs.take n)
/-- The number of bytes, lowest first. -/
def leV : List UInt8 → Nat
  | [] => 0
  | b :: bs => b.toNat + 256 * leV bs
def rNum (r : Rd) (n : Nat) : Rd × Nat := ((rTake r n).1, leV (rTake r n).2)
def rTruth (r : Rd) : Rd × Bool := (if 1 < (rNum r 1).2 then rFail (rNum r 1).1 4 else (rNum r 1).1, (rNum r 1).2 == 1)
def rCount (r : Rd) (most : Int) : Rd × Nat := if max 0 most < ((rNum r 2).2 : Int) then (rFail (rNum r 2).1 3, 0) else rNum r 2
def rText (r : Rd) (most : Int) : Rd × List UInt8 := rTake (rCount r most).1 (rCount r most).2
def rEnd (r : Rd) : Nat := if r.e = 0 ∧ 0 < r.bs.length then 3 else r.e

structure RdV (w : World) (S : Nat → Prop) (p : Nat) (A : Option Addr) (n c : Nat) (T : TypeId) (r : Rd) : Prop where
  len : Hid (r.bs.length = n)
  heap : w.heap[p]? = some (.cells #[.slice A n c, .int .i64 (r.e : Nat)] T (0, 0))
  row : RowAt w A (bcells r.bs)
  cap : n ≤ c
  max : c ≤ 9223372036854775807
  nil : A = none → n = 0 ∧ c = 0
  inS : S p
  rowS : 0 < n → ∀ a, A = some a → S a.block ∧ a.block ≠ p
  err : Hid (r.e ≠ 0 → r.bs = [])
/-- At p a Reader, in blocks of S. -/
def RdAt (w : World) (S : Nat → Prop) (p : Nat) (r : Rd) : Prop := ∃ A n c T, RdV w S p A n c T r

theorem RdV.fr {w w' : World} {S T : Nat → Prop} {p : Nat} {A : Option Addr} {n c : Nat} {ty : TypeId} {r : Rd} (h : RdV w S p A n c ty r) (f : Fr T w w') (hd : ∀ k, k < w.heap.size → S k → ¬ T k) : RdV w' S p A n c ty r :=
  ⟨h.len, f.heap h.heap (hd p (Array.getElem?_eq_some_iff.1 h.heap).1 h.inS), h.row.fr f (fun a e h0 hb => hd _ hb (h.rowS (by rw [bcells_length, h.len.out] at h0; exact h0) a e).1), h.cap, h.max, h.nil, h.inS, h.rowS, h.err⟩
theorem RdAt.fr {w w' : World} {S T : Nat → Prop} {p : Nat} {r : Rd} (h : RdAt w S p r) (f : Fr T w w') (hd : ∀ k, k < w.heap.size → S k → ¬ T k) : RdAt w' S p r := by
  obtain ⟨A, n, c, ty, h⟩ := h
  exact ⟨A, n, c, ty, h.fr f hd⟩
theorem RdAt.mono {w : World} {S T : Nat → Prop} {p : Nat} {r : Rd} (h : RdAt w S p r) (hd : ∀ k, S k → T k) : RdAt w T p r := by
  obtain ⟨A, n, c, ty, h⟩ := h
  exact ⟨A, n, c, ty, h.len, h.heap, h.row, h.cap, h.max, h.nil, hd _ h.inS, fun h0 a e => ⟨hd _ (h.rowS h0 a e).1, (h.rowS h0 a e).2⟩, h.err⟩
theorem RdV.cells {w : World} {S : Nat → Prop} {p : Nat} {A : Option Addr} {n c : Nat} {ty : TypeId} {r : Rd} (h : RdV w S p A n c ty r) :
    w.cell? ⟨p, 0, none⟩ = some (.slice A n c) ∧ w.cell? ⟨p, 1, none⟩ = some (.int .i64 (r.e : Nat)) ∧ w.frozen? ⟨p, 0, none⟩ = false ∧ w.frozen? ⟨p, 1, none⟩ = false := by
  have := h.heap
  refine ⟨?_, ?_, ?_, ?_⟩ <;> simp [World.cell?, World.frozen?, this]
theorem RdV.rowTake {w : World} {S : Nat → Prop} {p : Nat} {A : Option Addr} {n c : Nat} {ty : TypeId} {r : Rd} (h : RdV w S p A n c ty r) (k : Nat) (u : Value) : RowAt (w.setCell ⟨p, 0, none⟩ u) A (bcells (r.bs.take k)) := fun j v hv => by
  have hj : (bcells r.bs)[j]? = some v := by
    simp only [bcells, List.map_take, List.getElem?_take] at hv ⊢
    split at hv
    · exact hv
    · cases hv
  obtain ⟨a, e, hc⟩ := h.row j v hj
  have h0 : 0 < n := by have := (List.getElem?_eq_some_iff.1 hj).1; rw [bcells_length, h.len.out] at this; omega
  have hf2 : Fr (fun b => b = p) w (w.setCell ⟨p, 0, none⟩ u) := Fr.setCell (S := fun b => b = p) (Fr.refl _ w) (p := ⟨p, 0, none⟩) (Or.inl rfl) _
  exact ⟨a, e, hf2.cell hc (by rw [add_block]; exact (h.rowS h0 a e).2)⟩
theorem two_set0 {w : World} {b : Nat} {x y u : Value} {t : TypeId} (h : w.heap[b]? = some (.cells #[x, y] t (0, 0))) : (w.setCell ⟨b, 0, none⟩ u).heap[b]? = some (.cells #[u, y] t (0, 0)) := by
  simp [World.setCell, Array.getElem?_modify, h]
theorem two_set1 {w : World} {b : Nat} {x y u : Value} {t : TypeId} (h : w.heap[b]? = some (.cells #[x, y] t (0, 0))) : (w.setCell ⟨b, 1, none⟩ u).heap[b]? = some (.cells #[x, u] t (0, 0)) := by
  simp [World.setCell, Array.getElem?_modify, h]

def RPost (w : World) (S : Nat → Prop) (p : Nat) (r : Rd) (v : Value) (e : Ending) (w' : World) : Prop := e = .returned v ∧ RdAt w' S p r ∧ Fr S w w'

theorem fail_calls (w : World) (S : Nat → Prop) (p : Nat) (r : Rd) (k : Nat) (h : RdAt w S p r) : Calls Try.prog 84 #[.pointer (some ⟨p, 0, none⟩), .int .i64 k] w (RPost w S p (rFail r k) (.tuple #[])) := by
  obtain ⟨A, n, c, T, h⟩ := h
  obtain ⟨c0, c1, z0, z1⟩ := h.cells
  by_cases e0 : r.e = 0
  · by_cases k0 : k = 0
    · have t0 : ((r.e : Int) == 0) = true := by simp; exact e0
      have t1 : ((k : Int) != 0) = false := by simp; exact k0
      have HF : Hid (rFail r k = r) := by unfold Hid rFail; rw [if_neg (by simp [k0])]
      go_enter Try.func84, Try.ntmps84
      go_wp2_with fail
      go_end0
      exact ⟨rfl, by rw [HF.out]; exact ⟨_, _, _, _, h⟩, Fr.refl _ _⟩
    · have t0 : ((r.e : Int) == 0) = true := by simp; exact e0
      have t1 : ((k : Int) != 0) = true := by simp; exact k0
      have HF : Hid (rFail r k = ⟨[], k⟩) := by unfold Hid rFail; rw [if_pos ⟨e0, k0⟩]
      have HK := hid k0
      clear e0 k0
      go_enter Try.func84, Try.ntmps84
      go_wp2_with fail
      go_end0
      refine ⟨rfl, ?_, ((Fr.refl S w).setCell (Or.inl h.inS) _).setCell (p := ⟨p, 1, none⟩) (Or.inl h.inS) _⟩
      rw [HF.out]
      exact ⟨none, 0, 0, T, rfl, two_set1 (two_set0 h.heap), RowAt.nil _ _, Nat.le_refl _, by omega, fun _ => ⟨rfl, rfl⟩, h.inS, fun h0 => absurd h0 (by omega), fun _ => rfl⟩
  · have t0 : ((r.e : Int) == 0) = false := by simp; exact e0
    have HF : Hid (rFail r k = r) := by unfold Hid rFail; rw [if_neg (by simp [e0])]
    go_enter Try.func84, Try.ntmps84
    go_wp2_with fail
    go_end0
    exact ⟨rfl, by rw [HF.out]; exact ⟨_, _, _, _, h⟩, Fr.refl _ _⟩

/-- What take hands back: bytes that can be read. -/
def TakePost (w : World) (S : Nat → Prop) (p : Nat) (r : Rd) (xs : List UInt8) (e : Ending) (w' : World) : Prop :=
  ∃ A n c, e = .returned (.slice A n c) ∧ Hid (xs.length = n) ∧ RowAt w' A (bcells xs) ∧ (A = none → n = 0 ∧ c = 0) ∧ n ≤ 9223372036854775807 ∧ RdAt w' S p r ∧ Fr S w w'
theorem take_calls (w : World) (S : Nat → Prop) (p : Nat) (r : Rd) (k : Nat) (h : RdAt w S p r) : Calls Try.prog 80 #[.pointer (some ⟨p, 0, none⟩), .int .i64 k] w (TakePost w S p (rTake r k).1 (rTake r k).2) := by
  have hf := fail_calls w S p r 2 h
  obtain ⟨A, n, c, T, h⟩ := h
  obtain ⟨c0, c1, z0, z1⟩ := h.cells
  by_cases hn : n < k
  · have HF : Hid (rTake r k = (rFail r 2, [])) := by unfold Hid rTake; rw [if_pos (by rw [h.len.out]; exact hn)]
    go_enter Try.func80, Try.ntmps80
    go_wp2_with fail
    refine hf.mono ?_
    rintro e w1 ⟨rfl, h1, f1⟩
    go_wp2_with fail
    go_ret
    refine ⟨none, 0, 0, rfl, by rw [HF.out]; rfl, by rw [HF.out]; exact RowAt.nil _ _, fun _ => ⟨rfl, rfl⟩, by omega, by rw [HF.out]; exact h1, f1⟩
  · have HF : Hid (rTake r k = (⟨r.bs.drop k, r.e⟩, r.bs.take k)) := by unfold Hid rTake; rw [if_neg (by rw [h.len.out]; exact hn)]
    have hk : k ≤ n := by omega
    have hcap := h.cap
    have hmax := h.max
    clear hf
    by_cases hck : c = k
    · subst hck
      have hnk : n = c := by omega
      subst hnk
      go_enter Try.func80, Try.ntmps80
      go_wp2_with fail
      go_ret
      have hs : Fr S w (w.setCell ⟨p, 0, none⟩ (.slice A 0 0)) := (Fr.refl S w).setCell (Or.inl h.inS) _
      refine ⟨A, n, n, rfl, by rw [HF.out]; unfold Hid; rw [List.length_take, h.len.out]; omega, ?_, fun e => h.nil e, hmax, ?_, hs⟩
      · rw [HF.out]; exact h.rowTake n _
      · rw [HF.out]
        have hd : r.bs.drop n = [] := List.drop_eq_nil_of_le (by rw [h.len.out]; exact Nat.le_refl _)
        refine ⟨A, 0, 0, T, by unfold Hid; rw [hd]; rfl, ?_, by simp only [hd]; exact RowAt.nil _ _, Nat.le_refl _, by omega, fun _ => ⟨rfl, rfl⟩, h.inS, fun h0 => absurd h0 (by omega), fun _ => hd⟩
        exact two_set0 (u := .slice A 0 0) h.heap
    · go_enter Try.func80, Try.ntmps80
      go_wp2_with fail
      go_ret
      have hs : Fr S w (w.setCell ⟨p, 0, none⟩ (.slice (A.map (·.add k)) (n - k) (c - k))) := (Fr.refl S w).setCell (Or.inl h.inS) _
      have hne : A ≠ none := fun e => by have := h.nil e; omega
      obtain ⟨a, rfl⟩ := Option.ne_none_iff_exists'.1 hne
      refine ⟨some a, k, c, rfl, by rw [HF.out]; unfold Hid; rw [List.length_take, h.len.out]; omega, ?_, fun e => (by cases e), by omega, ?_, hs⟩
      · rw [HF.out]; exact h.rowTake k _
      · rw [HF.out]
        refine ⟨some (a.add k), n - k, c - k, T, by unfold Hid; rw [List.length_drop, h.len.out], two_set0 h.heap, ?_, by omega, by omega, fun e => (by cases e), h.inS, fun h0 b e => ?_, fun e => ?_⟩
        · intro j u hu
          refine ⟨_, rfl, ?_⟩
          rw [add_add']
          have hj : (bcells r.bs)[k + j]? = some u := by
            rw [← hu]; simp only [bcells, List.map_drop, List.getElem?_drop]
          have h0 : 0 < n := by have := (List.getElem?_eq_some_iff.1 hj).1; rw [bcells_length, h.len.out] at this; omega
          have hf2 : Fr (fun b => b = p) w (w.setCell ⟨p, 0, none⟩ (.slice (some (a.add k)) (n - k) (c - k))) := Fr.setCell (S := fun b => b = p) (Fr.refl _ w) (p := ⟨p, 0, none⟩) (Or.inl rfl) _
          exact hf2.cell (h.row.cell hj) (by rw [add_block]; exact (h.rowS h0 a rfl).2)
        · cases e
          rw [add_block]
          exact h.rowS (by omega) a rfl
        · show r.bs.drop k = []
          rw [h.err.out e]; simp
end Go.Proofs.Ytnkdlmmdaagonaa
/- octet.Reader's methods. -/
namespace Go.Proofs.Ytnkdlmmdaagonaa
open Go.RowKit

theorem leV_lt (xs : List UInt8) : leV xs < 256 ^ xs.length := by
  induction xs with
  | nil => simp [leV]
  | cons b xs ih =>
    have := b.toNat_lt
    simp only [leV, List.length_cons, Nat.pow_succ]
    omega
theorem leV_snoc (xs : List UInt8) (b : UInt8) : leV (xs ++ [b]) = leV xs + b.toNat * 256 ^ xs.length := by
  induction xs with
  | nil => simp [leV]
  | cons c xs ih =>
    simp only [List.cons_append, leV, ih, List.length_cons, Nat.pow_succ, Nat.mul_add]
    rw [← Nat.mul_assoc, Nat.mul_comm (256 ^ xs.length) 256, ← Nat.mul_assoc, Nat.mul_comm b.toNat 256, Nat.add_assoc]
theorem rTake_len (r : Rd) (n : Nat) : (rTake r n).2.length ≤ n := by
  unfold rTake
  split
  · simp
  · simp; omega

theorem or_step (x b j : Nat) (hx : x < 256 ^ j) (hb : b < 256) (hj : j < 8) : bits .or .u64 (x : Int) (IntKind.u64.wrap ((b : Int) * 2 ^ (8 * j))) = ((x + b * 256 ^ j : Nat) : Int) := by
  have hp : (256 : Nat) ^ j = 2 ^ (8 * j) := by rw [Nat.pow_mul]
  have hle : (256 : Nat) ^ (j + 1) ≤ 256 ^ 8 := Nat.pow_le_pow_right (by omega) (by omega)
  have hm : b * 256 ^ j < 256 ^ (j + 1) := by rw [Nat.pow_succ, Nat.mul_comm (256 ^ j)]; exact Nat.mul_lt_mul_of_pos_right hb (Nat.pow_pos (by omega))
  have h64 : (256 : Nat) ^ 8 = 18446744073709551616 := by decide
  have e1 : (b : Int) * 2 ^ (8 * j) = ((b * 256 ^ j : Nat) : Int) := by rw [hp]; push_cast; rfl
  have e2 : IntKind.u64.wrap ((b * 256 ^ j : Nat) : Int) = ((b * 256 ^ j : Nat) : Int) := by
    generalize b * 256 ^ j = m at *
    simp [IntKind.wrap, IntKind.bits, IntKind.signed]
    omega
  have hx2 : x < 18446744073709551616 := by
    have : 256 ^ j ≤ 256 ^ (j + 1) := Nat.pow_le_pow_right (by omega) (by omega)
    omega
  rw [e1, e2, bits_or_u64_nat x _ hx2 (by omega)]
  congr 1
  rw [hp] at hx ⊢
  have := Nat.two_pow_add_eq_or_of_lt hx b
  rw [Nat.or_comm, Nat.mul_comm b, ← this, Nat.add_comm]
set_option maxRecDepth 100000 in
set_option maxHeartbeats 1600000 in
theorem numRd_calls (w : World) (S : Nat → Prop) (p : Nat) (r : Rd) (k : Nat) (h : RdAt w S p r) (hk : k ≤ 8) :
    Calls Try.prog 77 #[.pointer (some ⟨p, 0, none⟩), .int .i64 k] w (RPost w S p (rNum r k).1 (.int .u64 ((rNum r k).2 : Nat))) := by
  have hl := rTake_len r k
  go_enter Try.func77, Try.ntmps77
  go_wp2_with fail
  refine (take_calls w S p r k h).mono ?_
  rintro e w1 ⟨A, n, c, rfl, hn, hr, hA, hm, h1, f1⟩
  have HF : Hid (rNum r k = ((rTake r k).1, leV (rTake r k).2)) := rfl
  generalize (rTake r k).1 = r1 at *
  generalize (rTake r k).2 = xs at *
  rw [hn.out] at hl
  go_wp2_with fail
  go_loop [5, 12] (fun y i => ∃ j : Nat, j ≤ n ∧ i = .int .i64 j ∧ y = .int .u64 (leV (xs.take j) : Nat)) (fun _ i => n - (intOf i).toNat)
  case atStart => exact ⟨0, Nat.zero_le _, rfl, rfl⟩
  case round =>
    obtain ⟨j, hj, rfl, rfl⟩ := hrel
    by_cases hjn : j < n
    · obtain ⟨b, hb⟩ : ∃ b, xs[j]? = some b := ⟨_, List.getElem?_eq_getElem (by rw [hn.out]; exact hjn)⟩
      obtain ⟨a, rfl⟩ := hr.some_of (by rw [bcells_length, hn.out]; omega)
      have hc := hr.cell (j := j) (u := .int .u8 b.toNat) (by simp only [bcells, List.getElem?_map, hb]; rfl)
      have hb1 := b.toNat_lt
      have HB := hid hb; clear hb
      go_wp2_with fail
      have hlt : leV (xs.take j) < 256 ^ j := by
        have := leV_lt (xs.take j)
        rw [List.length_take, hn.out, Nat.min_eq_left (by omega)] at this; exact this
      have hst := or_step (leV (xs.take j)) b.toNat j hlt hb1 (by omega)
      have hsn : leV (xs.take (j + 1)) = leV (xs.take j) + b.toNat * 256 ^ j := by
        rw [take_snoc' HB.out, leV_snoc, List.length_take, hn.out, Nat.min_eq_left (by omega)]
      go_round
      case rel => exact ⟨j + 1, by omega, by go_num, by rw [hst, hsn]⟩
      case measure => simp [intOf]; omega
    · have : j = n := by omega
      subst this
      go_wp2_with fail
      go_ret
      rw [HF.out]
      refine ⟨?_, h1, f1⟩
      rw [List.take_of_length_le (by rw [hn.out]; exact Nat.le_refl _)]
      rfl

theorem rNum_lt (r : Rd) (n : Nat) : (rNum r n).2 < 256 ^ n := by
  have h1 := leV_lt (rTake r n).2
  have h3 : 256 ^ (rTake r n).2.length ≤ 256 ^ n := Nat.pow_le_pow_right (by omega) (rTake_len r n)
  unfold rNum; simp only; omega
theorem byteRd_calls (w : World) (S : Nat → Prop) (p : Nat) (r : Rd) (h : RdAt w S p r) :
    Calls Try.prog 65 #[.pointer (some ⟨p, 0, none⟩)] w (RPost w S p (rNum r 1).1 (.int .u8 ((rNum r 1).2 : Nat))) := by
  have hb : (rNum r 1).2 < 256 := rNum_lt r 1
  go_enter Try.func65, Try.ntmps65
  go_wp2_with fail
  refine (numRd_calls w S p r 1 h (by omega)).mono ?_
  rintro e w1 ⟨rfl, h1, f1⟩
  go_wp2_with fail
  go_ret
  exact ⟨rfl, h1, f1⟩
theorem fourRd_calls (w : World) (S : Nat → Prop) (p : Nat) (r : Rd) (h : RdAt w S p r) :
    Calls Try.prog 66 #[.pointer (some ⟨p, 0, none⟩)] w (RPost w S p (rNum r 4).1 (.int .u32 ((rNum r 4).2 : Nat))) := by
  have hb : (rNum r 4).2 < 4294967296 := rNum_lt r 4
  go_enter Try.func66, Try.ntmps66
  go_wp2_with fail
  refine (numRd_calls w S p r 4 h (by omega)).mono ?_
  rintro e w1 ⟨rfl, h1, f1⟩
  go_wp2_with fail
  go_ret
  exact ⟨rfl, h1, f1⟩
theorem eightRd_calls (w : World) (S : Nat → Prop) (p : Nat) (r : Rd) (h : RdAt w S p r) :
    Calls Try.prog 64 #[.pointer (some ⟨p, 0, none⟩)] w (RPost w S p (rNum r 8).1 (.int .u64 ((rNum r 8).2 : Nat))) := by
  go_enter Try.func64, Try.ntmps64
  go_wp2_with fail
  refine (numRd_calls w S p r 8 h (by omega)).mono ?_
  rintro e w1 ⟨rfl, h1, f1⟩
  go_wp2_with fail
  go_ret
  exact ⟨rfl, h1, f1⟩
/-- Raw hands back new bytes. -/
def RawPost (w : World) (S : Nat → Prop) (p : Nat) (r : Rd) (xs : List UInt8) (e : Ending) (w' : World) : Prop :=
  ∃ A n c, e = .returned (.slice A n c) ∧ Hid (xs.length = n) ∧ w'.ownsRow w.heap.size 5 1 (.slice A n c) n (bcells xs) ∧ RdAt w' S p r ∧ Fr S w w'
end Go.Proofs.Ytnkdlmmdaagonaa
/- octet.Of, and a Reader's Row. -/
namespace Go.Proofs.Ytnkdlmmdaagonaa
open Go.RowKit

def rTexts (r : Rd) (long : Int) : Nat → Rd × List ByteArray
  | 0 => (r, [])
  | n + 1 => ((rText (rTexts r long n).1 long).1, (rTexts r long n).2 ++ [mkS (rText (rTexts r long n).1 long).2])
theorem rTexts_len (r : Rd) (long : Int) (n : Nat) : (rTexts r long n).2.length = n := by induction n <;> simp [rTexts, *]
def rRow (r : Rd) (most long : Int) : Rd × List ByteArray :=
  ((rTexts (rCount r most).1 long (rCount r most).2).1, if (rTexts (rCount r most).1 long (rCount r most).2).1.e = 0 then (rTexts (rCount r most).1 long (rCount r most).2).2 else [])

def OfPost (w : World) (bs : List UInt8) (e : Ending) (w' : World) : Prop := ∃ p, e = .returned (.pointer (some ⟨p, 0, none⟩)) ∧ w.heap.size ≤ p ∧ p < w'.heap.size ∧ RdAt w' (upB w.heap.size) p ⟨bs, 0⟩ ∧ Fr noB w w'
theorem of_calls (w : World) (B : Option Addr) (n cap : Nat) (xs : List UInt8) (hx : RowAt w B (bcells xs)) (hn : xs.length = n) (hB : B = none → n = 0 ∧ cap = 0) (hl : n ≤ 1000000000000) :
    Calls Try.prog 63 #[.slice B n cap] w (OfPost w xs) := by
  have HL := hid hl; clear hl
  have HN := hid hn; clear hn
  go_enter Try.func63, Try.ntmps63
  go_wp2_with fail
  refine (clone_calls w B n cap xs hx HN.out hB HL.out).mono ?_
  rintro e w1 ⟨A, c, rfl, h1, f1, hA⟩
  go_wp2_with fail
  go_ret
  have hz := f1.size
  refine ⟨w1.heap.size, rfl, hz, by simp, ⟨A, n, c, _, HN.out, heap_alloc_new w1 _, (own_row h1).fr0 ((Fr.refl noB _).alloc _), ?_, ?_, fun e => ?_, hz, fun h0 a e => ?_, fun h => absurd rfl h⟩, f1.alloc _⟩
  · rcases h1.2 with ⟨e, e2⟩ | ⟨g, cp, cur, e, _, _, h2, _⟩
    · omega
    · cases e; exact h2
  · rcases h1.2 with ⟨e, e2⟩ | ⟨g, cp, cur, e, _, _, _, h2, _⟩
    · cases e; omega
    · cases e; unfold maxLen at h2; omega
  · subst e
    rcases h1.2 with ⟨e, e2⟩ | ⟨g, cp, cur, e, _⟩
    · cases e; exact ⟨rfl, rfl⟩
    · cases e
  · subst e
    have := h1.lt a.block rfl
    exact ⟨this.1, by omega⟩

def RowPost (w : World) (S : Nat → Prop) (p : Nat) (r : Rd) (ss : List ByteArray) (e : Ending) (w' : World) : Prop :=
  ∃ A n c, e = .returned (.slice A n c) ∧ Hid (ss.length = n) ∧ w'.ownsRow w.heap.size 9 1 (.slice A n c) n (strs ss) ∧ RdAt w' S p r ∧ Fr S w w'
end Go.Proofs.Ytnkdlmmdaagonaa
