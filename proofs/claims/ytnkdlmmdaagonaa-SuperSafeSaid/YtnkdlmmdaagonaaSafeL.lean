/- Contracts, several texts in one. -/
import Derived.Test.YtnkdlmmdaagonaaSup5
import Derived.Test.YtnkdlmmdaagonaaDev8
/- Saves and loads on a device of two blocks (no program). -/
namespace Go.Proofs.Ytnkdlmmdaagonaa
open Go.RowKit
theorem suRead_pad {s : SuV} (hw : s.wf) (h : checkS s = 0) : suRead (pad (superB s)) = (s, 0) := suRead_app hw h _
theorem thereE2 {k0 k1 : List UInt8} {l : List (Nat × List UInt8)} {f : Int} {m : Nat} {i : Nat} (hi : i < 2) : thereE ⟨[k0, k1], l, false, f, m⟩ (i : Nat) = 0 := by
  unfold thereE
  rw [if_neg (by simp), if_neg]
  rintro (g | g)
  · omega
  · simp only [List.length_cons, List.length_nil] at g; omega
theorem save_neg {k0 k1 : List UInt8} {f : Int} {m : Nat} {s : SuV} (hf : f < 0) (hc : checkS s = 0) : saveD ⟨[k0, k1], [], false, f, m⟩ s = (⟨[k0, k1].set (s.seq % 2) (pad (superB s)), [], false, f, m⟩, 0) := by
  have hw : writeD ⟨[k0, k1], [], false, f, m⟩ (s.seq % 2 : Nat) (superB s) = (⟨[k0, k1], [(s.seq % 2, pad (superB s))], false, f, m⟩, 0) := by
    unfold writeD burnD
    rw [thereE2 (by omega), if_neg (by simp), if_neg (by rw [superB_length]; omega)]
    simp only [if_pos hf]
    simp
    omega
  unfold saveD
  rw [hw, if_neg (by omega), if_neg (by simp)]
  unfold flushD burnD
  simp only [if_pos hf]
  simp [keepD, keepL]
theorem save_zero {k0 k1 : List UInt8} {m : Nat} {s : SuV} (hc : checkS s = 0) : saveD ⟨[k0, k1], [], false, 0, m⟩ s = (⟨[k0, k1], [], true, -1, m⟩, 15) := by
  have hw : writeD ⟨[k0, k1], [], false, 0, m⟩ (s.seq % 2 : Nat) (superB s) = (⟨[k0, k1], [], true, -1, m⟩, 15) := by
    unfold writeD burnD
    rw [thereE2 (by omega), if_neg (by simp), if_neg (by rw [superB_length]; omega)]
    simp [cutD, keepD, keepL]
  unfold saveD
  rw [hw, if_neg (by omega), if_pos (by simp)]
theorem save_one {k0 k1 : List UInt8} {m : Nat} {s : SuV} (hc : checkS s = 0) : saveD ⟨[k0, k1], [], false, 1, m⟩ s = (⟨if bitM m 0 then [k0, k1].set (s.seq % 2) (pad (superB s)) else [k0, k1], [], true, -1, m⟩, 15) := by
  have hw : writeD ⟨[k0, k1], [], false, 1, m⟩ (s.seq % 2 : Nat) (superB s) = (⟨[k0, k1], [(s.seq % 2, pad (superB s))], false, 0, m⟩, 0) := by
    unfold writeD burnD
    rw [thereE2 (by omega), if_neg (by simp), if_neg (by rw [superB_length]; omega)]
    simp
    omega
  unfold saveD
  rw [hw, if_neg (by omega), if_neg (by simp)]
  unfold flushD burnD
  simp [cutD, keepD, keepL]
theorem save_more {k0 k1 : List UInt8} {f : Int} {m : Nat} {s : SuV} (hf : 2 ≤ f) (hc : checkS s = 0) : saveD ⟨[k0, k1], [], false, f, m⟩ s = (⟨[k0, k1].set (s.seq % 2) (pad (superB s)), [], false, f - 2, m⟩, 0) := by
  have hw : writeD ⟨[k0, k1], [], false, f, m⟩ (s.seq % 2 : Nat) (superB s) = (⟨[k0, k1], [(s.seq % 2, pad (superB s))], false, f - 1, m⟩, 0) := by
    unfold writeD burnD
    rw [thereE2 (by omega), if_neg (by simp), if_neg (by rw [superB_length]; omega)]
    simp only [if_neg (show ¬ f < 0 by omega), if_pos (show 0 < f by omega)]
    simp
    omega
  unfold saveD
  rw [hw, if_neg (by omega), if_neg (by simp)]
  unfold flushD burnD
  simp only [if_neg (show ¬ f - 1 < 0 by omega), if_pos (show 0 < f - 1 by omega)]
  simp [keepD, keepL]
  omega
theorem load_two {k0 k1 : List UInt8} {f : Int} {m : Nat} : loadD ⟨[k0, k1], [], false, f, m⟩ = if (pickS k1 1 (pickS k0 0 (zeroS, false))).2 then ((pickS k1 1 (pickS k0 0 (zeroS, false))).1, 0) else (zeroS, 8) := by
  have h0 : thereE ⟨[k0, k1], [], false, f, m⟩ 0 = 0 := thereE2 (i := 0) (by omega)
  have h1 : thereE ⟨[k0, k1], [], false, f, m⟩ 1 = 0 := thereE2 (i := 1) (by omega)
  unfold loadD
  rw [h0, h1]
  rfl
def liv4 : SuV := ⟨4, 0, 0, 0, 0, 0, 0, 0, 0⟩
def liv5 : SuV := ⟨5, 0, 0, 0, 0, 0, 0, 0, 0⟩
theorem liv4_ok : liv4.wf ∧ checkS liv4 = 0 := ⟨by constructor <;> decide, by decide⟩
theorem liv5_ok : liv5.wf ∧ checkS liv5 = 0 := ⟨by constructor <;> decide, by decide⟩
def livD4 : DevV := ⟨[pad (superB liv4), List.replicate 128 0], [], false, -1, 0⟩
def livD5 : DevV := ⟨[pad (superB liv4), pad (superB liv5)], [], false, -1, 0⟩
theorem save_liv4 : saveD (newD 2) liv4 = (livD4, 0) := by
  have : newD 2 = ⟨[List.replicate 128 0, List.replicate 128 0], [], false, -1, 0⟩ := rfl
  rw [this, save_neg (by omega) liv4_ok.2]
  rfl
theorem save_liv5 : saveD livD4 liv5 = (livD5, 0) := by
  unfold livD4
  rw [save_neg (by omega) liv5_ok.2]
  rfl
theorem load_liv5 : loadD livD5 = (liv5, 0) := by
  have e0 : pickS (pad (superB liv4)) 0 (zeroS, false) = (liv4, true) := by
    unfold pickS
    rw [suRead_pad liv4_ok.1 liv4_ok.2]
    rfl
  have e1 : pickS (pad (superB liv5)) 1 (liv4, true) = (liv5, true) := by
    unfold pickS
    rw [suRead_pad liv5_ok.1 liv5_ok.2]
    rfl
  unfold livD5
  rw [load_two, e0, e1]
  rfl
end Go.Proofs.Ytnkdlmmdaagonaa
/- The power is cut while a super block is saved (no program). -/
namespace Go.Proofs.Ytnkdlmmdaagonaa
open Go.RowKit
/-- A block that isn't read as one of a parity whose number is at least so. -/
def lowB (b : List UInt8) (i n : Nat) : Prop := (suRead b).2 ≠ 0 ∨ (suRead b).1.seq % 2 ≠ i ∨ (suRead b).1.seq < n
/-- A device at rest on which one super block is the last one. -/
structure RestD (d : DevV) (s : SuV) : Prop where
  wf : s.wf
  ok : checkS s = 0
  is : ∃ k0 k1 m, d = ⟨[k0, k1], [], false, -1, m⟩ ∧ ((s.seq % 2 = 0 ∧ k0 = pad (superB s) ∧ lowB k1 1 s.seq) ∨ (s.seq % 2 = 1 ∧ k1 = pad (superB s) ∧ lowB k0 0 s.seq))
theorem pick_low {b : List UInt8} {i : Nat} {s : SuV} (h : lowB b i s.seq) : pickS b i (s, true) = (s, true) := by
  unfold pickS
  rcases h with h | h | h
  · rw [if_pos (Or.inl h)]
  · rw [if_pos (Or.inr h)]
  · split
    · rfl
    · rw [if_neg (by rintro (g | g) <;> first | (simp only at g; omega) | cases g)]
theorem pick_low0 {b : List UInt8} {n : Nat} (h : lowB b 0 n) : (pickS b 0 (zeroS, false)).2 = false ∨ (pickS b 0 (zeroS, false)).1.seq < n := by
  unfold pickS
  by_cases g : (suRead b).2 ≠ 0 ∨ (suRead b).1.seq % 2 ≠ 0
  · rw [if_pos g]; exact .inl rfl
  · rw [if_neg g, if_pos (Or.inl rfl)]
    rcases h with h | h | h
    · exact absurd (Or.inl h) g
    · exact absurd (Or.inr h) g
    · exact .inr h
theorem RestD.load {d : DevV} {s : SuV} (h : RestD d s) : loadD d = (s, 0) := by
  obtain ⟨hw, hc, k0, k1, m, rfl, h | h⟩ := h
  · obtain ⟨h1, rfl, h3⟩ := h
    have e0 : pickS (pad (superB s)) 0 (zeroS, false) = (s, true) := by
      unfold pickS
      rw [suRead_pad hw hc, if_neg (by rintro (g | g) <;> simp only at g <;> omega), if_pos (Or.inl rfl)]
    rw [load_two, e0, pick_low h3]
    rfl
  · obtain ⟨h1, rfl, h3⟩ := h
    have e1 : pickS (pad (superB s)) 1 (pickS k0 0 (zeroS, false)) = (s, true) := by
      have := pick_low0 h3
      generalize pickS k0 0 (zeroS, false) = q at *
      unfold pickS
      rw [suRead_pad hw hc, if_neg (by rintro (g | g) <;> simp only at g <;> omega), if_pos this]
    rw [load_two, e1]
    rfl
/-- A cut, and a start. -/
def upD (d : DevV) (m : Nat) : DevV := { cutD m d with down := false }
theorem rest_set {k0 k1 : List UInt8} {m : Nat} {last s : SuV} (h : RestD ⟨[k0, k1], [], false, -1, m⟩ last) (hw : s.wf) (hc : checkS s = 0) (hs : s.seq = last.seq + 1) (m' : Nat) :
    RestD ⟨[k0, k1].set (s.seq % 2) (pad (superB s)), [], false, -1, m'⟩ s := by
  obtain ⟨lw, lc, j0, j1, n, e, h⟩ := h
  simp only [DevV.mk.injEq, List.cons.injEq, and_true, true_and] at e
  obtain ⟨⟨rfl, rfl⟩, rfl⟩ := e
  refine ⟨hw, hc, ?_⟩
  rcases h with ⟨h1, rfl, -⟩ | ⟨h1, rfl, -⟩
  · have e1 : s.seq % 2 = 1 := by omega
    refine ⟨_, _, m', by rw [e1]; rfl, .inr ⟨e1, rfl, ?_⟩⟩
    unfold lowB; rw [suRead_pad lw lc]; exact .inr (.inr (by simp only; omega))
  · have e1 : s.seq % 2 = 0 := by omega
    refine ⟨_, _, m', by rw [e1]; rfl, .inl ⟨e1, rfl, ?_⟩⟩
    unfold lowB; rw [suRead_pad lw lc]; exact .inr (.inr (by simp only; omega))
theorem rest_mask {k0 k1 : List UInt8} {m m' : Nat} {last : SuV} (h : RestD ⟨[k0, k1], [], false, -1, m⟩ last) : RestD ⟨[k0, k1], [], false, -1, m'⟩ last := by
  obtain ⟨lw, lc, j0, j1, n, e, h⟩ := h
  simp only [DevV.mk.injEq, List.cons.injEq, and_true, true_and] at e
  obtain ⟨⟨rfl, rfl⟩, rfl⟩ := e
  exact ⟨lw, lc, _, _, m', rfl, h⟩
theorem upD_up {k0 k1 : List UInt8} {f : Int} {m m2 : Nat} : upD ⟨[k0, k1], [], false, f, m⟩ m2 = ⟨[k0, k1], [], false, -1, m⟩ := rfl
theorem upD_down {k0 k1 : List UInt8} {m m2 : Nat} : upD ⟨[k0, k1], [], true, -1, m⟩ m2 = ⟨[k0, k1], [], false, -1, m⟩ := rfl
theorem set2 (k0 k1 x : List UInt8) (i : Nat) : ∃ j0 j1, [k0, k1].set i x = [j0, j1] := by
  match i with
  | 0 => exact ⟨_, _, rfl⟩
  | 1 => exact ⟨_, _, rfl⟩
  | i + 2 => exact ⟨_, _, rfl⟩
theorem safe_step {d : DevV} {last s : SuV} (h : RestD d last) (hw : s.wf) (hc : checkS s = 0) (hs : s.seq = last.seq + 1) (a : Int) (m m2 : Nat) :
    ∃ got, RestD (upD (saveD (armD d a m) s).1 m2) got ∧ (got = s ∨ got = last) ∧ ((saveD (armD d a m) s).2 = 0 → got = s) := by
  obtain ⟨k0, k1, m0, rfl, -⟩ := id h.is
  obtain ⟨j0, j1, hj⟩ := set2 k0 k1 (pad (superB s)) (s.seq % 2)
  have hset := rest_set h hw hc hs m
  rw [hj] at hset
  obtain ⟨f, hf, ha⟩ : ∃ f : Int, 0 ≤ f ∧ armD ⟨[k0, k1], [], false, -1, m0⟩ a m = ⟨[k0, k1], [], false, f, m⟩ := ⟨max 0 a, by omega, rfl⟩
  rw [ha]
  rcases Int.lt_trichotomy f 1 with h1 | h1 | h1
  · obtain rfl : f = 0 := by omega
    rw [save_zero hc]
    exact ⟨last, by rw [upD_down]; exact rest_mask h, .inr rfl, fun e => by simp at e⟩
  · subst h1
    rw [save_one hc]
    cases hb : bitM m 0
    · exact ⟨last, by simp only [Bool.false_eq_true, if_false]; rw [upD_down]; exact rest_mask h, .inr rfl, fun e => by simp at e⟩
    · refine ⟨s, ?_, .inl rfl, fun e => by simp at e⟩
      simp only [if_true]
      rw [hj, upD_down]; exact hset
  · rw [save_more (by omega) hc]
    refine ⟨s, ?_, .inl rfl, fun _ => rfl⟩
    simp only
    rw [hj, upD_up]; exact hset
theorem leV_zero (n : Nat) : leV (List.replicate n 0) = 0 := by
  induction n with
  | zero => rfl
  | succ n ih => rw [List.replicate_succ]; unfold leV; rw [ih]; rfl
/-- Zeros are no super block of the second block. -/
theorem zero_low (n : Nat) : lowB (List.replicate 128 0) 1 n := by
  have h54 : (List.replicate 128 (0 : UInt8)).take 54 = List.replicate 54 0 := by rw [List.take_replicate]; rfl
  have h128 : (List.replicate 128 (0 : UInt8)).length = 128 := List.length_replicate
  have h50 : (List.replicate 54 (0 : UInt8)).take 50 = List.replicate 50 0 := by rw [List.take_replicate]; rfl
  have hl : (List.replicate 54 (0 : UInt8)).length = 54 := List.length_replicate
  have hs : (suX (List.replicate 50 0)).seq % 2 ≠ 1 := by
    rw [suX_eq List.length_replicate, List.take_replicate, leV_zero]
    decide
  unfold lowB
  by_cases h : (suRead (List.replicate 128 0)).2 = 0
  · refine .inr (.inl ?_)
    generalize List.replicate 128 (0 : UInt8) = y at *
    generalize List.replicate 54 (0 : UInt8) = z at *
    generalize List.replicate 50 (0 : UInt8) = x at *
    unfold suRead at h ⊢
    rw [if_neg (by omega), h54] at h ⊢
    by_cases h1 : (openB z).2 ≠ 0
    · rw [if_pos h1] at h; exact absurd h h1
    · rw [if_neg h1] at h ⊢
      by_cases h2 : checkS (suX (openB z).1) ≠ 0
      · rw [if_pos h2] at h; exact absurd h h2
      · rw [if_neg h2]
        have h3 : (openB z).1 = x := by
          unfold openB at h1 ⊢
          rw [if_neg (by omega)] at h1 ⊢
          split at h1
          · rename_i g; rw [if_pos g, hl]; exact h50
          · exact absurd (by decide) h1
        rw [h3]
        exact hs
  · exact .inl h
theorem zero_ok : checkS zeroS = 0 := by decide
theorem rest_first : RestD (saveD (newD 2) zeroS).1 zeroS ∧ (saveD (newD 2) zeroS).2 = 0 := by
  have : newD 2 = ⟨[List.replicate 128 0, List.replicate 128 0], [], false, -1, 0⟩ := rfl
  rw [this, save_neg (by omega) (by decide)]
  exact ⟨⟨zeroS_wf, by decide, _, _, _, rfl, .inl ⟨rfl, rfl, zero_low _⟩⟩, rfl⟩
end Go.Proofs.Ytnkdlmmdaagonaa
