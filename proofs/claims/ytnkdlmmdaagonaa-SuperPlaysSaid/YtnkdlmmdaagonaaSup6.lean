/- Contracts, several texts in one. -/
import Derived.Test.YtnkdlmmdaagonaaSup5
import Derived.Test.YtnkdlmmdaagonaaDev8
/- Saves and loads on a device of two blocks (no program). -/
namespace Go.Proofs.Ytnkdlmmdaagonaa
open Go.RowKit
theorem suRead_pad {s : SuV} (hw : s.wf) (h : checkS s = 0) : suRead (pad (superB s)) = (s, 0) := suRead_app hw h _
theorem thereE2 {k0 k1 : List UInt8} {l : List (Nat × List UInt8)} {f : Int} {m : Nat} {i : Nat} (hi : i < 2) : thereE ⟨[k0, k1], l, false, f, m⟩ (i : Nat) = 0 := by
  unfold thereE
  rw [if_neg (by simp), if_neg]
  rintro (g | g)
  · omega
  · simp only [List.length_cons, List.length_nil] at g; omega
theorem save_neg {k0 k1 : List UInt8} {f : Int} {m : Nat} {s : SuV} (hf : f < 0) (hc : checkS s = 0) : saveD ⟨[k0, k1], [], false, f, m⟩ s = (⟨[k0, k1].set (s.seq % 2) (pad (superB s)), [], false, f, m⟩, 0) := by
  have hw : writeD ⟨[k0, k1], [], false, f, m⟩ (s.seq % 2 : Nat) (superB s) = (⟨[k0, k1], [(s.seq % 2, pad (superB s))], false, f, m⟩, 0) := by
    unfold writeD burnD
    rw [thereE2 (by omega), if_neg (by simp), if_neg (by rw [superB_length]; omega)]
    simp only [if_pos hf]
    simp
    omega
  unfold saveD
  rw [hw, if_neg (by omega), if_neg (by simp)]
  unfold flushD burnD
  simp only [if_pos hf]
  simp [keepD, keepL]
theorem save_zero {k0 k1 : List UInt8} {m : Nat} {s : SuV} (hc : checkS s = 0) : saveD ⟨[k0, k1], [], false, 0, m⟩ s = (⟨[k0, k1], [], true, -1, m⟩, 15) := by
  have hw : writeD ⟨[k0, k1], [], false, 0, m⟩ (s.seq % 2 : Nat) (superB s) = (⟨[k0, k1], [], true, -1, m⟩, 15) := by
    unfold writeD burnD
    rw [thereE2 (by omega), if_neg (by simp), if_neg (by rw [superB_length]; omega)]
    simp [cutD, keepD, keepL]
  unfold saveD
  rw [hw, if_neg (by omega), if_pos (by simp)]
theorem save_one {k0 k1 : List UInt8} {m : Nat} {s : SuV} (hc : checkS s = 0) : saveD ⟨[k0, k1], [], false, 1, m⟩ s = (⟨if bitM m 0 then [k0, k1].set (s.seq % 2) (pad (superB s)) else [k0, k1], [], true, -1, m⟩, 15) := by
  have hw : writeD ⟨[k0, k1], [], false, 1, m⟩ (s.seq % 2 : Nat) (superB s) = (⟨[k0, k1], [(s.seq % 2, pad (superB s))], false, 0, m⟩, 0) := by
    unfold writeD burnD
    rw [thereE2 (by omega), if_neg (by simp), if_neg (by rw [superB_length]; omega)]
    simp
    omega
  unfold saveD
  rw [hw, if_neg (by omega), if_neg (by simp)]
  unfold flushD burnD
  simp [cutD, keepD, keepL]
theorem save_more {k0 k1 : List UInt8} {f : Int} {m : Nat} {s : SuV} (hf : 2 ≤ f) (hc : checkS s = 0) : saveD ⟨[k0, k1], [], false, f, m⟩ s = (⟨[k0, k1].set (s.seq % 2) (pad (superB s)), [], false, f - 2, m⟩, 0) := by
  have hw : writeD ⟨[k0, k1], [], false, f, m⟩ (s.seq % 2 : Nat) (superB s) = (⟨[k0, k1], [(s.seq % 2, pad (superB s))], false, f - 1, m⟩, 0) := by
    unfold writeD burnD
    rw [thereE2 (by omega), if_neg (by simp), if_neg (by rw [superB_length]; omega)]
    simp only [if_neg (show ¬ f < 0 by omega), if_pos (show 0 < f by omega)]
    simp
    omega
  unfold saveD
  rw [hw, if_neg (by omega), if_neg (by simp)]
  unfold flushD burnD
  simp only [if_neg (show ¬ f - 1 < 0 by omega), if_pos (show 0 < f - 1 by omega)]
  simp [keepD, keepL]
  omega
theorem load_two {k0 k1 : List UInt8} {f : Int} {m : Nat} : loadD ⟨[k0, k1], [], false, f, m⟩ = if (pickS k1 1 (pickS k0 0 (zeroS, false))).2 then ((pickS k1 1 (pickS k0 0 (zeroS, false))).1, 0) else (zeroS, 8) := by
  have h0 : thereE ⟨[k0, k1], [], false, f, m⟩ 0 = 0 := thereE2 (i := 0) (by omega)
  have h1 : thereE ⟨[k0, k1], [], false, f, m⟩ 1 = 0 := thereE2 (i := 1) (by omega)
  unfold loadD
  rw [h0, h1]
  rfl
def liv4 : SuV := ⟨4, 0, 0, 0, 0, 0, 0, 0, 0⟩
def liv5 : SuV := ⟨5, 0, 0, 0, 0, 0, 0, 0, 0⟩
theorem liv4_ok : liv4.wf ∧ checkS liv4 = 0 := ⟨by constructor <;> decide, by decide⟩
theorem liv5_ok : liv5.wf ∧ checkS liv5 = 0 := ⟨by constructor <;> decide, by decide⟩
def livD4 : DevV := ⟨[pad (superB liv4), List.replicate 128 0], [], false, -1, 0⟩
def livD5 : DevV := ⟨[pad (superB liv4), pad (superB liv5)], [], false, -1, 0⟩
theorem save_liv4 : saveD (newD 2) liv4 = (livD4, 0) := by
  have : newD 2 = ⟨[List.replicate 128 0, List.replicate 128 0], [], false, -1, 0⟩ := rfl
  rw [this, save_neg (by omega) liv4_ok.2]
  rfl
theorem save_liv5 : saveD livD4 liv5 = (livD5, 0) := by
  unfold livD4
  rw [save_neg (by omega) liv5_ok.2]
  rfl
theorem load_liv5 : loadD livD5 = (liv5, 0) := by
  have e0 : pickS (pad (superB liv4)) 0 (zeroS, false) = (liv4, true) := by
    unfold pickS
    rw [suRead_pad liv4_ok.1 liv4_ok.2]
    rfl
  have e1 : pickS (pad (superB liv5)) 1 (liv4, true) = (liv5, true) := by
    unfold pickS
    rw [suRead_pad liv5_ok.1 liv5_ok.2]
    rfl
  unfold livD5
  rw [load_two, e0, e1]
  rfl
end Go.Proofs.Ytnkdlmmdaagonaa
/- The chapter's example (22). -/
namespace Go.Proofs.Ytnkdlmmdaagonaa
open Go.RowKit
set_option maxRecDepth 100000 in
set_option maxHeartbeats 3200000 in
theorem lives22_calls (w : World) : Calls Try.prog 30 #[] w (fun e w' => e = .returned (.bool true) ∧ Fr noB w w') := by
  go_enter Try.func30, Try.ntmps30
  go_wp2_with fail
  refine (new_calls w 2 (by omega)).mono ?_
  rintro ed w1 ⟨p, rfl, hp, h1, f1, hdb⟩
  have hs4 := save_calls w1 p (newD 2) liv4 h1 liv4_ok.1 (by decide)
  rw [save_liv4] at hs4
  have hs5 := fun W g => save_calls W p livD4 liv5 g liv5_ok.1 (by decide)
  rw [save_liv5] at hs5
  have hld := fun W g => load_calls W p livD5 g (by decide)
  rw [load_liv5] at hld
  unfold SuEPost at hld
  generalize livD4 = d4 at *
  generalize livD5 = d5 at *
  generalize newD 2 = d0 at *
  unfold liv4 liv5 SuV.v SuV.C at *
  simp only [] at hs4 hs5 hld
  go_wp2_with fail
  refine hs4.mono ?_
  rintro ed w2 ⟨rfl, h2, s2⟩
  go_wp2_with fail
  refine (hs5 w2 h2).mono ?_
  rintro ed w3 ⟨rfl, h3, s3⟩
  go_wp2_with fail
  refine (hld w3 h3).mono ?_
  rintro ed w4 ⟨rfl, f4⟩
  have hb := BlkAt.new w4 #[.int .u64 (5 : Nat), .int .u64 (0 : Nat), .int .u64 (0 : Nat), .int .u64 (0 : Nat), .int .u8 (0 : Nat), .int .u8 (0 : Nat), .int .u64 (0 : Nat), .int .u32 (0 : Nat), .int .u32 (0 : Nat)] 61
  have f5 := (Fr.refl noB w4).alloc (.cells #[.int .u64 (5 : Nat), .int .u64 (0 : Nat), .int .u64 (0 : Nat), .int .u64 (0 : Nat), .int .u8 (0 : Nat), .int .u8 (0 : Nat), .int .u64 (0 : Nat), .int .u32 (0 : Nat), .int .u32 (0 : Nat)] 61)
  have S := s2.trans s3
  have FF : Fr noB w w4 := (f1.trans S.fr (fun i hi h => by have := hdb i h; omega)).then' f4
  have FG := FF.then' f5
  go_upto_region 6 with fail
  obtain ⟨y0, y1, y2, y3, y4, y5, y6, y7, y8, yf⟩ := BlkAt.c9 hb
  go_wp2_with fail
  go_ret
  exact ⟨rfl, FG⟩
end Go.Proofs.Ytnkdlmmdaagonaa
