/- The chapter's example (22). -/
import Derived.Test.YtnkdlmmdaagonaaSafeL
namespace Go.Proofs.Ytnkdlmmdaagonaa
open Go.RowKit
set_option maxRecDepth 100000 in
set_option maxHeartbeats 3200000 in
theorem lives22_calls (w : World) : Calls Try.prog 30 #[] w (fun e w' => e = .returned (.bool true) ∧ Fr noB w w') := by
  go_enter Try.func30, Try.ntmps30
  go_wp2_with fail
  refine (new_calls w 2 (by omega)).mono ?_
  rintro ed w1 ⟨p, rfl, hp, h1, f1, hdb⟩
  have hs4 := save_calls w1 p (newD 2) liv4 h1 liv4_ok.1 (by decide)
  rw [save_liv4] at hs4
  have hs5 := fun W g => save_calls W p livD4 liv5 g liv5_ok.1 (by decide)
  rw [save_liv5] at hs5
  have hld := fun W g => load_calls W p livD5 g (by decide)
  rw [load_liv5] at hld
  unfold SuEPost at hld
  generalize livD4 = d4 at *
  generalize livD5 = d5 at *
  generalize newD 2 = d0 at *
  unfold liv4 liv5 SuV.v SuV.C at *
  simp only [] at hs4 hs5 hld
  go_wp2_with fail
  refine hs4.mono ?_
  rintro ed w2 ⟨rfl, h2, s2⟩
  go_wp2_with fail
  refine (hs5 w2 h2).mono ?_
  rintro ed w3 ⟨rfl, h3, s3⟩
  go_wp2_with fail
  refine (hld w3 h3).mono ?_
  rintro ed w4 ⟨rfl, f4⟩
  have hb := BlkAt.new w4 #[.int .u64 (5 : Nat), .int .u64 (0 : Nat), .int .u64 (0 : Nat), .int .u64 (0 : Nat), .int .u8 (0 : Nat), .int .u8 (0 : Nat), .int .u64 (0 : Nat), .int .u32 (0 : Nat), .int .u32 (0 : Nat)] 61
  have f5 := (Fr.refl noB w4).alloc (.cells #[.int .u64 (5 : Nat), .int .u64 (0 : Nat), .int .u64 (0 : Nat), .int .u64 (0 : Nat), .int .u8 (0 : Nat), .int .u8 (0 : Nat), .int .u64 (0 : Nat), .int .u32 (0 : Nat), .int .u32 (0 : Nat)] 61)
  have S := s2.trans s3
  have FF : Fr noB w w4 := (f1.trans S.fr (fun i hi h => by have := hdb i h; omega)).then' f4
  have FG := FF.then' f5
  go_upto_region 6 with fail
  obtain ⟨y0, y1, y2, y3, y4, y5, y6, y7, y8, yf⟩ := BlkAt.c9 hb
  go_wp2_with fail
  go_ret
  exact ⟨rfl, FG⟩
end Go.Proofs.Ytnkdlmmdaagonaa
