/- interrexlaw03.lives. -/
import Derived.Test.YtpkdcbfhacgklaaFrame2
import Derived.Test.YtpkdcbfhacgklaaFrame3
namespace Go.Proofs.Ytpkdcbfhacgklaa
open Go.RowKit

set_option maxRecDepth 100000 in
set_option maxHeartbeats 1600000 in
theorem lives03_calls (w : World) : Calls Try.prog 23 #[] w (BoolPost w true) := by
  have hf : (frB 7 [] : List UInt8) = [1, 7, 0, 0, 0, 0] := by decide +kernel
  have hl10 : (frameB 7 []).length = 10 := by rw [frameB_length]; rfl
  have ht6 : (frameB 7 []).take 6 = [1, 7, 0, 0, 0, 0] := by
    unfold frameB sealB; rw [hf]; rfl
  go_enter Try.func23, Try.ntmps23
  go_wp2_with fail
  refine (newF_calls w).mono ?_
  rintro e w1 ⟨rfl, h1, f1, z1⟩
  have Z1 := hid z1; clear z1
  have hput := putF_calls w1 w.heap.size 7 false none 0 0 [] h1 (by decide) (RowAt.nil _ _) rfl (by decide) (fun _ => ⟨rfl, rfl⟩)
  clear h1
  generalize frameB 7 [] = bs at *
  go_wp2_with fail
  refine hput.mono ?_
  clear hput
  rintro e w2 ⟨A, c, rfl, hown, ht, f2⟩
  have hnl : Hid (bs.length = 10) := hl10
  rw [hl10] at hown ⊢
  obtain ⟨g, rfl⟩ : ∃ g, A = some ⟨g, 0, none⟩ := by
    rcases hown.2 with ⟨e, e2⟩ | ⟨g, cap, cur, e, _⟩
    · injection e with _ h; omega
    · injection e with e; exact ⟨g, e⟩
  have hc10 : 10 ≤ c := by
    rcases hown.2 with ⟨e, _⟩ | ⟨g', cap, cur, e, _, _, h3, _⟩
    · cases e
    · cases e; exact h3
  have hcm := own_capB hown
  have hr6 : RowAt w2 (some ⟨g, 0, none⟩) (bcells [1, 7, 0, 0, 0, 0]) := by
    have := (own_row hown).sub 0 6
    rw [← bcells_sub, List.drop_zero, ht6, add_zero'] at this
    exact this
  have F2 := hid ((f1.up0 w.heap.size).then' (f2.mono fun b _ hb => by unfold eqB at hb; unfold upB; omega)).none
  have hcv := Try.toStr hr6 (n := 6) rfl c
  clear hown ht hl10
  go_wp2_with fail
  go_ret
  exact ⟨by rw [mkS_toList]; rfl, F2.out⟩
end Go.Proofs.Ytpkdcbfhacgklaa
