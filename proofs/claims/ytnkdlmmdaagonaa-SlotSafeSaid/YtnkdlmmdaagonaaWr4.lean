/- octet.Writer's Bytes, a fresh Writer, and a []byte as a string. -/
import Derived.Test.YtnkdlmmdaagonaaWr3
import Derived.Test.YtnkdlmmdaagonaaClone
namespace Go.Proofs.Ytnkdlmmdaagonaa
open Go.RowKit

theorem bytes_calls (w : World) (S : Nat → Prop) (p : Nat) (bs : List UInt8) (h : WrAt w S p bs) (hl : bs.length ≤ 1000000000000) :
    Calls Try.prog 61 #[.pointer (some ⟨p, 0, none⟩)] w fun e w' => ∃ A c, e = .returned (.slice A bs.length c) ∧ w'.ownsRow w.heap.size 5 1 (.slice A bs.length c) bs.length (bcells bs) ∧ Fr noB w w' := by
  obtain ⟨A, m, c, T, HM, hT, hp, hown, hSp, hS, hc⟩ := h.open'
  rw [HM.out] at hl ⊢
  have hl' := hid hl; clear hl
  go_enter Try.func61, Try.ntmps61
  go_wp2_with fail
  refine (clone_calls w A m c bs (own_row hown) HM.out ?_ hl'.out).mono ?_
  · rintro rfl
    rcases hown.2 with ⟨e, _⟩ | ⟨g, cap, cur, e, _⟩ <;> cases e
    exact ⟨rfl, rfl⟩
  rintro e w' ⟨A', c', rfl, h1, h2, _⟩
  go_wp2
  go_ret
  exact ⟨A', c', rfl, h1, h2⟩
end Go.Proofs.Ytnkdlmmdaagonaa
