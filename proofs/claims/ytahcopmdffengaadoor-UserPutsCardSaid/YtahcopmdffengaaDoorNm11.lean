/- name.Compare. -/
import Derived.Test.YtahcopmdffengaaDoorNmOrdL
namespace Go.Proofs.YtahcopmdffengaaDoor
open Go.RowKit
def cmpS (s t : ByteArray) : Int := cmpL s.data.toList t.data.toList
theorem cmpS_cases (s t : ByteArray) : (Op.bytesLess s.toList t.toList = true ∧ cmpS s t = -1) ∨ (Op.bytesLess s.toList t.toList = false ∧ (s.toList == t.toList) = true ∧ cmpS s t = 0) ∨ (Op.bytesLess s.toList t.toList = false ∧ (s.toList == t.toList) = false ∧ cmpS s t = 1) := by
  unfold cmpS
  rw [ByteArray.toList_eq, ByteArray.toList_eq, cmpL_less]
  rcases cmpL_range s.data.toList t.data.toList with h | h | h
  · exact Or.inl ⟨by rw [h]; rfl, h⟩
  · refine Or.inr (Or.inl ⟨by rw [h]; rfl, ?_, h⟩)
    rw [beq_iff_eq]; exact (cmpL_eq _ _).mp h
  · refine Or.inr (Or.inr ⟨by rw [h]; rfl, ?_, h⟩)
    rw [beq_eq_false_iff_ne]; intro he
    rw [(cmpL_eq _ _).mpr he] at h; exact absurd h (by decide)
set_option maxRecDepth 100000 in
set_option maxHeartbeats 400000 in
theorem cmp_calls (w : World) (s t : ByteArray) : Calls Tryd.prog 52 #[.string s, .string t] w (fun e w' => e = .returned (.int .i64 (cmpS s t)) ∧ w = w') := by
  rcases cmpS_cases s t with ⟨h1, h2⟩ | ⟨h1, h3, h2⟩ | ⟨h1, h3, h2⟩
  all_goals
    rw [h2]
    have H2 := hid h2
    clear h2
    go_enter Tryd.func52, Tryd.ntmps52
    go_wp2
    go_ret
    exact ⟨rfl, rfl⟩
set_option maxRecDepth 100000 in
theorem compare_calls (w : World) (s t : ByteArray) : Calls Tryd.prog 22 #[.string s, .string t] w (fun e w' => e = .returned (.int .i64 (cmpS s t)) ∧ w = w') := by
  have hc := cmp_calls w s t
  go_enter Tryd.func22, Tryd.ntmps22
  go_wp2_with (refine hc.mono ?_; rintro e w' ⟨rfl, rfl⟩)
  go_ret
  exact ⟨rfl, rfl⟩
end Go.Proofs.YtahcopmdffengaaDoor
