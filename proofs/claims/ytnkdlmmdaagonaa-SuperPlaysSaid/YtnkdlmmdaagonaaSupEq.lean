/- Super blocks compared. -/
import Derived.Test.YtnkdlmmdaagonaaSupR1
import Derived.Laws.StructEq
namespace Go.Proofs.Ytnkdlmmdaagonaa
open Go.RowKit
theorem SuV.eq_iff (e f : SuV) : e = f ↔ e.seq = f.seq ∧ e.view = f.view ∧ e.normal = f.normal ∧ e.gen = f.gen ∧ e.half = f.half ∧ e.slot = f.slot ∧ e.base = f.base ∧ e.size = f.size ∧ e.sum = f.sum := by
  obtain ⟨⟩ := e; obtain ⟨⟩ := f; simp
theorem nat_intU (a b : Nat) : ((a : Int) = b) = (a = b) := propext ⟨fun h => by omega, fun h => by omega⟩
open Classical in
theorem suNeq (w : World) (e f : SuV) : (binOp .neq 61 e.v f.v).run Try.prog w = .ok (.bool (!decide (e = f))) w := by
  have h1 : Try.prog.stoodInHeld 61 = false := by kernel_rfl
  have h2 : Try.prog.underlying 61 = some (.struct (Try.prog.fieldsOf 61)) := by kernel_rfl
  unfold SuV.v SuV.C
  rw [run_neq_struct, run_equalIn_struct w 9999 _ _ _ h2 h1]
  simp only [Program.fieldsOf, Try.underlying61]
  simp [go_sem]
  simp only [nat_intU]
  by_cases h : e = f
  · subst h; simp
  · simp only [h, decide_false, Bool.not_false]
    repeat' split
    all_goals first | rfl | (exfalso; apply h; rw [SuV.eq_iff]; simp_all)
open Classical in
theorem suEql (w : World) (e f : SuV) : (binOp .eql 61 e.v f.v).run Try.prog w = .ok (.bool (decide (e = f))) w := by
  have h1 : Try.prog.stoodInHeld 61 = false := by kernel_rfl
  have h2 : Try.prog.underlying 61 = some (.struct (Try.prog.fieldsOf 61)) := by kernel_rfl
  unfold SuV.v SuV.C
  rw [run_eql_struct, run_equalIn_struct w 9999 _ _ _ h2 h1]
  simp only [Program.fieldsOf, Try.underlying61]
  simp [go_sem]
  simp only [nat_intU]
  by_cases h : e = f
  · subst h; simp
  · simp only [h, decide_false]
    repeat' split
    all_goals first | rfl | (exfalso; apply h; rw [SuV.eq_iff]; simp_all)
open Classical in
theorem suNeqR (w : World) (e f : SuV) : (binOp .neq 64 e.v f.v).run Try.prog w = .ok (.bool (!decide (e = f))) w := by
  have h1 : Try.prog.stoodInHeld 64 = false := by kernel_rfl
  have h2 : Try.prog.underlying 64 = some (.struct (Try.prog.fieldsOf 64)) := by kernel_rfl
  unfold SuV.v SuV.C
  rw [run_neq_struct, run_equalIn_struct w 9999 _ _ _ h2 h1]
  simp only [Program.fieldsOf, Try.underlying64]
  simp [go_sem]
  simp only [nat_intU]
  by_cases h : e = f
  · subst h; simp
  · simp only [h, decide_false, Bool.not_false]
    repeat' split
    all_goals first | rfl | (exfalso; apply h; rw [SuV.eq_iff]; simp_all)
open Classical in
theorem suEqlR (w : World) (e f : SuV) : (binOp .eql 64 e.v f.v).run Try.prog w = .ok (.bool (decide (e = f))) w := by
  have h1 : Try.prog.stoodInHeld 64 = false := by kernel_rfl
  have h2 : Try.prog.underlying 64 = some (.struct (Try.prog.fieldsOf 64)) := by kernel_rfl
  unfold SuV.v SuV.C
  rw [run_eql_struct, run_equalIn_struct w 9999 _ _ _ h2 h1]
  simp only [Program.fieldsOf, Try.underlying64]
  simp [go_sem]
  simp only [nat_intU]
  by_cases h : e = f
  · subst h; simp
  · simp only [h, decide_false]
    repeat' split
    all_goals first | rfl | (exfalso; apply h; rw [SuV.eq_iff]; simp_all)
theorem Try.gSu : Try.prog.eqGuardType Try.prog.depth 61 = false := by kernel_rfl
theorem Try.gSuR : Try.prog.eqGuardType Try.prog.depth 64 = false := by kernel_rfl
end Go.Proofs.Ytnkdlmmdaagonaa
