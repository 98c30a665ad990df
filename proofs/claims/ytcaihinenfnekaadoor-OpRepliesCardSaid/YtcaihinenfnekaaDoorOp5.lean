/- op.Check. -/
import Derived.Test.YtcaihinenfnekaaDoorOp4
import Derived.Test.YtcaihinenfnekaaDoorCalm
import Derived.Laws.StructEq
namespace Go.Proofs.YtcaihinenfnekaaDoor
open Go.RowKit

def zOf (o : OpV) : List UInt8 := signsL.getD o.k []
theorem zOf_get {o : OpV} (h : o.k < 17) : signsL[o.k]? = some (zOf o) := by
  unfold zOf
  rw [List.getD_eq_getElem?_getD, List.getElem?_eq_getElem (by simpa [signsL] using h)]
  rfl
open Classical in
noncomputable def bareB (o : OpV) : Bool := decide (o = bareFrom o (zOf o))
noncomputable def checkV (o : OpV) : Nat :=
  if 17 ≤ o.k then 4 else if bareB o = false then 4 else if (zOf o).all (rightV o) = false then 4
  else if 64 < o.a.size + o.b.size then 3 else if 64 < (writeB o (zOf o)).length then 3 else 0
theorem OpV.eq_iff (o p : OpV) : o = p ↔ o.k = p.k ∧ o.a = p.a ∧ o.b = p.b ∧ o.n = p.n ∧ o.r = p.r := by
  obtain ⟨⟩ := o; obtain ⟨⟩ := p; simp
open Classical in
theorem opNeq (w : World) (o p : OpV) : (binOp .neq 38 (.agg #[.int .u8 o.k, .string o.a, .string o.b, .int .u8 o.n, .int .u8 o.r]) (.agg #[.int .u8 p.k, .string p.a, .string p.b, .int .u8 p.n, .int .u8 p.r])).run Tryd.prog w = .ok (.bool (!decide (o = p))) w := by
  have h1 : Tryd.prog.stoodInHeld 38 = false := by kernel_rfl
  have h2 : Tryd.prog.underlying 38 = some (.struct (Tryd.prog.fieldsOf 38)) := by kernel_rfl
  rw [run_neq_struct, run_equalIn_struct w 9999 _ _ _ h2 h1]
  have ta : ∀ s t : ByteArray, s.toList = t.toList ↔ s = t := fun s t => by
    have := str_eq s t
    constructor
    · intro h; rw [h] at this; simpa using this.symm
    · intro h; rw [h]
  have hi : ∀ a b : Nat, ((a : Int) = b) ↔ a = b := fun a b => by omega
  simp only [Program.fieldsOf, Tryd.underlying38]
  simp [go_sem]
  have he := OpV.eq_iff o p
  by_cases h : o = p
  · subst h; simp
  · have hn := mt he.2 h
    simp only [ta, h, decide_false, Bool.not_false]
    by_cases a1 : o.k = p.k
    · by_cases a2 : o.a = p.a
      · by_cases a3 : o.b = p.b
        · by_cases a4 : o.n = p.n
          · by_cases a5 : o.r = p.r
            · exact absurd ⟨a1, a2, a3, a4, a5⟩ hn
            · rw [if_pos (by rw [a1]), if_pos a2, if_pos a3, if_pos (by rw [a4]), if_neg (by omega)]
          · rw [if_pos (by rw [a1]), if_pos a2, if_pos a3, if_neg (by omega)]
        · rw [if_pos (by rw [a1]), if_pos a2, if_neg a3]
      · rw [if_pos (by rw [a1]), if_neg a2]
    · rw [if_neg (by omega)]
end Go.Proofs.YtcaihinenfnekaaDoor
