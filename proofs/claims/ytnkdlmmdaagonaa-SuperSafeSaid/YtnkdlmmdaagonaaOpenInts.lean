/- Rows of ints among the arguments. -/
import Derived.Test.YtnkdlmmdaagonaaOpen
import Derived.Test.YtnkdlmmdaagonaaWr
import Derived.WalkKit
import Derived.ProofKit
namespace Go.Proofs.Ytnkdlmmdaagonaa
open Go.RowKit Go.ChangeShapes Go.WideShapes
def iCell (x : Int) : List Value := [.int .i64 x]
def iOK (x : Int) : Prop := -9223372036854775808 ≤ x ∧ x ≤ 9223372036854775807
section
variable {H : Type} {enc : TypeId × Value → H} {w : World}
theorem open_intC (n : Nat) (cs : List Value) (y : DataW H × List MemPlace) (h : DataW.trod enc Try.prog w 0 (fun _ => true) true n 3 cs = some y) :
    ∃ b : Int, cs = iCell b ∧ iOK b := by
  obtain ⟨n0, e0, _, w0⟩ := DataW.trod_int Try.underlying3 h
  simp [Lit.wf, IntKind.min, IntKind.max, IntKind.bits, IntKind.signed] at w0
  exact ⟨n0, e0, by unfold iOK; omega⟩
theorem open_ints {A : Option Addr} {len cap : Nat} {d : DataW H} {ps : List MemPlace} (h : DataW.Trod enc Try.prog w 0 (fun _ => true) true 82 (.slice A len cap) d ps) :
    ∃ L : List Int, RowAt w A (L.flatMap iCell) ∧ L.length = len ∧ len ≤ cap ∧ cap ≤ maxLen ∧ (∀ e ∈ L, iOK e) ∧ (A = none → len = 0 ∧ cap = 0) := by
  obtain ⟨l, h1, h2, h3, h4, h5, h6⟩ := open_rows iCell iOK Try.underlying82 open_intC h
  exact ⟨l, h1, h2, h3, h4, h5, h6⟩
end
end Go.Proofs.Ytnkdlmmdaagonaa
