/- A []byte among the arguments. -/
import Derived.Test.YtnkdlmmdaagonaaOpen
import Derived.Test.YtnkdlmmdaagonaaWr
namespace Go.Proofs.Ytnkdlmmdaagonaa
open Go.RowKit Go.ChangeShapes Go.WideShapes
section
variable {H : Type} {enc : TypeId × Value → H} {w : World}
theorem open_byte (n : Nat) (cs : List Value) (y : DataW H × List MemPlace) (h : DataW.trod enc Try.prog w 0 (fun _ => true) true n 5 cs = some y) :
    ∃ b : UInt8, cs = [Value.int .u8 (b.toNat : Nat)] ∧ True := by
  obtain ⟨n0, e0, _, w0⟩ := DataW.trod_int Try.underlying5 h
  simp [Lit.wf, IntKind.min, IntKind.max, IntKind.bits, IntKind.signed] at w0
  obtain ⟨m, rfl⟩ := Int.eq_ofNat_of_zero_le w0.1
  refine ⟨UInt8.ofNat m, ?_, trivial⟩
  rw [e0]
  have : (UInt8.ofNat m).toNat = m := by simp; omega
  rw [this]
theorem open_bytes {A : Option Addr} {len cap : Nat} {d : DataW H} {ps : List MemPlace} (h : DataW.Trod enc Try.prog w 0 (fun _ => true) true 22 (.slice A len cap) d ps) :
    ∃ l : List UInt8, RowAt w A (bcells l) ∧ l.length = len ∧ len ≤ cap ∧ cap ≤ maxLen ∧ (A = none → len = 0 ∧ cap = 0) := by
  obtain ⟨l, h1, h2, h3, h4, _, h6⟩ := open_rows (fun b : UInt8 => [Value.int .u8 (b.toNat : Nat)]) (fun _ => True) Try.underlying22 open_byte h
  refine ⟨l, ?_, h2, h3, h4, h6⟩
  have e : ∀ l : List UInt8, bcells l = l.flatMap (fun b : UInt8 => [Value.int .u8 (b.toNat : Nat)]) := fun l => by
    induction l with
    | nil => rfl
    | cons b l ih =>
      rw [List.flatMap_cons, ← ih]
      rfl
  rw [e]
  exact h1
end
end Go.Proofs.Ytnkdlmmdaagonaa
