/- A user as a value: what may be of a schema. -/
import Derived.Test.YtahcopmdffengaaDoorNm9
import Derived.Test.YtahcopmdffengaaDoorNmOrdL
namespace Go.Proofs.YtahcopmdffengaaDoor
open Go.RowKit
structure UsV where
  name : ByteArray
  hash : ByteArray
  mail : ByteArray
  dis : Bool
  gs : List ByteArray
/-- Do texts rise strictly? -/
def risesS : List ByteArray → Bool
  | a :: b :: l => decide (cmpL a.data.toList b.data.toList < 0) && risesS (b :: l)
  | _ => true
def groupsE (l : List ByteArray) : Nat := if 6 < l.length then 7 else if l.all nameS then (if risesS l then 0 else 9) else 10
def mailOk (s : ByteArray) : Bool := decide (s.size = 0) || (mailV s && decide (mailT s = s))
def checkU (schema : Int) (u : UsV) : Nat :=
  if schema = 1 ∨ schema = 2 then
    if nameS u.name then
      if hashS u.hash then
        if schema = 2 then (if mailOk u.mail then groupsE u.gs else 11)
        else if u.mail.size = 0 ∧ u.dis = false ∧ u.gs = [] then 0 else 12
      else 4
    else 10
  else 6
theorem risesS_get : ∀ (l : List ByteArray), risesS l = true ↔ ∀ i, (h : i + 1 < l.length) → cmpL (l[i]).data.toList (l[i + 1]).data.toList < 0
  | [] => by simp [risesS]
  | [_] => by simp [risesS]
  | a :: b :: l => by
    unfold risesS
    rw [Bool.and_eq_true, decide_eq_true_eq, risesS_get (b :: l)]
    constructor
    · rintro ⟨h1, h2⟩ i hi
      cases i with
      | zero => exact h1
      | succ i => exact h2 i (by simpa using hi)
    · intro h
      exact ⟨h 0 (by simp), fun i hi => h (i + 1) (by simpa using hi)⟩
end Go.Proofs.YtahcopmdffengaaDoor
