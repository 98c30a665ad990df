/- interrexlaw01.few, same. -/
import Derived.Test.YtnkdlmmdaagonaaWr4
import Derived.Test.YtnkdlmmdaagonaaSeg
namespace Go.Proofs.Ytnkdlmmdaagonaa
open Go.RowKit

/-- An Item as it lies in memory. -/
structure Item where
  k : Nat
  x : Nat
  is : Bool
  s : ByteArray
  LA : Option Addr
  Lc : Nat
  L : List ByteArray
  most : Int
  long : Int
  e : Int
def Item.cells (i : Item) : List Value := [Value.int .u8 i.k, .int .u64 i.x, .bool i.is, .string i.s, .slice i.LA i.L.length i.Lc, .int .i64 i.most, .int .i64 i.long, .int .i64 i.e]
/-- The integers of an item are integers of their types. -/
structure Item.wf (i : Item) : Prop where
  m1 : -9223372036854775808 ≤ i.most
  m2 : i.most ≤ 9223372036854775807
  l1 : -9223372036854775808 ≤ i.long
  l2 : i.long ≤ 9223372036854775807
  e1 : -9223372036854775808 ≤ i.e
  e2 : i.e ≤ 9223372036854775807
structure ItemsAt (w : World) (A : Option Addr) (l : List Item) : Prop where
  row : RowAt w A (l.flatMap Item.cells)
  sub : ∀ i ∈ l, RowAt w i.LA (strs i.L)
theorem Item.cells_length (i : Item) : i.cells.length = 8 := rfl
def Item.ok (i : Item) : Bool := decide (i.s.size ≤ 100) && decide (i.L.length ≤ 10) && i.L.all fun s => decide (s.size ≤ 50)
def fewB (l : List Item) : Bool := l.all Item.ok && decide (l.length ≤ 30)

/-- A call that answers b, and turns nothing that was there. -/
def BoolPost (w : World) (b : Bool) (e : Ending) (w' : World) : Prop := e = .returned (.bool b) ∧ Fr noB w w'
theorem BoolPost.mk' {w w' : World} {b b' : Bool} (h : b = b') (hf : Fr noB w w') : BoolPost w b' (.returned (.bool b)) w' := ⟨by rw [h], hf⟩

end Go.Proofs.Ytnkdlmmdaagonaa
