/- Contracts of interrexref01's Reader. -/
import Derived.Test.YtnkdlmmdaagonaaRef1
import Derived.Test.YtnkdlmmdaagonaaRd3
import Derived.Test.YtnkdlmmdaagonaaCalmH
import Derived.Laws.ResultCell
namespace Go.Proofs.Ytnkdlmmdaagonaa
open Go.RowKit

def Rd.inv (r : Rd) : Prop := r.e ≠ 0 → r.bs = []
/-- A Reader of the reference, as a value. -/
def Rd.val (r : Rd) : Value := .agg #[.string (mkS r.bs), .int .i64 (r.e : Nat)]
theorem rFail_inv {r : Rd} (k : Nat) (h : r.inv) : (rFail r k).inv := by
  unfold rFail Rd.inv at *
  split
  · intro _; rfl
  · exact h
theorem rTake_inv {r : Rd} (n : Nat) (h : r.inv) : (rTake r n).1.inv := by
  unfold rTake
  split
  · exact rFail_inv 2 h
  · intro e; simp only at e ⊢; rw [h e]; simp
theorem fr_set2 (W : World) (b : Nat) (u v : Value) : Fr (eqB b) W ((W.setCell ⟨b, 0, none⟩ u).setCell ⟨b, 1, none⟩ v) :=
  Fr.setCell (S := eqB b) (Fr.setCell (S := eqB b) (Fr.refl _ W) (p := ⟨b, 0, none⟩) (Or.inl rfl) u) (p := ⟨b, 1, none⟩) (Or.inl rfl) v
theorem set2 {w : World} {b : Nat} {x y u v : Value} {t : TypeId} (h : w.heap[b]? = some (.cells #[x, y] t (0, 0))) : ((w.setCell ⟨b, 0, none⟩ u).setCell ⟨b, 1, none⟩ v).heap[b]? = some (.cells #[u, v] t (0, 0)) := two_set1 (two_set0 h)
theorem cells2 {W : World} {b : Nat} {x y : Value} {t : TypeId} (h : W.heap[b]? = some (.cells #[x, y] t (0, 0))) : W.cell? ⟨b, 0, none⟩ = some x ∧ W.cell? ⟨b, 1, none⟩ = some y := by
  constructor <;> simp [World.cell?, h]
theorem heap_al {W : World} {b : Nat} {o : Obj} (h : W.heap[b]? = some o) (o' : Obj) : (W.alloc o').heap[b]? = some o := ((Fr.refl noB W).alloc o').heap h id
theorem fr_cells {W w1 : World} {S : Nat → Prop} (f : Fr S W w1) {b : Nat} {c : Array Value} {t : TypeId} (h : W.heap[b]? = some (.cells c t (0, 0))) (hS : ¬ S b) :
    (∀ j v, c[j]? = some v → w1.cell? ⟨b, j, none⟩ = some v) ∧ ∀ j, w1.frozen? ⟨b, j, none⟩ = false := by
  have h1 := f.heap h hS
  exact ⟨fun j v hv => by simp [World.cell?, h1, hv], fun j => by simp [World.frozen?, h1]⟩
theorem heap_two (w : World) (A B : Obj) : ((w.alloc A).alloc B).heap[w.heap.size]? = some A ∧ ((w.alloc A).alloc B).heap[w.heap.size + 1]? = some B := by
  constructor
  · rw [Below.heap_alloc _ _ _ (by simp)]; exact heap_alloc_new w A
  · have := heap_alloc_new (w.alloc A) B
    rwa [World.size_alloc] at this
theorem mkS_from (bs : List UInt8) (k : Nat) : (mkS bs).extract k bs.length = mkS (bs.drop k) := by
  apply ByteArray.ext; apply Array.ext'
  simp [mkS]
  exact List.take_of_length_le (by simp)
theorem mkS_to (bs : List UInt8) (k : Nat) : (mkS bs).extract 0 k = mkS (bs.take k) := by
  apply ByteArray.ext; apply Array.ext'
  simp [mkS]

end Go.Proofs.Ytnkdlmmdaagonaa
