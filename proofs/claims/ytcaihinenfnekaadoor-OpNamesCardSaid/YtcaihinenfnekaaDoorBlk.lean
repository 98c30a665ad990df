/- A block of cells, whole. -/
import Derived.Test.YtcaihinenfnekaaDoorConv
namespace Go.Proofs.YtcaihinenfnekaaDoor
open Go.RowKit
/-! ### A block of cells, whole -/
def BlkAt (w : World) (p : Nat) (T : TypeId) (C : Array Value) : Prop := w.heap[p]? = some (.cells C T (0, 0))
theorem BlkAt.fr {S : Nat → Prop} {w w' : World} {p : Nat} {T : TypeId} {C : Array Value} (h : BlkAt w p T C) (f : Fr S w w') (hp : ¬ S p) : BlkAt w' p T C := f.heap h hp
theorem BlkAt.cell {w : World} {p : Nat} {T : TypeId} {C : Array Value} (h : BlkAt w p T C) {k : Nat} {v : Value} (hk : C[k]? = some v) : w.cell? ⟨p, k, none⟩ = some v := by
  rw [cell_of_row _ _ _ _ _ _ h]; exact hk
theorem BlkAt.free {w : World} {p : Nat} {T : TypeId} {C : Array Value} (h : BlkAt w p T C) (k : Nat) : w.frozen? ⟨p, k, none⟩ = false := by
  unfold BlkAt at h
  simp [World.frozen?, h]
theorem BlkAt.set {w : World} {p : Nat} {T : TypeId} {C : Array Value} (h : BlkAt w p T C) (k : Nat) (v : Value) : BlkAt (w.setCell ⟨p, k, none⟩ v) p T (C.setIfInBounds k v) := by
  unfold BlkAt at *
  simp only [World.setCell, Array.getElem?_modify, h]
  simp
theorem BlkAt.new (w : World) (C : Array Value) (T : TypeId) : BlkAt (w.alloc (.cells C T)) w.heap.size T C := by
  show (w.heap.push _)[w.heap.size]? = _
  simp
theorem BlkAt.al {w : World} {p : Nat} {T : TypeId} {C : Array Value} (h : BlkAt w p T C) (o : Obj) : BlkAt (w.alloc o) p T C := ((Fr.refl noB w).alloc o).heap h id
theorem al_size (w : World) (o : Obj) : (w.alloc o).heap.size = w.heap.size + 1 := Array.size_push _
theorem BlkAt.drew {w : World} {p : Nat} {T : TypeId} {C : Array Value} (h : BlkAt w p T C) : BlkAt w.drew p T C := h
theorem BlkAt.lt {w : World} {p : Nat} {T : TypeId} {C : Array Value} (h : BlkAt w p T C) : p < w.heap.size := (Array.getElem?_eq_some_iff.1 h).1
theorem fr_set1 (w : World) (p k : Nat) (v : Value) : Fr (eqB p) w (w.setCell ⟨p, k, none⟩ v) := (Fr.refl (eqB p) w).setCell (p := ⟨p, k, none⟩) (Or.inl rfl) v
theorem sib_ne {C : Array Value} {i j : Nat} {v : Value} (h : i ≠ j) : (C.setIfInBounds i v)[j]? = C[j]? := by simp [Array.getElem?_setIfInBounds, h]
theorem sib_eq {C : Array Value} {i : Nat} {v : Value} (h : i < C.size) : (C.setIfInBounds i v)[i]? = some v := by simp [Array.getElem?_setIfInBounds, h]
end Go.Proofs.YtcaihinenfnekaaDoor
