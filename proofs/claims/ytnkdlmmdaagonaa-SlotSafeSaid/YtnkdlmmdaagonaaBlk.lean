/- A block of cells, whole. -/
import Derived.Test.YtnkdlmmdaagonaaConv
namespace Go.Proofs.Ytnkdlmmdaagonaa
open Go.RowKit
/-! ### A block of cells, whole -/
def BlkAt (w : World) (p : Nat) (T : TypeId) (C : Array Value) : Prop := w.heap[p]? = some (.cells C T (0, 0))
theorem BlkAt.fr {S : Nat → Prop} {w w' : World} {p : Nat} {T : TypeId} {C : Array Value} (h : BlkAt w p T C) (f : Fr S w w') (hp : ¬ S p) : BlkAt w' p T C := f.heap h hp
theorem BlkAt.cell {w : World} {p : Nat} {T : TypeId} {C : Array Value} (h : BlkAt w p T C) {k : Nat} {v : Value} (hk : C[k]? = some v) : w.cell? ⟨p, k, none⟩ = some v := by
  rw [cell_of_row _ _ _ _ _ _ h]; exact hk
theorem BlkAt.free {w : World} {p : Nat} {T : TypeId} {C : Array Value} (h : BlkAt w p T C) (k : Nat) : w.frozen? ⟨p, k, none⟩ = false := by
  unfold BlkAt at h
  simp [World.frozen?, h]
theorem BlkAt.set {w : World} {p : Nat} {T : TypeId} {C : Array Value} (h : BlkAt w p T C) (k : Nat) (v : Value) : BlkAt (w.setCell ⟨p, k, none⟩ v) p T (C.setIfInBounds k v) := by
  unfold BlkAt at *
  simp only [World.setCell, Array.getElem?_modify, h]
  simp
theorem BlkAt.new (w : World) (C : Array Value) (T : TypeId) : BlkAt (w.alloc (.cells C T)) w.heap.size T C := by
  show (w.heap.push _)[w.heap.size]? = _
  simp
theorem BlkAt.al {w : World} {p : Nat} {T : TypeId} {C : Array Value} (h : BlkAt w p T C) (o : Obj) : BlkAt (w.alloc o) p T C := ((Fr.refl noB w).alloc o).heap h id
theorem al_size (w : World) (o : Obj) : (w.alloc o).heap.size = w.heap.size + 1 := Array.size_push _
theorem BlkAt.drew {w : World} {p : Nat} {T : TypeId} {C : Array Value} (h : BlkAt w p T C) : BlkAt w.drew p T C := h
theorem BlkAt.lt {w : World} {p : Nat} {T : TypeId} {C : Array Value} (h : BlkAt w p T C) : p < w.heap.size := (Array.getElem?_eq_some_iff.1 h).1
theorem fr_set1 (w : World) (p k : Nat) (v : Value) : Fr (eqB p) w (w.setCell ⟨p, k, none⟩ v) := (Fr.refl (eqB p) w).setCell (p := ⟨p, k, none⟩) (Or.inl rfl) v
theorem sib_ne {C : Array Value} {i j : Nat} {v : Value} (h : i ≠ j) : (C.setIfInBounds i v)[j]? = C[j]? := by simp [Array.getElem?_setIfInBounds, h]
theorem sib_eq {C : Array Value} {i : Nat} {v : Value} (h : i < C.size) : (C.setIfInBounds i v)[i]? = some v := by simp [Array.getElem?_setIfInBounds, h]
theorem BlkAt.c1 {w : World} {p : Nat} {T : TypeId} {v0 : Value} (h : BlkAt w p T #[v0]) :
    w.cell? ⟨p, 0, none⟩ = some v0 ∧ ∀ j, w.frozen? ⟨p, j, none⟩ = false :=
  ⟨h.cell rfl, h.free⟩
theorem BlkAt.c2 {w : World} {p : Nat} {T : TypeId} {v0 v1 : Value} (h : BlkAt w p T #[v0, v1]) :
    w.cell? ⟨p, 0, none⟩ = some v0 ∧ w.cell? ⟨p, 1, none⟩ = some v1 ∧ ∀ j, w.frozen? ⟨p, j, none⟩ = false :=
  ⟨h.cell rfl, h.cell rfl, h.free⟩
theorem BlkAt.c3 {w : World} {p : Nat} {T : TypeId} {v0 v1 v2 : Value} (h : BlkAt w p T #[v0, v1, v2]) :
    w.cell? ⟨p, 0, none⟩ = some v0 ∧ w.cell? ⟨p, 1, none⟩ = some v1 ∧ w.cell? ⟨p, 2, none⟩ = some v2 ∧ ∀ j, w.frozen? ⟨p, j, none⟩ = false :=
  ⟨h.cell rfl, h.cell rfl, h.cell rfl, h.free⟩
theorem BlkAt.c4 {w : World} {p : Nat} {T : TypeId} {v0 v1 v2 v3 : Value} (h : BlkAt w p T #[v0, v1, v2, v3]) :
    w.cell? ⟨p, 0, none⟩ = some v0 ∧ w.cell? ⟨p, 1, none⟩ = some v1 ∧ w.cell? ⟨p, 2, none⟩ = some v2 ∧ w.cell? ⟨p, 3, none⟩ = some v3 ∧ ∀ j, w.frozen? ⟨p, j, none⟩ = false :=
  ⟨h.cell rfl, h.cell rfl, h.cell rfl, h.cell rfl, h.free⟩
theorem BlkAt.c5 {w : World} {p : Nat} {T : TypeId} {v0 v1 v2 v3 v4 : Value} (h : BlkAt w p T #[v0, v1, v2, v3, v4]) :
    w.cell? ⟨p, 0, none⟩ = some v0 ∧ w.cell? ⟨p, 1, none⟩ = some v1 ∧ w.cell? ⟨p, 2, none⟩ = some v2 ∧ w.cell? ⟨p, 3, none⟩ = some v3 ∧ w.cell? ⟨p, 4, none⟩ = some v4 ∧ ∀ j, w.frozen? ⟨p, j, none⟩ = false :=
  ⟨h.cell rfl, h.cell rfl, h.cell rfl, h.cell rfl, h.cell rfl, h.free⟩
theorem BlkAt.c6 {w : World} {p : Nat} {T : TypeId} {v0 v1 v2 v3 v4 v5 : Value} (h : BlkAt w p T #[v0, v1, v2, v3, v4, v5]) :
    w.cell? ⟨p, 0, none⟩ = some v0 ∧ w.cell? ⟨p, 1, none⟩ = some v1 ∧ w.cell? ⟨p, 2, none⟩ = some v2 ∧ w.cell? ⟨p, 3, none⟩ = some v3 ∧ w.cell? ⟨p, 4, none⟩ = some v4 ∧ w.cell? ⟨p, 5, none⟩ = some v5 ∧ ∀ j, w.frozen? ⟨p, j, none⟩ = false :=
  ⟨h.cell rfl, h.cell rfl, h.cell rfl, h.cell rfl, h.cell rfl, h.cell rfl, h.free⟩
theorem BlkAt.c7 {w : World} {p : Nat} {T : TypeId} {v0 v1 v2 v3 v4 v5 v6 : Value} (h : BlkAt w p T #[v0, v1, v2, v3, v4, v5, v6]) :
    w.cell? ⟨p, 0, none⟩ = some v0 ∧ w.cell? ⟨p, 1, none⟩ = some v1 ∧ w.cell? ⟨p, 2, none⟩ = some v2 ∧ w.cell? ⟨p, 3, none⟩ = some v3 ∧ w.cell? ⟨p, 4, none⟩ = some v4 ∧ w.cell? ⟨p, 5, none⟩ = some v5 ∧ w.cell? ⟨p, 6, none⟩ = some v6 ∧ ∀ j, w.frozen? ⟨p, j, none⟩ = false :=
  ⟨h.cell rfl, h.cell rfl, h.cell rfl, h.cell rfl, h.cell rfl, h.cell rfl, h.cell rfl, h.free⟩
theorem BlkAt.c8 {w : World} {p : Nat} {T : TypeId} {v0 v1 v2 v3 v4 v5 v6 v7 : Value} (h : BlkAt w p T #[v0, v1, v2, v3, v4, v5, v6, v7]) :
    w.cell? ⟨p, 0, none⟩ = some v0 ∧ w.cell? ⟨p, 1, none⟩ = some v1 ∧ w.cell? ⟨p, 2, none⟩ = some v2 ∧ w.cell? ⟨p, 3, none⟩ = some v3 ∧ w.cell? ⟨p, 4, none⟩ = some v4 ∧ w.cell? ⟨p, 5, none⟩ = some v5 ∧ w.cell? ⟨p, 6, none⟩ = some v6 ∧ w.cell? ⟨p, 7, none⟩ = some v7 ∧ ∀ j, w.frozen? ⟨p, j, none⟩ = false :=
  ⟨h.cell rfl, h.cell rfl, h.cell rfl, h.cell rfl, h.cell rfl, h.cell rfl, h.cell rfl, h.cell rfl, h.free⟩
theorem BlkAt.c9 {w : World} {p : Nat} {T : TypeId} {v0 v1 v2 v3 v4 v5 v6 v7 v8 : Value} (h : BlkAt w p T #[v0, v1, v2, v3, v4, v5, v6, v7, v8]) :
    w.cell? ⟨p, 0, none⟩ = some v0 ∧ w.cell? ⟨p, 1, none⟩ = some v1 ∧ w.cell? ⟨p, 2, none⟩ = some v2 ∧ w.cell? ⟨p, 3, none⟩ = some v3 ∧ w.cell? ⟨p, 4, none⟩ = some v4 ∧ w.cell? ⟨p, 5, none⟩ = some v5 ∧ w.cell? ⟨p, 6, none⟩ = some v6 ∧ w.cell? ⟨p, 7, none⟩ = some v7 ∧ w.cell? ⟨p, 8, none⟩ = some v8 ∧ ∀ j, w.frozen? ⟨p, j, none⟩ = false :=
  ⟨h.cell rfl, h.cell rfl, h.cell rfl, h.cell rfl, h.cell rfl, h.cell rfl, h.cell rfl, h.cell rfl, h.cell rfl, h.free⟩
theorem BlkAt.c10 {w : World} {p : Nat} {T : TypeId} {v0 v1 v2 v3 v4 v5 v6 v7 v8 v9 : Value} (h : BlkAt w p T #[v0, v1, v2, v3, v4, v5, v6, v7, v8, v9]) :
    w.cell? ⟨p, 0, none⟩ = some v0 ∧ w.cell? ⟨p, 1, none⟩ = some v1 ∧ w.cell? ⟨p, 2, none⟩ = some v2 ∧ w.cell? ⟨p, 3, none⟩ = some v3 ∧ w.cell? ⟨p, 4, none⟩ = some v4 ∧ w.cell? ⟨p, 5, none⟩ = some v5 ∧ w.cell? ⟨p, 6, none⟩ = some v6 ∧ w.cell? ⟨p, 7, none⟩ = some v7 ∧ w.cell? ⟨p, 8, none⟩ = some v8 ∧ w.cell? ⟨p, 9, none⟩ = some v9 ∧ ∀ j, w.frozen? ⟨p, j, none⟩ = false :=
  ⟨h.cell rfl, h.cell rfl, h.cell rfl, h.cell rfl, h.cell rfl, h.cell rfl, h.cell rfl, h.cell rfl, h.cell rfl, h.cell rfl, h.free⟩
theorem BlkAt.c11 {w : World} {p : Nat} {T : TypeId} {v0 v1 v2 v3 v4 v5 v6 v7 v8 v9 v10 : Value} (h : BlkAt w p T #[v0, v1, v2, v3, v4, v5, v6, v7, v8, v9, v10]) :
    w.cell? ⟨p, 0, none⟩ = some v0 ∧ w.cell? ⟨p, 1, none⟩ = some v1 ∧ w.cell? ⟨p, 2, none⟩ = some v2 ∧ w.cell? ⟨p, 3, none⟩ = some v3 ∧ w.cell? ⟨p, 4, none⟩ = some v4 ∧ w.cell? ⟨p, 5, none⟩ = some v5 ∧ w.cell? ⟨p, 6, none⟩ = some v6 ∧ w.cell? ⟨p, 7, none⟩ = some v7 ∧ w.cell? ⟨p, 8, none⟩ = some v8 ∧ w.cell? ⟨p, 9, none⟩ = some v9 ∧ w.cell? ⟨p, 10, none⟩ = some v10 ∧ ∀ j, w.frozen? ⟨p, j, none⟩ = false :=
  ⟨h.cell rfl, h.cell rfl, h.cell rfl, h.cell rfl, h.cell rfl, h.cell rfl, h.cell rfl, h.cell rfl, h.cell rfl, h.cell rfl, h.cell rfl, h.free⟩
theorem BlkAt.c12 {w : World} {p : Nat} {T : TypeId} {v0 v1 v2 v3 v4 v5 v6 v7 v8 v9 v10 v11 : Value} (h : BlkAt w p T #[v0, v1, v2, v3, v4, v5, v6, v7, v8, v9, v10, v11]) :
    w.cell? ⟨p, 0, none⟩ = some v0 ∧ w.cell? ⟨p, 1, none⟩ = some v1 ∧ w.cell? ⟨p, 2, none⟩ = some v2 ∧ w.cell? ⟨p, 3, none⟩ = some v3 ∧ w.cell? ⟨p, 4, none⟩ = some v4 ∧ w.cell? ⟨p, 5, none⟩ = some v5 ∧ w.cell? ⟨p, 6, none⟩ = some v6 ∧ w.cell? ⟨p, 7, none⟩ = some v7 ∧ w.cell? ⟨p, 8, none⟩ = some v8 ∧ w.cell? ⟨p, 9, none⟩ = some v9 ∧ w.cell? ⟨p, 10, none⟩ = some v10 ∧ w.cell? ⟨p, 11, none⟩ = some v11 ∧ ∀ j, w.frozen? ⟨p, j, none⟩ = false :=
  ⟨h.cell rfl, h.cell rfl, h.cell rfl, h.cell rfl, h.cell rfl, h.cell rfl, h.cell rfl, h.cell rfl, h.cell rfl, h.cell rfl, h.cell rfl, h.cell rfl, h.free⟩
end Go.Proofs.Ytnkdlmmdaagonaa
