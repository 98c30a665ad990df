/- Ranges over a text of ASCII letters, the iterator in whatever block. -/
import Derived.Test.YtcaihinenfnekaaDoorBlk
import Derived.Lib.OthersKept
import Derived.Laws.RangeAny
namespace Go.Proofs.YtcaihinenfnekaaDoor
open Go.RowKit

/-- The iterator in block p stands at k in the text of these bytes. -/
def IterAt (w : World) (p : Nat) (z : List UInt8) (k : Nat) : Prop := w.heap[p]? = some (.stringIter (mkS z) k)
theorem IterAt.fr {S : Nat → Prop} {w w' : World} {p k : Nat} {z : List UInt8} (h : IterAt w p z k) (f : Fr S w w') (hp : ¬ S p) : IterAt w' p z k := f.heap h hp
theorem IterAt.lt {w : World} {p k : Nat} {z : List UInt8} (h : IterAt w p z k) : p < w.heap.size := (Array.getElem?_eq_some_iff.1 h).1
theorem IterAt.new (w : World) (z : List UInt8) : IterAt (w.iter (mkS z) 0) w.heap.size z 0 := World.iter_heap _ _ _
theorem IterAt.pos {w : World} {p k : Nat} {z : List UInt8} (h : IterAt w p z k) : w.iterPos p = k := by unfold World.iterPos; rw [show w.heap[p]? = _ from h]
theorem fr_iter (w : World) (s : ByteArray) (k : Nat) : Fr noB w (w.iter s k) := (Fr.refl noB w).alloc _
theorem fr_iterAt (w : World) (p : Nat) (s : ByteArray) (k : Nat) : Fr (eqB p) w (w.iterAt p s k) := ⟨rfl, rfl, rfl, by simp [World.iterAt], fun i hi hn => by
  simp only [World.iterAt, Array.getElem?_setIfInBounds]
  rw [if_neg (fun h => hn h.symm)]⟩
theorem IterAt.step {w : World} {p k : Nat} {z : List UInt8} {c : UInt8} {P : Program} (h : IterAt w p z k) (hc : z[k]? = some c) (ha : c.toNat < 128) :
    ∃ w2, Hid (w2 = w.iterAt p (mkS z) (k + 1)) ∧ (∀ ty, (Instr.next (.pointer (some ⟨p, 0, none⟩)) true ty).run P w = .ok (.tuple #[.bool true, .int .i64 k, .int .i32 c.toNat]) w2) ∧ IterAt w2 p z (k + 1) ∧ Fr (eqB p) w w2 := by
  obtain ⟨hk, hcc⟩ := List.getElem?_eq_some_iff.1 hc
  have hk' : k < (mkS z).size := by rw [mkS_size]; exact hk
  have e : (mkS z)[k]'hk' = c := by
    rw [← hcc]
    show (mkS z).data[k] = _
    simp [mkS]
  refine ⟨_, rfl, fun ty => ?_, Lib.iterAt_heap w p (mkS z) k (k + 1) h, fr_iterAt _ _ _ _⟩
  rw [Lib.run_next_ascii_at w p (mkS z) k ty h hk' (by rw [e]; exact ha), e]
theorem IterAt.stop {w : World} {p k : Nat} {z : List UInt8} {P : Program} (h : IterAt w p z k) (hk : z.length ≤ k) :
    ∀ ty, (Instr.next (.pointer (some ⟨p, 0, none⟩)) true ty).run P w = .ok (.tuple #[.bool false]) w := fun ty =>
  Lib.run_next_end_at w p (mkS z) k ty h (by rw [mkS_size]; omega)
end Go.Proofs.YtcaihinenfnekaaDoor
