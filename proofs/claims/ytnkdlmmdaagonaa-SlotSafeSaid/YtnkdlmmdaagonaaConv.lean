/- []byte as a string, and a string as []byte. -/
import Derived.Test.YtnkdlmmdaagonaaClone
import Derived.Laws.IdiomStrings
import Derived.Lib.ConvBytes
namespace Go.Proofs.Ytnkdlmmdaagonaa
open Go.RowKit

def mkS (l : List UInt8) : ByteArray := ⟨l.toArray⟩
theorem mkS_data (l : List UInt8) : (mkS l).data.toList = l := rfl
theorem mkS_toList (l : List UInt8) : (mkS l).toList = l := by rw [ByteArray.toList_eq]; rfl
theorem mkS_size (l : List UInt8) : (mkS l).size = l.length := by simp [mkS, ByteArray.size]
theorem mkS_inj {a b : List UInt8} : mkS a = mkS b ↔ a = b := ⟨fun h => by rw [← mkS_data a, h, mkS_data], fun h => by rw [h]⟩
theorem mkS_of (s : ByteArray) : mkS s.data.toList = s := ByteArray.ext (Array.ext' rfl)

theorem Try.toStr {w : World} {A : Option Addr} {l : List UInt8} (h : RowAt w A (bcells l)) {n : Nat} (hn : l.length = n) (c : Nat) :
    (convert 22 9 (.slice A n c)).run Try.prog w = .ok (.string (mkS l)) w := by
  subst hn
  cases A with
  | some a =>
    refine run_convert_bytes_back w _ _ 5 a c l Try.underlying22 Try.underlying5 Try.underlying9 (fun j hj => h.cell ?_)
    simp [bcells, hj]
  | none =>
    have : l = [] := by
      rcases l with _ | ⟨b, l⟩
      · rfl
      · obtain ⟨ad, e⟩ := h.some_of (by simp [bcells]); cases e
    subst this
    rw [run_convert_bytes_string w _ _ 5 none _ c Try.underlying22 Try.underlying5 Try.underlying9]
    simp [Conv.bytesToString]
    rfl

theorem new_row (w : World) (C : Array Value) (t : TypeId) : RowAt (w.alloc (.cells C t)) (some ⟨w.heap.size, 0, none⟩) C.toList := fun j u hu => by
  refine ⟨_, rfl, ?_⟩
  have e : (⟨w.heap.size, 0, none⟩ : Addr).add j = ⟨w.heap.size, j, none⟩ := by unfold Addr.add; split <;> simp_all
  rw [e, cell_of_row _ _ _ _ _ _ (heap_alloc_new w _)]
  simpa using hu
theorem Try.oneStr (w : World) (y : Nat) : (convert 22 9 (.slice (some ⟨w.heap.size, 0, none⟩) 1 1)).run Try.prog (w.alloc (.cells #[.int .u8 (y % 256 : Int)] 5)) =
    .ok (.string (mkS [UInt8.ofNat y])) (w.alloc (.cells #[.int .u8 (y % 256 : Int)] 5)) := by
  refine Try.toStr (l := [UInt8.ofNat y]) ?_ rfl 1
  have := new_row w #[.int .u8 (y % 256 : Int)] 5
  rw [show bcells [UInt8.ofNat y] = (#[Value.int .u8 (y % 256 : Int)] : Array Value).toList from (u8_one y).symm]
  exact this

theorem Try.fromStr (w : World) (s : ByteArray) : (convert 9 22 (.string s)).run Try.prog w = .ok (.slice (some ⟨w.heap.size, 0, none⟩) s.size (grownCap w s.size 0 5)) (Lib.bytesWorld w 5 s) :=
  Lib.run_convert_string_bytes w _ _ _ s Try.underlying9 Try.underlying22 Try.underlying5
theorem bytesW_fr (w : World) (s : ByteArray) : Fr noB w (Lib.bytesWorld w 5 s) := by
  refine ⟨?_, ?_, ?_, by rw [Lib.bytesWorld_size]; omega, fun k hk _ => Lib.bytesWorld_at_old w _ s k hk⟩
  all_goals
    unfold Lib.bytesWorld World.freeze
    split <;> rfl
theorem bytesW_row (w : World) (s : ByteArray) : RowAt (Lib.bytesWorld w 5 s) (some ⟨w.heap.size, 0, none⟩) (bcells s.data.toList) := fun j u hu => by
  refine ⟨_, rfl, ?_⟩
  have e : (⟨w.heap.size, 0, none⟩ : Addr).add j = ⟨w.heap.size, j, none⟩ := by unfold Addr.add; split <;> simp_all
  have hj : j < s.size := by have := (List.getElem?_eq_some_iff.1 hu).1; simpa [bcells] using this
  rw [e, Lib.bytesWorld_cell w _ s j hj]
  simp only [bcells, List.getElem?_map] at hu
  rw [List.getD_eq_getElem?_getD]
  cases h : s.data.toList[j]? with
  | none => rw [h] at hu; simp at hu
  | some b => rw [h] at hu; simpa using hu
end Go.Proofs.Ytnkdlmmdaagonaa
