/- []byte as a string, and a string as []byte. -/
import Derived.Test.YtcpcmcdfncjnaaaClone
import Derived.Laws.IdiomStrings
namespace Go.Proofs.Ytcpcmcdfncjnaaa
open Go.RowKit

def mkS (l : List UInt8) : ByteArray := ⟨l.toArray⟩
theorem mkS_data (l : List UInt8) : (mkS l).data.toList = l := rfl
theorem mkS_toList (l : List UInt8) : (mkS l).toList = l := by rw [ByteArray.toList_eq]; rfl
theorem mkS_size (l : List UInt8) : (mkS l).size = l.length := by simp [mkS, ByteArray.size]
theorem mkS_inj {a b : List UInt8} : mkS a = mkS b ↔ a = b := ⟨fun h => by rw [← mkS_data a, h, mkS_data], fun h => by rw [h]⟩
theorem mkS_of (s : ByteArray) : mkS s.data.toList = s := ByteArray.ext (Array.ext' rfl)

theorem Try.toStr {w : World} {A : Option Addr} {l : List UInt8} (h : RowAt w A (bcells l)) {n : Nat} (hn : l.length = n) (c : Nat) :
    (convert 30 9 (.slice A n c)).run Try.prog w = .ok (.string (mkS l)) w := by
  subst hn
  cases A with
  | some a =>
    refine run_convert_bytes_back w _ _ 5 a c l Try.underlying30 Try.underlying5 Try.underlying9 (fun j hj => h.cell ?_)
    simp [bcells, hj]
  | none =>
    have : l = [] := by
      rcases l with _ | ⟨b, l⟩
      · rfl
      · obtain ⟨ad, e⟩ := h.some_of (by simp [bcells]); cases e
    subst this
    rw [run_convert_bytes_string w _ _ 5 none _ c Try.underlying30 Try.underlying5 Try.underlying9]
    simp [Conv.bytesToString]
    rfl
end Go.Proofs.Ytcpcmcdfncjnaaa
