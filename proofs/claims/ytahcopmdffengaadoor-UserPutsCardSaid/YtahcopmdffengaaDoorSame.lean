/- interrexlaw01.same. -/
import Derived.Test.YtahcopmdffengaaDoorFew
import Derived.Deep.QuietTactic
import Derived.BigQuiet
namespace Go.Proofs.YtahcopmdffengaaDoor
open Go.RowKit

theorem str_eq (s t : ByteArray) : (s.toList == t.toList) = decide (s = t) := by
  rw [ByteArray.toList_eq, ByteArray.toList_eq, Bool.eq_iff_iff, beq_iff_eq, decide_eq_true_iff]
  exact ⟨fun h => ByteArray.ext (Array.ext' h), fun h => by rw [h]⟩
end Go.Proofs.YtahcopmdffengaaDoor
