/- Name's laws over their arguments. -/
import Derived.Test.YtahcopmdffengaaDoorNm10
namespace Go.Proofs.YtahcopmdffengaaDoor
open Go.RowKit
theorem nameTells_law (w : World) (s : ByteArray) (_ : s.size ≤ maxLen) : Calls Tryd.prog 5 #[.string s] w (BoolPost w true) := tells_walk w s
theorem nameMails_law (w : World) (s : ByteArray) (_ : s.size ≤ maxLen) : Calls Tryd.prog 3 #[.string s] w (BoolPost w true) := mails_walk w s
theorem nameParts_law (w : World) (s : ByteArray) (_ : s.size ≤ maxLen) : Calls Tryd.prog 4 #[.string s] w (BoolPost w true) := parts_walk w s
end Go.Proofs.YtahcopmdffengaaDoor
