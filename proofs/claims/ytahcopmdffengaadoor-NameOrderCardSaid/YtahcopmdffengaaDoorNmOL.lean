/- NameOrder over its arguments. -/
import Derived.Test.YtahcopmdffengaaDoorNmOrd
namespace Go.Proofs.YtahcopmdffengaaDoor
open Go.RowKit
theorem nameOrder_law (w : World) (a : ByteArray) (_ : a.size ≤ maxLen) (b : ByteArray) (_ : b.size ≤ maxLen) (c : ByteArray) (_ : c.size ≤ maxLen) : Calls Tryd.prog 6 #[.string a, .string b, .string c] w (BoolPost w true) := order_walk w a b c
end Go.Proofs.YtahcopmdffengaaDoor
