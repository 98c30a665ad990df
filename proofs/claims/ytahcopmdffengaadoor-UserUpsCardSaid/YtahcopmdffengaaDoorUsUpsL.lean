/- UserUps over its arguments. -/
import Derived.Test.YtahcopmdffengaaDoorUsUps
import Derived.Test.YtahcopmdffengaaDoorOpenUs
namespace Go.Proofs.YtahcopmdffengaaDoor
open Go.RowKit
theorem userUps_law (w : World) (a : UsA) (h : a.ok w) (g : ByteArray) (_ : g.size ≤ maxLen) : Calls Tryd.prog 7 #[a.v, .string g] w (BoolPost w true) := ups_walk w a.u a.A a.n a.c g h.row h.len h.nc h.cm
end Go.Proofs.YtahcopmdffengaaDoor
