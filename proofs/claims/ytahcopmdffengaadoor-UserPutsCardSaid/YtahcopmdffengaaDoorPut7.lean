/- interrexlaw01.put, the last kinds, and all. -/
import Derived.Test.YtahcopmdffengaaDoorPut
namespace Go.Proofs.YtahcopmdffengaaDoor
open Go.RowKit

end Go.Proofs.YtahcopmdffengaaDoor
