/- interrexlaw01.put, the last kinds, and all. -/
import Derived.Test.YtcaihinenfnekaaDoorPut
namespace Go.Proofs.YtcaihinenfnekaaDoor
open Go.RowKit

end Go.Proofs.YtcaihinenfnekaaDoor
