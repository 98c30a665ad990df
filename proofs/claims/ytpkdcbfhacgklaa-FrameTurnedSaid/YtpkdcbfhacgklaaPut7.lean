/- interrexlaw01.put, the last kinds, and all. -/
import Derived.Test.YtpkdcbfhacgklaaPut
namespace Go.Proofs.Ytpkdcbfhacgklaa
open Go.RowKit

end Go.Proofs.Ytpkdcbfhacgklaa
