/- spec.l5Copy. -/
import Derived.Test.YtldpcjkfkcbfmaaDoorHalf
import Derived.Deep.RegionLaw
namespace Go.Proofs.YtldpcjkfkcbfmaaDoor
open Go Go.RowKit
set_option maxRecDepth 100000
end Go.Proofs.YtldpcjkfkcbfmaaDoor
