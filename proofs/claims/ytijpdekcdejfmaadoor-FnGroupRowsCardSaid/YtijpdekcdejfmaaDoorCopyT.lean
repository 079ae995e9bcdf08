/- spec.l5Copy. -/
import Derived.Test.YtijpdekcdejfmaaDoorHalf
import Derived.Deep.RegionLaw
namespace Go.Proofs.YtijpdekcdejfmaaDoor
open Go Go.RowKit
set_option maxRecDepth 100000
end Go.Proofs.YtijpdekcdejfmaaDoor
