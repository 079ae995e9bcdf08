/- laws.toAccess, toAccessS, szAccessS. -/
import Derived.Test.YtnihhbmihbcgbaaDoorMarkAccess
import Derived.Test.YtnihhbmihbcgbaaDoorPass
namespace Go.Proofs.YtnihhbmihbcgbaaDoor
open Go Go.RowKit

end Go.Proofs.YtnihhbmihbcgbaaDoor
