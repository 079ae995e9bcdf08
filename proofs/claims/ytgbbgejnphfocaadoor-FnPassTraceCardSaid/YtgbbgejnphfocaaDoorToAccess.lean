/- laws.toAccess, toAccessS, szAccessS. -/
import Derived.Test.YtgbbgejnphfocaaDoorMarkAccess
import Derived.Test.YtgbbgejnphfocaaDoorPass
namespace Go.Proofs.YtgbbgejnphfocaaDoor
open Go Go.RowKit

end Go.Proofs.YtgbbgejnphfocaaDoor
