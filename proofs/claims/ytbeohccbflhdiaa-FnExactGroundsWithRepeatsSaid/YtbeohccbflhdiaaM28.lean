/- Several of my texts in one: Ints. -/
import Derived.Test.YtbeohccbflhdiaaM5
import Derived.Test.YtbeohccbflhdiaaM3
/- Lists of numbers compared (for seats without the tapes). -/
namespace Go.Proofs.Ytbeohccbflhdiaa
open Go.RowKit

end Go.Proofs.Ytbeohccbflhdiaa
