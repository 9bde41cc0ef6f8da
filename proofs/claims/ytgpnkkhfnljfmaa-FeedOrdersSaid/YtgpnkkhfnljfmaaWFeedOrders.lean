/- The law, by what its function computes; no condition. -/
import Derived.Test.YtgpnkkhfnljfmaaL
import Derived.Test.YtgpnkkhfnljfmaaXBase
import Derived.Test.YtgpnkkhfnljfmaaXFeedA
import Derived.Test.YtgpnkkhfnljfmaaXFeedB
import Derived.Test.YtgpnkkhfnljfmaaXFeedC
import Derived.Test.YtgpnkkhfnljfmaaXFeedD
import Derived.Test.YtgpnkkhfnljfmaaXFeedE
namespace Go.AI
open Go.Proofs
theorem law4 : LawOk Try.prog 4 [.slice 1 (.int .u8), .int .u16] := law_ofX t4 4 rfl rfl pure_FeedOrders
end Go.AI
