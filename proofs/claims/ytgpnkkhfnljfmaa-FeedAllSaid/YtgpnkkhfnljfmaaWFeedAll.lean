/- The law, by what its function computes; no condition. -/
import Derived.Test.YtgpnkkhfnljfmaaL
import Derived.Test.YtgpnkkhfnljfmaaXBase
import Derived.Test.YtgpnkkhfnljfmaaXFeedA
import Derived.Test.YtgpnkkhfnljfmaaXFeedB
import Derived.Test.YtgpnkkhfnljfmaaXFeedC
import Derived.Test.YtgpnkkhfnljfmaaXFeedD
import Derived.Test.YtgpnkkhfnljfmaaXFeedE
import Derived.Test.YtgpnkkhfnljfmaaXFeedF
namespace Go.AI
open Go.Proofs
theorem law5 : LawOk Try.prog 5 [.int .u8, .slice 1 (.int .u8), .slice 1 (.int .u8)] := law_ofX t5 5 rfl rfl pure_FeedAll
end Go.AI
