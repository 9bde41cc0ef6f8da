/- The law, by what its function computes; no condition. -/
import Derived.Test.YtgpnkkhfnljfmaaL
import Derived.Test.YtgpnkkhfnljfmaaXBase
import Derived.Test.YtgpnkkhfnljfmaaXFeedA
import Derived.Test.YtgpnkkhfnljfmaaXFeedB
import Derived.Test.YtgpnkkhfnljfmaaXFeedC
import Derived.Test.YtgpnkkhfnljfmaaXFeedD
namespace Go.AI
open Go.Proofs
theorem law3 : LawOk Try.prog 3 [shFeed, shNote, .int .i64] := law_ofX t3 3 rfl rfl pure_FeedRight
end Go.AI
