/- The law, by what its function computes; no condition. -/
import Derived.Test.YtfmbbknpnokijaaL
import Derived.Test.YtfmbbknpnokijaaXBase
import Derived.Test.YtfmbbknpnokijaaXLoop
import Derived.Test.YtfmbbknpnokijaaXVenA
import Derived.Test.YtfmbbknpnokijaaXVenT
import Derived.Test.YtfmbbknpnokijaaXVenB
import Derived.Test.YtfmbbknpnokijaaXVenC
import Derived.Test.YtfmbbknpnokijaaXVenD
import Derived.Test.YtfmbbknpnokijaaXVenE
namespace Go.AI
open Go.Proofs
theorem law3 : LawOk Try.prog 3 [shVenue, shMsg, .bool, (.int .i64), (.int .i64)] := law_ofX t3 3 rfl rfl pure_VenueRight
end Go.AI
