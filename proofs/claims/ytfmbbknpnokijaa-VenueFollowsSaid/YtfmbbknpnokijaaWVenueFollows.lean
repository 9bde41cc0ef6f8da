/- The law, by what its function computes; no condition. -/
import Derived.Test.YtfmbbknpnokijaaL
import Derived.Test.YtfmbbknpnokijaaXBase
import Derived.Test.YtfmbbknpnokijaaXLoop
import Derived.Test.YtfmbbknpnokijaaXVenA
import Derived.Test.YtfmbbknpnokijaaXVenT
import Derived.Test.YtfmbbknpnokijaaXVenB
import Derived.Test.YtfmbbknpnokijaaXVenC
import Derived.Test.YtfmbbknpnokijaaXVenD
import Derived.Test.YtfmbbknpnokijaaXVenE
import Derived.Test.YtfmbbknpnokijaaXVenF
import Derived.Test.YtfmbbknpnokijaaXVenG
import Derived.Test.YtfmbbknpnokijaaXVenH
import Derived.Test.YtfmbbknpnokijaaXVenI
import Derived.Test.YtfmbbknpnokijaaXVenJ
namespace Go.AI
open Go.Proofs
theorem law5 : LawOk Try.prog 5 [(.int .u8), (.int .u8), (.slice 5 shDeed)] := law_ofX t5 5 rfl rfl pure_VenueFollows
end Go.AI
