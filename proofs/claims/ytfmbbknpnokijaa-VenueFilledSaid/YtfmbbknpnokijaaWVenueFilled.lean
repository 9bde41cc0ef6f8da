/- The law, by what its function computes; no condition. -/
import Derived.Test.YtfmbbknpnokijaaL
import Derived.Test.YtfmbbknpnokijaaXBase
import Derived.Test.YtfmbbknpnokijaaXLoop
import Derived.Test.YtfmbbknpnokijaaXVenA
import Derived.Test.YtfmbbknpnokijaaXVenT
import Derived.Test.YtfmbbknpnokijaaXVenB
import Derived.Test.YtfmbbknpnokijaaXVenC
import Derived.Test.YtfmbbknpnokijaaXVenD
import Derived.Test.YtfmbbknpnokijaaXVenE
import Derived.Test.YtfmbbknpnokijaaXVenF
import Derived.Test.YtfmbbknpnokijaaXVenG
namespace Go.AI
open Go.Proofs
theorem law4 : LawOk Try.prog 4 [(.slice 5 shDeed)] := law_ofX t4 4 rfl rfl pure_VenueFilled
end Go.AI
