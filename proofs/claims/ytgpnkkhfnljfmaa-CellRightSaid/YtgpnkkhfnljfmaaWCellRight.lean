/- The law, by what its function computes; no condition. -/
import Derived.Test.YtgpnkkhfnljfmaaL
import Derived.Test.YtgpnkkhfnljfmaaXBase
import Derived.Test.YtgpnkkhfnljfmaaXNum
import Derived.Test.YtgpnkkhfnljfmaaXOrder
import Derived.Test.YtgpnkkhfnljfmaaXOrderR
import Derived.Test.YtgpnkkhfnljfmaaXCellA
import Derived.Test.YtgpnkkhfnljfmaaXCellB
import Derived.Test.YtgpnkkhfnljfmaaXCellC
namespace Go.AI
open Go.Proofs
theorem law6 : LawOk Try.prog 6 [shCell, shOrder, .int .i64, .int .i64, shExpo, shExpo] := law_ofX t6 6 rfl rfl pure_CellRight
end Go.AI
