/- The law, by what its function computes; no condition. -/
import Derived.Test.YtgpnkkhfnljfmaaL
import Derived.Test.YtgpnkkhfnljfmaaXBase
import Derived.Test.YtgpnkkhfnljfmaaXNum
import Derived.Test.YtgpnkkhfnljfmaaXOrder
import Derived.Test.YtgpnkkhfnljfmaaXOrderR
import Derived.Test.YtgpnkkhfnljfmaaXCellA
import Derived.Test.YtgpnkkhfnljfmaaXCellB
import Derived.Test.YtgpnkkhfnljfmaaXCellC
import Derived.Test.YtgpnkkhfnljfmaaXCellD
import Derived.Test.YtgpnkkhfnljfmaaXCellE
namespace Go.AI
open Go.Proofs
theorem law9 : LawOk Try.prog 9 [shCell, shOrder, .int .i64, .int .i64] := law_ofX t9 9 rfl rfl pure_CellDone
end Go.AI
