/- The law, by what its function computes; no condition. -/
import Derived.Test.YtgpnkkhfnljfmaaL
import Derived.Test.YtgpnkkhfnljfmaaXBase
import Derived.Test.YtgpnkkhfnljfmaaXNum
import Derived.Test.YtgpnkkhfnljfmaaXOrder
import Derived.Test.YtgpnkkhfnljfmaaXOrderR
import Derived.Test.YtgpnkkhfnljfmaaXCellA
import Derived.Test.YtgpnkkhfnljfmaaXCellB
import Derived.Test.YtgpnkkhfnljfmaaXCellC
import Derived.Test.YtgpnkkhfnljfmaaXCellD
namespace Go.AI
open Go.Proofs
theorem law7 : LawOk Try.prog 7 [shCell, shOrder, shOrder] := law_ofX t7 7 rfl rfl pure_CellBack
end Go.AI
