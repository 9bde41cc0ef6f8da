/- The law, by what its function computes; no condition. -/
import Derived.Test.YtgpnkkhfnljfmaaL
import Derived.Test.YtgpnkkhfnljfmaaXCellA
namespace Go.AI
open Go.Proofs
theorem law8 : LawOk Try.prog 8 [shExpo, shExpo, shExpo] := law_ofX t8 8 rfl rfl pure_CellCovers
end Go.AI
