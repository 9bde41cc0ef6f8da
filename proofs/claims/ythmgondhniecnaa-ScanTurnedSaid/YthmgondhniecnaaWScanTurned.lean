/- The law, by what its function computes; no condition. -/
import Derived.Test.YthmgondhniecnaaL
import Derived.Test.YthmgondhniecnaaXBase
import Derived.Test.YthmgondhniecnaaPCrcM
import Derived.Test.YthmgondhniecnaaXCrc
import Derived.Test.YthmgondhniecnaaXBytes
import Derived.Test.YthmgondhniecnaaXFrameA
import Derived.Test.YthmgondhniecnaaXFrameB
import Derived.Test.YthmgondhniecnaaXFrameC
import Derived.Test.YthmgondhniecnaaXFrameD
import Derived.Test.YthmgondhniecnaaXFrameE
import Derived.Test.YthmgondhniecnaaXFrameF
import Derived.Test.YthmgondhniecnaaXFrameG
import Derived.Test.YthmgondhniecnaaXFrameH
import Derived.Test.YthmgondhniecnaaXTurn
import Derived.Test.YthmgondhniecnaaXFrameI
import Derived.Test.YthmgondhniecnaaXScanA
import Derived.Test.YthmgondhniecnaaXScanB
import Derived.Test.YthmgondhniecnaaXScanC
import Derived.Test.YthmgondhniecnaaXScanD
import Derived.Test.YthmgondhniecnaaXScanF
import Derived.Test.YthmgondhniecnaaXScanG
namespace Go.AI
open Go.Proofs
theorem law8 : LawOk Try.prog 8 [.slice 9 shFrame, .int .u16, .cons (.int .u8) (.cons (.int .u8) (.cons (.int .u8) (.cons (.int .u8) .nil))), .int .i64, .int .i64] := law_ofX t8 8 rfl rfl pure_ScanTurned
end Go.AI
