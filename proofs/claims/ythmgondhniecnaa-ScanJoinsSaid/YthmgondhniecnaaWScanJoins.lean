/- The law, by what its function computes; no condition. -/
import Derived.Test.YthmgondhniecnaaL
import Derived.Test.YthmgondhniecnaaXBase
import Derived.Test.YthmgondhniecnaaPCrcM
import Derived.Test.YthmgondhniecnaaXCrc
import Derived.Test.YthmgondhniecnaaXBytes
import Derived.Test.YthmgondhniecnaaXFrameA
import Derived.Test.YthmgondhniecnaaXFrameB
import Derived.Test.YthmgondhniecnaaXFrameC
import Derived.Test.YthmgondhniecnaaXFrameD
import Derived.Test.YthmgondhniecnaaXFrameE
import Derived.Test.YthmgondhniecnaaXFrameF
import Derived.Test.YthmgondhniecnaaXFrameG
import Derived.Test.YthmgondhniecnaaXFrameH
import Derived.Test.YthmgondhniecnaaXTurn
import Derived.Test.YthmgondhniecnaaXFrameI
import Derived.Test.YthmgondhniecnaaXScanA
import Derived.Test.YthmgondhniecnaaXScanB
import Derived.Test.YthmgondhniecnaaXScanC
import Derived.Test.YthmgondhniecnaaXScanD
namespace Go.AI
open Go.Proofs
theorem law9 : LawOk Try.prog 9 [.slice 9 shFrame, .slice 9 shFrame, .int .i64, .int .i64] := law_ofX t9 9 rfl rfl pure_ScanJoins
end Go.AI
