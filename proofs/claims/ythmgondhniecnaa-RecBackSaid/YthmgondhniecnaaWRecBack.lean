/- The law, by what its function computes; no condition. -/
import Derived.Test.YthmgondhniecnaaL
import Derived.Test.YthmgondhniecnaaXBase
import Derived.Test.YthmgondhniecnaaPCrcM
import Derived.Test.YthmgondhniecnaaXCrc
import Derived.Test.YthmgondhniecnaaXBytes
import Derived.Test.YthmgondhniecnaaXFrameA
import Derived.Test.YthmgondhniecnaaXFrameB
import Derived.Test.YthmgondhniecnaaXFrameC
import Derived.Test.YthmgondhniecnaaXFrameD
import Derived.Test.YthmgondhniecnaaXFrameE
import Derived.Test.YthmgondhniecnaaXFrameF
import Derived.Test.YthmgondhniecnaaXFrameG
import Derived.Test.YthmgondhniecnaaXFrameH
import Derived.Test.YthmgondhniecnaaXRecA
import Derived.Test.YthmgondhniecnaaXRecB
import Derived.Test.YthmgondhniecnaaXRecC
import Derived.Test.YthmgondhniecnaaXRecD
namespace Go.AI
open Go.Proofs
theorem law12 : LawOk Try.prog 12 [shRec, shRec, .int .i64, .cons (.int .i64) shNote] := law_ofX t12 12 rfl rfl pure_RecBack
end Go.AI
