/- The law, by what its function computes; no condition. -/
import Derived.Test.YthmgondhniecnaaL
import Derived.Test.YthmgondhniecnaaXBase
import Derived.Test.YthmgondhniecnaaPCrcM
import Derived.Test.YthmgondhniecnaaXCrc
import Derived.Test.YthmgondhniecnaaXBytes
import Derived.Test.YthmgondhniecnaaXFrameA
import Derived.Test.YthmgondhniecnaaXFrameB
import Derived.Test.YthmgondhniecnaaXFrameC
import Derived.Test.YthmgondhniecnaaXFrameD
import Derived.Test.YthmgondhniecnaaXFrameE
import Derived.Test.YthmgondhniecnaaXFrameF
import Derived.Test.YthmgondhniecnaaXFrameG
import Derived.Test.YthmgondhniecnaaXFrameH
import Derived.Test.YthmgondhniecnaaXTurn
import Derived.Test.YthmgondhniecnaaXFrameI
namespace Go.AI
open Go.Proofs
theorem law5 : LawOk Try.prog 5 [shFrame, .int .u8, .cons (.int .u8) (.cons (.int .u8) (.cons (.int .u8) (.cons (.int .u8) .nil))), .int .u8, .slice 1 (.int .u8)] := law_ofX t5 5 rfl rfl pure_FrameTurned
end Go.AI
