/- The law, by what its function computes; no condition. -/
import Derived.Test.YthmgondhniecnaaL
import Derived.Test.YthmgondhniecnaaXBase
import Derived.Test.YthmgondhniecnaaPCrcM
import Derived.Test.YthmgondhniecnaaXCrc
import Derived.Test.YthmgondhniecnaaXBytes
import Derived.Test.YthmgondhniecnaaXFrameA
import Derived.Test.YthmgondhniecnaaXFrameB
import Derived.Test.YthmgondhniecnaaXFrameC
import Derived.Test.YthmgondhniecnaaXFrameD
import Derived.Test.YthmgondhniecnaaXFrameE
import Derived.Test.YthmgondhniecnaaXFrameF
namespace Go.AI
open Go.Proofs
theorem law3 : LawOk Try.prog 3 [shFrame, .slice 1 (.int .u8)] := law_ofX t3 3 rfl rfl pure_FrameRight
end Go.AI
