/- The law, by what its function computes; no condition. -/
import Derived.Test.YthmgondhniecnaaL
import Derived.Test.YthmgondhniecnaaXBase
import Derived.Test.YthmgondhniecnaaPCrcM
import Derived.Test.YthmgondhniecnaaXCrc
import Derived.Test.YthmgondhniecnaaXBytes
import Derived.Test.YthmgondhniecnaaXFrameA
import Derived.Test.YthmgondhniecnaaXFrameB
import Derived.Test.YthmgondhniecnaaXFrameC
import Derived.Test.YthmgondhniecnaaXFrameD
import Derived.Test.YthmgondhniecnaaXFrameE
import Derived.Test.YthmgondhniecnaaXFrameF
import Derived.Test.YthmgondhniecnaaXFrameG
import Derived.Test.YthmgondhniecnaaXFrameH
namespace Go.AI
open Go.Proofs
theorem law4 : LawOk Try.prog 4 [shFrame, shFrame, .slice 1 (.int .u8)] := law_ofX t4 4 rfl rfl pure_FrameBack
end Go.AI
