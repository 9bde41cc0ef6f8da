/- The law, by what its function computes; no condition. -/
import Derived.Test.YtbcffodjbbcdhaaL
import Derived.Test.YtbcffodjbbcdhaaXBase
import Derived.Test.YtbcffodjbbcdhaaXLoop
import Derived.Test.YtbcffodjbbcdhaaXOrd
import Derived.Test.YtbcffodjbbcdhaaXDiskA
import Derived.Test.YtbcffodjbbcdhaaXDiskB
import Derived.Test.YtbcffodjbbcdhaaXDiskC
import Derived.Test.YtbcffodjbbcdhaaXDiskD
import Derived.Test.YtbcffodjbbcdhaaXDiskE
import Derived.Test.YtbcffodjbbcdhaaXDiskF
import Derived.Test.YtbcffodjbbcdhaaXDiskN
import Derived.Test.YtbcffodjbbcdhaaPCrcM
import Derived.Test.YtbcffodjbbcdhaaXCrc
import Derived.Test.YtbcffodjbbcdhaaXBytes
import Derived.Test.YtbcffodjbbcdhaaXByteN
import Derived.Test.YtbcffodjbbcdhaaXSlotA
import Derived.Test.YtbcffodjbbcdhaaXSlotB
import Derived.Test.YtbcffodjbbcdhaaXSlotC
import Derived.Test.YtbcffodjbbcdhaaXSlotD
import Derived.Test.YtbcffodjbbcdhaaXSlotE
import Derived.Test.YtbcffodjbbcdhaaXSlotF
namespace Go.AI
open Go.Proofs
theorem law10 : LawOk Try.prog 10 [.slice 1 (.int .u8), .slice 1 (.int .i64)] := law_ofX t10 10 rfl rfl pure_SlotRow
end Go.AI
