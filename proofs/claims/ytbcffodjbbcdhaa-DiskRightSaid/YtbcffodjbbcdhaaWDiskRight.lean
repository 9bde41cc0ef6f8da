/- The law, by what its function computes; no condition. -/
import Derived.Test.YtbcffodjbbcdhaaL
import Derived.Test.YtbcffodjbbcdhaaXBase
import Derived.Test.YtbcffodjbbcdhaaXLoop
import Derived.Test.YtbcffodjbbcdhaaXOrd
import Derived.Test.YtbcffodjbbcdhaaXDiskA
import Derived.Test.YtbcffodjbbcdhaaXDiskB
import Derived.Test.YtbcffodjbbcdhaaXDiskC
import Derived.Test.YtbcffodjbbcdhaaXDiskD
import Derived.Test.YtbcffodjbbcdhaaXDiskE
import Derived.Test.YtbcffodjbbcdhaaXDiskF
import Derived.Test.YtbcffodjbbcdhaaXDiskG
namespace Go.AI
open Go.Proofs
theorem law5 : LawOk Try.prog 5 [shDisk, .str, .str, (.slice 1 (.int .u8)), (.int .i64), (.slice 1 (.int .i64)), (.int .i64)] := law_ofX t5 5 rfl rfl pure_DiskRight
end Go.AI
