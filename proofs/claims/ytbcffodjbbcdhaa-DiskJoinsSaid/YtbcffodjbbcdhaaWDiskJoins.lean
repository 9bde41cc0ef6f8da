/- The law, by what its function computes; no condition. -/
import Derived.Test.YtbcffodjbbcdhaaL
import Derived.Test.YtbcffodjbbcdhaaXBase
import Derived.Test.YtbcffodjbbcdhaaXLoop
import Derived.Test.YtbcffodjbbcdhaaXOrd
import Derived.Test.YtbcffodjbbcdhaaXDiskA
import Derived.Test.YtbcffodjbbcdhaaXDiskB
import Derived.Test.YtbcffodjbbcdhaaXDiskC
import Derived.Test.YtbcffodjbbcdhaaXDiskD
import Derived.Test.YtbcffodjbbcdhaaXDiskE
import Derived.Test.YtbcffodjbbcdhaaXDiskF
import Derived.Test.YtbcffodjbbcdhaaXDiskG
import Derived.Test.YtbcffodjbbcdhaaXDiskH
import Derived.Test.YtbcffodjbbcdhaaXDiskI
import Derived.Test.YtbcffodjbbcdhaaXDiskJ
namespace Go.AI
open Go.Proofs
theorem law4 : LawOk Try.prog 4 [shDisk, .str, .str, (.slice 1 (.int .u8)), (.slice 1 (.int .u8)), (.int .i64)] := law_ofX t4 4 rfl rfl pure_DiskJoins
end Go.AI
