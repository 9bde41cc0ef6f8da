/- The law, by what its function computes; no condition. -/
import Derived.Test.YtbcffodjbbcdhaaL
import Derived.Test.YtbcffodjbbcdhaaXBase
import Derived.Test.YtbcffodjbbcdhaaXLoop
import Derived.Test.YtbcffodjbbcdhaaXOrd
import Derived.Test.YtbcffodjbbcdhaaXDiskA
import Derived.Test.YtbcffodjbbcdhaaXDiskB
import Derived.Test.YtbcffodjbbcdhaaXDiskC
import Derived.Test.YtbcffodjbbcdhaaXDiskD
import Derived.Test.YtbcffodjbbcdhaaXDiskE
import Derived.Test.YtbcffodjbbcdhaaXDiskF
import Derived.Test.YtbcffodjbbcdhaaXDiskG
import Derived.Test.YtbcffodjbbcdhaaXDiskH
namespace Go.AI
open Go.Proofs
theorem law3 : LawOk Try.prog 3 [shDisk, (.slice 1 (.int .i64)), (.slice 1 (.int .i64))] := law_ofX t3 3 rfl rfl pure_DiskBack
end Go.AI
