/- The law, by what its function computes; no condition. -/
import Derived.Test.YtbcffodjbbcdhaaL
import Derived.Test.YtbcffodjbbcdhaaXBase
import Derived.Test.YtbcffodjbbcdhaaXLoop
import Derived.Test.YtbcffodjbbcdhaaXOrd
import Derived.Test.YtbcffodjbbcdhaaXDiskA
import Derived.Test.YtbcffodjbbcdhaaXDiskB
import Derived.Test.YtbcffodjbbcdhaaXDiskC
import Derived.Test.YtbcffodjbbcdhaaXDiskD
import Derived.Test.YtbcffodjbbcdhaaXDiskE
import Derived.Test.YtbcffodjbbcdhaaXDiskF
import Derived.Test.YtbcffodjbbcdhaaXDiskG
import Derived.Test.YtbcffodjbbcdhaaXDiskH
import Derived.Test.YtbcffodjbbcdhaaXDiskI
import Derived.Test.YtbcffodjbbcdhaaXDiskJ
import Derived.Test.YtbcffodjbbcdhaaXDiskK
import Derived.Test.YtbcffodjbbcdhaaXDiskL
import Derived.Test.YtbcffodjbbcdhaaXDiskM
namespace Go.AI
open Go.Proofs
theorem law7 : LawOk Try.prog 7 [(.slice 5 shDo), (.slice 5 shDo), (.int .u8), (.slice 1 (.int .i64))] := law_ofX t7 7 rfl rfl pure_DiskLasts
end Go.AI
