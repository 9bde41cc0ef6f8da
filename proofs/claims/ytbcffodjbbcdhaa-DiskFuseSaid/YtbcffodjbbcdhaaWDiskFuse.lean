/- The law, by what its function computes; no condition. -/
import Derived.Test.YtbcffodjbbcdhaaL
import Derived.Test.YtbcffodjbbcdhaaXBase
import Derived.Test.YtbcffodjbbcdhaaXLoop
import Derived.Test.YtbcffodjbbcdhaaXOrd
import Derived.Test.YtbcffodjbbcdhaaXDiskA
import Derived.Test.YtbcffodjbbcdhaaXDiskB
import Derived.Test.YtbcffodjbbcdhaaXDiskC
import Derived.Test.YtbcffodjbbcdhaaXDiskD
import Derived.Test.YtbcffodjbbcdhaaXDiskE
import Derived.Test.YtbcffodjbbcdhaaXDiskF
import Derived.Test.YtbcffodjbbcdhaaXDiskG
import Derived.Test.YtbcffodjbbcdhaaXDiskH
import Derived.Test.YtbcffodjbbcdhaaXDiskI
import Derived.Test.YtbcffodjbbcdhaaXDiskJ
import Derived.Test.YtbcffodjbbcdhaaXDiskK
import Derived.Test.YtbcffodjbbcdhaaXDiskL
namespace Go.AI
open Go.Proofs
theorem law6 : LawOk Try.prog 6 [(.slice 5 shDo), (.int .u8), (.int .u16)] := law_ofX t6 6 rfl rfl pure_DiskFuse
end Go.AI
