/- The law, by what its function computes; no condition. -/
import Derived.Test.YthmgondhniecnaaL
import Derived.Test.YthmgondhniecnaaXBase
import Derived.Test.YthmgondhniecnaaXRecA
import Derived.Test.YthmgondhniecnaaXRecB
import Derived.Test.YthmgondhniecnaaXRecC
namespace Go.AI
open Go.Proofs
theorem law10 : LawOk Try.prog 10 [shRec, .int .i64, .cons (.int .i64) shNote, shNote, .int .i64, .int .i64] := law_ofX t10 10 rfl rfl pure_RecRight
end Go.AI
