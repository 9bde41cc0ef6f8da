/- The law, by what its function computes; no condition. -/
import Derived.Test.YthmgondhniecnaaL
import Derived.Test.YthmgondhniecnaaXBase
import Derived.Test.YthmgondhniecnaaXRecA
import Derived.Test.YthmgondhniecnaaXRecB
import Derived.Test.YthmgondhniecnaaXRecC
namespace Go.AI
open Go.Proofs
theorem law11 : LawOk Try.prog 11 [shRec, .int .i64] := law_ofX t11 11 rfl rfl pure_RecFields
end Go.AI
