/- The law, by what its function computes. No condition. -/
import Derived.Test.YtganbdbpkoggmaaDoorPb
set_option linter.unusedVariables false
set_option linter.unusedSimpArgs false
namespace Go.AI
open Go.Proofs
theorem law4 {tabI : Inhabited TabsD} (hT : @qc5 tabI Tryd.prog) : @qtH tabI Tryd.prog 4 [(.slice 1 (.int .u8)), (.slice 1 (.int .u8)), (.slice 1 (.int .i64)), (.int .u16)] := law_ofT (t4 hT) 4 rfl rfl (fun a h => zaU a h)
end Go.AI
