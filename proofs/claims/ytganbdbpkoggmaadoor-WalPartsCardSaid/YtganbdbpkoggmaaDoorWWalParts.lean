/- The law, by what its function computes. No condition. -/
import Derived.Test.YtganbdbpkoggmaaDoorPb
set_option linter.unusedVariables false
set_option linter.unusedSimpArgs false
namespace Go.AI
open Go.Proofs
theorem law3 {tabI : Inhabited TabsD} (hT : @qc5 tabI Tryd.prog) : @qtH tabI Tryd.prog 3 [(.slice 6 (.cons (.int .i64) (.cons (.int .i64) (.cons (.int .i64) (.cons (.int .i64) zc2))))), (.slice 1 .bool)] := law_ofT (t3 hT) 3 rfl rfl (fun a h => qsB a)
end Go.AI
