/- What fits. -/
import Derived.Test.YtpolaeonmmolnaaL
import Derived.Test.YtpolaeonmmolnaaALj
namespace Go.AI
set_option linter.unusedVariables false
set_option linter.unusedSimpArgs false

def fit (n : Int) : Prop := -9223372036854775808 ≤ n ∧ n < 9223372036854775808
instance (n : Int) : Decidable (fit n) := by unfold fit; infer_instance

end Go.AI
