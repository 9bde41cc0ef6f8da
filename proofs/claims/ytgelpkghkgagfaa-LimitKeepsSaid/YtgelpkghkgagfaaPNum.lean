/- Sums of numbers. -/
import Derived.Test.YtgelpkghkgagfaaL
import Derived.Test.YtgelpkghkgagfaaALj
namespace Go.AI
set_option linter.unusedVariables false
set_option linter.unusedSimpArgs false

def fit (n : Int) : Prop := -9223372036854775808 ≤ n ∧ n < 9223372036854775808
instance (n : Int) : Decidable (fit n) := by unfold fit; infer_instance

theorem num_Add {a b : Int} (ha : R_i64 a) (hb : R_i64 b) : g_num_Add a b = some (if fit (a + b) then (a + b, 0) else (0, 3)) := by
  unfold g_num_Add
  unfold R_i64 at ha hb
  have h := IntKind.wrap_i64 (a + b)
  by_cases h1 : fit (a + b)
  · have h2 := h1
    unfold fit at h2
    rw [wrap_of h2.1 h2.2, if_pos h1]
    have : ((decide (a + b > a) != decide (b > 0)) && b != 0) = false := by
      by_cases hb : b > 0
      · simp [hb]; omega
      · simp [hb]; omega
    rw [this]; rfl
  · have h2 := h1
    unfold fit at h2
    rw [if_neg h1]
    have : ((decide (IntKind.wrap .i64 (a + b) > a) != decide (b > 0)) && b != 0) = true := by
      simp only [Bool.and_eq_true, bne_iff_ne, ne_eq, decide_eq_decide]
      omega
    rw [this]; rfl
theorem ref01_Add {a b : Int} (ha : R_i64 a) (hb : R_i64 b) : g_snaffleref01_Add a b = some (if fit (a + b) then (a + b, true) else (0, false)) := by
  unfold g_snaffleref01_Add
  unfold R_i64 at ha hb
  have h := IntKind.wrap_i64 (9223372036854775807 - b)
  have h' := IntKind.wrap_i64 (-9223372036854775808 - b)
  by_cases h1 : fit (a + b)
  · have h2 := h1
    unfold fit at h2
    rw [wrap_of h2.1 h2.2, if_pos h1]
    have : (decide (b > 0) && decide (a > IntKind.wrap .i64 (9223372036854775807 - b)) || decide (b < 0) && decide (a < IntKind.wrap .i64 (-9223372036854775808 - b))) = false := by
      simp only [Bool.or_eq_false_iff, Bool.and_eq_false_iff, decide_eq_false_iff_not]
      omega
    rw [this]; rfl
  · have h2 := h1
    unfold fit at h2
    rw [if_neg h1]
    have : (decide (b > 0) && decide (a > IntKind.wrap .i64 (9223372036854775807 - b)) || decide (b < 0) && decide (a < IntKind.wrap .i64 (-9223372036854775808 - b))) = true := by
      simp only [Bool.or_eq_true, Bool.and_eq_true, decide_eq_true_eq]
      omega
    rw [this]; rfl
end Go.AI
