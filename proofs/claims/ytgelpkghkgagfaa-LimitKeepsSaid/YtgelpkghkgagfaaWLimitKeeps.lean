import Derived.Test.YtgelpkghkgagfaaL
import Derived.Test.YtgelpkghkgagfaaPLimit
namespace Go.AI
open Go.Proofs
set_option linter.unusedVariables false
set_option linter.unusedSimpArgs false
noncomputable def K9_32 : FuncId → Con := addC noC 32 (.val sp32)
theorem K9_32_ok : ConOk Try.prog K9_32 := addC_val noC_ok (w32 noC_ok)
noncomputable def K9_39 : FuncId → Con := addC K9_32 39 (.val sp39)
theorem K9_39_ok : ConOk Try.prog K9_39 := addC_val K9_32_ok (w39 K9_32_ok rfl s32)
noncomputable def K9_20 : FuncId → Con := addC K9_39 20 (.val sp20)
theorem K9_20_ok : ConOk Try.prog K9_20 := addC_val K9_39_ok (w20 K9_39_ok rfl s39)
noncomputable def K9_22 : FuncId → Con := addC K9_20 22 (.val sp22)
theorem K9_22_ok : ConOk Try.prog K9_22 := addC_val K9_20_ok (w22 K9_20_ok)
noncomputable def K9_44 : FuncId → Con := addC K9_22 44 (.val sp44)
theorem K9_44_ok : ConOk Try.prog K9_44 := addC_val K9_22_ok (w44 K9_22_ok)
noncomputable def K9_26 : FuncId → Con := addC K9_44 26 (.val sp26)
theorem K9_26_ok : ConOk Try.prog K9_26 := addC_val K9_44_ok (w26 K9_44_ok)
noncomputable def K9_24 : FuncId → Con := addC K9_26 24 (.val sp24)
theorem K9_24_ok : ConOk Try.prog K9_24 := addC_val K9_26_ok (w24 K9_26_ok rfl s44 rfl s26)
noncomputable def K9_28 : FuncId → Con := addC K9_24 28 (.val sp28)
theorem K9_28_ok : ConOk Try.prog K9_28 := addC_val K9_24_ok (w28 K9_24_ok)
noncomputable def K9_19 : FuncId → Con := addC K9_28 19 (.val sp19)
theorem K9_19_ok : ConOk Try.prog K9_19 := addC_val K9_28_ok (w19 K9_28_ok rfl s20 rfl s22 rfl s24 rfl s26 rfl s28)
noncomputable def K9_30 : FuncId → Con := addC K9_19 30 (.val sp30)
theorem K9_30_ok : ConOk Try.prog K9_30 := addC_val K9_19_ok (w30 K9_19_ok)
set_option maxRecDepth 20000 in
theorem law9 : LawOk Try.prog 9 [(.cons (.int .i64) (.cons (.int .i64) (.cons (.int .i64) .nil))), (.cons (.int .i64) (.cons (.int .i64) (.cons (.int .i64) .nil))), (.cons (.int .i64) (.cons (.int .i64) (.cons (.int .i64) .nil))), (.cons (.int .i64) (.cons (.int .i64) (.cons (.int .i64) .nil)))] := by
  refine law_of_val (w9 K9_30_ok rfl s19 rfl s24 rfl s30 rfl s28) ?_
  intro dvs hd
  obtain ⟨d0, _, rfl, h0, hd0⟩ := hasArgs_cons hd
  obtain ⟨_, rfl, q0⟩ := hasArg_cons h0
  obtain ⟨x0, rfl, r0⟩ := has_ExpoT q0
  obtain ⟨d1, _, rfl, h1, hd1⟩ := hasArgs_cons hd0
  obtain ⟨_, rfl, q1⟩ := hasArg_cons h1
  obtain ⟨x1, rfl, r1⟩ := has_ExpoT q1
  obtain ⟨d2, _, rfl, h2, hd2⟩ := hasArgs_cons hd1
  obtain ⟨_, rfl, q2⟩ := hasArg_cons h2
  obtain ⟨x2, rfl, r2⟩ := has_ExpoT q2
  obtain ⟨d3, _, rfl, h3, hd3⟩ := hasArgs_cons hd2
  obtain ⟨_, rfl, q3⟩ := hasArg_cons h3
  obtain ⟨x3, rfl, r3⟩ := has_ExpoT q3
  cases hasArgs_nil hd3
  exact (s9 x0 x1 x2 x3 _ rfl).trans (by rw [pure_g_snafflelaw09_LimitKeeps x0 x1 x2 x3 r0 r1 r2 r3]; rfl)
end Go.AI
