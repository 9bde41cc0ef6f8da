import Derived.Test.YtgelpkghkgagfaaL
import Derived.Test.YtgelpkghkgagfaaPLimit
namespace Go.AI
open Go.Proofs
set_option linter.unusedVariables false
set_option linter.unusedSimpArgs false
noncomputable def K8_32 : FuncId → Con := addC noC 32 (.val sp32)
theorem K8_32_ok : ConOk Try.prog K8_32 := addC_val noC_ok (w32 noC_ok)
noncomputable def K8_39 : FuncId → Con := addC K8_32 39 (.val sp39)
theorem K8_39_ok : ConOk Try.prog K8_39 := addC_val K8_32_ok (w39 K8_32_ok rfl s32)
noncomputable def K8_20 : FuncId → Con := addC K8_39 20 (.val sp20)
theorem K8_20_ok : ConOk Try.prog K8_20 := addC_val K8_39_ok (w20 K8_39_ok rfl s39)
noncomputable def K8_22 : FuncId → Con := addC K8_20 22 (.val sp22)
theorem K8_22_ok : ConOk Try.prog K8_22 := addC_val K8_20_ok (w22 K8_20_ok)
noncomputable def K8_44 : FuncId → Con := addC K8_22 44 (.val sp44)
theorem K8_44_ok : ConOk Try.prog K8_44 := addC_val K8_22_ok (w44 K8_22_ok)
noncomputable def K8_26 : FuncId → Con := addC K8_44 26 (.val sp26)
theorem K8_26_ok : ConOk Try.prog K8_26 := addC_val K8_44_ok (w26 K8_44_ok)
noncomputable def K8_24 : FuncId → Con := addC K8_26 24 (.val sp24)
theorem K8_24_ok : ConOk Try.prog K8_24 := addC_val K8_26_ok (w24 K8_26_ok rfl s44 rfl s26)
noncomputable def K8_28 : FuncId → Con := addC K8_24 28 (.val sp28)
theorem K8_28_ok : ConOk Try.prog K8_28 := addC_val K8_24_ok (w28 K8_24_ok)
noncomputable def K8_19 : FuncId → Con := addC K8_28 19 (.val sp19)
theorem K8_19_ok : ConOk Try.prog K8_19 := addC_val K8_28_ok (w19 K8_28_ok rfl s20 rfl s22 rfl s24 rfl s26 rfl s28)
set_option maxRecDepth 20000 in
theorem law8 : LawOk Try.prog 8 [(.cons (.int .i64) (.cons (.int .i64) (.cons (.int .i64) .nil))), (.cons (.int .i64) (.cons (.int .i64) (.cons (.int .i64) .nil))), (.cons (.int .i64) (.cons (.int .i64) (.cons (.int .i64) .nil))), (.cons (.int .i64) (.cons (.int .i64) (.cons (.int .i64) .nil))), (.slice 4 (.cons (.int .i64) (.cons (.int .i64) (.cons (.int .i64) (.cons (.int .i64) .nil))))), (.int .u8)] := by
  refine law_of_val (w8 K8_19_ok rfl s19 rfl s24 rfl s20) ?_
  intro dvs hd
  obtain ⟨d0, _, rfl, h0, hd0⟩ := hasArgs_cons hd
  obtain ⟨_, rfl, q0⟩ := hasArg_cons h0
  obtain ⟨x0, rfl, r0⟩ := has_ExpoT q0
  obtain ⟨d1, _, rfl, h1, hd1⟩ := hasArgs_cons hd0
  obtain ⟨_, rfl, q1⟩ := hasArg_cons h1
  obtain ⟨x1, rfl, r1⟩ := has_ExpoT q1
  obtain ⟨d2, _, rfl, h2, hd2⟩ := hasArgs_cons hd1
  obtain ⟨_, rfl, q2⟩ := hasArg_cons h2
  obtain ⟨x2, rfl, r2⟩ := has_ExpoT q2
  obtain ⟨d3, _, rfl, h3, hd3⟩ := hasArgs_cons hd2
  obtain ⟨_, rfl, q3⟩ := hasArg_cons h3
  obtain ⟨x3, rfl, r3⟩ := has_ExpoT q3
  obtain ⟨d4, _, rfl, h4, hd4⟩ := hasArgs_cons hd3
  obtain ⟨x4, e4, r4⟩ := argS (has_sl has_CellT) h4
  cases e4
  obtain ⟨d5, _, rfl, h5, hd5⟩ := hasArgs_cons hd4
  obtain ⟨x5, e5, r5⟩ := argI has_u8 h5
  cases e5
  cases hasArgs_nil hd5
  exact (s8 x0 x1 x2 x3 x4 x5 _ rfl).trans (by rw [pure_g_snafflelaw09_LimitSteps x0 x1 x2 x3 x4 x5 r0 r1 r2 r3 r4 r5]; rfl)
end Go.AI
