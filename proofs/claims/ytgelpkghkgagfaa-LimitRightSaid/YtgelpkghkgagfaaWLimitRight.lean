import Derived.Test.YtgelpkghkgagfaaL
import Derived.Test.YtgelpkghkgagfaaPNum
import Derived.Test.YtgelpkghkgagfaaPLimit
namespace Go.AI
open Go.Proofs
set_option linter.unusedVariables false
set_option linter.unusedSimpArgs false
noncomputable def K7_32 : FuncId → Con := addC noC 32 (.val sp32)
theorem K7_32_ok : ConOk Try.prog K7_32 := addC_val noC_ok (w32 noC_ok)
noncomputable def K7_39 : FuncId → Con := addC K7_32 39 (.val sp39)
theorem K7_39_ok : ConOk Try.prog K7_39 := addC_val K7_32_ok (w39 K7_32_ok rfl s32)
noncomputable def K7_20 : FuncId → Con := addC K7_39 20 (.val sp20)
theorem K7_20_ok : ConOk Try.prog K7_20 := addC_val K7_39_ok (w20 K7_39_ok rfl s39)
noncomputable def K7_22 : FuncId → Con := addC K7_20 22 (.val sp22)
theorem K7_22_ok : ConOk Try.prog K7_22 := addC_val K7_20_ok (w22 K7_20_ok)
noncomputable def K7_44 : FuncId → Con := addC K7_22 44 (.val sp44)
theorem K7_44_ok : ConOk Try.prog K7_44 := addC_val K7_22_ok (w44 K7_22_ok)
noncomputable def K7_26 : FuncId → Con := addC K7_44 26 (.val sp26)
theorem K7_26_ok : ConOk Try.prog K7_26 := addC_val K7_44_ok (w26 K7_44_ok)
noncomputable def K7_24 : FuncId → Con := addC K7_26 24 (.val sp24)
theorem K7_24_ok : ConOk Try.prog K7_24 := addC_val K7_26_ok (w24 K7_26_ok rfl s44 rfl s26)
noncomputable def K7_28 : FuncId → Con := addC K7_24 28 (.val sp28)
theorem K7_28_ok : ConOk Try.prog K7_28 := addC_val K7_24_ok (w28 K7_24_ok)
noncomputable def K7_19 : FuncId → Con := addC K7_28 19 (.val sp19)
theorem K7_19_ok : ConOk Try.prog K7_19 := addC_val K7_28_ok (w19 K7_28_ok rfl s20 rfl s22 rfl s24 rfl s26 rfl s28)
noncomputable def K7_33 : FuncId → Con := addC K7_19 33 (.val sp33)
theorem K7_33_ok : ConOk Try.prog K7_33 := addC_val K7_19_ok (w33 K7_19_ok)
noncomputable def K7_21 : FuncId → Con := addC K7_33 21 (.val sp21)
theorem K7_21_ok : ConOk Try.prog K7_21 := addC_val K7_33_ok (w21 K7_33_ok rfl s33)
noncomputable def K7_23 : FuncId → Con := addC K7_21 23 (.val sp23)
theorem K7_23_ok : ConOk Try.prog K7_23 := addC_val K7_21_ok (w23 K7_21_ok)
noncomputable def K7_27 : FuncId → Con := addC K7_23 27 (.val sp27)
theorem K7_27_ok : ConOk Try.prog K7_27 := addC_val K7_23_ok (w27 K7_23_ok)
noncomputable def K7_25 : FuncId → Con := addC K7_27 25 (.val sp25)
theorem K7_25_ok : ConOk Try.prog K7_25 := addC_val K7_27_ok (w25 K7_27_ok rfl s27)
noncomputable def K7_29 : FuncId → Con := addC K7_25 29 (.val sp29)
theorem K7_29_ok : ConOk Try.prog K7_29 := addC_val K7_25_ok (w29 K7_25_ok)
set_option maxRecDepth 20000 in
theorem law7 : LawOk Try.prog 7 [(.cons (.int .i64) (.cons (.int .i64) (.cons (.int .i64) .nil))), (.cons (.int .i64) (.cons (.int .i64) (.cons (.int .i64) .nil))), (.cons (.int .i64) (.cons (.int .i64) (.cons (.int .i64) .nil))), (.int .i64), (.int .i64), (.int .i64), (.slice 4 (.cons (.int .i64) (.cons (.int .i64) (.cons (.int .i64) (.cons (.int .i64) .nil)))))] := by
  refine law_of_val (w7 K7_29_ok rfl s19 rfl s20 rfl s21 rfl s22 rfl s23 rfl s24 rfl s25 rfl s26 rfl s27 rfl s28 rfl s29) ?_
  intro dvs hd
  obtain ⟨d0, _, rfl, h0, hd0⟩ := hasArgs_cons hd
  obtain ⟨_, rfl, q0⟩ := hasArg_cons h0
  obtain ⟨x0, rfl, r0⟩ := has_ExpoT q0
  obtain ⟨d1, _, rfl, h1, hd1⟩ := hasArgs_cons hd0
  obtain ⟨_, rfl, q1⟩ := hasArg_cons h1
  obtain ⟨x1, rfl, r1⟩ := has_ExpoT q1
  obtain ⟨d2, _, rfl, h2, hd2⟩ := hasArgs_cons hd1
  obtain ⟨_, rfl, q2⟩ := hasArg_cons h2
  obtain ⟨x2, rfl, r2⟩ := has_ExpoT q2
  obtain ⟨d3, _, rfl, h3, hd3⟩ := hasArgs_cons hd2
  obtain ⟨x3, e3, r3⟩ := argI has_i64 h3
  cases e3
  obtain ⟨d4, _, rfl, h4, hd4⟩ := hasArgs_cons hd3
  obtain ⟨x4, e4, r4⟩ := argI has_i64 h4
  cases e4
  obtain ⟨d5, _, rfl, h5, hd5⟩ := hasArgs_cons hd4
  obtain ⟨x5, e5, r5⟩ := argI has_i64 h5
  cases e5
  obtain ⟨d6, _, rfl, h6, hd6⟩ := hasArgs_cons hd5
  obtain ⟨x6, e6, r6⟩ := argS (has_sl has_CellT) h6
  cases e6
  cases hasArgs_nil hd6
  exact (s7 x0 x1 x2 x3 x4 x5 x6 _ rfl).trans (by rw [pure_g_snafflelaw09_LimitRight x0 x1 x2 x3 x4 x5 x6 r0 r1 r2 r3 r4 r5 r6]; rfl)
end Go.AI
