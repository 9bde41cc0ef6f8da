import Derived.Test.YtgelpkghkgagfaaL
import Derived.Test.YtgelpkghkgagfaaPCrcB
namespace Go.AI
open Go.Proofs
set_option linter.unusedVariables false
set_option linter.unusedSimpArgs false
noncomputable def K6_43 : FuncId → Con := addC noC 43 (.val sp43)
theorem K6_43_ok : ConOk Try.prog K6_43 := addC_val noC_ok (w43 noC_ok)
noncomputable def K6_17 : FuncId → Con := addC K6_43 17 (.val sp17)
theorem K6_17_ok : ConOk Try.prog K6_17 := addC_val K6_43_ok (w17 K6_43_ok rfl s43)
noncomputable def K6_15 : FuncId → Con := addC K6_17 15 (.val sp15)
theorem K6_15_ok : ConOk Try.prog K6_15 := addC_val K6_17_ok (w15 K6_17_ok rfl s17)
noncomputable def K6_14 : FuncId → Con := addC K6_15 14 (.val sp14)
theorem K6_14_ok : ConOk Try.prog K6_14 := addC_val K6_15_ok (w14 K6_15_ok rfl s15 rfl s17)
set_option maxRecDepth 20000 in
theorem law6 : LawOk Try.prog 6 [(.slice 1 (.int .u8)), (.slice 1 (.int .u8)), (.slice 1 (.int .u8))] := by
  refine law_of_val (w6 K6_14_ok rfl s14 rfl s15) ?_
  intro dvs hd
  obtain ⟨d0, _, rfl, h0, hd0⟩ := hasArgs_cons hd
  obtain ⟨x0, e0, r0⟩ := argS (has_sl has_u8) h0
  cases e0
  obtain ⟨d1, _, rfl, h1, hd1⟩ := hasArgs_cons hd0
  obtain ⟨x1, e1, r1⟩ := argS (has_sl has_u8) h1
  cases e1
  obtain ⟨d2, _, rfl, h2, hd2⟩ := hasArgs_cons hd1
  obtain ⟨x2, e2, r2⟩ := argS (has_sl has_u8) h2
  cases e2
  cases hasArgs_nil hd2
  exact (s6 x0 x1 x2 _ rfl).trans (by rw [pure_g_snafflelaw02_CrcTurns x0 x1 x2 r0 r1 r2]; rfl)
end Go.AI
