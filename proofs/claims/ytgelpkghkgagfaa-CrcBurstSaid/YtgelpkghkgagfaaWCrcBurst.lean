import Derived.Test.YtgelpkghkgagfaaL
import Derived.Test.YtgelpkghkgagfaaPCrcM
import Derived.Test.YtgelpkghkgagfaaPCrc
import Derived.Test.YtgelpkghkgagfaaPCrcB
namespace Go.AI
open Go.Proofs
set_option linter.unusedVariables false
set_option linter.unusedSimpArgs false
noncomputable def K5_43 : FuncId → Con := addC noC 43 (.val sp43)
theorem K5_43_ok : ConOk Try.prog K5_43 := addC_val noC_ok (w43 noC_ok)
noncomputable def K5_17 : FuncId → Con := addC K5_43 17 (.val sp17)
theorem K5_17_ok : ConOk Try.prog K5_17 := addC_val K5_43_ok (w17 K5_43_ok rfl s43)
noncomputable def K5_15 : FuncId → Con := addC K5_17 15 (.val sp15)
theorem K5_15_ok : ConOk Try.prog K5_15 := addC_val K5_17_ok (w15 K5_17_ok rfl s17)
noncomputable def K5_14 : FuncId → Con := addC K5_15 14 (.val sp14)
theorem K5_14_ok : ConOk Try.prog K5_14 := addC_val K5_15_ok (w14 K5_15_ok rfl s15 rfl s17)
set_option maxRecDepth 20000 in
theorem law5 : LawOk Try.prog 5 [(.slice 1 (.int .u8)), (.int .u16), (.cons (.int .u8) (.cons (.int .u8) (.cons (.int .u8) (.cons (.int .u8) .nil))))] := by
  refine law_of_val (w5 K5_14_ok rfl s14 rfl s15) ?_
  intro dvs hd
  obtain ⟨d0, _, rfl, h0, hd0⟩ := hasArgs_cons hd
  obtain ⟨x0, e0, r0⟩ := argS (has_sl has_u8) h0
  cases e0
  obtain ⟨d1, _, rfl, h1, hd1⟩ := hasArgs_cons hd0
  obtain ⟨x1, e1, r1⟩ := argI has_u16 h1
  cases e1
  obtain ⟨d2, _, rfl, h2, hd2⟩ := hasArgs_cons hd1
  obtain ⟨_, rfl, q2⟩ := hasArg_cons h2
  obtain ⟨x2, rfl, r2⟩ := has_arr4_u8 q2
  cases hasArgs_nil hd2
  exact (s5 x0 x1 x2 _ rfl).trans (by rw [pure_g_snafflelaw02_CrcBurst x0 x1 x2 r0 r1 r2]; rfl)
end Go.AI
