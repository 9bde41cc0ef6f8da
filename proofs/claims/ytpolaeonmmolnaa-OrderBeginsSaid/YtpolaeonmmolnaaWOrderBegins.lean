import Derived.Test.YtpolaeonmmolnaaL
import Derived.Test.YtpolaeonmmolnaaPOrder
import Derived.Test.YtpolaeonmmolnaaPOrderB
namespace Go.AI
open Go.Proofs
set_option linter.unusedVariables false
set_option linter.unusedSimpArgs false
noncomputable def K13_75 : FuncId → Con := addC noC 75 (.val sp75)
theorem K13_75_ok : ConOk Try.prog K13_75 := addC_val noC_ok (w75 noC_ok)
noncomputable def K13_76 : FuncId → Con := addC K13_75 76 (.val sp76)
theorem K13_76_ok : ConOk Try.prog K13_76 := addC_val K13_75_ok (w76 K13_75_ok)
noncomputable def K13_77 : FuncId → Con := addC K13_76 77 (.val sp77)
theorem K13_77_ok : ConOk Try.prog K13_77 := addC_val K13_76_ok (w77 K13_76_ok)
noncomputable def K13_78 : FuncId → Con := addC K13_77 78 (.val sp78)
theorem K13_78_ok : ConOk Try.prog K13_78 := addC_val K13_77_ok (w78 K13_77_ok)
noncomputable def K13_79 : FuncId → Con := addC K13_78 79 (.val sp79)
theorem K13_79_ok : ConOk Try.prog K13_79 := addC_val K13_78_ok (w79 K13_78_ok rfl s76 rfl s78)
noncomputable def K13_52 : FuncId → Con := addC K13_79 52 (.val sp52)
theorem K13_52_ok : ConOk Try.prog K13_52 := addC_val K13_79_ok (w52 K13_79_ok rfl s75 rfl s76 rfl s77 rfl s78 rfl s79)
noncomputable def K13_39 : FuncId → Con := addC K13_52 39 (.val sp39)
theorem K13_39_ok : ConOk Try.prog K13_39 := addC_val K13_52_ok (w39 K13_52_ok rfl s52)
noncomputable def K13_67 : FuncId → Con := addC K13_39 67 (.val sp67)
theorem K13_67_ok : ConOk Try.prog K13_67 := addC_val K13_39_ok (w67 K13_39_ok)
noncomputable def K13_68 : FuncId → Con := addC K13_67 68 (.val sp68)
theorem K13_68_ok : ConOk Try.prog K13_68 := addC_val K13_67_ok (w68 K13_67_ok rfl s52)
noncomputable def K13_41 : FuncId → Con := addC K13_68 41 (.val sp41)
theorem K13_41_ok : ConOk Try.prog K13_41 := addC_val K13_68_ok (w41 K13_68_ok rfl s67 rfl s68)
noncomputable def K13_69 : FuncId → Con := addC K13_41 69 (.val sp69)
theorem K13_69_ok : ConOk Try.prog K13_69 := addC_val K13_41_ok (w69 K13_41_ok)
noncomputable def K13_86 : FuncId → Con := addC K13_69 86 (.val sp86)
theorem K13_86_ok : ConOk Try.prog K13_86 := addC_val K13_69_ok (w86 K13_69_ok)
noncomputable def K13_85 : FuncId → Con := addC K13_86 85 (.val sp85)
theorem K13_85_ok : ConOk Try.prog K13_85 := addC_val K13_86_ok (w85 K13_86_ok rfl s86)
noncomputable def K13_70 : FuncId → Con := addC K13_85 70 (.val sp70)
theorem K13_70_ok : ConOk Try.prog K13_70 := addC_val K13_85_ok (w70 K13_85_ok rfl s85)
noncomputable def K13_71 : FuncId → Con := addC K13_70 71 (.val sp71)
theorem K13_71_ok : ConOk Try.prog K13_71 := addC_val K13_70_ok (w71 K13_70_ok rfl s85 rfl s67 rfl s86)
noncomputable def K13_43 : FuncId → Con := addC K13_71 43 (.val sp43)
theorem K13_43_ok : ConOk Try.prog K13_43 := addC_val K13_71_ok (w43 K13_71_ok rfl s41 rfl s69 rfl s52 rfl s70 rfl s71)
noncomputable def K13_61 : FuncId → Con := addC K13_43 61 (.val sp61)
theorem K13_61_ok : ConOk Try.prog K13_61 := addC_val K13_43_ok (w61 K13_43_ok)
noncomputable def K13_45 : FuncId → Con := addC K13_61 45 (.val sp45)
theorem K13_45_ok : ConOk Try.prog K13_45 := addC_val K13_61_ok (w45 K13_61_ok rfl s61 rfl s41 rfl s67)
noncomputable def K13_88 : FuncId → Con := addC K13_45 88 (.val sp88)
theorem K13_88_ok : ConOk Try.prog K13_88 := addC_val K13_45_ok (w88 K13_45_ok)
noncomputable def K13_87 : FuncId → Con := addC K13_88 87 (.val sp87)
theorem K13_87_ok : ConOk Try.prog K13_87 := addC_val K13_88_ok (w87 K13_88_ok)
noncomputable def K13_73 : FuncId → Con := addC K13_87 73 (.val sp73)
theorem K13_73_ok : ConOk Try.prog K13_73 := addC_val K13_87_ok (w73 K13_87_ok rfl s88 rfl s87)
noncomputable def K13_65 : FuncId → Con := addC K13_73 65 (.val sp65)
theorem K13_65_ok : ConOk Try.prog K13_65 := addC_val K13_73_ok (w65 K13_73_ok)
noncomputable def K13_49 : FuncId → Con := addC K13_65 49 (.val sp49)
theorem K13_49_ok : ConOk Try.prog K13_49 := addC_val K13_65_ok (w49 K13_65_ok rfl s41 rfl s73 rfl s65)
noncomputable def K13_47 : FuncId → Con := addC K13_49 47 (.val sp47)
theorem K13_47_ok : ConOk Try.prog K13_47 := addC_val K13_49_ok (w47 K13_49_ok rfl s41)
noncomputable def K13_37 : FuncId → Con := addC K13_47 37 (.val sp37)
theorem K13_37_ok : ConOk Try.prog K13_37 := addC_val K13_47_ok (w37 K13_47_ok rfl s41 rfl s65)
noncomputable def K13_38 : FuncId → Con := addC K13_37 38 (.val sp38)
theorem K13_38_ok : ConOk Try.prog K13_38 := addC_val K13_37_ok (w38 K13_37_ok rfl s39 rfl s43 rfl s45 rfl s49 rfl s47 rfl s37 rfl s41)
set_option maxRecDepth 20000 in
theorem law13 : LawOk Try.prog 13 [(.cons (.int .i64) (.cons (.int .i64) (.cons (.int .i64) (.cons (.int .i64) (.cons (.int .i64) (.cons (.int .i64) (.cons (.int .i64) (.cons (.int .i64) (.cons (.int .i64) (.cons (.int .i64) (.cons .bool (.cons (.int .i64) (.cons (.int .i64) .nil)))))))))))))] := by
  refine law_of_val (w13 K13_38_ok rfl s38 rfl s39 rfl s52 rfl s43 rfl s41 rfl s37) ?_
  intro dvs hd
  obtain ⟨d0, _, rfl, h0, hd0⟩ := hasArgs_cons hd
  obtain ⟨_, rfl, q0⟩ := hasArg_cons h0
  obtain ⟨x0, rfl, r0⟩ := has_RecT q0
  cases hasArgs_nil hd0
  exact (s13 x0 _ rfl).trans (by rw [pure_g_snafflelaw07_OrderBegins x0 r0]; rfl)
end Go.AI
