import Derived.Test.YtpolaeonmmolnaaL
import Derived.Test.YtpolaeonmmolnaaPOrder
import Derived.Test.YtpolaeonmmolnaaPOrderB
import Derived.Test.YtpolaeonmmolnaaPMul
import Derived.Test.YtpolaeonmmolnaaPOrderC
namespace Go.AI
open Go.Proofs
set_option linter.unusedVariables false
set_option linter.unusedSimpArgs false
noncomputable def K10_75 : FuncId → Con := addC noC 75 (.val sp75)
theorem K10_75_ok : ConOk Try.prog K10_75 := addC_val noC_ok (w75 noC_ok)
noncomputable def K10_76 : FuncId → Con := addC K10_75 76 (.val sp76)
theorem K10_76_ok : ConOk Try.prog K10_76 := addC_val K10_75_ok (w76 K10_75_ok)
noncomputable def K10_77 : FuncId → Con := addC K10_76 77 (.val sp77)
theorem K10_77_ok : ConOk Try.prog K10_77 := addC_val K10_76_ok (w77 K10_76_ok)
noncomputable def K10_78 : FuncId → Con := addC K10_77 78 (.val sp78)
theorem K10_78_ok : ConOk Try.prog K10_78 := addC_val K10_77_ok (w78 K10_77_ok)
noncomputable def K10_79 : FuncId → Con := addC K10_78 79 (.val sp79)
theorem K10_79_ok : ConOk Try.prog K10_79 := addC_val K10_78_ok (w79 K10_78_ok rfl s76 rfl s78)
noncomputable def K10_52 : FuncId → Con := addC K10_79 52 (.val sp52)
theorem K10_52_ok : ConOk Try.prog K10_52 := addC_val K10_79_ok (w52 K10_79_ok rfl s75 rfl s76 rfl s77 rfl s78 rfl s79)
noncomputable def K10_39 : FuncId → Con := addC K10_52 39 (.val sp39)
theorem K10_39_ok : ConOk Try.prog K10_39 := addC_val K10_52_ok (w39 K10_52_ok rfl s52)
noncomputable def K10_67 : FuncId → Con := addC K10_39 67 (.val sp67)
theorem K10_67_ok : ConOk Try.prog K10_67 := addC_val K10_39_ok (w67 K10_39_ok)
noncomputable def K10_68 : FuncId → Con := addC K10_67 68 (.val sp68)
theorem K10_68_ok : ConOk Try.prog K10_68 := addC_val K10_67_ok (w68 K10_67_ok rfl s52)
noncomputable def K10_41 : FuncId → Con := addC K10_68 41 (.val sp41)
theorem K10_41_ok : ConOk Try.prog K10_41 := addC_val K10_68_ok (w41 K10_68_ok rfl s67 rfl s68)
noncomputable def K10_69 : FuncId → Con := addC K10_41 69 (.val sp69)
theorem K10_69_ok : ConOk Try.prog K10_69 := addC_val K10_41_ok (w69 K10_41_ok)
noncomputable def K10_86 : FuncId → Con := addC K10_69 86 (.val sp86)
theorem K10_86_ok : ConOk Try.prog K10_86 := addC_val K10_69_ok (w86 K10_69_ok)
noncomputable def K10_85 : FuncId → Con := addC K10_86 85 (.val sp85)
theorem K10_85_ok : ConOk Try.prog K10_85 := addC_val K10_86_ok (w85 K10_86_ok rfl s86)
noncomputable def K10_70 : FuncId → Con := addC K10_85 70 (.val sp70)
theorem K10_70_ok : ConOk Try.prog K10_70 := addC_val K10_85_ok (w70 K10_85_ok rfl s85)
noncomputable def K10_71 : FuncId → Con := addC K10_70 71 (.val sp71)
theorem K10_71_ok : ConOk Try.prog K10_71 := addC_val K10_70_ok (w71 K10_70_ok rfl s85 rfl s67 rfl s86)
noncomputable def K10_43 : FuncId → Con := addC K10_71 43 (.val sp43)
theorem K10_43_ok : ConOk Try.prog K10_43 := addC_val K10_71_ok (w43 K10_71_ok rfl s41 rfl s69 rfl s52 rfl s70 rfl s71)
noncomputable def K10_61 : FuncId → Con := addC K10_43 61 (.val sp61)
theorem K10_61_ok : ConOk Try.prog K10_61 := addC_val K10_43_ok (w61 K10_43_ok)
noncomputable def K10_45 : FuncId → Con := addC K10_61 45 (.val sp45)
theorem K10_45_ok : ConOk Try.prog K10_45 := addC_val K10_61_ok (w45 K10_61_ok rfl s61 rfl s41 rfl s67)
noncomputable def K10_88 : FuncId → Con := addC K10_45 88 (.val sp88)
theorem K10_88_ok : ConOk Try.prog K10_88 := addC_val K10_45_ok (w88 K10_45_ok)
noncomputable def K10_87 : FuncId → Con := addC K10_88 87 (.val sp87)
theorem K10_87_ok : ConOk Try.prog K10_87 := addC_val K10_88_ok (w87 K10_88_ok)
noncomputable def K10_73 : FuncId → Con := addC K10_87 73 (.val sp73)
theorem K10_73_ok : ConOk Try.prog K10_73 := addC_val K10_87_ok (w73 K10_87_ok rfl s88 rfl s87)
noncomputable def K10_65 : FuncId → Con := addC K10_73 65 (.val sp65)
theorem K10_65_ok : ConOk Try.prog K10_65 := addC_val K10_73_ok (w65 K10_73_ok)
noncomputable def K10_49 : FuncId → Con := addC K10_65 49 (.val sp49)
theorem K10_49_ok : ConOk Try.prog K10_49 := addC_val K10_65_ok (w49 K10_65_ok rfl s41 rfl s73 rfl s65)
noncomputable def K10_47 : FuncId → Con := addC K10_49 47 (.val sp47)
theorem K10_47_ok : ConOk Try.prog K10_47 := addC_val K10_49_ok (w47 K10_49_ok rfl s41)
noncomputable def K10_37 : FuncId → Con := addC K10_47 37 (.val sp37)
theorem K10_37_ok : ConOk Try.prog K10_37 := addC_val K10_47_ok (w37 K10_47_ok rfl s41 rfl s65)
noncomputable def K10_38 : FuncId → Con := addC K10_37 38 (.val sp38)
theorem K10_38_ok : ConOk Try.prog K10_38 := addC_val K10_37_ok (w38 K10_37_ok rfl s39 rfl s43 rfl s45 rfl s49 rfl s47 rfl s37 rfl s41)
set_option maxRecDepth 20000 in
theorem law10 : LawOk Try.prog 10 [(.cons (.int .i64) (.cons (.int .i64) (.cons (.int .i64) (.cons (.int .i64) (.cons (.int .i64) (.cons (.int .i64) (.cons (.int .i64) (.cons (.int .i64) (.cons (.int .i64) (.cons (.int .i64) (.cons (.int .i64) (.cons .bool .nil)))))))))))), (.cons (.int .i64) (.cons (.int .i64) (.cons (.int .i64) (.cons (.int .i64) (.cons (.int .i64) .nil)))))] := by
  refine law_of_val (w10 K10_38_ok rfl s38 rfl s41 rfl s43 rfl s37 rfl s49) ?_
  intro dvs hd
  obtain ⟨d0, _, rfl, h0, hd0⟩ := hasArgs_cons hd
  obtain ⟨_, rfl, q0⟩ := hasArg_cons h0
  obtain ⟨x0, rfl, r0⟩ := has_OrderT q0
  obtain ⟨d1, _, rfl, h1, hd1⟩ := hasArgs_cons hd0
  obtain ⟨_, rfl, q1⟩ := hasArg_cons h1
  obtain ⟨x1, rfl, r1⟩ := has_NoteT q1
  cases hasArgs_nil hd1
  exact (s10 x0 x1 _ rfl).trans (by rw [pure_g_snafflelaw07_OrderLess x0 x1 r0 r1]; rfl)
end Go.AI
