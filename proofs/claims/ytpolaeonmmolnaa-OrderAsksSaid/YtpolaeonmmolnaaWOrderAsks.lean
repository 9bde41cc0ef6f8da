import Derived.Test.YtpolaeonmmolnaaL
import Derived.Test.YtpolaeonmmolnaaPOA
namespace Go.AI
open Go.Proofs
set_option linter.unusedVariables false
set_option linter.unusedSimpArgs false
noncomputable def K12_75 : FuncId → Con := addC noC 75 (.val sp75)
theorem K12_75_ok : ConOk Try.prog K12_75 := addC_val noC_ok (w75 noC_ok)
noncomputable def K12_76 : FuncId → Con := addC K12_75 76 (.val sp76)
theorem K12_76_ok : ConOk Try.prog K12_76 := addC_val K12_75_ok (w76 K12_75_ok)
noncomputable def K12_77 : FuncId → Con := addC K12_76 77 (.val sp77)
theorem K12_77_ok : ConOk Try.prog K12_77 := addC_val K12_76_ok (w77 K12_76_ok)
noncomputable def K12_78 : FuncId → Con := addC K12_77 78 (.val sp78)
theorem K12_78_ok : ConOk Try.prog K12_78 := addC_val K12_77_ok (w78 K12_77_ok)
noncomputable def K12_79 : FuncId → Con := addC K12_78 79 (.val sp79)
theorem K12_79_ok : ConOk Try.prog K12_79 := addC_val K12_78_ok (w79 K12_78_ok rfl s76 rfl s78)
noncomputable def K12_52 : FuncId → Con := addC K12_79 52 (.val sp52)
theorem K12_52_ok : ConOk Try.prog K12_52 := addC_val K12_79_ok (w52 K12_79_ok rfl s75 rfl s76 rfl s77 rfl s78 rfl s79)
noncomputable def K12_39 : FuncId → Con := addC K12_52 39 (.val sp39)
theorem K12_39_ok : ConOk Try.prog K12_39 := addC_val K12_52_ok (w39 K12_52_ok rfl s52)
noncomputable def K12_67 : FuncId → Con := addC K12_39 67 (.val sp67)
theorem K12_67_ok : ConOk Try.prog K12_67 := addC_val K12_39_ok (w67 K12_39_ok)
noncomputable def K12_68 : FuncId → Con := addC K12_67 68 (.val sp68)
theorem K12_68_ok : ConOk Try.prog K12_68 := addC_val K12_67_ok (w68 K12_67_ok rfl s52)
noncomputable def K12_41 : FuncId → Con := addC K12_68 41 (.val sp41)
theorem K12_41_ok : ConOk Try.prog K12_41 := addC_val K12_68_ok (w41 K12_68_ok rfl s67 rfl s68)
noncomputable def K12_69 : FuncId → Con := addC K12_41 69 (.val sp69)
theorem K12_69_ok : ConOk Try.prog K12_69 := addC_val K12_41_ok (w69 K12_41_ok)
noncomputable def K12_86 : FuncId → Con := addC K12_69 86 (.val sp86)
theorem K12_86_ok : ConOk Try.prog K12_86 := addC_val K12_69_ok (w86 K12_69_ok)
noncomputable def K12_85 : FuncId → Con := addC K12_86 85 (.val sp85)
theorem K12_85_ok : ConOk Try.prog K12_85 := addC_val K12_86_ok (w85 K12_86_ok rfl s86)
noncomputable def K12_70 : FuncId → Con := addC K12_85 70 (.val sp70)
theorem K12_70_ok : ConOk Try.prog K12_70 := addC_val K12_85_ok (w70 K12_85_ok rfl s85)
noncomputable def K12_71 : FuncId → Con := addC K12_70 71 (.val sp71)
theorem K12_71_ok : ConOk Try.prog K12_71 := addC_val K12_70_ok (w71 K12_70_ok rfl s85 rfl s67 rfl s86)
noncomputable def K12_43 : FuncId → Con := addC K12_71 43 (.val sp43)
theorem K12_43_ok : ConOk Try.prog K12_43 := addC_val K12_71_ok (w43 K12_71_ok rfl s41 rfl s69 rfl s52 rfl s70 rfl s71)
noncomputable def K12_61 : FuncId → Con := addC K12_43 61 (.val sp61)
theorem K12_61_ok : ConOk Try.prog K12_61 := addC_val K12_43_ok (w61 K12_43_ok)
noncomputable def K12_45 : FuncId → Con := addC K12_61 45 (.val sp45)
theorem K12_45_ok : ConOk Try.prog K12_45 := addC_val K12_61_ok (w45 K12_61_ok rfl s61 rfl s41 rfl s67)
noncomputable def K12_88 : FuncId → Con := addC K12_45 88 (.val sp88)
theorem K12_88_ok : ConOk Try.prog K12_88 := addC_val K12_45_ok (w88 K12_45_ok)
noncomputable def K12_87 : FuncId → Con := addC K12_88 87 (.val sp87)
theorem K12_87_ok : ConOk Try.prog K12_87 := addC_val K12_88_ok (w87 K12_88_ok)
noncomputable def K12_73 : FuncId → Con := addC K12_87 73 (.val sp73)
theorem K12_73_ok : ConOk Try.prog K12_73 := addC_val K12_87_ok (w73 K12_87_ok rfl s88 rfl s87)
noncomputable def K12_65 : FuncId → Con := addC K12_73 65 (.val sp65)
theorem K12_65_ok : ConOk Try.prog K12_65 := addC_val K12_73_ok (w65 K12_73_ok)
noncomputable def K12_49 : FuncId → Con := addC K12_65 49 (.val sp49)
theorem K12_49_ok : ConOk Try.prog K12_49 := addC_val K12_65_ok (w49 K12_65_ok rfl s41 rfl s73 rfl s65)
noncomputable def K12_47 : FuncId → Con := addC K12_49 47 (.val sp47)
theorem K12_47_ok : ConOk Try.prog K12_47 := addC_val K12_49_ok (w47 K12_49_ok rfl s41)
noncomputable def K12_37 : FuncId → Con := addC K12_47 37 (.val sp37)
theorem K12_37_ok : ConOk Try.prog K12_37 := addC_val K12_47_ok (w37 K12_47_ok rfl s41 rfl s65)
noncomputable def K12_38 : FuncId → Con := addC K12_37 38 (.val sp38)
theorem K12_38_ok : ConOk Try.prog K12_38 := addC_val K12_37_ok (w38 K12_37_ok rfl s39 rfl s43 rfl s45 rfl s49 rfl s47 rfl s37 rfl s41)
set_option maxRecDepth 20000 in
theorem law12 : LawOk Try.prog 12 [(.cons (.int .i64) (.cons (.int .i64) (.cons (.int .i64) (.cons (.int .i64) (.cons (.int .i64) (.cons (.int .i64) (.cons (.int .i64) (.cons (.int .i64) (.cons (.int .i64) (.cons (.int .i64) (.cons (.int .i64) (.cons .bool .nil)))))))))))), (.int .i64), (.int .i64), (.int .i64)] := by
  refine law_of_val (w12 K12_38_ok rfl s38 rfl s41 rfl s45 rfl s49 rfl s37 rfl s43) ?_
  intro dvs hd
  obtain ⟨d0, _, rfl, h0, hd0⟩ := hasArgs_cons hd
  obtain ⟨_, rfl, q0⟩ := hasArg_cons h0
  obtain ⟨x0, rfl, r0⟩ := has_OrderT q0
  obtain ⟨d1, _, rfl, h1, hd1⟩ := hasArgs_cons hd0
  obtain ⟨x1, e1, r1⟩ := argI has_i64 h1
  cases e1
  obtain ⟨d2, _, rfl, h2, hd2⟩ := hasArgs_cons hd1
  obtain ⟨x2, e2, r2⟩ := argI has_i64 h2
  cases e2
  obtain ⟨d3, _, rfl, h3, hd3⟩ := hasArgs_cons hd2
  obtain ⟨x3, e3, r3⟩ := argI has_i64 h3
  cases e3
  cases hasArgs_nil hd3
  exact (s12 x0 x1 x2 x3 _ rfl).trans (by rw [pure_g_snafflelaw07_OrderAsks x0 x1 x2 x3 r0 r1 r2 r3]; rfl)
end Go.AI
