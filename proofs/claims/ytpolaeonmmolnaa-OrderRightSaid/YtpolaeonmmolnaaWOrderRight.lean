import Derived.Test.YtpolaeonmmolnaaL
import Derived.Test.YtpolaeonmmolnaaPOR
namespace Go.AI
open Go.Proofs
set_option linter.unusedVariables false
set_option linter.unusedSimpArgs false
noncomputable def K9_75 : FuncId → Con := addC noC 75 (.val sp75)
theorem K9_75_ok : ConOk Try.prog K9_75 := addC_val noC_ok (w75 noC_ok)
noncomputable def K9_76 : FuncId → Con := addC K9_75 76 (.val sp76)
theorem K9_76_ok : ConOk Try.prog K9_76 := addC_val K9_75_ok (w76 K9_75_ok)
noncomputable def K9_77 : FuncId → Con := addC K9_76 77 (.val sp77)
theorem K9_77_ok : ConOk Try.prog K9_77 := addC_val K9_76_ok (w77 K9_76_ok)
noncomputable def K9_78 : FuncId → Con := addC K9_77 78 (.val sp78)
theorem K9_78_ok : ConOk Try.prog K9_78 := addC_val K9_77_ok (w78 K9_77_ok)
noncomputable def K9_79 : FuncId → Con := addC K9_78 79 (.val sp79)
theorem K9_79_ok : ConOk Try.prog K9_79 := addC_val K9_78_ok (w79 K9_78_ok rfl s76 rfl s78)
noncomputable def K9_52 : FuncId → Con := addC K9_79 52 (.val sp52)
theorem K9_52_ok : ConOk Try.prog K9_52 := addC_val K9_79_ok (w52 K9_79_ok rfl s75 rfl s76 rfl s77 rfl s78 rfl s79)
noncomputable def K9_39 : FuncId → Con := addC K9_52 39 (.val sp39)
theorem K9_39_ok : ConOk Try.prog K9_39 := addC_val K9_52_ok (w39 K9_52_ok rfl s52)
noncomputable def K9_67 : FuncId → Con := addC K9_39 67 (.val sp67)
theorem K9_67_ok : ConOk Try.prog K9_67 := addC_val K9_39_ok (w67 K9_39_ok)
noncomputable def K9_68 : FuncId → Con := addC K9_67 68 (.val sp68)
theorem K9_68_ok : ConOk Try.prog K9_68 := addC_val K9_67_ok (w68 K9_67_ok rfl s52)
noncomputable def K9_41 : FuncId → Con := addC K9_68 41 (.val sp41)
theorem K9_41_ok : ConOk Try.prog K9_41 := addC_val K9_68_ok (w41 K9_68_ok rfl s67 rfl s68)
noncomputable def K9_69 : FuncId → Con := addC K9_41 69 (.val sp69)
theorem K9_69_ok : ConOk Try.prog K9_69 := addC_val K9_41_ok (w69 K9_41_ok)
noncomputable def K9_86 : FuncId → Con := addC K9_69 86 (.val sp86)
theorem K9_86_ok : ConOk Try.prog K9_86 := addC_val K9_69_ok (w86 K9_69_ok)
noncomputable def K9_85 : FuncId → Con := addC K9_86 85 (.val sp85)
theorem K9_85_ok : ConOk Try.prog K9_85 := addC_val K9_86_ok (w85 K9_86_ok rfl s86)
noncomputable def K9_70 : FuncId → Con := addC K9_85 70 (.val sp70)
theorem K9_70_ok : ConOk Try.prog K9_70 := addC_val K9_85_ok (w70 K9_85_ok rfl s85)
noncomputable def K9_71 : FuncId → Con := addC K9_70 71 (.val sp71)
theorem K9_71_ok : ConOk Try.prog K9_71 := addC_val K9_70_ok (w71 K9_70_ok rfl s85 rfl s67 rfl s86)
noncomputable def K9_43 : FuncId → Con := addC K9_71 43 (.val sp43)
theorem K9_43_ok : ConOk Try.prog K9_43 := addC_val K9_71_ok (w43 K9_71_ok rfl s41 rfl s69 rfl s52 rfl s70 rfl s71)
noncomputable def K9_61 : FuncId → Con := addC K9_43 61 (.val sp61)
theorem K9_61_ok : ConOk Try.prog K9_61 := addC_val K9_43_ok (w61 K9_43_ok)
noncomputable def K9_45 : FuncId → Con := addC K9_61 45 (.val sp45)
theorem K9_45_ok : ConOk Try.prog K9_45 := addC_val K9_61_ok (w45 K9_61_ok rfl s61 rfl s41 rfl s67)
noncomputable def K9_88 : FuncId → Con := addC K9_45 88 (.val sp88)
theorem K9_88_ok : ConOk Try.prog K9_88 := addC_val K9_45_ok (w88 K9_45_ok)
noncomputable def K9_87 : FuncId → Con := addC K9_88 87 (.val sp87)
theorem K9_87_ok : ConOk Try.prog K9_87 := addC_val K9_88_ok (w87 K9_88_ok)
noncomputable def K9_73 : FuncId → Con := addC K9_87 73 (.val sp73)
theorem K9_73_ok : ConOk Try.prog K9_73 := addC_val K9_87_ok (w73 K9_87_ok rfl s88 rfl s87)
noncomputable def K9_65 : FuncId → Con := addC K9_73 65 (.val sp65)
theorem K9_65_ok : ConOk Try.prog K9_65 := addC_val K9_73_ok (w65 K9_73_ok)
noncomputable def K9_49 : FuncId → Con := addC K9_65 49 (.val sp49)
theorem K9_49_ok : ConOk Try.prog K9_49 := addC_val K9_65_ok (w49 K9_65_ok rfl s41 rfl s73 rfl s65)
noncomputable def K9_47 : FuncId → Con := addC K9_49 47 (.val sp47)
theorem K9_47_ok : ConOk Try.prog K9_47 := addC_val K9_49_ok (w47 K9_49_ok rfl s41)
noncomputable def K9_37 : FuncId → Con := addC K9_47 37 (.val sp37)
theorem K9_37_ok : ConOk Try.prog K9_37 := addC_val K9_47_ok (w37 K9_47_ok rfl s41 rfl s65)
noncomputable def K9_38 : FuncId → Con := addC K9_37 38 (.val sp38)
theorem K9_38_ok : ConOk Try.prog K9_38 := addC_val K9_37_ok (w38 K9_37_ok rfl s39 rfl s43 rfl s45 rfl s49 rfl s47 rfl s37 rfl s41)
noncomputable def K9_84 : FuncId → Con := addC K9_38 84 (.val sp84)
theorem K9_84_ok : ConOk Try.prog K9_84 := addC_val K9_38_ok (w84 K9_38_ok)
noncomputable def K9_66 : FuncId → Con := addC K9_84 66 (.val sp66)
theorem K9_66_ok : ConOk Try.prog K9_66 := addC_val K9_84_ok (w66 K9_84_ok rfl s84)
noncomputable def K9_40 : FuncId → Con := addC K9_66 40 (.val sp40)
theorem K9_40_ok : ConOk Try.prog K9_40 := addC_val K9_66_ok (w40 K9_66_ok rfl s66)
noncomputable def K9_42 : FuncId → Con := addC K9_40 42 (.val sp42)
theorem K9_42_ok : ConOk Try.prog K9_42 := addC_val K9_40_ok (w42 K9_40_ok rfl s66)
noncomputable def K9_72 : FuncId → Con := addC K9_42 72 (.val sp72)
theorem K9_72_ok : ConOk Try.prog K9_72 := addC_val K9_42_ok (w72 K9_42_ok)
noncomputable def K9_44 : FuncId → Con := addC K9_72 44 (.val sp44)
theorem K9_44_ok : ConOk Try.prog K9_44 := addC_val K9_72_ok (w44 K9_72_ok rfl s42 rfl s72 rfl s66)
noncomputable def K9_46 : FuncId → Con := addC K9_44 46 (.val sp46)
theorem K9_46_ok : ConOk Try.prog K9_46 := addC_val K9_44_ok (w46 K9_44_ok rfl s42)
noncomputable def K9_48 : FuncId → Con := addC K9_46 48 (.val sp48)
theorem K9_48_ok : ConOk Try.prog K9_48 := addC_val K9_46_ok (w48 K9_46_ok rfl s42)
noncomputable def K9_89 : FuncId → Con := addC K9_48 89 (.val sp89)
theorem K9_89_ok : ConOk Try.prog K9_89 := addC_val K9_48_ok (w89 K9_48_ok)
noncomputable def K9_74 : FuncId → Con := addC K9_89 74 (.val sp74)
theorem K9_74_ok : ConOk Try.prog K9_74 := addC_val K9_89_ok (w74 K9_89_ok rfl s89)
noncomputable def K9_50 : FuncId → Con := addC K9_74 50 (.val sp50)
theorem K9_50_ok : ConOk Try.prog K9_50 := addC_val K9_74_ok (w50 K9_74_ok rfl s42 rfl s74)
noncomputable def K9_51 : FuncId → Con := addC K9_50 51 (.val sp51)
theorem K9_51_ok : ConOk Try.prog K9_51 := addC_val K9_50_ok (w51 K9_50_ok rfl s42)
set_option maxRecDepth 20000 in
theorem law9 : LawOk Try.prog 9 [(.cons (.int .i64) (.cons (.int .i64) (.cons (.int .i64) (.cons (.int .i64) (.cons (.int .i64) (.cons (.int .i64) (.cons (.int .i64) (.cons (.int .i64) (.cons (.int .i64) (.cons (.int .i64) (.cons (.int .i64) (.cons .bool .nil)))))))))))), (.cons (.int .i64) (.cons (.int .i64) (.cons (.int .i64) (.cons (.int .i64) (.cons (.int .i64) (.cons (.int .i64) (.cons (.int .i64) (.cons (.int .i64) (.cons (.int .i64) (.cons (.int .i64) (.cons .bool (.cons (.int .i64) (.cons (.int .i64) .nil))))))))))))), (.cons (.int .i64) (.cons (.int .i64) (.cons (.int .i64) (.cons (.int .i64) (.cons (.int .i64) .nil))))), (.int .i64), (.int .i64)] := by
  refine law_of_val (w9 K9_51_ok rfl s38 rfl s39 rfl s40 rfl s41 rfl s42 rfl s43 rfl s44 rfl s45 rfl s46 rfl s47 rfl s48 rfl s49 rfl s50 rfl s37 rfl s51) ?_
  intro dvs hd
  obtain ⟨d0, _, rfl, h0, hd0⟩ := hasArgs_cons hd
  obtain ⟨_, rfl, q0⟩ := hasArg_cons h0
  obtain ⟨x0, rfl, r0⟩ := has_OrderT q0
  obtain ⟨d1, _, rfl, h1, hd1⟩ := hasArgs_cons hd0
  obtain ⟨_, rfl, q1⟩ := hasArg_cons h1
  obtain ⟨x1, rfl, r1⟩ := has_RecT q1
  obtain ⟨d2, _, rfl, h2, hd2⟩ := hasArgs_cons hd1
  obtain ⟨_, rfl, q2⟩ := hasArg_cons h2
  obtain ⟨x2, rfl, r2⟩ := has_NoteT q2
  obtain ⟨d3, _, rfl, h3, hd3⟩ := hasArgs_cons hd2
  obtain ⟨x3, e3, r3⟩ := argI has_i64 h3
  cases e3
  obtain ⟨d4, _, rfl, h4, hd4⟩ := hasArgs_cons hd3
  obtain ⟨x4, e4, r4⟩ := argI has_i64 h4
  cases e4
  cases hasArgs_nil hd4
  exact (s9 x0 x1 x2 x3 x4 _ rfl).trans (by rw [pure_g_snafflelaw07_OrderRight x0 x1 x2 x3 x4 r0 r1 r2 r3 r4]; rfl)
end Go.AI
