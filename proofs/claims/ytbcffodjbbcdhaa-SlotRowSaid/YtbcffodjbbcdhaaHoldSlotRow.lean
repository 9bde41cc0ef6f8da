/- However many slots are written, one behind the other, the power going within some, the last one that was written well, or the one behind it, is what is read; no condition. -/
import Derived.Test.YtbcffodjbbcdhaaRows
import Derived.Test.YtbcffodjbbcdhaaLC
import Derived.Test.YtbcffodjbbcdhaaWSlotRow
import Derived.WalkKit
import Derived.ProofKit
import Derived.OpenShut
import Derived.ShutString
import Derived.ChangeOld
import Derived.Below
import Derived.SizedLaws
namespace Go.Proofs.Ytbcffodjbbcdhaa.slotRow
open Go.ChangeShapes Go.WideShapes Go.ChangeAt Go.RowKit
set_option linter.unusedVariables false
theorem own : ownKnob Try.prog.godebug = none := by kernel_rfl
theorem laidOut : laidOutB Try.prog = true := by kernel_rfl
set_option maxRecDepth 100000 in
theorem lifted (os : Os) (started : os.Started) (H : Type) (enc : TypeId × Value → H) :
    ReturnsInHanded {} Try.checked os 10 .any (Rows.slotRowSpec.pre6 enc Try.prog Try.f10 Rows.slotRowRow.domain false) (Rows.slotRowSpec.post enc Try.prog Try.f10 false true false false) := by
  refine returnsInHanded_of_change_sized (C := Try.checked) own started (by kernel_rfl) Try.func10
    (ChangeSpec.witness6 (enc := enc) (C := Try.checked) false ⟨#[], #[.slice none 0 0, .slice none 0 0], []⟩ 8 (by kernel_rfl) (by kernel_rfl) (by kernel_rfl) (by kernel_rfl)) ?_
  intro W base args ds gs before hval0 hW hcnd hsz0 _
  have hval : ∀ (j : Nat) t v, Try.f10.params[j]? = some t → args[j]? = some v → Value.okWide Try.prog W .any base t v := hval0
  have hW' := hW
  obtain ⟨p, q, hA0, hV, rfl, hfz, hnd⟩ := hW
  have hA : DataW.TrodAll enc Try.prog W 0 (fun _ => true) true Try.f10.params.toList args.toList ds p := hA0
  obtain ⟨rfl, rfl⟩ := trodVars_none hV
  rw [Try.params10] at hA hval
  have hA1 := hA
  obtain ⟨v0, vs0, d0, ds0, p0, q0, hargs, rfl, rfl, h0, r0⟩ := trodAll_cons hA
  obtain ⟨v1, vs1, d1, ds1, p1, q1, rfl, rfl, rfl, h1, r1⟩ := trodAll_cons r0
  obtain ⟨rfl, rfl, rfl⟩ := trodAll_nil r1
  obtain rfl : args = #[v0, v1] := by cases args; simp_all
  obtain ⟨dvs, hrep, hhas⟩ := Go.AI.open_args (k := 9) (shs := [(.slice 1 (.int .u8)), (.slice 1 (.int .i64))]) hA1 (by kernel_rfl) (fun j t v h1 h2 => hval j t v (by simpa using h1) (by simpa using h2))
  have hrun := Go.AI.law10 dvs hhas _ W [v0, v1] hrep (fun _ h => h)
  refine hrun.mono fun e W' ⟨he, hg⟩ => ?_
  subst he
  exact ⟨_, rfl, _, _, _, [], _, [], hW', trodAll_mk1 (shut_bool Try.underlying4 _), Go.AI.keep_args laidOut (by kernel_rfl) hA1 (Go.AI.Grown.below hg), rfl, (Go.AI.Grown.below hg).frame _, fun h => by cases h⟩
theorem over : Rows.slotRowRow.holds Try.pinned (OpenSpec.ofChange Rows.slotRowSpec) :=
  OpenClaim.holds_of_wide 10 Try.f10 rfl rfl rfl rfl rfl rfl rfl ⟨rfl, rfl, rfl, rfl, rfl⟩ rfl rfl rfl rfl rfl (by kernel_rfl) Try.func10 (by kernel_rfl)
    (of_decide_eq_true (by kernel_rfl)) (by unfold Func.isWrapper; first | (rw [if_pos (by decide +kernel)]; kernel_rfl) | (rw [if_neg (by decide +kernel)]; exact ⟨rfl, rfl⟩))
    (fun os started H enc _ => lifted os started H enc)
theorem proved : Rows.SlotRowSaid := over
#print axioms proved
end Go.Proofs.Ytbcffodjbbcdhaa.slotRow
namespace Go.Proofs.Ytbcffodjbbcdhaa
/-- The row, under a short name, for the claim. -/
theorem slotRow_holds : Rows.SlotRowSaid := slotRow.proved
end Go.Proofs.Ytbcffodjbbcdhaa

