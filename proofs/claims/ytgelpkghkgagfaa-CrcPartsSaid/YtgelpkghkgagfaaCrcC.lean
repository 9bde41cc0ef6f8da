/- crc: the contracts, and the laws. -/
import Derived.Test.YtgelpkghkgagfaaCrcB
namespace Go.AI
set_option linter.unusedVariables false
set_option linter.unusedSimpArgs false
open Go.Proofs

theorem spec15_at {m : Nat → List Nat → Nat} (hm : ∀ s ns, moreN s ns = m s ns) : Sum0 spec15 m := by
  intro sz ns hn hb hz
  simp only [spec15]
  rw [if_pos ⟨by rwa [byteRows_length], hz.imp (fun h => h) (fun h => by rw [h]; rfl)⟩, bytesN_rows hb, ← hm]
  rfl
theorem spec16_at {m : Nat → List Nat → Nat} (hm : ∀ s ns, refN s ns = m s ns) : Sum0 spec16 m := by
  intro sz ns hn hb hz
  simp only [spec16]
  rw [if_pos ⟨by rwa [byteRows_length], hz.imp (fun h => h) (fun h => by rw [h]; rfl)⟩, bytesN_rows hb, ← hm]
  rfl
theorem sums17 : Sums spec17 moreN := fun hs hn hb hz => spec17_at hs hn hb hz
theorem sums18 : Sums spec18 moreN := fun hs hn hb hz => by rw [spec18_at hs hn hb hz, more_eq]

def K43 : FuncId → Con := addC noC 43 (.val spec43)
theorem K43_ok : ConOk Try.prog K43 := addC_val noC_ok (v43 noC_ok)
def K17 : FuncId → Con := addC K43 17 (.val spec17)
theorem K17_ok : ConOk Try.prog K17 := addC_val K43_ok (v17 K43_ok rfl spec43_at)
def K15 : FuncId → Con := addC K17 15 (.val spec15)
theorem K15_ok : ConOk Try.prog K15 := addC_val K17_ok (v15 K17_ok rfl rfl spec17_at)
def K18 : FuncId → Con := addC K15 18 (.val spec18)
theorem K18_ok : ConOk Try.prog K18 := addC_val K15_ok (v18 K15_ok)
def K16 : FuncId → Con := addC K18 16 (.val spec16)
theorem K16_ok : ConOk Try.prog K16 := addC_val K18_ok (v16 K18_ok rfl rfl spec18_at)
def K14 : FuncId → Con := addC K16 14 (.val spec14)
theorem K14_ok : ConOk Try.prog K14 := addC_val K16_ok (v14 K16_ok rfl rfl rfl (spec15_at fun _ _ => rfl) sums17)

theorem law3 : LawOk Try.prog 3 [.int .u32, .slice 1 (.int .u8)] :=
  walk3 K14_ok (sp14 := spec14) (sp15 := spec15) (sp16 := spec16) (sp17 := spec17) (sp18 := spec18) rfl rfl rfl rfl rfl rfl (spec15_at fun _ _ => rfl) (spec16_at fun s ns => (more_eq s ns).symm) sums17 sums18
end Go.AI
