/- cell: who covers whom. -/
import Derived.Test.YtgpnkkhfnljfmaaL
import Derived.KernelRfl
namespace Go.AI
theorem cell_awake : g_law08_awake () = some true := by kernel_rfl
def cov (a b : ExpoT) : Bool := ((decide (a.1 ≥ b.1)) && (decide (a.2.1 ≥ b.2.1))) && (decide (a.2.2.1 ≥ b.2.2.1))
theorem cov_eq (a : ExpoT × (ExpoT × Unit)) : g_cell_Covers a = some (cov a.1 a.2.1) := rfl
theorem cov_iff (a b : ExpoT) : cov a b = true ↔ b.1 ≤ a.1 ∧ b.2.1 ≤ a.2.1 ∧ b.2.2.1 ≤ a.2.2.1 := by
  simp [cov, and_assoc]
theorem pure_CellCovers (a : ExpoT × (ExpoT × (ExpoT × Unit))) (h : Rg (consS [shExpo, shExpo, shExpo]) a) : g_law08_CellCovers a = some true := by
  clear h
  unfold g_law08_CellCovers
  rw [cell_awake]
  simp only [Option.bind_some, cov_eq]
  obtain ⟨x, y, z, _⟩ := a
  have h1 : cov x x = true := (cov_iff _ _).2 ⟨Int.le_refl _, Int.le_refl _, Int.le_refl _⟩
  have h2 : cov x y = true → cov y z = true → cov x z = true := by
    rw [cov_iff, cov_iff, cov_iff]
    rintro ⟨a1, a2, a3⟩ ⟨b1, b2, b3⟩
    exact ⟨Int.le_trans b1 a1, Int.le_trans b2 a2, Int.le_trans b3 a3⟩
  have h3 : (bif cov x y then cov y x else false) = ((x.1 == y.1) && ((x.2.1 == y.2.1) && ((x.2.2.1 == y.2.2.1) && true))) := by
    rw [Bool.eq_iff_iff]
    have e : (bif cov x y then cov y x else false) = (cov x y && cov y x) := by cases cov x y <;> rfl
    rw [e, Bool.and_eq_true, cov_iff, cov_iff]
    simp only [Bool.and_eq_true, beq_iff_eq, and_true]
    omega
  simp only [h1]
  rw [← h3]
  cases q1 : cov x y <;> cases q2 : cov y z <;> cases q3 : cov x z <;> cases q4 : cov y x <;> simp_all
end Go.AI
