/- cell: an order that comes and goes leaves the cell as it was; two orders may come in either order. -/
import Derived.Test.YtgpnkkhfnljfmaaXCellC
namespace Go.AI
theorem turn_good {m : Bool} {c : CelR} {o : OrdR} (h1 : cellP c) (h2 : ordP o) (h3 : goodF m c o) : turnF m c o = (cellF m c o, (0, ())) := by
  unfold turnF
  rw [if_neg (by simp [h1, h2]), if_pos h3]
theorem turn_ok {m : Bool} {c : CelR} {o : OrdR} (h : (turnF m c o).2.1 = 0) : cellP c ∧ ordP o ∧ goodF m c o := by
  unfold turnF at h
  split at h
  · cases h
  · rename_i h1
    simp only [Classical.not_not] at h1
    split at h
    · rename_i h2; exact ⟨h1.1, h1.2, h2⟩
    · cases h
theorem turn_bad {m : Bool} {c : CelR} {o : OrdR} (h : (turnF m c o).2.1 ≠ 0) : (turnF m c o).1 = c := by
  unfold turnF at h ⊢
  split
  · rfl
  · split
    · rename_i h1 h2
      rw [if_neg h1, if_pos h2] at h
      exact absurd rfl h
    · rfl
theorem good_R {m : Bool} {c : CelR} {o : OrdR} (rc : R_CelR c) (h : goodF m c o) : R_CelR (cellF m c o) := by
  obtain ⟨r1, r2, r3, r4⟩ := rc
  obtain ⟨_, f1, f2, _⟩ := h
  unfold cellF
  split
  · exact ⟨r1, r2, f1, f2⟩
  · exact ⟨r1, f1, r3, f2⟩
theorem back_cell {c : CelR} {o : OrdR} (rc : R_CelR c) (hc : cellP c) (h : goodF false c o) : goodF true (cellF false c o) o ∧ cellF true (cellF false c o) o = c := by
  have e : cellF true (cellF false c o) o = c := by
    unfold cellF sideF sumF
    by_cases s : o.2.2.2.1 = 2
    · simp only [s, if_true, cond_false, cond_true, Int.add_sub_cancel]
    · simp only [s, if_false, cond_false, cond_true, Int.add_sub_cancel]
  refine ⟨⟨h.1, ?_, ?_, by rw [e]; exact hc⟩, e⟩
  · unfold cellF sideF sumF
    obtain ⟨r1, r2, r3, r4⟩ := rc
    by_cases s : o.2.2.2.1 = 2
    · simp only [s, if_true, cond_false, cond_true, Int.add_sub_cancel]; exact r3
    · simp only [s, if_false, cond_false, cond_true, Int.add_sub_cancel]; exact r2
  · unfold cellF sumF
    obtain ⟨r1, r2, r3, r4⟩ := rc
    by_cases s : o.2.2.2.1 = 2
    · simp only [s, if_true, cond_false, cond_true, Int.add_sub_cancel]; exact r4
    · simp only [s, if_false, cond_false, cond_true, Int.add_sub_cancel]; exact r4
theorem cover_cell {c : CelR} {o : OrdR} : cov (expoF (cellF false c o)) (expoF c) = true := by
  rw [cov_iff]
  have hn := open_nonneg o
  have hw := worth_nonneg o
  unfold expoF cellF sideF sumF
  by_cases s : o.2.2.2.1 = 2
  · simp only [s, if_true, cond_false]; omega
  · simp only [s, if_false, cond_false]; omega
theorem both_cell {c : CelR} {o p : OrdR} (rc : R_CelR c) (hc : cellP c) (h : goodF false c o) (hp : goodF false (cellF false c o) p) : goodF false c p ∧ goodF false (cellF false c p) o ∧ cellF false (cellF false c p) o = cellF false (cellF false c o) p := by
  have e : cellF false (cellF false c p) o = cellF false (cellF false c o) p := by
    unfold cellF sideF sumF
    by_cases s : o.2.2.2.1 = 2 <;> by_cases t : p.2.2.2.1 = 2 <;> simp only [s, t, if_true, if_false, cond_false, Int.add_right_comm]
    all_goals trivial
  have no := open_nonneg o
  have wo := worth_nonneg o
  have np := open_nonneg p
  have wp := worth_nonneg p
  obtain ⟨z1, a1, a2, a3⟩ := h
  obtain ⟨z2, b1, b2, b3⟩ := hp
  refine ⟨⟨z2, ?_, ?_, ?_⟩, ⟨z1, ?_, ?_, by rw [e]; exact b3⟩, e⟩
  all_goals
    unfold R_CelR R_i64 at rc
    unfold cellP fit at *
    unfold cellF sideF sumF at *
    by_cases s : o.2.2.2.1 = 2 <;> by_cases t : p.2.2.2.1 = 2 <;> simp only [s, t, if_true, if_false, cond_false] at * <;> omega
theorem pure_CellBack (a : CelR × (OrdR × (OrdR × Unit))) (h : Rg (consS [shCell, shOrder, shOrder]) a) : g_law08_CellBack a = some true := by
  obtain ⟨c, o, p, u⟩ := a
  obtain ⟨h1, h2, h3, _⟩ := h
  have rc := rg_Cel h1
  have ro := rg_Ord h2
  have rp := rg_Ord h3
  unfold g_law08_CellBack
  rw [cell_awake]
  simp only [Option.bind_some, Bool.not_true, cond_false, cell_Come c o rc ro]
  by_cases z : (turnF false c o).2.1 = 0
  · obtain ⟨hc, hO, hg⟩ := turn_ok z
    have hd := hg.2.2.2
    have rd := good_R rc hg
    obtain ⟨g1, g2⟩ := back_cell rc hc hg
    have hcov := cover_cell (c := c) (o := o)
    simp only [turn_good hc hO hg, bne_self_eq_false, cond_false, cell_Go _ o rd ro, turn_good hd hO g1, g2, beq_self_eq_true, Bool.and_self, Bool.not_true, Bool.or_self, cell_Of c rc, cell_Of _ rd, cell_Right _ rd, hc, hd, if_true, Option.bind_some, cov_eq, hcov, decide_true, order_OpenF o ro, cell_Come _ p rd rp, cell_Come c p rc rp]
    have ho := open_R o ro
    unfold R_i64 at ho
    have k1 : o.2.2.2.1 = 1 → (((expoF (cellF false c o)).2.1 != (expoF c).2.1) = false ∧ (IntKind.wrap .i64 ((expoF (cellF false c o)).1 - (expoF c).1) != openF o) = false) := by
      intro s1
      have e1 : (expoF (cellF false c o)).2.1 = (expoF c).2.1 := by simp [expoF, cellF, s1]
      have e2 : (expoF (cellF false c o)).1 - (expoF c).1 = openF o := by simp [expoF, cellF, s1, sideF, sumF]; omega
      rw [e1, e2, wrap_of ho.1 ho.2]
      simp
    have k2 : o.2.2.2.1 = 2 → (((expoF (cellF false c o)).1 != (expoF c).1) = false ∧ (IntKind.wrap .i64 ((expoF (cellF false c o)).2.1 - (expoF c).2.1) != openF o) = false) := by
      intro s1
      have e1 : (expoF (cellF false c o)).1 = (expoF c).1 := by simp [expoF, cellF, s1]
      have e2 : (expoF (cellF false c o)).2.1 - (expoF c).2.1 = openF o := by simp [expoF, cellF, s1, sideF, sumF]; omega
      rw [e1, e2, wrap_of ho.1 ho.2]
      simp
    have l1 : ∀ x : Bool, (bif (o.2.2.2.1 == 1) then (bif ((expoF (cellF false c o)).2.1 != (expoF c).2.1) then some true else some (IntKind.wrap .i64 ((expoF (cellF false c o)).1 - (expoF c).1) != openF o)).bind fun v => some v else some false) = some false := by
      intro _
      by_cases s1 : o.2.2.2.1 = 1
      · simp only [k1 s1, cond_false, Option.bind_some]; cases (o.2.2.2.1 == 1) <;> rfl
      · have : (o.2.2.2.1 == 1) = false := by simp [s1]
        rw [this]; rfl
    have l2 : ∀ x : Bool, (bif (o.2.2.2.1 == 2) then (bif ((expoF (cellF false c o)).1 != (expoF c).1) then some true else some (IntKind.wrap .i64 ((expoF (cellF false c o)).2.1 - (expoF c).2.1) != openF o)).bind fun v => some v else some false) = some false := by
      intro _
      by_cases s1 : o.2.2.2.1 = 2
      · simp only [k2 s1, cond_false, Option.bind_some]; cases (o.2.2.2.1 == 2) <;> rfl
      · have : (o.2.2.2.1 == 2) = false := by simp [s1]
        rw [this]; rfl
    simp only [l1 true, l2 true, Option.bind_some, cond_false]
    by_cases z2 : (turnF false (cellF false c o) p).2.1 = 0
    · obtain ⟨_, hP, hg2⟩ := turn_ok z2
      obtain ⟨q1, q2, q3⟩ := both_cell rc hc hg hg2
      have rr := good_R rc q1
      simp only [turn_good hd hP hg2, turn_good hc hP q1, bne_self_eq_false, Bool.or_self, cond_false, cell_Come _ o rr ro, turn_good q1.2.2.2 hO q2, q3, Option.bind_some, beq_self_eq_true, Bool.and_self]
    · have b : ((turnF false (cellF false c o) p).2.1 != 0) = true := by simp [z2]
      simp only [b, Bool.true_or, cond_true]
  · have b : ((turnF false c o).2.1 != 0) = true := by simp [z]
    simp only [b, cond_true, turn_bad z, beq_self_eq_true, Bool.and_self]
end Go.AI
