/- cell: when some of an order are done, the cell comes to no more. -/
import Derived.Test.YtgpnkkhfnljfmaaXCellD
namespace Go.AI
theorem fill_less {o : OrdR} {n : NotR} (ro : R_OrdR o) (p2 : o.2.2.2.2.2.2.2.1 = 2) (w3 : n.2.1 = 3) (h : (takeF o n).2.1 = 0) :
    ∃ p : OrdR, takeF o n = (p, (0, ())) ∧ ordP o ∧ ordP p ∧ R_OrdR p ∧ p.2.2.2.1 = o.2.2.2.1 ∧ 1 ≤ n.2.2.2.1 ∧ openF p + n.2.2.2.1 ≤ openF o ∧ ((worthF o).2.1 = 0 → (worthF p).2.1 = 0 ∧ (worthF p).1 ≤ (worthF o).1) := by
  by_cases hh : ordP o ∧ evP n ∧ n.2.2.1 = o.1
  rotate_left
  · exfalso
    unfold takeF at h
    rw [if_pos hh] at h
    cases h
  have hnn : ¬ ¬ (ordP o ∧ evP n ∧ n.2.2.1 = o.1) := fun h => h hh
  obtain ⟨hO, hE, hI⟩ := hh
  obtain ⟨hN, f1, f2, f3, f4, f5⟩ := id hO
  obtain ⟨a1, a2, a3, a4, a5, a6, a7, a8, a9, a10, a11⟩ := id ro
  have z : R_i64 0 := by unfold R_i64; omega
  have o2 : R_i64 2 := by unfold R_i64; omega
  have o3 : R_i64 3 := by unfold R_i64; omega
  have hN' := hN
  unfold newP idP at hN'
  obtain ⟨_, _, _, ev⟩ := id hE
  have hn1 : 1 ≤ n.2.2.2.1 := by omega
  by_cases q : n.2.2.2.1 > o.2.2.2.2.1 - o.2.2.2.2.2.2.1
  · exfalso
    have : takeF o n = (o, (8, ())) := by simp [takeF, hO, hE, hI, p2, w3, q]
    rw [this] at h
    cases h
  have rf : R_i64 (o.2.2.2.2.2.2.1 + n.2.2.2.1) := by unfold R_i64 at a5 ⊢; omega
  have hoo : openF o = (if o.2.2.2.2.2.2.2.2.1 > o.2.2.2.2.1 then o.2.2.2.2.2.2.2.2.1 else o.2.2.2.2.1) - o.2.2.2.2.2.2.1 := openF_of hO (by omega)
  by_cases q2 : o.2.2.2.2.2.2.1 + n.2.2.2.1 < o.2.2.2.2.1
  · have hP2 : ordP (o.1, o.2.1, o.2.2.1, o.2.2.2.1, o.2.2.2.2.1, o.2.2.2.2.2.1, o.2.2.2.2.2.2.1 + n.2.2.2.1, 2, o.2.2.2.2.2.2.2.2.1, o.2.2.2.2.2.2.2.2.2.1, o.2.2.2.2.2.2.2.2.2.2.1, o.2.2.2.2.2.2.2.2.2.2.2.1, ()) := ⟨hN, by simp only; omega, by simp only; omega, f3, f4, .inr (.inl ⟨rfl, q2⟩)⟩
    have ho : openF (o.1, o.2.1, o.2.2.1, o.2.2.2.1, o.2.2.2.2.1, o.2.2.2.2.2.1, o.2.2.2.2.2.2.1 + n.2.2.2.1, 2, o.2.2.2.2.2.2.2.2.1, o.2.2.2.2.2.2.2.2.2.1, o.2.2.2.2.2.2.2.2.2.2.1, o.2.2.2.2.2.2.2.2.2.2.2.1, ()) + n.2.2.2.1 ≤ openF o := by
      rw [openF_of hP2 (by simp), hoo]
      simp only
      omega
    refine ⟨_, by simp [takeF, hO, hE, hI, p2, w3, q, q2], hO, hP2, ⟨a1, a2, a3, a4, a5, a6, rf, o2, a9, a10, a11⟩, rfl, hn1, ho, ?_⟩
    refine keep_less hO hP2 (by omega) (by simp) (by omega) ?_ (fun h => ⟨?_, ?_⟩)
    · exact Int.mul_le_mul_of_nonneg_right (by simp only; omega) (by simp only; omega)
    · simp only at h; omega
    · unfold pend at f4
      simp only at h
      exact Int.mul_le_mul_of_nonneg_right (by simp only; omega) (by simp only; omega)
  · have hP3 : ordP (o.1, o.2.1, o.2.2.1, o.2.2.2.1, o.2.2.2.2.1, o.2.2.2.2.2.1, o.2.2.2.2.2.2.1 + n.2.2.2.1, 3, 0, 0, o.2.2.2.2.2.2.2.2.2.2.1, o.2.2.2.2.2.2.2.2.2.2.2.1, ()) := ⟨hN, by simp only; omega, by simp only; omega, f3, by simp [pend], .inr (.inr ⟨rfl, by simp [pend]⟩)⟩
    refine ⟨_, by simp [takeF, hO, hE, hI, p2, w3, q, q2], hO, hP3, ⟨a1, a2, a3, a4, a5, a6, rf, o3, z, z, a11⟩, rfl, hn1, ?_, (done_less (o := o) hP3 rfl).2⟩
    have : openF (o.1, o.2.1, o.2.2.1, o.2.2.2.1, o.2.2.2.2.1, o.2.2.2.2.2.1, o.2.2.2.2.2.2.1 + n.2.2.2.1, 3, 0, 0, o.2.2.2.2.2.2.2.2.2.2.1, o.2.2.2.2.2.2.2.2.2.2.2.1, ()) = 0 := by unfold openF; simp
    rw [this, hoo]
    split <;> omega
theorem done_cell {c : CelR} {o p : OrdR} {q : Int} (rc : R_CelR c) (hc : cellP c) (hO : ordP o) (h : goodF false c o) (h1 : p.2.2.2.1 = o.2.2.2.1) (hq : 1 ≤ q) (hn : openF p + q ≤ openF o) (hw : (worthF o).2.1 = 0 → (worthF p).2.1 = 0 ∧ (worthF p).1 ≤ (worthF o).1) :
    goodF false c p ∧ fit (movF o.2.2.2.1 q (cellF false c p)).1 ∧ cellP (movF o.2.2.2.1 q (cellF false c p)) ∧ cov (expoF (cellF false c o)) (expoF (movF o.2.2.2.1 q (cellF false c p))) = true ∧ (movF o.2.2.2.1 q (cellF false c p)).2.2.2.1 ≤ (cellF false c o).2.2.2.1 := by
  have no := open_nonneg o
  have wo := worth_nonneg o
  have np := open_nonneg p
  have wp := worth_nonneg p
  obtain ⟨z1, a1, a2, a3⟩ := h
  obtain ⟨w1, w2⟩ := hw z1
  obtain ⟨⟨_, _, _, _, _, hs, _⟩, _⟩ := id hO
  rw [cov_iff]
  refine ⟨⟨w1, ?_, ?_, ?_⟩, ?_, ?_, ?_, ?_⟩
  all_goals
    unfold R_CelR R_i64 at rc
    unfold cellP fit at *
    try unfold expoF
    try unfold movF
    unfold cellF sideF sumF at *
    rcases hs with s | s <;> simp only [h1, s, if_true, if_false, cond_false, show ¬ ((1 : Int) = 2) by decide, show ¬ ((2 : Int) = 1) by decide] at * <;> omega
theorem pure_CellDone (a : CelR × (OrdR × (Int × (Int × Unit)))) (h : Rg (consS [shCell, shOrder, .int .i64, .int .i64]) a) : g_law08_CellDone a = some true := by
  obtain ⟨c, o, q, k, u⟩ := a
  obtain ⟨h1, h2, h3, h4, _⟩ := h
  have rc := rg_Cel h1
  have ro := rg_Ord h2
  have rq := rg_i64 h3
  have rk := rg_i64 h4
  have z : R_i64 0 := by unfold R_i64; omega
  have o3 : R_i64 3 := by unfold R_i64; omega
  unfold g_law08_CellDone
  rw [cell_awake]
  simp only [Option.bind_some, Bool.not_true, cond_false, cell_Come c o rc ro]
  by_cases hb : ((((turnF false c o).2.1 != 0) || (o.2.2.2.2.2.2.2.1 != 2)) || (decide (k < 1)) || (decide (k > 1000))) = true
  · simp only [hb, cond_true]
  have hb' : ((((turnF false c o).2.1 != 0) || (o.2.2.2.2.2.2.2.1 != 2)) || (decide (k < 1)) || (decide (k > 1000))) = false := by
    cases e : ((((turnF false c o).2.1 != 0) || (o.2.2.2.2.2.2.2.1 != 2)) || (decide (k < 1)) || (decide (k > 1000)))
    · rfl
    · exact absurd e hb
  simp only [hb', cond_false]
  simp only [Bool.or_eq_false_iff, bne_eq_false_iff_eq] at hb'
  obtain ⟨⟨⟨z1, p2⟩, _⟩, _⟩ := hb'
  rw [order_Take o (k, (3, (o.1, (q, (0, ()))))) ro ⟨rk, o3, ro.1, rq, z⟩]
  simp only [Option.bind_some]
  by_cases zt : (takeF o (k, (3, (o.1, (q, (0, ())))))).2.1 = 0
  rotate_left
  · have b : ((takeF o (k, (3, (o.1, (q, (0, ())))))).2.1 != 0) = true := by simp [zt]
    simp only [b, cond_true]
  obtain ⟨p, ep, hO, hP, rp, hs, hq, hn, hw⟩ := fill_less (n := (k, (3, (o.1, (q, (0, ())))))) ro p2 rfl zt
  obtain ⟨hc, _, hg⟩ := turn_ok z1
  have hd := hg.2.2.2
  have rd := good_R rc hg
  obtain ⟨g1, g2⟩ := back_cell rc hc hg
  obtain ⟨q1, q2, q3, q4, q5⟩ := done_cell rc hc hO hg hs hq hn hw
  have rr := good_R rc q1
  have hside : o.2.2.2.1 = 1 ∨ o.2.2.2.1 = 2 := hO.1.2.2.2.2.2.1
  have ed : didF (cellF false c p) o.2.2.2.1 q = (movF o.2.2.2.1 q (cellF false c p), (0, ())) := by
    unfold didF
    have hq0 : 0 ≤ q := Int.le_trans (by decide) (show (1 : Int) ≤ q from hq)
    rw [if_neg (fun hx => hx ⟨q1.2.2.2, hside, hq0⟩), if_pos ⟨q2, q3⟩]
  have rz : R_CelR (movF o.2.2.2.1 q (cellF false c p)) := ⟨q2, rr.2.1, rr.2.2.1, rr.2.2.2⟩
  rw [ep]
  simp only [turn_good hc hO hg, bne_self_eq_false, cond_false, cell_Go _ o rd ro, turn_good hd hO g1, g2, beq_self_eq_true, Bool.and_self, Bool.not_true, Bool.or_self, cell_Of _ rd, hd, if_true, Option.bind_some, cell_Come c p rc rp, turn_good hc hP q1, cell_Did _ o.2.2.2.1 q rr rq, ed]
  have e : g_cell_Of ((movF o.2.2.2.1 q (cellF false c p)), ()) = some (expoF (movF o.2.2.2.1 q (cellF false c p)), (0, ())) := by rw [cell_Of _ rz, if_pos q3]
  have e5 := decide_eq_true q5
  simp only [e, Option.bind_some, beq_self_eq_true, Bool.and_self, cond_true, cov_eq, q4, Bool.true_and, e5]
end Go.AI
