/- cell: some of a side done; any cell is right or not, and what comes of it, as the document says. -/
import Derived.Test.YtgpnkkhfnljfmaaXCellB
import Derived.Test.YtgpnkkhfnljfmaaXCellA
namespace Go.AI
def movF (s q : Int) (c : CelR) : CelR := (if s = 1 then c.1 + q else c.1 - q, c.2)
def didF (c : CelR) (s q : Int) : CelR × (Int × Unit) :=
  if ¬ (cellP c ∧ (s = 1 ∨ s = 2) ∧ 0 ≤ q) then (c, (1, ())) else if fit (movF s q c).1 ∧ cellP (movF s q c) then (movF s q c, (0, ())) else (c, (3, ()))
theorem cell_Did (c : CelR) (s q : Int) (rc : R_CelR c) (rq : R_i64 q) : g_cell_Did (c, (s, (q, ()))) = some (didF c s q) := by
  obtain ⟨r1, r2, r3, r4⟩ := id rc
  unfold g_cell_Did didF
  rw [cell_Right c rc]
  by_cases hc : cellP c
  · by_cases hs : (s = 1 ∨ s = 2) ∧ 0 ≤ q
    · rw [if_neg (by simp only [hc, hs, true_and, not_true]; exact id)]
      have b : ((!true || s != 1 && s != 2) || decide (q < 0)) = false := by
        rcases hs with ⟨rfl | rfl, h⟩ <;> simp <;> omega
      simp only [Option.bind_some, hc, decide_true, b, cond_false, num_Add r1 rq, num_Sub r1 rq]
      by_cases s1 : s = 1
      · have b1 : (s == 1) = true := by simp [s1]
        simp only [b1, cond_true, movF, if_pos s1]
        by_cases f : fit (c.1 + q)
        · simp only [f, if_true, Option.bind_some, bne_self_eq_false, cond_false, true_and]
          rw [cell_Right (c.1 + q, c.2) ⟨f, r2, r3, r4⟩]
          by_cases hd : cellP (c.1 + q, c.2) <;> simp [hd]
        · simp [f]
      · have b1 : (s == 1) = false := by simp [s1]
        simp only [b1, cond_false, movF, if_neg s1]
        by_cases f : fit (c.1 - q)
        · simp only [f, if_true, Option.bind_some, bne_self_eq_false, cond_false, true_and]
          rw [cell_Right (c.1 - q, c.2) ⟨f, r2, r3, r4⟩]
          by_cases hd : cellP (c.1 - q, c.2) <;> simp [hd]
        · simp [f]
    · rw [if_pos (fun h => hs h.2)]
      have b : ((!true || s != 1 && s != 2) || decide (q < 0)) = true := by
        simp only [Bool.not_true, Bool.false_or, Bool.or_eq_true, Bool.and_eq_true, bne_iff_ne, decide_eq_true_eq]
        omega
      simp only [Option.bind_some, hc, decide_true, b, cond_true]
  · simp [hc]
theorem ref08_Did (c : CelR) (s q : Int) (rc : R_CelR c) (rq : R_i64 q) : g_ref08_Did (c, (s, (q, ()))) = some (didF c s q) := by
  obtain ⟨r1, r2, r3, r4⟩ := id rc
  unfold g_ref08_Did didF
  rw [ref08_Right c rc]
  by_cases hc : cellP c
  · by_cases hs : (s = 1 ∨ s = 2) ∧ 0 ≤ q
    · rw [if_neg (by simp only [hc, hs, true_and, not_true]; exact id)]
      have b : (((!true || decide (s < 1)) || decide (s > 2)) || decide (q < 0)) = false := by
        rcases hs with ⟨rfl | rfl, h⟩ <;> simp <;> omega
      simp only [Option.bind_some, hc, decide_true, b, cond_false, ref08_more _ r1 rq]
      have e : sumF (s == 2) c.1 q = if s = 1 then c.1 + q else c.1 - q := by
        unfold sumF
        rcases hs with ⟨rfl | rfl, h⟩ <;> rfl
      rw [e]
      by_cases f : fit (movF s q c).1
      · have f' : fit (if s = 1 then c.1 + q else c.1 - q) := f
        simp only [f', f, if_true, Option.bind_some, Bool.not_true, cond_false, true_and]
        have := ref08_Right (movF s q c) ⟨f, r2, r3, r4⟩
        unfold movF at this
        rw [this]
        by_cases hd : cellP (movF s q c)
        · have hd' : cellP (if s = 1 then c.1 + q else c.1 - q, c.2) := hd
          simp [hd, hd', movF]
        · have hd' : ¬ cellP (if s = 1 then c.1 + q else c.1 - q, c.2) := hd
          simp [hd, hd']
      · have f' : ¬ fit (if s = 1 then c.1 + q else c.1 - q) := f
        simp [f', f]
    · rw [if_pos (fun h => hs h.2)]
      have b : (((!true || decide (s < 1)) || decide (s > 2)) || decide (q < 0)) = true := by
        simp only [Bool.not_true, Bool.false_or, Bool.or_eq_true, decide_eq_true_eq]
        omega
      simp only [Option.bind_some, hc, decide_true, b, cond_true]
  · simp [hc]
theorem ref08_Covers (a : ExpR × (ExpR × Unit)) : g_ref08_Covers a = some (cov a.1 a.2.1) := by
  unfold g_ref08_Covers cov
  congr 1
  rw [Bool.eq_iff_iff]
  simp only [Bool.and_eq_true, Bool.not_eq_true', decide_eq_false_iff_not, decide_eq_true_eq, ge_iff_le]
  omega
theorem rg_i64 {n : Int} (h : (Lit.int .i64 n).wf = true) : R_i64 n := wf_i64 h
theorem rg_Cel {c : CelR} (h : Rg shCell c) : R_CelR c := ⟨rg_i64 h.1, rg_i64 h.2.1, rg_i64 h.2.2.1, rg_i64 h.2.2.2.1⟩
theorem rg_Ord {o : OrdR} (h : Rg shOrder o) : R_OrdR o := by
  obtain ⟨h1, h2, h3, h4, h5, h6, h7, h8, h9, h10, h11, _⟩ := h
  exact ⟨rg_i64 h1, rg_i64 h2, rg_i64 h3, rg_i64 h4, rg_i64 h5, rg_i64 h6, rg_i64 h7, rg_i64 h8, rg_i64 h9, rg_i64 h10, rg_i64 h11⟩
theorem pure_CellRight (a : CelR × (OrdR × (Int × (Int × (ExpR × (ExpR × Unit)))))) (h : Rg (consS [shCell, shOrder, .int .i64, .int .i64, shExpo, shExpo]) a) : g_law08_CellRight a = some true := by
  obtain ⟨c, o, s, q, x, y, u⟩ := a
  obtain ⟨h1, h2, h3, h4, _⟩ := h
  have rc := rg_Cel h1
  have ro := rg_Ord h2
  have rq := rg_i64 h4
  unfold g_law08_CellRight
  rw [cell_awake]
  simp only [Option.bind_some, Bool.not_true, cond_false, ref08_Right c rc, cell_Right c rc, cell_Of c rc, cell_Come c o rc ro, cell_Go c o rc ro, g_ref08_Come, g_ref08_Go, ref08_turn _ c o rc ro, cell_Did c s q rc rq, ref08_Did c s q rc rq, cov_eq, ref08_Covers, beq_self_eq_true, bne_self_eq_false, Bool.and_self, Bool.not_true, Bool.or_self, cond_true]
  by_cases hc : cellP c
  · simp [hc, ref08_Of c hc]
  · simp [hc]
end Go.AI
