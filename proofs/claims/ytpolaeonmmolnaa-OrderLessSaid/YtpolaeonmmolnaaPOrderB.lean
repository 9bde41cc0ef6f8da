/- order: what begins; what is done. -/
import Derived.Test.YtpolaeonmmolnaaPOrder
import Derived.KernelRfl
namespace Go.AI
set_option linter.unusedVariables false
set_option linter.unusedSimpArgs false

theorem order_awake : g_snafflelaw07_awake = some true := by kernel_rfl

theorem order_Open (o : OrderT) (ro : R_OrderT o) : g_order_Open o = some (if ordP o ∧ o.Phase ≠ 3 then (if o.NewQty > o.Qty then o.NewQty else o.Qty) - o.Filled else 0) := by
  unfold g_order_Open g_num_Max
  rw [order_Right]
  simp only [Option.bind_some]
  by_cases h : ordP o
  · by_cases p : o.Phase = 3
    · simp [h, p]
    · obtain ⟨_, h1, h2, _, h4, _⟩ := id h
      unfold pend at h4
      unfold R_OrderT R_i64 at ro
      rw [if_pos (show ordP o ∧ o.Phase ≠ 3 from ⟨h, p⟩)]
      have b : (o.Phase == 3) = false := by simp [p]
      simp only [h, b, decide_true, Bool.not_true, Bool.or_self, cond_false]
      congr 1
      apply wrap_of <;> split <;> omega
  · simp [h]

theorem rec_Right1 (r : RecT) (h : r.Kind = 1) : g_rec_Right r = some (decide (newP r.Order r.Account r.Symbol r.Side r.Qty r.Price ∧ r.Long = 0 ∧ r.Short = 0 ∧ r.Open = 0 ∧ r.On = false ∧ r.Seq = 0 ∧ r.What = 0)) := by
  simp only [g_rec_Right, g_rec_fields, g_rec_known, g_rec_below, g_rec_sized, h, beq_self_eq_true, cond_true, Option.bind_some, Bool.and_self, Bool.not_true, cond_false, Bool.true_and, cond_some]
  congr 1
  refine dec_of ?_
  unfold newP idP
  simp
  by_cases h1 : r.Long = 0 ∧ r.Short = 0 ∧ r.Open = 0 ∧ r.On = false ∧ r.Seq = 0 ∧ r.What = 0
  · obtain ⟨e1, e2, e3, e4, e5, e6⟩ := h1
    simp [e1, e2, e3, e4, e5, e6]
    try omega
  · simp only [h1]
    simp
    try (intro e1 e2 e3 e4 e5 e6; exact absurd ⟨e1, e2, e3, e4, e5, e6⟩ h1)

end Go.AI
