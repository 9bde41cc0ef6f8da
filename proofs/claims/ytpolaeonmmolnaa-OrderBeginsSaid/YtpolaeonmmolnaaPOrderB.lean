/- order: what begins; what is done. -/
import Derived.Test.YtpolaeonmmolnaaPOrder
import Derived.KernelRfl
namespace Go.AI
set_option linter.unusedVariables false
set_option linter.unusedSimpArgs false

theorem order_awake : g_snafflelaw07_awake = some true := by kernel_rfl

theorem order_Open (o : OrderT) (ro : R_OrderT o) : g_order_Open o = some (if ordP o ∧ o.Phase ≠ 3 then (if o.NewQty > o.Qty then o.NewQty else o.Qty) - o.Filled else 0) := by
  unfold g_order_Open g_num_Max
  rw [order_Right]
  simp only [Option.bind_some]
  by_cases h : ordP o
  · by_cases p : o.Phase = 3
    · simp [h, p]
    · obtain ⟨_, h1, h2, _, h4, _⟩ := id h
      unfold pend at h4
      unfold R_OrderT R_i64 at ro
      rw [if_pos (show ordP o ∧ o.Phase ≠ 3 from ⟨h, p⟩)]
      have b : (o.Phase == 3) = false := by simp [p]
      simp only [h, b, decide_true, Bool.not_true, Bool.or_self, cond_false]
      congr 1
      apply wrap_of <;> split <;> omega
  · simp [h]

theorem rec_Right1 (r : RecT) (h : r.Kind = 1) : g_rec_Right r = some (decide (newP r.Order r.Account r.Symbol r.Side r.Qty r.Price ∧ r.Long = 0 ∧ r.Short = 0 ∧ r.Open = 0 ∧ r.On = false ∧ r.Seq = 0 ∧ r.What = 0)) := by
  simp only [g_rec_Right, g_rec_fields, g_rec_known, g_rec_below, g_rec_sized, h, beq_self_eq_true, cond_true, Option.bind_some, Bool.and_self, Bool.not_true, cond_false, Bool.true_and, cond_some]
  congr 1
  refine dec_of ?_
  unfold newP idP
  simp
  by_cases h1 : r.Long = 0 ∧ r.Short = 0 ∧ r.Open = 0 ∧ r.On = false ∧ r.Seq = 0 ∧ r.What = 0
  · obtain ⟨e1, e2, e3, e4, e5, e6⟩ := h1
    simp [e1, e2, e3, e4, e5, e6]
    try omega
  · simp only [h1]
    simp
    try (intro e1 e2 e3 e4 e5 e6; exact absurd ⟨e1, e2, e3, e4, e5, e6⟩ h1)

theorem pure_g_snafflelaw07_OrderBegins (r : RecT) (rr : R_RecT r) : g_snafflelaw07_OrderBegins r = some true := by
  unfold g_snafflelaw07_OrderBegins g_order_Begin
  rw [order_awake]
  simp only [Option.bind_some, Bool.not_true, cond_false]
  by_cases hk : r.Kind = 1
  · have bk : (r.Kind != 1) = false := by simp [hk]
    simp only [bk, cond_false, rec_Right1 r hk, Option.bind_some]
    by_cases hn : newP r.Order r.Account r.Symbol r.Side r.Qty r.Price ∧ r.Long = 0 ∧ r.Short = 0 ∧ r.Open = 0 ∧ r.On = false ∧ r.Seq = 0 ∧ r.What = 0
    · simp only [hn, and_self, decide_true, Bool.not_true, cond_false, bne_self_eq_false]
      obtain ⟨hn, _⟩ := hn
      have hid := hn.1
      unfold R_RecT at rr
      obtain ⟨_, r1, r2, r3, r4, r5, r6, _⟩ := rr
      have z : R_i64 0 := by unfold R_i64; omega
      have o1 : R_i64 1 := by unfold R_i64; omega
      have o2 : R_i64 2 := by unfold R_i64; omega
      have o3 : R_i64 3 := by unfold R_i64; omega
      have o4 : R_i64 4 := by unfold R_i64; omega
      have hO : ordP ⟨r.Order, r.Account, r.Symbol, r.Side, r.Qty, r.Price, 0, 1, 0, 0, 0, false⟩ := by
        unfold newP at hn
        simp [ordP, pend, newP, hn]; omega
      have hO2 : ordP ⟨r.Order, r.Account, r.Symbol, r.Side, r.Qty, r.Price, 0, 2, 0, 0, 0, false⟩ := by
        unfold newP at hn
        simp [ordP, pend, newP, hn]; omega
      have e2 : evP ⟨1, 2, r.Order, 0, 0⟩ := by simp [evP, hid]
      have e1 : evP ⟨1, 1, r.Order, 0, 0⟩ := by simp [evP, hid]
      have e4 : evP ⟨2, 4, r.Order, 0, 0⟩ := by simp [evP, hid]
      have ro : R_OrderT ⟨r.Order, r.Account, r.Symbol, r.Side, r.Qty, r.Price, 0, 1, 0, 0, 0, false⟩ := ⟨r1, r2, r3, r4, r5, r6, z, o1, z, z, z, trivial, trivial⟩
      have ro2 : R_OrderT ⟨r.Order, r.Account, r.Symbol, r.Side, r.Qty, r.Price, 0, 2, 0, 0, 0, false⟩ := ⟨r1, r2, r3, r4, r5, r6, z, o2, z, z, z, trivial, trivial⟩
      have ro3 : R_OrderT ⟨r.Order, r.Account, r.Symbol, r.Side, r.Qty, r.Price, 0, 3, 0, 0, 0, false⟩ := ⟨r1, r2, r3, r4, r5, r6, z, o3, z, z, z, trivial, trivial⟩
      have t2 : g_order_Take ⟨r.Order, r.Account, r.Symbol, r.Side, r.Qty, r.Price, 0, 1, 0, 0, 0, false⟩ ⟨1, 2, r.Order, 0, 0⟩ = some (⟨r.Order, r.Account, r.Symbol, r.Side, r.Qty, r.Price, 0, 3, 0, 0, 0, false⟩, 0) := by
        rw [order_Take _ _ ro ⟨o1, o2, r1, z, z, trivial⟩]; simp [takeF, hO, e2, doneF]
      have t1 : g_order_Take ⟨r.Order, r.Account, r.Symbol, r.Side, r.Qty, r.Price, 0, 1, 0, 0, 0, false⟩ ⟨1, 1, r.Order, 0, 0⟩ = some (⟨r.Order, r.Account, r.Symbol, r.Side, r.Qty, r.Price, 0, 2, 0, 0, 0, false⟩, 0) := by
        rw [order_Take _ _ ro ⟨o1, o1, r1, z, z, trivial⟩]; simp [takeF, hO, e1]
      have t4 : g_order_Take ⟨r.Order, r.Account, r.Symbol, r.Side, r.Qty, r.Price, 0, 2, 0, 0, 0, false⟩ ⟨2, 4, r.Order, 0, 0⟩ = some (⟨r.Order, r.Account, r.Symbol, r.Side, r.Qty, r.Price, 0, 3, 0, 0, 0, false⟩, 0) := by
        rw [order_Take _ _ ro2 ⟨o2, o4, r1, z, z, trivial⟩]; simp [takeF, hO2, e4, doneF]
      simp only [t2, t1, t4, Option.bind_some, order_Right, hO, order_Open _ ro, order_Open _ ro2, order_Open _ ro3, hO2]
      unfold newP at hn
      have q1 : ¬ (0 > r.Qty) := by omega
      simp [q1]
    · simp only [hn, decide_false, Bool.not_false, cond_true]
      simp
  · have bk : (r.Kind != 1) = true := by simp [hk]
    simp [bk]

theorem pure_g_snafflelaw07_OrderFills (o : OrderT) (a b seq : Int) (ro : R_OrderT o) (ra : R_i64 a) (rb : R_i64 b) (rs : R_i64 seq) : g_snafflelaw07_OrderFills o a b seq = some true := by
  unfold g_snafflelaw07_OrderFills
  rw [order_awake, order_Right]
  simp only [Option.bind_some, Bool.not_true, cond_false]
  by_cases hg : ((((((((!decide (ordP o)) || (o.Phase != 2)) || (decide (a < 1))) || (decide (b < 1))) || (decide (a > o.Qty))) || (decide (b > o.Qty))) || (decide (seq < 1))) || (decide (seq > 1000))) = true
  · rw [hg]; rfl
  rw [Bool.not_eq_true] at hg
  rw [hg, cond_false]
  simp only [Bool.or_eq_false_iff, Bool.not_eq_false', decide_eq_true_eq, bne_eq_false_iff_eq, decide_eq_false_iff_not] at hg
  obtain ⟨⟨⟨⟨⟨⟨⟨hO, hp⟩, ha⟩, hb⟩, haq⟩, hbq⟩, hs1⟩, hs2⟩ := hg
  obtain ⟨hN, f1, f2, f3, f4, f5⟩ := id hO
  have hid := hN.1
  unfold idP at hid
  have ro' := ro
  unfold R_OrderT R_i64 at ro'
  have wl : IntKind.wrap .i64 (o.Qty - o.Filled) = o.Qty - o.Filled := wrap_of (by omega) (by omega)
  have z : R_i64 0 := by unfold R_i64; omega
  have o3 : R_i64 3 := by unfold R_i64; omega
  have z' := z
  have rid : R_i64 o.Id := ro.1
  have ev : ∀ q s, 1 ≤ q → 1 ≤ s → s ≤ 1001 → evP ⟨s, 3, o.Id, q, 0⟩ := by
    intro q s h1 h2 h3
    simp [evP, hN.1]; omega
  rw [order_Take o _ ro ⟨rs, o3, rid, ra, z, trivial⟩]
  simp only [wl, Option.bind_some]
  have h3 : ¬ o.Phase = 1 := by omega
  by_cases hal : a > o.Qty - o.Filled
  · simp [hal, takeF, hO, ev a seq (by omega) (by omega) (by omega), h3, hp]
  · have w2 : IntKind.wrap .i64 (o.Filled + a) = o.Filled + a := wrap_of (by omega) (by omega)
    have w3 : IntKind.wrap .i64 (seq + 1) = seq + 1 := wrap_of (by omega) (by omega)
    have w4 : IntKind.wrap .i64 (o.Qty - o.Filled - a) = o.Qty - o.Filled - a := wrap_of (by omega) (by omega)
    have hal' : ¬ o.Qty - o.Filled < a := by omega
    simp only [w2, w3, w4]
    obtain ⟨a1, a2, a3, a4, a5, a6, a7, a8, a9, a10, a11, _⟩ := id ro
    by_cases hlt : o.Filled + a < o.Qty
    · have t1 : takeF o ⟨seq, 3, o.Id, a, 0⟩ = (⟨o.Id, o.Account, o.Symbol, o.Side, o.Qty, o.Price, o.Filled + a, 2, o.NewQty, o.NewPrice, o.Version, o.Asked⟩, 0) := by
        simp [takeF, hO, ev a seq (by omega) (by omega) (by omega), hp, hal', hlt]
      have hO1 : ordP ⟨o.Id, o.Account, o.Symbol, o.Side, o.Qty, o.Price, o.Filled + a, 2, o.NewQty, o.NewPrice, o.Version, o.Asked⟩ := by
        refine ⟨hN, ?_, ?_, f3, f4, .inr (.inl ⟨rfl, hlt⟩)⟩ <;> simp only <;> omega
      have ro1 : R_OrderT ⟨o.Id, o.Account, o.Symbol, o.Side, o.Qty, o.Price, o.Filled + a, 2, o.NewQty, o.NewPrice, o.Version, o.Asked⟩ :=
        ⟨a1, a2, a3, a4, a5, a6, by unfold R_i64; simp only; omega, by unfold R_i64; simp only; omega, a9, a10, a11, trivial, trivial⟩
      rw [t1]
      simp only
      have rs1 : R_i64 (seq + 1) := by unfold R_i64; omega
      rw [order_Take _ ⟨seq + 1, 3, o.Id, b, 0⟩ ro1 ⟨rs1, o3, rid, rb, z, trivial⟩]
      simp only [Option.bind_some]
      have c1 : ¬ a = o.Qty - o.Filled := by omega
      have c2 : (a == o.Qty - o.Filled) = false := by simp [c1]
      have e1 := ev b (seq + 1) (by omega) (by omega) (by omega)
      by_cases hbl : b > o.Qty - o.Filled - a
      · have t2 : takeF ⟨o.Id, o.Account, o.Symbol, o.Side, o.Qty, o.Price, o.Filled + a, 2, o.NewQty, o.NewPrice, o.Version, o.Asked⟩ ⟨seq + 1, 3, o.Id, b, 0⟩ = (⟨o.Id, o.Account, o.Symbol, o.Side, o.Qty, o.Price, o.Filled + a, 2, o.NewQty, o.NewPrice, o.Version, o.Asked⟩, 8) := by
          have : o.Qty - (o.Filled + a) < b := by omega
          simp [takeF, hO1, e1, this]
        rw [t2]
        simp [hal', hbl, c1, c2]
      · have w5 : IntKind.wrap .i64 (a + b) = a + b := wrap_of (by omega) (by omega)
        have rab : R_i64 (a + b) := by unfold R_i64; omega
        rw [w5, order_Take o ⟨seq, 3, o.Id, a + b, 0⟩ ro ⟨rs, o3, rid, rab, z, trivial⟩]
        simp only [Option.bind_some]
        have e2 := ev (a + b) seq (by omega) (by omega) (by omega)
        have n1 : ¬ o.Qty - (o.Filled + a) < b := by omega
        have n2 : ¬ o.Qty - o.Filled < a + b := by omega
        have hbl' : ¬ o.Qty - o.Filled - a < b := by omega
        by_cases hfin : o.Filled + a + b < o.Qty
        · have hfin' : o.Filled + (a + b) < o.Qty := by omega
          have t2 : takeF ⟨o.Id, o.Account, o.Symbol, o.Side, o.Qty, o.Price, o.Filled + a, 2, o.NewQty, o.NewPrice, o.Version, o.Asked⟩ ⟨seq + 1, 3, o.Id, b, 0⟩ = (⟨o.Id, o.Account, o.Symbol, o.Side, o.Qty, o.Price, o.Filled + a + b, 2, o.NewQty, o.NewPrice, o.Version, o.Asked⟩, 0) := by
            simp [takeF, hO1, e1, n1, hfin]
          have t3 : takeF o ⟨seq, 3, o.Id, a + b, 0⟩ = (⟨o.Id, o.Account, o.Symbol, o.Side, o.Qty, o.Price, o.Filled + a + b, 2, o.NewQty, o.NewPrice, o.Version, o.Asked⟩, 0) := by
            simp [takeF, hO, e2, hp, n2, hfin']; omega
          rw [t2, t3]
          simp [hal', hbl', c1, c2]
        · have hfin' : ¬ o.Filled + (a + b) < o.Qty := by omega
          have t2 : takeF ⟨o.Id, o.Account, o.Symbol, o.Side, o.Qty, o.Price, o.Filled + a, 2, o.NewQty, o.NewPrice, o.Version, o.Asked⟩ ⟨seq + 1, 3, o.Id, b, 0⟩ = (⟨o.Id, o.Account, o.Symbol, o.Side, o.Qty, o.Price, o.Filled + a + b, 3, 0, 0, o.Version, o.Asked⟩, 0) := by
            simp [takeF, hO1, e1, n1, hfin]
          have t3 : takeF o ⟨seq, 3, o.Id, a + b, 0⟩ = (⟨o.Id, o.Account, o.Symbol, o.Side, o.Qty, o.Price, o.Filled + a + b, 3, 0, 0, o.Version, o.Asked⟩, 0) := by
            simp [takeF, hO, e2, hp, n2, hfin']; omega
          rw [t2, t3]
          simp [hal', hbl', c1, c2]
    · have t1 : takeF o ⟨seq, 3, o.Id, a, 0⟩ = (⟨o.Id, o.Account, o.Symbol, o.Side, o.Qty, o.Price, o.Filled + a, 3, 0, 0, o.Version, o.Asked⟩, 0) := by
        simp [takeF, hO, ev a seq (by omega) (by omega) (by omega), hp, hal', hlt]
      have ro1 : R_OrderT ⟨o.Id, o.Account, o.Symbol, o.Side, o.Qty, o.Price, o.Filled + a, 3, 0, 0, o.Version, o.Asked⟩ :=
        ⟨a1, a2, a3, a4, a5, a6, by unfold R_i64; simp only; omega, o3, z, z, a11, trivial, trivial⟩
      have hO1 : ordP ⟨o.Id, o.Account, o.Symbol, o.Side, o.Qty, o.Price, o.Filled + a, 3, 0, 0, o.Version, o.Asked⟩ := by
        refine ⟨hN, ?_, ?_, f3, ?_, .inr (.inr ⟨rfl, ?_⟩)⟩
        · simp only; omega
        · simp only; omega
        · simp [pend]
        · simp [pend]
      rw [t1]
      simp only
      have rs1 : R_i64 (seq + 1) := by unfold R_i64; omega
      rw [order_Take _ ⟨seq + 1, 3, o.Id, b, 0⟩ ro1 ⟨rs1, o3, rid, rb, z, trivial⟩]
      have c1 : a = o.Qty - o.Filled := by omega
      have hbl : b > o.Qty - o.Filled - a := by omega
      have e1 := ev b (seq + 1) (by omega) (by omega) (by omega)
      have t2 : takeF ⟨o.Id, o.Account, o.Symbol, o.Side, o.Qty, o.Price, o.Filled + a, 3, 0, 0, o.Version, o.Asked⟩ ⟨seq + 1, 3, o.Id, b, 0⟩ = (⟨o.Id, o.Account, o.Symbol, o.Side, o.Qty, o.Price, o.Filled + a, 3, 0, 0, o.Version, o.Asked⟩, 8) := by
        simp [takeF, hO1, e1]
      rw [t2]
      simp only [Option.bind_some]
      have d1 : decide (a > o.Qty - o.Filled) = false := by simp; omega
      have d2 : decide (b > o.Qty - o.Filled - a) = true := by simp; omega
      rw [d1, d2]
      simp [c1]
end Go.AI
