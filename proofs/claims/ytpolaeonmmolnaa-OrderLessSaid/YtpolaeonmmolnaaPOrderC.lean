/- order: what a note leaves. -/
import Derived.Test.YtpolaeonmmolnaaPOrderB
import Derived.Test.YtpolaeonmmolnaaPMul
namespace Go.AI
set_option linter.unusedVariables false
set_option linter.unusedSimpArgs false

def nowW (o : OrderT) : Int := (o.Qty - o.Filled) * o.Price
def thenW (o : OrderT) : Int := (o.NewQty - o.Filled) * o.NewPrice
def worthF (o : OrderT) : Int × Int :=
  if ¬ ordP o then (0, 1) else if o.Phase = 3 then (0, 0) else if ¬ fit (nowW o) then (0, 3) else if o.NewQty ≤ o.Filled then (nowW o, 0) else if ¬ fit (thenW o) then (0, 3) else (if thenW o > nowW o then thenW o else nowW o, 0)
def openF (o : OrderT) : Int := if ordP o ∧ o.Phase ≠ 3 then (if o.NewQty > o.Qty then o.NewQty else o.Qty) - o.Filled else 0

theorem order_Worth (o : OrderT) (ro : R_OrderT o) : g_order_Worth o = some (worthF o) := by
  unfold g_order_Worth worthF
  rw [order_Right]
  simp only [Option.bind_some]
  by_cases h : ordP o
  · obtain ⟨_, h1, h2, _, h4, _⟩ := id h
    obtain ⟨_, _, _, _, rq, rp, rf, _, rnq, rnp, _⟩ := id ro
    by_cases p : o.Phase = 3
    · simp [h, p]
    · have b : (o.Phase == 3) = false := by simp [p]
      have wl : IntKind.wrap .i64 (o.Qty - o.Filled) = o.Qty - o.Filled := by unfold R_i64 at rq rf; exact wrap_of (by omega) (by omega)
      have rl : R_i64 (o.Qty - o.Filled) := by unfold R_i64 at rq rf ⊢; omega
      simp only [h, b, decide_true, Bool.not_true, cond_false, not_true, if_false, p, wl, num_Mul _ _ rl rp, Option.bind_some]
      show (bif ((if fit (nowW o) then (nowW o, (0 : Int)) else (0, 3)).2 != 0 || decide (o.NewQty ≤ o.Filled)) then _ else _) = _
      by_cases f1 : fit (nowW o)
      · by_cases hn : o.NewQty ≤ o.Filled
        · have f1' : fit ((o.Qty - o.Filled) * o.Price) := f1
          simp [f1, f1', hn, nowW]
        · have f1' : fit ((o.Qty - o.Filled) * o.Price) := f1
          have wn : IntKind.wrap .i64 (o.NewQty - o.Filled) = o.NewQty - o.Filled := by unfold R_i64 at rnq rf; exact wrap_of (by omega) (by omega)
          have rn : R_i64 (o.NewQty - o.Filled) := by unfold R_i64 at rnq rf ⊢; omega
          simp only [f1, f1', if_true, bne_self_eq_false, Bool.false_or, hn, decide_false, cond_false, wn, num_Mul _ _ rn rnp, Option.bind_some, not_true, if_false]
          by_cases f2 : fit (thenW o)
          · have f2' : fit ((o.NewQty - o.Filled) * o.NewPrice) := f2
            simp only [f2, f2', if_true, bne_self_eq_false, cond_false, g_num_Max, Option.bind_some, not_true, if_false]
            rfl
          · have f2' : ¬ fit ((o.NewQty - o.Filled) * o.NewPrice) := f2
            simp [f2, f2']
      · have f1' : ¬ fit ((o.Qty - o.Filled) * o.Price) := f1
        simp [f1, f1']
  · simp [h]

noncomputable def lessB (o p : OrderT) : Option Bool := (Option.bind ((Option.bind (g_order_Right p) fun v12 => (bif (!v12) then (some true) else (bif (o.Phase == 3) then (some true) else (bif (decide (p.Phase < o.Phase)) then (some true) else (bif (p.Id != o.Id) then (some true) else (bif (p.Account != o.Account) then (some true) else (bif (p.Symbol != o.Symbol) then (some true) else (bif (p.Side != o.Side) then (some true) else (bif (decide (p.Filled < o.Filled)) then (some true) else (bif (p.Version != o.Version) then (some true) else (bif (p.Asked != o.Asked) then (some true) else (Option.bind (g_order_Open p) fun v23 => (Option.bind (g_order_Open o) fun v24 => (some (decide (v23 > v24)))))))))))))))) : Option (Bool)) (fun (j10 : Bool) => (bif j10 then (some false) else (Option.bind (g_order_Worth o) fun v25 => (Option.bind (g_order_Worth p) fun v26 => (some ((v25.2 != 0) || ((v26.2 == 0) && (decide (v26.1 ≤ v25.1))))))))))

theorem order_OpenF (o : OrderT) (ro : R_OrderT o) : g_order_Open o = some (openF o) := order_Open o ro

theorem openF_of {o : OrderT} (hO : ordP o) (h : o.Phase ≠ 3) : openF o = (if o.NewQty > o.Qty then o.NewQty else o.Qty) - o.Filled := by
  unfold openF; rw [if_pos ⟨hO, h⟩]

theorem less_fin {o p : OrderT} (ro : R_OrderT o) (rp : R_OrderT p) (hO : ordP o) (hP : ordP p) (h3 : ¬ o.Phase = 3) (ph : o.Phase ≤ p.Phase) (e1 : p.Id = o.Id) (e2 : p.Account = o.Account) (e3 : p.Symbol = o.Symbol) (e4 : p.Side = o.Side) (hf : o.Filled ≤ p.Filled) (e5 : p.Version = o.Version) (e6 : p.Asked = o.Asked)
    (hop : openF p ≤ openF o) (hw : (worthF o).2 = 0 → (worthF p).2 = 0 ∧ (worthF p).1 ≤ (worthF o).1) : lessB o p = some true := by
  unfold lessB
  rw [order_Right, order_OpenF p rp, order_OpenF o ro, order_Worth o ro, order_Worth p rp]
  have hop' : ¬ openF p > openF o := by omega
  have b3 : (o.Phase == 3) = false := by simp [h3]
  have bp : decide (p.Phase < o.Phase) = false := by simp; omega
  have bf : decide (p.Filled < o.Filled) = false := by simp; omega
  simp only [Option.bind_some, hP, decide_true, Bool.not_true, cond_false, b3, bp, bf, e1, e2, e3, e4, e5, e6, bne_self_eq_false]
  simp only [decide_eq_false hop', cond_false]
  by_cases hz : (worthF o).2 = 0
  · obtain ⟨h1, h2⟩ := hw hz
    simp [hz, h1, h2]
  · simp [hz]

theorem worth_nonneg (o : OrderT) : 0 ≤ (worthF o).1 := by
  unfold worthF
  split
  · exact Int.le_refl _
  rename_i h
  simp only [Classical.not_not] at h
  obtain ⟨⟨_, _, _, _, _, _, _, hp⟩, h1, h2, _⟩ := h
  have hn : 0 ≤ nowW o := Int.mul_nonneg (by omega) (by omega)
  split
  · exact Int.le_refl _
  split
  · exact Int.le_refl _
  split
  · exact hn
  split
  · exact Int.le_refl _
  · simp only; split <;> omega
theorem open_nonneg (o : OrderT) : 0 ≤ openF o := by
  unfold openF
  split
  · rename_i h
    obtain ⟨_, _, h2, _⟩ := h.1
    split <;> omega
  · omega

/-- What is done has nothing more. -/
theorem done_less {o p : OrderT} (hP : ordP p) (hp : p.Phase = 3) : openF p ≤ openF o ∧ ((worthF o).2 = 0 → (worthF p).2 = 0 ∧ (worthF p).1 ≤ (worthF o).1) := by
  have h1 : worthF p = (0, 0) := by unfold worthF; simp [hP, hp]
  have h2 : openF p = 0 := by unfold openF; simp [hp]
  rw [h1, h2]
  exact ⟨open_nonneg o, fun _ => ⟨rfl, worth_nonneg o⟩⟩

theorem keep_less {o p : OrderT} (hO : ordP o) (hP : ordP p) (h3 : ¬ o.Phase = 3) (hp3 : ¬ p.Phase = 3) (h1 : openF p ≤ openF o) (hq : nowW p ≤ nowW o) (hn : p.NewQty > p.Filled → o.NewQty > o.Filled ∧ thenW p ≤ thenW o) :
    (worthF o).2 = 0 → (worthF p).2 = 0 ∧ (worthF p).1 ≤ (worthF o).1 := by
  have n1 : 0 ≤ nowW p := by obtain ⟨⟨_, _, _, _, _, _, _, hp⟩, h1, h2, _⟩ := hP; exact Int.mul_nonneg (by omega) (by omega)
  have n2 : p.NewQty > p.Filled → 0 ≤ thenW p := by
    intro h
    obtain ⟨_, h1, h2, _, h4, _⟩ := hP
    unfold pend at h4
    exact Int.mul_nonneg (by omega) (by omega)
  unfold worthF
  simp only [hO, hP, not_true, if_false, h3, hp3]
  intro h
  unfold fit at *
  by_cases f1 : -9223372036854775808 ≤ nowW o ∧ nowW o < 9223372036854775808
  · simp only [f1, and_self, not_true, if_false] at h ⊢
    have g1 : -9223372036854775808 ≤ nowW p ∧ nowW p < 9223372036854775808 := by omega
    simp only [g1, and_self, not_true, if_false]
    by_cases c : o.NewQty ≤ o.Filled
    · have c' : p.NewQty ≤ p.Filled := by
        by_cases q : p.NewQty ≤ p.Filled
        · exact q
        · have := (hn (by omega)).1; omega
      simp [c, c', hq]
    · simp only [c, if_false] at h ⊢
      by_cases f2 : -9223372036854775808 ≤ thenW o ∧ thenW o < 9223372036854775808
      · simp only [f2, and_self, not_true, if_false]
        by_cases c' : p.NewQty ≤ p.Filled
        · simp only [c', if_true, true_and]
          split <;> omega
        · have h5 := (hn (by omega)).2
          have h6 := n2 (by omega)
          have g2 : -9223372036854775808 ≤ thenW p ∧ thenW p < 9223372036854775808 := by omega
          simp only [c', if_false, g2, and_self, not_true, true_and]
          split <;> split <;> omega
      · simp [f2] at h
  · simp [f1] at h

theorem pure_g_snafflelaw07_OrderLess (o : OrderT) (n : NoteT) (ro : R_OrderT o) (rn : R_NoteT n) : g_snafflelaw07_OrderLess o n = some true := by
  unfold g_snafflelaw07_OrderLess
  rw [order_awake, order_Right]
  simp only [Option.bind_some, Bool.not_true, cond_false]
  by_cases hO : ordP o
  rotate_left
  · simp [hO]
  simp only [hO, decide_true, Bool.not_true, cond_false]
  rw [order_Take o n ro rn]
  simp only [Option.bind_some]
  have no : ∀ e, e = 1 ∨ e = 8 → takeF o n = (o, e) → (bif ((takeF o n).2 != 0) then (some ((((takeF o n).1.Id == o.Id) && (((takeF o n).1.Account == o.Account) && (((takeF o n).1.Symbol == o.Symbol) && (((takeF o n).1.Side == o.Side) && (((takeF o n).1.Qty == o.Qty) && (((takeF o n).1.Price == o.Price) && (((takeF o n).1.Filled == o.Filled) && (((takeF o n).1.Phase == o.Phase) && (((takeF o n).1.NewQty == o.NewQty) && (((takeF o n).1.NewPrice == o.NewPrice) && (((takeF o n).1.Version == o.Version) && (((takeF o n).1.Asked == o.Asked) && true)))))))))))) && (((takeF o n).2 == 1) || ((takeF o n).2 == 8)))) else lessB o (takeF o n).1) = some true := by
    intro e he h
    rw [h]
    rcases he with rfl | rfl <;> simp
  have yes : ∀ p, takeF o n = (p, 0) → lessB o p = some true → (bif ((takeF o n).2 != 0) then (some ((((takeF o n).1.Id == o.Id) && (((takeF o n).1.Account == o.Account) && (((takeF o n).1.Symbol == o.Symbol) && (((takeF o n).1.Side == o.Side) && (((takeF o n).1.Qty == o.Qty) && (((takeF o n).1.Price == o.Price) && (((takeF o n).1.Filled == o.Filled) && (((takeF o n).1.Phase == o.Phase) && (((takeF o n).1.NewQty == o.NewQty) && (((takeF o n).1.NewPrice == o.NewPrice) && (((takeF o n).1.Version == o.Version) && (((takeF o n).1.Asked == o.Asked) && true)))))))))))) && (((takeF o n).2 == 1) || ((takeF o n).2 == 8)))) else lessB o (takeF o n).1) = some true := by
    intro p h hp
    rw [h]
    simpa using hp
  by_cases hP : evP n ∧ n.Order = o.Id
  rotate_left
  · refine no 1 (.inl rfl) ?_
    unfold takeF
    rw [if_pos (fun h => hP h.2)]
  obtain ⟨hN, f1, f2, f3, f4, f5⟩ := id hO
  obtain ⟨a1, a2, a3, a4, a5, a6, a7, a8, a9, a10, a11, _⟩ := id ro
  obtain ⟨_, _, _, n4, n5, _⟩ := id rn
  have z : R_i64 0 := by unfold R_i64; omega
  have o2 : R_i64 2 := by unfold R_i64; omega
  have o3 : R_i64 3 := by unfold R_i64; omega
  have hh : ordP o ∧ evP n ∧ n.Order = o.Id := ⟨hO, hP⟩
  have hnn : ¬ ¬ (ordP o ∧ evP n ∧ n.Order = o.Id) := fun h => h hh
  have hN' := hN
  unfold newP idP at hN'
  obtain ⟨_, _, _, ev⟩ := id hP.1
  have fin : ∀ f, 0 ≤ f → o.Filled ≤ f → f ≤ o.Qty → ¬ o.Phase = 3 → lessB o ⟨o.Id, o.Account, o.Symbol, o.Side, o.Qty, o.Price, f, 3, 0, 0, o.Version, o.Asked⟩ = some true := by
    intro f h0 h1 h2 hp
    have hP3 : ordP ⟨o.Id, o.Account, o.Symbol, o.Side, o.Qty, o.Price, f, 3, 0, 0, o.Version, o.Asked⟩ := ⟨hN, h0, h2, f3, by simp [pend], .inr (.inr ⟨rfl, by simp [pend]⟩)⟩
    have rf : R_i64 f := by unfold R_i64 at a5 ⊢; omega
    obtain ⟨q1, q2⟩ := done_less (o := o) hP3 rfl
    exact less_fin ro ⟨a1, a2, a3, a4, a5, a6, rf, o3, z, z, a11, trivial, trivial⟩ hO hP3 hp (by simp only; omega) rfl rfl rfl rfl h1 rfl rfl q1 q2
  by_cases p1 : o.Phase = 1
  · by_cases w1 : n.What = 1
    · refine yes ⟨o.Id, o.Account, o.Symbol, o.Side, o.Qty, o.Price, o.Filled, 2, o.NewQty, o.NewPrice, o.Version, o.Asked⟩ (by simp only [takeF, hnn, if_false, p1, w1, if_true]) ?_
      have hP2 : ordP ⟨o.Id, o.Account, o.Symbol, o.Side, o.Qty, o.Price, o.Filled, 2, o.NewQty, o.NewPrice, o.Version, o.Asked⟩ := ⟨hN, f1, f2, f3, f4, .inr (.inl ⟨rfl, by simp only; omega⟩)⟩
      have ho : openF ⟨o.Id, o.Account, o.Symbol, o.Side, o.Qty, o.Price, o.Filled, 2, o.NewQty, o.NewPrice, o.Version, o.Asked⟩ ≤ openF o := by
        unfold openF; simp [hP2, hO, p1]
      exact less_fin ro ⟨a1, a2, a3, a4, a5, a6, a7, o2, a9, a10, a11, trivial, trivial⟩ hO hP2 (by omega) (by simp only; omega) rfl rfl rfl rfl (Int.le_refl _) rfl rfl ho
        (keep_less hO hP2 (by omega) (by simp) ho (Int.le_refl _) (fun h => ⟨h, Int.le_refl _⟩))
    by_cases w2 : n.What = 2
    · refine yes _ (by simp only [takeF, hnn, if_false, p1, w2, if_true, doneF]; rfl) ?_
      exact fin o.Filled f1 (Int.le_refl _) f2 (by omega)
    · refine no 8 (.inr rfl) (by simp only [takeF, hnn, if_false, p1, w1, w2, if_true])
  by_cases p2 : o.Phase = 2
  · have hlt : o.Filled < o.Qty := by omega
    by_cases w3 : n.What = 3
    · by_cases q : n.Qty > o.Qty - o.Filled
      · refine no 8 (.inr rfl) (by simp [takeF, hnn, p2, w3, q])
      by_cases q2 : o.Filled + n.Qty < o.Qty
      · refine yes ⟨o.Id, o.Account, o.Symbol, o.Side, o.Qty, o.Price, o.Filled + n.Qty, 2, o.NewQty, o.NewPrice, o.Version, o.Asked⟩ (by simp [takeF, hnn, p2, w3, q, q2]) ?_
        have hn1 : 1 ≤ n.Qty := by omega
        have hP2 : ordP ⟨o.Id, o.Account, o.Symbol, o.Side, o.Qty, o.Price, o.Filled + n.Qty, 2, o.NewQty, o.NewPrice, o.Version, o.Asked⟩ := ⟨hN, by simp only; omega, by simp only; omega, f3, f4, .inr (.inl ⟨rfl, q2⟩)⟩
        have ho : openF ⟨o.Id, o.Account, o.Symbol, o.Side, o.Qty, o.Price, o.Filled + n.Qty, 2, o.NewQty, o.NewPrice, o.Version, o.Asked⟩ ≤ openF o := by
          unfold openF; simp [hP2, hO, p2]; omega
        have rf : R_i64 (o.Filled + n.Qty) := by unfold R_i64 at a5 ⊢; omega
        refine less_fin ro ⟨a1, a2, a3, a4, a5, a6, rf, o2, a9, a10, a11, trivial, trivial⟩ hO hP2 (by omega) (by simp only; omega) rfl rfl rfl rfl (by simp only; omega) rfl rfl ho
          (keep_less hO hP2 (by omega) (by simp) ho ?_ (fun h => ⟨?_, ?_⟩))
        · exact Int.mul_le_mul_of_nonneg_right (by simp only; omega) (by simp only; omega)
        · simp only at h; omega
        · unfold pend at f4
          simp only at h
          exact Int.mul_le_mul_of_nonneg_right (by simp only; omega) (by simp only; omega)
      · refine yes _ (by simp [takeF, hnn, p2, w3, q, q2, doneF]; rfl) ?_
        exact fin (o.Filled + n.Qty) (by omega) (by omega) (by omega) (by omega)
    by_cases w4 : n.What = 4
    · refine yes _ (by simp [takeF, hnn, p2, w4, doneF]; rfl) ?_
      exact fin o.Filled f1 (Int.le_refl _) f2 (by omega)
    by_cases w5 : n.What = 5
    · by_cases q : pend o ∧ n.Qty = o.NewQty ∧ n.Price = o.NewPrice ∧ n.Qty > o.Filled
      · refine yes ⟨o.Id, o.Account, o.Symbol, o.Side, n.Qty, n.Price, o.Filled, 2, 0, 0, o.Version, o.Asked⟩ (by have q4 : o.Filled < o.NewQty := (by omega); simp [takeF, hnn, p2, w5, q, q4]) ?_
        obtain ⟨qp, q1, q2, q3⟩ := q
        have := f4 qp
        have hP2 : ordP ⟨o.Id, o.Account, o.Symbol, o.Side, n.Qty, n.Price, o.Filled, 2, 0, 0, o.Version, o.Asked⟩ := by
          refine ⟨?_, f1, by simp only; omega, f3, by simp [pend], .inr (.inl ⟨rfl, by simp only; omega⟩)⟩
          unfold newP idP; simp only; omega
        have ho : openF ⟨o.Id, o.Account, o.Symbol, o.Side, n.Qty, n.Price, o.Filled, 2, 0, 0, o.Version, o.Asked⟩ ≤ openF o := by
          rw [openF_of hP2 (by simp), openF_of hO (by omega)]
          simp only
          split <;> split <;> omega
        refine less_fin ro ⟨a1, a2, a3, a4, n4, n5, a7, o2, z, z, a11, trivial, trivial⟩ hO hP2 (by omega) (by simp only; omega) rfl rfl rfl rfl (Int.le_refl _) rfl rfl ho ?_
        -- worth just what was asked for
        have e : nowW ⟨o.Id, o.Account, o.Symbol, o.Side, n.Qty, n.Price, o.Filled, 2, 0, 0, o.Version, o.Asked⟩ = thenW o := by unfold nowW thenW; simp only [q1, q2]
        intro h
        unfold worthF at h ⊢
        have c1 : ¬ o.NewQty ≤ o.Filled := by omega
        have c3 : ¬ o.Phase = 3 := by omega
        have c4 : (0 : Int) ≤ o.Filled := f1
        simp only [hO, hP2, not_true, if_false, c3, c1, e] at h ⊢
        by_cases g1 : fit (nowW o)
        · by_cases g2 : fit (thenW o)
          · simp only [g1, g2, not_true, if_false, c4, if_true] at h ⊢
            rw [if_neg (by decide)]
            refine ⟨rfl, ?_⟩
            simp only
            split <;> omega
          · simp [g1, g2] at h
        · simp [g1] at h
      · refine no 8 (.inr rfl) (by simp [takeF, hnn, p2, w5, q])
    by_cases w6 : n.What = 6
    · by_cases q : pend o
      · refine yes ⟨o.Id, o.Account, o.Symbol, o.Side, o.Qty, o.Price, o.Filled, 2, 0, 0, o.Version, o.Asked⟩ (by simp [takeF, hnn, p2, w6, q]) ?_
        have hP2 : ordP ⟨o.Id, o.Account, o.Symbol, o.Side, o.Qty, o.Price, o.Filled, 2, 0, 0, o.Version, o.Asked⟩ := ⟨hN, f1, f2, f3, by simp [pend], .inr (.inl ⟨rfl, hlt⟩)⟩
        have ho : openF ⟨o.Id, o.Account, o.Symbol, o.Side, o.Qty, o.Price, o.Filled, 2, 0, 0, o.Version, o.Asked⟩ ≤ openF o := by
          rw [openF_of hP2 (by simp), openF_of hO (by omega)]
          simp only
          split <;> split <;> omega
        exact less_fin ro ⟨a1, a2, a3, a4, a5, a6, a7, o2, z, z, a11, trivial, trivial⟩ hO hP2 (by omega) (by simp only; omega) rfl rfl rfl rfl (Int.le_refl _) rfl rfl ho
          (keep_less hO hP2 (by omega) (by simp) ho (Int.le_refl _) (fun h => by simp only at h; omega))
      · refine no 8 (.inr rfl) (by simp [takeF, hnn, p2, w6, q])
    · refine no 8 (.inr rfl) (by simp [takeF, hnn, p2, w3, w4, w5, w6])
  · refine no 8 (.inr rfl) (by simp only [takeF, hnn, if_false, p1, p2])
end Go.AI
