/- order: what its functions come to. -/
import Derived.Test.YtpolaeonmmolnaaL
import Derived.Test.YtpolaeonmmolnaaALj
namespace Go.AI
set_option linter.unusedVariables false
set_option linter.unusedSimpArgs false

def idP (n : Int) : Prop := 1 ≤ n ∧ n ≤ 1000000000000
instance (n : Int) : Decidable (idP n) := by unfold idP; infer_instance
def newP (id ac sy sd q p : Int) : Prop := idP id ∧ 0 ≤ ac ∧ ac < 8 ∧ 0 ≤ sy ∧ sy < 8 ∧ (sd = 1 ∨ sd = 2) ∧ 1 ≤ q ∧ 1 ≤ p
instance (id ac sy sd q p : Int) : Decidable (newP id ac sy sd q p) := by unfold newP; infer_instance
def evP (n : NoteT) : Prop := 1 ≤ n.Seq ∧ n.Seq ≤ 1000000000 ∧ idP n.Order ∧ ((n.What = 3 ∧ 1 ≤ n.Qty ∧ n.Price = 0) ∨ (n.What = 5 ∧ 1 ≤ n.Qty ∧ 1 ≤ n.Price) ∨ ((n.What = 1 ∨ n.What = 2 ∨ n.What = 4 ∨ n.What = 6) ∧ n.Qty = 0 ∧ n.Price = 0))
instance (n : NoteT) : Decidable (evP n) := by unfold evP; infer_instance
def pend (o : OrderT) : Prop := o.NewQty ≠ 0 ∨ o.NewPrice ≠ 0
instance (o : OrderT) : Decidable (pend o) := by unfold pend; infer_instance
def ordP (o : OrderT) : Prop := newP o.Id o.Account o.Symbol o.Side o.Qty o.Price ∧ 0 ≤ o.Filled ∧ o.Filled ≤ o.Qty ∧ 0 ≤ o.Version ∧ (pend o → 1 ≤ o.NewQty ∧ 1 ≤ o.NewPrice) ∧
  ((o.Phase = 1 ∧ o.Filled = 0 ∧ o.Version = 0 ∧ ¬ pend o) ∨ (o.Phase = 2 ∧ o.Filled < o.Qty) ∨ (o.Phase = 3 ∧ ¬ pend o))
instance (o : OrderT) : Decidable (ordP o) := by unfold ordP; infer_instance

theorem cond_some {α : Type} (c : Bool) (a b : α) : (bif c then some a else some b) = some (bif c then a else b) := by cases c <;> rfl
theorem dec_of {b : Bool} {p : Prop} [Decidable p] (h : b = true ↔ p) : b = decide p := by
  rw [Bool.eq_iff_iff, decide_eq_true_iff]; exact h

theorem rec_New (id ac sy sd q p : Int) : g_rec_Right ⟨1, id, ac, sy, sd, q, p, 0, 0, 0, false, 0, 0⟩ = some (decide (newP id ac sy sd q p)) := by
  simp only [g_rec_Right, g_rec_fields, g_rec_known, g_rec_below, g_rec_sized, beq_self_eq_true, cond_true, Option.bind_some, Bool.and_self, Bool.not_true, cond_false, Bool.true_and, cond_some]
  congr 1
  refine dec_of ?_
  unfold newP idP
  simp
  omega

theorem rec_Event (n : NoteT) : g_rec_Right ⟨6, n.Order, 0, 0, 0, n.Qty, n.Price, 0, 0, 0, false, n.Seq, n.What⟩ = some (decide (evP n)) := by
  have k1 : ((6 : Int) == 1) = false := rfl
  have k2 : ((6 : Int) == 2) = false := rfl
  have k3 : ((6 : Int) == 3) = false := rfl
  have k4 : ((6 : Int) == 4) = false := rfl
  have k5 : ((6 : Int) == 5) = false := rfl
  simp only [g_rec_Right, g_rec_fields, g_rec_known, g_rec_below, g_rec_sized, g_rec_event, k1, k2, k3, k4, k5, beq_self_eq_true, cond_true, Option.bind_some, Bool.and_self, Bool.not_true, cond_false, Bool.true_and, cond_some]
  congr 1
  refine dec_of ?_
  unfold evP idP
  by_cases w1 : n.What = 1
  · simp [w1]; try omega
  by_cases w2 : n.What = 2
  · simp [w2]; try omega
  by_cases w3 : n.What = 3
  · simp [w3]; try omega
  by_cases w4 : n.What = 4
  · simp [w4]; try omega
  by_cases w5 : n.What = 5
  · simp [w5]; try omega
  by_cases w6 : n.What = 6
  · simp [w6]; try omega
  simp [w1, w2, w3, w4, w5, w6]
  try omega
theorem order_Right (o : OrderT) : g_order_Right o = some (decide (ordP o)) := by
  simp only [g_order_Right, g_order_pending, g_order_begun, rec_New, Option.bind_some, cond_some]
  congr 1
  refine dec_of ?_
  unfold ordP pend
  by_cases hN : newP o.Id o.Account o.Symbol o.Side o.Qty o.Price
  · by_cases p1 : o.Phase = 1
    · simp [hN, p1]; split <;> omega
    by_cases p2 : o.Phase = 2
    · simp [hN, p2]; split <;> omega
    by_cases p3 : o.Phase = 3
    · simp [hN, p3]; split <;> omega
    have b1 : (o.Phase == 1) = false := by simp [p1]
    have b2 : (o.Phase == 2) = false := by simp [p2]
    have b3 : (o.Phase == 3) = false := by simp [p3]
    simp [p1, p2, p3, b1, b2, b3]
  · simp [hN]
def doneF (o : OrderT) : OrderT := ⟨o.Id, o.Account, o.Symbol, o.Side, o.Qty, o.Price, o.Filled, 3, 0, 0, o.Version, o.Asked⟩
def takeF (o : OrderT) (n : NoteT) : OrderT × Int :=
  if ¬ (ordP o ∧ evP n ∧ n.Order = o.Id) then (o, 1) else
  if o.Phase = 1 then (if n.What = 1 then (⟨o.Id, o.Account, o.Symbol, o.Side, o.Qty, o.Price, o.Filled, 2, o.NewQty, o.NewPrice, o.Version, o.Asked⟩, 0) else if n.What = 2 then (doneF o, 0) else (o, 8))
  else if o.Phase = 2 then
    if n.What = 3 then (if n.Qty > o.Qty - o.Filled then (o, 8) else if o.Filled + n.Qty < o.Qty then (⟨o.Id, o.Account, o.Symbol, o.Side, o.Qty, o.Price, o.Filled + n.Qty, o.Phase, o.NewQty, o.NewPrice, o.Version, o.Asked⟩, 0)
      else (⟨o.Id, o.Account, o.Symbol, o.Side, o.Qty, o.Price, o.Filled + n.Qty, 3, 0, 0, o.Version, o.Asked⟩, 0))
    else if n.What = 4 then (doneF o, 0)
    else if n.What = 5 then (if pend o ∧ n.Qty = o.NewQty ∧ n.Price = o.NewPrice ∧ n.Qty > o.Filled then (⟨o.Id, o.Account, o.Symbol, o.Side, n.Qty, n.Price, o.Filled, o.Phase, 0, 0, o.Version, o.Asked⟩, 0) else (o, 8))
    else if n.What = 6 then (if pend o then (⟨o.Id, o.Account, o.Symbol, o.Side, o.Qty, o.Price, o.Filled, o.Phase, 0, 0, o.Version, o.Asked⟩, 0) else (o, 8))
    else (o, 8)
  else (o, 8)

theorem order_Take (o : OrderT) (n : NoteT) (ro : R_OrderT o) (rn : R_NoteT n) : g_order_Take o n = some (takeF o n) := by
  unfold takeF g_order_Take
  by_cases hP : ordP o ∧ evP n ∧ n.Order = o.Id
  · obtain ⟨h1, h2, h3⟩ := hP
    simp only [order_Right, h1, g_rec_OfNote, rec_Event, h2, Option.bind_some, decide_true, Bool.not_true, cond_false]
    simp only [h3, bne_self_eq_false, Bool.or_self, and_self, not_true, if_false, cond_false]
    obtain ⟨_, hf1, hf2, _⟩ := id h1
    obtain ⟨_, _, _, ev⟩ := id h2
    unfold R_OrderT R_i64 at ro
    unfold R_NoteT R_i64 at rn
    have w1 : IntKind.wrap .i64 (o.Qty - o.Filled) = o.Qty - o.Filled := wrap_of (by omega) (by omega)
    by_cases p1 : o.Phase = 1
    · simp only [p1, beq_self_eq_true, cond_true, if_true, g_order_sent, g_order_done, g_order_settled]
      by_cases w1 : n.What = 1
      · simp [w1]
      by_cases w2 : n.What = 2
      · simp [w2, doneF]
      have b1 : (n.What == 1) = false := by simp [w1]
      have b2 : (n.What == 2) = false := by simp [w2]
      simp [w1, w2, b1, b2]
    by_cases p2 : o.Phase = 2
    · have b1 : (o.Phase == 1) = false := by simp [p1]
      simp only [b1, p2, beq_self_eq_true, cond_true, cond_false, if_true, g_order_live, g_order_done, g_order_settled, g_order_pending, w1]
      rw [if_neg (by decide)]
      by_cases w3 : n.What = 3
      · simp only [w3, beq_self_eq_true, cond_true, if_true]
        by_cases q : n.Qty > o.Qty - o.Filled
        · simp [q]
        · have w2 : IntKind.wrap .i64 (o.Filled + n.Qty) = o.Filled + n.Qty := wrap_of (by omega) (by omega)
          rw [w2]
          by_cases q2 : o.Filled + n.Qty < o.Qty
          · simp [q, q2]
          · simp [q, q2]
      by_cases w4 : n.What = 4
      · simp [w4, doneF]
      by_cases w5 : n.What = 5
      · simp only [w5]
        by_cases q : pend o ∧ n.Qty = o.NewQty ∧ n.Price = o.NewPrice ∧ n.Qty > o.Filled
        · rw [if_pos q]
          unfold pend at q
          have : ((((!(o.NewQty != 0 || o.NewPrice != 0)) || n.Qty != o.NewQty) || n.Price != o.NewPrice) || decide (n.Qty ≤ o.Filled)) = false := by simp; omega
          simp only [Option.bind_some, this]
          simp
        · rw [if_neg q]
          unfold pend at q
          have : ((((!(o.NewQty != 0 || o.NewPrice != 0)) || n.Qty != o.NewQty) || n.Price != o.NewPrice) || decide (n.Qty ≤ o.Filled)) = true := by simp; omega
          simp only [Option.bind_some, this]
          simp
      by_cases w6 : n.What = 6
      · simp only [w6]
        by_cases q : pend o
        · rw [if_pos q]
          unfold pend at q
          have : (o.NewQty != 0 || o.NewPrice != 0) = true := by simp; omega
          simp only [Option.bind_some, this]
          simp
        · rw [if_neg q]
          unfold pend at q
          have : (o.NewQty != 0 || o.NewPrice != 0) = false := by simp; omega
          simp only [Option.bind_some, this]
          simp
      have b3 : (n.What == 3) = false := by simp [w3]
      have b4 : (n.What == 4) = false := by simp [w4]
      have b5 : (n.What == 5) = false := by simp [w5]
      have b6 : (n.What == 6) = false := by simp [w6]
      simp [w3, w4, w5, w6, b3, b4, b5, b6]
    have b1 : (o.Phase == 1) = false := by simp [p1]
    have b2 : (o.Phase == 2) = false := by simp [p2]
    simp [p1, p2, b1, b2]
  · rw [if_pos hP]
    simp only [order_Right, g_rec_OfNote, rec_Event, Option.bind_some, cond_some]
    have : ((bif !decide (ordP o) then true else !decide (evP n)) || n.Order != o.Id) = true := by
      by_cases h1 : ordP o
      · by_cases h2 : evP n
        · have : ¬ n.Order = o.Id := fun h3 => hP ⟨h1, h2, h3⟩
          simp [h1, h2, this]
        · simp [h1, h2]
      · simp [h1]
    rw [this]
    rfl
end Go.AI
