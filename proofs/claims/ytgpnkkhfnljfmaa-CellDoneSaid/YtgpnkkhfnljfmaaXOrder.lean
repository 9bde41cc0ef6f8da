/- order and rec: what their functions come to. -/
import Derived.Test.YtgpnkkhfnljfmaaL
import Derived.Test.YtgpnkkhfnljfmaaXNum
namespace Go.AI
abbrev OrdR : Type := Int × (Int × (Int × (Int × (Int × (Int × (Int × (Int × (Int × (Int × (Int × (Bool × Unit)))))))))))
def R_OrdR (o : OrdR) : Prop := R_i64 o.1 ∧ R_i64 o.2.1 ∧ R_i64 o.2.2.1 ∧ R_i64 o.2.2.2.1 ∧ R_i64 o.2.2.2.2.1 ∧ R_i64 o.2.2.2.2.2.1 ∧ R_i64 o.2.2.2.2.2.2.1 ∧ R_i64 o.2.2.2.2.2.2.2.1 ∧ R_i64 o.2.2.2.2.2.2.2.2.1 ∧ R_i64 o.2.2.2.2.2.2.2.2.2.1 ∧ R_i64 o.2.2.2.2.2.2.2.2.2.2.1
abbrev NotR : Type := Int × (Int × (Int × (Int × (Int × Unit))))
def R_NotR (n : NotR) : Prop := R_i64 n.1 ∧ R_i64 n.2.1 ∧ R_i64 n.2.2.1 ∧ R_i64 n.2.2.2.1 ∧ R_i64 n.2.2.2.2.1
abbrev RecR : Type := Int × (Int × (Int × (Int × (Int × (Int × (Int × (Int × (Int × (Int × (Bool × (Int × (Int × Unit))))))))))))
def R_RecR (r : RecR) : Prop := R_i64 r.1 ∧ R_i64 r.2.1 ∧ R_i64 r.2.2.1 ∧ R_i64 r.2.2.2.1 ∧ R_i64 r.2.2.2.2.1 ∧ R_i64 r.2.2.2.2.2.1 ∧ R_i64 r.2.2.2.2.2.2.1 ∧ R_i64 r.2.2.2.2.2.2.2.1 ∧ R_i64 r.2.2.2.2.2.2.2.2.1 ∧ R_i64 r.2.2.2.2.2.2.2.2.2.1 ∧ R_i64 r.2.2.2.2.2.2.2.2.2.2.2.1 ∧ R_i64 r.2.2.2.2.2.2.2.2.2.2.2.2.1
def idP (n : Int) : Prop := 1 ≤ n ∧ n ≤ 1000000000000
instance (n : Int) : Decidable (idP n) := by unfold idP; infer_instance
def newP (id ac sy sd q p : Int) : Prop := idP id ∧ 0 ≤ ac ∧ ac < 8 ∧ 0 ≤ sy ∧ sy < 8 ∧ (sd = 1 ∨ sd = 2) ∧ 1 ≤ q ∧ 1 ≤ p
instance (id ac sy sd q p : Int) : Decidable (newP id ac sy sd q p) := by unfold newP; infer_instance
def evP (n : NotR) : Prop := 1 ≤ n.1 ∧ n.1 ≤ 1000000000 ∧ idP n.2.2.1 ∧ ((n.2.1 = 3 ∧ 1 ≤ n.2.2.2.1 ∧ n.2.2.2.2.1 = 0) ∨ (n.2.1 = 5 ∧ 1 ≤ n.2.2.2.1 ∧ 1 ≤ n.2.2.2.2.1) ∨ ((n.2.1 = 1 ∨ n.2.1 = 2 ∨ n.2.1 = 4 ∨ n.2.1 = 6) ∧ n.2.2.2.1 = 0 ∧ n.2.2.2.2.1 = 0))
instance (n : NotR) : Decidable (evP n) := by unfold evP; infer_instance
def pend (o : OrdR) : Prop := o.2.2.2.2.2.2.2.2.1 ≠ 0 ∨ o.2.2.2.2.2.2.2.2.2.1 ≠ 0
instance (o : OrdR) : Decidable (pend o) := by unfold pend; infer_instance
def ordP (o : OrdR) : Prop := newP o.1 o.2.1 o.2.2.1 o.2.2.2.1 o.2.2.2.2.1 o.2.2.2.2.2.1 ∧ 0 ≤ o.2.2.2.2.2.2.1 ∧ o.2.2.2.2.2.2.1 ≤ o.2.2.2.2.1 ∧ 0 ≤ o.2.2.2.2.2.2.2.2.2.2.1 ∧ (pend o → 1 ≤ o.2.2.2.2.2.2.2.2.1 ∧ 1 ≤ o.2.2.2.2.2.2.2.2.2.1) ∧
  ((o.2.2.2.2.2.2.2.1 = 1 ∧ o.2.2.2.2.2.2.1 = 0 ∧ o.2.2.2.2.2.2.2.2.2.2.1 = 0 ∧ ¬ pend o) ∨ (o.2.2.2.2.2.2.2.1 = 2 ∧ o.2.2.2.2.2.2.1 < o.2.2.2.2.1) ∨ (o.2.2.2.2.2.2.2.1 = 3 ∧ ¬ pend o))
instance (o : OrdR) : Decidable (ordP o) := by unfold ordP; infer_instance

theorem cond_some {α : Type} (c : Bool) (a b : α) : (bif c then some a else some b) = some (bif c then a else b) := by cases c <;> rfl
theorem dec_of {b : Bool} {p : Prop} [Decidable p] (h : b = true ↔ p) : b = decide p := by
  rw [Bool.eq_iff_iff, decide_eq_true_iff]; exact h

theorem rec_New (id ac sy sd q p : Int) : g_rec_Right (⟨1, id, ac, sy, sd, q, p, 0, 0, 0, false, 0, 0, ()⟩, ()) = some (decide (newP id ac sy sd q p)) := by
  simp only [g_rec_Right, g_rec_fields, eX, Option.map_some, g_rec_known, g_rec_below, g_rec_sized, beq_self_eq_true, cond_true, Option.bind_some, Bool.and_self, Bool.not_true, cond_false, Bool.true_and, cond_some]
  congr 1
  refine dec_of ?_
  unfold newP idP
  simp
  omega

theorem rec_Event (n : NotR) : g_rec_Right (⟨6, n.2.2.1, 0, 0, 0, n.2.2.2.1, n.2.2.2.2.1, 0, 0, 0, false, n.1, n.2.1, ()⟩, ()) = some (decide (evP n)) := by
  have k1 : ((6 : Int) == 1) = false := rfl
  have k2 : ((6 : Int) == 2) = false := rfl
  have k3 : ((6 : Int) == 3) = false := rfl
  have k4 : ((6 : Int) == 4) = false := rfl
  have k5 : ((6 : Int) == 5) = false := rfl
  simp only [g_rec_Right, g_rec_fields, eX, Option.map_some, g_rec_known, g_rec_below, g_rec_sized, g_rec_event, k1, k2, k3, k4, k5, beq_self_eq_true, cond_true, Option.bind_some, Bool.and_self, Bool.not_true, cond_false, Bool.true_and, cond_some]
  congr 1
  refine dec_of ?_
  unfold evP idP
  by_cases w1 : n.2.1 = 1
  · simp [w1]; try omega
  by_cases w2 : n.2.1 = 2
  · simp [w2]; try omega
  by_cases w3 : n.2.1 = 3
  · simp [w3]; try omega
  by_cases w4 : n.2.1 = 4
  · simp [w4]; try omega
  by_cases w5 : n.2.1 = 5
  · simp [w5]; try omega
  by_cases w6 : n.2.1 = 6
  · simp [w6]; try omega
  have b1 : (n.2.1 == 1) = false := by simp [w1]
  have b2 : (n.2.1 == 2) = false := by simp [w2]
  have b4 : (n.2.1 == 4) = false := by simp [w4]
  have b6 : (n.2.1 == 6) = false := by simp [w6]
  simp [w1, w2, w3, w4, w5, w6, b1, b2, b4, b6]
  try omega
theorem order_Right (o : OrdR) : g_order_Right (o, ()) = some (decide (ordP o)) := by
  simp only [g_order_Right, g_order_pending, g_order_begun, rec_New, Option.bind_some, cond_some]
  congr 1
  refine dec_of ?_
  unfold ordP pend
  by_cases hN : newP o.1 o.2.1 o.2.2.1 o.2.2.2.1 o.2.2.2.2.1 o.2.2.2.2.2.1
  · by_cases p1 : o.2.2.2.2.2.2.2.1 = 1
    · simp [hN, p1]; split <;> omega
    by_cases p2 : o.2.2.2.2.2.2.2.1 = 2
    · simp [hN, p2]; split <;> omega
    by_cases p3 : o.2.2.2.2.2.2.2.1 = 3
    · simp [hN, p3]; split <;> omega
    have b1 : (o.2.2.2.2.2.2.2.1 == 1) = false := by simp [p1]
    have b2 : (o.2.2.2.2.2.2.2.1 == 2) = false := by simp [p2]
    have b3 : (o.2.2.2.2.2.2.2.1 == 3) = false := by simp [p3]
    simp [p1, p2, p3, b1, b2, b3]
  · simp [hN]
def doneF (o : OrdR) : OrdR := ⟨o.1, o.2.1, o.2.2.1, o.2.2.2.1, o.2.2.2.2.1, o.2.2.2.2.2.1, o.2.2.2.2.2.2.1, 3, 0, 0, o.2.2.2.2.2.2.2.2.2.2.1, o.2.2.2.2.2.2.2.2.2.2.2.1, ()⟩
def takeF (o : OrdR) (n : NotR) : OrdR × (Int × Unit) :=
  if ¬ (ordP o ∧ evP n ∧ n.2.2.1 = o.1) then (o, (1, ())) else
  if o.2.2.2.2.2.2.2.1 = 1 then (if n.2.1 = 1 then (⟨o.1, o.2.1, o.2.2.1, o.2.2.2.1, o.2.2.2.2.1, o.2.2.2.2.2.1, o.2.2.2.2.2.2.1, 2, o.2.2.2.2.2.2.2.2.1, o.2.2.2.2.2.2.2.2.2.1, o.2.2.2.2.2.2.2.2.2.2.1, o.2.2.2.2.2.2.2.2.2.2.2.1, ()⟩, (0, ())) else if n.2.1 = 2 then (doneF o, (0, ())) else (o, (8, ())))
  else if o.2.2.2.2.2.2.2.1 = 2 then
    if n.2.1 = 3 then (if n.2.2.2.1 > o.2.2.2.2.1 - o.2.2.2.2.2.2.1 then (o, (8, ())) else if o.2.2.2.2.2.2.1 + n.2.2.2.1 < o.2.2.2.2.1 then (⟨o.1, o.2.1, o.2.2.1, o.2.2.2.1, o.2.2.2.2.1, o.2.2.2.2.2.1, o.2.2.2.2.2.2.1 + n.2.2.2.1, o.2.2.2.2.2.2.2.1, o.2.2.2.2.2.2.2.2.1, o.2.2.2.2.2.2.2.2.2.1, o.2.2.2.2.2.2.2.2.2.2.1, o.2.2.2.2.2.2.2.2.2.2.2.1, ()⟩, (0, ()))
      else (⟨o.1, o.2.1, o.2.2.1, o.2.2.2.1, o.2.2.2.2.1, o.2.2.2.2.2.1, o.2.2.2.2.2.2.1 + n.2.2.2.1, 3, 0, 0, o.2.2.2.2.2.2.2.2.2.2.1, o.2.2.2.2.2.2.2.2.2.2.2.1, ()⟩, (0, ())))
    else if n.2.1 = 4 then (doneF o, (0, ()))
    else if n.2.1 = 5 then (if pend o ∧ n.2.2.2.1 = o.2.2.2.2.2.2.2.2.1 ∧ n.2.2.2.2.1 = o.2.2.2.2.2.2.2.2.2.1 ∧ n.2.2.2.1 > o.2.2.2.2.2.2.1 then (⟨o.1, o.2.1, o.2.2.1, o.2.2.2.1, n.2.2.2.1, n.2.2.2.2.1, o.2.2.2.2.2.2.1, o.2.2.2.2.2.2.2.1, 0, 0, o.2.2.2.2.2.2.2.2.2.2.1, o.2.2.2.2.2.2.2.2.2.2.2.1, ()⟩, (0, ())) else (o, (8, ())))
    else if n.2.1 = 6 then (if pend o then (⟨o.1, o.2.1, o.2.2.1, o.2.2.2.1, o.2.2.2.2.1, o.2.2.2.2.2.1, o.2.2.2.2.2.2.1, o.2.2.2.2.2.2.2.1, 0, 0, o.2.2.2.2.2.2.2.2.2.2.1, o.2.2.2.2.2.2.2.2.2.2.2.1, ()⟩, (0, ())) else (o, (8, ())))
    else (o, (8, ()))
  else (o, (8, ()))

theorem order_Take (o : OrdR) (n : NotR) (ro : R_OrdR o) (rn : R_NotR n) : g_order_Take (o, (n, ())) = some (takeF o n) := by
  unfold takeF g_order_Take
  by_cases hP : ordP o ∧ evP n ∧ n.2.2.1 = o.1
  · obtain ⟨h1, h2, h3⟩ := hP
    simp only [order_Right, h1, g_rec_OfNote, rec_Event, h2, Option.bind_some, decide_true, Bool.not_true, cond_false]
    simp only [h3, bne_self_eq_false, Bool.or_self, and_self, not_true, if_false, cond_false]
    obtain ⟨_, hf1, hf2, _⟩ := id h1
    obtain ⟨_, _, _, ev⟩ := id h2
    unfold R_OrdR R_i64 at ro
    unfold R_NotR R_i64 at rn
    have w1 : IntKind.wrap .i64 (o.2.2.2.2.1 - o.2.2.2.2.2.2.1) = o.2.2.2.2.1 - o.2.2.2.2.2.2.1 := wrap_of (by omega) (by omega)
    by_cases p1 : o.2.2.2.2.2.2.2.1 = 1
    · simp only [p1, beq_self_eq_true, cond_true, if_true, g_order_sent, g_order_done, g_order_settled]
      by_cases w1 : n.2.1 = 1
      · simp [w1, eX] <;> rfl
      by_cases w2 : n.2.1 = 2
      · simp [w2, doneF, eX] <;> rfl
      have b1 : (n.2.1 == 1) = false := by simp [w1]
      have b2 : (n.2.1 == 2) = false := by simp [w2]
      simp [w1, w2, b1, b2, eX] <;> rfl
    by_cases p2 : o.2.2.2.2.2.2.2.1 = 2
    · have b1 : (o.2.2.2.2.2.2.2.1 == 1) = false := by simp [p1]
      simp only [b1, p2, beq_self_eq_true, cond_true, cond_false, if_true, g_order_live, g_order_done, g_order_settled, g_order_pending, w1]
      rw [if_neg (by decide)]
      by_cases w3 : n.2.1 = 3
      · simp only [w3, beq_self_eq_true, cond_true, if_true]
        by_cases q : n.2.2.2.1 > o.2.2.2.2.1 - o.2.2.2.2.2.2.1
        · simp [q, eX] <;> first | rfl | (rw [← p2] <;> rfl)
        · have w2 : IntKind.wrap .i64 (o.2.2.2.2.2.2.1 + n.2.2.2.1) = o.2.2.2.2.2.2.1 + n.2.2.2.1 := wrap_of (by omega) (by omega)
          rw [w2]
          by_cases q2 : o.2.2.2.2.2.2.1 + n.2.2.2.1 < o.2.2.2.2.1
          · simp [q, q2, eX] <;> first | rfl | (rw [← p2] <;> rfl)
          · simp [q, q2, eX] <;> first | rfl | (rw [← p2] <;> rfl)
      by_cases w4 : n.2.1 = 4
      · simp [w4, doneF, eX] <;> first | rfl | (rw [← p2] <;> rfl)
      by_cases w5 : n.2.1 = 5
      · simp only [w5]
        by_cases q : pend o ∧ n.2.2.2.1 = o.2.2.2.2.2.2.2.2.1 ∧ n.2.2.2.2.1 = o.2.2.2.2.2.2.2.2.2.1 ∧ n.2.2.2.1 > o.2.2.2.2.2.2.1
        · rw [if_pos q]
          unfold pend at q
          have : ((((!(o.2.2.2.2.2.2.2.2.1 != 0 || o.2.2.2.2.2.2.2.2.2.1 != 0)) || n.2.2.2.1 != o.2.2.2.2.2.2.2.2.1) || n.2.2.2.2.1 != o.2.2.2.2.2.2.2.2.2.1) || decide (n.2.2.2.1 ≤ o.2.2.2.2.2.2.1)) = false := by simp; omega
          simp only [Option.bind_some, this]
          simp [eX] <;> first | rfl | (rw [← p2] <;> rfl)
        · rw [if_neg q]
          unfold pend at q
          have : ((((!(o.2.2.2.2.2.2.2.2.1 != 0 || o.2.2.2.2.2.2.2.2.2.1 != 0)) || n.2.2.2.1 != o.2.2.2.2.2.2.2.2.1) || n.2.2.2.2.1 != o.2.2.2.2.2.2.2.2.2.1) || decide (n.2.2.2.1 ≤ o.2.2.2.2.2.2.1)) = true := by simp; omega
          simp only [Option.bind_some, this]
          simp [eX] <;> first | rfl | (rw [← p2] <;> rfl)
      by_cases w6 : n.2.1 = 6
      · simp only [w6]
        by_cases q : pend o
        · rw [if_pos q]
          unfold pend at q
          have : (o.2.2.2.2.2.2.2.2.1 != 0 || o.2.2.2.2.2.2.2.2.2.1 != 0) = true := by simp; omega
          simp only [Option.bind_some, this]
          simp [eX] <;> first | rfl | (rw [← p2] <;> rfl)
        · rw [if_neg q]
          unfold pend at q
          have : (o.2.2.2.2.2.2.2.2.1 != 0 || o.2.2.2.2.2.2.2.2.2.1 != 0) = false := by simp; omega
          simp only [Option.bind_some, this]
          simp [eX] <;> first | rfl | (rw [← p2] <;> rfl)
      have b3 : (n.2.1 == 3) = false := by simp [w3]
      have b4 : (n.2.1 == 4) = false := by simp [w4]
      have b5 : (n.2.1 == 5) = false := by simp [w5]
      have b6 : (n.2.1 == 6) = false := by simp [w6]
      simp [w3, w4, w5, w6, b3, b4, b5, b6, eX] <;> first | rfl | (rw [← p2] <;> rfl)
    have b1 : (o.2.2.2.2.2.2.2.1 == 1) = false := by simp [p1]
    have b2 : (o.2.2.2.2.2.2.2.1 == 2) = false := by simp [p2]
    simp [p1, p2, b1, b2, eX] <;> first | rfl | (rw [← p2] <;> rfl)
  · rw [if_pos hP]
    simp only [order_Right, g_rec_OfNote, rec_Event, Option.bind_some, cond_some]
    have : ((bif !decide (ordP o) then true else !decide (evP n)) || n.2.2.1 != o.1) = true := by
      by_cases h1 : ordP o
      · by_cases h2 : evP n
        · have : ¬ n.2.2.1 = o.1 := fun h3 => hP ⟨h1, h2, h3⟩
          simp [h1, h2, this, eX] <;> first | rfl | (rw [← p2] <;> rfl)
        · simp [h1, h2, eX] <;> first | rfl | (rw [← p2] <;> rfl)
      · simp [h1, eX] <;> first | rfl | (rw [← p2] <;> rfl)
    rw [this]
    rfl

theorem order_Open (o : OrdR) (ro : R_OrdR o) : g_order_Open (o, ()) = some (if ordP o ∧ o.2.2.2.2.2.2.2.1 ≠ 3 then (if o.2.2.2.2.2.2.2.2.1 > o.2.2.2.2.1 then o.2.2.2.2.2.2.2.2.1 else o.2.2.2.2.1) - o.2.2.2.2.2.2.1 else 0) := by
  unfold g_order_Open g_num_Max
  rw [order_Right]
  simp only [Option.bind_some]
  by_cases h : ordP o
  · by_cases p : o.2.2.2.2.2.2.2.1 = 3
    · simp [h, p]
    · obtain ⟨_, h1, h2, _, h4, _⟩ := id h
      unfold pend at h4
      unfold R_OrdR R_i64 at ro
      rw [if_pos (show ordP o ∧ o.2.2.2.2.2.2.2.1 ≠ 3 from ⟨h, p⟩)]
      have b : (o.2.2.2.2.2.2.2.1 == 3) = false := by simp [p]
      simp only [h, b, decide_true, Bool.not_true, Bool.or_self, cond_false]
      congr 1
      apply wrap_of <;> split <;> omega
  · simp [h]

theorem rec_Right1 (r : RecR) (h : r.1 = 1) : g_rec_Right (r, ()) = some (decide (newP r.2.1 r.2.2.1 r.2.2.2.1 r.2.2.2.2.1 r.2.2.2.2.2.1 r.2.2.2.2.2.2.1 ∧ r.2.2.2.2.2.2.2.1 = 0 ∧ r.2.2.2.2.2.2.2.2.1 = 0 ∧ r.2.2.2.2.2.2.2.2.2.1 = 0 ∧ r.2.2.2.2.2.2.2.2.2.2.1 = false ∧ r.2.2.2.2.2.2.2.2.2.2.2.1 = 0 ∧ r.2.2.2.2.2.2.2.2.2.2.2.2.1 = 0)) := by
  simp only [g_rec_Right, g_rec_fields, eX, Option.map_some, g_rec_known, g_rec_below, g_rec_sized, h, beq_self_eq_true, cond_true, Option.bind_some, Bool.and_self, Bool.not_true, cond_false, Bool.true_and, cond_some]
  congr 1
  refine dec_of ?_
  unfold newP idP
  simp
  by_cases h1 : r.2.2.2.2.2.2.2.1 = 0 ∧ r.2.2.2.2.2.2.2.2.1 = 0 ∧ r.2.2.2.2.2.2.2.2.2.1 = 0 ∧ r.2.2.2.2.2.2.2.2.2.2.1 = false ∧ r.2.2.2.2.2.2.2.2.2.2.2.1 = 0 ∧ r.2.2.2.2.2.2.2.2.2.2.2.2.1 = 0
  · obtain ⟨e1, e2, e3, e4, e5, e6⟩ := h1
    simp [e1, e2, e3, e4, e5, e6]
    try omega
  · simp only [h1]
    simp
    try (intro e1 e2 e3 e4 e5 e6; exact absurd ⟨e1, e2, e3, e4, e5, e6⟩ h1)
def nowW (o : OrdR) : Int := (o.2.2.2.2.1 - o.2.2.2.2.2.2.1) * o.2.2.2.2.2.1
def thenW (o : OrdR) : Int := (o.2.2.2.2.2.2.2.2.1 - o.2.2.2.2.2.2.1) * o.2.2.2.2.2.2.2.2.2.1
def worthF (o : OrdR) : Int × (Int × Unit) :=
  if ¬ ordP o then (0, (1, ())) else if o.2.2.2.2.2.2.2.1 = 3 then (0, (0, ())) else if ¬ fit (nowW o) then (0, (3, ())) else if o.2.2.2.2.2.2.2.2.1 ≤ o.2.2.2.2.2.2.1 then (nowW o, (0, ())) else if ¬ fit (thenW o) then (0, (3, ())) else (if thenW o > nowW o then thenW o else nowW o, (0, ()))
def openF (o : OrdR) : Int := if ordP o ∧ o.2.2.2.2.2.2.2.1 ≠ 3 then (if o.2.2.2.2.2.2.2.2.1 > o.2.2.2.2.1 then o.2.2.2.2.2.2.2.2.1 else o.2.2.2.2.1) - o.2.2.2.2.2.2.1 else 0

theorem order_Worth (o : OrdR) (ro : R_OrdR o) : g_order_Worth (o, ()) = some (worthF o) := by
  unfold g_order_Worth worthF
  rw [order_Right]
  simp only [Option.bind_some]
  by_cases h : ordP o
  · obtain ⟨_, h1, h2, _, h4, _⟩ := id h
    obtain ⟨_, _, _, _, rq, rp, rf, _, rnq, rnp, _⟩ := id ro
    by_cases p : o.2.2.2.2.2.2.2.1 = 3
    · simp [h, p]
    · have b : (o.2.2.2.2.2.2.2.1 == 3) = false := by simp [p]
      have wl : IntKind.wrap .i64 (o.2.2.2.2.1 - o.2.2.2.2.2.2.1) = o.2.2.2.2.1 - o.2.2.2.2.2.2.1 := by unfold R_i64 at rq rf; exact wrap_of (by omega) (by omega)
      have rl : R_i64 (o.2.2.2.2.1 - o.2.2.2.2.2.2.1) := by unfold R_i64 at rq rf ⊢; omega
      simp only [h, b, decide_true, Bool.not_true, cond_false, not_true, if_false, p, wl, num_Mul _ _ rl rp, Option.bind_some]
      show (bif ((if fit (nowW o) then (nowW o, ((0 : Int), ())) else (0, (3, ()))).2.1 != 0 || decide (o.2.2.2.2.2.2.2.2.1 ≤ o.2.2.2.2.2.2.1)) then _ else _) = _
      by_cases f1 : fit (nowW o)
      · by_cases hn : o.2.2.2.2.2.2.2.2.1 ≤ o.2.2.2.2.2.2.1
        · have f1' : fit ((o.2.2.2.2.1 - o.2.2.2.2.2.2.1) * o.2.2.2.2.2.1) := f1
          simp [f1, f1', hn, nowW]
        · have f1' : fit ((o.2.2.2.2.1 - o.2.2.2.2.2.2.1) * o.2.2.2.2.2.1) := f1
          have wn : IntKind.wrap .i64 (o.2.2.2.2.2.2.2.2.1 - o.2.2.2.2.2.2.1) = o.2.2.2.2.2.2.2.2.1 - o.2.2.2.2.2.2.1 := by unfold R_i64 at rnq rf; exact wrap_of (by omega) (by omega)
          have rn : R_i64 (o.2.2.2.2.2.2.2.2.1 - o.2.2.2.2.2.2.1) := by unfold R_i64 at rnq rf ⊢; omega
          simp only [f1, f1', if_true, bne_self_eq_false, Bool.false_or, hn, decide_false, cond_false, wn, num_Mul _ _ rn rnp, Option.bind_some, not_true, if_false]
          by_cases f2 : fit (thenW o)
          · have f2' : fit ((o.2.2.2.2.2.2.2.2.1 - o.2.2.2.2.2.2.1) * o.2.2.2.2.2.2.2.2.2.1) := f2
            simp only [f2, f2', if_true, bne_self_eq_false, cond_false, g_num_Max, Option.bind_some, not_true, if_false]
            rfl
          · have f2' : ¬ fit ((o.2.2.2.2.2.2.2.2.1 - o.2.2.2.2.2.2.1) * o.2.2.2.2.2.2.2.2.2.1) := f2
            simp [f2, f2']
      · have f1' : ¬ fit ((o.2.2.2.2.1 - o.2.2.2.2.2.2.1) * o.2.2.2.2.2.1) := f1
        simp [f1, f1']
  · simp [h]

theorem order_OpenF (o : OrdR) (ro : R_OrdR o) : g_order_Open (o, ()) = some (openF o) := order_Open o ro

theorem openF_of {o : OrdR} (hO : ordP o) (h : o.2.2.2.2.2.2.2.1 ≠ 3) : openF o = (if o.2.2.2.2.2.2.2.2.1 > o.2.2.2.2.1 then o.2.2.2.2.2.2.2.2.1 else o.2.2.2.2.1) - o.2.2.2.2.2.2.1 := by
  unfold openF; rw [if_pos ⟨hO, h⟩]

theorem worth_nonneg (o : OrdR) : 0 ≤ (worthF o).1 := by
  unfold worthF
  split
  · exact Int.le_refl _
  rename_i h
  simp only [Classical.not_not] at h
  obtain ⟨⟨_, _, _, _, _, _, _, hp⟩, h1, h2, _⟩ := h
  have hn : 0 ≤ nowW o := Int.mul_nonneg (by omega) (by omega)
  split
  · exact Int.le_refl _
  split
  · exact Int.le_refl _
  split
  · exact hn
  split
  · exact Int.le_refl _
  · simp only; split <;> omega
theorem open_nonneg (o : OrdR) : 0 ≤ openF o := by
  unfold openF
  split
  · rename_i h
    obtain ⟨_, _, h2, _⟩ := h.1
    split <;> omega
  · omega

/-- What is done has nothing more. -/
theorem done_less {o p : OrdR} (hP : ordP p) (hp : p.2.2.2.2.2.2.2.1 = 3) : openF p ≤ openF o ∧ ((worthF o).2.1 = 0 → (worthF p).2.1 = 0 ∧ (worthF p).1 ≤ (worthF o).1) := by
  have h1 : worthF p = (0, (0, ())) := by unfold worthF; simp [hP, hp]
  have h2 : openF p = 0 := by unfold openF; simp [hp]
  rw [h1, h2]
  exact ⟨open_nonneg o, fun _ => ⟨rfl, worth_nonneg o⟩⟩

theorem keep_less {o p : OrdR} (hO : ordP o) (hP : ordP p) (h3 : ¬ o.2.2.2.2.2.2.2.1 = 3) (hp3 : ¬ p.2.2.2.2.2.2.2.1 = 3) (h1 : openF p ≤ openF o) (hq : nowW p ≤ nowW o) (hn : p.2.2.2.2.2.2.2.2.1 > p.2.2.2.2.2.2.1 → o.2.2.2.2.2.2.2.2.1 > o.2.2.2.2.2.2.1 ∧ thenW p ≤ thenW o) :
    (worthF o).2.1 = 0 → (worthF p).2.1 = 0 ∧ (worthF p).1 ≤ (worthF o).1 := by
  have n1 : 0 ≤ nowW p := by obtain ⟨⟨_, _, _, _, _, _, _, hp⟩, h1, h2, _⟩ := hP; exact Int.mul_nonneg (by omega) (by omega)
  have n2 : p.2.2.2.2.2.2.2.2.1 > p.2.2.2.2.2.2.1 → 0 ≤ thenW p := by
    intro h
    obtain ⟨_, h1, h2, _, h4, _⟩ := hP
    unfold pend at h4
    exact Int.mul_nonneg (by omega) (by omega)
  unfold worthF
  simp only [hO, hP, not_true, if_false, h3, hp3]
  intro h
  unfold fit at *
  by_cases f1 : -9223372036854775808 ≤ nowW o ∧ nowW o < 9223372036854775808
  · simp only [f1, and_self, not_true, if_false] at h ⊢
    have g1 : -9223372036854775808 ≤ nowW p ∧ nowW p < 9223372036854775808 := by omega
    simp only [g1, and_self, not_true, if_false]
    by_cases c : o.2.2.2.2.2.2.2.2.1 ≤ o.2.2.2.2.2.2.1
    · have c' : p.2.2.2.2.2.2.2.2.1 ≤ p.2.2.2.2.2.2.1 := by
        by_cases q : p.2.2.2.2.2.2.2.2.1 ≤ p.2.2.2.2.2.2.1
        · exact q
        · have := (hn (by omega)).1; omega
      simp [c, c', hq]
    · simp only [c, if_false] at h ⊢
      by_cases f2 : -9223372036854775808 ≤ thenW o ∧ thenW o < 9223372036854775808
      · simp only [f2, and_self, not_true, if_false]
        by_cases c' : p.2.2.2.2.2.2.2.2.1 ≤ p.2.2.2.2.2.2.1
        · simp only [c', if_true, true_and]
          split <;> omega
        · have h5 := (hn (by omega)).2
          have h6 := n2 (by omega)
          have g2 : -9223372036854775808 ≤ thenW p ∧ thenW p < 9223372036854775808 := by omega
          simp only [c', if_false, g2, and_self, not_true, true_and]
          split <;> split <;> omega
      · simp [f2] at h
  · simp [f1] at h
end Go.AI
