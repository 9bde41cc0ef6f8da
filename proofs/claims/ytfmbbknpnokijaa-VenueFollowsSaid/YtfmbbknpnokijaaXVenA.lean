/- venue: orders and notes, as far as a venue has them. -/
import Derived.Test.YtfmbbknpnokijaaL
import Derived.Test.YtfmbbknpnokijaaXLoop
namespace Go.AI
def R_i64 (n : Int) : Prop := -9223372036854775808 ≤ n ∧ n < 9223372036854775808
theorem two32 : (2 : Int) ^ 32 = 4294967296 := rfl
theorem wrap_of {n : Int} (h0 : -9223372036854775808 ≤ n) (h1 : n < 9223372036854775808) : IntKind.i64.wrap n = n := wrap_i64_in h0 h1
def fit (n : Int) : Prop := -9223372036854775808 ≤ n ∧ n < 9223372036854775808
instance (n : Int) : Decidable (fit n) := by unfold fit; infer_instance
theorem num_Add {a b : Int} (ha : R_i64 a) (hb : R_i64 b) : g_num_Add (a, (b, ())) = some (if fit (a + b) then (a + b, (0, ())) else (0, (3, ()))) := by
  unfold g_num_Add
  unfold R_i64 at ha hb
  have h := IntKind.wrap_i64 (a + b)
  by_cases h1 : fit (a + b)
  · have h2 := h1
    unfold fit at h2
    rw [wrap_of h2.1 h2.2, if_pos h1]
    have : ((decide (a + b > a) != decide (b > 0)) && b != 0) = false := by
      by_cases hb : b > 0
      · simp [hb]; omega
      · simp [hb]; omega
    rw [this]; rfl
  · have h2 := h1
    unfold fit at h2
    rw [if_neg h1]
    have : ((decide (IntKind.wrap .i64 (a + b) > a) != decide (b > 0)) && b != 0) = true := by
      simp only [Bool.and_eq_true, bne_iff_ne, ne_eq, decide_eq_decide]
      omega
    rw [this]; rfl
abbrev OrdR : Type := Int × (Int × (Int × (Int × (Int × (Int × (Int × (Int × (Int × (Int × (Int × (Bool × Unit)))))))))))
def R_OrdR (o : OrdR) : Prop := R_i64 o.1 ∧ R_i64 o.2.1 ∧ R_i64 o.2.2.1 ∧ R_i64 o.2.2.2.1 ∧ R_i64 o.2.2.2.2.1 ∧ R_i64 o.2.2.2.2.2.1 ∧ R_i64 o.2.2.2.2.2.2.1 ∧ R_i64 o.2.2.2.2.2.2.2.1 ∧ R_i64 o.2.2.2.2.2.2.2.2.1 ∧ R_i64 o.2.2.2.2.2.2.2.2.2.1 ∧ R_i64 o.2.2.2.2.2.2.2.2.2.2.1
abbrev NotR : Type := Int × (Int × (Int × (Int × (Int × Unit))))
def R_NotR (n : NotR) : Prop := R_i64 n.1 ∧ R_i64 n.2.1 ∧ R_i64 n.2.2.1 ∧ R_i64 n.2.2.2.1 ∧ R_i64 n.2.2.2.2.1
abbrev RecR : Type := Int × (Int × (Int × (Int × (Int × (Int × (Int × (Int × (Int × (Int × (Bool × (Int × (Int × Unit))))))))))))
def R_RecR (r : RecR) : Prop := R_i64 r.1 ∧ R_i64 r.2.1 ∧ R_i64 r.2.2.1 ∧ R_i64 r.2.2.2.1 ∧ R_i64 r.2.2.2.2.1 ∧ R_i64 r.2.2.2.2.2.1 ∧ R_i64 r.2.2.2.2.2.2.1 ∧ R_i64 r.2.2.2.2.2.2.2.1 ∧ R_i64 r.2.2.2.2.2.2.2.2.1 ∧ R_i64 r.2.2.2.2.2.2.2.2.2.1 ∧ R_i64 r.2.2.2.2.2.2.2.2.2.2.2.1 ∧ R_i64 r.2.2.2.2.2.2.2.2.2.2.2.2.1
def idP (n : Int) : Prop := 1 ≤ n ∧ n ≤ 1000000000000
instance (n : Int) : Decidable (idP n) := by unfold idP; infer_instance
def newP (id ac sy sd q p : Int) : Prop := idP id ∧ 0 ≤ ac ∧ ac < 8 ∧ 0 ≤ sy ∧ sy < 8 ∧ (sd = 1 ∨ sd = 2) ∧ 1 ≤ q ∧ 1 ≤ p
instance (id ac sy sd q p : Int) : Decidable (newP id ac sy sd q p) := by unfold newP; infer_instance
def evP (n : NotR) : Prop := 1 ≤ n.1 ∧ n.1 ≤ 1000000000 ∧ idP n.2.2.1 ∧ ((n.2.1 = 3 ∧ 1 ≤ n.2.2.2.1 ∧ n.2.2.2.2.1 = 0) ∨ (n.2.1 = 5 ∧ 1 ≤ n.2.2.2.1 ∧ 1 ≤ n.2.2.2.2.1) ∨ ((n.2.1 = 1 ∨ n.2.1 = 2 ∨ n.2.1 = 4 ∨ n.2.1 = 6) ∧ n.2.2.2.1 = 0 ∧ n.2.2.2.2.1 = 0))
instance (n : NotR) : Decidable (evP n) := by unfold evP; infer_instance
def pend (o : OrdR) : Prop := o.2.2.2.2.2.2.2.2.1 ≠ 0 ∨ o.2.2.2.2.2.2.2.2.2.1 ≠ 0
instance (o : OrdR) : Decidable (pend o) := by unfold pend; infer_instance
def ordP (o : OrdR) : Prop := newP o.1 o.2.1 o.2.2.1 o.2.2.2.1 o.2.2.2.2.1 o.2.2.2.2.2.1 ∧ 0 ≤ o.2.2.2.2.2.2.1 ∧ o.2.2.2.2.2.2.1 ≤ o.2.2.2.2.1 ∧ 0 ≤ o.2.2.2.2.2.2.2.2.2.2.1 ∧ (pend o → 1 ≤ o.2.2.2.2.2.2.2.2.1 ∧ 1 ≤ o.2.2.2.2.2.2.2.2.2.1) ∧
  ((o.2.2.2.2.2.2.2.1 = 1 ∧ o.2.2.2.2.2.2.1 = 0 ∧ o.2.2.2.2.2.2.2.2.2.2.1 = 0 ∧ ¬ pend o) ∨ (o.2.2.2.2.2.2.2.1 = 2 ∧ o.2.2.2.2.2.2.1 < o.2.2.2.2.1) ∨ (o.2.2.2.2.2.2.2.1 = 3 ∧ ¬ pend o))
instance (o : OrdR) : Decidable (ordP o) := by unfold ordP; infer_instance

theorem cond_some {α : Type} (c : Bool) (a b : α) : (bif c then some a else some b) = some (bif c then a else b) := by cases c <;> rfl
theorem dec_of {b : Bool} {p : Prop} [Decidable p] (h : b = true ↔ p) : b = decide p := by
  rw [Bool.eq_iff_iff, decide_eq_true_iff]; exact h

theorem rec_New (id ac sy sd q p : Int) : g_rec_Right (⟨1, id, ac, sy, sd, q, p, 0, 0, 0, false, 0, 0, ()⟩, ()) = some (decide (newP id ac sy sd q p)) := by
  simp only [g_rec_Right, g_rec_fields, eX, Option.map_some, g_rec_known, g_rec_below, g_rec_sized, beq_self_eq_true, cond_true, Option.bind_some, Bool.and_self, Bool.not_true, cond_false, Bool.true_and, cond_some]
  congr 1
  refine dec_of ?_
  unfold newP idP
  simp
  omega

theorem rec_Event (n : NotR) : g_rec_Right (⟨6, n.2.2.1, 0, 0, 0, n.2.2.2.1, n.2.2.2.2.1, 0, 0, 0, false, n.1, n.2.1, ()⟩, ()) = some (decide (evP n)) := by
  have k1 : ((6 : Int) == 1) = false := rfl
  have k2 : ((6 : Int) == 2) = false := rfl
  have k3 : ((6 : Int) == 3) = false := rfl
  have k4 : ((6 : Int) == 4) = false := rfl
  have k5 : ((6 : Int) == 5) = false := rfl
  simp only [g_rec_Right, g_rec_fields, eX, Option.map_some, g_rec_known, g_rec_below, g_rec_sized, g_rec_event, k1, k2, k3, k4, k5, beq_self_eq_true, cond_true, Option.bind_some, Bool.and_self, Bool.not_true, cond_false, Bool.true_and, cond_some]
  congr 1
  refine dec_of ?_
  unfold evP idP
  by_cases w1 : n.2.1 = 1
  · simp [w1]; try omega
  by_cases w2 : n.2.1 = 2
  · simp [w2]; try omega
  by_cases w3 : n.2.1 = 3
  · simp [w3]; try omega
  by_cases w4 : n.2.1 = 4
  · simp [w4]; try omega
  by_cases w5 : n.2.1 = 5
  · simp [w5]; try omega
  by_cases w6 : n.2.1 = 6
  · simp [w6]; try omega
  have b1 : (n.2.1 == 1) = false := by simp [w1]
  have b2 : (n.2.1 == 2) = false := by simp [w2]
  have b4 : (n.2.1 == 4) = false := by simp [w4]
  have b6 : (n.2.1 == 6) = false := by simp [w6]
  simp [w1, w2, w3, w4, w5, w6, b1, b2, b4, b6]
  try omega
theorem order_Right (o : OrdR) : g_order_Right (o, ()) = some (decide (ordP o)) := by
  simp only [g_order_Right, g_order_pending, g_order_begun, rec_New, Option.bind_some, cond_some]
  congr 1
  refine dec_of ?_
  unfold ordP pend
  by_cases hN : newP o.1 o.2.1 o.2.2.1 o.2.2.2.1 o.2.2.2.2.1 o.2.2.2.2.2.1
  · by_cases p1 : o.2.2.2.2.2.2.2.1 = 1
    · simp [hN, p1]; split <;> omega
    by_cases p2 : o.2.2.2.2.2.2.2.1 = 2
    · simp [hN, p2]; split <;> omega
    by_cases p3 : o.2.2.2.2.2.2.2.1 = 3
    · simp [hN, p3]; split <;> omega
    have b1 : (o.2.2.2.2.2.2.2.1 == 1) = false := by simp [p1]
    have b2 : (o.2.2.2.2.2.2.2.1 == 2) = false := by simp [p2]
    have b3 : (o.2.2.2.2.2.2.2.1 == 3) = false := by simp [p3]
    simp [p1, p2, p3, b1, b2, b3]
  · simp [hN]
def doneF (o : OrdR) : OrdR := ⟨o.1, o.2.1, o.2.2.1, o.2.2.2.1, o.2.2.2.2.1, o.2.2.2.2.2.1, o.2.2.2.2.2.2.1, 3, 0, 0, o.2.2.2.2.2.2.2.2.2.2.1, o.2.2.2.2.2.2.2.2.2.2.2.1, ()⟩
def takeF (o : OrdR) (n : NotR) : OrdR × (Int × Unit) :=
  if ¬ (ordP o ∧ evP n ∧ n.2.2.1 = o.1) then (o, (1, ())) else
  if o.2.2.2.2.2.2.2.1 = 1 then (if n.2.1 = 1 then (⟨o.1, o.2.1, o.2.2.1, o.2.2.2.1, o.2.2.2.2.1, o.2.2.2.2.2.1, o.2.2.2.2.2.2.1, 2, o.2.2.2.2.2.2.2.2.1, o.2.2.2.2.2.2.2.2.2.1, o.2.2.2.2.2.2.2.2.2.2.1, o.2.2.2.2.2.2.2.2.2.2.2.1, ()⟩, (0, ())) else if n.2.1 = 2 then (doneF o, (0, ())) else (o, (8, ())))
  else if o.2.2.2.2.2.2.2.1 = 2 then
    if n.2.1 = 3 then (if n.2.2.2.1 > o.2.2.2.2.1 - o.2.2.2.2.2.2.1 then (o, (8, ())) else if o.2.2.2.2.2.2.1 + n.2.2.2.1 < o.2.2.2.2.1 then (⟨o.1, o.2.1, o.2.2.1, o.2.2.2.1, o.2.2.2.2.1, o.2.2.2.2.2.1, o.2.2.2.2.2.2.1 + n.2.2.2.1, o.2.2.2.2.2.2.2.1, o.2.2.2.2.2.2.2.2.1, o.2.2.2.2.2.2.2.2.2.1, o.2.2.2.2.2.2.2.2.2.2.1, o.2.2.2.2.2.2.2.2.2.2.2.1, ()⟩, (0, ()))
      else (⟨o.1, o.2.1, o.2.2.1, o.2.2.2.1, o.2.2.2.2.1, o.2.2.2.2.2.1, o.2.2.2.2.2.2.1 + n.2.2.2.1, 3, 0, 0, o.2.2.2.2.2.2.2.2.2.2.1, o.2.2.2.2.2.2.2.2.2.2.2.1, ()⟩, (0, ())))
    else if n.2.1 = 4 then (doneF o, (0, ()))
    else if n.2.1 = 5 then (if pend o ∧ n.2.2.2.1 = o.2.2.2.2.2.2.2.2.1 ∧ n.2.2.2.2.1 = o.2.2.2.2.2.2.2.2.2.1 ∧ n.2.2.2.1 > o.2.2.2.2.2.2.1 then (⟨o.1, o.2.1, o.2.2.1, o.2.2.2.1, n.2.2.2.1, n.2.2.2.2.1, o.2.2.2.2.2.2.1, o.2.2.2.2.2.2.2.1, 0, 0, o.2.2.2.2.2.2.2.2.2.2.1, o.2.2.2.2.2.2.2.2.2.2.2.1, ()⟩, (0, ())) else (o, (8, ())))
    else if n.2.1 = 6 then (if pend o then (⟨o.1, o.2.1, o.2.2.1, o.2.2.2.1, o.2.2.2.2.1, o.2.2.2.2.2.1, o.2.2.2.2.2.2.1, o.2.2.2.2.2.2.2.1, 0, 0, o.2.2.2.2.2.2.2.2.2.2.1, o.2.2.2.2.2.2.2.2.2.2.2.1, ()⟩, (0, ())) else (o, (8, ())))
    else (o, (8, ()))
  else (o, (8, ()))

theorem order_Take (o : OrdR) (n : NotR) (ro : R_OrdR o) (rn : R_NotR n) : g_order_Take (o, (n, ())) = some (takeF o n) := by
  unfold takeF g_order_Take
  by_cases hP : ordP o ∧ evP n ∧ n.2.2.1 = o.1
  · obtain ⟨h1, h2, h3⟩ := hP
    simp only [order_Right, h1, g_rec_OfNote, rec_Event, h2, Option.bind_some, decide_true, Bool.not_true, cond_false]
    simp only [h3, bne_self_eq_false, Bool.or_self, and_self, not_true, if_false, cond_false]
    obtain ⟨_, hf1, hf2, _⟩ := id h1
    obtain ⟨_, _, _, ev⟩ := id h2
    unfold R_OrdR R_i64 at ro
    unfold R_NotR R_i64 at rn
    have w1 : IntKind.wrap .i64 (o.2.2.2.2.1 - o.2.2.2.2.2.2.1) = o.2.2.2.2.1 - o.2.2.2.2.2.2.1 := wrap_of (by omega) (by omega)
    by_cases p1 : o.2.2.2.2.2.2.2.1 = 1
    · simp only [p1, beq_self_eq_true, cond_true, if_true, g_order_sent, g_order_done, g_order_settled]
      by_cases w1 : n.2.1 = 1
      · simp [w1, eX] <;> rfl
      by_cases w2 : n.2.1 = 2
      · simp [w2, doneF, eX] <;> rfl
      have b1 : (n.2.1 == 1) = false := by simp [w1]
      have b2 : (n.2.1 == 2) = false := by simp [w2]
      simp [w1, w2, b1, b2, eX] <;> rfl
    by_cases p2 : o.2.2.2.2.2.2.2.1 = 2
    · have b1 : (o.2.2.2.2.2.2.2.1 == 1) = false := by simp [p1]
      simp only [b1, p2, beq_self_eq_true, cond_true, cond_false, if_true, g_order_live, g_order_done, g_order_settled, g_order_pending, w1]
      rw [if_neg (by decide)]
      by_cases w3 : n.2.1 = 3
      · simp only [w3, beq_self_eq_true, cond_true, if_true]
        by_cases q : n.2.2.2.1 > o.2.2.2.2.1 - o.2.2.2.2.2.2.1
        · simp [q, eX] <;> first | rfl | (rw [← p2] <;> rfl)
        · have w2 : IntKind.wrap .i64 (o.2.2.2.2.2.2.1 + n.2.2.2.1) = o.2.2.2.2.2.2.1 + n.2.2.2.1 := wrap_of (by omega) (by omega)
          rw [w2]
          by_cases q2 : o.2.2.2.2.2.2.1 + n.2.2.2.1 < o.2.2.2.2.1
          · simp [q, q2, eX] <;> first | rfl | (rw [← p2] <;> rfl)
          · simp [q, q2, eX] <;> first | rfl | (rw [← p2] <;> rfl)
      by_cases w4 : n.2.1 = 4
      · simp [w4, doneF, eX] <;> first | rfl | (rw [← p2] <;> rfl)
      by_cases w5 : n.2.1 = 5
      · simp only [w5]
        by_cases q : pend o ∧ n.2.2.2.1 = o.2.2.2.2.2.2.2.2.1 ∧ n.2.2.2.2.1 = o.2.2.2.2.2.2.2.2.2.1 ∧ n.2.2.2.1 > o.2.2.2.2.2.2.1
        · rw [if_pos q]
          unfold pend at q
          have : ((((!(o.2.2.2.2.2.2.2.2.1 != 0 || o.2.2.2.2.2.2.2.2.2.1 != 0)) || n.2.2.2.1 != o.2.2.2.2.2.2.2.2.1) || n.2.2.2.2.1 != o.2.2.2.2.2.2.2.2.2.1) || decide (n.2.2.2.1 ≤ o.2.2.2.2.2.2.1)) = false := by simp; omega
          simp only [Option.bind_some, this]
          simp [eX] <;> first | rfl | (rw [← p2] <;> rfl)
        · rw [if_neg q]
          unfold pend at q
          have : ((((!(o.2.2.2.2.2.2.2.2.1 != 0 || o.2.2.2.2.2.2.2.2.2.1 != 0)) || n.2.2.2.1 != o.2.2.2.2.2.2.2.2.1) || n.2.2.2.2.1 != o.2.2.2.2.2.2.2.2.2.1) || decide (n.2.2.2.1 ≤ o.2.2.2.2.2.2.1)) = true := by simp; omega
          simp only [Option.bind_some, this]
          simp [eX] <;> first | rfl | (rw [← p2] <;> rfl)
      by_cases w6 : n.2.1 = 6
      · simp only [w6]
        by_cases q : pend o
        · rw [if_pos q]
          unfold pend at q
          have : (o.2.2.2.2.2.2.2.2.1 != 0 || o.2.2.2.2.2.2.2.2.2.1 != 0) = true := by simp; omega
          simp only [Option.bind_some, this]
          simp [eX] <;> first | rfl | (rw [← p2] <;> rfl)
        · rw [if_neg q]
          unfold pend at q
          have : (o.2.2.2.2.2.2.2.2.1 != 0 || o.2.2.2.2.2.2.2.2.2.1 != 0) = false := by simp; omega
          simp only [Option.bind_some, this]
          simp [eX] <;> first | rfl | (rw [← p2] <;> rfl)
      have b3 : (n.2.1 == 3) = false := by simp [w3]
      have b4 : (n.2.1 == 4) = false := by simp [w4]
      have b5 : (n.2.1 == 5) = false := by simp [w5]
      have b6 : (n.2.1 == 6) = false := by simp [w6]
      simp [w3, w4, w5, w6, b3, b4, b5, b6, eX] <;> first | rfl | (rw [← p2] <;> rfl)
    have b1 : (o.2.2.2.2.2.2.2.1 == 1) = false := by simp [p1]
    have b2 : (o.2.2.2.2.2.2.2.1 == 2) = false := by simp [p2]
    simp [p1, p2, b1, b2, eX] <;> first | rfl | (rw [← p2] <;> rfl)
  · rw [if_pos hP]
    simp only [order_Right, g_rec_OfNote, rec_Event, Option.bind_some, cond_some]
    have : ((bif !decide (ordP o) then true else !decide (evP n)) || n.2.2.1 != o.1) = true := by
      by_cases h1 : ordP o
      · by_cases h2 : evP n
        · have : ¬ n.2.2.1 = o.1 := fun h3 => hP ⟨h1, h2, h3⟩
          simp [h1, h2, this, eX] <;> first | rfl | (rw [← p2] <;> rfl)
        · simp [h1, h2, eX] <;> first | rfl | (rw [← p2] <;> rfl)
      · simp [h1, eX] <;> first | rfl | (rw [← p2] <;> rfl)
    rw [this]
    rfl

theorem ref06_New (id ac sy sd q p : Int) : g_ref06_Right (⟨1, id, ac, sy, sd, q, p, 0, 0, 0, false, 0, 0, ()⟩, ()) = some (decide (newP id ac sy sd q p)) := by
  simp only [g_ref06_Right, g_ref06_id, beq_self_eq_true, cond_true, Option.bind_some, Bool.and_self, Bool.not_true, cond_false, Bool.true_and, cond_some, Bool.and_true]
  congr 1
  refine dec_of ?_
  unfold newP idP
  simp
  omega

theorem ref06_Event (n : NotR) : g_ref06_Right (⟨6, n.2.2.1, 0, 0, 0, n.2.2.2.1, n.2.2.2.2.1, 0, 0, 0, false, n.1, n.2.1, ()⟩, ()) = some (decide (evP n)) := by
  have k1 : ((6 : Int) == 1) = false := rfl
  have k2 : ((6 : Int) == 2) = false := rfl
  have k3 : ((6 : Int) == 3) = false := rfl
  have k4 : ((6 : Int) == 4) = false := rfl
  have k5 : ((6 : Int) == 5) = false := rfl
  simp only [g_ref06_Right, g_ref06_id, k1, k2, k3, k4, k5, beq_self_eq_true, cond_true, Option.bind_some, Bool.and_self, Bool.not_true, cond_false, Bool.true_and, Bool.and_true, cond_some]
  congr 1
  refine dec_of ?_
  unfold evP idP
  by_cases w1 : n.2.1 = 1
  · simp [w1]; try omega
  by_cases w2 : n.2.1 = 2
  · simp [w2]; try omega
  by_cases w3 : n.2.1 = 3
  · simp [w3]; try omega
  by_cases w4 : n.2.1 = 4
  · simp [w4]; try omega
  by_cases w5 : n.2.1 = 5
  · simp [w5]; try omega
  by_cases w6 : n.2.1 = 6
  · simp [w6]; try omega
  have b3 : (n.2.1 == 3) = false := by simp [w3]
  have b5 : (n.2.1 == 5) = false := by simp [w5]
  simp [w1, w2, w3, w4, w5, w6, b3, b5]
  try omega

theorem ref07_Right (o : OrdR) : g_ref07_Right (o, ()) = some (decide (ordP o)) := by
  simp only [g_ref07_Right, ref06_New, Option.bind_some, cond_some]
  congr 1
  refine dec_of ?_
  unfold ordP pend
  by_cases hN : newP o.1 o.2.1 o.2.2.1 o.2.2.2.1 o.2.2.2.2.1 o.2.2.2.2.2.1
  · by_cases p1 : o.2.2.2.2.2.2.2.1 = 1
    · simp [hN, p1]; omega
    by_cases p2 : o.2.2.2.2.2.2.2.1 = 2
    · simp [hN, p2]; omega
    have b1 : (o.2.2.2.2.2.2.2.1 == 1) = false := by simp [p1]
    have b2 : (o.2.2.2.2.2.2.2.1 == 2) = false := by simp [p2]
    simp [hN, p1, p2, b1, b2]; omega
  · simp [hN]
end Go.AI
