/- rec: which records are right, on both sides. -/
import Derived.Test.YthmgondhniecnaaL
import Derived.Test.YthmgondhniecnaaXBase
namespace Go.AI
abbrev RcR : Type := Int × (Int × (Int × (Int × (Int × (Int × (Int × (Int × (Int × (Int × (Bool × (Int × (Int × Unit))))))))))))
/-- A record that is right. -/
def recQ (k o ac sy sd q p lo sh op : Int) (on : Bool) (sq w : Int) : Prop :=
    (k = 1 ∧ (1 ≤ o ∧ o ≤ 1000000000000) ∧ (0 ≤ ac ∧ ac < 8) ∧ (0 ≤ sy ∧ sy < 8) ∧ (sd = 1 ∨ sd = 2) ∧ 1 ≤ q ∧ 1 ≤ p ∧ lo = 0 ∧ sh = 0 ∧ op = 0 ∧ on = false ∧ sq = 0 ∧ w = 0) ∨
    (k = 2 ∧ (1 ≤ o ∧ o ≤ 1000000000000) ∧ ac = 0 ∧ sy = 0 ∧ sd = 0 ∧ 1 ≤ q ∧ 1 ≤ p ∧ lo = 0 ∧ sh = 0 ∧ op = 0 ∧ on = false ∧ sq = 0 ∧ w = 0) ∨
    (k = 3 ∧ (1 ≤ o ∧ o ≤ 1000000000000) ∧ ac = 0 ∧ sy = 0 ∧ sd = 0 ∧ q = 0 ∧ p = 0 ∧ lo = 0 ∧ sh = 0 ∧ op = 0 ∧ on = false ∧ sq = 0 ∧ w = 0) ∨
    (k = 4 ∧ o = 0 ∧ (0 ≤ ac ∧ ac < 8) ∧ ((0 ≤ sy ∧ sy < 8) ∨ (sy = -1 ∧ lo = 0 ∧ sh = 0)) ∧ sd = 0 ∧ q = 0 ∧ p = 0 ∧ 0 ≤ lo ∧ 0 ≤ sh ∧ 0 ≤ op ∧ on = false ∧ sq = 0 ∧ w = 0) ∨
    (k = 5 ∧ o = 0 ∧ ac = 0 ∧ sy = 0 ∧ sd = 0 ∧ q = 0 ∧ p = 0 ∧ lo = 0 ∧ sh = 0 ∧ op = 0 ∧ sq = 0 ∧ w = 0) ∨
    (k = 6 ∧ (1 ≤ o ∧ o ≤ 1000000000000) ∧ ac = 0 ∧ sy = 0 ∧ sd = 0 ∧ lo = 0 ∧ sh = 0 ∧ op = 0 ∧ on = false ∧ (1 ≤ sq ∧ sq ≤ 1000000000) ∧ ((w = 3 ∧ 1 ≤ q ∧ p = 0) ∨ (w = 5 ∧ 1 ≤ q ∧ 1 ≤ p) ∨ ((w = 1 ∨ w = 2 ∨ w = 4 ∨ w = 6) ∧ q = 0 ∧ p = 0)))
def recP (r : RcR) : Prop := recQ r.1 r.2.1 r.2.2.1 r.2.2.2.1 r.2.2.2.2.1 r.2.2.2.2.2.1 r.2.2.2.2.2.2.1 r.2.2.2.2.2.2.2.1 r.2.2.2.2.2.2.2.2.1 r.2.2.2.2.2.2.2.2.2.1 r.2.2.2.2.2.2.2.2.2.2.1 r.2.2.2.2.2.2.2.2.2.2.2.1 r.2.2.2.2.2.2.2.2.2.2.2.2.1
noncomputable def recB (r : RcR) : Bool := @decide (recP r) (Classical.propDecidable _)
theorem recB_iff (r : RcR) : recB r = true ↔ recP r := @decide_eq_true_iff _ (Classical.propDecidable _)
theorem recB_of {r : RcR} {b : Bool} (h : b = true ↔ recP r) : b = recB r := by rw [Bool.eq_iff_iff, h, recB_iff]
theorem condS {α : Type} (c : Bool) (a b : α) : (bif c then some a else some b) = some (bif c then a else b) := by cases c <;> rfl
theorem condFst {α β : Type} (c : Bool) (a b : α × β) : (bif c then a else b).1 = bif c then a.1 else b.1 := by cases c <;> rfl
theorem rec_Right (r : RcR) : g_rec_Right (r, ()) = some (recB r) := by
  suffices h : ∃ b, g_rec_Right (r, ()) = some b ∧ (b = true ↔ recP r) by
    obtain ⟨b, h1, h2⟩ := h
    rw [h1, recB_of h2]
  obtain ⟨k, o, ac, sy, sd, q, p, lo, sh, op, on, sq, w, ⟨⟩⟩ := r
  unfold g_rec_Right g_rec_fields recP recQ
  by_cases h1 : k = 1
  · subst h1
    cases on <;> (simp [eX, g_rec_known, g_rec_below, g_rec_sized, g_rec_event, condS]; try omega)
  by_cases h2 : k = 2
  · subst h2
    clear h1
    cases on <;> (simp [eX, g_rec_known, g_rec_below, g_rec_sized, g_rec_event, condS]; try omega)
  by_cases h3 : k = 3
  · subst h3
    clear h1 h2
    cases on <;> (simp [eX, g_rec_known, g_rec_below, g_rec_sized, g_rec_event, condS]; try omega)
  by_cases h4 : k = 4
  · subst h4
    clear h1 h2 h3
    cases on <;> (simp [eX, g_rec_known, g_rec_below, g_rec_sized, g_rec_event, condS]; try omega)
  by_cases h5 : k = 5
  · subst h5
    clear h1 h2 h3 h4
    cases on <;> (simp [eX, g_rec_known, g_rec_below, g_rec_sized, g_rec_event, condS]; try omega)
  by_cases h6 : k = 6
  · subst h6
    clear h1 h2 h3 h4 h5
    cases on <;> simp [eX, g_rec_known, g_rec_below, g_rec_sized, g_rec_event, condS, condFst]
    split
    · omega
    · split
      · omega
      · omega
  have e : ∀ j : Int, k ≠ j → (k == j) = false := fun j h => by simpa using h
  simp only [e 1 h1, e 2 h2, e 3 h3, e 4 h4, e 5 h5, e 6 h6, eX, cond_false, Option.bind_some, Option.map_some, condS]
  refine ⟨_, rfl, ?_⟩
  simp [h1, h2, h3, h4, h5, h6]
theorem ref06_Right (r : RcR) : g_ref06_Right (r, ()) = some (recB r) := by
  suffices h : ∃ b, g_ref06_Right (r, ()) = some b ∧ (b = true ↔ recP r) by
    obtain ⟨b, h1, h2⟩ := h
    rw [h1, recB_of h2]
  obtain ⟨k, o, ac, sy, sd, q, p, lo, sh, op, on, sq, w, ⟨⟩⟩ := r
  unfold g_ref06_Right recP recQ
  by_cases h1 : k = 1
  · subst h1
    cases on <;> (simp [g_ref06_id, condS]; try omega)
  by_cases h2 : k = 2
  · subst h2
    clear h1
    cases on <;> (simp [g_ref06_id, condS]; try omega)
  by_cases h3 : k = 3
  · subst h3
    clear h1 h2
    cases on <;> (simp [g_ref06_id, condS]; try omega)
  by_cases h4 : k = 4
  · subst h4
    clear h1 h2 h3
    cases on <;> (simp [g_ref06_id, condS, condFst]; try omega)
  by_cases h5 : k = 5
  · subst h5
    clear h1 h2 h3 h4
    cases on <;> (simp [g_ref06_id, condS]; try omega)
  by_cases h6 : k = 6
  · subst h6
    clear h1 h2 h3 h4 h5
    by_cases w3 : w = 3
    · subst w3
      cases on <;> (simp [g_ref06_id, condS]; try omega)
    by_cases w5 : w = 5
    · subst w5
      cases on <;> (simp [g_ref06_id, condS]; try omega)
    have e3 : (w == 3) = false := by simpa using w3
    have e5 : (w == 5) = false := by simpa using w5
    cases on <;> (simp [g_ref06_id, condS, e3, e5]; try omega)
  have e : ∀ j : Int, k ≠ j → (k == j) = false := fun j h => by simpa using h
  simp only [e 1 h1, e 2 h2, e 3 h3, e 4 h4, e 5 h5, e 6 h6, eX, cond_false, Option.bind_some, Option.map_some, condS]
  refine ⟨_, rfl, ?_⟩
  simp [h1, h2, h3, h4, h5, h6]
end Go.AI
