/- feed: notes in their turn: what is held is right, on both sides. -/
import Derived.Test.YtgpnkkhfnljfmaaXBase
import Derived.Test.YtgpnkkhfnljfmaaL
namespace Go.AI
open IntKind

/-- A loop with a measure. -/
theorem loop_meas {τ ε σ : Type} {step : τ → Option (τ ⊕ ε)} (st : σ → τ) (I : σ → Prop) (Q : ε → Prop) (μ : σ → Nat)
    (h : ∀ x, I x → (∃ y, step (st x) = some (.inl (st y)) ∧ I y ∧ μ y < μ x) ∨ ∃ o, step (st x) = some (.inr o) ∧ Q o) {x : σ} (hx : I x) : ∃ o, loopO step (st x) = some o ∧ Q o := by
  generalize hk : μ x = k
  induction k using Nat.strongRecOn generalizing x with
  | _ k ih =>
    rcases h x hx with ⟨y, h1, h2, h3⟩ | ⟨o, h1, h2⟩
    · obtain ⟨o, q1, q2⟩ := ih (μ y) (by omega) h2 rfl
      exact ⟨o, by rw [loopO_next h1]; exact q1, q2⟩
    · exact ⟨o, loopO_out h1, h2⟩
theorem loop_over {α β ε τ : Type} {step : τ → Option (τ ⊕ ε)} {l : List α} (st : Nat → β → τ) (F : List α → β → ε) (I : Nat → β → Prop) (hnil : ∀ b, I l.length b → step (st l.length b) = some (.inr (F [] b)))
    (hcons : ∀ i b (_ : i < l.length), I i b → (∃ b', step (st i b) = some (.inl (st (i + 1) b')) ∧ I (i + 1) b' ∧ F (l.drop i) b = F (l.drop (i + 1)) b') ∨ step (st i b) = some (.inr (F (l.drop i) b))) :
    ∀ {i : Nat} {b : β}, i ≤ l.length → I i b → loopO step (st i b) = some (F (l.drop i) b) := by
  intro i b hi hI
  generalize hk : l.length - i = k
  induction k generalizing i b with
  | zero =>
    have : i = l.length := by omega
    subst this
    rw [List.drop_length]
    exact loopO_out (hnil b hI)
  | succ k ih =>
    rcases hcons i b (by omega) hI with ⟨b', h1, h2, h3⟩ | h
    · rw [loopO_next h1, h3]
      exact ih (by omega) h2 (by omega)
    · exact loopO_out h
theorem loop_over0 {α β ε τ : Type} {step : τ → Option (τ ⊕ ε)} (l : List α) (st : Nat → β → τ) (F : List α → β → ε) (I : Nat → β → Prop) {t0 : τ} {b : β} (hnil : ∀ b, I l.length b → step (st l.length b) = some (.inr (F [] b)))
    (hcons : ∀ i b (_ : i < l.length), I i b → (∃ b', step (st i b) = some (.inl (st (i + 1) b')) ∧ I (i + 1) b' ∧ F (l.drop i) b = F (l.drop (i + 1)) b') ∨ step (st i b) = some (.inr (F (l.drop i) b))) (hI : I 0 b) (ht : t0 = st 0 b) : loopO step t0 = some (F l b) := by
  subst ht
  have := loop_over st F I hnil hcons (i := 0) (b := b) (by omega) hI
  rwa [List.drop_zero] at this
theorem getI_at {α : Type} {l : List α} {i : Nat} (h : i < l.length) : getI l (i : Int) = some l[i] := by
  rw [getI_nat, List.getElem?_eq_getElem h]
theorem drop_at {α : Type} {l : List α} {i : Nat} (h : i < l.length) : l.drop i = l[i] :: l.drop (i + 1) := List.drop_eq_getElem_cons h
theorem ltI {i n : Nat} (h : i < n) : decide ((i : Int) < (n : Int)) = true := decide_eq_true (by omega)
theorem ltI' (n : Nat) : decide ((n : Int) < (n : Int)) = false := decide_eq_false (by omega)

/-- What is held, behind a number: in order, and none too far ahead. -/
def heldP (nx : Int) : Int → List NoteT → Prop
  | _, [] => True
  | p, h :: l => p < h.1 ∧ h.1 ≤ nx + 8 ∧ heldP nx h.1 l
instance heldD (nx : Int) : ∀ (p : Int) (l : List NoteT), Decidable (heldP nx p l)
  | _, [] => .isTrue trivial
  | p, h :: l => by unfold heldP; have := heldD nx h.1 l; infer_instance
def rightP (f : FeedT) (nx : Int) : Prop := 1 ≤ nx ∧ nx ≤ 1000000001 ∧ f.1.length ≤ 8 ∧ heldP nx nx f.1
instance (f : FeedT) (nx : Int) : Decidable (rightP f nx) := by unfold rightP; infer_instance

def hF (nx : Int) : List NoteT → Int → Unit ⊕ Bool
  | [], _ => .inl ()
  | h :: l, p => if p < h.1 ∧ h.1 ≤ nx + 8 then hF nx l h.1 else .inr false
theorem hF_end (nx : Int) : ∀ (l : List NoteT) (p : Int), eX (fun _ => some true) (hF nx l p) = some (decide (heldP nx p l))
  | [], _ => rfl
  | h :: l, p => by
    unfold hF
    by_cases c : p < h.1 ∧ h.1 ≤ nx + 8
    · rw [if_pos c, hF_end nx l]
      congr 1
      apply decide_eq_decide.2
      exact ⟨fun hh => ⟨c.1, c.2, hh⟩, fun hh => hh.2.2⟩
    · rw [if_neg c]
      have : ¬ heldP nx p (h :: l) := fun hh => c ⟨hh.1, hh.2.1⟩
      rw [decide_eq_false this]
      rfl

theorem feed_Right (f : FeedT) (nx : Int) : g_feed_Right (f, (nx, ())) = some (decide (rightP f nx)) := by
  unfold g_feed_Right
  by_cases c : 1 ≤ nx ∧ nx ≤ 1000000001 ∧ f.1.length ≤ 8
  · obtain ⟨c1, c2, c3⟩ := c
    have e : ((decide (nx < 1) || decide (nx > 1000000001)) || decide ((f.1.length : Int) > 8)) = false := by simp; omega
    simp only [e, cond_false]
    rw [loop_over0 f.1 (fun i (b : Int) => (b, ((i : Int), ()))) (fun l b => hF nx l b) (fun _ _ => True) (b := nx) ?_ ?_ trivial (by rfl)]
    · rw [Option.bind_some, hF_end]
      congr 1
      apply decide_eq_decide.2
      unfold rightP
      simp [c1, c2, c3]
    · intro b _
      simp only [ltI', cond_false]
      rfl
    · intro i b hi _
      simp only [ltI hi, cond_true, getI_at hi, Option.bind_some]
      rw [drop_at hi, wrap_i64_in (n := nx + 8) (by omega) (by omega)]
      generalize f.1[i] = h
      by_cases cc : b < h.1 ∧ h.1 ≤ nx + 8
      · left
        have e2 : (decide (h.1 ≤ b) || decide (h.1 > nx + 8)) = false := by simp; omega
        refine ⟨h.1, ?_, trivial, ?_⟩
        · simp only [e2, cond_false, wrap_succ (n := i) (by omega)]
        · conv => lhs; unfold hF
          rw [if_pos cc]
      · right
        have e2 : (decide (h.1 ≤ b) || decide (h.1 > nx + 8)) = true := by simp; omega
        simp only [e2, cond_true]
        unfold hF
        rw [if_neg cc]
        rfl
  · have e : ((decide (nx < 1) || decide (nx > 1000000001)) || decide ((f.1.length : Int) > 8)) = true := by simp; omega
    simp only [e, cond_true]
    congr 1
    exact (decide_eq_false fun h => c ⟨h.1, h.2.1, h.2.2.1⟩).symm

theorem ref_Right (f : FeedT) (nx : Int) (hr : ∀ h ∈ f.1, h.1 < 9223372036854775808) : g_ref17_Right (f, (nx, ())) = some (decide (rightP f nx)) := by
  unfold g_ref17_Right
  by_cases c : 1 ≤ nx ∧ nx ≤ 1000000001 ∧ f.1.length ≤ 8
  · obtain ⟨c1, c2, c3⟩ := c
    have e : ((decide (nx < 1) || decide (nx > 1000000001)) || decide ((f.1.length : Int) > 8)) = false := by simp; omega
    simp only [e, cond_false]
    rw [loop_over0 f.1 (fun i (b : Int) => ((i : Int), ())) (fun l b => hF nx l b) (fun i p => nx ≤ p ∧ (if _ : i = 0 then p = nx else ∃ h : i - 1 < f.1.length, p = (f.1[i - 1]).1)) (b := nx) ?_ ?_ ⟨Int.le_refl _, by simp⟩ (by rfl)]
    · rw [Option.bind_some, hF_end]
      congr 1
      apply decide_eq_decide.2
      unfold rightP
      simp [c1, c2, c3]
    · intro b _
      simp only [ltI', cond_false]
      rfl
    · intro i b hi hb
      obtain ⟨hb1, hb2⟩ := hb
      have hm : (f.1[i]).1 < 9223372036854775808 := hr _ (List.getElem_mem hi)
      simp only [ltI hi, cond_true, getI_at hi, Option.bind_some]
      rw [drop_at hi]
      generalize hh : f.1[i] = h
      rw [hh] at hm
      have e3 : (bif decide ((i : Int) > 0) then (getI f.1 (IntKind.wrap .i64 ((i : Int) - 1))).bind fun v3 => some (decide (h.1 ≤ v3.1)) else some false) = some (decide (i > 0) && decide (h.1 ≤ b)) := by
        by_cases hi0 : i = 0
        · subst hi0; rfl
        · rw [dif_neg hi0] at hb2
          obtain ⟨hl, rfl⟩ := hb2
          have e4 : decide ((i : Int) > 0) = true := by simp; omega
          have e5 : IntKind.wrap .i64 ((i : Int) - 1) = ((i - 1 : Nat) : Int) := by rw [wrap_i64_in (by omega) (by omega)]; omega
          rw [e4, e5, cond_true, getI_at hl]
          have : decide (i > 0) = true := by simp; omega
          rw [this]
          rfl
      simp only [e3, Option.bind_some]
      by_cases cc : b < h.1 ∧ h.1 ≤ nx + 8
      · left
        have e2 : (decide (h.1 ≤ nx) || decide (IntKind.wrap .i64 (h.1 - 8) > nx)) = false := by
          rw [wrap_i64_in (by omega) (by omega)]; simp; omega
        have e6 : (decide (i > 0) && decide (h.1 ≤ b)) = false := by simp; omega
        refine ⟨h.1, ?_, ⟨by omega, ?_⟩, ?_⟩
        · simp only [e2, cond_false, e6, Option.bind_some, wrap_succ (n := i) (by omega)]
        · rw [dif_neg (by omega)]
          exact ⟨by simpa using hi, by simp [hh]⟩
        · conv => lhs; unfold hF
          rw [if_pos cc]
      · right
        have e2 : ((bif (decide (h.1 ≤ nx) || decide (IntKind.wrap .i64 (h.1 - 8) > nx)) then some true else (some (decide (i > 0) && decide (h.1 ≤ b))).bind fun v4 => some v4) : Option Bool) = some true := by
          by_cases a1 : h.1 ≤ nx
          · simp [a1]
          · by_cases a2 : h.1 > nx + 8
            · have : decide (IntKind.wrap .i64 (h.1 - 8) > nx) = true := by rw [wrap_i64_in (by omega) (by omega)]; simp; omega
              rw [this]; simp
            · have a3 : h.1 ≤ b := by omega
              have a4 : 0 < i := by
                rcases Nat.eq_zero_or_pos i with h0 | h0
                · rw [dif_pos h0] at hb2; omega
                · exact h0
              have : (decide (h.1 ≤ nx) || decide (IntKind.wrap .i64 (h.1 - 8) > nx)) = false := by rw [wrap_i64_in (by omega) (by omega)]; simp; omega
              rw [this]; simp [a3, a4]
        simp only [Option.bind_some] at e2
        simp only [e2, Option.bind_some, cond_true]
        unfold hF
        rw [if_neg cc]
        rfl
  · have e : ((decide (nx < 1) || decide (nx > 1000000001)) || decide ((f.1.length : Int) > 8)) = true := by simp; omega
    simp only [e, cond_true]
    congr 1
    exact (decide_eq_false fun h => c ⟨h.1, h.2.1, h.2.2.1⟩).symm
end Go.AI
