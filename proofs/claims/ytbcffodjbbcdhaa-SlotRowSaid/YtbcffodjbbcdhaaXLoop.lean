/- Loops over lists, and with a measure. -/
import Derived.Test.YtbcffodjbbcdhaaXBase
namespace Go.AI
open IntKind

/-- A loop with a measure. -/
theorem loop_meas {τ ε σ : Type} {step : τ → Option (τ ⊕ ε)} (st : σ → τ) (I : σ → Prop) (Q : ε → Prop) (μ : σ → Nat)
    (h : ∀ x, I x → (∃ y, step (st x) = some (.inl (st y)) ∧ I y ∧ μ y < μ x) ∨ ∃ o, step (st x) = some (.inr o) ∧ Q o) {x : σ} (hx : I x) : ∃ o, loopO step (st x) = some o ∧ Q o := by
  generalize hk : μ x = k
  induction k using Nat.strongRecOn generalizing x with
  | _ k ih =>
    rcases h x hx with ⟨y, h1, h2, h3⟩ | ⟨o, h1, h2⟩
    · obtain ⟨o, q1, q2⟩ := ih (μ y) (by omega) h2 rfl
      exact ⟨o, by rw [loopO_next h1]; exact q1, q2⟩
    · exact ⟨o, loopO_out h1, h2⟩
theorem loop_over {α β ε τ : Type} {step : τ → Option (τ ⊕ ε)} {l : List α} (st : Nat → β → τ) (F : List α → β → ε) (I : Nat → β → Prop) (hnil : ∀ b, I l.length b → step (st l.length b) = some (.inr (F [] b)))
    (hcons : ∀ i b (_ : i < l.length), I i b → (∃ b', step (st i b) = some (.inl (st (i + 1) b')) ∧ I (i + 1) b' ∧ F (l.drop i) b = F (l.drop (i + 1)) b') ∨ step (st i b) = some (.inr (F (l.drop i) b))) :
    ∀ {i : Nat} {b : β}, i ≤ l.length → I i b → loopO step (st i b) = some (F (l.drop i) b) := by
  intro i b hi hI
  generalize hk : l.length - i = k
  induction k generalizing i b with
  | zero =>
    have : i = l.length := by omega
    subst this
    rw [List.drop_length]
    exact loopO_out (hnil b hI)
  | succ k ih =>
    rcases hcons i b (by omega) hI with ⟨b', h1, h2, h3⟩ | h
    · rw [loopO_next h1, h3]
      exact ih (by omega) h2 (by omega)
    · exact loopO_out h
theorem loop_over0 {α β ε τ : Type} {step : τ → Option (τ ⊕ ε)} (l : List α) (st : Nat → β → τ) (F : List α → β → ε) (I : Nat → β → Prop) {t0 : τ} {b : β} (hnil : ∀ b, I l.length b → step (st l.length b) = some (.inr (F [] b)))
    (hcons : ∀ i b (_ : i < l.length), I i b → (∃ b', step (st i b) = some (.inl (st (i + 1) b')) ∧ I (i + 1) b' ∧ F (l.drop i) b = F (l.drop (i + 1)) b') ∨ step (st i b) = some (.inr (F (l.drop i) b))) (hI : I 0 b) (ht : t0 = st 0 b) : loopO step t0 = some (F l b) := by
  subst ht
  have := loop_over st F I hnil hcons (i := 0) (b := b) (by omega) hI
  rwa [List.drop_zero] at this
theorem getI_at {α : Type} {l : List α} {i : Nat} (h : i < l.length) : getI l (i : Int) = some l[i] := by
  rw [getI_nat, List.getElem?_eq_getElem h]
theorem drop_at {α : Type} {l : List α} {i : Nat} (h : i < l.length) : l.drop i = l[i] :: l.drop (i + 1) := List.drop_eq_getElem_cons h
theorem ltI {i n : Nat} (h : i < n) : decide ((i : Int) < (n : Int)) = true := decide_eq_true (by omega)
theorem ltI' (n : Nat) : decide ((n : Int) < (n : Int)) = false := decide_eq_false (by omega)
end Go.AI
