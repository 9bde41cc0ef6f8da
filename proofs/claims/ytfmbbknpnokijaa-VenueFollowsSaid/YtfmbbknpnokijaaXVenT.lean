/- venue: orders in the order of their numbers, as a table. -/
import Derived.Test.YtfmbbknpnokijaaXVenA
namespace Go.AI

/-- In order. -/
def SrtO (l : List OrdR) : Prop := l.Pairwise fun f g => f.1 < g.1
def getO : List OrdR → Int → Option OrdR
  | [], _ => none
  | f :: l, n => if f.1 = n then some f else getO l n
def putO : List OrdR → OrdR → List OrdR
  | [], f => [f]
  | x :: l, f => if x.1 < f.1 then x :: putO l f else if x.1 = f.1 then f :: l else f :: x :: l
def rankO : List OrdR → Int → Nat
  | [], _ => 0
  | x :: l, n => if x.1 < n then rankO l n + 1 else 0

theorem SrtO.tail {x : OrdR} {l : List OrdR} (h : SrtO (x :: l)) : SrtO l := (List.pairwise_cons.1 h).2
theorem SrtO.head {x : OrdR} {l : List OrdR} (h : SrtO (x :: l)) : ∀ f ∈ l, x.1 < f.1 := (List.pairwise_cons.1 h).1
theorem SrtO.of_steps : ∀ {l : List OrdR}, (∀ i o p, l[i]? = some o → l[i + 1]? = some p → o.1 < p.1) → SrtO l
  | [], _ => List.Pairwise.nil
  | x :: l, h => by
    have ih : SrtO l := SrtO.of_steps fun i o p h1 h2 => h (i + 1) o p (by simpa using h1) (by simpa using h2)
    refine List.pairwise_cons.2 ⟨fun f hf => ?_, ih⟩
    cases l with
    | nil => cases hf
    | cons y l =>
      have h0 := h 0 x y rfl rfl
      rcases List.mem_cons.1 hf with rfl | hf
      · exact h0
      · have := ih.head f hf; omega
theorem SrtO.steps : ∀ {l : List OrdR}, SrtO l → ∀ i o p, l[i]? = some o → l[i + 1]? = some p → o.1 < p.1
  | [], _, _, _, _, h, _ => by simp at h
  | x :: l, hs, 0, o, p, h1, h2 => by
    simp only [List.getElem?_cons_zero, Option.some.injEq, List.getElem?_cons_succ] at h1 h2
    subst h1
    exact hs.head p (List.mem_of_getElem? h2)
  | x :: l, hs, i + 1, o, p, h1, h2 => SrtO.steps hs.tail i o p (by simpa using h1) (by simpa using h2)

theorem getO_name {l : List OrdR} {n : Int} {f : OrdR} (h : getO l n = some f) : f.1 = n := by
  induction l with
  | nil => cases h
  | cons x l ih =>
    simp only [getO] at h
    split at h
    · cases h; assumption
    · exact ih h
theorem getO_mem {l : List OrdR} {n : Int} {f : OrdR} (h : getO l n = some f) : f ∈ l := by
  induction l with
  | nil => cases h
  | cons x l ih =>
    simp only [getO] at h
    split at h
    · cases h; exact List.mem_cons_self
    · exact List.mem_cons_of_mem _ (ih h)
theorem getO_none {l : List OrdR} {n : Int} (h : ∀ f ∈ l, f.1 ≠ n) : getO l n = none := by
  induction l with
  | nil => rfl
  | cons x l ih =>
    simp only [getO]
    rw [if_neg (h x List.mem_cons_self)]
    exact ih fun f hf => h f (List.mem_cons_of_mem _ hf)
theorem putO_mem {l : List OrdR} {f g : OrdR} (h : g ∈ putO l f) : g = f ∨ g ∈ l := by
  induction l with
  | nil => simp [putO] at h; exact .inl h
  | cons x l ih =>
    simp only [putO] at h
    split at h
    · rcases List.mem_cons.1 h with rfl | h
      · exact .inr List.mem_cons_self
      · exact (ih h).imp id (List.mem_cons_of_mem _)
    · split at h
      · rcases List.mem_cons.1 h with rfl | h
        · exact .inl rfl
        · exact .inr (List.mem_cons_of_mem _ h)
      · rcases List.mem_cons.1 h with rfl | h
        · exact .inl rfl
        · exact .inr h
theorem putO_srt {l : List OrdR} (hs : SrtO l) (f : OrdR) : SrtO (putO l f) := by
  induction l with
  | nil => exact List.pairwise_singleton _ _
  | cons x l ih =>
    simp only [putO]
    split
    · rename_i h
      refine List.pairwise_cons.2 ⟨fun g hg => ?_, ih hs.tail⟩
      rcases putO_mem hg with rfl | hg
      · exact h
      · exact hs.head g hg
    · rename_i h
      split
      · rename_i e
        refine List.pairwise_cons.2 ⟨fun g hg => ?_, hs.tail⟩
        rw [← e]; exact hs.head g hg
      · rename_i e
        refine List.pairwise_cons.2 ⟨fun g hg => ?_, hs⟩
        rcases List.mem_cons.1 hg with rfl | hg
        · omega
        · have := hs.head g hg; omega
theorem getO_putO {l : List OrdR} (f : OrdR) (n : Int) (hs : SrtO l) : getO (putO l f) n = if f.1 = n then some f else getO l n := by
  induction l with
  | nil => simp [putO, getO]
  | cons x l ih =>
    simp only [putO]
    split
    · rename_i h
      simp only [getO, ih hs.tail]
      by_cases hx : x.1 = n
      · rw [if_pos hx, if_pos hx, if_neg (by omega)]
      · rw [if_neg hx, if_neg hx]
    · rename_i h
      split
      · rename_i e
        simp only [getO]
        by_cases hx : f.1 = n
        · rw [if_pos hx, if_pos hx]
        · rw [if_neg hx, if_neg hx, if_neg (by omega)]
      · simp only [getO]
theorem putO_length_old {l : List OrdR} {f g : OrdR} (hs : SrtO l) (h : getO l f.1 = some g) : (putO l f).length = l.length := by
  induction l with
  | nil => cases h
  | cons x l ih =>
    simp only [getO] at h
    simp only [putO]
    split at h
    · rename_i e
      rw [if_neg (by omega), if_pos e]
      rfl
    · have h1 := hs.head g (getO_mem h)
      rw [getO_name h] at h1
      rw [if_pos h1, List.length_cons, ih hs.tail h, List.length_cons]
theorem putO_length_new {l : List OrdR} {f : OrdR} (h : getO l f.1 = none) : (putO l f).length = l.length + 1 := by
  induction l with
  | nil => rfl
  | cons x l ih =>
    simp only [getO] at h
    split at h
    · cases h
    · rename_i e
      simp only [putO]
      split
      · rw [List.length_cons, ih h, List.length_cons]
      · first | rfl | (rw [if_neg e]; rfl)

/-! ### Places -/
theorem rankO_le (l : List OrdR) (n : Int) : rankO l n ≤ l.length := by
  induction l with
  | nil => exact Nat.le_refl _
  | cons x l ih =>
    simp only [rankO, List.length_cons]
    split <;> omega
theorem rankO_lt {l : List OrdR} {n : Int} {i : Nat} (h : i < rankO l n) (hi : i < l.length) : (l[i]).1 < n := by
  induction l generalizing i with
  | nil => simp at hi
  | cons x l ih =>
    simp only [rankO] at h
    split at h
    · rename_i hx
      cases i with
      | zero => exact hx
      | succ i => exact ih (by omega) (by simpa using hi)
    · omega
theorem rankO_ge {l : List OrdR} (hs : SrtO l) {n : Int} {i : Nat} (h : rankO l n ≤ i) (hi : i < l.length) : n ≤ (l[i]).1 := by
  induction l generalizing i with
  | nil => simp at hi
  | cons x l ih =>
    simp only [rankO] at h
    split at h
    · cases i with
      | zero => omega
      | succ i => exact ih hs.tail (by omega) (by simpa using hi)
    · rename_i hx
      cases i with
      | zero => simp only [List.getElem_cons_zero]; omega
      | succ i =>
        have := hs.head (l[i]'(by simpa using hi)) (List.getElem_mem _)
        simp only [List.getElem_cons_succ]
        omega
theorem getO_rank {l : List OrdR} (hs : SrtO l) (n : Int) : getO l n = match l[rankO l n]? with
    | some f => if f.1 = n then some f else none
    | none => none := by
  induction l with
  | nil => rfl
  | cons x l ih =>
    by_cases h : x.1 < n
    · have e : rankO (x :: l) n = rankO l n + 1 := by simp only [rankO]; rw [if_pos h]
      rw [e, List.getElem?_cons_succ, ← ih hs.tail]
      simp only [getO]
      rw [if_neg (by omega)]
    · have e : rankO (x :: l) n = 0 := by simp only [rankO]; rw [if_neg h]
      rw [e, List.getElem?_cons_zero]
      simp only [getO]
      by_cases hx : x.1 = n
      · rw [if_pos hx, if_pos hx]
      · rw [if_neg hx, if_neg hx]
        refine getO_none fun f hf hq => ?_
        have h1 := hs.head f hf
        omega
theorem getO_at {l : List OrdR} (hs : SrtO l) {n : Int} {f : OrdR} (h : getO l n = some f) : l[rankO l n]? = some f := by
  rw [getO_rank hs] at h
  split at h
  · rename_i g hg
    split at h
    · cases h; exact hg
    · cases h
  · cases h
theorem putO_old {l : List OrdR} (hs : SrtO l) {f g : OrdR} (h : getO l f.1 = some g) : putO l f = l.set (rankO l f.1) f := by
  induction l with
  | nil => cases h
  | cons x l ih =>
    simp only [getO] at h
    simp only [putO, rankO]
    split at h
    · rename_i e
      rw [if_neg (by omega), if_pos e, if_neg (by omega)]
      rfl
    · have hlt : x.1 < f.1 := by
        have h1 := hs.head g (getO_mem h)
        rwa [getO_name h] at h1
      rw [if_pos hlt, if_pos hlt, ih hs.tail h]
      rfl
theorem putO_new {l : List OrdR} {f : OrdR} (h : getO l f.1 = none) : putO l f = l.take (rankO l f.1) ++ f :: l.drop (rankO l f.1) := by
  induction l with
  | nil => rfl
  | cons x l ih =>
    simp only [getO] at h
    split at h
    · cases h
    · rename_i e
      simp only [putO, rankO]
      split
      · rw [ih h]; rfl
      · first | rfl | (rw [if_neg e]; rfl)
end Go.AI
