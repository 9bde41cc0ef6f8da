/- Words and rules for functions of data with a kind. -/
import Derived.Test.YtbcffodjbbcdhaaLE
import Derived.Laws.BitsAllLaws
namespace Go.AI

/-- Numbers as bytes. -/
def ints (ns : List Nat) : List Int := ns.map fun n : Nat => (n : Int)
theorem ints_length (ns : List Nat) : (ints ns).length = ns.length := by simp [ints]
theorem ints_append (a b : List Nat) : ints (a ++ b) = ints a ++ ints b := by simp [ints]
theorem ints_cons (a : Nat) (b : List Nat) : ints (a :: b) = (a : Int) :: ints b := rfl
theorem ints_nil : ints [] = [] := rfl
theorem ints_take (a : List Nat) (n : Nat) : (ints a).take n = ints (a.take n) := by simp [ints, List.map_take]
theorem ints_drop (a : List Nat) (n : Nat) : (ints a).drop n = ints (a.drop n) := by simp [ints, List.map_drop]
theorem ints_get (ns : List Nat) (i : Nat) : (ints ns)[i]? = (ns[i]?).map fun n : Nat => (n : Int) := by simp [ints]
theorem ints_inj {a b : List Nat} (h : ints a = ints b) : a = b := by
  unfold ints at h
  exact (List.map_inj_right (fun _ _ h => Int.ofNat.inj h)).1 h

theorem rg_u8 {x : Int} (h : (Lit.int .u8 x).wf = true) : 0 ≤ x ∧ x < 256 := wf_u8 h
theorem ints_of : ∀ {xs : List Int}, (∀ x, List.Mem x xs → (Lit.int .u8 x).wf = true) → ∃ ns : List Nat, xs = ints ns ∧ ∀ n ∈ ns, n < 256
  | [], _ => ⟨[], rfl, by simp⟩
  | x :: xs, h => by
    obtain ⟨ns, rfl, hn⟩ := ints_of (xs := xs) (fun y hy => h y (List.Mem.tail _ hy))
    have hx := rg_u8 (h x (List.Mem.head _))
    refine ⟨x.toNat :: ns, by simp only [ints, List.map_cons]; rw [Int.toNat_of_nonneg hx.1], ?_⟩
    intro n hn'
    rcases List.mem_cons.1 hn' with rfl | hn'
    · omega
    · exact hn n hn'

theorem getI_nat {α : Type} (l : List α) (i : Nat) : getI l (i : Int) = l[i]? := by
  unfold getI
  rw [if_pos (by omega)]
  rfl
theorem getI_lit {α : Type} (l : List α) (n : Int) (i : Nat) (h : n = (i : Int)) : getI l n = l[i]? := by
  subst h; exact getI_nat l i
theorem getI_ints {ns : List Nat} {i : Nat} (h : i < ns.length) : getI (ints ns) (i : Int) = some ((ns[i] : Nat) : Int) := by
  rw [getI_nat, ints_get, List.getElem?_eq_getElem h]
  rfl
theorem subI_nat {α : Type} (l : List α) {a b : Nat} (h1 : a ≤ b) (h2 : b ≤ l.length) : subI l (a : Int) (b : Int) = some ((l.take b).drop a) := by
  unfold subI
  rw [if_pos (by omega)]
  rfl
theorem appX_ok {α : Type} {l ys : List α} {b : Nat} (h : (l.length + ys.length) * b ≤ 140737488355328) (h2 : l.length + ys.length ≤ maxLen) : appX l ys b = some (l ++ ys) := by
  unfold appX
  rw [if_pos ⟨h, h2⟩]

theorem wrap_i64_in {n : Int} (h0 : -9223372036854775808 ≤ n) (h1 : n < 9223372036854775808) : IntKind.i64.wrap n = n := by
  rw [IntKind.wrap_i64]; omega
theorem wrap_succ {n : Nat} (h : n < 9223372036854775807) : IntKind.i64.wrap ((n : Int) + 1) = ((n + 1 : Nat) : Int) := by
  rw [wrap_i64_in (by omega) (by omega)]; rfl

/-- A loop that counts up; the counter is its last place. -/
theorem loop_up {β ε : Type} {step : β × (Int × Unit) → Option ((β × (Int × Unit)) ⊕ ε)} {n : Nat} (σ : Nat → β) {out : ε} (h1 : ∀ i, i < n → step (σ i, ((i : Int), ())) = some (.inl (σ (i + 1), (((i + 1 : Nat) : Int), ())))) (h2 : step (σ n, ((n : Int), ())) = some (.inr out)) {i : Nat} (hi : i ≤ n) : loopO step (σ i, ((i : Int), ())) = some out := by
  generalize hk : n - i = k
  induction k generalizing i with
  | zero =>
    have : i = n := by omega
    subst this
    exact loopO_out h2
  | succ k ih =>
    rw [loopO_next (h1 i (by omega))]
    exact ih (by omega) (by omega)
theorem loop_up0 {β ε : Type} {step : β × (Int × Unit) → Option ((β × (Int × Unit)) ⊕ ε)} (n : Nat) (σ : Nat → β) {out : ε} (h1 : ∀ i, i < n → step (σ i, ((i : Int), ())) = some (.inl (σ (i + 1), (((i + 1 : Nat) : Int), ())))) (h2 : step (σ n, ((n : Int), ())) = some (.inr out)) {b : β} (hb : b = σ 0) : loopO step (b, (0, ())) = some out := by
  subst hb
  exact loop_up (n := n) σ h1 h2 (i := 0) (Nat.zero_le _)
end Go.AI
