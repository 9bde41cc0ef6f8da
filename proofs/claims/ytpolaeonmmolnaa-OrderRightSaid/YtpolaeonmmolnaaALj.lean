/- Loops over lists, by their elements. -/
import Derived.Test.YtpolaeonmmolnaaALi
namespace Go.AI
set_option linter.unusedVariables false
set_option linter.unusedSimpArgs false

theorem hasArgs_cons {s : Sh} {l : List Sh} {dvs : List DV} (h : HasArgs (s :: l) dvs) : ∃ d ds, dvs = d :: ds ∧ HasArg s d ∧ HasArgs l ds := by
  cases dvs with
  | nil => exact h.elim
  | cons d ds => exact ⟨d, ds, rfl, h.1, h.2⟩
theorem hasArgs_nil {dvs : List DV} (h : HasArgs [] dvs) : dvs = [] := by
  cases dvs with
  | nil => rfl
  | cons d ds => exact h.elim
theorem hasArg_cons {a b : Sh} {d : DV} (h : HasArg (.cons a b) d) : ∃ cs, d = .agg cs ∧ HasSh (.cons a b) cs := h
theorem argI {α : Type} {e : α → List DV} {R : α → Prop} {k : IntKind} (hs : ∀ {ds}, HasSh (.int k) ds → ∃ x, ds = e x ∧ R x) {d : DV} (h : HasArg (.int k) d) : ∃ x, [d] = e x ∧ R x := hs h
theorem argB {α : Type} {e : α → List DV} {R : α → Prop} (hs : ∀ {ds}, HasSh .bool ds → ∃ x, ds = e x ∧ R x) {d : DV} (h : HasArg .bool d) : ∃ x, [d] = e x ∧ R x := hs h
theorem argT {α : Type} {e : α → List DV} {R : α → Prop} (hs : ∀ {ds}, HasSh .str ds → ∃ x, ds = e x ∧ R x) {d : DV} (h : HasArg .str d) : ∃ x, [d] = e x ∧ R x := hs h
theorem argS {α : Type} {e : α → List DV} {R : α → Prop} {n : Nat} {s : Sh} (hs : ∀ {ds}, HasSh (.slice n s) ds → ∃ x, ds = e x ∧ R x) {d : DV} (h : HasArg (.slice n s) d) : ∃ x, [d] = e x ∧ R x := hs h

theorem getO_nat {α : Type} (xs : List α) (i : Nat) : getO xs (i : Int) = xs[i]? := by simp [getO]
theorem getO_lt {α : Type} {xs : List α} {i : Nat} (h : i < xs.length) : getO xs (i : Int) = some xs[i] := by rw [getO_nat]; exact List.getElem?_eq_getElem h

def foldE {α β ε : Type} (f : β → α → Option (β ⊕ ε)) (out : β → ε) : β → List α → Option ε
  | b, [] => some (out b)
  | b, x :: l => match f b x with
    | some (.inl b') => foldE f out b' l
    | some (.inr e) => some e
    | none => none

/-- **A loop over a list's elements.** -/
theorem loop_list {α β ε : Type} {step : Int × β → Option ((Int × β) ⊕ ε)} {xs : List α} (f : β → α → Option (β ⊕ ε)) (out : β → ε) (I : Nat → β → Prop)
    (h1 : ∀ (i : Nat) (b : β) (x : α), I i b → xs[i]? = some x → step ((i : Int), b) = (f b x).map (fun y => match y with | .inl b' => .inl (((i + 1 : Nat) : Int), b') | .inr e => .inr e) ∧ ∀ b', f b x = some (.inl b') → I (i + 1) b')
    (h2 : ∀ b, I xs.length b → step ((xs.length : Int), b) = some (.inr (out b))) {i : Nat} (hi : i ≤ xs.length) {b : β} (hI : I i b) : loopO step ((i : Int), b) = foldE f out b (xs.drop i) := by
  generalize hk : xs.length - i = k
  induction k generalizing i b with
  | zero =>
    have : i = xs.length := by omega
    subst this
    rw [List.drop_length, foldE, loopO_out (h2 b hI)]
  | succ k ih =>
    have hlt : i < xs.length := by omega
    obtain ⟨h3, h4⟩ := h1 i b xs[i] hI (List.getElem?_eq_getElem hlt)
    rw [List.drop_eq_getElem_cons hlt, foldE, loopO_eq, h3]
    cases hf : f b xs[i] with
    | none => rfl
    | some y =>
      cases y with
      | inl b' => exact ih (by omega) (h4 b' hf) (by omega)
      | inr e => rfl

theorem wrap_of {n : Int} (h0 : -9223372036854775808 ≤ n) (h1 : n < 9223372036854775808) : IntKind.wrap .i64 n = n := wrap_i64_of h0 h1
theorem room_le {b n m : Nat} (h : n ≤ m) (hm : room b m) : room b n := by
  unfold room at hm ⊢
  exact ⟨Nat.le_trans (Nat.mul_le_mul_right _ h) hm.1, Nat.le_trans h hm.2⟩
end Go.AI
