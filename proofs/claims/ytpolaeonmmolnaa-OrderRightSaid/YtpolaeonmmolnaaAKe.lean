/- A region that draws its order. -/
import Derived.Test.YtpolaeonmmolnaaAKd
namespace Go.AI
set_option linter.unusedVariables false
set_option linter.unusedSimpArgs false

/-- What an operation waits for, and what that waits for. -/
inductive Anc (ops : Array Oper) : Nat → Nat → Prop
  | one (i k : Nat) (o : Oper) (e : Edge) (ho : ops[i]? = some o) (he : e ∈ o.after) (hb : Region.binds .any e = true) (hk : e.on = k) : Anc ops i k
  | more (i k : Nat) (o : Oper) (e : Edge) (ho : ops[i]? = some o) (he : e ∈ o.after) (hb : Region.binds .any e = true) (h : Anc ops e.on k) : Anc ops i k

def edgeMask (acc : List Nat) : List Edge → Nat → Nat
  | [], s => s
  | e :: l, s => edgeMask acc l (if Region.binds .any e = true then s ||| 2 ^ e.on ||| acc.getD e.on 0 else s)

def masks : List Oper → List Nat → List Nat
  | [], acc => acc
  | o :: l, acc => masks l (acc ++ [edgeMask acc o.after.toList 0])

theorem edgeMask_bit (acc : List Nat) : ∀ (l : List Edge) (s k : Nat), (edgeMask acc l s).testBit k = true → s.testBit k = true ∨ ∃ e ∈ l, Region.binds .any e = true ∧ (e.on = k ∨ (acc.getD e.on 0).testBit k = true)
  | [], s, k, h => .inl h
  | e :: l, s, k, h => by
    simp only [edgeMask] at h
    rcases edgeMask_bit acc l _ k h with h | ⟨e', he', hb, h⟩
    · split at h
      · rename_i hb
        rw [Nat.testBit_or, Nat.testBit_or, Nat.testBit_two_pow] at h
        simp only [Bool.or_eq_true, decide_eq_true_eq] at h
        rcases h with (h | h) | h
        · exact .inl h
        · exact .inr ⟨e, by simp, hb, .inl h⟩
        · exact .inr ⟨e, by simp, hb, .inr h⟩
      · exact .inl h
    · exact .inr ⟨e', by simp [he'], hb, h⟩

theorem masks_anc (ops : Array Oper) : ∀ (l : List Oper) (acc : List Nat) (pre : List Oper), ops.toList = pre ++ l → pre.length = acc.length → (∀ i x, acc[i]? = some x → ∀ k, x.testBit k = true → Anc ops i k) →
    ∀ i x, (masks l acc)[i]? = some x → ∀ k, x.testBit k = true → Anc ops i k
  | [], acc, _, _, _, h => h
  | o :: l, acc, pre, hp, hl, h => by
    simp only [masks]
    refine masks_anc ops l _ (pre ++ [o]) (by rw [hp]; simp) (by simp [hl]) ?_
    intro i x hx k hk
    by_cases hi : i < acc.length
    · rw [List.getElem?_append_left hi] at hx
      exact h i x hx k hk
    · rw [List.getElem?_append_right (by omega)] at hx
      have hi0 : i = acc.length := by
        have := (List.getElem?_eq_some_iff.1 hx).1
        simp at this
        omega
      subst hi0
      simp at hx
      subst hx
      have ho : ops[acc.length]? = some o := by
        rw [← Array.getElem?_toList, hp, ← hl]
        simp
      rcases edgeMask_bit acc _ 0 k hk with h0 | ⟨e, he, hb, h1 | h1⟩
      · simp at h0
      · exact .one _ _ o e ho (by simpa using he) hb h1
      · refine .more _ _ o e ho (by simpa using he) hb ?_
        cases hq : acc[e.on]? with
        | none => rw [List.getD_eq_getElem?_getD, hq] at h1; simp at h1
        | some y =>
          rw [List.getD_eq_getElem?_getD, hq] at h1
          exact h _ y hq k h1

/-- Every two operations stand in an order, or may change places. -/
def drawOk (ops : Array Oper) (m : List AIns) : Bool :=
  (List.range m.length).all fun i => (match ops[i]? with
    | some o => o.after.all fun e => !Region.binds .any e || decide (e.on < i)
    | none => false) && (List.range i).all fun k => ((masks ops.toList []).getD i 0).testBit k || (match m[k]?, m[i]? with
    | some x, some y => commB x y
    | _, _ => false)

/-- The same, where a load and a store of other classes may change places, too. -/
def drawOkA (ops : Array Oper) (m : List AIns) (L needs : List (Nat × Nat)) : Bool :=
  m.all (okA L) && (List.range m.length).all fun i => (match ops[i]? with
    | some o => o.after.all fun e => !Region.binds .any e || decide (e.on < i)
    | none => false) && (List.range i).all fun k => ((masks ops.toList []).getD i 0).testBit k || (match m[k]?, m[i]? with
    | some x, some y => commB x y || commA L needs x y
    | _, _ => false)

/-- Classes: what an address comes from. -/
def classes : List AIns → List (Nat × Nat) → List (Nat × Nat)
  | [], L => L
  | i :: l, L => match i.dst, i.guard, i.op with
    | some d, none, .p (.foff _ (.t b)) => classes l (addCl L d b)
    | some d, none, .p (.mv (.t b)) => classes l (addCl L d b)
    | some d, none, .p (.chk (.t b)) => classes l (addCl L d b)
    | _, _, _ => classes l L
where addCl (L : List (Nat × Nat)) (d b : Nat) : List (Nat × Nat) := match lk L b with
    | some c => (d, c) :: L
    | none => (d, b) :: (b, b) :: L

/-- Which classes have to be of other blocks. -/
def needsOf (L : List (Nat × Nat)) (m : List AIns) : List (Nat × Nat) := m.flatMap fun k => match k.op with
  | .r (.load _ _ (.t x)) => m.filterMap fun i => (match i.op with
    | .w (.store _ (.t y) _) => (match lk L x, lk L y with
      | some c, some d => if c = d then none else some (c, d)
      | _, _ => none)
    | _ => none)
  | _ => []

def Closed (ops : Array Oper) (listed : Array Bool) : Prop := ∀ i o, ops[i]? = some o → listed.getD i false = true → ∀ e ∈ o.after, Region.binds .any e = true → listed.getD e.on false = true

theorem anc_listed {ops : Array Oper} {listed : Array Bool} (hc : Closed ops listed) {i k : Nat} (h : Anc ops i k) : (∀ o, ops[i]? = some o → ∀ e ∈ o.after, Region.binds .any e = true → listed.getD e.on false = true) → listed.getD k false = true := by
  induction h with
  | one i k o e ho he hb hk => intro hl; subst hk; exact hl o ho e he hb
  | more i k o e ho he hb h ih => intro hl; exact ih fun o' ho' => hc _ o' ho' (hl o ho e he hb)

/-- What has not come up yet, in its order. -/
def left (m : List AIns) (listed : Array Bool) (l : List Nat) : List AIns := l.filterMap fun j => if listed.getD j true = true then none else m[j]?

theorem left_append (m : List AIns) (listed : Array Bool) (a b : List Nat) : left m listed (a ++ b) = left m listed a ++ left m listed b := by simp [left]

theorem left_set (m : List AIns) (listed : Array Bool) (i : Nat) (l : List Nat) (h : i ∉ l) : left m (listed.setIfInBounds i true) l = left m listed l := by
  induction l with
  | nil => rfl
  | cons j l ih =>
    have hj : i ≠ j := fun e => h (by simp [e])
    have ih := ih (fun hm => h (by simp [hm]))
    simp only [left, List.filterMap_cons] at ih ⊢
    rw [getD_set_ne true hj, ih]

theorem range_split {i n : Nat} (h : i < n) : List.range n = List.range i ++ i :: List.range' (i + 1) (n - (i + 1)) := by
  have h1 : n = i + (1 + (n - (i + 1))) := by omega
  have h2 := List.range'_append_1 (s := 0) (m := i) (n := 1 + (n - (i + 1)))
  have h3 := List.range'_append_1 (s := i) (m := 1) (n := n - (i + 1))
  rw [List.range_eq_range', List.range_eq_range']
  conv => lhs; rw [h1]
  rw [← h2, Nat.zero_add, ← h3]
  rfl

end Go.AI
