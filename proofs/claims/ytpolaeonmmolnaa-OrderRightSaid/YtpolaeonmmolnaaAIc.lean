/- What only computes: the model's operation yields what the abstract one says, and leaves the world alone. -/
import Derived.Test.YtpolaeonmmolnaaAIb
import Derived.Laws.StructEq
import Derived.Laws.Shifts
namespace Go.AI
set_option linter.unusedVariables false
set_option linter.unusedSimpArgs false

/-- A literal's data. -/
def lit1 : Value → Option DV
  | .bool b => some (.bool b)
  | .int k n => some (.int k n)
  | .string s => some (.str s)
  | .slice none 0 0 => some (.nils 0)
  | .pointer none => some .nilp
  | .nilIface => some .nili
  | .nilFunc => some .nilf
  | _ => none

def lits : List Value → Option (List DV)
  | [] => some []
  | v :: l => match lit1 v, lits l with
    | some d, some ds => some (d :: ds)
    | _, _ => none

def lit : Value → Option DV
  | .agg cs => (lits cs.toList).map .agg
  | v => lit1 v

theorem lit1_rep {F : Nat → Prop} {w : World} {v : Value} {d : DV} (h : lit1 v = some d) : Rep F w d v := by
  unfold lit1 at h
  split at h <;> first | (cases h; done) | (cases h; constructor)

theorem lits_length {l : List Value} {ds : List DV} (h : lits l = some ds) : ds.length = l.length := by
  induction l generalizing ds with
  | nil => simp [lits] at h; subst h; rfl
  | cons v l ih =>
    simp only [lits] at h
    split at h
    · cases h; rename_i h2; simp [ih h2]
    · cases h

theorem lits_rep {F : Nat → Prop} {w : World} {l : List Value} {ds : List DV} (h : lits l = some ds) : ∀ (j : Nat) d v, ds[j]? = some d → l[j]? = some v → Rep F w d v := by
  induction l generalizing ds with
  | nil => intro j d v _ h2; simp at h2
  | cons v l ih =>
    simp only [lits] at h
    split at h
    · cases h
      rename_i h1 h2
      intro j d u hd hu
      cases j with
      | zero => simp at hd hu; subst hd; subst hu; exact lit1_rep h1
      | succ j => simp at hd hu; exact ih h2 j d u hd hu
    · cases h

theorem lit_rep {F : Nat → Prop} {w : World} {v : Value} {d : DV} (h : lit v = some d) : Rep F w d v := by
  unfold lit at h
  split at h
  · rename_i cs
    simp only [Option.map_eq_some_iff] at h
    obtain ⟨ds, h, rfl⟩ := h
    have := Rep.agg (F := F) (w := w) ds cs.toList (lits_length h).symm (lits_rep h)
    simpa using this
  · exact lit1_rep h

def cOpd : Operand → Option Opd
  | .tmp t => some (.t t)
  | .const v => (lit v).map .c
  | .func f => some (.c (.fn f []))
  | .global _ => none

def cOpds : List Operand → Option (List Opd)
  | [] => some []
  | x :: l => match cOpd x, cOpds l with
    | some y, some m => some (y :: m)
    | _, _ => none

def cOpt : Option Operand → Option (Option Opd)
  | none => some none
  | some x => (cOpd x).map some

/-- The temporaries of a frame: how many there are; what some of them have, the latest first. -/
structure Env where
  n : Nat
  l : List (Nat × AV)

def look : List (Nat × AV) → Nat → AV
  | [], _ => .junk
  | (k, x) :: l, t => if k = t then x else look l t

/-- Abstract values of operands. -/
def evE (env : Env) : Opd → AV
  | .t n => look env.l n
  | .c d => .val d

/-- The temporaries stand for what the frame has. -/
def ERel (J : Id → JI) (F : Nat → Prop) (w : World) (env : Env) (tmps : Array Value) : Prop :=
  env.n = tmps.size ∧ (∀ t v, tmps[t]? = some v → VRel J F w (look env.l t) v) ∧ ∀ t, env.n ≤ t → look env.l t = .junk

section
variable {P : Program} {J : Id → JI} {F : Nat → Prop} {w : World} {env : Env} {a : Act}

theorem ERel.ev (h : ERel J F w env a.tmps) {x : Operand} {y : Opd} (hc : cOpd x = some y) : VRel J F w (evE env y) (a.eval x) := by
  cases x with
  | tmp t =>
    simp only [cOpd, Option.some.injEq] at hc
    subst hc
    simp only [evE, Act.eval]
    by_cases ht : t < a.tmps.size
    · have h2 : a.tmps[t]? = some a.tmps[t] := Array.getElem?_eq_getElem ht
      have := h.2.1 t _ h2
      simpa [Array.getD, ht] using this
    · rw [h.2.2 t (h.1 ▸ Nat.le_of_not_lt ht)]
      exact .junk _
  | const v =>
    simp only [cOpd, Option.map_eq_some_iff] at hc
    obtain ⟨d, hd, rfl⟩ := hc
    exact .val _ _ (lit_rep hd)
  | func f =>
    simp only [cOpd, Option.some.injEq] at hc
    subst hc
    have := VRel.val (J := J) (F := F) (w := w) _ _ (Rep.fn f [] [] rfl (by simp))
    exact this
  | global g => simp [cOpd] at hc

/-- Operands stand for what the frame has. -/
def ORel (J : Id → JI) (F : Nat → Prop) (w : World) (ρ : Opd → AV) (a : Act) : Prop := (∀ x y, cOpd x = some y → VRel J F w (ρ y) (a.eval x)) ∧ ∀ d, ρ (.c d) = .val d

theorem ORel.ev {ρ : Opd → AV} (h : ORel J F w ρ a) {x : Operand} {y : Opd} (hc : cOpd x = some y) : VRel J F w (ρ y) (a.eval x) := h.1 x y hc

/-! ### Inversion -/
theorem VRel.inv_val {d : DV} {v : Value} (h : VRel J F w (.val d) v) : Rep F w d v := by cases h; assumption
theorem VRel.int {k : IntKind} {n : Int} {v : Value} (h : VRel J F w (.val (.int k n)) v) : v = .int k n := by cases h.inv_val; rfl
theorem VRel.bool {b : Bool} {v : Value} (h : VRel J F w (.val (.bool b)) v) : v = .bool b := by cases h.inv_val; rfl
theorem VRel.str {s : ByteArray} {v : Value} (h : VRel J F w (.val (.str s)) v) : v = .string s := by cases h.inv_val; rfl

theorem VRel.num {x : AV} {n : Int} {v : Value} (h : VRel J F w x v) (hn : x.num = some n) : ∃ k, v = .int k n := by
  unfold AV.num at hn
  split at hn
  · cases hn; exact ⟨_, h.int⟩
  · cases hn

end
end Go.AI
