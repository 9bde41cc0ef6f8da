/- Operations that may change places. -/
import Derived.Test.YtpolaeonmmolnaaAKa
namespace Go.AI
set_option linter.unusedVariables false
set_option linter.unusedSimpArgs false

/-- All that one heap has, another has. -/
def Le (H H' : Hp) : Prop := ∀ id b, H id = some b → H' id = some b

theorem argD_le {H H' : Hp} (h : Le H H') : ∀ (k : Nat), (∀ x r, argD H k x = some r → argD H' k x = some r) ∧ (∀ l r, argDs H k l = some r → argDs H' k l = some r)
  | 0 => ⟨fun _ _ h => by simp [argD] at h, fun _ _ h => by simp [argDs] at h⟩
  | k + 1 => by
    obtain ⟨ih1, ih2⟩ := argD_le h k
    constructor
    · intro x r hr
      cases x <;> simp only [argD, reduceCtorEq] at hr ⊢ <;> try exact hr
      case row id s o n =>
        split at hr
        · rename_i hb; rw [h _ _ hb]; exact hr
        · rename_i hb; rw [h _ _ hb]; exact hr
        · cases hr
      case box id o =>
        split at hr
        · rename_i hb
          rw [h _ _ hb]
          simp only [Option.map_eq_some_iff] at hr ⊢
          obtain ⟨a, ha, hr⟩ := hr
          exact ⟨a, ih2 _ _ ha, hr⟩
        · rename_i hb; rw [h _ _ hb]; exact hr
        · cases hr
      case elt id i o =>
        split at hr
        · rename_i hb; rw [h _ _ hb]; exact hr
        · rename_i hb; rw [h _ _ hb]; exact hr
        · cases hr
      case agg l =>
        simp only [Option.map_eq_some_iff] at hr ⊢
        obtain ⟨a, ha, hr⟩ := hr
        exact ⟨a, ih2 _ _ ha, hr⟩
      case clo f l =>
        simp only [Option.map_eq_some_iff] at hr ⊢
        obtain ⟨a, ha, hr⟩ := hr
        exact ⟨a, ih2 _ _ ha, hr⟩
    · intro l r hr
      cases l with
      | nil => exact hr
      | cons x l =>
        simp only [argDs] at hr ⊢
        split at hr
        · rename_i h1 h2
          rw [ih1 _ _ h1, ih2 _ _ h2]
          exact hr
        · cases hr

theorem elems_le {H H' : Hp} (h : Le H H') {s : Nat} {x : AV} {r : List (List DV)} (hr : elems H s x = some r) : elems H' s x = some r := by
  unfold elems at hr ⊢
  split at hr <;> try exact hr
  split at hr
  · rename_i hs
    rw [if_pos hs]
    split at hr
    · rename_i hb; rw [h _ _ hb]; exact hr
    · rename_i hb; rw [h _ _ hb]; exact hr
    · cases hr
  · cases hr

theorem loadA_le {H H' : Hp} (h : Le H H') {n : Nat} {agg : Bool} {x y : AV} (hr : loadA H n agg x = some y) : loadA H' n agg x = some y := by
  unfold loadA at hr ⊢
  split at hr <;> try exact hr
  · split at hr
    · rename_i hb; rw [h _ _ hb]; exact hr
    · rename_i hb; rw [h _ _ hb]; exact hr
    · cases hr
  · split at hr
    · rename_i hb; rw [h _ _ hb]; exact hr
    · rename_i hb; rw [h _ _ hb]; exact hr
    · cases hr

/-- Calls that answer what names no memory. -/
def flatC (C : FuncId → Con) : FuncId → Con := fun f => match C f with
  | .val spec => .val fun ds => match spec ds with
    | some r => if r.flat = true then some r else none
    | none => none
  | _ => .none

theorem flatC_ok {P : Program} {C : FuncId → Con} (h : ConOk P C) : ConOk P (flatC C) := by
  intro f
  have hf := h f
  unfold flatC
  cases hq : C f with
  | val spec =>
    rw [hq] at hf
    refine ⟨hf.1, fun ds r hr => hf.2 ds r ?_⟩
    dsimp only at hr
    split at hr
    · split at hr
      · cases hr; assumption
      · cases hr
    · cases hr
  | _ => trivial

theorem semC_flat {C : FuncId → Con} {H H' : Hp} {id : Id} {f : FuncId} {args : List AV} {x : AV} {H1 : Hp} (h : semC (flatC C) H id f args = some (x, H1)) : H1 = H ∧ (Le H H' → semC (flatC C) H' id f args = some (x, H')) := by
  unfold semC at h ⊢
  unfold flatC at h ⊢
  cases hq : C f with
  | val spec =>
    rw [hq] at h
    simp only [callD] at h ⊢
    cases ha : argDs H 99 args with
    | none => rw [ha] at h; cases h
    | some p =>
      obtain ⟨ds, ids⟩ := p
      rw [ha] at h
      simp only at h
      cases hs : spec ds with
      | none => rw [hs] at h; cases h
      | some r =>
        rw [hs] at h
        simp only at h
        by_cases hf : r.flat = true
        · simp only [hf, if_true, fix, Option.map_some, Option.some.injEq, Prod.mk.injEq] at h
          refine ⟨h.2.symm, fun hle => ?_⟩
          rw [(argD_le hle 99).2 _ _ ha]
          simp only [hs, hf, if_true, fix, Option.map_some, h.1]
        · simp only [hf] at h
          cases h
  | none => rw [hq] at h; cases h
  | fresh s spec => rw [hq] at h; cases h
  | shared spec => rw [hq] at h; cases h

/-- Kinds of operations: what only computes; what reads; what makes a variable; the others. -/
def cls : AOp → Nat
  | .p _ => 0
  | .r _ => 1
  | .a (.alloc _) => 2
  | .a (.bx _) => 2
  | .a (.bsl ..) => 4
  | _ => 3

end Go.AI
