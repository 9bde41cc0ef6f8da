/- Out of which of the model's operations an abstract one is made, and that it yields what they yield: what only computes. -/
import Derived.Test.YtpolaeonmmolnaaAId
import Derived.Laws.Tables
namespace Go.AI
set_option linter.unusedVariables false
set_option linter.unusedSimpArgs false

/-- An operand, at a type that a nil slice is of. -/
def cOpdT (P : Program) (t : TypeId) (x : Operand) : Option Opd :=
  match cOpd x with
  | some (.c (.nils _)) => match P.underlying t with
    | some (.slice e) => some (.c (.nils (P.cellsOf e)))
    | _ => some (.c (.nils 0))
  | y => y

def cParts (P : Program) (place : Nat → Option (Nat × Nat)) : List (Nat × Operand) → Option (List (Nat × Nat × Opd))
  | [] => some []
  | (i, x) :: l => match place i, cOpd x, cParts P place l with
    | some (o, n), some y, some m => some ((o, n, y) :: m)
    | _, _, _ => none

/-- The zero value's cells of a type. -/
def zeros (P : Program) (t : TypeId) : Option (List DV) :=
  match P.info? t with
  | some i => match i.zero with
    | some z => lits z.cells.toList
    | none => none
  | none => none

def compP (P : Program) (o : Oper) : Option POp :=
  match o.op with
  | .move x | .assign x => (cOpdT P o.type x).map .mv
  | .pick c a b => match cOpd c, cOpd a, cOpd b with
    | some c, some a, some b => some (.pick c a b)
    | _, _, _ => none
  | .binOp op t x y _ => match cOpd x, cOpd y with
    | some x', some y' => match P.underlying t with
      | some (.int _) => some (.bin op x' y')
      | some .string => some (.bin op x' y')
      | some .bool => (match op with | .eql => some (.eqb false x' y') | .neq => some (.eqb true x' y') | _ => none)
      | some (.struct _) => if P.eqGuardType P.depth t then none else (match kinds P 20 t, op with | some l, .eql => some (.eqs l false x' y') | some l, .neq => some (.eqs l true x' y') | _, _ => none)
      | some (.array _ _) => if P.eqGuardType P.depth t then none else (match kinds P 20 t, op with | some l, .eql => some (.eqs l false x' y') | some l, .neq => some (.eqs l true x' y') | _, _ => none)
      | some (.pointer _) => (match y', op with | .c .nilp, .eql => some (.eqn false x') | .c .nilp, .neq => some (.eqn true x') | _, _ => none)
      | _ => none
    | _, _ => none
  | .unOp op _ x => (cOpd x).map (.un op)
  | .convert src dst x => match cOpd x, P.underlying src, P.underlying dst with
    | some x', some (.int _), some (.int k) => some (.conv k x')
    | _, _, _ => none
  | .build t ps => match zeros P t, P.underlying t with
    | some z, some (.struct fs) => match fs.toList.mapM (fun f => (P.info? f.type).map fun i => (f.offset, i.size)) with
      | some places => (cParts P (fun i => places[i]?) ps.toList).map (.build z)
      | none => none
    | some z, some (.array _ e) => if (P.info? e).isNone then none else (cParts P (fun i => some (i * P.cellsOf e, P.cellsOf e)) ps.toList).map (.build z)
    | _, _ => none
  | .field t x f => match cOpd x, P.underlying t with
    | some x', some (.struct fs) => match fs[f]? with
      | some fd => match P.underlying fd.type with
        | some _ => some (.field fd.offset (P.cellsOf fd.type) (isAggB P fd.type) x')
        | none => none
      | none => none
    | _, _ => none
  | .index t x i => match cOpd x, cOpd i, P.underlying t with
    | some x', some i', some .string => some (.idxS x' i')
    | some x', some i', some (.array n e) => match P.underlying e with
      | some _ => some (.idxA n (P.cellsOf e) (isAggB P e) x' i')
      | none => none
    | _, _, _ => none
  | .slice t x lo hi mx => match cOpd x, cOpt lo, cOpt hi, cOpt mx, P.underlying t with
    | some x', some lo', some hi', some mx', some (.slice e) => if mx'.isSome ∧ hi'.isNone then none else (match P.info? e with | some _ => some (.slice (P.cellsOf e) x' lo' hi' mx') | none => none)
    | some x', some lo', some hi', some none, some .string => some (.slS x' lo' hi')
    | _, _, _, _, _ => none
  | .fieldAddr t x f => match cOpd x, P.underlying t with
    | some x', some (.struct fs) => match fs[f]? with
      | some fd => if P.cellsOf fd.type = 0 then none else some (.foff fd.offset x')
      | none => none
    | _, _ => none
  | .indexAddr t x i => match cOpd x, cOpd i, P.underlying t with
    | some x', some i', some (.array n e) => match P.info? e with
      | some _ => some (.aoff n (P.cellsOf e) x' i')
      | none => none
    | some x', some i', some (.slice e) => match P.info? e with
      | some _ => some (.soff (P.cellsOf e) x' i')
      | none => none
    | _, _, _ => none
  | .nilCheck x => (cOpd x).map .chk
  | .extract x i => (cOpd x).map fun x' => .ext x' i
  | .makeFunc (.func f) first caps => if first.isEmpty then (cOpds caps.toList).map (.mkf f) else none
  | .call { callee := .builtin .len, args, argTypes } => match args.toList, argTypes.toList with
    | [x], [t] => match cOpd x, P.underlying t with
      | some x', some .string => some (.lenS x')
      | some x', some (.slice _) => some (.len x')
      | some _, some (.array n _) => some (.lenc n)
      | _, _ => none
    | _, _ => none
  | .call { callee := .builtin .min, args, .. } => match cOpds args.toList with
    | some (x :: l) => some (.mnx false x l)
    | _ => none
  | .call { callee := .builtin .max, args, .. } => match cOpds args.toList with
    | some (x :: l) => some (.mnx true x l)
    | _ => none
  | _ => none

section
variable {P : Program} {J : Id → JI} {F : Nat → Prop} {w : World} {ρ : Opd → AV} {ρp : Bool → Opd → AV} {a : Act}

theorem cOpdT_of {t : TypeId} {x : Operand} {y : Opd} (h : cOpdT P t x = some y) (hr : ORel J F w ρ a) : VRel J F w (ρ y) (a.eval x) := by
  unfold cOpdT at h
  split at h
  · rename_i s hx
    have hx' := hr.ev hx
    have : ∃ p, a.eval x = .slice p 0 0 := by
      rw [hr.2] at hx'
      have hx' := hx'.inv_val
      generalize a.eval x = u at hx'
      cases hx'
      exact ⟨_, rfl⟩
    obtain ⟨p, hp⟩ := this
    rw [hp]
    split at h
    · cases h; rw [hr.2]; exact .val _ _ (.nils _ _)
    · cases h; rw [hr.2]; exact .val _ _ (.nils _ _)
  · rename_i hx
    exact hr.ev h

theorem cOpds_rel (hr : ORel J F w ρ a) : ∀ {xs : List Operand} {ys : List Opd}, cOpds xs = some ys → ys.length = xs.length ∧ ∀ (j : Nat) x y, xs[j]? = some x → ys[j]? = some y → VRel J F w (ρ y) (a.eval x)
  | [], ys, h => by simp [cOpds] at h; subst h; simp
  | x :: xs, ys, h => by
    simp only [cOpds] at h
    split at h
    · cases h
      rename_i y m h1 h2
      obtain ⟨hl, hm⟩ := cOpds_rel hr h2
      refine ⟨by simp [hl], ?_⟩
      intro j u v hu hv
      cases j with
      | zero => simp at hu hv; subst hu; subst hv; exact hr.ev h1
      | succ j => simp at hu hv; exact hm j u v hu hv
    · cases h

/-! ### Cells -/
theorem VRel.toAgg {l : List AV} {v : Value} (h : VRel J F w (.agg l) v) : ∃ vs : List Value, v = .agg vs.toArray ∧ vs.length = l.length ∧ ∀ (j : Nat) x u, l[j]? = some x → vs[j]? = some u → VRel J F w x u := by
  cases h with
  | agg _ vs hl h => exact ⟨vs, rfl, hl, h⟩

theorem Rep.toAgg {l : List DV} {v : Value} (h : Rep F w (.agg l) v) : ∃ vs : List Value, v = .agg vs.toArray ∧ vs.length = l.length ∧ ∀ (j : Nat) x u, l[j]? = some x → vs[j]? = some u → Rep F w x u := by
  cases h with
  | agg _ vs hl h => exact ⟨vs, rfl, hl, h⟩

/-- What a value's cells are. -/
theorem VRel.cells {x : AV} {v : Value} {l : List AV} (h : VRel J F w x v) (hc : x.cells = some l) : v.cells.toList.length = l.length ∧ ∀ (j : Nat) y u, l[j]? = some y → v.cells.toList[j]? = some u → VRel J F w y u := by
  have single : ∀ z : AV, l = [z] → VRel J F w z v → v.cells = #[v] → v.cells.toList.length = l.length ∧ ∀ (j : Nat) y u, l[j]? = some y → v.cells.toList[j]? = some u → VRel J F w y u := by
    intro z hz hv hcs
    subst hz
    rw [hcs]
    refine ⟨rfl, ?_⟩
    intro j y u h1 h2
    cases j with
    | zero => simp at h1 h2; subst h1; subst h2; exact hv
    | succ j => simp at h1
  cases h with
  | val d _ h =>
    cases d with
    | agg ds =>
      simp only [AV.cells, Option.some.injEq] at hc
      subst hc
      obtain ⟨vs, rfl, hl, hv⟩ := h.toAgg
      simp only [Value.cells]
      refine ⟨by simpa using hl, ?_⟩
      intro j y u h1 h2
      rw [List.getElem?_map] at h1
      cases hd : ds[j]? with
      | none => rw [hd] at h1; simp at h1
      | some d => rw [hd] at h1; simp at h1; subst h1; exact .val _ _ (hv j d u hd (by simpa using h2))
    | tup _ => simp [AV.cells] at hc
    | _ =>
      simp only [AV.cells, Option.some.injEq] at hc
      exact single _ hc.symm (.val _ _ h) (by cases h <;> rfl)
  | box id o g own s cap h => simp only [AV.cells, Option.some.injEq] at hc; exact single _ hc.symm (.box _ _ _ _ _ _ h) rfl
  | elt id i o g own s cap h => simp only [AV.cells, Option.some.injEq] at hc; exact single _ hc.symm (.elt _ _ _ _ _ _ _ h) rfl
  | row id o len g own s cap h h' => simp only [AV.cells, Option.some.injEq] at hc; exact single _ hc.symm (.row _ _ _ _ _ _ _ h h') rfl
  | rowNil id own s cap p h => simp only [AV.cells, Option.some.injEq] at hc; exact single _ hc.symm (.rowNil _ _ _ _ _ h) rfl
  | rowEnd id o g own s cap h ho p c => simp only [AV.cells, Option.some.injEq] at hc; exact single _ hc.symm (.rowEnd _ _ _ _ _ _ h ho _ _) rfl
  | clo f caps vs hl h => simp only [AV.cells, Option.some.injEq] at hc; exact single _ hc.symm (.clo _ _ _ hl h) rfl
  | agg m vs hl h =>
    simp only [AV.cells, Option.some.injEq] at hc
    subst hc
    simp only [Value.cells]
    exact ⟨by simpa using hl, fun j y u h1 h2 => h j y u h1 (by simpa using h2)⟩
  | boxDead id o p h => simp only [AV.cells, Option.some.injEq] at hc; exact single _ hc.symm (.boxDead _ _ _ h) rfl
  | eltDead id i o p h => simp only [AV.cells, Option.some.injEq] at hc; exact single _ hc.symm (.eltDead _ _ _ _ h) rfl
  | rowDead id s o len p c h hle hp => simp only [AV.cells, Option.some.injEq] at hc; exact single _ hc.symm (.rowDead _ _ _ _ _ _ h hle hp) rfl
  | tup _ _ _ _ => simp [AV.cells] at hc
  | may _ _ _ _ _ => simp [AV.cells] at hc
  | junk _ => simp [AV.cells] at hc
end
end Go.AI
