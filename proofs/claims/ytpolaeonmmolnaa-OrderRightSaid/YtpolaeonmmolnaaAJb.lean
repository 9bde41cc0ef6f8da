/- A law's arguments, all of them; what a law's call comes to. -/
import Derived.Test.YtpolaeonmmolnaaAJa
import Derived.RowKit
namespace Go.AI
set_option linter.unusedVariables false
set_option linter.unusedSimpArgs false
open Go.RowKit

def HasArg : Sh → DV → Prop
  | .nil, d => ∃ cs, d = .agg cs ∧ HasSh .nil cs
  | .cons a b, d => ∃ cs, d = .agg cs ∧ HasSh (.cons a b) cs
  | s, d => HasSh s [d]

def HasArgs : List Sh → List DV → Prop
  | [], [] => True
  | s :: l, d :: m => HasArg s d ∧ HasArgs l m
  | _, _ => False

def shapes (P : Program) (k : Nat) : List TypeId → Option (List Sh)
  | [] => some []
  | t :: l => match shape P k t, shapes P k l with
    | some s, some m => some (s :: m)
    | _, _ => none

section
variable {H : Type} {enc : TypeId × Value → H} {P : Program} {W W' : World}

theorem open_agg {k : Nat} {t : TypeId} {s : Sh} {v : Value} {d : DataW H} {ps : List MemPlace} {spare : Nat → Bool} {held : Bool} {cs : Array Value} (hv : v = .agg cs) (hs : shape P k t = some s) (h : DataW.Trod enc P W 0 spare held t v d ps) :
    ∃ ds, Rep (Old W) W (.agg ds) v ∧ HasSh s ds := by
  obtain ⟨fuel, h⟩ := h
  subst hv
  obtain ⟨ds, h1, _, h3⟩ := open_cells k fuel t _ _ s h hs
  refine ⟨ds, ?_, h3⟩
  have := Rep.agg (F := Old W) (w := W) ds cs.toList (by simpa [Value.cells] using h1.1) (by simpa [Value.cells] using h1.2)
  simpa using this

theorem open_cell {k : Nat} {t : TypeId} {s : Sh} {v : Value} {d : DataW H} {ps : List MemPlace} {spare : Nat → Bool} {held : Bool} (hv : v.cells.toList = [v]) (hs : shape P k t = some s) (h1s : s.size = 1) (h : DataW.Trod enc P W 0 spare held t v d ps) :
    ∃ d, Rep (Old W) W d v ∧ HasSh s [d] := by
  obtain ⟨fuel, h⟩ := h
  obtain ⟨ds, h1, h2, h3⟩ := open_cells k fuel t _ _ s h hs
  rw [hv] at h1
  rw [h1s] at h2
  match ds, h2 with
  | [x], _ => exact ⟨x, h1.2 0 x v rfl rfl, h3⟩

theorem open_arg {k : Nat} {t : TypeId} {s : Sh} {v : Value} {d : DataW H} {ps : List MemPlace} {spare : Nat → Bool} {held : Bool} {r : Reach} {base : Nat} (hs : shape P k t = some s) (hval : Value.okWide P W r base t v) (h : DataW.Trod enc P W 0 spare held t v d ps) :
    ∃ x, Rep (Old W) W x v ∧ HasArg s x := by
  cases k with
  | zero => cases hs
  | succ k =>
    have hs0 := hs
    unfold shape at hs
    have one : ∀ {s : Sh}, s.size = 1 → v.cells.toList = [v] → shape P (k + 1) t = some s → (∀ x, HasSh s [x] → HasArg s x) → ∃ x, Rep (Old W) W x v ∧ HasArg s x := by
      intro s h1 hv hs hh
      obtain ⟨x, hx, hx'⟩ := open_cell hv hs h1 h
      exact ⟨x, hx, hh x hx'⟩
    have agg : ∀ {s : Sh}, (∃ cs, v = .agg cs) → shape P (k + 1) t = some s → (∀ ds, HasSh s ds → HasArg s (.agg ds)) → ∃ x, Rep (Old W) W x v ∧ HasArg s x := by
      rintro s ⟨cs, hv⟩ hs hh
      obtain ⟨ds, hx, hx'⟩ := open_agg hv hs h
      exact ⟨_, hx, hh ds hx'⟩
    split at hs
    · rename_i ht
      cases hs
      obtain ⟨b, rfl⟩ := WideShapes.okWide_bool ht hval
      exact one rfl rfl hs0 (fun _ h => h)
    · rename_i q ht
      cases hs
      obtain ⟨b, rfl⟩ := WideShapes.okWide_int ht hval
      exact one rfl rfl hs0 (fun _ h => h)
    · rename_i ht
      cases hs
      obtain ⟨b, rfl⟩ := WideShapes.okWide_string ht hval
      exact one rfl rfl hs0 (fun _ h => h)
    · rename_i e ht
      split at hs
      · split at hs
        · cases hs
          obtain ⟨b, rfl⟩ := WideShapes.okWide_pointer ht hval
          exact one rfl rfl hs0 (fun _ h => h)
        · cases hs
      · cases hs
    · rename_i e ht
      split at hs
      · split at hs
        · cases hs
          obtain ⟨a, l, c, rfl⟩ := WideShapes.okWide_slice ht hval
          exact one rfl rfl hs0 (fun _ h => h)
        · cases hs
      · cases hs
    · rename_i fs ht
      have hv : ∃ cs, v = .agg cs := by
        unfold Value.okWide at hval
        rw [ht] at hval
        obtain ⟨cs, h, _⟩ := hval
        exact ⟨cs, h⟩
      split at hs
      · rename_i s' hs'
        split at hs
        · cases hs
          refine agg hv hs0 (fun ds hd => ?_)
          generalize fs.toList = fl at hs'
          cases fl with
          | nil => cases hs'; exact ⟨ds, rfl, hd⟩
          | cons f fl =>
            simp only [fieldSh] at hs'
            split at hs'
            · split at hs'
              · cases hs'; exact ⟨ds, rfl, hd⟩
              · cases hs'
            · cases hs'
        · cases hs
      · cases hs
    · rename_i n e ht
      have hv : ∃ cs, v = .agg cs := by
        unfold Value.okWide at hval
        rw [ht] at hval
        obtain ⟨cs, h, _⟩ := hval
        exact ⟨cs, h⟩
      split at hs
      · rename_i s' hs'
        split at hs
        · cases hs
          refine agg hv hs0 (fun ds hd => ?_)
          cases n with
          | zero => exact ⟨ds, rfl, hd⟩
          | succ n => exact ⟨ds, rfl, hd⟩
        · cases hs
      · cases hs
    · cases hs

theorem open_args {k : Nat} {spare : Nat → Bool} {held : Bool} {r : Reach} {base : Nat} : ∀ {ts : List TypeId} {vs : List Value} {ds : List (DataW H)} {p : List MemPlace} {shs : List Sh}, DataW.TrodAll enc P W 0 spare held ts vs ds p → shapes P k ts = some shs →
    (∀ (j : Nat) t v, ts[j]? = some t → vs[j]? = some v → Value.okWide P W r base t v) → ∃ dvs, RepL (Old W) W dvs vs ∧ HasArgs shs dvs
  | [], vs, ds, p, shs, h, hs, _ => by
    obtain ⟨rfl, rfl, rfl⟩ := ChangeShapes.trodAll_nil h
    cases hs
    exact ⟨[], ⟨rfl, by simp⟩, trivial⟩
  | t :: ts, vs, ds, p, shs, h, hs, hval => by
    obtain ⟨v, vs', d, ds', p', q', rfl, rfl, rfl, h0, hr⟩ := ChangeShapes.trodAll_cons h
    simp only [shapes] at hs
    split at hs
    · rename_i s m h1 h2
      cases hs
      obtain ⟨x, hx, hx'⟩ := open_arg h1 (hval 0 t v rfl rfl) h0
      obtain ⟨xs, hxs, hxs'⟩ := open_args hr h2 (fun j t v q1 q2 => hval (j + 1) t v (by simpa using q1) (by simpa using q2))
      refine ⟨x :: xs, ?_, hx', hxs'⟩
      have := (RepL.one hx).append hxs
      simpa using this
    · cases hs

theorem keep_args (hl : laidOutB P = true) : ∀ {ts : List TypeId} {vs : List Value} {ds : List (DataW H)} {p : List MemPlace}, (ts.all fun t => P.readableRec t && decide (t < P.types.size)) = true → DataW.TrodAll enc P W 0 (fun _ => true) true ts vs ds p → Below W.heap.size W W' →
    DataW.TrodAll enc P W' 0 (fun b => decide (b < W.heap.size)) true ts vs ds p
  | [], vs, ds, p, _, h, _ => by
    obtain ⟨rfl, rfl, rfl⟩ := ChangeShapes.trodAll_nil h
    exact ChangeShapes.trodAll_mk0
  | t :: ts, vs, ds, p, ht, h, hb => by
    obtain ⟨v, vs', d, ds', p', q', rfl, rfl, rfl, h0, hr⟩ := ChangeShapes.trodAll_cons h
    simp only [List.all_cons, Bool.and_eq_true, decide_eq_true_eq] at ht
    refine trodAll_cons_mk (Below.trod hl ht.1.1 ht.1.2 h0 hb ?_) (keep_args hl (by simpa using ht.2) hr hb)
    obtain ⟨m, hm⟩ := h0
    exact DataW.trod_lt m _ _ _ hm

/-- What is shown of a law. -/
def LawOk (P : Program) (f : FuncId) (shs : List Sh) : Prop :=
  ∀ dvs, HasArgs shs dvs → ∀ (F : Nat → Prop) (w : World) (vs : List Value), RepL F w dvs vs → (∀ g, F g → g < w.heap.size) → Calls P f vs.toArray w fun e w' => e = .returned (.bool true) ∧ Grown w w'

theorem Grown.below {w w' : World} (h : Grown w w') : Below w.heap.size w w' := ⟨h.os, h.tape, h.output, h.size, h.heap⟩

theorem law_of_val {f : FuncId} {spec : List DV → Option DV} (h : ValOk P f spec) {shs : List Sh} (hs : ∀ dvs, HasArgs shs dvs → spec dvs = some (.bool true)) : LawOk P f shs := by
  intro dvs hd F w vs hr hF
  refine (h.2 dvs _ (hs dvs hd) F w vs hr hF).mono ?_
  rintro e w' ⟨v, F', rfl, hv, _, _, hg⟩
  cases hv
  exact ⟨rfl, hg⟩

/-- A law's own body, where nothing else calls it. -/
theorem law_of {C : FuncId → Con} (hC : ConOk P C) {f : FuncId} {af : AFn} (hf : compF P f = some af) {shs : List Sh}
    (h : ∀ dvs, HasArgs shs dvs → wpA C [] (fun _ => False) af.code (retQ fun s => outV s af.res = some (.bool true)) ⟨env0 (dvs.map .val) af.ntmps, mkH []⟩) : LawOk P f shs := by
  have := Classical.propDecidable
  refine law_of_val (spec := fun dvs => if HasArgs shs dvs then some (.bool true) else none) (val_of hC hf ?_) (fun dvs hd => by simp [hd])
  intro ds r hr

  split at hr
  · rename_i hd
    cases hr
    exact h ds hd
  · cases hr

end
end Go.AI
