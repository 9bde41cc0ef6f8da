/- An abstract reading of Go code, and of code as functions of data with a kind: part LC of the library. -/
import Derived.Test.YtbcffodjbbcdhaaLB
import Derived.Orders
import Derived.ChangeOld
import Derived.Carry
import Derived.OpenShut
import Derived.RowKit
import Derived.Laws.BitsAllLaws
import Derived.Laws.Runes
set_option linter.unusedVariables false
set_option linter.unusedSimpArgs false
namespace Go.AI

def optL : Option Opd → List Opd
  | some x => [x]
  | none => []

def opdsP : POp → List Opd
  | .mv x => [x]
  | .pick c a b => [c, a, b]
  | .bin _ x y => [x, y]
  | .eqs _ _ x y => [x, y]
  | .eqb _ x y => [x, y]
  | .eqn _ x => [x]
  | .un _ x => [x]
  | .conv _ x => [x]
  | .build _ ps => ps.map fun p => p.2.2
  | .field _ _ _ x => [x]
  | .idxS x i => [x, i]
  | .idxA _ _ _ x i => [x, i]
  | .slS x lo hi => x :: (optL lo ++ optL hi)
  | .foff _ x => [x]
  | .aoff _ _ x i => [x, i]
  | .soff _ x i => [x, i]
  | .slice _ x lo hi mx => x :: (optL lo ++ (optL hi ++ optL mx))
  | .chk x => [x]
  | .ext x _ => [x]
  | .len x => [x]
  | .lenS x => [x]
  | .lenc _ => []
  | .mnx _ x l => x :: l
  | .mkf _ l => l
  | .s2a _ x => [x]

def opdsR : ROp → List Opd
  | .load _ _ x => [x]
  | .b2s x => [x]
  | .s2b x => [x]
  | .sla _ x lo hi => x :: (optL lo ++ optL hi)
  | .call _ l => l
  | .callv x l => x :: l

def opdsA : AlOp → List Opd
  | .alloc _ => []
  | .bx x => [x]
  | .bsl _ _ _ ps => ps.map fun p => p.2
  | .bsf _ _ _ ps => ps.map fun p => p.2
  | .mks _ _ _ l c => [l, c]

def opdsW : WOp → List Opd
  | .store _ x v => [x, v]
  | .app _ _ _ x y => [x, y]
  | .cpy _ x y => [x, y]
  | .s2s x => [x]

def opds : AOp → List Opd
  | .p o => opdsP o
  | .r o => opdsR o
  | .a o => opdsA o
  | .w o => opdsW o

section
variable {ρ ρ' : Opd → AV} {ρp ρp' : Bool → Opd → AV}

theorem map_same {l : List Opd} (h : ∀ x ∈ l, ρ x = ρ' x) : l.map ρ = l.map ρ' := List.map_congr_left h

theorem parts_same : ∀ (ps : List (Nat × Nat × Opd)) (cs : List AV), (∀ x ∈ ps.map (fun p => p.2.2), ρ x = ρ' x) → parts ρ cs ps = parts ρ' cs ps
  | [], _, _ => rfl
  | (o, n, x) :: l, cs, h => by
    simp only [parts]
    rw [h x (by simp)]
    split
    · split
      · exact parts_same l _ (fun y hy => h y (by simp at hy ⊢; exact .inr hy))
      · rfl
    · rfl

theorem optNum_same {d : Int} {x : Option Opd} (h : ∀ y ∈ optL x, ρ y = ρ' y) : optNum ρ d x = optNum ρ' d x := by
  cases x with
  | none => rfl
  | some y => simp only [optNum]; rw [h y (by simp [optL])]

theorem bounds_same {n : Nat} {lo hi mx : Option Opd} (h1 : ∀ y ∈ optL lo, ρ y = ρ' y) (h2 : ∀ y ∈ optL hi, ρ y = ρ' y) (h3 : ∀ y ∈ optL mx, ρ y = ρ' y) : bounds n ρ lo hi mx = bounds n ρ' lo hi mx := by
  unfold bounds
  rw [optNum_same h1, optNum_same h2, optNum_same h3]

theorem semP_same (o : POp) (h : ∀ x ∈ opdsP o, ρ x = ρ' x) (hp : ∀ t, ∀ x ∈ opdsP o, ρp t x = ρp' t x) : semP ρ ρp o = semP ρ' ρp' o := by
  cases o with
  | pick c a b =>
    simp only [semP]
    rw [h c (by simp [opdsP])]
    split
    · rename_i t _
      rw [hp t a (by simp [opdsP]), hp (!t) b (by simp [opdsP])]
    · rfl
  | build z ps => simp only [semP]; rw [parts_same ps _ h]
  | slS x lo hi =>
    simp only [semP]
    rw [h x (by simp [opdsP])]
    split
    · rw [bounds_same (ρ := ρ) (ρ' := ρ') (fun y hy => h y (by simp [opdsP, hy])) (fun y hy => h y (by simp [opdsP, hy])) (by simp [optL])]
    · rfl
  | slice s x lo hi mx =>
    have hb : ∀ n, bounds n ρ lo hi mx = bounds n ρ' lo hi mx := fun n => bounds_same (fun y hy => h y (by simp [opdsP, hy])) (fun y hy => h y (by simp [opdsP, hy])) (fun y hy => h y (by simp [opdsP, hy]))
    have hb' : ∀ n, bounds n ρ lo hi none = bounds n ρ' lo hi none := fun n => bounds_same (fun y hy => h y (by simp [opdsP, hy])) (fun y hy => h y (by simp [opdsP, hy])) (by simp [optL])
    simp only [semP]
    rw [h x (by simp [opdsP])]
    simp only [hb, hb']
  | mnx g x l =>
    simp only [semP]
    rw [h x (by simp [opdsP]), map_same (ρ := ρ) (ρ' := ρ') (fun y hy => h y (by simp [opdsP, hy]))]
  | mkf f l => simp only [semP]; rw [map_same (l := l) h]
  | s2a n x => simp only [semP]; rw [h x (by simp [opdsP])]
  | lenc n => rfl
  | mv x => simp only [semP]; rw [h x (by simp [opdsP])]
  | un op x => simp only [semP]; rw [h x (by simp [opdsP])]
  | eqn n x => simp only [semP]; rw [h x (by simp [opdsP])]
  | conv k x => simp only [semP]; rw [h x (by simp [opdsP])]
  | field o n a x => simp only [semP]; rw [h x (by simp [opdsP])]
  | foff o x => simp only [semP]; rw [h x (by simp [opdsP])]
  | chk x => simp only [semP]; rw [h x (by simp [opdsP])]
  | ext x i => simp only [semP]; rw [h x (by simp [opdsP])]
  | len x => simp only [semP]; rw [h x (by simp [opdsP])]
  | lenS x => simp only [semP]; rw [h x (by simp [opdsP])]
  | bin op x y => simp only [semP]; rw [h x (by simp [opdsP]), h y (by simp [opdsP])]
  | eqs k n x y => simp only [semP]; rw [h x (by simp [opdsP]), h y (by simp [opdsP])]
  | eqb n x y => simp only [semP]; rw [h x (by simp [opdsP]), h y (by simp [opdsP])]
  | idxS x y => simp only [semP]; rw [h x (by simp [opdsP]), h y (by simp [opdsP])]
  | idxA l s a x y => simp only [semP]; rw [h x (by simp [opdsP]), h y (by simp [opdsP])]
  | aoff l s x y => simp only [semP]; rw [h x (by simp [opdsP]), h y (by simp [opdsP])]
  | soff s x y => simp only [semP]; rw [h x (by simp [opdsP]), h y (by simp [opdsP])]

theorem sets_same {H : Hp} {s : Nat} : ∀ (ps : List (Nat × Opd)) (es : List (List DV)), (∀ x ∈ ps.map (fun p => p.2), ρ x = ρ' x) → setParts H ρ s es ps = setParts H ρ' s es ps
  | [], _, _ => rfl
  | (i, x) :: l, es, h => by
    have ih := fun es => sets_same (H := H) (s := s) l es (fun y hy => h y (by simp at hy ⊢; exact .inr hy))
    simp only [setParts]
    rw [h x (by simp)]
    simp only [ih]

theorem setsA_same {s : Nat} : ∀ (ps : List (Nat × Opd)) (es : List (List AV)), (∀ x ∈ ps.map (fun p => p.2), ρ x = ρ' x) → setPartsA ρ s es ps = setPartsA ρ' s es ps
  | [], _, _ => rfl
  | (i, x) :: l, es, h => by
    have ih := fun es => setsA_same (s := s) l es (fun y hy => h y (by simp at hy ⊢; exact .inr hy))
    simp only [setPartsA]
    rw [h x (by simp)]
    simp only [ih]

theorem semE_same {C : FuncId → Con} {H : Hp} {ns id : Id} (o : AOp) (h : ∀ x ∈ opds o, ρ x = ρ' x) (hp : ∀ t, ∀ x ∈ opds o, ρp t x = ρp' t x) : semE C H ρ ρp ns id o = semE C H ρ' ρp' ns id o := by
  cases o with
  | p o => simp only [semE]; rw [semP_same o h hp]
  | r o =>
    cases o with
    | load n a x => simp only [semE, semR]; rw [h x (by simp [opds, opdsR])]
    | b2s x => simp only [semE, semR]; rw [h x (by simp [opds, opdsR])]
    | s2b x => simp only [semE, semR]; rw [h x (by simp [opds, opdsR])]
    | sla n x lo hi =>
      simp only [semE, semR]
      rw [h x (by simp [opds, opdsR]), bounds_same (ρ := ρ) (ρ' := ρ') (fun y hy => h y (by simp [opds, opdsR, hy])) (fun y hy => h y (by simp [opds, opdsR, hy])) (by simp [optL])]
    | call f l => simp only [semE]; rw [map_same (l := l) h]
    | callv x l => simp only [semE]; rw [h x (by simp [opds, opdsR]), map_same (l := l) (fun y hy => h y (by simp [opds, opdsR, hy]))]
  | a o =>
    cases o with
    | alloc z => rfl
    | bx x => simp only [semE, semA]; rw [h x (by simp [opds, opdsA])]
    | bsl s n z ps => simp only [semE, semA]; rw [sets_same (ρ := ρ) (ρ' := ρ') ps _ h]
    | bsf s n z ps => simp only [semE, semA]; rw [setsA_same (ρ := ρ) (ρ' := ρ') ps _ h]
    | mks s b z l c => simp only [semE, semA]; rw [h l (by simp [opds, opdsA]), h c (by simp [opds, opdsA])]
  | w o =>
    cases o with
    | store n x v => simp only [semE, semW]; rw [h x (by simp [opds, opdsW]), h v (by simp [opds, opdsW])]
    | app s b st x y => simp only [semE, semW]; rw [h x (by simp [opds, opdsW]), h y (by simp [opds, opdsW])]
    | cpy s x y => rfl
    | s2s x => simp only [semE, semW]; rw [h x (by simp [opds, opdsW])]

end

/-- What temporaries an operation looks at. -/
def readsI (i : AIns) : List Nat := (opds i.op).filterMap (fun | .t n => some n | .c _ => none) ++ (match i.guard with | some (t, _) => [t] | none => [])

theorem eff_same {C : FuncId → Con} {ns : Id} {s s' : St} {i : AIns} (hH : s.H = s'.H) (h : ∀ t ∈ readsI i, look s.env.l t = look s'.env.l t) : eff C ns s i = eff C ns s' i := by
  have hg : gv s.env i.guard = gv s'.env i.guard := by
    cases hq : i.guard with
    | none => rfl
    | some p =>
      obtain ⟨t, b⟩ := p
      simp only [gv]
      rw [h t (by simp [readsI, hq])]
  have ho : ∀ x ∈ opds i.op, evE s.env x = evE s'.env x := by
    intro x hx
    cases x with
    | t n => exact h n (by simp only [readsI, List.mem_append, List.mem_filterMap]; exact .inl ⟨.t n, hx, rfl⟩)
    | c d => rfl
  unfold eff
  rw [hg]
  split
  · rename_i g _
    unfold effG
    rw [hH]
    rw [semE_same (ρ := fun x => unw g (evE s.env x)) (ρ' := fun x => unw g (evE s'.env x)) (ρp := fun t x => unw (g && t) (evE s.env x)) (ρp' := fun t x => unw (g && t) (evE s'.env x)) i.op (fun x hx => by simp only [ho x hx]) (fun t x hx => by simp only [ho x hx]),
      semE_same (ρ := fun x => unw true (evE s.env x)) (ρ' := fun x => unw true (evE s'.env x)) (ρp := fun t x => unw t (evE s.env x)) (ρp' := fun t x => unw t (evE s'.env x)) i.op (fun x hx => by simp only [ho x hx]) (fun t x hx => by simp only [ho x hx])]
  · rfl

/-- Two states that say the same. -/
structure Eqv (s s' : St) : Prop where
  n : s.env.n = s'.env.n
  look : ∀ t, look s.env.l t = look s'.env.l t
  H : s.H = s'.H

theorem Eqv.refl (s : St) : Eqv s s := ⟨rfl, fun _ => rfl, rfl⟩
theorem Eqv.symm {s s' : St} (h : Eqv s s') : Eqv s' s := ⟨h.n.symm, fun t => (h.look t).symm, h.H.symm⟩
theorem Eqv.trans {s s' s'' : St} (h : Eqv s s') (h' : Eqv s' s'') : Eqv s s'' := ⟨h.n.trans h'.n, fun t => (h.look t).trans (h'.look t), h.H.trans h'.H⟩

theorem look_put (env : Env) (d : Option Nat) (x : AV) (t : Nat) : look (putE env d x).l t = if d = some t ∧ t < env.n then x else look env.l t := by
  cases d with
  | none => simp [putE]
  | some d =>
    simp only [putE]
    split
    · rename_i hd
      simp only [look]
      by_cases e : d = t
      · subst e; simp [hd]
      · simp [e]
    · rename_i hd
      rw [if_neg (by rintro ⟨h1, h2⟩; cases h1; exact hd h2)]

theorem n_put (env : Env) (d : Option Nat) (x : AV) : (putE env d x).n = env.n := by
  cases d with
  | none => rfl
  | some d => simp only [putE]; split <;> rfl

theorem Eqv.put {s s' : St} (h : Eqv s s') (d : Option Nat) (x : AV) (H : Hp) : Eqv ⟨putE s.env d x, H⟩ ⟨putE s'.env d x, H⟩ :=
  ⟨by rw [n_put, n_put]; exact h.n, fun t => by simp only [look_put, h.n, h.look t], rfl⟩

theorem Eqv.step {C : FuncId → Con} {ns : Id} {s s' t : St} {i : AIns} (h : Eqv s s') (hs : step C ns s i = some t) : ∃ t', step C ns s' i = some t' ∧ Eqv t t' := by
  have he' := eff_same (C := C) (ns := ns) (s := s) (s' := s') (i := i) h.H (fun t _ => h.look t)
  unfold AI.step at hs ⊢
  rw [← he']
  cases he : eff C ns s i with
  | none => rw [he] at hs; cases hs
  | some p =>
    obtain ⟨x, H⟩ := p
    rw [he] at hs
    simp only [Option.some.injEq] at hs
    subst hs
    exact ⟨_, rfl, h.put _ _ _⟩

theorem Eqv.run {C : FuncId → Con} {ns : Id} : ∀ {l : List AIns} {s s' t : St}, Eqv s s' → run C ns l s = some t → ∃ t', run C ns l s' = some t' ∧ Eqv t t'
  | [], s, s', t, h, hs => by
    simp only [AI.run, Option.some.injEq] at hs
    subst hs
    exact ⟨s', rfl, h⟩
  | i :: l, s, s', t, h, hs => by
    simp only [AI.run] at hs ⊢
    split at hs
    · rename_i s1 h1
      obtain ⟨s1', h2, h3⟩ := h.step h1
      rw [h2]
      exact Eqv.run h3 hs
    · cases hs

end Go.AI

namespace Go.AI

/-- All that one heap has, another has. -/
def Le (H H' : Hp) : Prop := ∀ id b, H id = some b → H' id = some b

theorem argD_le {H H' : Hp} (h : Le H H') : ∀ (k : Nat), (∀ x r, argD H k x = some r → argD H' k x = some r) ∧ (∀ l r, argDs H k l = some r → argDs H' k l = some r)
  | 0 => ⟨fun _ _ h => by simp [argD] at h, fun _ _ h => by simp [argDs] at h⟩
  | k + 1 => by
    obtain ⟨ih1, ih2⟩ := argD_le h k
    constructor
    · intro x r hr
      cases x <;> simp only [argD, reduceCtorEq] at hr ⊢ <;> try exact hr
      case row id s o n =>
        cases hq : H id with
        | none => rw [hq] at hr; cases hr
        | some c => rw [h _ _ hq]; rw [hq] at hr; exact hr
      case box id o =>
        split at hr
        · rename_i hb
          rw [h _ _ hb]
          simp only [Option.map_eq_some_iff] at hr ⊢
          obtain ⟨a, ha, hr⟩ := hr
          exact ⟨a, ih2 _ _ ha, hr⟩
        · rename_i hb; rw [h _ _ hb]; exact hr
        · cases hr
      case elt id i o =>
        split at hr
        · rename_i hb; rw [h _ _ hb]; exact hr
        · rename_i hb; rw [h _ _ hb]; exact hr
        · cases hr
      case agg l =>
        simp only [Option.map_eq_some_iff] at hr ⊢
        obtain ⟨a, ha, hr⟩ := hr
        exact ⟨a, ih2 _ _ ha, hr⟩
      case clo f l =>
        simp only [Option.map_eq_some_iff] at hr ⊢
        obtain ⟨a, ha, hr⟩ := hr
        exact ⟨a, ih2 _ _ ha, hr⟩
    · intro l r hr
      cases l with
      | nil => exact hr
      | cons x l =>
        simp only [argDs] at hr ⊢
        split at hr
        · rename_i h1 h2
          rw [ih1 _ _ h1, ih2 _ _ h2]
          exact hr
        · cases hr

theorem elems_le {H H' : Hp} (h : Le H H') {s : Nat} {x : AV} {r : List (List DV)} (hr : elems H s x = some r) : elems H' s x = some r := by
  unfold elems at hr ⊢
  split at hr <;> try exact hr
  split at hr
  · rename_i hs
    rw [if_pos hs]
    split at hr
    · rename_i hb; rw [h _ _ hb]; exact hr
    · rename_i hb; rw [h _ _ hb]; exact hr
    · cases hr
  · cases hr

theorem loadA_le {H H' : Hp} (h : Le H H') {n : Nat} {agg : Bool} {x y : AV} (hr : loadA H n agg x = some y) : loadA H' n agg x = some y := by
  unfold loadA at hr ⊢
  split at hr <;> try exact hr
  · split at hr
    · rename_i hb; rw [h _ _ hb]; exact hr
    · rename_i hb; rw [h _ _ hb]; exact hr
    · cases hr
  · split at hr
    · rename_i hb; rw [h _ _ hb]; exact hr
    · rename_i hb; rw [h _ _ hb]; exact hr
    · rename_i hb; rw [h _ _ hb]; exact hr
    · cases hr

/-- Calls that leave all blocks as they are: what they answer names no memory, or they are of data alone. -/
def flatC (C : FuncId → Con) : FuncId → Con := fun f => match C f with
  | .val spec => .shared fun _ args H => match argDs H 99 args with
    | some (ds, ids) => (match spec ds with
      | some r => if (r.flat || ids.isEmpty) = true then some (.val r, H) else none
      | none => none)
    | none => none
  | _ => .none

theorem flatC_val {C : FuncId → Con} {f : FuncId} {spec : List DV → Option DV} (hq : C f = .val spec) {H H1 : Hp} {id : Id} {args : List AV} {x : AV} (h : semC (flatC C) H id f args = some (x, H1)) :
    H1 = H ∧ ∃ ds ids r, argDs H 99 args = some (ds, ids) ∧ spec ds = some r ∧ x = .val r ∧ (r.flat || ids.isEmpty) = true := by
  unfold semC flatC at h
  rw [hq] at h
  simp only at h
  split at h
  · rename_i ds ids ha
    split at h
    · rename_i r hs
      split at h
      · rename_i hf
        simp only [Option.some.injEq, Prod.mk.injEq] at h
        exact ⟨h.2.symm, ds, ids, r, ha, hs, h.1.symm, hf⟩
      · cases h
    · cases h
  · cases h
theorem flatC_of {C : FuncId → Con} {f : FuncId} {spec : List DV → Option DV} (hq : C f = .val spec) {H : Hp} {id : Id} {args : List AV} {ds : List DV} {ids : List Id} {r : DV} (ha : argDs H 99 args = some (ds, ids)) (hs : spec ds = some r) (hf : (r.flat || ids.isEmpty) = true) : semC (flatC C) H id f args = some (.val r, H) := by
  unfold semC flatC
  rw [hq]
  simp only [ha, hs, hf, if_true]

theorem flatC_ok {P : Program} {C : FuncId → Con} (h : ConOk P C) : ConOk P (flatC C) := by
  intro f
  have hf := h f
  cases hq : C f with
  | val spec =>
    rw [hq] at hf
    have : SharedOk P f (fun id args H => semC (flatC C) H id f args) := by
      refine ⟨hf.1, fun ns avs H x H' hs J F w vs hH hv => ?_⟩
      obtain ⟨rfl, ds, ids, r, ha, hr, rfl, hfl⟩ := flatC_val hq hs
      have : semC C H' ns f avs = some (.val r, H') := by
        unfold semC
        rw [hq]
        simp only [callD, ha, hr]
        rcases Bool.or_eq_true _ _ ▸ hfl with h1 | h1
        · simp only [h1, if_true, fix, Option.map_some]
        · have : ids = [] := by simpa using h1
          subst this
          simp [fix]
      exact (semC_sound h hH hv this).2
    unfold semC flatC at this
    unfold flatC
    rw [hq] at this ⊢
    exact this
  | _ => unfold flatC; rw [hq]; trivial

theorem semC_flat {C : FuncId → Con} {H H' : Hp} {id : Id} {f : FuncId} {args : List AV} {x : AV} {H1 : Hp} (h : semC (flatC C) H id f args = some (x, H1)) : H1 = H ∧ (Le H H' → semC (flatC C) H' id f args = some (x, H')) := by
  cases hq : C f with
  | val spec =>
    obtain ⟨rfl, ds, ids, r, ha, hr, rfl, hfl⟩ := flatC_val hq h
    exact ⟨rfl, fun hle => flatC_of hq ((argD_le hle 99).2 _ _ ha) hr hfl⟩
  | none => unfold semC flatC at h; rw [hq] at h; cases h
  | fresh s spec => unfold semC flatC at h; rw [hq] at h; cases h
  | shared spec => unfold semC flatC at h; rw [hq] at h; cases h

/-- Kinds of operations: what only computes; what reads; what makes a variable; the others. -/
def cls : AOp → Nat
  | .p _ => 0
  | .r _ => 1
  | .a (.alloc _) => 2
  | .a (.bx _) => 2
  | .a (.bsl ..) => 4
  | _ => 3

end Go.AI

namespace Go.AI
section
variable {C : FuncId → Con} {ns : Id}

theorem semE0 {H : Hp} {ρ : Opd → AV} {ρp : Bool → Opd → AV} {id : Id} {o : AOp} (hc : cls o = 0) {x : AV} {H1 : Hp} (h : semE C H ρ ρp ns id o = some (x, H1)) : H1 = H ∧ ∀ H', semE C H' ρ ρp ns id o = some (x, H') := by
  cases o with
  | p o =>
    simp only [semE, Option.map_eq_some_iff, Prod.mk.injEq] at h ⊢
    obtain ⟨v, h1, h2, h3⟩ := h
    exact ⟨h3.symm, fun H' => ⟨v, h1, h2, trivial⟩⟩
  | r o => cases hc
  | a o => cases o <;> cases hc
  | w o => cases hc

theorem semE0_none {H : Hp} {ρ : Opd → AV} {ρp : Bool → Opd → AV} {id : Id} {o : AOp} (hc : cls o = 0) (h : semE C H ρ ρp ns id o = none) : ∀ H', semE C H' ρ ρp ns id o = none := by
  intro H'
  cases hq : semE C H' ρ ρp ns id o with
  | none => rfl
  | some p =>
    obtain ⟨x, H1⟩ := p
    rw [(semE0 hc hq).2 H] at h
    cases h

theorem semE1 {H H' : Hp} {ρ : Opd → AV} {ρp : Bool → Opd → AV} {id : Id} {o : AOp} (hc : cls o = 1) {x : AV} {H1 : Hp} (h : semE (flatC C) H ρ ρp ns id o = some (x, H1)) : H1 = H ∧ (Le H H' → semE (flatC C) H' ρ ρp ns id o = some (x, H')) := by
  cases o with
  | p o => cases hc
  | a o => cases o <;> cases hc
  | w o => cases hc
  | r o =>
    cases o with
    | load n a y =>
      simp only [semE, semR, Option.map_eq_some_iff, Prod.mk.injEq] at h ⊢
      obtain ⟨v, h1, h2, h3⟩ := h
      exact ⟨h3.symm, fun hle => ⟨v, loadA_le hle h1, h2, trivial⟩⟩
    | b2s y =>
      simp only [semE, semR, Option.map_eq_some_iff, Prod.mk.injEq, Option.bind_eq_some_iff] at h ⊢
      obtain ⟨v, ⟨l, ⟨e, h1, h4⟩, h5⟩, h2, h3⟩ := h
      exact ⟨h3.symm, fun hle => ⟨v, ⟨l, ⟨e, elems_le hle h1, h4⟩, h5⟩, h2, trivial⟩⟩
    | s2b y =>
      simp only [semE, semR, Option.map_eq_some_iff, Prod.mk.injEq] at h ⊢
      obtain ⟨v, h1, h2, h3⟩ := h
      exact ⟨h3.symm, fun hle => ⟨v, h1, h2, trivial⟩⟩
    | sla n y lo hi =>
      simp only [semE, semR, Option.map_eq_some_iff, Prod.mk.injEq] at h ⊢
      obtain ⟨v, h1, h2, h3⟩ := h
      refine ⟨h3.symm, fun hle => ⟨v, ?_, h2, trivial⟩⟩
      split at h1
      · split at h1
        · rename_i hb
          rw [hle _ _ hb]
          exact h1
        · cases h1
      · cases h1
    | call f l => exact semC_flat h
    | callv y l =>
      simp only [semE] at h ⊢
      split at h
      · exact semC_flat h
      · exact semC_flat h
      · cases h

theorem semE2 {H : Hp} {ρ : Opd → AV} {ρp : Bool → Opd → AV} {id : Id} {o : AOp} (hc : cls o = 2) {x : AV} {H1 : Hp} (h : semE C H ρ ρp ns id o = some (x, H1)) :
    ∃ b, H id = none ∧ H1 = upd H id (some b) ∧ ∀ H', H' id = none → semE C H' ρ ρp ns id o = some (x, upd H' id (some b)) := by
  cases o with
  | p o => cases hc
  | r o => cases hc
  | w o => cases hc
  | a o =>
    have hs : ∀ H', semA C H' ρ id o = semA C H ρ id o := by
      intro H'
      cases o with
      | alloc z => rfl
      | bx y => rfl
      | bsl => cases hc
      | bsf => cases hc
      | mks => cases hc
    simp only [semE] at h
    split at h
    · cases h
    · rename_i hid
      have hid : H id = none := by cases hq : H id <;> simp_all
      simp only [Option.map_eq_some_iff, Prod.mk.injEq] at h
      obtain ⟨⟨y, b⟩, h1, rfl, rfl⟩ := h
      refine ⟨b, hid, rfl, fun H' hid' => ?_⟩
      simp only [semE]
      rw [if_neg (by simp [hid']), hs H', h1]
      rfl

theorem eff_of {s : St} {i : AIns} {g : Bool} (h : gv s.env i.guard = some g) : eff C ns s i = effG C ns s i g := by
  unfold eff
  rw [h]

theorem eff_guard {s : St} {i : AIns} {r : AV × Hp} (h : eff C ns s i = some r) : ∃ g, gv s.env i.guard = some g ∧ effG C ns s i g = some r := by
  unfold eff at h
  split at h
  · rename_i g hg
    exact ⟨g, hg, h⟩
  · cases h

theorem eff0 {s : St} {i : AIns} (hc : cls i.op = 0) {x : AV} {H1 : Hp} (h : eff C ns s i = some (x, H1)) : H1 = s.H ∧ ∀ H', eff C ns ⟨s.env, H'⟩ i = some (x, H') := by
  obtain ⟨g, hg, h⟩ := eff_guard h
  have hg' : ∀ H', gv (St.mk s.env H').env i.guard = some g := fun _ => hg
  unfold effG at h
  split at h
  · rename_i hcalm
    cases hq : semE C s.H (fun x => unw g (evE s.env x)) (fun t x => unw (g && t) (evE s.env x)) ns (idOf i ns) i.op with
    | none =>
      rw [hq] at h
      have hn := semE0_none hc hq
      cases g with
      | true => cases h
      | false =>
        simp only [cond_false, Option.some.injEq, Prod.mk.injEq] at h
        obtain ⟨rfl, rfl⟩ := h
        refine ⟨rfl, fun H' => ?_⟩
        rw [eff_of (hg' H')]
        unfold effG
        rw [if_pos hcalm]
        simp only [hn H']
        rfl
    | some p =>
      obtain ⟨y, Hy⟩ := p
      rw [hq] at h
      simp only [Option.some.injEq, Prod.mk.injEq] at h
      obtain ⟨rfl, rfl⟩ := h
      refine ⟨rfl, fun H' => ?_⟩
      rw [eff_of (hg' H')]
      unfold effG
      rw [if_pos hcalm]
      simp only [(semE0 hc hq).2 H']
  · rename_i hcalm
    cases g with
    | true =>
      simp only [cond_true] at h
      obtain ⟨h1, h2⟩ := semE0 hc h
      refine ⟨h1, fun H' => ?_⟩
      rw [eff_of (hg' H')]
      unfold effG
      rw [if_neg hcalm]
      exact h2 H'
    | false =>
      simp only [cond_false, Option.some.injEq, Prod.mk.injEq] at h
      obtain ⟨rfl, rfl⟩ := h
      refine ⟨rfl, fun H' => ?_⟩
      rw [eff_of (hg' H')]
      unfold effG
      rw [if_neg hcalm]
      rfl

theorem eff1 {s : St} {i : AIns} (hc : cls i.op = 1) {x : AV} {H1 : Hp} (h : eff (flatC C) ns s i = some (x, H1)) : H1 = s.H ∧ ((calm i.op && i.guard.isSome) = false → ∀ H', Le s.H H' → eff (flatC C) ns ⟨s.env, H'⟩ i = some (x, H')) := by
  obtain ⟨g, hg, h⟩ := eff_guard h
  have hg' : ∀ H', gv (St.mk s.env H').env i.guard = some g := fun _ => hg
  unfold effG at h
  split at h
  · rename_i hcalm
    refine ⟨?_, fun hno => by rw [hcalm] at hno; cases hno⟩
    split at h
    · simp only [Option.some.injEq, Prod.mk.injEq] at h
      exact h.2.symm
    · cases g with
      | true => cases h
      | false =>
        simp only [cond_false, Option.some.injEq, Prod.mk.injEq] at h
        exact h.2.symm
  · rename_i hcalm
    cases g with
    | true =>
      simp only [cond_true] at h
      refine ⟨(semE1 (H' := s.H) hc h).1, fun _ H' hle => ?_⟩
      rw [eff_of (hg' H')]
      unfold effG
      rw [if_neg hcalm]
      exact (semE1 hc h).2 hle
    | false =>
      simp only [cond_false, Option.some.injEq, Prod.mk.injEq] at h
      obtain ⟨rfl, rfl⟩ := h
      refine ⟨rfl, fun _ H' _ => ?_⟩
      rw [eff_of (hg' H')]
      unfold effG
      rw [if_neg hcalm]
      rfl

theorem eff2 {s : St} {i : AIns} (hc : cls i.op = 2) {x : AV} {H1 : Hp} (h : eff C ns s i = some (x, H1)) :
    (∃ b, s.H (idOf i ns) = none ∧ H1 = upd s.H (idOf i ns) (some b) ∧ ∀ H', H' (idOf i ns) = none → eff C ns ⟨s.env, H'⟩ i = some (x, upd H' (idOf i ns) (some b))) ∨ (H1 = s.H ∧ ∀ H', eff C ns ⟨s.env, H'⟩ i = some (x, H')) := by
  obtain ⟨g, hg, h⟩ := eff_guard h
  have hg' : ∀ H', gv (St.mk s.env H').env i.guard = some g := fun _ => hg
  have hcalm : ¬ (calm i.op && i.guard.isSome) = true := by
    cases ho : i.op with
    | a o => simp [calm]
    | p o => rw [ho] at hc; cases hc
    | r o => rw [ho] at hc; cases hc
    | w o => rw [ho] at hc; cases hc
  unfold effG at h
  rw [if_neg hcalm] at h
  cases g with
  | true =>
    simp only [cond_true] at h
    obtain ⟨b, h1, h2, h3⟩ := semE2 hc h
    refine .inl ⟨b, h1, h2, fun H' hid => ?_⟩
    rw [eff_of (hg' H')]
    unfold effG
    rw [if_neg hcalm]
    exact h3 H' hid
  | false =>
    simp only [cond_false, Option.some.injEq, Prod.mk.injEq] at h
    obtain ⟨rfl, rfl⟩ := h
    refine .inr ⟨rfl, fun H' => ?_⟩
    rw [eff_of (hg' H')]
    unfold effG
    rw [if_neg hcalm]
    rfl

theorem eff4 {s : St} {i : AIns} (hc : cls i.op = 4) {x : AV} {H1 : Hp} (h : eff C ns s i = some (x, H1)) :
    (∃ b, s.H (idOf i ns) = none ∧ H1 = upd s.H (idOf i ns) (some b)) ∨ H1 = s.H := by
  obtain ⟨g, hg, h⟩ := eff_guard h
  cases ho : i.op with
  | p o => rw [ho] at hc; cases hc
  | r o => rw [ho] at hc; cases hc
  | w o => rw [ho] at hc; cases hc
  | a o =>
    have hcalm : ¬ (calm i.op && i.guard.isSome) = true := by rw [ho]; simp [calm]
    unfold effG at h
    rw [if_neg hcalm] at h
    cases g with
    | false =>
      simp only [cond_false, Option.some.injEq, Prod.mk.injEq] at h
      exact .inr h.2.symm
    | true =>
      simp only [cond_true, ho, semE] at h
      split at h
      · cases h
      · rename_i hid
        simp only [Option.map_eq_some_iff, Prod.mk.injEq] at h
        obtain ⟨⟨y, b⟩, _, rfl, rfl⟩ := h
        refine .inl ⟨b, ?_, rfl⟩
        cases hq : s.H (idOf i ns) <;> simp_all

/-- Do two operations look at nothing of each other's, and go to different places? -/
def apartI (k i : AIns) : Bool :=
  (match k.dst with | some d => !(readsI i).contains d && i.dst != some d | none => true) && (match i.dst with | some d => !(readsI k).contains d | none => true)

/-- May the second one come first? -/
def commB (k i : AIns) : Bool := apartI k i && (match cls k.op, cls i.op with
  | 0, _ => true
  | _, 0 => true
  | 1, 1 => true
  | 1, 2 => !(calm k.op && k.guard.isSome)
  | 2, 2 => k.dst.isSome && i.dst.isSome
  | 1, 4 => !(calm k.op && k.guard.isSome)
  | _, _ => false)

end
end Go.AI

namespace Go.AI
section
variable {C : FuncId → Con} {ns : Id}

theorem apartI_spec {k i : AIns} (h : apartI k i = true) : (∀ d, k.dst = some d → d ∉ readsI i) ∧ (∀ d, i.dst = some d → d ∉ readsI k) ∧ (∀ d, k.dst = some d → i.dst ≠ some d) := by
  unfold apartI at h
  simp only [Bool.and_eq_true] at h
  obtain ⟨h1, h2⟩ := h
  refine ⟨fun d hd => ?_, fun d hd => ?_, fun d hd => ?_⟩
  · rw [hd] at h1; simp at h1; exact h1.1
  · rw [hd] at h2; simpa using h2
  · rw [hd] at h1; simp at h1; exact h1.2

theorem step_inv {s t : St} {i : AIns} (h : step C ns s i = some t) : ∃ x H, eff C ns s i = some (x, H) ∧ t = ⟨putE s.env i.dst x, H⟩ := by
  unfold step at h
  split at h
  · cases h
    rename_i x H he
    exact ⟨x, H, he, rfl⟩
  · cases h

theorem step_of {s : St} {i : AIns} {x : AV} {H : Hp} (h : eff C ns s i = some (x, H)) : step C ns s i = some ⟨putE s.env i.dst x, H⟩ := by
  unfold step
  rw [h]

/-- A value that is put where an operation does not look. -/
theorem eff_put {env : Env} {H : Hp} {i : AIns} {d : Option Nat} {x : AV} (h : ∀ e, d = some e → e ∉ readsI i) : eff C ns ⟨putE env d x, H⟩ i = eff C ns ⟨env, H⟩ i := by
  refine eff_same rfl (fun t ht => ?_)
  simp only [look_put]
  rw [if_neg]
  rintro ⟨h1, _⟩
  exact h t h1 ht

theorem put_swap {env : Env} {d e : Option Nat} {x y : AV} (h : ∀ q, d = some q → e ≠ some q) (H : Hp) : Eqv ⟨putE (putE env e y) d x, H⟩ ⟨putE (putE env d x) e y, H⟩ := by
  refine ⟨by simp only [n_put], fun t => ?_, rfl⟩
  simp only [look_put, n_put]
  by_cases h1 : d = some t ∧ t < env.n
  · rw [if_pos h1]
    by_cases h2 : e = some t ∧ t < env.n
    · exact absurd h2.1 (h t h1.1)
    · rw [if_neg h2, if_pos h1]
  · rw [if_neg h1]
    by_cases h2 : e = some t ∧ t < env.n
    · rw [if_pos h2, if_pos h2]
    · rw [if_neg h2, if_neg h2, if_neg h1]

/-- **Two operations change places.** -/
theorem swap {s s1 s2 : St} {k i : AIns} (hc : commB k i = true) (h1 : step (flatC C) ns s k = some s1) (h2 : step (flatC C) ns s1 i = some s2) :
    ∃ t t2, step (flatC C) ns s i = some t ∧ step (flatC C) ns t k = some t2 ∧ Eqv t2 s2 := by
  unfold commB at hc
  simp only [Bool.and_eq_true] at hc
  obtain ⟨ha, hk⟩ := hc
  obtain ⟨a1, a2, a3⟩ := apartI_spec ha
  obtain ⟨x, H1, e1, rfl⟩ := step_inv h1
  obtain ⟨y, H2, e2, rfl⟩ := step_inv h2
  rw [eff_put a1] at e2
  -- what is left to be shown, once the heap behind is known
  have fin : ∀ Hi, eff (flatC C) ns s i = some (y, Hi) → eff (flatC C) ns ⟨s.env, Hi⟩ k = some (x, H2) → ∃ t t2, step (flatC C) ns s i = some t ∧ step (flatC C) ns t k = some t2 ∧ Eqv t2 ⟨putE (putE s.env k.dst x) i.dst y, H2⟩ := by
    intro Hi q1 q2
    refine ⟨_, _, step_of q1, step_of (s := ⟨putE s.env i.dst y, Hi⟩) (x := x) (H := H2) ?_, put_swap a3 H2⟩
    rw [eff_put a2]
    exact q2
  have e1' : eff (flatC C) ns ⟨s.env, s.H⟩ k = some (x, H1) := e1
  split at hk
  · rename_i c0
    obtain ⟨rfl, f⟩ := eff0 c0 e1
    exact fin H2 e2 (f H2)
  · rename_i c0 _
    obtain ⟨q1, q2⟩ := eff0 c0 e2
    simp only at q1
    subst q1
    exact fin s.H (q2 s.H) e1'
  · rename_i c1 c2
    obtain ⟨rfl, _⟩ := eff1 c1 e1
    obtain ⟨q1, _⟩ := eff1 c2 e2
    simp only at q1
    subst q1
    exact fin s.H e2 e1'
  · rename_i c1 c2
    obtain ⟨rfl, f⟩ := eff1 c1 e1
    rcases eff2 c2 e2 with ⟨b, q1, q2, q3⟩ | ⟨q2, q3⟩
    · refine fin H2 e2 (f (by cases hq : (calm k.op && k.guard.isSome) with | false => rfl | true => rw [hq] at hk; cases hk) H2 ?_)
      rw [q2]
      intro id bb hb
      by_cases e : id = idOf i ns
      · subst e; simp only at q1; rw [q1] at hb; cases hb
      · simp only [upd, if_neg e]; exact hb
    · simp only at q2
      subst q2
      exact fin s.H e2 e1'
  · rename_i c1 c2
    simp only [Bool.and_eq_true] at hk
    have hne : idOf k ns ≠ idOf i ns := by
      intro e
      unfold idOf at e
      obtain ⟨dk, hdk⟩ := Option.isSome_iff_exists.1 hk.1
      obtain ⟨di, hdi⟩ := Option.isSome_iff_exists.1 hk.2
      rw [hdk, hdi] at e
      simp at e
      exact a3 dk hdk (by rw [hdi, e])
    rcases eff2 c1 e1 with ⟨b, q1, q2, q3⟩ | ⟨q2, q3⟩
    · rcases eff2 c2 e2 with ⟨b', r1, r2, r3⟩ | ⟨r2, r3⟩
      · simp only at r1 r2
        have r0 : s.H (idOf i ns) = none := by
          rw [q2] at r1
          simpa [upd, Ne.symm hne] using r1
        refine fin (upd s.H (idOf i ns) (some b')) (r3 s.H r0) ?_
        rw [q3 _ (by simp only [upd, if_neg hne]; exact q1)]
        rw [r2, q2]
        congr 2
        funext id
        simp only [upd]
        by_cases f1 : id = idOf k ns
        · subst f1; simp [hne]
        · by_cases f2 : id = idOf i ns
          · subst f2; simp [f1]
          · simp [f1, f2]
      · simp only at r2
        subst r2
        exact fin s.H (r3 s.H) e1'
    · subst q2
      exact fin H2 e2 (by
        rcases eff2 c2 e2 with ⟨b', r1, r2, r3⟩ | ⟨r2, r3⟩
        · exact q3 H2
        · exact q3 H2)
  · rename_i c1 c4
    obtain ⟨rfl, f⟩ := eff1 c1 e1
    rcases eff4 c4 e2 with ⟨b, q1, q2⟩ | q2
    · refine fin H2 e2 (f (by cases hq : (calm k.op && k.guard.isSome) with | false => rfl | true => rw [hq] at hk; cases hk) H2 ?_)
      rw [q2]
      intro id bb hb
      by_cases e : id = idOf i ns
      · subst e; simp only at q1; rw [q1] at hb; cases hb
      · simp only [upd, if_neg e]; exact hb
    · simp only at q2
      subst q2
      exact fin s.H e2 e1'
  · cases hk

/-- The second one may come first, where something holds of the state. -/
def Comm (D : FuncId → Con) (ns : Id) (Inv : St → Prop) (k i : AIns) : Prop :=
  ∀ s s1 s2, Inv s → step D ns s k = some s1 → step D ns s1 i = some s2 → ∃ t t2, step D ns s i = some t ∧ step D ns t k = some t2 ∧ Eqv t2 s2

theorem Comm.of_commB {Inv : St → Prop} {k i : AIns} (hc : commB k i = true) : Comm (flatC C) ns Inv k i := fun _ _ _ _ h1 h2 => swap hc h1 h2

/-- **One operation comes first.** -/
theorem bubble {D : FuncId → Con} {Inv : St → Prop} : ∀ (pre : List AIns) (i : AIns) (post : List AIns) (s sf : St), (∀ k ∈ pre, ∀ s s', Inv s → step D ns s k = some s' → Inv s') → Inv s → (∀ k ∈ pre, Comm D ns Inv k i) → run D ns (pre ++ i :: post) s = some sf → ∃ s1 sf', step D ns s i = some s1 ∧ run D ns (pre ++ post) s1 = some sf' ∧ Eqv sf' sf
  | [], i, post, s, sf, _, _, _, h => by
    simp only [List.nil_append, run] at h ⊢
    split at h
    · rename_i s1 h1
      exact ⟨s1, sf, h1, h, .refl _⟩
    · cases h
  | k :: pre, i, post, s, sf, hp, hI, hk, h => by
    simp only [List.cons_append, run] at h ⊢
    split at h
    · rename_i s1 h1
      obtain ⟨s2, sf', q1, q2, q3⟩ := bubble pre i post s1 sf (fun k' hk' => hp k' (by simp [hk'])) (hp k (by simp) s s1 hI h1) (fun k' hk' => hk k' (by simp [hk'])) h
      obtain ⟨t, t2, r1, r2, r3⟩ := hk k (by simp) s s1 s2 hI h1 q1
      obtain ⟨sf'', u1, u2⟩ := Eqv.run r3.symm q2
      refine ⟨t, sf'', r1, ?_, u2.symm.trans q3⟩
      rw [r2]
      exact u1
    · cases h

end
end Go.AI

namespace Go.AI

/-! ### Functions of Go's library that work on rows of one's own -/
/-- What an append does to the blocks. -/
def killU (H : Hp) (bo : Option Id) (id : Id) (b : Blk) : Hp := match bo with
  | some k => upd (upd H k (some .dead)) id (some b)
  | none => upd H id (some b)

/-- The rows of one heap are another's. -/
def LeR (H H' : Hp) : Prop := ∀ id b, H id = some b → (∃ s es, b = .row s es ∨ b = .frow s es) → H' id = some b

theorem elems_LeR {H H' : Hp} (h : LeR H H') {s : Nat} {x : AV} {r : List (List DV)} (hr : elems H s x = some r) : elems H' s x = some r := by
  unfold elems at hr ⊢
  split at hr <;> try exact hr
  split at hr
  · rename_i hs
    rw [if_pos hs]
    split at hr
    · rename_i s'' es hb
      rw [h _ _ hb ⟨s'', es, .inl rfl⟩]
      exact hr
    · rename_i s'' es hb
      rw [h _ _ hb ⟨s'', es, .inr rfl⟩]
      exact hr
    · cases hr
  · cases hr

/-- All elements of a row of one's own, or of none. -/
def rowOf (H : Hp) (s : Nat) : AV → Option (Option Id × List (List DV))
  | .val (.nils _) => some (none, [])
  | .row b s1 o n => (match H b with
    | some (.row s3 es) => if o = 0 ∧ s1 = s ∧ s3 = s ∧ n = es.length then some (some b, es) else none
    | _ => none)
  | _ => none
theorem rowOf_u {H : Hp} {s : Nat} {x : AV} {bo : Option Id} {es : List (List DV)} (h : rowOf H s x = some (bo, es)) : (∀ b, bo = some b → ∃ s es, H b = some (.row s es)) ∧ ∀ H', LeR H H' → rowOf H' s x = some (bo, es) := by
  cases x <;> simp only [rowOf, reduceCtorEq] at h
  · rename_i d
    cases d <;> simp only [reduceCtorEq, Option.some.injEq, Prod.mk.injEq] at h
    obtain ⟨rfl, rfl⟩ := h
    exact ⟨fun _ h => (by cases h), fun _ _ => rfl⟩
  · rename_i b s1 o n
    split at h
    · rename_i s3 es' hb
      split at h
      · rename_i hc
        simp only [Option.some.injEq, Prod.mk.injEq] at h
        obtain ⟨rfl, rfl⟩ := h
        refine ⟨fun b' h => (by cases h; exact ⟨_, _, hb⟩), fun H' hle => ?_⟩
        simp only [rowOf, hle _ _ hb ⟨_, _, .inl rfl⟩]
        rw [if_pos hc]
      · cases h
    · cases h

def libSpec (k : LibK) (id : Id) (avs : List AV) (H : Hp) : Option (AV × Hp) := match H id with
  | some _ => none
  | none => match k, avs with
    | .clone s bytes, [x] => (match elems H s x with
      | some es => if es.length * bytes ≤ 140737488355328 ∧ es.length ≤ maxLen then some (.row id s 0 es.length, killU H none id (.row s es)) else none
      | none => none)
    | .ins s bytes, [x, .val (.int .i64 j), y] => (match rowOf H s x, rowOf H s y with
      | some (bo, es), some (some b', ys) => if bo ≠ some b' ∧ ys ≠ [] ∧ 0 ≤ j ∧ j ≤ (es.length : Int) ∧ (es.length + ys.length) * bytes ≤ 70368744177664 ∧ es.length + ys.length ≤ maxLen ∧ 0 < s then
          some (.row id s 0 (es.length + ys.length), killU H bo id (.row s (es.take j.toNat ++ ys ++ es.drop j.toNat))) else none
      | _, _ => none)
    | .del s, [x, .val (.int .i64 i), .val (.int .i64 j)] => (match rowOf H s x with
      | some (bo, es) => if 0 ≤ i ∧ i ≤ j ∧ j ≤ (es.length : Int) ∧ es.length ≤ maxLen ∧ 0 < s then
          some (.row id s 0 (i.toNat + (es.length - j.toNat)), killU H bo id (.row s (es.take i.toNat ++ es.drop j.toNat))) else none
      | _ => none)
    | .grow s bytes, [.val (.nils _), .val (.int .i64 n)] => if 0 ≤ n ∧ n * (bytes : Int) ≤ 70368744177664 ∧ n ≤ (maxLen : Int) ∧ 0 < s then some (.row id s 0 0, killU H none id (.row s [])) else none
    | _, _ => none

def LibK.isCl : LibK → Bool
  | .clone _ _ => true
  | _ => false

theorem libSpec_u {k : LibK} {id : Id} {avs : List AV} {H H1 : Hp} {x : AV} (h : libSpec k id avs H = some (x, H1)) :
    ∃ bo blk, (∃ s es, blk = Blk.row s es) ∧ (∀ b, bo = some b → ∃ s es, H b = some (.row s es)) ∧ H id = none ∧ H1 = killU H bo id blk ∧ (k.isCl = true → bo = none) ∧ ∀ H', LeR H H' → H' id = none → libSpec k id avs H' = some (x, killU H' bo id blk) := by
  unfold libSpec at h
  split at h
  · cases h
  · rename_i hid
    split at h
    · rename_i s bytes x'
      split at h
      · rename_i es he
        split at h
        · rename_i hc
          simp only [Option.some.injEq, Prod.mk.injEq] at h
          obtain ⟨rfl, rfl⟩ := h
          refine ⟨none, _, ⟨_, _, rfl⟩, fun _ h => (by cases h), hid, rfl, fun _ => rfl, fun H' hle hid' => ?_⟩
          simp only [libSpec, hid', elems_LeR hle he]
          rw [if_pos hc]
        · cases h
      · cases h
    · rename_i s bytes x' j y
      split at h
      · rename_i bo es b' ys h1 h2
        split at h
        · rename_i hc
          simp only [Option.some.injEq, Prod.mk.injEq] at h
          obtain ⟨rfl, rfl⟩ := h
          refine ⟨bo, _, ⟨_, _, rfl⟩, (rowOf_u h1).1, hid, rfl, fun h => (by cases h), fun H' hle hid' => ?_⟩
          simp only [libSpec, hid', (rowOf_u h1).2 _ hle, (rowOf_u h2).2 _ hle]
          rw [if_pos hc]
        · cases h
      · cases h
    · rename_i s x' i j
      split at h
      · rename_i bo es h1
        split at h
        · rename_i hc
          simp only [Option.some.injEq, Prod.mk.injEq] at h
          obtain ⟨rfl, rfl⟩ := h
          refine ⟨bo, _, ⟨_, _, rfl⟩, (rowOf_u h1).1, hid, rfl, fun h => (by cases h), fun H' hle hid' => ?_⟩
          simp only [libSpec, hid', (rowOf_u h1).2 _ hle]
          rw [if_pos hc]
        · cases h
      · cases h
    · rename_i s bytes s' n
      split at h
      · rename_i hc
        simp only [Option.some.injEq, Prod.mk.injEq] at h
        obtain ⟨rfl, rfl⟩ := h
        refine ⟨none, _, ⟨_, _, rfl⟩, fun _ h => (by cases h), hid, rfl, fun _ => rfl, fun H' hle hid' => ?_⟩
        simp only [libSpec, hid']
        rw [if_pos hc]
      · cases h
    · cases h

def libAt : List (FuncId × LibK) → FuncId → Option LibK
  | [], _ => none
  | (g, k) :: l, f => match Nat.beq g f with
    | true => some k
    | false => libAt l f
theorem libAt_mem : ∀ {l : List (FuncId × LibK)} {f : FuncId} {k : LibK}, libAt l f = some k → (f, k) ∈ l
  | (g, k') :: l, f, k, h => by
    simp only [libAt] at h
    split at h
    · rename_i e
      cases h
      rw [Nat.eq_of_beq_eq_true e]
      exact List.mem_cons_self ..
    · exact List.mem_cons_of_mem _ (libAt_mem h)

def rowAt (H : Hp) (i : Id) : Bool := match H i with
  | some (.row _ _) => true
  | some (.frow _ _) => true
  | _ => false
/-- A call that leaves all boxes as they are: what it is handed lies in rows. -/
def rowC (spec : List DV → Option DV) (H : Hp) (args : List AV) : Option (AV × Hp) := match argDs H 99 args with
  | some (ds, ids) => (match spec ds with
    | some r => (match (if r.flat then [] else ids).all (rowAt H) with
      | true => (fix H (if r.flat then [] else ids)).map fun H' => (.val r, H')
      | false => none)
    | none => none)
  | none => none
theorem rowC_inv {spec : List DV → Option DV} {H H1 : Hp} {args : List AV} {x : AV} (h : rowC spec H args = some (x, H1)) :
    ∃ ds ids r, argDs H 99 args = some (ds, ids) ∧ spec ds = some r ∧ x = .val r ∧ (∀ i ∈ (if r.flat then [] else ids), rowAt H i = true) ∧ fix H (if r.flat then [] else ids) = some H1 := by
  unfold rowC at h
  split at h
  · rename_i ds ids ha
    split at h
    · rename_i r hr
      split at h
      · rename_i hall
        simp only [Option.map_eq_some_iff, Prod.mk.injEq] at h
        obtain ⟨H', h1, rfl, rfl⟩ := h
        exact ⟨ds, ids, r, ha, hr, rfl, List.all_eq_true.1 hall, h1⟩
      · cases h
    · cases h
  · cases h
theorem rowC_of {spec : List DV → Option DV} {H H1 : Hp} {args : List AV} {ds : List DV} {ids : List Id} {r : DV} (ha : argDs H 99 args = some (ds, ids)) (hr : spec ds = some r) (hi : ∀ i ∈ (if r.flat then [] else ids), rowAt H i = true) (hf : fix H (if r.flat then [] else ids) = some H1) :
    rowC spec H args = some (.val r, H1) := by
  unfold rowC
  simp only [ha, hr, List.all_eq_true.2 hi, hf, Option.map_some]
theorem rowC_val {C : FuncId → Con} {f : FuncId} {spec : List DV → Option DV} (hq : C f = .val spec) {H H1 : Hp} {id : Id} {args : List AV} {x : AV} (h : rowC spec H args = some (x, H1)) : semC C H id f args = some (x, H1) := by
  obtain ⟨ds, ids, r, ha, hr, rfl, _, hf⟩ := rowC_inv h
  unfold semC
  rw [hq]
  simp only [callD, ha, hr, hf, Option.map_some]

/-- Calls of some functions as they are, and of the library's; of all others, where they leave all blocks as they are. -/
def mixC (S : List FuncId) (LB : List (FuncId × LibK)) (C : FuncId → Con) : FuncId → Con := fun f => match libAt LB f with
  | some k => .shared (libSpec k)
  | none => match S.contains f with
    | true => (match C f with
      | .val spec => .shared fun _ args H => rowC spec H args
      | _ => .none)
    | false => flatC C f

theorem mixC_ok {P : Program} {S : List FuncId} {LB : List (FuncId × LibK)} {C : FuncId → Con} (h : ConOk P C) (hL : ∀ p ∈ LB, C p.1 = .shared (libSpec p.2)) : ConOk P (mixC S LB C) := by
  intro f
  have hf := h f
  have hg := flatC_ok h f
  cases hl : libAt LB f with
  | some k =>
    have e : mixC S LB C f = .shared (libSpec k) := by unfold mixC; rw [hl]
    rw [e]
    have := hL _ (libAt_mem hl)
    simp only at this
    rw [this] at hf
    exact hf
  | none =>
    cases hS : S.contains f with
    | true =>
      have e : mixC S LB C f = (match C f with
        | .val spec => .shared fun _ args H => rowC spec H args
        | _ => .none) := by unfold mixC; rw [hl]; simp only [hS]
      rw [e]
      cases hq : C f with
      | val spec =>
        rw [hq] at hf
        exact ⟨hf.1, fun ns avs H x H' hs J F w vs hH hv => (semC_sound h hH hv (rowC_val (id := ns) hq hs)).2⟩
      | none => trivial
      | fresh s spec => trivial
      | shared spec => trivial
    | false =>
      have e : mixC S LB C f = flatC C f := by unfold mixC; rw [hl]; simp only [hS]
      rw [e]
      exact hg

def flatOp (S : List FuncId) (LB : List (FuncId × LibK)) : AOp → Bool
  | .r (.call f _) => !(S.contains f) && (libAt LB f).isNone
  | .r (.callv _ _) => S.isEmpty && LB.isEmpty
  | _ => true

section
variable {C : FuncId → Con} {ns : Id} {S : List FuncId} {LB : List (FuncId × LibK)}

theorem semC_mix {H : Hp} {id : Id} {f : FuncId} {args : List AV} (hS : S.contains f = false) (hL : libAt LB f = none) : semC (mixC S LB C) H id f args = semC (flatC C) H id f args := by
  have e : mixC S LB C f = flatC C f := by unfold mixC; rw [hL]; simp only [hS]
  unfold semC
  rw [e]
theorem semE_mix {H : Hp} {ρ : Opd → AV} {ρp : Bool → Opd → AV} {id : Id} {o : AOp} (hf : flatOp S LB o = true) : semE (mixC S LB C) H ρ ρp ns id o = semE (flatC C) H ρ ρp ns id o := by
  cases o with
  | p o => rfl
  | a o => cases o <;> rfl
  | w o => cases o <;> rfl
  | r o =>
    cases o with
    | call f l =>
      simp only [flatOp, Bool.and_eq_true, Bool.not_eq_true', Option.isNone_iff_eq_none] at hf
      exact semC_mix hf.1 hf.2
    | callv x l =>
      simp only [flatOp, Bool.and_eq_true, List.isEmpty_iff] at hf
      obtain ⟨rfl, rfl⟩ := hf
      have : ∀ f, ([] : List FuncId).contains f = false := fun _ => rfl
      have h2 : ∀ f, libAt [] f = none := fun _ => rfl
      simp only [semE, semC_mix (this _) (h2 _)]
    | load n a y => rfl
    | b2s y => rfl
    | s2b y => rfl
    | sla n y lo hi => rfl

theorem eff_mix {s : St} {i : AIns} (hf : flatOp S LB i.op = true) : eff (mixC S LB C) ns s i = eff (flatC C) ns s i := by
  unfold eff effG
  simp only [semE_mix hf]

theorem step_mix {s : St} {i : AIns} (hf : flatOp S LB i.op = true) : step (mixC S LB C) ns s i = step (flatC C) ns s i := by
  unfold step
  rw [eff_mix hf]

/-! ### Pairs -/
theorem comm_of {D : FuncId → Con} {Inv : St → Prop} {k i : AIns} (ha : apartI k i = true) (h : ∀ s x y H1 H2, Inv s → eff D ns s k = some (x, H1) → eff D ns ⟨s.env, H1⟩ i = some (y, H2) → ∃ Hi, eff D ns s i = some (y, Hi) ∧ eff D ns ⟨s.env, Hi⟩ k = some (x, H2)) : Comm D ns Inv k i := by
  intro s s1 s2 hI h1 h2
  obtain ⟨a1, a2, a3⟩ := apartI_spec ha
  obtain ⟨x, H1, e1, rfl⟩ := step_inv h1
  obtain ⟨y, H2, e2, rfl⟩ := step_inv h2
  rw [eff_put a1] at e2
  obtain ⟨Hi, q1, q2⟩ := h s x y H1 H2 hI e1 e2
  refine ⟨_, _, step_of q1, step_of (s := ⟨putE s.env i.dst y, Hi⟩) (x := x) (H := H2) ?_, put_swap a3 H2⟩
  rw [eff_put a2]
  exact q2

theorem comm0 {D : FuncId → Con} {Inv : St → Prop} {k i : AIns} (ha : apartI k i = true) (hc : cls k.op = 0 ∨ cls i.op = 0) : Comm D ns Inv k i := comm_of ha fun s x y H1 H2 _ e1 e2 => by
  rcases hc with c0 | c0
  · obtain ⟨rfl, f⟩ := eff0 c0 e1
    exact ⟨H2, e2, f H2⟩
  · obtain ⟨q1, q2⟩ := eff0 c0 e2
    simp only at q1
    subst q1
    exact ⟨s.H, q2 s.H, e1⟩

theorem comm_flat {Inv : St → Prop} {k i : AIns} (hk : flatOp S LB k.op = true) (hi : flatOp S LB i.op = true) (hc : commB k i = true) : Comm (mixC S LB C) ns Inv k i := by
  intro s s1 s2 _ h1 h2
  rw [step_mix hk] at h1
  rw [step_mix hi] at h2
  obtain ⟨t, t2, q1, q2, q3⟩ := swap hc h1 h2
  exact ⟨t, t2, by rw [step_mix hi]; exact q1, by rw [step_mix hk]; exact q2, q3⟩

/-! ### What is known of addresses -/
def pB0 (i : Id) (b : Option Blk) : AV → Prop
  | .box id _ => id = i ∧ hasBox b = true
  | .elt .. => False
  | .may .. => False
  | _ => True
def pB (i : Id) (b : Option Blk) : AV → Prop
  | .may _ x => pB0 i b x
  | x => pB0 i b x
def nB0 : AV → Prop
  | .box .. => False
  | .may .. => False
  | _ => True
def nB : AV → Prop
  | .may _ x => nB0 x
  | x => nB0 x

theorem pB_unw {i : Id} {b : Option Blk} {v : AV} (h : pB i b v) (g : Bool) : pB0 i b (unw g v) := by
  cases v <;> first | exact h | skip
  rename_i c x
  simp only [unw]
  split
  · exact h
  · trivial
theorem nB_unw {v : AV} (h : nB v) (g : Bool) : nB0 (unw g v) := by
  cases v <;> first | exact h | skip
  rename_i c x
  simp only [unw]
  split
  · exact h
  · trivial
theorem pB_mono {i : Id} {b b' : Option Blk} {v : AV} (hb : hasBox b = true → hasBox b' = true) (h : pB i b v) : pB i b' v := by
  cases v <;> try exact h
  · exact ⟨h.1, hb h.2⟩
  · rename_i c x
    cases x <;> first | exact h | exact ⟨h.1, hb h.2⟩

def lk : List (Nat × Nat) → Nat → Option Nat
  | [], _ => none
  | (t, c) :: l, u => if t = u then some c else lk l u

/-- Temporaries of a class point into the class's box, or to data; others to no box. -/
structure InvB (L : List (Nat × Nat)) (EL : List Nat) (ids : Nat → Id) (s : St) : Prop where
  cl : ∀ t c, lk L t = some c → pB (ids c) (s.H (ids c)) (look s.env.l t)
  el : ∀ t, EL.contains t = true → nB (look s.env.l t)

def invT (ids : Nat → Id) (s : St) : List (Nat × Nat) → Prop
  | [] => True
  | (t, c) :: l => pB (ids c) (s.H (ids c)) (look s.env.l t) ∧ invT ids s l
def invE (s : St) : List Nat → Prop
  | [] => True
  | t :: l => nB (look s.env.l t) ∧ invE s l

theorem inv_of {ids : Nat → Id} {s : St} {L : List (Nat × Nat)} {EL : List Nat} (h : invT ids s L) (he : invE s EL) : InvB L EL ids s := by
  refine ⟨?_, ?_⟩
  · intro t c hc
    induction L with
    | nil => cases hc
    | cons p L ih =>
      obtain ⟨u, d⟩ := p
      simp only [lk] at hc
      split at hc
      · rename_i e
        cases hc
        subst e
        exact h.1
      · exact ih h.2 hc
  · intro t ht
    induction EL with
    | nil => cases ht
    | cons u l ih =>
      rw [List.contains_cons, Bool.or_eq_true] at ht
      rcases ht with h1 | h1
      · have : t = u := by simpa using h1
        subst this; exact he.1
      · exact ih he.2 h1

theorem InvB.eqv {L : List (Nat × Nat)} {EL : List Nat} {ids : Nat → Id} {s s' : St} (h : Eqv s s') (hI : InvB L EL ids s) : InvB L EL ids s' :=
  ⟨fun t c hc => by have := hI.cl t c hc; rwa [h.look, h.H] at this, fun t ht => by have := hI.el t ht; rwa [h.look] at this⟩

/-- An operation whose place is in a class comes by it from one of the class, or makes the class's box. -/
def okB (L : List (Nat × Nat)) (EL AL : List Nat) (i : AIns) : Bool :=
  match i.dst with
  | none => true
  | some d => (match lk L d with
    | none => true
    | some c => (match i.op with
      | .p (.foff _ (.t b)) => lk L b == some c
      | .p (.aoff _ _ (.t b) _) => lk L b == some c
      | .p (.mv (.t b)) => lk L b == some c
      | .p (.chk (.t b)) => lk L b == some c
      | .a (.alloc _) => Nat.beq c d && AL.contains d
      | .a (.bx _) => Nat.beq c d && AL.contains d
      | _ => false)) && (!(EL.contains d) || (match i.op with
      | .p (.soff _ _ _) => true
      | .p (.foff _ (.t b)) => EL.contains b
      | .p (.aoff _ _ (.t b) _) => EL.contains b
      | .p (.mv (.t b)) => EL.contains b
      | .p (.chk (.t b)) => EL.contains b
      | _ => false))

theorem eff_p {D : FuncId → Con} {s : St} {i : AIns} {o : POp} (ho : i.op = .p o) {x : AV} {H1 : Hp} (h : eff D ns s i = some (x, H1)) :
    H1 = s.H ∧ ((∃ g gp y, semP (fun x => unw g (evE s.env x)) (fun t x => unw (gp && t) (evE s.env x)) o = some y ∧ (x = y ∨ ∃ c, x = .may c y)) ∨ x = .val (.tup [])) := by
  obtain ⟨g, hg, h⟩ := eff_guard h
  unfold effG at h
  rw [ho] at h
  simp only [semE, calm, Bool.true_and] at h
  split at h
  · cases hq : semP (fun x => unw g (evE s.env x)) (fun t x => unw (g && t) (evE s.env x)) o with
    | none =>
      rw [hq] at h
      simp only [Option.map_none] at h
      cases g with
      | true => cases h
      | false =>
        simp only [cond_false, Option.some.injEq, Prod.mk.injEq] at h
        exact ⟨h.2.symm, .inr h.1.symm⟩
    | some y =>
      rw [hq] at h
      simp only [Option.map_some, Option.some.injEq, Prod.mk.injEq] at h
      exact ⟨h.2.symm, .inl ⟨g, g, y, hq, .inr ⟨g, h.1.symm⟩⟩⟩
  · cases g with
    | false =>
      simp only [cond_false, Option.some.injEq, Prod.mk.injEq] at h
      exact ⟨h.2.symm, .inr h.1.symm⟩
    | true =>
      simp only [cond_true, Option.map_eq_some_iff, Prod.mk.injEq] at h
      obtain ⟨y, h1, h2, h3⟩ := h
      refine ⟨h3.symm, .inl ⟨true, true, y, ?_, .inl h2.symm⟩⟩
      simpa using h1

theorem moved_pB {i : Id} {b : Option Blk} {v y : AV} {o : Nat} (h : pB0 i b v) (hm : v.moved o = some y) : pB0 i b y := by
  cases v <;> simp only [AV.moved, reduceCtorEq, Option.some.injEq] at hm
  · rename_i d
    cases d <;> simp only [reduceCtorEq, Option.some.injEq] at hm
    subst hm
    trivial
  · subst hm; exact h
  · exact h.elim
theorem moved_nB {v y : AV} {o : Nat} (h : nB0 v) (hm : v.moved o = some y) : nB0 y := by
  cases v <;> simp only [AV.moved, reduceCtorEq, Option.some.injEq] at hm
  · rename_i d
    cases d <;> simp only [reduceCtorEq, Option.some.injEq] at hm
    subst hm
    trivial
  · exact h.elim
  · subst hm; trivial


theorem fixB_box {H : Hp} {b : Option Blk} : (hasBox b = true → ∀ cells, b = some (.box cells) → ∃ r, argDs H 99 cells = some r) → hasBox b = true → hasBox (fixB H b) = true := by
  intro h hb
  cases b with
  | none => cases hb
  | some b =>
    cases b with
    | box cells =>
      obtain ⟨⟨ds, more⟩, hr⟩ := h hb cells rfl
      simp only [fixB, hr]
      rfl
    | row s es => cases hb
    | fbox cells => rfl
    | frow s es => cases hb
    | fns s es => cases hb
    | dead => cases hb

theorem okFix_args {H : Hp} {ids : List Id} {i : Id} (h : okFix H ids i = true) {cells : List AV} (hb : H i = some (.box cells)) : ∃ r, argDs H 99 cells = some r := by
  unfold okFix at h
  rw [hb] at h
  simp only at h
  split at h
  · rename_i ds more hr
    exact ⟨_, hr⟩
  · cases h

theorem fix_at {H H' : Hp} {ids : List Id} (h : fix H ids = some H') (i : Id) : H' i = (if ids.contains i = true then fixB H (H i) else H i) ∧ (ids.contains i = true → okFix H ids i = true) := by
  cases ids with
  | nil =>
    simp only [fix, Option.some.injEq] at h
    subst h
    exact ⟨rfl, fun h => by cases h⟩
  | cons a l =>
    simp only [fix] at h
    split at h
    · rename_i hall
      cases h
      refine ⟨rfl, fun hc => ?_⟩
      have hm : i ∈ a :: l := List.contains_iff_mem.1 hc
      exact List.all_eq_true.1 hall i hm
    · cases h

theorem fix_hasBox {H H' : Hp} {ids : List Id} (h : fix H ids = some H') {i : Id} (hb : hasBox (H i) = true) : hasBox (H' i) = true := by
  obtain ⟨h1, h2⟩ := fix_at h i
  rw [h1]
  split
  · rename_i hc
    exact fixB_box (fun _ cells he => okFix_args (h2 hc) he) hb
  · exact hb

theorem fix_none {H H' : Hp} {ids : List Id} (h : fix H ids = some H') {i : Id} (hn : H' i = none) : H i = none := by
  obtain ⟨h1, h2⟩ := fix_at h i
  rw [h1] at hn
  split at hn
  · rename_i hc
    cases hq : H i with
    | none => rfl
    | some b =>
      rw [hq] at hn
      cases b with
      | box cells =>
        obtain ⟨⟨ds, more⟩, hr⟩ := okFix_args (h2 hc) hq
        simp only [fixB, hr] at hn
        cases hn
      | row s es => cases hn
      | fbox cells => cases hn
      | frow s es => cases hn
      | fns s es => cases hn
      | dead => cases hn
  · exact hn

theorem upd_hasBox {H : Hp} {id : Id} {b : Option Blk} (hn : hasBox (H id) = false) {i : Id} (hb : hasBox (H i) = true) : upd H id b i = H i := by
  unfold upd
  split
  · rename_i e
    subst e
    rw [hn] at hb
    cases hb
  · rfl

theorem killU_hasBox {H : Hp} {bo : Option Id} {id : Id} {blk : Blk} (h2 : ∀ b, bo = some b → ∃ s es, H b = some (.row s es)) (hid : H id = none) {i : Id} (hb : hasBox (H i) = true) : killU H bo id blk i = H i := by
  cases bo with
  | none => exact upd_hasBox (by rw [hid]; rfl) hb
  | some b =>
    obtain ⟨s1, es1, hbb⟩ := h2 b rfl
    show upd (upd H b (some .dead)) id (some blk) i = H i
    have e1 : upd H b (some .dead) i = H i := upd_hasBox (by rw [hbb]; rfl) hb
    have hn : upd H b (some .dead) id = none := by
      unfold upd
      rw [if_neg (fun e => by subst e; rw [hid] at hbb; cases hbb), hid]
    rw [upd_hasBox (by rw [hn]; rfl) (by rw [e1]; exact hb), e1]

theorem semC_hasBox {H H1 : Hp} {id : Id} {f : FuncId} {args : List AV} {x : AV} (h : semC (mixC S LB C) H id f args = some (x, H1)) {i : Id} (hb : hasBox (H i) = true) : hasBox (H1 i) = true := by
  cases hl : libAt LB f with
  | some k =>
    have e : mixC S LB C f = .shared (libSpec k) := by unfold mixC; rw [hl]
    unfold semC at h
    rw [e] at h
    obtain ⟨bo, blk, _, h2, h3, rfl, _⟩ := libSpec_u h
    rw [killU_hasBox h2 h3 hb]
    exact hb
  | none =>
    cases hS : S.contains f with
    | false =>
      rw [semC_mix hS hl] at h
      obtain ⟨rfl, _⟩ := semC_flat (H' := H) h
      exact hb
    | true =>
      have e : mixC S LB C f = (match C f with
        | .val spec => .shared fun _ args H => rowC spec H args
        | _ => .none) := by unfold mixC; rw [hl]; simp only [hS]
      unfold semC at h
      rw [e] at h
      cases hq : C f with
      | val spec =>
        rw [hq] at h
        simp only at h
        obtain ⟨_, _, _, _, _, _, _, h1⟩ := rowC_inv h
        exact fix_hasBox h1 hb
      | none => rw [hq] at h; cases h
      | fresh s spec => rw [hq] at h; cases h
      | shared spec => rw [hq] at h; cases h

theorem appRes_u {H : Hp} {id : Id} {s bytes : Nat} {ys : List (List DV)} {x : AV} {r : AV} {H1 : Hp} (h : appRes H id s bytes ys x = some (r, H1)) :
    ∃ bo blk, (∃ es, blk = Blk.row s es) ∧ (∀ b, bo = some b → ∃ s es, H b = some (.row s es)) ∧ H1 = killU H bo id blk ∧ ∀ H', LeR H H' → appRes H' id s bytes ys x = some (r, killU H' bo id blk) := by
  cases x <;> simp only [appRes, reduceCtorEq] at h
  · rename_i d
    cases d <;> simp only [reduceCtorEq] at h
    split at h
    · rename_i hc
      simp only [Option.some.injEq, Prod.mk.injEq] at h
      obtain ⟨rfl, rfl⟩ := h
      refine ⟨none, _, ⟨_, rfl⟩, fun _ h => (by cases h), rfl, fun H' _ => ?_⟩
      simp only [appRes]
      rw [if_pos hc]
      rfl
    · cases h
  · rename_i b s' o n
    split at h
    · rename_i s'' es hb
      split at h
      · rename_i hc
        simp only [Option.some.injEq, Prod.mk.injEq] at h
        obtain ⟨rfl, rfl⟩ := h
        refine ⟨some b, _, ⟨_, rfl⟩, fun b' h => (by cases h; exact ⟨_, _, hb⟩), rfl, fun H' hle => ?_⟩
        simp only [appRes, hle _ _ hb ⟨_, _, .inl rfl⟩]
        rw [if_pos hc]
        rfl
      · cases h
    · cases h

theorem semE_hasBox {H H1 : Hp} {ρ : Opd → AV} {ρp : Bool → Opd → AV} {id : Id} {o : AOp} {x : AV} (h : semE (mixC S LB C) H ρ ρp ns id o = some (x, H1)) {i : Id} (hb : hasBox (H i) = true) : hasBox (H1 i) = true := by
  cases o with
  | p o =>
    simp only [semE, Option.map_eq_some_iff, Prod.mk.injEq] at h
    obtain ⟨_, _, _, rfl⟩ := h
    exact hb
  | r o =>
    cases o with
    | call f l => exact semC_hasBox h hb
    | callv y l =>
      simp only [semE] at h
      split at h
      · exact semC_hasBox h hb
      · exact semC_hasBox h hb
      · cases h
    | load n a y => simp only [semE, Option.map_eq_some_iff, Prod.mk.injEq] at h; obtain ⟨_, _, _, rfl⟩ := h; exact hb
    | b2s y => simp only [semE, Option.map_eq_some_iff, Prod.mk.injEq] at h; obtain ⟨_, _, _, rfl⟩ := h; exact hb
    | s2b y => simp only [semE, Option.map_eq_some_iff, Prod.mk.injEq] at h; obtain ⟨_, _, _, rfl⟩ := h; exact hb
    | sla n y lo hi => simp only [semE, Option.map_eq_some_iff, Prod.mk.injEq] at h; obtain ⟨_, _, _, rfl⟩ := h; exact hb
  | a o =>
    simp only [semE] at h
    split at h
    · cases h
    · rename_i hid
      have hid : H id = none := by cases hq : H id <;> simp_all
      simp only [Option.map_eq_some_iff, Prod.mk.injEq] at h
      obtain ⟨_, _, _, rfl⟩ := h
      rw [upd_hasBox (by rw [hid]; rfl) hb]
      exact hb
  | w o =>
    simp only [semE] at h
    cases o with
    | store n y v =>
      simp only [semW] at h
      split at h
      · split at h
        · split at h
          · rename_i b o' _
            split at h
            · rename_i cells hc
              split at h
              · simp only [Option.some.injEq, Prod.mk.injEq] at h
                obtain ⟨_, rfl⟩ := h
                unfold upd
                split
                · rfl
                · exact hb
              · cases h
            · cases h
          · rename_i b i' o' _
            split at h
            · rename_i s' es ds ids hbb _
              split at h
              · rename_i es' H' _ hf
                split at h
                · cases h
                · simp only [Option.some.injEq, Prod.mk.injEq] at h
                  obtain ⟨_, rfl⟩ := h
                  by_cases e : i = b
                  · subst e
                    rw [hbb] at hb
                    cases hb
                  · simp only [upd, if_neg e]
                    exact fix_hasBox hf hb
              · cases h
            · cases h
          · cases h
        · cases h
      · cases h
    | app s' bytes str y z =>
      simp only [semW] at h
      split at h
      · split at h
        · cases h
        · rename_i hid
          have hid : H id = none := by cases hq : H id <;> simp_all
          obtain ⟨bo, blk, _, h2, rfl, _⟩ := appRes_u h
          cases bo with
          | none =>
            show hasBox (upd H id (some blk) i) = true
            rw [upd_hasBox (by rw [hid]; rfl) hb]
            exact hb
          | some b =>
            obtain ⟨s1, es1, hbb⟩ := h2 b rfl
            show hasBox (upd (upd H b (some .dead)) id (some blk) i) = true
            have e1 : upd H b (some .dead) i = H i := upd_hasBox (by rw [hbb]; rfl) hb
            have hn : upd H b (some .dead) id = none := by
              unfold upd
              rw [if_neg (fun e => by subst e; rw [hid] at hbb; cases hbb), hid]
            rw [upd_hasBox (by rw [hn]; rfl) (by rw [e1]; exact hb), e1]
            exact hb
      · cases h
    | cpy s' y z => cases h
    | s2s y =>
      simp only [semW] at h
      split at h
      · rename_i b s' o' n _
        split at h
        · rename_i s'' es hbb
          split at h
          · simp only [Option.some.injEq, Prod.mk.injEq] at h
            obtain ⟨_, rfl⟩ := h
            rw [upd_hasBox (by rw [hbb]; rfl) hb]
            exact hb
          · cases h
        · cases h
      · cases h

theorem eff_hasBox {s : St} {i : AIns} {x : AV} {H1 : Hp} (h : eff (mixC S LB C) ns s i = some (x, H1)) {id : Id} (hb : hasBox (s.H id) = true) : hasBox (H1 id) = true := by
  obtain ⟨g, hg, h⟩ := eff_guard h
  unfold effG at h
  split at h
  · split at h
    · simp only [Option.some.injEq, Prod.mk.injEq] at h
      rw [← h.2]; exact hb
    · cases g with
      | true => cases h
      | false =>
        simp only [cond_false, Option.some.injEq, Prod.mk.injEq] at h
        rw [← h.2]; exact hb
  · cases g with
    | true => exact semE_hasBox h hb
    | false =>
      simp only [cond_false, Option.some.injEq, Prod.mk.injEq] at h
      rw [← h.2]; exact hb

theorem eff_box {D : FuncId → Con} {s : St} {i : AIns} (hc : (∃ z, i.op = .a (.alloc z)) ∨ ∃ z, i.op = .a (.bx z)) {x : AV} {H1 : Hp} (h : eff D ns s i = some (x, H1)) :
    x = .val (.tup []) ∨ (x = .box (idOf i ns) 0 ∧ hasBox (H1 (idOf i ns)) = true) := by
  obtain ⟨g, hg, h⟩ := eff_guard h
  have hcalm : ¬ (calm i.op && i.guard.isSome) = true := by rcases hc with ⟨z, ho⟩ | ⟨z, ho⟩ <;> rw [ho] <;> simp [calm]
  unfold effG at h
  rw [if_neg hcalm] at h
  cases g with
  | false =>
    simp only [cond_false, Option.some.injEq, Prod.mk.injEq] at h
    exact .inl h.1.symm
  | true =>
    simp only [cond_true] at h
    rcases hc with ⟨z, ho⟩ | ⟨z, ho⟩
    · rw [ho] at h
      simp only [semE, semA] at h
      split at h
      · cases h
      · split at h
        · simp only [Option.map_some, Option.some.injEq, Prod.mk.injEq] at h
          obtain ⟨rfl, rfl⟩ := h
          exact .inr ⟨rfl, by rw [upd_same]; rfl⟩
        · cases h
    · rw [ho] at h
      simp only [semE, semA] at h
      split at h
      · cases h
      · split at h
        · split at h
          · simp only [Option.map_some, Option.some.injEq, Prod.mk.injEq] at h
            obtain ⟨rfl, rfl⟩ := h
            exact .inr ⟨rfl, by rw [upd_same]; rfl⟩
          · cases h
        · cases h

theorem InvB.step {L : List (Nat × Nat)} {EL AL : List Nat} {ids : Nat → Id} {s s' : St} {i : AIns} (hok : okB L EL AL i = true) (hAL : ∀ d ∈ AL, ids d = d :: ns) (hI : InvB L EL ids s) (h : AI.step (mixC S LB C) ns s i = some s') : InvB L EL ids s' := by
  obtain ⟨x, H1, he, rfl⟩ := step_inv h
  have hbox : ∀ id, hasBox (s.H id) = true → hasBox (H1 id) = true := fun id => eff_hasBox he
  have may : ∀ {i : Id} {b : Option Blk} {y x : AV}, pB0 i b y → (x = y ∨ ∃ c, x = .may c y) → pB i b x := by
    rintro i b y x hy (rfl | ⟨c, rfl⟩)
    · cases x <;> first | exact hy | exact hy.elim
    · exact hy
  have mayn : ∀ {y x : AV}, nB0 y → (x = y ∨ ∃ c, x = .may c y) → nB x := by
    rintro y x hy (rfl | ⟨c, rfl⟩)
    · cases x <;> first | exact hy | exact hy.elim
    · exact hy
  refine ⟨fun t c hc => ?_, fun t ht => ?_⟩
  · simp only [look_put]
    split
    · rename_i hd
      unfold okB at hok
      rw [hd.1] at hok
      simp only [hc, Bool.and_eq_true] at hok
      have hop := hok.1
      have base : ∀ b g, lk L b = some c → pB0 (ids c) (H1 (ids c)) (unw g (look s.env.l b)) := fun b g hb => pB_unw (pB_mono (hbox _) (hI.cl b c hb)) g
      split at hop
      · rename_i o b ho
        obtain ⟨_, ⟨g, gp, y, h1, h2⟩ | h2⟩ := eff_p ho he
        · simp only [semP, evE] at h1
          exact may (moved_pB (base b g (by simpa using hop)) h1) h2
        · rw [h2]; trivial
      · rename_i n z b j ho
        obtain ⟨_, ⟨g, gp, y, h1, h2⟩ | h2⟩ := eff_p ho he
        · simp only [semP, evE] at h1
          split at h1
          · split at h1
            · exact may (moved_pB (base b g (by simpa using hop)) h1) h2
            · cases h1
          · cases h1
        · rw [h2]; trivial
      · rename_i b ho
        obtain ⟨_, ⟨g, gp, y, h1, h2⟩ | h2⟩ := eff_p ho he
        · simp only [semP, evE, Option.some.injEq] at h1
          have hb := base b g (by simpa using hop)
          rw [h1] at hb
          exact may hb h2
        · rw [h2]; trivial
      · rename_i b ho
        obtain ⟨_, ⟨g, gp, y, h1, h2⟩ | h2⟩ := eff_p ho he
        · simp only [semP, evE] at h1
          have hb := base b g (by simpa using hop)
          generalize unw g (look s.env.l b) = z at hb h1
          have : z = y := by
            split at h1 <;> first | (cases h1; rfl) | cases h1
          rw [this] at hb
          exact may hb h2
        · rw [h2]; trivial
      · rename_i z ho
        simp only [Bool.and_eq_true] at hop
        have hcd : c = t := Nat.eq_of_beq_eq_true hop.1
        have hi : ids c = idOf i ns := by
          rw [hcd, hAL t (by simpa using hop.2)]
          unfold idOf
          rw [hd.1]
          rfl
        rcases eff_box (.inl ⟨z, ho⟩) he with h2 | ⟨h2, h3⟩
        · rw [h2]; trivial
        · rw [h2, hi]; exact ⟨rfl, h3⟩
      · rename_i z ho
        simp only [Bool.and_eq_true] at hop
        have hcd : c = t := Nat.eq_of_beq_eq_true hop.1
        have hi : ids c = idOf i ns := by
          rw [hcd, hAL t (by simpa using hop.2)]
          unfold idOf
          rw [hd.1]
          rfl
        rcases eff_box (.inr ⟨z, ho⟩) he with h2 | ⟨h2, h3⟩
        · rw [h2]; trivial
        · rw [h2, hi]; exact ⟨rfl, h3⟩
      · cases hop
    · exact pB_mono (hbox _) (hI.cl t c hc)
  · simp only [look_put]
    split
    · rename_i hd
      unfold okB at hok
      rw [hd.1] at hok
      simp only [ht, Bool.and_eq_true, Bool.not_true, Bool.false_or] at hok
      have hop := hok.2
      have base : ∀ b g, EL.contains b = true → nB0 (unw g (look s.env.l b)) := fun b g hb => nB_unw (hI.el b hb) g
      split at hop
      · rename_i s' b j ho
        obtain ⟨_, ⟨g, gp, y, h1, h2⟩ | h2⟩ := eff_p ho he
        · simp only [semP] at h1
          refine mayn ?_ h2
          split at h1
          · split at h1
            · split at h1
              · split at h1
                · cases h1; trivial
                · cases h1
              · cases h1
            · split at h1
              · cases h1; trivial
              · cases h1
            · cases h1
          · cases h1
        · rw [h2]; trivial
      · rename_i o b ho
        obtain ⟨_, ⟨g, gp, y, h1, h2⟩ | h2⟩ := eff_p ho he
        · simp only [semP, evE] at h1
          exact mayn (moved_nB (base b g hop) h1) h2
        · rw [h2]; trivial
      · rename_i n z b j ho
        obtain ⟨_, ⟨g, gp, y, h1, h2⟩ | h2⟩ := eff_p ho he
        · simp only [semP, evE] at h1
          split at h1
          · split at h1
            · exact mayn (moved_nB (base b g hop) h1) h2
            · cases h1
          · cases h1
        · rw [h2]; trivial
      · rename_i b ho
        obtain ⟨_, ⟨g, gp, y, h1, h2⟩ | h2⟩ := eff_p ho he
        · simp only [semP, evE, Option.some.injEq] at h1
          have hb := base b g hop
          rw [h1] at hb
          exact mayn hb h2
        · rw [h2]; trivial
      · rename_i b ho
        obtain ⟨_, ⟨g, gp, y, h1, h2⟩ | h2⟩ := eff_p ho he
        · simp only [semP, evE] at h1
          have hb := base b g hop
          generalize unw g (look s.env.l b) = z at hb h1
          have : z = y := by
            split at h1 <;> first | (cases h1; rfl) | cases h1
          rw [this] at hb
          exact mayn hb h2
        · rw [h2]; trivial
      · cases hop
    · exact hI.el t ht

end
end Go.AI

namespace Go.AI
section
variable {C : FuncId → Con} {ns : Id} {S : List FuncId} {LB : List (FuncId × LibK)} {L : List (Nat × Nat)} {EL : List Nat} {ids : Nat → Id}

/-- What a load comes to. -/
def loadE (env : Env) (H : Hp) (guard : Option (Nat × Bool)) (r : Bool → Option AV) : Option (AV × Hp) :=
  match gv env guard with
  | some g => if guard.isSome = true then (match r g with
      | some v => some (.may g v, H)
      | none => bif g then none else some (.val (.tup []), H))
    else bif g then (r true).map fun v => (v, H) else some (.val (.tup []), H)
  | none => none

theorem eff_load {D : FuncId → Con} {env : Env} {H : Hp} {i : AIns} {n : Nat} {agg : Bool} {x : Nat} (ho : i.op = .r (.load n agg (.t x))) :
    eff D ns ⟨env, H⟩ i = loadE env H i.guard fun g => loadA H n agg (unw g (look env.l x)) := by
  unfold eff loadE effG
  simp only
  cases gv env i.guard with
  | none => rfl
  | some g =>
    simp only [ho, semE, semR, calm, Bool.true_and, evE]
    cases hg : i.guard with
    | none =>
      simp only [Option.isSome_none, Bool.false_eq_true, if_false]
    | some p =>
      simp only [Option.isSome_some, if_true]
      cases loadA H n agg (unw g (look env.l x)) <;> rfl

theorem loadE_heap {env : Env} {H : Hp} {guard : Option (Nat × Bool)} {r : Bool → Option AV} {y : AV} {H1 : Hp} (h : loadE env H guard r = some (y, H1)) : H1 = H ∧ ∀ H', loadE env H' guard r = some (y, H') := by
  unfold loadE at h ⊢
  split at h
  · rename_i g hg
    split at h
    · rename_i hs
      split at h
      · rename_i v hv
        simp only [Option.some.injEq, Prod.mk.injEq] at h
        refine ⟨h.2.symm, fun H' => ?_⟩
        rw [if_pos hs]
        simp only [hv, h.1]
      · rename_i hv
        cases g with
        | true => cases h
        | false =>
          simp only [cond_false, Option.some.injEq, Prod.mk.injEq] at h
          refine ⟨h.2.symm, fun H' => ?_⟩
          rw [if_pos hs]
          simp only [hv, cond_false, h.1]
    · rename_i hs
      cases g with
      | true =>
        simp only [cond_true, Option.map_eq_some_iff, Prod.mk.injEq] at h
        obtain ⟨v, h1, h2, h3⟩ := h
        refine ⟨h3.symm, fun H' => ?_⟩
        rw [if_neg hs, h1, ← h2]
        rfl
      | false =>
        simp only [cond_false, Option.some.injEq, Prod.mk.injEq] at h
        refine ⟨h.2.symm, fun H' => ?_⟩
        rw [if_neg hs, ← h.1]
        rfl
  · cases h

/-- Two heaps that a load doesn't tell apart. -/
theorem eff_load_same {D : FuncId → Con} {env : Env} {H H' : Hp} {i : AIns} {n : Nat} {agg : Bool} {x : Nat} (ho : i.op = .r (.load n agg (.t x))) (hs : ∀ g, loadA H' n agg (unw g (look env.l x)) = loadA H n agg (unw g (look env.l x))) {y : AV} {H1 : Hp} (h : eff D ns ⟨env, H⟩ i = some (y, H1)) : H1 = H ∧ eff D ns ⟨env, H'⟩ i = some (y, H') := by
  rw [eff_load ho] at h ⊢
  obtain ⟨h1, h2⟩ := loadE_heap h
  refine ⟨h1, ?_⟩
  have : (fun g => loadA H' n agg (unw g (look env.l x))) = fun g => loadA H n agg (unw g (look env.l x)) := funext hs
  rw [this]
  exact h2 H'

theorem loadA_cl {H H' : Hp} {n : Nat} {agg : Bool} {v : AV} {i : Id} (hv : pB0 i (H i) v) (h : hasBox (H i) = true → H' i = H i) : loadA H' n agg v = loadA H n agg v := by
  cases v <;> try rfl
  · rename_i d
    cases d <;> rfl
  · rename_i id o
    obtain ⟨rfl, hb⟩ := hv
    simp only [loadA, h hb]
  · exact hv.elim
theorem loadA_el {H H' : Hp} {n : Nat} {agg : Bool} {v : AV} {b : Id} (hv : nB0 v) (hb : hasBox (H b) = true) (hb' : hasBox (H' b) = true) (h : ∀ id, id ≠ b → H' id = H id) : loadA H' n agg v = loadA H n agg v := by
  cases v <;> try rfl
  · rename_i d
    cases d <;> rfl
  · exact hv.elim
  · rename_i id i o
    by_cases e : id = b
    · subst e
      have : ∀ H : Hp, hasBox (H id) = true → loadA H n agg (.elt id i o) = none := by
        intro H hx
        simp only [loadA]
        cases hq : H id with
        | none => rfl
        | some b => cases b <;> first | rfl | (rw [hq] at hx; cases hx)
      rw [this _ hb, this _ hb']
    · simp only [loadA, h id e]

def isLc (L : List (Nat × Nat)) (i : AIns) : Bool := match i.op with
  | .r (.load _ _ (.t x)) => (lk L x).isSome
  | _ => false
def isLe (EL : List Nat) (i : AIns) : Bool := match i.op with
  | .r (.load _ _ (.t x)) => EL.contains x
  | _ => false
def isSt (L : List (Nat × Nat)) (i : AIns) : Bool := match i.op with
  | .w (.store _ (.t y) _) => (lk L y).isSome
  | _ => false
/-- Is an operation a call of the library? -/
def isLb (LB : List (FuncId × LibK)) : AOp → Bool
  | .r (.call f _) => (libAt LB f).isSome
  | _ => false
def isSc (S : List FuncId) (LB : List (FuncId × LibK)) : AOp → Bool
  | .r (.call f _) => S.contains f && (libAt LB f).isNone
  | _ => false
/-- Does an operation leave all boxes as they are? -/
def keepsB (S : List FuncId) (LB : List (FuncId × LibK)) (o : AOp) : Bool := match o with
  | .p _ => true
  | .r o => flatOp S LB (.r o) || isLb LB (.r o) || isSc S LB (.r o)
  | .a _ => true
  | .w (.app ..) => true
  | _ => false

theorem keeps_at {s : St} {i : AIns} (hk : keepsB S LB i.op = true) {x : AV} {H1 : Hp} (h : eff (mixC S LB C) ns s i = some (x, H1)) {id : Id} (hb : hasBox (s.H id) = true) : H1 id = s.H id := by
  have key : ∀ {ρ : Opd → AV} {ρp : Bool → Opd → AV}, semE (mixC S LB C) s.H ρ ρp ns (idOf i ns) i.op = some (x, H1) → H1 id = s.H id := by
    intro ρ ρp h
    cases ho : i.op with
    | p o =>
      rw [ho] at h
      simp only [semE, Option.map_eq_some_iff, Prod.mk.injEq] at h
      obtain ⟨_, _, _, rfl⟩ := h
      rfl
    | r o =>
      rw [ho] at h hk
      simp only [keepsB, Bool.or_eq_true] at hk
      rcases hk with (hk | hk) | hk
      · rw [semE_mix hk] at h
        have : cls (.r o) = 1 := rfl
        rw [(semE1 (H' := s.H) this h).1]
      · cases o with
        | call f l =>
          obtain ⟨k, hl⟩ := Option.isSome_iff_exists.1 hk
          have e : mixC S LB C f = .shared (libSpec k) := by unfold mixC; rw [hl]
          simp only [semE] at h
          unfold semC at h
          rw [e] at h
          obtain ⟨bo, blk, _, h2, h3, rfl, _⟩ := libSpec_u h
          exact killU_hasBox h2 h3 hb
        | _ => cases hk
      · cases o with
        | call f l =>
          simp only [isSc, Bool.and_eq_true, Option.isNone_iff_eq_none] at hk
          have e : mixC S LB C f = (match C f with
            | .val spec => .shared fun _ args H => rowC spec H args
            | _ => .none) := by unfold mixC; rw [hk.2]; simp only [hk.1] <;> cases C f <;> rfl
          simp only [semE] at h
          unfold semC at h
          rw [e] at h
          cases hq : C f with
          | val spec =>
            rw [hq] at h
            simp only at h
            obtain ⟨ds, ids, r, _, _, _, hall, hf⟩ := rowC_inv h
            have hni : id ∉ (if r.flat then [] else ids) := by
              intro hm
              have := hall id hm
              unfold rowAt at this
              unfold hasBox at hb
              cases hq : s.H id with
              | none => rw [hq] at this; cases this
              | some b => rw [hq] at this hb; cases b <;> simp at this hb
            exact fix_other hf (by rw [← Bool.not_eq_true, List.contains_iff_mem]; exact hni)
          | none => rw [hq] at h; cases h
          | fresh s spec => rw [hq] at h; cases h
          | shared spec => rw [hq] at h; cases h
        | _ => cases hk
    | a o =>
      rw [ho] at h
      simp only [semE] at h
      split at h
      · cases h
      · rename_i hid
        have hid : s.H (idOf i ns) = none := by cases hq : s.H (idOf i ns) <;> simp_all
        simp only [Option.map_eq_some_iff, Prod.mk.injEq] at h
        obtain ⟨_, _, _, rfl⟩ := h
        exact upd_hasBox (by rw [hid]; rfl) hb
    | w o =>
      rw [ho] at h hk
      cases o with
      | app s' bytes str y z =>
        simp only [semE, semW] at h
        split at h
        · split at h
          · cases h
          · rename_i hid
            have hid : s.H (idOf i ns) = none := by cases hq : s.H (idOf i ns) <;> simp_all
            obtain ⟨bo, blk, _, h2, rfl, _⟩ := appRes_u h
            cases bo with
            | none => exact upd_hasBox (by rw [hid]; rfl) hb
            | some b =>
              obtain ⟨s1, es1, hbb⟩ := h2 b rfl
              show upd (upd s.H b (some .dead)) (idOf i ns) (some blk) id = s.H id
              have e1 : upd s.H b (some .dead) id = s.H id := upd_hasBox (by rw [hbb]; rfl) hb
              have hn : upd s.H b (some .dead) (idOf i ns) = none := by
                unfold upd
                rw [if_neg (fun e => by subst e; rw [hid] at hbb; cases hbb), hid]
              rw [upd_hasBox (by rw [hn]; rfl) (by rw [e1]; exact hb), e1]
        · cases h
      | store => cases hk
      | cpy => cases hk
      | s2s => cases hk
  obtain ⟨g, hg, h⟩ := eff_guard h
  unfold effG at h
  split at h
  · split at h
    · simp only [Option.some.injEq, Prod.mk.injEq] at h
      rw [← h.2]
    · cases g with
      | true => cases h
      | false =>
        simp only [cond_false, Option.some.injEq, Prod.mk.injEq] at h
        rw [← h.2]
  · cases g with
    | true => exact key h
    | false =>
      simp only [cond_false, Option.some.injEq, Prod.mk.injEq] at h
      rw [← h.2]

theorem isLc_inv {i : AIns} (h : isLc L i = true) : ∃ n agg x c, i.op = .r (.load n agg (.t x)) ∧ lk L x = some c := by
  unfold isLc at h
  split at h
  · rename_i n agg x ho
    obtain ⟨c, hc⟩ := Option.isSome_iff_exists.1 h
    exact ⟨n, agg, x, c, ho, hc⟩
  · cases h

/-- A load from a class, ahead of what leaves boxes as they are. -/
theorem comm_lk {k i : AIns} (ha : apartI k i = true) (hk : isLc L k = true) (hi : keepsB S LB i.op = true) : Comm (mixC S LB C) ns (InvB L EL ids) k i := comm_of ha fun s x y H1 H2 hI e1 e2 => by
  obtain ⟨n, agg, t, c, ho, hc⟩ := isLc_inv hk
  obtain ⟨rfl, _⟩ := eff_load_same (H' := s.H) ho (fun _ => rfl) (show eff (mixC S LB C) ns ⟨s.env, s.H⟩ k = some (x, H1) from e1)
  refine ⟨H2, e2, ?_⟩
  exact (eff_load_same ho (fun g => loadA_cl (pB_unw (hI.cl t c hc) g) fun hb => keeps_at (s := ⟨s.env, s.H⟩) hi e2 hb) (show eff (mixC S LB C) ns ⟨s.env, s.H⟩ k = some (x, s.H) from e1)).2

/-- What leaves boxes as they are, ahead of a load from a class. -/
theorem comm_kl {k i : AIns} (ha : apartI k i = true) (hk : keepsB S LB k.op = true) (hi : isLc L i = true) : Comm (mixC S LB C) ns (InvB L EL ids) k i := comm_of ha fun s x y H1 H2 hI e1 e2 => by
  obtain ⟨n, agg, t, c, ho, hc⟩ := isLc_inv hi
  have hb1 : hasBox (s.H (ids c)) = true → H1 (ids c) = s.H (ids c) := fun hb => keeps_at hk e1 hb
  obtain ⟨rfl, q⟩ := eff_load_same (H' := s.H) ho (fun g => by
    have := loadA_cl (H' := H1) (n := n) (agg := agg) (pB_unw (hI.cl t c hc) g) hb1
    exact this.symm) e2
  exact ⟨s.H, q, e1⟩

/-- What a store to a class does. -/
theorem eff_store {s : St} {i : AIns} {n : Nat} {t : Nat} {v : Opd} {c : Nat} (ho : i.op = .w (.store n (.t t) v)) (hc : lk L t = some c) (hI : InvB L EL ids s) {D : FuncId → Con} {y : AV} {H2 : Hp} (h : eff D ns s i = some (y, H2)) :
    (∀ id, id ≠ ids c → H2 id = s.H id) ∧ (H2 = s.H ∨ (hasBox (s.H (ids c)) = true ∧ hasBox (H2 (ids c)) = true)) := by
  obtain ⟨g, hg, h⟩ := eff_guard h
  have hcalm : ¬ (calm i.op && i.guard.isSome) = true := by rw [ho]; simp [calm]
  unfold effG at h
  rw [if_neg hcalm] at h
  cases g with
  | false =>
    simp only [cond_false, Option.some.injEq, Prod.mk.injEq] at h
    rw [← h.2]
    exact ⟨fun _ _ => rfl, .inl rfl⟩
  | true =>
    simp only [cond_true, ho, semE, semW, evE] at h
    split at h
    · split at h
      · have hp := pB_unw (hI.cl t c hc) true
        generalize unw true (look s.env.l t) = p at h hp
        cases p <;> simp only [reduceCtorEq] at h
        · rename_i b o
          obtain ⟨rfl, hb⟩ := hp
          split at h
          · rename_i cells hcs
            split at h
            · simp only [Option.some.injEq, Prod.mk.injEq] at h
              obtain ⟨_, rfl⟩ := h
              exact ⟨fun id hne => upd_other _ _ hne, .inr ⟨hb, by rw [upd_same]; rfl⟩⟩
            · cases h
          · cases h
        · exact hp.elim
      · cases h
    · cases h

theorem isSt_inv {i : AIns} (h : isSt L i = true) : ∃ n t v c, i.op = .w (.store n (.t t) v) ∧ lk L t = some c := by
  unfold isSt at h
  split at h
  · rename_i n t v ho
    obtain ⟨c, hc⟩ := Option.isSome_iff_exists.1 h
    exact ⟨n, t, v, c, ho, hc⟩
  · cases h
theorem isLe_inv {i : AIns} (h : isLe EL i = true) : ∃ n agg x, i.op = .r (.load n agg (.t x)) ∧ EL.contains x = true := by
  unfold isLe at h
  split at h
  · rename_i n agg x ho
    exact ⟨n, agg, x, ho, h⟩
  · cases h

theorem load_st {s : St} {i k : AIns} (hk : isLe EL k = true) (hi : isSt L i = true) (hI : InvB L EL ids s) {y : AV} {H2 : Hp} {D : FuncId → Con} (h : eff D ns s i = some (y, H2)) :
    ∃ n agg t, k.op = .r (.load n agg (.t t)) ∧ ∀ g, loadA H2 n agg (unw g (look s.env.l t)) = loadA s.H n agg (unw g (look s.env.l t)) := by
  obtain ⟨n, agg, t, ho, ht⟩ := isLe_inv hk
  obtain ⟨n', t', v, c, hoi, hc⟩ := isSt_inv hi
  refine ⟨n, agg, t, ho, fun g => ?_⟩
  obtain ⟨q1, q2 | ⟨q2, q3⟩⟩ := eff_store hoi hc hI h
  · rw [q2]
  · exact loadA_el (nB_unw (hI.el t ht) g) q2 q3 q1

theorem comm_es {k i : AIns} (ha : apartI k i = true) (hk : isLe EL k = true) (hi : isSt L i = true) : Comm (mixC S LB C) ns (InvB L EL ids) k i := comm_of ha fun s x y H1 H2 hI e1 e2 => by
  obtain ⟨n0, agg0, t0, ho0, _⟩ := isLe_inv hk
  obtain ⟨rfl, _⟩ := eff_load_same (H' := s.H) ho0 (fun _ => rfl) (show eff (mixC S LB C) ns ⟨s.env, s.H⟩ k = some (x, H1) from e1)
  obtain ⟨n, agg, t, ho, hl⟩ := load_st hk hi hI e2
  exact ⟨H2, e2, (eff_load_same ho hl (show eff (mixC S LB C) ns ⟨s.env, s.H⟩ k = some (x, s.H) from e1)).2⟩
theorem comm_se {k i : AIns} (ha : apartI k i = true) (hk : isSt L k = true) (hi : isLe EL i = true) : Comm (mixC S LB C) ns (InvB L EL ids) k i := comm_of ha fun s x y H1 H2 hI e1 e2 => by
  obtain ⟨n, agg, t, ho, hl⟩ := load_st hi hk hI e1
  obtain ⟨rfl, q⟩ := eff_load_same (H' := s.H) ho (fun g => (hl g).symm) e2
  exact ⟨s.H, q, e1⟩

/-- A store to an element leaves all variables as they are. -/
def isSe (EL : List Nat) (i : AIns) : Bool := match i.op with
  | .w (.store _ (.t y) _) => EL.contains y
  | _ => false
theorem anyBox_of {H : Hp} {ids : List Id} (h : anyBox H ids = false) {id : Id} (hb : hasBox (H id) = true) : ids.contains id = false := by
  induction ids with
  | nil => rfl
  | cons i l ih =>
    simp only [anyBox, Bool.or_eq_false_iff] at h
    rw [List.contains_cons, ih h.2, Bool.or_false]
    cases hq : (id == i) with
    | false => rfl
    | true =>
      have : id = i := by simpa using hq
      subst this
      rw [hb] at h
      cases h.1
theorem eff_storeE {s : St} {i : AIns} (hi : isSe EL i = true) (hI : InvB L EL ids s) {D : FuncId → Con} {y : AV} {H2 : Hp} (h : eff D ns s i = some (y, H2)) {id : Id} (hb : hasBox (s.H id) = true) : H2 id = s.H id := by
  unfold isSe at hi
  split at hi
  · rename_i n t v ho
    obtain ⟨g, hg, h⟩ := eff_guard h
    have hcalm : ¬ (calm i.op && i.guard.isSome) = true := by rw [ho]; simp [calm]
    unfold effG at h
    rw [if_neg hcalm] at h
    cases g with
    | false =>
      simp only [cond_false, Option.some.injEq, Prod.mk.injEq] at h
      rw [← h.2]
    | true =>
      simp only [cond_true, ho, semE, semW, evE] at h
      split at h
      · split at h
        · have hp := nB_unw (hI.el t hi) true
          generalize unw true (look s.env.l t) = p at h hp
          cases p <;> simp only [reduceCtorEq] at h
          · exact hp.elim
          · rename_i b k o
            split at h
            · rename_i s' es ds ids' hbb hd
              split at h
              · rename_i es' H' hst hfix
                split at h
                · cases h
                · rename_i hno
                  simp only [Option.some.injEq, Prod.mk.injEq] at h
                  obtain ⟨_, rfl⟩ := h
                  simp only [Bool.or_eq_true, not_or, Bool.not_eq_true] at hno
                  have hne : id ≠ b := by
                    intro e
                    subst e
                    rw [hbb] at hb
                    cases hb
                  rw [upd_other _ _ hne]
                  exact fix_other hfix (anyBox_of hno.2 hb)
              · cases h
            · cases h
        · cases h
      · cases h
  · cases hi
theorem comm_lt {k i : AIns} (ha : apartI k i = true) (hk : isLc L k = true) (hi : isSe EL i = true) : Comm (mixC S LB C) ns (InvB L EL ids) k i := comm_of ha fun s x y H1 H2 hI e1 e2 => by
  obtain ⟨n, agg, t, c, ho, hc⟩ := isLc_inv hk
  obtain ⟨rfl, _⟩ := eff_load_same (H' := s.H) ho (fun _ => rfl) (show eff (mixC S LB C) ns ⟨s.env, s.H⟩ k = some (x, H1) from e1)
  refine ⟨H2, e2, ?_⟩
  exact (eff_load_same ho (fun g => loadA_cl (pB_unw (hI.cl t c hc) g) fun hb => eff_storeE (s := ⟨s.env, s.H⟩) hi hI e2 hb) (show eff (mixC S LB C) ns ⟨s.env, s.H⟩ k = some (x, s.H) from e1)).2
theorem comm_tl {k i : AIns} (ha : apartI k i = true) (hk : isSe EL k = true) (hi : isLc L i = true) : Comm (mixC S LB C) ns (InvB L EL ids) k i := comm_of ha fun s x y H1 H2 hI e1 e2 => by
  obtain ⟨n, agg, t, c, ho, hc⟩ := isLc_inv hi
  have hb1 : hasBox (s.H (ids c)) = true → H1 (ids c) = s.H (ids c) := fun hb => eff_storeE hk hI e1 hb
  obtain ⟨rfl, q⟩ := eff_load_same (H' := s.H) ho (fun g => by
    have := loadA_cl (H' := H1) (n := n) (agg := agg) (pB_unw (hI.cl t c hc) g) hb1
    exact this.symm) e2
  exact ⟨s.H, q, e1⟩

/-- A load and a store of classes that have to be of other blocks. -/
def isLS (L needs : List (Nat × Nat)) (k i : AIns) : Bool := match k.op, i.op with
  | .r (.load _ _ (.t x)), .w (.store _ (.t y) _) => (match lk L x, lk L y with
    | some c, some d => needs.contains (c, d)
    | _, _ => false)
  | _, _ => false
theorem isLS_inv {needs : List (Nat × Nat)} {k i : AIns} (h : isLS L needs k i = true) : ∃ n agg x c n' y v d, k.op = .r (.load n agg (.t x)) ∧ lk L x = some c ∧ i.op = .w (.store n' (.t y) v) ∧ lk L y = some d ∧ (c, d) ∈ needs := by
  unfold isLS at h
  split at h
  · rename_i n agg x n' y v h1 h2
    split at h
    · rename_i c d hc hd
      exact ⟨n, agg, x, c, n', y, v, d, h1, hc, h2, hd, by simpa using h⟩
    · cases h
  · cases h
theorem comm_ls {needs : List (Nat × Nat)} (hn : ∀ p ∈ needs, ids p.1 ≠ ids p.2) {k i : AIns} (ha : apartI k i = true) (h : isLS L needs k i = true) : Comm (mixC S LB C) ns (InvB L EL ids) k i := comm_of ha fun s x y H1 H2 hI e1 e2 => by
  obtain ⟨n, agg, t, c, n', t', v, d, ho, hc, hoi, hd, hm⟩ := isLS_inv h
  obtain ⟨rfl, _⟩ := eff_load_same (H' := s.H) ho (fun _ => rfl) (show eff (mixC S LB C) ns ⟨s.env, s.H⟩ k = some (x, H1) from e1)
  obtain ⟨q1, _⟩ := eff_store hoi hd hI e2
  exact ⟨H2, e2, (eff_load_same ho (fun g => loadA_cl (pB_unw (hI.cl t c hc) g) fun _ => q1 _ (hn _ hm)) (show eff (mixC S LB C) ns ⟨s.env, s.H⟩ k = some (x, s.H) from e1)).2⟩
theorem comm_sl {needs : List (Nat × Nat)} (hn : ∀ p ∈ needs, ids p.1 ≠ ids p.2) {k i : AIns} (ha : apartI k i = true) (h : isLS L needs i k = true) : Comm (mixC S LB C) ns (InvB L EL ids) k i := comm_of ha fun s x y H1 H2 hI e1 e2 => by
  obtain ⟨n, agg, t, c, n', t', v, d, ho, hc, hoi, hd, hm⟩ := isLS_inv h
  obtain ⟨q1, _⟩ := eff_store hoi hd hI e1
  obtain ⟨rfl, q⟩ := eff_load_same (H' := s.H) ho (fun g => by
    have := loadA_cl (H' := H1) (n := n) (agg := agg) (pB_unw (hI.cl t c hc) g) fun _ => q1 _ (hn _ hm)
    exact this.symm) e2
  exact ⟨s.H, q, e1⟩
end
end Go.AI

namespace Go.AI

/-- The frozen blocks of one heap are another's. -/
def LeF (H H' : Hp) : Prop := ∀ id b, H id = some b → ((∃ s es, b = .frow s es) ∨ ∃ cells, b = .fbox cells) → H' id = some b

theorem argD_LeF {H H' : Hp} (h : LeF H H') : ∀ (k : Nat), (∀ x d, argD H k x = some (d, []) → argD H' k x = some (d, [])) ∧ (∀ l ds, argDs H k l = some (ds, []) → argDs H' k l = some (ds, []))
  | 0 => ⟨fun _ _ h => by simp [argD] at h, fun _ _ h => by simp [argDs] at h⟩
  | k + 1 => by
    obtain ⟨ih1, ih2⟩ := argD_LeF h k
    constructor
    · intro x r hr
      cases x <;> simp only [argD, reduceCtorEq] at hr ⊢ <;> try exact hr
      case row id s o n =>
        cases hq : H id with
        | none => rw [hq] at hr; cases hr
        | some c =>
          cases c with
          | row s' es =>
            rw [hq] at hr
            dsimp only at hr
            split at hr
            · simp at hr
            · cases hr
          | frow s' es => rw [h _ _ hq (.inl ⟨_, _, rfl⟩)]; rw [hq] at hr; exact hr
          | fbox cells => rw [h _ _ hq (.inr ⟨_, rfl⟩)]; rw [hq] at hr; exact hr
          | dead => rw [hq] at hr; cases hr
          | fns s es => rw [hq] at hr; cases hr
          | box cells =>
            rw [hq] at hr
            dsimp only [cellRow] at hr
            cases hd : datas cells with
            | none => rw [hd] at hr; cases hr
            | some ds =>
              rw [hd] at hr
              dsimp only at hr
              by_cases hl : ds.length ≤ 65536
              · rw [if_pos hl] at hr
                dsimp only at hr
                split at hr
                · simp at hr
                · cases hr
              · rw [if_neg hl] at hr; cases hr
      case box id o =>
        split at hr
        · simp only [Option.map_eq_some_iff, Prod.mk.injEq] at hr
          obtain ⟨a, ha, _, hr⟩ := hr
          cases hr
        · rename_i cells hb; rw [h _ _ hb (.inr ⟨_, rfl⟩)]; exact hr
        · cases hr
      case elt id i o =>
        split at hr
        · rename_i s es hb; rw [h _ _ hb (.inl ⟨_, _, rfl⟩)]; exact hr
        · simp only [Option.map_eq_some_iff, Prod.mk.injEq] at hr
          obtain ⟨a, ha, _, hr⟩ := hr
          cases hr
        · cases hr
      case agg l =>
        simp only [Option.map_eq_some_iff, Prod.mk.injEq] at hr ⊢
        obtain ⟨⟨a, b⟩, ha, h1, h2⟩ := hr
        simp only at h2
        subst h2
        exact ⟨_, ih2 _ _ ha, h1, rfl⟩
      case clo f l =>
        simp only [Option.map_eq_some_iff, Prod.mk.injEq] at hr ⊢
        obtain ⟨⟨a, b⟩, ha, h1, h2⟩ := hr
        simp only at h2
        subst h2
        exact ⟨_, ih2 _ _ ha, h1, rfl⟩
    · intro l r hr
      cases l with
      | nil => exact hr
      | cons x l =>
        simp only [argDs] at hr ⊢
        split at hr
        · rename_i d a ds b h1 h2
          simp only [Option.some.injEq, Prod.mk.injEq, List.append_eq_nil_iff] at hr
          obtain ⟨hr, rfl, rfl⟩ := hr
          rw [ih1 _ _ h1, ih2 _ _ h2, ← hr]
          rfl
        · cases hr

section
variable {C : FuncId → Con} {ns : Id} {S : List FuncId} {LB : List (FuncId × LibK)} {L : List (Nat × Nat)} {EL : List Nat} {ids : Nat → Id}

theorem setParts_LeF {H H' : Hp} (h : LeF H H') {ρ : Opd → AV} {s : Nat} : ∀ {l : List (Nat × Opd)} {es r : List (List DV)}, setParts H ρ s es l = some r → setParts H' ρ s es l = some r
  | [], es, r, hr => hr
  | (i, x) :: l, es, r, hr => by
    simp only [setParts] at hr ⊢
    split at hr
    · rename_i cs hc
      split at hr
      · rename_i ds hd
        rw [(argD_LeF h 99).2 _ _ hd]
        simp only
        split at hr
        · rename_i hh
          rw [if_pos hh]
          exact setParts_LeF h hr
        · cases hr
      · cases hr
    · cases hr

/-- What makes a block, and reads no block of one's own. -/
def mk4 : AOp → Bool
  | .a (.alloc _) => true
  | .a (.bx _) => true
  | .a (.bsl ..) => true
  | _ => false

theorem eff_mk4 {D : FuncId → Con} {s : St} {i : AIns} (hc : mk4 i.op = true) {x : AV} {H1 : Hp} (h : eff D ns s i = some (x, H1)) :
    (∃ b, ((∃ cells, b = Blk.box cells) ∨ ∃ s es, b = Blk.row s es) ∧ s.H (idOf i ns) = none ∧ H1 = upd s.H (idOf i ns) (some b) ∧ ∀ H', LeF s.H H' → H' (idOf i ns) = none → eff D ns ⟨s.env, H'⟩ i = some (x, upd H' (idOf i ns) (some b))) ∨ (H1 = s.H ∧ ∀ H', eff D ns ⟨s.env, H'⟩ i = some (x, H')) := by
  obtain ⟨g, hg, h⟩ := eff_guard h
  have hg' : ∀ H', gv (St.mk s.env H').env i.guard = some g := fun _ => hg
  cases ho : i.op with
  | p o => rw [ho] at hc; cases hc
  | r o => rw [ho] at hc; cases hc
  | w o => rw [ho] at hc; cases hc
  | a o =>
    have hcalm : ¬ (calm i.op && i.guard.isSome) = true := by rw [ho]; simp [calm]
    unfold effG at h
    rw [if_neg hcalm] at h
    cases g with
    | false =>
      simp only [cond_false, Option.some.injEq, Prod.mk.injEq] at h
      obtain ⟨rfl, rfl⟩ := h
      refine .inr ⟨rfl, fun H' => ?_⟩
      rw [eff_of (hg' H')]
      unfold effG
      rw [if_neg hcalm]
      rfl
    | true =>
      simp only [cond_true, ho, semE] at h
      split at h
      · cases h
      · rename_i hid
        have hid : s.H (idOf i ns) = none := by cases hq : s.H (idOf i ns) <;> simp_all
        simp only [Option.map_eq_some_iff, Prod.mk.injEq] at h
        obtain ⟨⟨y, b⟩, h1, rfl, rfl⟩ := h
        refine .inl ⟨b, ?_, hid, rfl, fun H' hle hid' => ?_⟩
        · cases o with
          | alloc z =>
            simp only [semA] at h1
            split at h1
            · cases h1; exact .inl ⟨_, rfl⟩
            · cases h1
          | bx z =>
            simp only [semA] at h1
            split at h1
            · split at h1
              · cases h1; exact .inl ⟨_, rfl⟩
              · cases h1
            · cases h1
          | bsl s' n z ps =>
            simp only [semA] at h1
            split at h1
            · cases h1
            · simp only [Option.map_eq_some_iff, Prod.mk.injEq] at h1
              obtain ⟨es, _, _, rfl⟩ := h1
              exact .inr ⟨_, _, rfl⟩
          | bsf => rw [ho] at hc; cases hc
          | mks => rw [ho] at hc; cases hc
        · rw [eff_of (hg' H')]
          unfold effG
          rw [if_neg hcalm]
          simp only [cond_true, ho, semE]
          rw [if_neg (by simp [hid'])]
          have : semA D H' (fun x => unw true (evE s.env x)) (idOf i ns) o = some (y, b) := by
            cases o with
            | alloc z => exact h1
            | bx z => exact h1
            | bsl s' n z ps =>
              simp only [semA] at h1 ⊢
              split at h1
              · cases h1
              · rename_i hq
                rw [if_neg hq]
                simp only [Option.map_eq_some_iff, Prod.mk.injEq] at h1 ⊢
                obtain ⟨es, h2, h3⟩ := h1
                exact ⟨es, setParts_LeF hle h2, h3⟩
            | bsf => rw [ho] at hc; cases hc
            | mks => rw [ho] at hc; cases hc
          rw [this]
          rfl

theorem idOf_ne {k i : AIns} (ha : apartI k i = true) (hk : k.dst.isSome = true) (hi : i.dst.isSome = true) : idOf k ns ≠ idOf i ns := by
  obtain ⟨_, _, a3⟩ := apartI_spec ha
  intro e
  unfold idOf at e
  obtain ⟨dk, hdk⟩ := Option.isSome_iff_exists.1 hk
  obtain ⟨di, hdi⟩ := Option.isSome_iff_exists.1 hi
  rw [hdk, hdi] at e
  simp at e
  exact a3 dk hdk (by rw [hdi, e])

theorem upd_comm {H : Hp} {a b : Id} {x y : Option Blk} (h : a ≠ b) : upd (upd H a x) b y = upd (upd H b y) a x := by
  funext i
  simp only [upd]
  by_cases f1 : i = a
  · subst f1; simp [h]
  · by_cases f2 : i = b
    · subst f2; simp [f1]
    · simp [f1, f2]

/-- Two blocks are made. -/
theorem comm_mm {D : FuncId → Con} {Inv : St → Prop} {k i : AIns} (ha : apartI k i = true) (hk : mk4 k.op = true) (hi : mk4 i.op = true) (hkd : k.dst.isSome = true) (hid : i.dst.isSome = true) : Comm D ns Inv k i := comm_of ha fun s x y H1 H2 _ e1 e2 => by
  have hne := idOf_ne (ns := ns) ha hkd hid
  rcases eff_mk4 hk e1 with ⟨b, hb, q1, q2, q3⟩ | ⟨q2, q3⟩
  · rcases eff_mk4 hi e2 with ⟨b', hb', r1, r2, r3⟩ | ⟨r2, r3⟩
    · simp only at r1 r2 r3
      have r0 : s.H (idOf i ns) = none := by
        rw [q2] at r1
        simpa [upd, Ne.symm hne] using r1
      have hle : LeF H1 s.H := by
        intro id c hc hf
        rw [q2] at hc
        simp only [upd] at hc
        split at hc
        · cases hc
          rcases hb with ⟨_, rfl⟩ | ⟨_, _, rfl⟩ <;> rcases hf with ⟨_, _, h⟩ | ⟨_, h⟩ <;> cases h
        · exact hc
      have hle2 : LeF s.H (upd s.H (idOf i ns) (some b')) := by
        intro id c hc _
        simp only [upd]
        rw [if_neg (fun e => by subst e; rw [r0] at hc; cases hc)]
        exact hc
      refine ⟨_, r3 s.H hle r0, ?_⟩
      rw [q3 _ hle2 (by simp only [upd, if_neg hne]; exact q1), r2, q2, upd_comm (Ne.symm hne)]
    · simp only at r2
      subst r2
      exact ⟨s.H, r3 s.H, e1⟩
  · subst q2
    exact ⟨H2, e2, q3 H2⟩

def isApp : AOp → Bool
  | .w (.app ..) => true
  | _ => false

theorem eff_app {D : FuncId → Con} {s : St} {i : AIns} (hc : isApp i.op = true) {x : AV} {H1 : Hp} (h : eff D ns s i = some (x, H1)) :
    (∃ bo b, (∃ s es, b = Blk.row s es) ∧ (∀ b, bo = some b → ∃ s' es, s.H b = some (.row s' es)) ∧ s.H (idOf i ns) = none ∧ H1 = killU s.H bo (idOf i ns) b ∧ ∀ H', LeR s.H H' → H' (idOf i ns) = none → eff D ns ⟨s.env, H'⟩ i = some (x, killU H' bo (idOf i ns) b)) ∨ (H1 = s.H ∧ ∀ H', eff D ns ⟨s.env, H'⟩ i = some (x, H')) := by
  obtain ⟨g, hg, h⟩ := eff_guard h
  have hg' : ∀ H', gv (St.mk s.env H').env i.guard = some g := fun _ => hg
  cases ho : i.op with
  | p o => rw [ho] at hc; cases hc
  | r o => rw [ho] at hc; cases hc
  | a o => rw [ho] at hc; cases hc
  | w o =>
    cases o with
    | store => rw [ho] at hc; cases hc
    | cpy => rw [ho] at hc; cases hc
    | s2s => rw [ho] at hc; cases hc
    | app s' bytes str y z =>
      have hcalm : ¬ (calm i.op && i.guard.isSome) = true := by rw [ho]; simp [calm]
      unfold effG at h
      rw [if_neg hcalm] at h
      cases g with
      | false =>
        simp only [cond_false, Option.some.injEq, Prod.mk.injEq] at h
        obtain ⟨rfl, rfl⟩ := h
        refine .inr ⟨rfl, fun H' => ?_⟩
        rw [eff_of (hg' H')]
        unfold effG
        rw [if_neg hcalm]
        rfl
      | true =>
        simp only [cond_true, ho, semE, semW] at h
        split at h
        · rename_i ys hys
          split at h
          · cases h
          · rename_i hid
            have hid : s.H (idOf i ns) = none := by cases hq : s.H (idOf i ns) <;> simp_all
            obtain ⟨bo, blk, ⟨es, hb⟩, h2, h3, h4⟩ := appRes_u h
            refine .inl ⟨bo, blk, ⟨_, es, hb⟩, h2, hid, h3, fun H' hle hid' => ?_⟩
            rw [eff_of (hg' H')]
            unfold effG
            rw [if_neg hcalm]
            simp only [cond_true, ho, semE, semW]
            have hy : (if str = true then (match unw true (evE s.env z) with
                | .val (.str b) => some (dBytes b)
                | _ => none) else elems H' s' (unw true (evE s.env z))) = some ys := by
              cases str with
              | true => exact hys
              | false =>
                simp only [Bool.false_eq_true, if_false] at hys ⊢
                exact elems_LeR hle hys
            have hy2 := hy
            split
            · rename_i ys' hys'
              have : ys' = ys := by
                have e : some ys' = some ys := hys'.symm.trans hy
                exact Option.some.inj e
              subst this
              rw [if_neg (by simp [hid'])]
              exact h4 H' hle
            · rename_i hn
              have e : none = some ys := hn.symm.trans hy
              cases e
        · cases h

/-- An append, ahead of what makes a block. -/
theorem comm_am {D : FuncId → Con} {Inv : St → Prop} {k i : AIns} (ha : apartI k i = true) (hk : isApp k.op = true) (hi : mk4 i.op = true) (hkd : k.dst.isSome = true) (hid : i.dst.isSome = true) : Comm D ns Inv k i := comm_of ha fun s x y H1 H2 _ e1 e2 => by
  have hne := idOf_ne (ns := ns) ha hkd hid
  rcases eff_app hk e1 with ⟨bo, b, ⟨bs, bes, hb⟩, hbo, q1, q2, q3⟩ | ⟨q2, q3⟩
  · rcases eff_mk4 hi e2 with ⟨b', hb', r1, r2, r3⟩ | ⟨r2, r3⟩
    · simp only at r1 r2 r3
      have hk1 : ∀ id c, H1 id = some c → c = b ∨ c = .dead ∨ s.H id = some c := by
        intro id c hc
        rw [q2] at hc
        cases bo with
        | none =>
          simp only [killU, upd] at hc
          split at hc
          · cases hc; exact .inl rfl
          · exact .inr (.inr hc)
        | some k =>
          simp only [killU, upd] at hc
          split at hc
          · cases hc; exact .inl rfl
          · split at hc
            · cases hc; exact .inr (.inl rfl)
            · exact .inr (.inr hc)
      have r0 : s.H (idOf i ns) = none := by
        cases hq : s.H (idOf i ns) with
        | none => rfl
        | some c =>
          rw [q2] at r1
          cases bo with
          | none => simp only [killU, upd, if_neg (Ne.symm hne), hq] at r1; cases r1
          | some k =>
            simp only [killU, upd, if_neg (Ne.symm hne)] at r1
            split at r1
            · cases r1
            · rw [hq] at r1; cases r1
      have hbi : ∀ k, bo = some k → k ≠ idOf i ns := by
        intro k hk e
        obtain ⟨s', es, h⟩ := hbo k hk
        rw [e, r0] at h
        cases h
      have hle : LeF H1 s.H := by
        intro id c hc hf
        rcases hk1 id c hc with rfl | rfl | h
        · subst hb
          rcases hf with ⟨_, _, h⟩ | ⟨_, h⟩ <;> cases h
        · rcases hf with ⟨_, _, h⟩ | ⟨_, h⟩ <;> cases h
        · exact h
      have hle2 : LeR s.H (upd s.H (idOf i ns) (some b')) := by
        intro id c hc _
        simp only [upd]
        rw [if_neg (fun e => by subst e; rw [r0] at hc; cases hc)]
        exact hc
      refine ⟨_, r3 s.H hle r0, ?_⟩
      rw [q3 _ hle2 (by simp only [upd, if_neg hne]; exact q1), r2, q2]
      congr 2
      cases bo with
      | none => simp only [killU]; rw [upd_comm (Ne.symm hne)]
      | some k =>
        simp only [killU]
        rw [upd_comm (Ne.symm (hbi k rfl)), upd_comm (Ne.symm hne)]
    · simp only at r2
      subst r2
      exact ⟨s.H, r3 s.H, e1⟩
  · subst q2
    exact ⟨H2, e2, q3 H2⟩

def isBx : AOp → Bool
  | .a (.alloc _) => true
  | .a (.bx _) => true
  | _ => false
theorem isBx_mk4 {o : AOp} (h : isBx o = true) : mk4 o = true := by
  cases o with
  | a o => cases o <;> first | rfl | cases h
  | _ => cases h

theorem eff_bx {D : FuncId → Con} {s : St} {i : AIns} (hc : isBx i.op = true) {x : AV} {H1 : Hp} (h : eff D ns s i = some (x, H1)) :
    (∃ cells, s.H (idOf i ns) = none ∧ H1 = upd s.H (idOf i ns) (some (.box cells)) ∧ ∀ H', H' (idOf i ns) = none → eff D ns ⟨s.env, H'⟩ i = some (x, upd H' (idOf i ns) (some (.box cells)))) ∨ (H1 = s.H ∧ ∀ H', eff D ns ⟨s.env, H'⟩ i = some (x, H')) := by
  have c2 : cls i.op = 2 := by
    cases ho : i.op with
    | a o => rw [ho] at hc; cases o <;> first | rfl | cases hc
    | p o => rw [ho] at hc; cases hc
    | r o => rw [ho] at hc; cases hc
    | w o => rw [ho] at hc; cases hc
  rcases eff2 c2 h with ⟨b, h1, h2, h3⟩ | h
  · rcases eff_mk4 (isBx_mk4 hc) h with ⟨b', hb', _, h5, _⟩ | ⟨h5, _⟩
    · have e : b = b' := by
        have := congrFun (h2.symm.trans h5) (idOf i ns)
        simpa [upd] using this
      have hbox : ∃ cells, b = .box cells := by
        obtain ⟨g, hg, h⟩ := eff_guard h
        have hcalm : ¬ (calm i.op && i.guard.isSome) = true := by
          cases ho : i.op with
          | a o => simp [calm]
          | p o => rw [ho] at hc; cases hc
          | r o => rw [ho] at hc; cases hc
          | w o => rw [ho] at hc; cases hc
        unfold effG at h
        rw [if_neg hcalm] at h
        cases g with
        | false =>
          simp only [cond_false, Option.some.injEq, Prod.mk.injEq] at h
          have := congrFun (h2.symm.trans h.2.symm) (idOf i ns)
          simp [upd, h1] at this
        | true =>
          simp only [cond_true] at h
          cases ho : i.op with
          | p o => rw [ho] at hc; cases hc
          | r o => rw [ho] at hc; cases hc
          | w o => rw [ho] at hc; cases hc
          | a o =>
            rw [ho] at h hc
            simp only [semE] at h
            split at h
            · cases h
            · simp only [Option.map_eq_some_iff, Prod.mk.injEq] at h
              obtain ⟨⟨y, b2⟩, h6, _, h7⟩ := h
              have e2 : b = b2 := by
                have := congrFun (h2.symm.trans h7.symm) (idOf i ns)
                simpa [upd] using this
              subst e2
              cases o with
              | alloc z =>
                simp only [semA] at h6
                split at h6
                · cases h6; exact ⟨_, rfl⟩
                · cases h6
              | bx z =>
                simp only [semA] at h6
                split at h6
                · split at h6
                  · cases h6; exact ⟨_, rfl⟩
                  · cases h6
                · cases h6
              | bsl => cases hc
              | bsf => cases hc
              | mks => cases hc
      obtain ⟨cells, rfl⟩ := hbox
      exact .inl ⟨cells, h1, h2, h3⟩
    · have := congrFun (h2.symm.trans h5) (idOf i ns)
      simp [upd, h1] at this
  · exact .inr h

/-- A variable is made, ahead of an append. -/
theorem comm_ba {D : FuncId → Con} {Inv : St → Prop} {k i : AIns} (ha : apartI k i = true) (hk : isBx k.op = true) (hi : isApp i.op = true) (hkd : k.dst.isSome = true) (hid : i.dst.isSome = true) : Comm D ns Inv k i := comm_of ha fun s x y H1 H2 _ e1 e2 => by
  have hne := idOf_ne (ns := ns) ha hkd hid
  rcases eff_bx hk e1 with ⟨cells, q1, q2, q3⟩ | ⟨q2, q3⟩
  · rcases eff_app hi e2 with ⟨bo, b, ⟨bs, bes, hb⟩, hbo, r1, r2, r3⟩ | ⟨r2, r3⟩
    · simp only at r1 r2 r3 hbo
      have r0 : s.H (idOf i ns) = none := by
        rw [q2] at r1
        simpa [upd, Ne.symm hne] using r1
      have hle : LeR H1 s.H := by
        intro id c hc hf
        rw [q2] at hc
        simp only [upd] at hc
        split at hc
        · cases hc
          obtain ⟨_, _, h | h⟩ := hf <;> cases h
        · exact hc
      have hbk : ∀ k', bo = some k' → k' ≠ idOf k ns := by
        intro k' hk' e
        obtain ⟨s', es, h⟩ := hbo k' hk'
        rw [q2, e] at h
        simp [upd] at h
      refine ⟨_, r3 s.H hle r0, ?_⟩
      have hn : killU s.H bo (idOf i ns) b (idOf k ns) = none := by
        cases bo with
        | none => simp only [killU, upd, if_neg hne]; exact q1
        | some k' => simp only [killU, upd, if_neg hne, if_neg (Ne.symm (hbk k' rfl))]; exact q1
      rw [q3 _ hn, r2, q2]
      congr 2
      cases bo with
      | none => simp only [killU]; rw [upd_comm (Ne.symm hne)]
      | some k' =>
        simp only [killU]
        rw [upd_comm (Ne.symm hne), upd_comm (hbk k' rfl)]
    · simp only at r2
      subst r2
      exact ⟨s.H, r3 s.H, e1⟩
  · subst q2
    exact ⟨H2, e2, q3 H2⟩

/-- The blocks that data lies in are there. -/
theorem argD_ids {H : Hp} : ∀ (k : Nat), (∀ x d is, argD H k x = some (d, is) → ∀ i ∈ is, H i ≠ none) ∧ (∀ l ds is, argDs H k l = some (ds, is) → ∀ i ∈ is, H i ≠ none)
  | 0 => ⟨fun _ _ _ h => by simp [argD] at h, fun _ _ _ h => by simp [argDs] at h⟩
  | k + 1 => by
    obtain ⟨ih1, ih2⟩ := argD_ids (H := H) k
    constructor
    · intro x d is hr i hi
      cases x <;> simp only [argD, reduceCtorEq] at hr
      case val d =>
        simp only [Option.some.injEq, Prod.mk.injEq] at hr
        rw [← hr.2] at hi
        cases hi
      case row id s o n =>
        split at hr
        · rename_i s' es hb
          split at hr
          · simp only [Option.some.injEq, Prod.mk.injEq] at hr
            rw [← hr.2] at hi
            have : i = id := by simpa using hi
            rw [this, hb]
            simp
          · cases hr
        · split at hr
          · simp only [Option.some.injEq, Prod.mk.injEq] at hr
            rw [← hr.2] at hi
            cases hi
          · cases hr
        · split at hr
          · rename_i es own hro
            split at hr
            · simp only [Option.some.injEq, Prod.mk.injEq] at hr
              rw [← hr.2] at hi
              have : i = id := by
                cases own with
                | true => simpa using hi
                | false => simp at hi
              rw [this]
              intro hq
              rw [hq] at hro
              cases hro
            · cases hr
          · cases hr
      case box id o =>
        split at hr
        · rename_i cells hb
          simp only [Option.map_eq_some_iff, Prod.mk.injEq] at hr
          obtain ⟨⟨a, b⟩, ha, _, hr⟩ := hr
          rw [← hr] at hi
          rcases List.mem_cons.1 hi with rfl | hi
          · rw [hb]; simp
          · exact ih2 _ _ _ ha i hi
        · simp only [Option.some.injEq, Prod.mk.injEq] at hr
          rw [← hr.2] at hi
          cases hi
        · cases hr
      case elt id j o =>
        split at hr
        · simp only [Option.map_eq_some_iff, Prod.mk.injEq] at hr
          obtain ⟨a, ha, _, hr⟩ := hr
          rw [← hr] at hi
          cases hi
        · rename_i s es hb
          simp only [Option.map_eq_some_iff, Prod.mk.injEq] at hr
          obtain ⟨a, ha, _, hr⟩ := hr
          rw [← hr] at hi
          have : i = id := by simpa using hi
          rw [this, hb]
          simp
        · cases hr
      case agg l =>
        simp only [Option.map_eq_some_iff, Prod.mk.injEq] at hr
        obtain ⟨⟨a, b⟩, ha, _, hr⟩ := hr
        rw [← hr] at hi
        exact ih2 _ _ _ ha i hi
      case clo f l =>
        simp only [Option.map_eq_some_iff, Prod.mk.injEq] at hr
        obtain ⟨⟨a, b⟩, ha, _, hr⟩ := hr
        rw [← hr] at hi
        exact ih2 _ _ _ ha i hi
    · intro l ds is hr i hi
      cases l with
      | nil =>
        simp only [argDs, Option.some.injEq, Prod.mk.injEq] at hr
        rw [← hr.2] at hi
        cases hi
      | cons x l =>
        simp only [argDs] at hr
        split at hr
        · rename_i d a ds' b h1 h2
          simp only [Option.some.injEq, Prod.mk.injEq] at hr
          rw [← hr.2] at hi
          rcases List.mem_append.1 hi with hi | hi
          · exact ih1 _ _ _ h1 i hi
          · exact ih2 _ _ _ h2 i hi
        · cases hr

theorem le_upd {H : Hp} {id : Id} {b : Option Blk} (h : H id = none) : Le H (upd H id b) := by
  intro i c hc
  simp only [upd]
  rw [if_neg (fun e => by subst e; rw [h] at hc; cases hc)]
  exact hc

theorem fix_upd {H H1 : Hp} {is : List Id} {id : Id} {b : Blk} (h : fix H is = some H1) (hn : H id = none) (hi : ∀ i ∈ is, H i ≠ none) : fix (upd H id (some b)) is = some (upd H1 id (some b)) := by
  have hne : ∀ i ∈ is, i ≠ id := fun i hm e => hi i hm (by rw [e]; exact hn)
  have hle : Le H (upd H id (some b)) := le_upd hn
  have ok : ∀ i ∈ is, okFix H is i = true → okFix (upd H id (some b)) is i = true ∧ fixB (upd H id (some b)) (upd H id (some b) i) = fixB H (H i) := by
    intro i hm ho
    have e : upd H id (some b) i = H i := upd_other _ _ (hne i hm)
    unfold okFix at ho ⊢
    rw [e]
    cases hq : H i with
    | none => exact ⟨rfl, rfl⟩
    | some c =>
      rw [hq] at ho
      cases c with
      | box cells =>
        simp only at ho
        split at ho
        · rename_i ds more hr
          have hr' := (argD_le hle 99).2 _ _ hr
          simp only [hr', fixB, hr, ho, and_self]
        · cases ho
      | row s es => exact ⟨rfl, rfl⟩
      | fbox cells => exact ⟨rfl, rfl⟩
      | frow s es => exact ⟨rfl, rfl⟩
      | fns s es => cases ho
      | dead => exact ⟨rfl, rfl⟩
  have hat := fix_at h
  cases is with
  | nil =>
    simp only [fix, Option.some.injEq] at h ⊢
    rw [h]
  | cons a l =>
    simp only [fix]
    rw [if_pos]
    · congr 1
      funext i
      by_cases hm : i ∈ a :: l
      · have hc : (a :: l).contains i = true := List.contains_iff_mem.2 hm
        obtain ⟨h1, h2⟩ := hat i
        rw [if_pos hc, (ok i hm (h2 hc)).2, upd_other _ _ (hne i hm), h1, if_pos hc]
      · have hc : ¬ (a :: l).contains i = true := fun h => hm (List.contains_iff_mem.1 h)
        rw [if_neg hc]
        simp only [upd]
        split
        · rfl
        · rw [(hat i).1, if_neg hc]
    · rw [List.all_eq_true]
      intro i hm
      exact (ok i hm ((hat i).2 (List.contains_iff_mem.2 hm))).1

theorem eff_sc {s : St} {i : AIns} (hc : isSc S LB i.op = true) {x : AV} {H1 : Hp} (h : eff (mixC S LB C) ns s i = some (x, H1)) :
    (∀ id, H1 id = none → s.H id = none) ∧ ∀ id b, s.H id = none → eff (mixC S LB C) ns ⟨s.env, upd s.H id (some b)⟩ i = some (x, upd H1 id (some b)) := by
  obtain ⟨g, hg, h⟩ := eff_guard h
  have hg' : ∀ H', gv (St.mk s.env H').env i.guard = some g := fun _ => hg
  cases ho : i.op with
  | p o => rw [ho] at hc; cases hc
  | a o => rw [ho] at hc; cases hc
  | w o => rw [ho] at hc; cases hc
  | r o =>
    cases o with
    | load => rw [ho] at hc; cases hc
    | b2s => rw [ho] at hc; cases hc
    | s2b => rw [ho] at hc; cases hc
    | sla => rw [ho] at hc; cases hc
    | callv => rw [ho] at hc; cases hc
    | call f l =>
      have hSL : S.contains f = true ∧ libAt LB f = none := by rw [ho] at hc; simpa only [isSc, Bool.and_eq_true, Option.isNone_iff_eq_none] using hc
      obtain ⟨hS, hl⟩ := hSL
      have hcalm : ¬ (calm i.op && i.guard.isSome) = true := by rw [ho]; simp [calm]
      unfold effG at h
      rw [if_neg hcalm] at h
      cases g with
      | false =>
        simp only [cond_false, Option.some.injEq, Prod.mk.injEq] at h
        obtain ⟨rfl, rfl⟩ := h
        refine ⟨fun _ h => h, fun id b _ => ?_⟩
        rw [eff_of (hg' _)]
        unfold effG
        rw [if_neg hcalm]
        rfl
      | true =>
        simp only [cond_true, ho, semE] at h
        have e : mixC S LB C f = (match C f with
          | .val spec => .shared fun _ args H => rowC spec H args
          | _ => .none) := by unfold mixC; rw [hl]; simp only [hS] <;> cases C f <;> rfl
        cases hq : C f with
        | none => unfold semC at h; rw [e, hq] at h; cases h
        | fresh s spec => unfold semC at h; rw [e, hq] at h; cases h
        | shared spec => unfold semC at h; rw [e, hq] at h; cases h
        | val spec =>
          have e : mixC S LB C f = .shared fun _ args H => rowC spec H args := by rw [e, hq]
          unfold semC at h
          rw [e] at h
          simp only at h
          obtain ⟨ds, is', r, ha, hr, rfl, hall, hf⟩ := rowC_inv h
          have hids := (argD_ids 99).2 _ _ _ ha
          have hsub : ∀ i ∈ (if r.flat then [] else is'), s.H i ≠ none := by
            intro i hm
            split at hm
            · cases hm
            · exact hids i hm
          refine ⟨fun id hn => fix_none hf hn, fun id b hn => ?_⟩
          rw [eff_of (hg' _)]
          unfold effG
          rw [if_neg hcalm]
          simp only [cond_true, ho, semE]
          unfold semC
          rw [e]
          simp only
          refine rowC_of ((argD_le (le_upd (b := some b) hn) 99).2 _ _ ha) hr (fun i hm => ?_) (fix_upd hf hn hsub)
          have hne : i ≠ id := fun e => by subst e; exact hsub _ hm hn
          have := hall i hm
          unfold rowAt at this ⊢
          simp only [upd]
          rw [if_neg hne]
          exact this

/-- A call, ahead of a variable that is made. -/
theorem comm_sb {Inv : St → Prop} {k i : AIns} (ha : apartI k i = true) (hk : isSc S LB k.op = true) (hi : isBx i.op = true) : Comm (mixC S LB C) ns Inv k i := comm_of ha fun s x y H1 H2 _ e1 e2 => by
  obtain ⟨q1, q2⟩ := eff_sc hk e1
  rcases eff_bx hi e2 with ⟨cells, r1, r2, r3⟩ | ⟨r2, r3⟩
  · simp only at r1 r2
    refine ⟨_, r3 s.H (q1 _ r1), ?_⟩
    rw [q2 _ _ (q1 _ r1), r2]
  · simp only at r2
    subst r2
    exact ⟨s.H, r3 s.H, e1⟩

/-- A copy of a slice. -/
def isCl (LB : List (FuncId × LibK)) : AOp → Bool
  | .r (.call f _) => (match libAt LB f with
    | some k => k.isCl
    | none => false)
  | _ => false

theorem eff_cl {s : St} {i : AIns} (hc : isCl LB i.op = true) {x : AV} {H1 : Hp} (h : eff (mixC S LB C) ns s i = some (x, H1)) :
    (∃ b, (∃ s es, b = Blk.row s es) ∧ s.H (idOf i ns) = none ∧ H1 = upd s.H (idOf i ns) (some b) ∧ ∀ H', LeR s.H H' → H' (idOf i ns) = none → eff (mixC S LB C) ns ⟨s.env, H'⟩ i = some (x, upd H' (idOf i ns) (some b))) ∨ (H1 = s.H ∧ ∀ H', eff (mixC S LB C) ns ⟨s.env, H'⟩ i = some (x, H')) := by
  obtain ⟨g, hg, h⟩ := eff_guard h
  have hg' : ∀ H', gv (St.mk s.env H').env i.guard = some g := fun _ => hg
  cases ho : i.op with
  | p o => rw [ho] at hc; cases hc
  | a o => rw [ho] at hc; cases hc
  | w o => rw [ho] at hc; cases hc
  | r o =>
    cases o with
    | load => rw [ho] at hc; cases hc
    | b2s => rw [ho] at hc; cases hc
    | s2b => rw [ho] at hc; cases hc
    | sla => rw [ho] at hc; cases hc
    | callv => rw [ho] at hc; cases hc
    | call f l =>
      have hcalm : ¬ (calm i.op && i.guard.isSome) = true := by rw [ho]; simp [calm]
      unfold effG at h
      rw [if_neg hcalm] at h
      cases g with
      | false =>
        simp only [cond_false, Option.some.injEq, Prod.mk.injEq] at h
        obtain ⟨rfl, rfl⟩ := h
        refine .inr ⟨rfl, fun H' => ?_⟩
        rw [eff_of (hg' H')]
        unfold effG
        rw [if_neg hcalm]
        rfl
      | true =>
        rw [ho] at hc
        simp only [isCl] at hc
        split at hc
        · rename_i k hl
          have e : mixC S LB C f = .shared (libSpec k) := by unfold mixC; rw [hl]
          simp only [cond_true, ho, semE] at h
          unfold semC at h
          rw [e] at h
          obtain ⟨bo, blk, h1, h2, h3, h4, h5, h6⟩ := libSpec_u h
          have hbo := h5 hc
          subst hbo
          refine .inl ⟨blk, h1, h3, h4, fun H' hle hid' => ?_⟩
          rw [eff_of (hg' H')]
          unfold effG
          rw [if_neg hcalm]
          simp only [cond_true, ho, semE]
          unfold semC
          rw [e]
          exact h6 H' hle hid'
        · cases hc

/-- A slice is copied, ahead of what makes a block. -/
theorem comm_cm {Inv : St → Prop} {k i : AIns} (ha : apartI k i = true) (hk : isCl LB k.op = true) (hi : mk4 i.op = true) (hkd : k.dst.isSome = true) (hid : i.dst.isSome = true) : Comm (mixC S LB C) ns Inv k i := comm_of ha fun s x y H1 H2 _ e1 e2 => by
  have hne := idOf_ne (ns := ns) ha hkd hid
  rcases eff_cl hk e1 with ⟨b, ⟨bs, bes, hb⟩, q1, q2, q3⟩ | ⟨q2, q3⟩
  · rcases eff_mk4 hi e2 with ⟨b', hb', r1, r2, r3⟩ | ⟨r2, r3⟩
    · simp only at r1 r2 r3
      have r0 : s.H (idOf i ns) = none := by
        rw [q2] at r1
        simpa [upd, Ne.symm hne] using r1
      have hle : LeF H1 s.H := by
        intro id c hc hf
        rw [q2] at hc
        simp only [upd] at hc
        split at hc
        · cases hc
          subst hb
          rcases hf with ⟨_, _, h⟩ | ⟨_, h⟩ <;> cases h
        · exact hc
      have hle2 : LeR s.H (upd s.H (idOf i ns) (some b')) := by
        intro id c hc _
        simp only [upd]
        rw [if_neg (fun e => by subst e; rw [r0] at hc; cases hc)]
        exact hc
      refine ⟨_, r3 s.H hle r0, ?_⟩
      rw [q3 _ hle2 (by simp only [upd, if_neg hne]; exact q1), r2, q2, upd_comm (Ne.symm hne)]
    · simp only at r2
      subst r2
      exact ⟨s.H, r3 s.H, e1⟩
  · subst q2
    exact ⟨H2, e2, q3 H2⟩

/-- May the second one come first? -/
def commX (r : Rgn) (k i : AIns) : Bool :=
  apartI k i && ((Nat.beq (cls k.op) 0 || Nat.beq (cls i.op) 0) || (flatOp r.S r.LB k.op && flatOp r.S r.LB i.op && commB k i) || (isLc r.L k && keepsB r.S r.LB i.op) || (keepsB r.S r.LB k.op && isLc r.L i) || (isLe r.EL k && isSt r.L i) || (isSt r.L k && isLe r.EL i) || isLS r.L r.needs k i || isLS r.L r.needs i k ||
    (k.dst.isSome && i.dst.isSome && ((mk4 k.op && mk4 i.op) || (isApp k.op && mk4 i.op) || (isBx k.op && isApp i.op) || (isCl r.LB k.op && mk4 i.op))) || (isSc r.S r.LB k.op && isBx i.op) || (isLc r.L k && isSe r.EL i) || (isSe r.EL k && isLc r.L i))

theorem Comm.of_commX {r : Rgn} (hn : ∀ p ∈ r.needs, ids p.1 ≠ ids p.2) {k i : AIns} (h : commX r k i = true) : Comm (mixC r.S r.LB C) ns (InvB r.L r.EL ids) k i := by
  unfold commX at h
  simp only [Bool.and_eq_true, Bool.or_eq_true] at h
  obtain ⟨ha, h⟩ := h
  rcases h with ((((((((((((h | h) | ⟨⟨h1, h2⟩, h3⟩) | ⟨h1, h2⟩) | ⟨h1, h2⟩) | ⟨h1, h2⟩) | ⟨h1, h2⟩) | h) | h) | ⟨⟨h1, h2⟩, ((⟨h3, h4⟩ | ⟨h3, h4⟩) | ⟨h3, h4⟩) | ⟨h3, h4⟩⟩) | ⟨h1, h2⟩) | ⟨h1, h2⟩) | ⟨h1, h2⟩)
  · exact comm0 ha (.inl (Nat.eq_of_beq_eq_true h))
  · exact comm0 ha (.inr (Nat.eq_of_beq_eq_true h))
  · exact comm_flat h1 h2 h3
  · exact comm_lk ha h1 h2
  · exact comm_kl ha h1 h2
  · exact comm_es ha h1 h2
  · exact comm_se ha h1 h2
  · exact comm_ls hn ha h
  · exact comm_sl hn ha h
  · exact comm_mm ha h3 h4 h1 h2
  · exact comm_am ha h3 h4 h1 h2
  · exact comm_ba ha h3 h4 h1 h2
  · exact comm_cm ha h3 h4 h1 h2
  · exact comm_sb ha h1 h2
  · exact comm_lt ha h1 h2
  · exact comm_tl ha h1 h2
end
end Go.AI

namespace Go.AI

/-- What an operation waits for, and what that waits for. -/
inductive Anc (ops : Array Oper) : Nat → Nat → Prop
  | one (i k : Nat) (o : Oper) (e : Edge) (ho : ops[i]? = some o) (he : e ∈ o.after) (hb : Region.binds .any e = true) (hk : e.on = k) : Anc ops i k
  | more (i k : Nat) (o : Oper) (e : Edge) (ho : ops[i]? = some o) (he : e ∈ o.after) (hb : Region.binds .any e = true) (h : Anc ops e.on k) : Anc ops i k

def edgeMask (acc : List Nat) : List Edge → Nat → Nat
  | [], s => s
  | e :: l, s => edgeMask acc l (if Region.binds .any e = true then s ||| 2 ^ e.on ||| acc.getD e.on 0 else s)

def masks : List Oper → List Nat → List Nat
  | [], acc => acc
  | o :: l, acc => masks l (acc ++ [edgeMask acc o.after.toList 0])

theorem edgeMask_bit (acc : List Nat) : ∀ (l : List Edge) (s k : Nat), (edgeMask acc l s).testBit k = true → s.testBit k = true ∨ ∃ e ∈ l, Region.binds .any e = true ∧ (e.on = k ∨ (acc.getD e.on 0).testBit k = true)
  | [], s, k, h => .inl h
  | e :: l, s, k, h => by
    simp only [edgeMask] at h
    rcases edgeMask_bit acc l _ k h with h | ⟨e', he', hb, h⟩
    · split at h
      · rename_i hb
        rw [Nat.testBit_or, Nat.testBit_or, Nat.testBit_two_pow] at h
        simp only [Bool.or_eq_true, decide_eq_true_eq] at h
        rcases h with (h | h) | h
        · exact .inl h
        · exact .inr ⟨e, by simp, hb, .inl h⟩
        · exact .inr ⟨e, by simp, hb, .inr h⟩
      · exact .inl h
    · exact .inr ⟨e', by simp [he'], hb, h⟩

theorem masks_anc (ops : Array Oper) : ∀ (l : List Oper) (acc : List Nat) (pre : List Oper), ops.toList = pre ++ l → pre.length = acc.length → (∀ i x, acc[i]? = some x → ∀ k, x.testBit k = true → Anc ops i k) →
    ∀ i x, (masks l acc)[i]? = some x → ∀ k, x.testBit k = true → Anc ops i k
  | [], acc, _, _, _, h => h
  | o :: l, acc, pre, hp, hl, h => by
    simp only [masks]
    refine masks_anc ops l _ (pre ++ [o]) (by rw [hp]; simp) (by simp [hl]) ?_
    intro i x hx k hk
    by_cases hi : i < acc.length
    · rw [List.getElem?_append_left hi] at hx
      exact h i x hx k hk
    · rw [List.getElem?_append_right (by omega)] at hx
      have hi0 : i = acc.length := by
        have := (List.getElem?_eq_some_iff.1 hx).1
        simp at this
        omega
      subst hi0
      simp at hx
      subst hx
      have ho : ops[acc.length]? = some o := by
        rw [← Array.getElem?_toList, hp, ← hl]
        simp
      rcases edgeMask_bit acc _ 0 k hk with h0 | ⟨e, he, hb, h1 | h1⟩
      · simp at h0
      · exact .one _ _ o e ho (by simpa using he) hb h1
      · refine .more _ _ o e ho (by simpa using he) hb ?_
        cases hq : acc[e.on]? with
        | none => rw [List.getD_eq_getElem?_getD, hq] at h1; simp at h1
        | some y =>
          rw [List.getD_eq_getElem?_getD, hq] at h1
          exact h _ y hq k h1

/-- Every two operations stand in an order, or may change places. -/
def drawOk (ops : Array Oper) (m : List AIns) : Bool :=
  (List.range m.length).all fun i => (match ops[i]? with
    | some o => o.after.all fun e => !Region.binds .any e || decide (e.on < i)
    | none => false) && (List.range i).all fun k => ((masks ops.toList []).getD i 0).testBit k || (match m[k]?, m[i]? with
    | some x, some y => commB x y
    | _, _ => false)

/-- The same, by classes of addresses. -/
def drawOkB (ops : Array Oper) (m : List AIns) (r : Rgn) : Bool :=
  m.all (okB r.L r.EL r.AL) && (List.range m.length).all fun i => (match ops[i]? with
    | some o => o.after.all fun e => !Region.binds .any e || decide (e.on < i)
    | none => false) && (List.range i).all fun k => ((masks ops.toList []).getD i 0).testBit k || (match m[k]?, m[i]? with
    | some x, some y => commX r x y
    | _, _ => false)

/-- Addresses that are looked at, and what they come from. -/
def addrs : List AIns → List Nat → List Nat
  | [], l => l
  | i :: m, l => (match i.op with
    | .r (.load _ _ (.t x)) => addrs m (x :: l)
    | .w (.store _ (.t x) _) => addrs m (x :: l)
    | _ => addrs m l)
def backs : List AIns → List Nat → List Nat
  | [], l => l
  | i :: m, l => (match i.dst with
    | some d => (match l.contains d, i.op with
      | true, .p (.foff _ (.t b)) => backs m (b :: l)
      | true, .p (.aoff _ _ (.t b) _) => backs m (b :: l)
      | true, .p (.mv (.t b)) => backs m (b :: l)
      | true, .p (.chk (.t b)) => backs m (b :: l)
      | _, _ => backs m l)
    | none => backs m l)
def defAt : List AIns → Nat → Option AOp
  | [], _ => none
  | i :: m, t => match i.dst with
    | some d => (match Nat.beq d t with
      | true => some i.op
      | false => defAt m t)
    | none => defAt m t
/-- What an address is of: a class (0), an element (1), a variable that is made (2), nothing that is known (3). -/
def kindAt (m : List AIns) : Nat → Nat → Nat × Nat
  | 0, t => (3, t)
  | n + 1, t => match defAt m t with
    | none => (0, t)
    | some (.p (.foff _ (.t b))) => kindAt m n b
    | some (.p (.aoff _ _ (.t b) _)) => kindAt m n b
    | some (.p (.mv (.t b))) => kindAt m n b
    | some (.p (.chk (.t b))) => kindAt m n b
    | some (.p (.soff _ _ _)) => (1, t)
    | some (.a (.alloc _)) => (2, t)
    | some (.a (.bx _)) => (2, t)
    | some _ => (3, t)

def flatTs (f : TypeId → Bool) : List TypeId → Bool
  | [] => true
  | t :: l => f t && flatTs f l
def flatT (P : Program) : Nat → TypeId → Bool
  | 0, _ => false
  | n + 1, t => match P.underlying t with
    | some .bool => true
    | some (.int _) => true
    | some .string => true
    | some (.array _ e) => flatT P n e
    | some (.struct fs) => flatTs (flatT P n) (fs.toList.map (·.type))
    | some (.tuple es) => flatTs (flatT P n) es.toList
    | _ => false

/-- A load of a variable (a guess). -/
def boxLoad (m : List AIns) : AOp → Bool
  | .r (.load _ _ (.t x)) => (match kindAt m 20 x with
    | (0, _) => true
    | (2, _) => true
    | _ => false)
  | _ => false
/-- Calls that stand in an order with all else (but loads of variables), and answer no plain data. -/
def seqCalls (bl : Bool) (P : Program) (ops : Array Oper) (m : List AIns) : List FuncId := (List.range m.length).filterMap fun j => match ops[j]?, m[j]? with
  | some o, some y => (match y.op with
    | .r (.call f _) => (match flatT P 9 o.type || !((List.range m.length).all fun k => match m[k]? with
        | some x => Nat.beq k j || Nat.beq (cls x.op) 0 || (bl && boxLoad m x.op) || (match Nat.blt k j with
          | true => ((masks ops.toList []).getD j 0).testBit k
          | false => ((masks ops.toList []).getD k 0).testBit j || isBx x.op)
        | none => false) with
      | true => none
      | false => some f)
    | _ => none)
  | _, _ => none

/-- Which function of the library is it? (A guess; what it does is asked for elsewhere.) -/
def libOf (P : Program) (f : FuncId) : Option LibK := match P.funcs[f]? with
  | some fn => (match fn.targs.toList with
    | [_, e] => (match P.info? e, fn.params.toList.map P.underlying, Nat.beq fn.ntmps 8, Nat.beq fn.ntmps 95, Nat.beq fn.ntmps 33, Nat.beq fn.ntmps 27 with
      | some i, [some (.slice _)], true, _, _, _ => some (.clone i.size i.bytes)
      | some i, [some (.slice _), some (.int .i64), some (.slice _)], _, true, _, _ => some (.ins i.size i.bytes)
      | some i, [some (.slice _), some (.int .i64), some (.int .i64)], _, _, true, _ => some (.del i.size)
      | some i, [some (.slice _), some (.int .i64)], _, _, _, true => some (.grow i.size i.bytes)
      | _, _, _, _, _, _ => none)
    | _ => none)
  | none => none
def libsIn (P : Program) : List AIns → List (FuncId × LibK)
  | [] => []
  | i :: m => (match i.op with
    | .r (.call f _) => (match libOf P f with
      | some k => (f, k) :: libsIn P m
      | none => libsIn P m)
    | _ => libsIn P m)

def rgnOf (P : Program) (ops : Array Oper) (m : List AIns) : Rgn :=
  let need := (backs m.reverse (addrs m [])).eraseDups
  let kd := need.map fun t => (t, kindAt m 20 t)
  let L := kd.filterMap fun (t, k, c) => if k = 0 ∨ k = 2 then some (t, c) else none
  let EL := kd.filterMap fun (t, k, _) => if k = 1 then some t else none
  let AL := kd.filterMap fun (t, k, _) => if k = 2 then some t else none
  let mk := masks ops.toList []
  let needs := (List.range m.length).flatMap fun i => (List.range i).filterMap fun k => if (mk.getD i 0).testBit k then none else (match m[k]?, m[i]? with
    | some x, some y => (match x.op, y.op with
      | .r (.load _ _ (.t a)), .w (.store _ (.t b) _) => (match lk L a, lk L b with
        | some c, some d => if c = d then none else some (c, d)
        | _, _ => none)
      | .w (.store _ (.t b) _), .r (.load _ _ (.t a)) => (match lk L a, lk L b with
        | some c, some d => if c = d then none else some (c, d)
        | _, _ => none)
      | _, _ => none)
    | _, _ => none)
  ⟨L, EL, AL, needs.eraseDups, (seqCalls true P ops m).filter fun f => (libOf P f).isNone, libsIn P m⟩

/-- The same, where the addresses from without are known to be no variables' (but elements'). -/
def rgnOf2 (P : Program) (ops : Array Oper) (m : List AIns) : Rgn :=
  let need := (backs m.reverse (addrs m [])).eraseDups
  let kd := need.map fun t => (t, kindAt m 20 t)
  let L := kd.filterMap fun (t, k, c) => if k = 2 then some (t, c) else none
  let EL := kd.filterMap fun (t, k, _) => if k = 1 ∨ k = 0 then some t else none
  let AL := kd.filterMap fun (t, k, _) => if k = 2 then some t else none
  ⟨L, EL, AL, [], seqCalls false P ops m, []⟩

/-- The same, where those addresses from without through which something is stored are elements'. -/
def rgnOf3 (P : Program) (ops : Array Oper) (m : List AIns) : Rgn :=
  let need := (backs m.reverse (addrs m [])).eraseDups
  let kd := need.map fun t => (t, kindAt m 20 t)
  let st := m.filterMap fun i => (match i.op with
    | .w (.store _ (.t x) _) => (match kindAt m 20 x with
      | (0, c) => some c
      | _ => none)
    | _ => none)
  let L := kd.filterMap fun (t, k, c) => if k = 2 ∨ (k = 0 ∧ st.contains c = false) then some (t, c) else none
  let EL := kd.filterMap fun (t, k, c) => if k = 1 ∨ (k = 0 ∧ st.contains c = true) then some t else none
  let AL := kd.filterMap fun (t, k, _) => if k = 2 then some t else none
  ⟨L, EL, AL, [], seqCalls false P ops m, []⟩
def rgnTwo (P : Program) (ops : Array Oper) (m : List AIns) : Rgn := bif drawOkB ops m (rgnOf2 P ops m) then rgnOf2 P ops m else bif drawOkB ops m (rgnOf3 P ops m) then rgnOf3 P ops m else rgnOf P ops m
theorem rgnTwo_ok {P : Program} {ops : Array Oper} {m : List AIns} (h : drawOkB ops m (rgnOf P ops m) = true) : drawOkB ops m (rgnTwo P ops m) = true := by
  unfold rgnTwo
  cases h2 : drawOkB ops m (rgnOf2 P ops m) with
  | true => exact h2
  | false =>
    cases h3 : drawOkB ops m (rgnOf3 P ops m) with
    | true => exact h3
    | false => exact h

def Closed (ops : Array Oper) (listed : Array Bool) : Prop := ∀ i o, ops[i]? = some o → listed.getD i false = true → ∀ e ∈ o.after, Region.binds .any e = true → listed.getD e.on false = true

theorem anc_listed {ops : Array Oper} {listed : Array Bool} (hc : Closed ops listed) {i k : Nat} (h : Anc ops i k) : (∀ o, ops[i]? = some o → ∀ e ∈ o.after, Region.binds .any e = true → listed.getD e.on false = true) → listed.getD k false = true := by
  induction h with
  | one i k o e ho he hb hk => intro hl; subst hk; exact hl o ho e he hb
  | more i k o e ho he hb h ih => intro hl; exact ih fun o' ho' => hc _ o' ho' (hl o ho e he hb)

/-- What has not come up yet, in its order. -/
def left (m : List AIns) (listed : Array Bool) (l : List Nat) : List AIns := l.filterMap fun j => if listed.getD j true = true then none else m[j]?

theorem left_append (m : List AIns) (listed : Array Bool) (a b : List Nat) : left m listed (a ++ b) = left m listed a ++ left m listed b := by simp [left]

theorem left_set (m : List AIns) (listed : Array Bool) (i : Nat) (l : List Nat) (h : i ∉ l) : left m (listed.setIfInBounds i true) l = left m listed l := by
  induction l with
  | nil => rfl
  | cons j l ih =>
    have hj : i ≠ j := fun e => h (by simp [e])
    have ih := ih (fun hm => h (by simp [hm]))
    simp only [left, List.filterMap_cons] at ih ⊢
    rw [getD_set_ne true hj, ih]

theorem range_split {i n : Nat} (h : i < n) : List.range n = List.range i ++ i :: List.range' (i + 1) (n - (i + 1)) := by
  have h1 : n = i + (1 + (n - (i + 1))) := by omega
  have h2 := List.range'_append_1 (s := 0) (m := i) (n := 1 + (n - (i + 1)))
  have h3 := List.range'_append_1 (s := i) (m := 1) (n := n - (i + 1))
  rw [List.range_eq_range', List.range_eq_range']
  conv => lhs; rw [h1]
  rw [← h2, Nat.zero_add, ← h3]
  rfl

end Go.AI

namespace Go.AI
section
variable {P : Program} {C : FuncId → Con} {ns : Id}

theorem cInss_get : ∀ {ops : Array Oper} {l : List Oper} {m : List AIns}, cInss P ops l = some m → m.length = l.length ∧ ∀ (i : Nat) (o : Oper), l[i]? = some o → ∃ x, m[i]? = some x ∧ cIns P ops o = some x
  | ops, [], m, h => by cases h; exact ⟨rfl, by simp⟩
  | ops, o :: l, m, h => by
    simp only [cInss] at h
    split at h
    · rename_i x m' h1 h2
      cases h
      obtain ⟨h3, h4⟩ := cInss_get h2
      refine ⟨by simp [h3], fun i o' ho => ?_⟩
      cases i with
      | zero => simp at ho; subst ho; exact ⟨x, rfl, h1⟩
      | succ i => simp at ho ⊢; exact h4 i o' ho
    · cases h

theorem mem_left {m : List AIns} {listed : Array Bool} {l : List Nat} {x : AIns} : x ∈ left m listed l ↔ ∃ j ∈ l, listed.getD j true = false ∧ m[j]? = some x := by
  unfold left
  rw [List.mem_filterMap]
  constructor
  · rintro ⟨j, hj, h⟩
    split at h
    · cases h
    · rename_i hn
      exact ⟨j, hj, by simpa using hn, h⟩
  · rintro ⟨j, hj, h1, h2⟩
    exact ⟨j, hj, by rw [if_neg (by simp [h1])]; exact h2⟩

theorem draw_sound {D : FuncId → Con} (hC : ConOk P D) {ops : Array Oper} {m : List AIns} (hm : cInss P ops ops.toList = some m) (Inv : St → Prop)
    (hpres : ∀ i ∈ m, ∀ s s', Inv s → step D ns s i = some s' → Inv s')
    (hedge : ∀ {i o}, ops[i]? = some o → ∀ e ∈ o.after, Region.binds .any e = true → e.on < i) (hpair : ∀ {i k x y}, k < i → m[i]? = some y → m[k]? = some x → Anc ops i k ∨ Comm D ns Inv x y) {Q : Exit → Act → World → Prop} :
    ∀ (fuel : Nat) (listed : Array Bool) (J : Id → JI) (F : Nat → Prop) (w : World) (a : Act) (s sf sf0 : St), listed.size = ops.size → Closed ops listed → (left m listed (List.range m.length)).length ≤ fuel → Inv s → ERel J F w s.env a.tmps → HRel J F w s.H →
      run D ns (left m listed (List.range m.length)) s = some sf → Eqv sf sf0 → (∀ a' w' sf, Eqv sf sf0 → Moves J F w sf a a' w' → Q .normal a' w') → wpAny P .any ops Q fuel listed a w := by
  obtain ⟨hml, hmg⟩ := cInss_get hm
  have hlen : m.length = ops.size := by rw [hml]; simp
  have hop : ∀ {i}, i < ops.size → ∃ o x, ops[i]? = some o ∧ m[i]? = some x ∧ cIns P ops o = some x := by
    intro i hi
    have ho : ops[i]? = some ops[i] := Array.getElem?_eq_getElem hi
    obtain ⟨x, h1, h2⟩ := hmg i ops[i] (by simp)
    exact ⟨_, x, ho, h1, h2⟩
  have hin : ∀ {listed : Array Bool} {j}, listed.size = ops.size → listed.getD j true = false → j < ops.size := by
    intro listed j hs h
    rcases Nat.lt_or_ge j ops.size with h1 | h1
    · exact h1
    · simp [Array.getD, hs, Nat.not_lt.2 h1] at h
  have hflip : ∀ {listed : Array Bool} {j}, listed.size = ops.size → j < ops.size → listed.getD j false = listed.getD j true := by
    intro listed j hs h
    simp [Array.getD, hs, h]
  -- where nothing is ready, nothing is left
  have hnone : ∀ (listed : Array Bool), listed.size = ops.size → Region.ready .any ops listed = [] → left m listed (List.range m.length) = [] := by
    intro listed hs hr
    have all : ∀ n j, j < n → listed.getD j true = true := by
      intro n
      induction n with
      | zero => intro j hj; omega
      | succ n ih =>
        intro j hj
        by_cases hjn : j < n
        · exact ih j hjn
        · have hjn : j = n := by omega
          subst hjn
          cases hq : listed.getD j true with
          | true => rfl
          | false =>
            have hj' := hin hs hq
            obtain ⟨o, x, ho, _, _⟩ := hop hj'
            have : j ∈ Region.ready .any ops listed := mem_ready.2 ⟨hq, o, ho, fun e he hb => by
              have h1 := hedge ho e he hb
              rw [hflip hs (by omega)]
              exact ih _ h1⟩
            rw [hr] at this
            cases this
    cases hq : left m listed (List.range m.length) with
    | nil => rfl
    | cons x l =>
      have : x ∈ left m listed (List.range m.length) := by rw [hq]; simp
      obtain ⟨j, hj, h1, _⟩ := mem_left.1 this
      rw [all (j + 1) j (by omega)] at h1
      cases h1
  intro fuel
  induction fuel with
  | zero =>
    intro listed J F w a s sf sf0 hs hcl hf hI hE hH hrun heq hQ
    have h0 : left m listed (List.range m.length) = [] := List.eq_nil_of_length_eq_zero (by omega)
    rw [h0] at hrun
    simp only [run, Option.some.injEq] at hrun
    subst hrun
    refine ⟨?_, hQ a w s heq ⟨J, F, hE, hH, Ext.refl _ _ _, rfl⟩⟩
    cases hq : Region.ready .any ops listed with
    | nil => rfl
    | cons i l =>
      have hi : i ∈ Region.ready .any ops listed := by rw [hq]; simp
      obtain ⟨h1, o, ho, _⟩ := mem_ready.1 hi
      obtain ⟨_, x, _, hx, _⟩ := hop (hin hs h1)
      have : x ∈ left m listed (List.range m.length) := mem_left.2 ⟨i, by rw [List.mem_range, hlen]; exact hin hs h1, h1, hx⟩
      rw [h0] at this
      cases this
  | succ fuel ih =>
    intro listed J F w a s sf sf0 hs hcl hf hI hE hH hrun heq hQ
    refine ⟨fun hr => ?_, fun i hi => ?_⟩
    · rw [hnone listed hs hr] at hrun
      simp only [run, Option.some.injEq] at hrun
      subst hrun
      exact hQ a w s heq ⟨J, F, hE, hH, Ext.refl _ _ _, rfl⟩
    · obtain ⟨h1, o, ho, hall⟩ := mem_ready.1 hi
      have hi' := hin hs h1
      obtain ⟨o', x, ho', hx, hcx⟩ := hop hi'
      rw [ho] at ho'
      cases ho'
      have hsplit := range_split (i := i) (n := m.length) (by rw [hlen]; exact hi')
      have hleft : left m listed (List.range m.length) = left m listed (List.range i) ++ x :: left m listed (List.range' (i + 1) (m.length - (i + 1))) := by
        rw [hsplit, left_append]
        congr 1
        simp only [left, List.filterMap_cons, h1, hx]
        rfl
      have hleft' : left m (listed.setIfInBounds i true) (List.range m.length) = left m listed (List.range i) ++ left m listed (List.range' (i + 1) (m.length - (i + 1))) := by
        rw [hsplit, left_append, left_set _ _ _ _ (by simp)]
        congr 1
        rw [← left_set m listed i (List.range' (i + 1) (m.length - (i + 1))) (by rw [List.mem_range']; rintro ⟨_, _, h⟩; omega)]
        simp only [left, List.filterMap_cons]
        rw [show (listed.setIfInBounds i true).getD i true = true by simp [Array.getD, hs, hi']]
        rfl
      rw [hleft] at hrun hf
      obtain ⟨s1, sf', q1, q2, q3⟩ := bubble (Inv := Inv) _ x _ s sf (fun k hk => hpres k (by obtain ⟨j, _, _, hj2⟩ := mem_left.1 hk; exact List.mem_of_getElem? hj2)) hI (fun k hk => by
        obtain ⟨j, hj, hj1, hj2⟩ := mem_left.1 hk
        have hji : j < i := by simpa using hj
        rcases hpair hji hx hj2 with hanc | hc
        · have := anc_listed hcl hanc (fun o' ho' e he hb => by rw [ho] at ho'; cases ho'; exact hall e he hb)
          rw [hflip hs (hin hs hj1), hj1] at this
          cases this
        · exact hc) hrun
      have hs' : (listed.setIfInBounds i true).size = ops.size := by simpa using hs
      have hcl' : Closed ops (listed.setIfInBounds i true) := by
        intro j oj hoj hj e he hb
        by_cases hji : j = i
        · subst hji
          rw [ho] at hoj
          cases hoj
          exact getD_set_true (hall e he hb)
        · rw [getD_set_ne false (Ne.symm hji)] at hj
          exact getD_set_true (hcl j oj hoj hj e he hb)
      have next : ∀ a1 w1, Moves J F w s1 a a1 w1 → wpAny P .any ops Q fuel (listed.setIfInBounds i true) a1 w1 := by
        rintro a1 w1 ⟨J1, F1, r1, r2, r3, r4⟩
        exact ih _ J1 F1 w1 a1 s1 sf' sf0 hs' hcl' (by rw [hleft']; simp at hf ⊢; omega) (hpres x (List.mem_of_getElem? hx) s s1 hI q1) r1 r2 (by rw [hleft']; exact q2) (q3.trans heq)
          (fun a' w' sf hsf hmv => hQ a' w' sf hsf (Moves.trans (s1 := s1) r3 r4 hmv))
      unfold wpOp
      simp only [ho]
      rcases step_sound hC hcx hE hH q1 with ⟨hw, h⟩ | ⟨hw, h⟩
      · rw [if_pos hw]
        exact .inl (Oper.wp_mono next (h Q))
      · rw [hw]
        exact next _ _ h

theorem ok_edge {ops : Array Oper} {m : List AIns} (hm : cInss P ops ops.toList = some m) {f : Nat → Nat → Bool}
    (hok : ((List.range m.length).all fun i => (match ops[i]? with
      | some o => o.after.all fun e => !Region.binds .any e || decide (e.on < i)
      | none => false) && f i i) = true) : ∀ {i o}, ops[i]? = some o → ∀ e ∈ o.after, Region.binds .any e = true → e.on < i := by
  intro i o ho e he hb
  have hlen : m.length = ops.size := by rw [(cInss_get hm).1]; simp
  have hi : i < m.length := by rw [hlen]; exact (Array.getElem?_eq_some_iff.1 ho).1
  have := List.all_eq_true.1 hok i (by simpa using hi)
  simp only [Bool.and_eq_true, ho] at this
  have h2 := Array.all_eq_true_iff_forall_mem.1 this.1 e he
  simpa [hb] using h2

theorem drawOk_pair {ops : Array Oper} {m : List AIns} (hm : cInss P ops ops.toList = some m) {g : AIns → AIns → Bool}
    (hok : ((List.range m.length).all fun i => (match ops[i]? with
      | some o => o.after.all fun e => !Region.binds .any e || decide (e.on < i)
      | none => false) && (List.range i).all fun k => ((masks ops.toList []).getD i 0).testBit k || (match m[k]?, m[i]? with
      | some x, some y => g x y
      | _, _ => false)) = true) : ∀ {i k x y}, k < i → m[i]? = some y → m[k]? = some x → Anc ops i k ∨ g x y = true := by
  intro i k x y hki hy hx
  have hi : i < m.length := (List.getElem?_eq_some_iff.1 hy).1
  have := List.all_eq_true.1 hok i (by simpa using hi)
  simp only [Bool.and_eq_true] at this
  have h2 := List.all_eq_true.1 this.2 k (by simpa using hki)
  simp only [Bool.or_eq_true, hx, hy] at h2
  rcases h2 with h2 | h2
  · left
    cases hq : (masks ops.toList [])[i]? with
    | none => rw [List.getD_eq_getElem?_getD, hq] at h2; simp at h2
    | some z =>
      rw [List.getD_eq_getElem?_getD, hq] at h2
      exact masks_anc ops ops.toList [] [] rfl rfl (by simp) i z hq k h2
  · exact .inr h2

end
end Go.AI

namespace Go.AI
section
variable {P : Program} {C : FuncId → Con} {ns : Id}

theorem range'_split {lo n i : Nat} (h1 : lo ≤ i) (h2 : i < lo + n) : List.range' lo n = List.range' lo (i - lo) ++ i :: List.range' (i + 1) (lo + n - (i + 1)) := by
  have e : n = (i - lo) + (1 + (lo + n - (i + 1))) := by omega
  have h3 := List.range'_append_1 (s := lo) (m := i - lo) (n := 1 + (lo + n - (i + 1)))
  have h4 := List.range'_append_1 (s := lo + (i - lo)) (m := 1) (n := lo + n - (i + 1))
  conv => lhs; rw [e]
  rw [← h3, ← h4, show lo + (i - lo) = i by omega]
  rfl

theorem left_range {m : List AIns} {listed : Array Bool} : ∀ (n lo : Nat), lo + n ≤ m.length → (∀ j, lo ≤ j → j < lo + n → listed.getD j true = false) → left m listed (List.range' lo n) = (m.drop lo).take n
  | 0, lo, _, _ => by simp [left]
  | n + 1, lo, hl, h => by
    have ih := left_range (m := m) (listed := listed) n (lo + 1) (by omega) (fun j h1 h2 => h j (by omega) (by omega))
    have h0 := h lo (Nat.le_refl _) (by omega)
    have hd : m.drop lo = m[lo]'(by omega) :: m.drop (lo + 1) := List.drop_eq_getElem_cons (by omega)
    rw [List.range'_succ, hd, List.take_succ_cons, ← ih]
    simp only [left, List.filterMap_cons, h0, Bool.false_eq_true, if_false]
    rw [List.getElem?_eq_getElem (l := m) (i := lo) (by omega)]

theorem draw_part {D : FuncId → Con} (hC : ConOk P D) {ops : Array Oper} {m : List AIns} (hm : cInss P ops ops.toList = some m) (Inv : St → Prop)
    (hpres : ∀ i ∈ m, ∀ s s', Inv s → step D ns s i = some s' → Inv s')
    (hedge : ∀ {i o}, ops[i]? = some o → ∀ e ∈ o.after, Region.binds .any e = true → e.on < i) {lo n : Nat} (hlo : lo + n ≤ ops.size)
    (hpair : ∀ {i k x y}, lo ≤ k → k < i → i < lo + n → m[i]? = some y → m[k]? = some x → Anc ops i k ∨ Comm D ns Inv x y)
    (hstop : ∀ listed : Array Bool, listed.size = ops.size → Closed ops listed → (∃ j, lo ≤ j ∧ j < lo + n ∧ listed.getD j true = false) → ∀ i ∈ Region.ready .any ops listed, i < lo + n)
    {Q : Exit → Act → World → Prop} {rest : Nat} :
    ∀ (k : Nat) (listed : Array Bool) (J : Id → JI) (F : Nat → Prop) (w : World) (a : Act) (s sf sf0 : St), listed.size = ops.size → Closed ops listed → (∀ j, j < lo → listed.getD j true = true) → (∀ j, lo + n ≤ j → j < ops.size → listed.getD j true = false) →
      (left m listed (List.range' lo n)).length = k → Inv s → ERel J F w s.env a.tmps → HRel J F w s.H → run D ns (left m listed (List.range' lo n)) s = some sf → Eqv sf sf0 →
      (∀ listed' a' w' sf, Eqv sf sf0 → Moves J F w sf a a' w' → listed'.size = ops.size → Closed ops listed' → (∀ j, j < lo + n → listed'.getD j true = true) → (∀ j, lo + n ≤ j → j < ops.size → listed'.getD j true = false) → wpAny P .any ops Q rest listed' a' w') →
      wpAny P .any ops Q (k + rest) listed a w := by
  obtain ⟨hml, hmg⟩ := cInss_get hm
  have hlen : m.length = ops.size := by rw [hml]; simp
  have hop : ∀ {i}, i < ops.size → ∃ o x, ops[i]? = some o ∧ m[i]? = some x ∧ cIns P ops o = some x := by
    intro i hi
    have ho : ops[i]? = some ops[i] := Array.getElem?_eq_getElem hi
    obtain ⟨x, h1, h2⟩ := hmg i ops[i] (by simp)
    exact ⟨_, x, ho, h1, h2⟩
  have hin : ∀ {listed : Array Bool} {j}, listed.size = ops.size → listed.getD j true = false → j < ops.size := by
    intro listed j hs h
    rcases Nat.lt_or_ge j ops.size with h1 | h1
    · exact h1
    · simp [Array.getD, hs, Nat.not_lt.2 h1] at h
  have hflip : ∀ {listed : Array Bool} {j}, listed.size = ops.size → j < ops.size → listed.getD j false = listed.getD j true := by
    intro listed j hs h
    simp [Array.getD, hs, h]
  intro k
  induction k with
  | zero =>
    intro listed J F w a s sf sf0 hs hcl hbl hab hk hI hE hH hrun heq hfin
    have h0 : left m listed (List.range' lo n) = [] := List.eq_nil_of_length_eq_zero hk
    rw [h0] at hrun
    simp only [run, Option.some.injEq] at hrun
    subst hrun
    rw [Nat.zero_add]
    refine hfin listed a w s heq ⟨J, F, hE, hH, Ext.refl _ _ _, rfl⟩ hs hcl (fun j hj => ?_) hab
    rcases Nat.lt_or_ge j lo with h1 | h1
    · exact hbl j h1
    · cases hq : listed.getD j true with
      | true => rfl
      | false =>
        obtain ⟨_, x, _, hx, _⟩ := hop (hin hs hq)
        have : x ∈ left m listed (List.range' lo n) := mem_left.2 ⟨j, by rw [List.mem_range']; exact ⟨j - lo, by omega, by omega⟩, hq, hx⟩
        rw [h0] at this
        cases this
  | succ k ih =>
    intro listed J F w a s sf sf0 hs hcl hbl hab hk hI hE hH hrun heq hfin
    have hun : ∃ j, lo ≤ j ∧ j < lo + n ∧ listed.getD j true = false := by
      cases hq : left m listed (List.range' lo n) with
      | nil => rw [hq] at hk; simp at hk
      | cons x l =>
        have : x ∈ left m listed (List.range' lo n) := by rw [hq]; simp
        obtain ⟨j, hj, h1, _⟩ := mem_left.1 this
        rw [List.mem_range'] at hj
        obtain ⟨i, h2, h3⟩ := hj
        exact ⟨j, by omega, by omega, h1⟩
    rw [Nat.succ_add]
    refine ⟨fun hr => ?_, fun i hi => ?_⟩
    · -- something is ready
      exfalso
      have least : ∀ d j, j = lo + d → j < lo + n → listed.getD j true = true := by
        intro d
        induction d using Nat.strongRecOn with
        | _ d ihd =>
          intro j hj hjn
          cases hq : listed.getD j true with
          | true => rfl
          | false =>
            have hj' := hin hs hq
            obtain ⟨o, x, ho, _, _⟩ := hop hj'
            have : j ∈ Region.ready .any ops listed := mem_ready.2 ⟨hq, o, ho, fun e he hb => by
              have h1 := hedge ho e he hb
              rw [hflip hs (by omega)]
              rcases Nat.lt_or_ge e.on lo with h2 | h2
              · exact hbl _ h2
              · exact ihd (e.on - lo) (by omega) e.on (by omega) (by omega)⟩
            rw [hr] at this
            cases this
      obtain ⟨j, h1, h2, h3⟩ := hun
      rw [least (j - lo) j (by omega) h2] at h3
      cases h3
    · have hin' := hstop listed hs hcl hun i hi
      obtain ⟨h1, o, ho, hall⟩ := mem_ready.1 hi
      have hi' := hin hs h1
      have hil : lo ≤ i := by
        rcases Nat.lt_or_ge i lo with h2 | h2
        · rw [hbl i h2] at h1; cases h1
        · exact h2
      obtain ⟨o', x, ho', hx, hcx⟩ := hop hi'
      rw [ho] at ho'
      cases ho'
      have hsplit := range'_split (lo := lo) (n := n) hil hin'
      have hleft : left m listed (List.range' lo n) = left m listed (List.range' lo (i - lo)) ++ x :: left m listed (List.range' (i + 1) (lo + n - (i + 1))) := by
        rw [hsplit, left_append]
        congr 1
        simp only [left, List.filterMap_cons, h1, hx]
        rfl
      have hleft' : left m (listed.setIfInBounds i true) (List.range' lo n) = left m listed (List.range' lo (i - lo)) ++ left m listed (List.range' (i + 1) (lo + n - (i + 1))) := by
        rw [hsplit, left_append, left_set _ _ _ _ (by rw [List.mem_range']; rintro ⟨_, h2, h3⟩; omega)]
        congr 1
        rw [← left_set m listed i (List.range' (i + 1) (lo + n - (i + 1))) (by rw [List.mem_range']; rintro ⟨_, _, h⟩; omega)]
        simp only [left, List.filterMap_cons]
        rw [show (listed.setIfInBounds i true).getD i true = true by simp [Array.getD, hs, hi']]
        rfl
      rw [hleft] at hrun hk
      obtain ⟨s1, sf', q1, q2, q3⟩ := bubble (Inv := Inv) _ x _ s sf (fun k hk => hpres k (by obtain ⟨j, _, _, hj2⟩ := mem_left.1 hk; exact List.mem_of_getElem? hj2)) hI (fun k hk => by
        obtain ⟨j, hj, hj1, hj2⟩ := mem_left.1 hk
        rw [List.mem_range'] at hj
        obtain ⟨d, hd1, hd2⟩ := hj
        rcases hpair (by omega) (show j < i by omega) hin' hx hj2 with hanc | hc
        · have := anc_listed hcl hanc (fun o' ho' e he hb => by rw [ho] at ho'; cases ho'; exact hall e he hb)
          rw [hflip hs (hin hs hj1), hj1] at this
          cases this
        · exact hc) hrun
      have hs' : (listed.setIfInBounds i true).size = ops.size := by simpa using hs
      have hcl' : Closed ops (listed.setIfInBounds i true) := by
        intro j oj hoj hj e he hb
        by_cases hji : j = i
        · subst hji
          rw [ho] at hoj
          cases hoj
          exact getD_set_true (hall e he hb)
        · rw [getD_set_ne false (Ne.symm hji)] at hj
          exact getD_set_true (hcl j oj hoj hj e he hb)
      have next : ∀ a1 w1, Moves J F w s1 a a1 w1 → wpAny P .any ops Q (k + rest) (listed.setIfInBounds i true) a1 w1 := by
        rintro a1 w1 ⟨J1, F1, r1, r2, r3, r4⟩
        refine ih _ J1 F1 w1 a1 s1 sf' sf0 hs' hcl' (fun j hj => ?_) (fun j hj hj2 => ?_) (by rw [hleft']; simp at hk ⊢; omega) (hpres x (List.mem_of_getElem? hx) s s1 hI q1) r1 r2 (by rw [hleft']; exact q2) (q3.trans heq)
          (fun listed' a' w' sf hsf hmv => hfin listed' a' w' sf hsf (Moves.trans (s1 := s1) r3 r4 hmv))
        · rw [getD_set_ne true (by omega)]; exact hbl j hj
        · rw [getD_set_ne true (by omega)]; exact hab j hj hj2
      unfold wpOp
      simp only [ho]
      rcases step_sound hC hcx hE hH q1 with ⟨hw, h⟩ | ⟨hw, h⟩
      · rw [if_pos hw]
        exact .inl (Oper.wp_mono next (h Q))
      · rw [hw]
        exact next _ _ h

/-- All else stands ahead of one operation, or behind it; and may change places there. -/
def cutOk (ops : Array Oper) (m : List AIns) (c : Nat) : Bool :=
  (List.range m.length).all fun i => (match ops[i]? with
    | some o => o.after.all fun e => !Region.binds .any e || decide (e.on < i)
    | none => false) && (List.range i).all fun k => ((masks ops.toList []).getD i 0).testBit k || ((decide (i < c) || decide (c < k)) && (match m[k]?, m[i]? with
    | some x, some y => commB x y
    | _, _ => false))
def isCall : AOp → Bool
  | .r (.call _ _) => true
  | .r (.callv _ _) => true
  | _ => false
def cutFrom (ops : Array Oper) (m : List AIns) : List Nat → Option Nat
  | [] => none
  | c :: l => (match m[c]? with
    | some i => (match isCall i.op && i.guard.isNone && cutOk ops m c with
      | true => some c
      | false => cutFrom ops m l)
    | none => cutFrom ops m l)
/-- The call that a row may be cut at. -/
def cutOf (ops : Array Oper) (m : List AIns) : Option Nat := cutFrom ops m (List.range m.length)
theorem cutFrom_ok {ops : Array Oper} {m : List AIns} {c : Nat} : ∀ {l : List Nat}, cutFrom ops m l = some c → cutOk ops m c = true
  | [], h => by cases h
  | k :: l, h => by
    simp only [cutFrom] at h
    split at h
    · split at h
      · rename_i hh
        cases h
        simp only [Bool.and_eq_true] at hh
        exact hh.2
      · exact cutFrom_ok h
    · exact cutFrom_ok h

theorem cutOk_pair {ops : Array Oper} {m : List AIns} (hm : cInss P ops ops.toList = some m) {c : Nat} (hok : cutOk ops m c = true) {i k : Nat} {x y : AIns} (hki : k < i) (hy : m[i]? = some y) (hx : m[k]? = some x) : Anc ops i k ∨ ((i < c ∨ c < k) ∧ commB x y = true) := by
  have _ := hm
  have hi : i < m.length := (List.getElem?_eq_some_iff.1 hy).1
  have := List.all_eq_true.1 hok i (by simpa using hi)
  simp only [Bool.and_eq_true] at this
  have h2 := List.all_eq_true.1 this.2 k (by simpa using hki)
  simp only [Bool.or_eq_true, Bool.and_eq_true, decide_eq_true_eq, hx, hy] at h2
  rcases h2 with h2 | h2
  · left
    cases hq : (masks ops.toList [])[i]? with
    | none => rw [List.getD_eq_getElem?_getD, hq] at h2; simp at h2
    | some z =>
      rw [List.getD_eq_getElem?_getD, hq] at h2
      exact masks_anc ops ops.toList [] [] rfl rfl (by simp) i z hq k h2
  · exact .inr h2

theorem draw_cut (hC : ConOk P C) {ops : Array Oper} {m : List AIns} (hm : cInss P ops ops.toList = some m) {c : Nat} {mi : AIns} (hci : m[c]? = some mi) (hok : cutOk ops m c = true) {Q : Exit → Act → World → Prop} {J : Id → JI} {F : Nat → Prop} {w : World} {a : Act} {s s1 : St} (hE : ERel J F w s.env a.tmps) (hH : HRel J F w s.H)
    (h1 : run (flatC C) ns (m.take c) s = some s1)
    (hmid : ∀ sf a1 w1, Eqv sf s1 → Moves J F w sf a a1 w1 → ∀ K : Act → World → Prop,
      (∀ a2 w2 s2 s3 J2 F2 ns2, ERel J2 F2 w2 s2.env a2.tmps → HRel J2 F2 w2 s2.H → run (flatC C) ns2 (m.drop (c + 1)) s2 = some s3 → (∀ s3' a3 w3, Eqv s3' s3 → Moves J2 F2 w2 s3' a2 a3 w3 → Q .normal a3 w3) → K a2 w2) → wpOp P ops Q c K a1 w1) :
    wpAny P .any ops Q ops.size (Array.replicate ops.size false) a w := by
  have hlen : m.length = ops.size := by rw [(cInss_get hm).1]; simp
  have hc : c < ops.size := by rw [← hlen]; exact (List.getElem?_eq_some_iff.1 hci).1
  have hedge : ∀ {i o}, ops[i]? = some o → ∀ e ∈ o.after, Region.binds .any e = true → e.on < i := fun {i o} => ok_edge hm (f := fun _ i => (List.range i).all fun k => ((masks ops.toList []).getD i 0).testBit k || ((decide (i < c) || decide (c < k)) && (match m[k]?, m[i]? with
    | some x, some y => commB x y
    | _, _ => false))) hok (i := i) (o := o)
  have hflip : ∀ {listed : Array Bool} {j}, listed.size = ops.size → j < ops.size → listed.getD j false = listed.getD j true := by
    intro listed j hs h
    simp [Array.getD, hs, h]
  have get : ∀ {i}, i < ops.size → ∃ x, m[i]? = some x := fun {i} hi => ⟨m[i]'(by omega), List.getElem?_eq_getElem (by omega)⟩
  have anc : ∀ {i j}, j < i → i < ops.size → ¬ (i < c) → ¬ (c < j) → Anc ops i j := by
    intro i j hji hi h1 h2
    obtain ⟨y, hy⟩ := get hi
    obtain ⟨x, hx⟩ := get (show j < ops.size by omega)
    rcases cutOk_pair hm hok hji hy hx with h | ⟨h | h, _⟩
    · exact h
    · exact absurd h h1
    · exact absurd h h2
  have blocked : ∀ listed : Array Bool, listed.size = ops.size → Closed ops listed → ∀ {i j}, i ∈ Region.ready .any ops listed → j < i → i < ops.size → ¬ (i < c) → ¬ (c < j) → listed.getD j true = true := by
    intro listed hs hcl i j hi hji hil h1 h2
    obtain ⟨_, o, ho, hall⟩ := mem_ready.1 hi
    have := anc_listed hcl (anc hji hil h1 h2) (fun o' ho' e he hb => by rw [ho] at ho'; cases ho'; exact hall e he hb)
    rwa [hflip hs (by omega)] at this
  have ready_lt : ∀ {listed : Array Bool} {i}, i ∈ Region.ready .any ops listed → i < ops.size := fun {listed i} hi => by
    obtain ⟨_, o, ho, _⟩ := mem_ready.1 hi
    exact (Array.getElem?_eq_some_iff.1 ho).1
  have hrep : ∀ j, j < ops.size → (Array.replicate ops.size false).getD j true = false := fun j hj => by simp [Array.getD, hj]
  have hl0 : left m (Array.replicate ops.size false) (List.range' 0 c) = m.take c := by
    rw [left_range c 0 (by omega) (fun j _ hj => hrep j (by omega))]
    rfl
  have e0 : ops.size = c + ((ops.size - (c + 1)) + 1) := by omega
  conv => arg 5; rw [e0]
  refine draw_part (ns := ns) (flatC_ok hC) hm (fun _ => True) (fun _ _ _ _ _ _ => trivial) hedge (lo := 0) (n := c) (by omega) (fun {i k x y} h0 hki hi hy hx => ?_) (fun listed hs hcl hun i hi => ?_) (rest := (ops.size - (c + 1)) + 1) c _ J F w a s s1 s1 (by simp) ?_ (fun j hj => by omega) (fun j _ hj => hrep j hj) (by rw [hl0, List.length_take]; omega) trivial hE hH (by rw [hl0]; exact h1) (.refl _) ?_
  · rcases cutOk_pair hm hok hki hy hx with h | ⟨_, h⟩
    · exact .inl h
    · exact .inr (Comm.of_commB h)
  · obtain ⟨j, _, hj, hjl⟩ := hun
    apply Classical.byContradiction
    intro hge
    rw [blocked listed hs hcl hi (by omega) (ready_lt hi) (by omega) (by omega)] at hjl
    cases hjl
  · intro i o ho hi e he hb
    have : i < ops.size := (Array.getElem?_eq_some_iff.1 ho).1
    simp [Array.getD, this] at hi
  · intro listed a1 w1 sf hsf hmv hs hcl hbl hab
    simp only [Nat.zero_add] at hbl hab
    have hcl2 : listed.getD c true = false := hab c (Nat.le_refl _) hc
    obtain ⟨oc, hoc⟩ : ∃ o, ops[c]? = some o := ⟨ops[c], Array.getElem?_eq_getElem hc⟩
    have hcr : c ∈ Region.ready .any ops listed := mem_ready.2 ⟨hcl2, oc, hoc, fun e he hb => by
      have := hedge hoc e he hb
      rw [hflip hs (by omega)]
      exact hbl _ this⟩
    refine ⟨fun hr => ?_, fun i hi => ?_⟩
    · rw [hr] at hcr; cases hcr
    · have hic : i = c := by
        rcases Nat.lt_trichotomy i c with h | h | h
        · have := (mem_ready.1 hi).1
          rw [hbl i h] at this
          cases this
        · exact h
        · rw [blocked listed hs hcl hi h (ready_lt hi) (by omega) (by omega)] at hcl2
          cases hcl2
      subst hic
      have hs' : (listed.setIfInBounds i true).size = ops.size := by simpa using hs
      have hcl' : Closed ops (listed.setIfInBounds i true) := by
        intro j oj hoj hj e he hb
        by_cases hji : j = i
        · subst hji
          have h5 := hedge hoj e he hb
          refine getD_set_true ?_
          rw [hflip hs (by omega)]
          exact hbl _ h5
        · rw [getD_set_ne false (Ne.symm hji)] at hj
          exact getD_set_true (hcl j oj hoj hj e he hb)
      have hab' : ∀ j, i + 1 ≤ j → j < ops.size → (listed.setIfInBounds i true).getD j true = false := fun j h1 h2 => by rw [getD_set_ne true (by omega)]; exact hab j (by omega) h2
      have hbl' : ∀ j, j < i + 1 → (listed.setIfInBounds i true).getD j true = true := fun j hj => by
        by_cases hji : j = i
        · subst hji; simp [Array.getD, hs, hc]
        · rw [getD_set_ne true (Ne.symm hji)]; exact hbl j (by omega)
      refine hmid sf a1 w1 hsf hmv _ fun a2 w2 s2 s3 J2 F2 ns2 hE2 hH2 hr2 hq => ?_
      have hl2 : left m (listed.setIfInBounds i true) (List.range' (i + 1) (ops.size - (i + 1))) = m.drop (i + 1) := by
        rw [left_range _ _ (by omega) (fun j h1 h2 => hab' j h1 (by omega)), List.take_of_length_le (by rw [List.length_drop]; omega)]
      have := draw_part (ns := ns2) (flatC_ok hC) hm (fun _ => True) (fun _ _ _ _ _ _ => trivial) hedge (lo := i + 1) (n := ops.size - (i + 1)) (by omega) (fun {j k x y} h0 hki hj hy hx => by
        rcases cutOk_pair hm hok hki hy hx with h | ⟨_, h⟩
        · exact .inl h
        · exact .inr (Comm.of_commB h)) (fun listed hs hcl hun j hj => by have := ready_lt hj; omega) (Q := Q) (rest := 0) (ops.size - (i + 1)) _ J2 F2 w2 a2 s2 s3 s3 hs' hcl' hbl' (fun j h1 h2 => by omega) (by rw [hl2, List.length_drop]; omega) trivial hE2 hH2 (by rw [hl2]; exact hr2) (.refl _) (fun listed' a' w' sf' hsf' hmv' hs2 _ hall _ => by
          refine ⟨?_, hq sf' a' w' hsf' hmv'⟩
          cases hq : Region.ready .any ops listed' with
          | nil => rfl
          | cons j l =>
            have hj : j ∈ Region.ready .any ops listed' := by rw [hq]; simp
            have h5 := (mem_ready.1 hj).1
            rw [hall j (by have := ready_lt hj; omega)] at h5
            cases h5)
      simpa using this

end
end Go.AI

namespace Go.AI

/-- From one moment to a later one, for the names of a base alone. -/
structure Ext0 (B : Id → Prop) (J : Id → JI) (F : Nat → Prop) (w : World) (J' : Id → JI) (F' : Nat → Prop) (w' : World) : Prop where
  le : ∀ id, B id → (J id).le (J' id)
  fle : ∀ g, F g → F' g
  fnew : ∀ g, F' g → F g ∨ Own J g ∨ w.heap.size ≤ g
  onew : ∀ g, Own J' g → Own J g ∨ w.heap.size ≤ g
  heap : ∀ g, g < w.heap.size → ¬ Own J g → w'.heap[g]? = w.heap[g]?
  size : w.heap.size ≤ w'.heap.size
  os : w'.os = w.os
  tape : w'.tape = w.tape
  output : w'.output = w.output

/-- The names that a heap has. -/
def inHp (H : Hp) : Id → Prop := fun id => H id ≠ none

/-- One abstract state says no more than another. -/
def Sub (B : Id → Prop) (s s' : St) : Prop := ∀ (J : Id → JI) (F : Nat → Prop) (w : World) (a : Act), ERel J F w s.env a.tmps → HRel J F w s.H →
  ∃ J' F', ERel J' F' w s'.env a.tmps ∧ HRel J' F' w s'.H ∧ Ext0 B J F w J' F' w

def thenA (next : St → Prop) (Q : Exit → St → Prop) : Exit → St → Prop
  | .normal, s => next s
  | e, s => Q e s

def inBlockA (id : Nat) (Q : Exit → St → Prop) : Exit → St → Prop
  | .exit id', s => if id' = id then Q .normal s else Q (.exit id') s
  | e, s => Q e s

/-- Is it what the temporaries have? -/
def Has (l : List (Nat × AV)) : List (Nat × AV) → Prop
  | [] => True
  | (t, x) :: m => look l t = x ∧ Has l m

theorem Has.get {l : List (Nat × AV)} : ∀ {m : List (Nat × AV)}, Has l m → ∀ p ∈ m, look l p.1 = p.2
  | [], _, p, hp => by cases hp
  | (t, x) :: m, h, p, hp => by
    rcases List.mem_cons.1 hp with rfl | hp
    · exact h.1
    · exact Has.get h.2 p hp

def wpA (C : FuncId → Con) (ns : Id) (B : Id → Prop) : ACode → (Exit → St → Prop) → St → Prop
  | .skip, Q, s => Q .normal s
  | .region ops, Q, s => ∃ s', run C ns ops s = some s' ∧ Q .normal s'
  | .draw ops _, Q, s => ∃ s' l, run (flatC C) ns ops s = some s' ∧ Has s'.env.l l ∧ Q .normal ⟨⟨s'.env.n, l⟩, s'.H⟩
  | .drawA ops r1 r2 _, Q, s => ∃ r : Rgn, (r = r1 ∨ r = r2) ∧ ∃ ids : Nat → Id, invT ids s r.L ∧ invE s r.EL ∧ (∀ d ∈ r.AL, ids d = d :: ns) ∧ (∀ p ∈ r.needs, ids p.1 ≠ ids p.2) ∧ (∀ p ∈ r.LB, C p.1 = .shared (libSpec p.2)) ∧ ∃ s' l, run (mixC r.S r.LB C) ns ops s = some s' ∧ Has s'.env.l l ∧ Q .normal ⟨⟨s'.env.n, l⟩, s'.H⟩
  | .seq x y, Q, s => wpA C ns B x (thenA (wpA C ns B y Q) Q) s
  | .cond c x y, Q, s => ∃ t, unw true (evE s.env c) = .val (.bool t) ∧ (t = true → wpA C ns B x Q s) ∧ (t = false → wpA C ns B y Q s)
  | .block id x, Q, s => wpA C ns B x (inBlockA id Q) s
  | .loop x, Q, s => ∀ R : St → Prop, (∀ s s0, Sub B s s0 → wpA C ns B x (thenA R Q) s0 → R s) → R s
  | .exit id, Q, s => Q (.exit id) s
  | .bad, _, _ => False
  | .ret, Q, s => Q .ret s

def compC (P : Program) : Code → Option ACode
  | .skip => some .skip
  | .region _ ops draw => match draw, cInss P ops ops.toList with
    | false, some m => some (.region m)
    | true, some m => if P.follows .mixedOrders = true then (if ((seqCalls true P ops m).isEmpty && (libsIn P m).isEmpty) = true ∧ drawOk ops m = true then some (.draw m (cutOf ops m)) else if drawOkB ops m (rgnOf P ops m) = true then some (.drawA m (rgnOf P ops m) (rgnTwo P ops m) (cutOf ops m)) else if drawOk ops m = true then some (.draw m (cutOf ops m)) else some .bad) else some .bad
    | _, none => some .bad
  | .seq x y => match compC P x, compC P y with
    | some x', some y' => some (.seq x' y')
    | _, _ => none
  | .cond c x y => match cOpd c, compC P x, compC P y with
    | some c', some x', some y' => some (.cond c' x' y')
    | _, _, _ => none
  | .block id x => (compC P x).map (.block id)
  | .loop x => (compC P x).map .loop
  | .exit id => some (.exit id)
  | .ret => some .ret
  | _ => some .bad

section
variable {P : Program} {J J0 : Id → JI} {F F0 : Nat → Prop} {w w0 : World} {H : Hp} {a : Act} {C : FuncId → Con} {B : Id → Prop}

theorem Ext.to0 {J' : Id → JI} {F' : Nat → Prop} {w' : World} (h : Ext J F w J' F' w') : Ext0 B J F w J' F' w' := ⟨fun id _ => h.le id, h.fle, h.fnew, h.onew, h.heap, h.size, h.os, h.tape, h.output⟩

theorem Ext0.trans {J' J'' : Id → JI} {F' F'' : Nat → Prop} {w' w'' : World} (h : Ext0 B J F w J' F' w') (h' : Ext0 B J' F' w' J'' F'' w'') : Ext0 B J F w J'' F'' w'' where
  le id hb := JI.le_trans (h.le id hb) (h'.le id hb)
  fle g hg := h'.fle g (h.fle g hg)
  fnew g hg := by
    rcases h'.fnew g hg with h1 | h1 | h1
    · exact h.fnew g h1
    · rcases h.onew g h1 with h2 | h2
      · exact .inr (.inl h2)
      · exact .inr (.inr h2)
    · exact .inr (.inr (Nat.le_trans h.size h1))
  onew g hg := by
    rcases h'.onew g hg with h1 | h1
    · exact h.onew g h1
    · exact .inr (Nat.le_trans h.size h1)
  heap g hg ho := by
    rw [h'.heap g (Nat.lt_of_lt_of_le hg h.size) (fun h1 => by
      rcases h.onew g h1 with h2 | h2
      · exact ho h2
      · omega), h.heap g hg ho]
  size := Nat.le_trans h.size h'.size
  os := h'.os.trans h.os
  tape := h'.tape.trans h.tape
  output := h'.output.trans h.output

theorem Ext0.refl (J : Id → JI) (F : Nat → Prop) (w : World) : Ext0 B J F w J F w := (Ext.refl J F w).to0

/-- A frame in a world is as an abstract state says, and came there from a moment before. -/
def Stands (B : Id → Prop) (J0 : Id → JI) (F0 : Nat → Prop) (w0 : World) (d0 : List Deferred) (s : St) (a : Act) (w : World) : Prop :=
  ∃ J F, ERel J F w s.env a.tmps ∧ HRel J F w s.H ∧ Ext0 B J0 F0 w0 J F w ∧ a.defers = d0

/-- A loop comes to an end, from where a round begins. -/
def Rounds (P : Program) (c : Code) (Q : Exit → Act → World → Prop) (a : Act) (w : World) : Prop :=
  ∀ (b : Frame) (k : List Item) (cs : List Go.Frame), ∃ e a' w', Q e a' w' ∧ Arrives P (lone (b.at a (.code c :: .inLoop c :: k)) cs w) b k cs e a' w'

theorem rounds_step {c : Code} {Q : Exit → Act → World → Prop} (h : c.wp P (Exit.then (Rounds P c Q) Q) a w) : Rounds P c Q a w := by
  intro b k cs
  obtain ⟨e, a₁, w₁, hq, harr⟩ := h b (.inLoop c :: k) cs
  cases e with
  | normal =>
    obtain ⟨e₂, a₂, w₂, hq₂, harr₂⟩ := hq b k cs
    exact ⟨e₂, a₂, w₂, hq₂, .of_steps (Steps.trans harr (.one step_inLoop)) harr₂⟩
  | exit id => exact ⟨_, a₁, w₁, hq, .pass (x := .inLoop c) rfl (fun _ _ => .inl (by simp)) harr⟩
  | goto l => exact ⟨_, a₁, w₁, hq, .pass (x := .inLoop c) rfl (fun _ _ => .inl (by simp)) harr⟩
  | ret => exact ⟨_, a₁, w₁, hq, .pass (x := .inLoop c) rfl (fun _ _ => .inl (by simp)) harr⟩
  | panic ch => exact ⟨_, a₁, w₁, hq, .pass (x := .inLoop c) rfl (fun _ _ => .inl (by simp)) harr⟩
  | outgrown => exact ⟨_, a₁, w₁, hq, .pass (x := .inLoop c) rfl (fun _ _ => .inl (by simp)) harr⟩

theorem wp_rounds {c : Code} {Q : Exit → Act → World → Prop} (h : Rounds P c Q a w) : (Code.loop c).wp P Q a w := by
  intro b k cs
  obtain ⟨e, a', w', hq, harr⟩ := h b k cs
  exact ⟨e, a', w', hq, .of_steps (.one step_loop) harr⟩

/-- Forget what temporaries have. -/
theorem Sub.env {s : St} {l : List (Nat × AV)} (h : ∀ p ∈ l, look s.env.l p.1 = p.2) : Sub B s ⟨⟨s.env.n, l⟩, s.H⟩ := by
  intro J F w a hE hH
  have key : ∀ t, look l t = look s.env.l t ∨ look l t = .junk := by
    intro t
    induction l with
    | nil => exact .inr rfl
    | cons p l ih =>
      simp only [look]
      split
      · rename_i e
        subst e
        exact .inl (h p (by simp)).symm
      · exact ih (fun q hq => h q (by simp [hq]))
  refine ⟨J, F, ⟨hE.1, fun t v h1 => ?_, fun t ht => ?_⟩, hH, Ext0.refl _ _ _⟩
  · rcases key t with h2 | h2
    · simp only [h2]; exact hE.2.1 t v h1
    · simp only [h2]; exact .junk _
  · rcases key t with h2 | h2
    · simp only [h2]; exact hE.2.2 t ht
    · exact h2

theorem left_all {ops : Array Oper} {m : List AIns} (hm : cInss P ops ops.toList = some m) : left m (Array.replicate ops.size false) (List.range m.length) = m := by
  have hlen : m.length = ops.size := by have := (cInss_get hm).1; simpa using this
  have hall : left m (Array.replicate ops.size false) (List.range m.length) = (List.range m.length).filterMap fun j => m[j]? := by
    unfold left
    have key : ∀ l : List Nat, (∀ j ∈ l, j < ops.size) → (l.filterMap fun j => if (Array.replicate ops.size false).getD j true = true then none else m[j]?) = l.filterMap fun j => m[j]? := by
      intro l
      induction l with
      | nil => intro _; rfl
      | cons j l ih =>
        intro hj
        have h1 := hj j (by simp)
        simp only [List.filterMap_cons]
        rw [if_neg (by simp [Array.getD, h1]), ih (fun k hk => hj k (by simp [hk]))]
    exact key _ (fun j hj => by rw [← hlen]; simpa using hj)
  rw [hall]
  clear hall hlen
  have key2 : ∀ (m : List AIns) (p : List AIns), (List.range' p.length m.length).filterMap (fun j => (p ++ m)[j]?) = m := by
    intro m
    induction m with
    | nil => intro p; rfl
    | cons x m ih =>
      intro p
      simp only [List.length_cons, List.range'_succ, List.filterMap_cons]
      have : (p ++ x :: m)[p.length]? = some x := by simp
      rw [this]
      simp only
      have := ih (p ++ [x])
      simp only [List.length_append, List.length_cons, List.length_nil, List.append_assoc, List.cons_append, List.nil_append] at this
      rw [this]
  have := key2 m []
  simpa [List.range_eq_range'] using this

/-- **Code.** -/
theorem wpA_sound (hC : ConOk P C) {ns : Id} {d0 : List Deferred} : ∀ (c : Code) (ac : ACode), compC P c = some ac → ∀ (Qa : Exit → St → Prop) (Q : Exit → Act → World → Prop) (s : St) (a : Act) (w : World), Stands B J0 F0 w0 d0 s a w → wpA C ns B ac Qa s →
    (∀ e s' a' w', Stands B J0 F0 w0 d0 s' a' w' → Qa e s' → Q e a' w') → c.wp P Q a w := by
  intro c
  induction c with
  | skip =>
    intro ac hc Qa Q s a w hS hw hQ
    cases hc
    exact wp_skip (hQ _ _ _ _ hS hw)
  | region id ops draw =>
    intro ac hc Qa Q s a w hS hw hQ
    simp only [compC] at hc
    split at hc
    · rename_i m hm
      cases hc
      obtain ⟨s', hs', hq⟩ := hw
      obtain ⟨J, F, hE, hH, hX, hd⟩ := hS
      refine wp_region_list (run_sound hC ops.toList m J F w a s s' hm hE hH hs' ?_)
      rintro a' w' ⟨J', F', h1, h2, h3, h4⟩
      exact hQ _ _ _ _ ⟨J', F', h1, h2, hX.trans h3.to0, h4.trans hd⟩ hq
    · rename_i m hm
      have hl : left m (Array.replicate ops.size false) (List.range m.length) = m := left_all hm
      split at hc
      · rename_i hmix
        have plain : drawOk ops m = true → wpA C ns B (.draw m none) Qa s → (Code.region id ops true).wp P Q a w := by
          rintro hok ⟨s', l, hs', hhas, hq⟩
          obtain ⟨J, F, hE, hH, hX, hd⟩ := hS
          have hH1 : HRel J F { w with drawn := w.drawn + 1 } s.H := hH.drew
          have hE1 : ERel J F { w with drawn := w.drawn + 1 } s.env a.tmps := hE.ext hH (ext_drew J F w)
          refine wp_region_any hmix (draw_sound (ns := ns) (flatC_ok hC) hm (fun _ => True) (fun _ _ _ _ _ _ => trivial) (fun {i o} => ok_edge hm (f := fun _ i => (List.range i).all fun k => ((masks ops.toList []).getD i 0).testBit k || (match m[k]?, m[i]? with
            | some x, some y => commB x y
            | _, _ => false)) hok (i := i) (o := o)) (fun hki hy hx => (drawOk_pair hm hok hki hy hx).imp (fun h => h) Comm.of_commB) ops.size _ J F _ a s s' s' (by simp) ?_ ?_ trivial hE1 hH1 (by rw [hl]; exact hs') (.refl _) ?_)
          · intro i o ho hi e he hb
            have : i < ops.size := (Array.getElem?_eq_some_iff.1 ho).1
            simp [Array.getD, this] at hi
          · rw [hl]
            have := (cInss_get hm).1
            simp at this
            omega
          · rintro a' w' s'' heq ⟨J', F', h1, h2, h3, h4⟩
            obtain ⟨J2, F2, k1, k2, k3⟩ := Sub.env (B := B) (s := s'') (l := l) (fun p hp => by rw [heq.look]; exact hhas.get p hp) J' F' w' a' h1 h2
            rw [← heq.n, ← heq.H] at hq
            exact hQ _ _ a' w' ⟨J2, F2, k1, k2, (hX.trans ((ext_drew J F w).trans h3).to0).trans k3, h4.trans hd⟩ hq
        split at hc
        · rename_i hok
          cases hc
          exact plain hok.2 hw
        · split at hc
          · rename_i hok
            cases hc
            obtain ⟨rr, hrr, ids, hI, hIE, hAL, hn, hLB, s', l, hs', hhas, hq⟩ := hw
            obtain ⟨J, F, hE, hH, hX, hd⟩ := hS
            have hH1 : HRel J F { w with drawn := w.drawn + 1 } s.H := hH.drew
            have hE1 : ERel J F { w with drawn := w.drawn + 1 } s.env a.tmps := hE.ext hH (ext_drew J F w)
            have hok2 : drawOkB ops m rr = true := by
              rcases hrr with rfl | rfl
              · exact hok
              · exact rgnTwo_ok hok
            unfold drawOkB at hok2
            rw [Bool.and_eq_true] at hok2
            refine wp_region_any hmix (draw_sound (ns := ns) (mixC_ok hC hLB) hm (InvB rr.L rr.EL ids) (fun i hi s s' h1 h2 => InvB.step (List.all_eq_true.1 hok2.1 i hi) hAL h1 h2) (fun {i o} => ok_edge hm (f := fun _ i => (List.range i).all fun k => ((masks ops.toList []).getD i 0).testBit k || (match m[k]?, m[i]? with
              | some x, some y => commX rr x y
              | _, _ => false)) hok2.2 (i := i) (o := o)) (fun hki hy hx => (drawOk_pair hm (g := fun x y => commX rr x y) hok2.2 hki hy hx).imp (fun h => h) (Comm.of_commX hn)) ops.size _ J F _ a s s' s' (by simp) ?_ ?_ (inv_of hI hIE) hE1 hH1 (by rw [hl]; exact hs') (.refl _) ?_)
            · intro i o ho hi e he hb
              have : i < ops.size := (Array.getElem?_eq_some_iff.1 ho).1
              simp [Array.getD, this] at hi
            · rw [hl]
              have := (cInss_get hm).1
              simp at this
              omega
            · rintro a' w' s'' heq ⟨J', F', h1, h2, h3, h4⟩
              obtain ⟨J2, F2, k1, k2, k3⟩ := Sub.env (B := B) (s := s'') (l := l) (fun p hp => by rw [heq.look]; exact hhas.get p hp) J' F' w' a' h1 h2
              rw [← heq.n, ← heq.H] at hq
              exact hQ _ _ a' w' ⟨J2, F2, k1, k2, (hX.trans ((ext_drew J F w).trans h3).to0).trans k3, h4.trans hd⟩ hq
          · split at hc
            · rename_i hok
              cases hc
              exact plain hok hw
            · cases hc; exact hw.elim
      · cases hc; exact hw.elim
    · cases hc; exact hw.elim
  | seq x y ihx ihy =>
    intro ac hc Qa Q s a w hS hw hQ
    simp only [compC] at hc
    split at hc
    · rename_i x' y' hx hy
      cases hc
      refine wp_seq (ihx x' hx _ _ s a w hS hw ?_)
      intro e s' a' w' hS' h
      cases e <;> try exact hQ _ s' a' w' hS' h
      exact ihy y' hy Qa Q s' a' w' hS' h hQ
    · cases hc
  | cond c x y ihx ihy =>
    intro ac hc Qa Q s a w hS hw hQ
    simp only [compC] at hc
    split at hc
    · rename_i c' x' y' h1 hx hy
      cases hc
      obtain ⟨t, ht, h2, h3⟩ := hw
      obtain ⟨J, F, hE, hH, hX, hd⟩ := hS
      have hv := (orel hE).ev h1
      simp only [ht] at hv
      refine wp_cond hv.bool ?_
      cases t with
      | true => exact ihx x' hx Qa Q s a w ⟨J, F, hE, hH, hX, hd⟩ (h2 rfl) hQ
      | false => exact ihy y' hy Qa Q s a w ⟨J, F, hE, hH, hX, hd⟩ (h3 rfl) hQ
    · cases hc
  | block id x ih =>
    intro ac hc Qa Q s a w hS hw hQ
    simp only [compC, Option.map_eq_some_iff] at hc
    obtain ⟨x', hx, rfl⟩ := hc
    refine wp_block (ih x' hx _ _ s a w hS hw ?_)
    intro e s' a' w' hS' h
    cases e <;> try exact hQ _ s' a' w' hS' h
    rename_i id'
    simp only [inBlockA] at h
    simp only [Exit.inBlock]
    split at h
    · rename_i e; rw [if_pos e]; exact hQ _ s' a' w' hS' h
    · rename_i e; rw [if_neg e]; exact hQ _ s' a' w' hS' h
  | loop x ih =>
    intro ac hc Qa Q s a w hS hw hQ
    simp only [compC, Option.map_eq_some_iff] at hc
    obtain ⟨x', hx, rfl⟩ := hc
    refine wp_rounds (hw (fun s => ∀ a w, Stands B J0 F0 w0 d0 s a w → Rounds P x Q a w) ?_ a w hS)
    intro s s0 hsub hx0 a w hS
    obtain ⟨J, F, hE, hH, hX, hd⟩ := hS
    obtain ⟨J', F', h1, h2, h3⟩ := hsub J F w a hE hH
    refine rounds_step (ih x' hx _ _ s0 a w ⟨J', F', h1, h2, hX.trans h3, hd⟩ hx0 ?_)
    intro e s' a' w' hS' h
    cases e <;> try exact hQ _ s' a' w' hS' h
    exact h a' w' hS'
  | exit id =>
    intro ac hc Qa Q s a w hS hw hQ
    cases hc
    exact wp_exit (hQ _ _ _ _ hS hw)
  | ret =>
    intro ac hc Qa Q s a w hS hw hQ
    cases hc
    exact wp_ret (hQ _ _ _ _ hS hw)
  | _ =>
    intro ac hc Qa Q s a w hS hw hQ
    cases hc
    exact hw.elim

theorem wpA_mono {ns : Id} : ∀ (c : ACode) (Q Q' : Exit → St → Prop) (s : St), (∀ e s, Q e s → Q' e s) → wpA C ns B c Q s → wpA C ns B c Q' s
  | .skip, Q, Q', s, h, hw => h _ _ hw
  | .region ops, Q, Q', s, h, ⟨s', h1, h2⟩ => ⟨s', h1, h _ _ h2⟩
  | .draw ops _, Q, Q', s, h, ⟨s', l, h1, h2, h3⟩ => ⟨s', l, h1, h2, h _ _ h3⟩
  | .drawA ops _ _ _, Q, Q', s, h, ⟨rr, hrr, ids, h0, h01, h02, h00, hLB, s', l, h1, h2, h3⟩ => ⟨rr, hrr, ids, h0, h01, h02, h00, hLB, s', l, h1, h2, h _ _ h3⟩
  | .seq x y, Q, Q', s, h, hw => wpA_mono x _ _ s (fun e s hs => by
      cases e <;> first | exact h _ _ hs | exact wpA_mono y Q Q' s h hs) hw
  | .cond c x y, Q, Q', s, h, ⟨t, h1, h2, h3⟩ => ⟨t, h1, fun e => wpA_mono x Q Q' s h (h2 e), fun e => wpA_mono y Q Q' s h (h3 e)⟩
  | .block id x, Q, Q', s, h, hw => wpA_mono x _ _ s (fun e s hs => by
      cases e <;> try exact h _ _ hs
      simp only [inBlockA] at hs ⊢
      split at hs
      · rename_i e; rw [if_pos e]; exact h _ _ hs
      · rename_i e; rw [if_neg e]; exact h _ _ hs) hw
  | .loop x, Q, Q', s, h, hw => fun R hR => hw R fun s s0 hsub hx => hR s s0 hsub (wpA_mono x _ _ s0 (fun e s hs => by
      cases e <;> first | exact h _ _ hs | exact hs) hx)
  | .exit id, Q, Q', s, h, hw => h _ _ hw
  | .bad, _, _, _, _, hw => hw.elim
  | .ret, Q, Q', s, h, hw => h _ _ hw

/-- One round, and the loop again; first, less may be said. -/
theorem loop_step {ns : Id} {x : ACode} {Q : Exit → St → Prop} {s s0 : St} (hs : Sub B s s0) (h : wpA C ns B x (thenA (wpA C ns B (.loop x) Q) Q) s0) : wpA C ns B (.loop x) Q s := by
  intro R hR
  refine hR s s0 hs (wpA_mono x _ _ s0 ?_ h)
  intro e s hs
  cases e <;> first | exact hs | exact hs R hR

theorem Sub.refl (s : St) : Sub B s s := fun J F w _ hE hH => ⟨J, F, hE, hH, Ext0.refl _ _ _⟩
theorem Sub.trans {s1 s2 s3 : St} (h : Sub B s1 s2) (h' : Sub B s2 s3) : Sub B s1 s3 := by
  intro J F w a hE hH
  obtain ⟨J1, F1, h1, h2, h3⟩ := h J F w a hE hH
  obtain ⟨J2, F2, h4, h5, h6⟩ := h' J1 F1 w a h1 h2
  exact ⟨J2, F2, h4, h5, h3.trans h6⟩

/-- A loop whose rounds make a number smaller. -/
theorem loop_inv {ns : Id} {x : ACode} {Q : Exit → St → Prop} (I : Nat → St → Prop) {s : St} (h0 : ∃ n s0, Sub B s s0 ∧ I n s0)
    (round : ∀ n s, I n s → wpA C ns B x (thenA (fun s' => ∃ n' s'', n' < n ∧ Sub B s' s'' ∧ I n' s'') Q) s) : wpA C ns B (.loop x) Q s := by
  have key : ∀ n s s0, Sub B s s0 → I n s0 → wpA C ns B (.loop x) Q s := by
    intro n
    induction n using Nat.strongRecOn with
    | ind n ih =>
      intro s s0 hs hI
      refine loop_step hs (wpA_mono x _ _ s0 ?_ (round n s0 hI))
      intro e s hs
      cases e <;> try exact hs
      obtain ⟨n', s'', hlt, hsub, hI'⟩ := hs
      exact ih n' hlt s s'' hsub hI'
  obtain ⟨n, s0, hs, hI⟩ := h0
  exact key n s s0 hs hI

end
end Go.AI

namespace Go.AI

inductive ARes where
  | tmp (t : Nat)
  | cell (t n : Nat) (agg : Bool)

structure AFn where
  code : ACode
  res : List ARes
  ntmps : Nat

def cRes (P : Program) : ResultVar → Option ARes
  | .tmp t => some (.tmp t)
  | .cell x t => match P.underlying t with
    | some _ => some (.cell x (P.cellsOf t) (isAggB P t))
    | none => none

def cRess (P : Program) : List ResultVar → Option (List ARes)
  | [] => some []
  | r :: l => match cRes P r, cRess P l with
    | some x, some m => some (x :: m)
    | _, _ => none

def compF (P : Program) (f : FuncId) : Option AFn :=
  match P.funcs[f]? with
  | some fn => match fn.body, cRess P fn.results.toList with
    | some c, some rs => if fn.name == "runtime.NumGoroutine" then none else (compC P c).map fun ac => ⟨ac, rs, fn.ntmps⟩
    | _, _ => none
  | none => none

def res1 (s : St) : ARes → Option AV
  | .tmp t => some (unw true (look s.env.l t))
  | .cell t n agg => loadA s.H n agg (unw true (look s.env.l t))

def ress (s : St) : List ARes → Option (List AV)
  | [] => some []
  | r :: l => match res1 s r, ress s l with
    | some x, some m => some (x :: m)
    | _, _ => none

/-- What a function answers. -/
def outA (s : St) (rs : List ARes) : Option AV :=
  match ress s rs with
  | some [x] => some x
  | some l => some (.tup l)
  | none => none

def enumE : Nat → List AV → List (Nat × AV)
  | _, [] => []
  | i, x :: l => (i, x) :: enumE (i + 1) l

def env0 (avs : List AV) (n : Nat) : Env := ⟨avs.length + (n - avs.length), enumE 0 avs⟩

def retQ (K : St → Prop) : Exit → St → Prop
  | .normal, s => K s
  | .ret, s => K s
  | _, _ => False

/-- The data of an answer, once some blocks stay as they are. -/
def outD (H : Hp) : AV → Option DV
  | .tup l => (argDs H 99 l).map fun (ds, _) => .tup ds
  | x => (argD H 99 x).map fun (d, _) => d

def outV (s : St) (rs : List ARes) : Option DV := (outA s rs).bind (outD s.H)

section
variable {P : Program} {J J0 : Id → JI} {F F0 : Nat → Prop} {w w0 : World} {H : Hp} {a : Act} {C : FuncId → Con} {B : Id → Prop}

theorem loadVar_run {t : TypeId} {v u : Value} {p : Addr} (hv : v = .pointer (some p)) (h : (Instr.loadAt t v).run P w = .ok u w) : (do loadVar t (← asAddr v) : Sem Value).run P w = .ok u w := by
  subst hv
  simpa [Instr.loadAt, Instr.sureAddr, asAddr] using h

theorem loadA_ptr {n : Nat} {agg : Bool} {x y : AV} {v : Value} (hv : VRel J F w x v) (h : loadA H n agg x = some y) : ∃ p, v = .pointer (some p) := by
  cases x <;> simp only [loadA, reduceCtorEq] at h
  case val d =>
    cases d <;> simp only [reduceCtorEq] at h
    cases hv.inv_val
    exact ⟨_, rfl⟩
  case box => cases hv <;> exact ⟨_, rfl⟩
  case elt => cases hv <;> exact ⟨_, rfl⟩

/-- What a result variable has at the end. -/
def resOne (tmps : Array Value) : ResultVar → Sem Value
  | .tmp t => pure (tmps.getD t undef)
  | .cell x t => do loadVar t (← asAddr (tmps.getD x undef))

theorem results_eq (fn : Func) (tmps : Array Value) : results fn tmps = (do
    let vs ← fn.results.mapM (resOne tmps)
    pure (if h : vs.size = 1 then vs[0] else .tuple vs)) := rfl

theorem ress_run {s : St} (hE : ERel J F w s.env a.tmps) (hH : HRel J F w s.H) : ∀ (rs : List ResultVar) (ms : List ARes) (xs : List AV), cRess P rs = some ms → ress s ms = some xs →
    ∃ vs : List Value, (rs.mapM (resOne a.tmps)).run P w = .ok vs w ∧ vs.length = xs.length ∧ ∀ (j : Nat) x v, xs[j]? = some x → vs[j]? = some v → VRel J F w x v
  | [], ms, xs, hc, hx => by
    cases hc
    simp only [ress, Option.some.injEq] at hx
    subst hx
    exact ⟨[], rfl, rfl, by simp⟩
  | r :: rs, ms, xs, hc, hx => by
    simp only [cRess] at hc
    split at hc
    · rename_i m ms' hm hms
      cases hc
      simp only [ress] at hx
      split at hx
      · rename_i x xs' h1 h2
        cases hx
        obtain ⟨vs, h3, h4, h5⟩ := ress_run hE hH rs ms' xs' hms h2
        have hone : ∃ v, (resOne a.tmps r).run P w = .ok v w ∧ VRel J F w x v := by
          cases r with
          | tmp t =>
            cases hm
            simp only [res1, Option.some.injEq] at h1
            subst h1
            exact ⟨_, rfl, unw_rel (hE.ev (x := .tmp t) (y := .t t) rfl)⟩
          | cell t ty =>
            simp only [cRes] at hm
            split at hm
            · rename_i d hd
              cases hm
              simp only [res1] at h1
              have hv := unw_rel (hE.ev (x := .tmp t) (y := .t t) rfl)
              obtain ⟨u, hu, hr⟩ := load_sound hH hd hv h1
              obtain ⟨p, hp⟩ := loadA_ptr hv h1
              exact ⟨u, loadVar_run hp hu, hr⟩
            · cases hm
        obtain ⟨v, hv, hr⟩ := hone
        refine ⟨v :: vs, ?_, by simp [h4], ?_⟩
        · rw [List.mapM_cons]
          simp only [Sem.run_bind, hv, Result.andThen_ok, h3, Sem.run_pure]
        · intro j x' v' q1 q2
          cases j with
          | zero => simp at q1 q2; subst q1; subst q2; exact hr
          | succ j => simp at q1 q2; exact h5 j x' v' q1 q2
      · cases hx
    · cases hc

theorem outA_run {s : St} (hE : ERel J F w s.env a.tmps) (hH : HRel J F w s.H) {fn : Func} {ms : List ARes} {x : AV} (hc : cRess P fn.results.toList = some ms) (hx : outA s ms = some x) : ∃ v, (results fn a.tmps).run P w = .ok v w ∧ VRel J F w x v := by
  unfold outA at hx
  have key : ∀ xs, ress s ms = some xs → ∃ vs : List Value, (results fn a.tmps).run P w = .ok (if h : vs.toArray.size = 1 then vs.toArray[0] else .tuple vs.toArray) w ∧ vs.length = xs.length ∧ ∀ (j : Nat) x v, xs[j]? = some x → vs[j]? = some v → VRel J F w x v := by
    intro xs hxs
    obtain ⟨vs, h1, h2, h3⟩ := ress_run hE hH _ _ _ hc hxs
    refine ⟨vs, ?_, h2, h3⟩
    rw [results_eq]
    simp only [Sem.run_bind]
    have : (fn.results.mapM (resOne a.tmps)).run P w = .ok vs.toArray w := by
      rw [Array.mapM_eq_mapM_toList]
      simp only [map_eq_pure_bind, Sem.run_bind, h1, Result.andThen_ok, Sem.run_pure]
    rw [this]
    simp only [Result.andThen_ok, Sem.run_pure]
  split at hx
  · rename_i x' hxs
    cases hx
    obtain ⟨vs, h1, h2, h3⟩ := key _ hxs
    match vs, h2 with
    | [v], _ =>
      refine ⟨v, by rw [h1]; rfl, h3 0 x v rfl rfl⟩
  · rename_i l hno hl
    cases hx
    obtain ⟨vs, h1, h2, h3⟩ := key _ hl
    have hne : ¬ vs.toArray.size = 1 := by
      intro h
      simp at h
      rw [h2] at h
      match l, h with
      | [x], _ => exact hno x rfl
    rw [dif_neg hne] at h1
    exact ⟨_, h1, .tup _ _ h2 h3⟩
  · cases hx

theorem look_enum : ∀ (l : List AV) (i t : Nat), look (enumE i l) t = if i ≤ t then l.getD (t - i) .junk else .junk
  | [], i, t => by simp [enumE, look]
  | x :: l, i, t => by
    simp only [enumE, look, look_enum l (i + 1) t]
    by_cases e : i = t
    · subst e; simp
    · rw [if_neg e]
      by_cases h : i ≤ t
      · rw [if_pos h, if_pos (by omega), show t - i = (t - (i + 1)) + 1 by omega]
        rfl
      · rw [if_neg h, if_neg (by omega)]

theorem env0_rel {avs : List AV} {vs : List Value} (h : vs.length = avs.length ∧ ∀ (j : Nat) y v, avs[j]? = some y → vs[j]? = some v → VRel J F w y v) (n : Nat) : ERel J F w (env0 avs n) (vs.toArray ++ Array.replicate (n - vs.toArray.size) undef) := by
  refine ⟨by simp [env0, h.1], fun j v h2 => ?_, fun t ht => ?_⟩
  · simp only [env0, look_enum, Nat.zero_le, if_true, Nat.sub_zero, List.getD_eq_getElem?_getD]
    cases hq : avs[j]? with
    | none => exact .junk _
    | some y =>
      have hj : j < avs.length := (List.getElem?_eq_some_iff.1 hq).1
      rw [Array.getElem?_append_left (by simpa [h.1] using hj)] at h2
      exact h.2 j y v hq (by simpa using h2)
  · simp only [env0] at ht
    simp only [env0, look_enum, Nat.zero_le, if_true, Nat.sub_zero, List.getD_eq_getElem?_getD]
    rw [List.getElem?_eq_none (by omega)]
    rfl

theorem compF_inv {f : FuncId} {af : AFn} (h : compF P f = some af) : ∃ fn c, P.funcs[f]? = some fn ∧ fn.body = some c ∧ compC P c = some af.code ∧ cRess P fn.results.toList = some af.res ∧ fn.ntmps = af.ntmps ∧ Enters P f := by
  unfold compF at h
  split at h
  · rename_i fn hfn
    split at h
    · rename_i c rs hb hr
      split at h
      · cases h
      · rename_i hname
        simp only [Option.map_eq_some_iff] at h
        obtain ⟨ac, hac, rfl⟩ := h
        exact ⟨fn, c, hfn, hb, hac, hr, rfl, fn, hfn, by simpa using hname, by rw [hb]; rfl⟩
    · cases h
  · cases h

/-- **What is shown of a body holds of a call.** -/
theorem calls_of (hC : ConOk P C) {f : FuncId} {af : AFn} (hf : compF P f = some af) {ns : Id} {avs : List AV} {vs : List Value} (hH : HRel J F w H) (hv : vs.length = avs.length ∧ ∀ (j : Nat) y v, avs[j]? = some y → vs[j]? = some v → VRel J F w y v)
    {K : St → Prop} (h : wpA C ns B af.code (retQ K) ⟨env0 avs af.ntmps, H⟩) {R : Ending → World → Prop}
    (hR : ∀ (s : St) (a' : Act) (w' : World) (J' : Id → JI) (F' : Nat → Prop), ERel J' F' w' s.env a'.tmps → HRel J' F' w' s.H → Ext0 B J F w J' F' w' → K s → ∃ x, outA s af.res = some x ∧ ∀ v, VRel J' F' w' x v → R (.returned v) w') : Calls P f vs.toArray w R := by
  obtain ⟨fn, c, h1, h2, h3, h4, h5, _⟩ := compF_inv hf
  refine calls_of_wp h1 h2 ?_
  rw [h5]
  refine wpA_sound (B := B) (J0 := J) (F0 := F) (w0 := w) (d0 := []) hC c af.code h3 _ _ _ _ _ ⟨J, F, env0_rel hv af.ntmps, hH, Ext0.refl _ _ _, rfl⟩ h ?_
  rintro e s a' w' ⟨J', F', hE', hH', hX', hd'⟩ hq
  have done : K s → Act.defers a' = [] ∧ ∃ v, (results fn (Act.tmps a')).run P w' = .ok v w' ∧ R (.returned v) w' := by
    intro hk
    obtain ⟨x, hx, hr⟩ := hR s a' w' J' F' hE' hH' hX' hk
    obtain ⟨v, hv1, hv2⟩ := outA_run hE' hH' h4 hx
    exact ⟨hd', v, hv1, hr v hv2⟩
  cases e <;> first | exact done hq | exact hq.elim

theorem nothing (F : Nat → Prop) (w : World) (hF : ∀ g, F g → g < w.heap.size) : HRel (fun _ => .none) F w (fun _ => none) :=
  { blk := fun _ _ h => by cases h
    none := fun _ _ => rfl
    inj := fun _ _ _ _ _ _ _ _ _ h => by cases h
    own := fun g ⟨_, _, _, h⟩ => by cases h
    live := fun _ _ _ _ _ h => by cases h
    fsz := hF }


/-- **A function that answers data of data.** -/
theorem val_of (hC : ConOk P C) {f : FuncId} {af : AFn} (hf : compF P f = some af) {spec : List DV → Option DV}
    (h : ∀ ds r, spec ds = some r → wpA C [] (fun _ => False) af.code (retQ fun s => outV s af.res = some r) ⟨env0 (ds.map .val) af.ntmps, mkH []⟩) : ValOk P f spec := by
  obtain ⟨fn, c, _, _, _, _, _, hent⟩ := compF_inv hf
  refine ⟨hent, fun ds r hr F w vs hrep hF => ?_⟩
  refine calls_of hC hf (J := fun _ => .none) (nothing F w hF) (avs := ds.map .val) ⟨by simp [hrep.1], fun j y v h1 h2 => ?_⟩ (h ds r hr) ?_
  · simp only [List.getElem?_map, Option.map_eq_some_iff] at h1
    obtain ⟨d, h1, rfl⟩ := h1
    exact .val _ _ (hrep.2 j d v h1 h2)
  · intro s a' w' J' F' hE' hH' hX' hk
    unfold outV at hk
    simp only [Option.bind_eq_some_iff] at hk
    obtain ⟨x, hx, hd⟩ := hk
    refine ⟨x, hx, fun v hv => ?_⟩
    have hnew : ∀ g, F' g ∨ Own J' g → F g ∨ w.heap.size ≤ g := by
      rintro g (h1 | h1)
      · rcases hX'.fnew g h1 with h2 | ⟨_, _, _, h2⟩ | h2
        · exact .inl h2
        · cases h2
        · exact .inr h2
      · rcases hX'.onew g h1 with ⟨_, _, _, h2⟩ | h2
        · cases h2
        · exact .inr h2
    have hsz : ∀ g, F' g ∨ Own J' g → g < w'.heap.size := by
      rintro g (h1 | ⟨_, _, _, h1⟩)
      · exact hH'.fsz g h1
      · exact hH'.live _ _ _ _ _ h1
    have hrel : Rep (fun g => F' g ∨ Own J' g) w' r v := by
      have widen : ∀ ids g, With J' F' ids g → F' g ∨ Own J' g := fun ids g h => h.imp (fun h => h) (fun ⟨i, _, s, c, h⟩ => ⟨i, s, c, h⟩)
      unfold outD at hd
      split at hd
      · rename_i l
        simp only [Option.map_eq_some_iff] at hd
        obtain ⟨⟨ds', ids⟩, hds, rfl⟩ := hd
        obtain ⟨hl, hr⟩ := (argD_rel hH' 99).2 _ _ _ hds
        cases hv with
        | tup _ us hul hur =>
          refine .tup _ _ (by rw [hul, hl]) (fun j d u q1 q2 => ?_)
          have hj : j < l.length := by rw [← hl]; exact (List.getElem?_eq_some_iff.1 q1).1
          exact (hr j _ d u (List.getElem?_eq_getElem hj) q1 (hur j _ u (List.getElem?_eq_getElem hj) q2)).mono (widen ids) (fun _ _ => rfl)
      · simp only [Option.map_eq_some_iff] at hd
        obtain ⟨⟨d, ids⟩, hds, rfl⟩ := hd
        exact ((argD_rel hH' 99).1 _ _ _ v hds hv).mono (widen ids) (fun _ _ => rfl)
    exact ⟨v, _, rfl, hrel, hnew, hsz, ⟨fun g hg => hX'.heap g hg (by rintro ⟨_, _, _, h⟩; cases h), hX'.size, hX'.os, hX'.tape, hX'.output⟩⟩

end
end Go.AI

namespace Go.AI

def runQ (C : FuncId → Con) (ns : Id) : List AIns → (St → Prop) → St → Prop
  | [], K, s => K s
  | i :: l, K, s => match eff C ns s i with
    | some (x, H) => runQ C ns l K ⟨putE s.env i.dst x, H⟩
    | none => False

theorem runQ_iff (C : FuncId → Con) (ns : Id) : ∀ (l : List AIns) (K : St → Prop) (s : St), runQ C ns l K s ↔ ∃ s', run C ns l s = some s' ∧ K s'
  | [], K, s => by simp [runQ, run]
  | i :: l, K, s => by
    unfold runQ run step
    cases h : eff C ns s i with
    | none => simp
    | some q =>
      obtain ⟨x, H⟩ := q
      simp only
      exact runQ_iff C ns l K _

section
variable {C : FuncId → Con} {ns : Id} {B : Id → Prop} {Q : Exit → St → Prop} {s : St} {x y : ACode}

theorem wpA_region {ops : List AIns} : wpA C ns B (.region ops) Q s ↔ runQ C ns ops (Q .normal) s := (runQ_iff C ns ops _ s).symm
/-- A region that draws its order: run in its own order; what is still known then. -/
theorem wpA_draw {ops : List AIns} {ct : Option Nat} : wpA C ns B (.draw ops ct) Q s ↔ runQ (flatC C) ns ops (fun s' => ∃ l, Has s'.env.l l ∧ Q .normal ⟨⟨s'.env.n, l⟩, s'.H⟩) s := by
  rw [runQ_iff]
  exact ⟨fun ⟨s', l, h1, h2, h3⟩ => ⟨s', h1, l, h2, h3⟩, fun ⟨s', h1, l, h2, h3⟩ => ⟨s', l, h1, h2, h3⟩⟩
theorem wpA_seq : wpA C ns B (.seq x y) Q s ↔ wpA C ns B x (thenA (wpA C ns B y Q) Q) s := Iff.rfl
theorem wpA_block {n : Nat} : wpA C ns B (.block n x) Q s ↔ wpA C ns B x (inBlockA n Q) s := Iff.rfl
theorem wpA_exit {n : Nat} : wpA C ns B (.exit n) Q s ↔ Q (.exit n) s := Iff.rfl
theorem wpA_ret : wpA C ns B .ret Q s ↔ Q .ret s := Iff.rfl
theorem wpA_skip : wpA C ns B .skip Q s ↔ Q .normal s := Iff.rfl

/-- What comes first, for whatever comes behind it. -/
theorem seq_k (h : ∀ K : St → Prop, (∀ s, wpA C ns B y Q s → K s) → wpA C ns B x (thenA K Q) s) : wpA C ns B (.seq x y) Q s := h _ fun _ h => h

theorem runQ_append (l m : List AIns) (K : St → Prop) (s : St) : runQ C ns (l ++ m) K s ↔ runQ C ns l (runQ C ns m K) s := by
  induction l generalizing s with
  | nil => exact Iff.rfl
  | cons i l ih =>
    simp only [List.cons_append, runQ]
    split
    · exact ih _
    · exact Iff.rfl

/-- The first operations of a region, for whatever comes behind them. -/
theorem region_k {l m : List AIns} (h : ∀ K : St → Prop, (∀ s, wpA C ns B (.region m) Q s → K s) → runQ C ns l K s) : wpA C ns B (.region (l ++ m)) Q s := by
  rw [wpA_region, runQ_append]
  exact h _ fun s h => wpA_region.1 h

/-- A branch. -/
def branch (v : AV) (p q : Prop) : Prop := match v with
  | .val (.bool t) => (t = true → p) ∧ (t = false → q)
  | _ => False

theorem wpA_cond {c : Opd} : wpA C ns B (.cond c x y) Q s ↔ branch (unw true (evE s.env c)) (wpA C ns B x Q s) (wpA C ns B y Q s) := by
  constructor
  · rintro ⟨t, h1, h2, h3⟩
    rw [h1]
    exact ⟨h2, h3⟩
  · intro h
    generalize hv : unw true (evE s.env c) = v at h
    cases v <;> simp only [branch] at h
    rename_i d
    cases d <;> simp only at h
    rename_i t
    exact ⟨t, hv, h.1, h.2⟩

end

theorem Sub.forget {B : Id → Prop} {n : Nat} {l m : List (Nat × AV)} {H : Hp} (h : Has l m) : Sub B ⟨⟨n, l⟩, H⟩ ⟨⟨n, m⟩, H⟩ := Sub.env (s := ⟨⟨n, l⟩, H⟩) h.get

attribute [simp] runQ wpA_region wpA_draw flatC wpA_seq wpA_block wpA_exit wpA_ret wpA_skip wpA_cond branch thenA inBlockA retQ eff gv effG calm semE semP semR evE look enumE Has unw putE env0 idOf binD unD AV.num pickV AV.moved AV.part AV.cells ofCells ofDCells loadA upd_mkH setH mkH_nil mkH_cons optNum bounds DV.single AV.single semA semW semC callD argD argDs DV.norm DV.norm1 DV.flat DV.scalar fix outA ress res1 outV outD

end Go.AI

namespace Go.AI

/-- The shape of a value's cells. -/
inductive Sh where
  | bool
  | int (k : IntKind)
  | str
  | ptr (s : Sh)
  | slice (n : Nat) (s : Sh)
  | nil
  | cons (a b : Sh)

def Sh.size : Sh → Nat
  | .nil => 0
  | .cons a b => a.size + b.size
  | _ => 1

def HasSh : Sh → List DV → Prop
  | .bool, ds => ∃ b, ds = [.bool b]
  | .int k, ds => ∃ n, ds = [.int k n] ∧ (Lit.int k n).wf = true
  | .str, ds => ∃ s, ds = [.str s] ∧ s.size ≤ maxLen
  | .ptr s, ds => ds = [.nilp] ∨ ∃ cs, ds = [.pt cs] ∧ cs.length = s.size ∧ HasSh s cs
  | .slice n s, ds => ∃ l, ds = [DV.norm1 (.sl n l)] ∧ l.length ≤ maxLen ∧ ∀ e ∈ l, e.length = n ∧ HasSh s e
  | .nil, ds => ds = []
  | .cons a b, ds => ∃ x y, ds = x ++ y ∧ x.length = a.size ∧ HasSh a x ∧ HasSh b y

def repSh (a : Sh) : Nat → Sh
  | 0 => .nil
  | n + 1 => .cons a (repSh a n)

def fieldSh (P : Program) (g : TypeId → Option Sh) : Nat → List Field → Option Sh
  | _, [] => some .nil
  | o, f :: fs => match g f.type, fieldSh P g (o + P.cellsOf f.type) fs with
    | some s, some r => if f.offset = o ∧ s.size = P.cellsOf f.type then some (.cons s r) else none
    | _, _ => none

def shape (P : Program) : Nat → TypeId → Option Sh
  | 0, _ => none
  | k + 1, t => match P.underlying t with
    | some .bool => some .bool
    | some (.int q) => some (.int q)
    | some .string => some .str
    | some (.pointer e) => match shape P k e with
      | some s => if s.size = P.cellsOf e ∧ 0 < P.cellsOf e then some (.ptr s) else none
      | none => none
    | some (.slice e) => match shape P k e with
      | some s => if s.size = P.cellsOf e ∧ 0 < P.cellsOf e then some (.slice (P.cellsOf e) s) else none
      | none => none
    | some (.struct fs) => match fieldSh P (shape P k) 0 fs.toList with
      | some s => if s.size = P.cellsOf t then some s else none
      | none => none
    | some (.array n e) => match shape P k e with
      | some s => if s.size = P.cellsOf e ∧ n * P.cellsOf e = P.cellsOf t then some (repSh s n) else none
      | none => none
    | _ => none

theorem HasSh.single : ∀ {s : Sh} {ds : List DV}, HasSh s ds → ∀ d ∈ ds, DV.single d = true
  | .bool, ds, ⟨b, h⟩ => by subst h; simp [DV.single]
  | .int k, ds, ⟨n, h, _⟩ => by subst h; simp [DV.single]
  | .str, ds, ⟨n, h, _⟩ => by subst h; simp [DV.single]
  | .ptr s, ds, h => by rcases h with h | ⟨cs, h, _⟩ <;> subst h <;> simp [DV.single]
  | .slice n s, ds, ⟨l, h, _⟩ => by
    subst h
    intro d hd
    rw [List.mem_singleton.1 hd]
    cases l <;> rfl
  | .nil, ds, h => by cases h; simp
  | .cons a b, ds, ⟨x, y, h, _, hx, hy⟩ => by
    subst h
    intro d hd
    rcases List.mem_append.1 hd with hd | hd
    · exact hx.single d hd
    · exact hy.single d hd

section
variable {H : Type} {enc : TypeId × Value → H} {P : Program} {W : World} {spare : Nat → Bool} {held : Bool}

/-- The blocks of a world. -/
def Old (w : World) : Nat → Prop := fun g => g < w.heap.size

theorem cells_get {a : Addr} {n : Nat} {cs : List Value} (h : W.cells? 0 a n = some cs) : cs.length = n ∧ ∀ (j : Nat) v, cs[j]? = some v → W.cell? (a.add j) = some v := by
  unfold World.cells? at h
  rw [if_pos (Nat.zero_le _)] at h
  have hl := mapM_some_length h
  rw [List.length_range] at hl
  refine ⟨hl, fun j v hv => ?_⟩
  have hj : j < n := by rw [← hl]; exact (List.getElem?_eq_some_iff.1 hv).1
  rw [mapM_some_get h j j (by simp [hj]), hv]

theorem trod_array {n : Nat} {e t : TypeId} {fuel : Nat} {cs : List Value} {x : DataW H × List MemPlace} (ht : P.underlying t = some (.array n e)) (h : DataW.trod enc P W 0 spare held fuel t cs = some x) :
    ∃ m, fuel = m + 1 ∧ cs.length = P.cellsOf t ∧ ∀ i, i < n → ∃ y, DataW.trod enc P W 0 spare held m e ((cs.drop (i * P.cellsOf e)).take (P.cellsOf e)) = some y := by
  cases fuel with
  | zero => simp [DataW.trod] at h
  | succ m =>
    unfold DataW.trod at h
    rw [ht] at h
    split at h <;> simp_all
    obtain ⟨hl, xs, hp, hd⟩ := h
    intro i hi
    have h1 := mapM_some_get hp i i (by simp [hi])
    have h2 := mapM_some_length hp
    rw [h1]
    exact ⟨_, _, List.getElem?_eq_getElem (by rw [h2]; simpa using hi)⟩

theorem cell_block {w : World} {a : Addr} {v : Value} (h : w.cell? a = some v) : a.spot = none ∧ a.block < w.heap.size := by
  unfold World.cell? at h
  split at h
  · rename_i hb
    split at h
    · cases h
    · rename_i hs
      refine ⟨by cases hq : a.spot <;> simp_all, ?_⟩
      rcases Nat.lt_or_ge a.block w.heap.size with h1 | h1
      · exact h1
      · rw [Array.getElem?_eq_none h1] at hb; cases hb
  · cases h

theorem RepL.append {F : Nat → Prop} {w : World} {a b : List DV} {u v : List Value} (h : RepL F w a u) (h' : RepL F w b v) : RepL F w (a ++ b) (u ++ v) := by
  refine ⟨by simp [h.1, h'.1], fun j d x h1 h2 => ?_⟩
  by_cases hj : j < a.length
  · rw [List.getElem?_append_left hj] at h1
    rw [List.getElem?_append_left (by rw [h.1]; exact hj)] at h2
    exact h.2 j d x h1 h2
  · rw [List.getElem?_append_right (by omega)] at h1
    rw [List.getElem?_append_right (by rw [h.1]; omega), h.1] at h2
    exact h'.2 _ d x h1 h2

theorem RepL.one {F : Nat → Prop} {w : World} {d : DV} {v : Value} (h : Rep F w d v) : RepL F w [d] [v] := ⟨rfl, fun j x y h1 h2 => by
  have : j = 0 := by have := (List.getElem?_eq_some_iff.1 h1).1; simpa using this
  subst this
  simp at h1 h2
  subst h1; subst h2; exact h⟩

/-- **What a law is handed.** -/
theorem open_cells : ∀ (k fuel : Nat) (t : TypeId) (cs : List Value) (x : DataW H × List MemPlace) (s : Sh), DataW.trod enc P W 0 spare held fuel t cs = some x → shape P k t = some s → ∃ ds, RepL (Old W) W ds cs ∧ ds.length = s.size ∧ HasSh s ds
  | 0, _, _, _, _, _, _, hs => by cases hs
  | k + 1, fuel, t, cs, x, s, h, hs => by
    have ih := open_cells k
    unfold shape at hs
    split at hs
    · rename_i ht
      cases hs
      obtain ⟨b, rfl, _⟩ := DataW.trod_bool ht h
      exact ⟨[.bool b], .one (.bool b), rfl, b, rfl⟩
    · rename_i q ht
      cases hs
      obtain ⟨n, rfl, _, hw⟩ := DataW.trod_int ht h
      exact ⟨[.int q n], .one (.int q n), rfl, n, rfl, hw⟩
    · rename_i ht
      cases hs
      obtain ⟨b, rfl, _, hw⟩ := DataW.trod_string ht h
      exact ⟨[.str b], .one (.str b), rfl, b, rfl, hw⟩
    · rename_i e ht
      split at hs
      · rename_i s' hs'
        split at hs
        · rename_i hsz
          cases hs
          rcases DataW.trod_pointer ht h with ⟨rfl, _⟩ | ⟨a, cs', y, n, _, rfl, _, hc, htr⟩
          · exact ⟨[.nilp], .one .nilp, rfl, .inl rfl⟩
          · obtain ⟨ds, h1, h2, h3⟩ := ih n e cs' y s' htr hs'
            obtain ⟨hl, hget⟩ := cells_get hc
            have h0 : W.cell? a = some cs'[0] := by
              have := hget 0 cs'[0] (List.getElem?_eq_getElem (by omega))
              simpa [Addr.add] using this
            obtain ⟨hspot, hblk⟩ := cell_block h0
            obtain ⟨b, o, sp⟩ := a
            cases hspot
            refine ⟨[.pt ds], .one (.pt ds b o (fun j => cs'.getD j undef) hblk ?_ ?_), rfl, .inr ⟨ds, rfl, h2, h3⟩⟩
            · intro j d hd
              have hj : j < cs'.length := by rw [h1.1]; exact (List.getElem?_eq_some_iff.1 hd).1
              have := hget j cs'[j] (List.getElem?_eq_getElem hj)
              rw [Addr.add_mid] at this
              rw [this]
              simp [hj]
            · intro j d hd
              have hj : j < cs'.length := by rw [h1.1]; exact (List.getElem?_eq_some_iff.1 hd).1
              exact h1.2 j d _ hd (by simp [hj])
        · cases hs
      · cases hs
    · rename_i e ht
      split at hs
      · rename_i s' hs'
        split at hs
        · rename_i hsz
          cases hs
          rcases DataW.trod_slice ht h with ⟨rfl, _⟩ | ⟨a, len, cap, elems, rest, n, _, rfl, _, _, hlc, hcm, hel, helem, _, _⟩
          · exact ⟨[.sl 0 []], .one (.sl0 _ _ _), rfl, [], rfl, Nat.zero_le _, by simp⟩
          · have each : ∀ i, ∃ p : List DV × List Value, i < len → RepL (Old W) W p.1 p.2 ∧ p.1.length = P.cellsOf e ∧ HasSh s' p.1 ∧ ∀ (j : Nat) v, p.2[j]? = some v → W.cell? ((a.add (i * P.cellsOf e)).add j) = some v := by
              intro i
              by_cases hi : i < len
              · have h1 := helem i hi
                rw [List.getElem?_eq_getElem (by omega)] at h1
                simp only [Option.bind_eq_some_iff] at h1
                obtain ⟨cs', hc, htr⟩ := h1
                obtain ⟨ds, h1, h2, h3⟩ := ih n e cs' _ s' htr hs'
                exact ⟨(ds, cs'), fun _ => ⟨h1, h2.trans hsz.1, h3, (cells_get hc).2⟩⟩
              · exact ⟨([], []), fun h => absurd h hi⟩
            obtain ⟨f, hf⟩ := Classical.axiomOfChoice each
            by_cases h0 : len = 0
            · subst h0
              exact ⟨[.sl 0 []], .one (.sl0 _ _ _), rfl, [], rfl, Nat.zero_le _, by simp⟩
            · have hfirst := hf 0 (by omega)
              have hpos : 0 < (f 0).2.length := by rw [hfirst.1.1, hfirst.2.1]; exact hsz.2
              have hcell := hfirst.2.2.2 0 (f 0).2[0] (List.getElem?_eq_getElem hpos)
              simp only [Nat.zero_mul, Addr.add, if_pos rfl] at hcell
              obtain ⟨hspot, hblk⟩ := cell_block hcell
              obtain ⟨b, o, sp⟩ := a
              cases hspot
              have hget : ∀ i x, ((List.range len).map fun i => (f i).1)[i]? = some x → i < len ∧ x = (f i).1 := by
                intro i x hx
                rw [List.getElem?_map, Option.map_eq_some_iff] at hx
                obtain ⟨y, hy, rfl⟩ := hx
                have hi : i < len := by have := (List.getElem?_eq_some_iff.1 hy).1; simpa using this
                rw [List.getElem?_range hi] at hy
                cases hy
                exact ⟨hi, rfl⟩
              have hlen : ((List.range len).map fun i => (f i).1).length = len := by simp
              have hmem : ∀ x ∈ (List.range len).map fun i => (f i).1, x.length = P.cellsOf e ∧ HasSh s' x := by
                intro x hx
                obtain ⟨i, hxi⟩ := List.getElem?_of_mem hx
                obtain ⟨hil, rfl⟩ := hget i x hxi
                exact ⟨(hf i hil).2.1, (hf i hil).2.2.1⟩
              refine ⟨[DV.norm1 (.sl (P.cellsOf e) ((List.range len).map fun i => (f i).1))], .one (Rep.norm1 ?_), rfl, _, rfl, by rw [hlen]; omega, hmem⟩
              have hr := Rep.sl (F := Old W) (w := W) (P.cellsOf e) ((List.range len).map fun i => (f i).1) b o cap (fun i j => (f i).2.getD j undef) (fun x hx => (hmem x hx).1) (by rw [hlen]; omega)
                (fun x hx d hd => (hmem x hx).2.single d hd) hblk ?_ ?_
              · rwa [hlen] at hr
              · intro i j x d hx hd
                obtain ⟨hi, rfl⟩ := hget i x hx
                have hj : j < (f i).2.length := by rw [(hf i hi).1.1]; exact (List.getElem?_eq_some_iff.1 hd).1
                have := (hf i hi).2.2.2 j (f i).2[j] (List.getElem?_eq_getElem hj)
                rw [Addr.add_mid, Addr.add_mid] at this
                simp only [List.getD_eq_getElem?_getD, List.getElem?_eq_getElem hj, Option.getD_some]
                rw [← this, Nat.add_assoc]
              · intro i j x d hx hd
                obtain ⟨hi, rfl⟩ := hget i x hx
                have hj : j < (f i).2.length := by rw [(hf i hi).1.1]; exact (List.getElem?_eq_some_iff.1 hd).1
                refine (hf i hi).1.2 j d _ hd ?_
                simp [hj]
        · cases hs
      · cases hs
    · rename_i fs ht
      split at hs
      · rename_i s' hs'
        split at hs
        · rename_i hsz
          cases hs
          obtain ⟨xs, n, _, _, hcl, hxl, hfs⟩ := DataW.trod_struct ht h
          have key : ∀ (fl : List Field) (i o : Nat) (s : Sh), fieldSh P (shape P k) o fl = some s → (∀ j f, fl[j]? = some f → fs[i + j]? = some f) → o + s.size = cs.length → ∃ ds, RepL (Old W) W ds (cs.drop o) ∧ ds.length = s.size ∧ HasSh s ds := by
            intro fl
            induction fl with
            | nil =>
              intro i o s h1 _ ho
              cases h1
              refine ⟨[], ⟨by simp [Sh.size] at ho ⊢; omega, by simp⟩, rfl, rfl⟩
            | cons f fl ihf =>
              intro i o s h1 h2 ho
              simp only [fieldSh] at h1
              split at h1
              · rename_i s1 r hs1 hr
                split at h1
                · rename_i hc
                  cases h1
                  have hf := hfs i f (by simpa using h2 0 f rfl)
                  have hi : i < xs.length := by
                    have := (Array.getElem?_eq_some_iff.1 (h2 0 f rfl)).1
                    rw [hxl]; simpa using this
                  rw [List.getElem?_eq_getElem hi, hc.1] at hf
                  obtain ⟨d1, q1, q2, q3⟩ := ih n f.type _ _ s1 hf hs1
                  obtain ⟨d2, q4, q5, q6⟩ := ihf (i + 1) (o + P.cellsOf f.type) r hr (fun j g hg => by
                    have := h2 (j + 1) g (by simpa using hg)
                    rwa [show i + (j + 1) = i + 1 + j by omega] at this) (by simp only [Sh.size] at ho; omega)
                  refine ⟨d1 ++ d2, ?_, by simp [Sh.size, q2, q5], d1, d2, rfl, q2, q3, q6⟩
                  have e : cs.drop o = (cs.drop o).take (P.cellsOf f.type) ++ cs.drop (o + P.cellsOf f.type) := by
                    rw [← List.drop_drop, List.take_append_drop]
                  rw [e]
                  exact q1.append q4
                · cases h1
              · cases h1
          obtain ⟨ds, h1, h2, h3⟩ := key fs.toList 0 0 _ hs' (fun j f hf => by simpa using hf) (by rw [hcl]; omega)
          exact ⟨ds, by simpa using h1, h2, h3⟩
        · cases hs
      · cases hs
    · rename_i n e ht
      split at hs
      · rename_i s' hs'
        split at hs
        · rename_i hsz
          cases hs
          obtain ⟨m, _, hcl, hel⟩ := trod_array ht h
          have key : ∀ (r i : Nat), i + r = n → ∃ ds, RepL (Old W) W ds (cs.drop (i * P.cellsOf e)) ∧ ds.length = (repSh s' r).size ∧ HasSh (repSh s' r) ds := by
            intro r
            induction r with
            | zero =>
              intro i hi
              refine ⟨[], ⟨?_, by simp⟩, rfl, rfl⟩
              have : i = n := by omega
              subst this
              simp [hcl, hsz.2]
            | succ r ihr =>
              intro i hi
              obtain ⟨y, hy⟩ := hel i (by omega)
              obtain ⟨d1, q1, q2, q3⟩ := ih m e _ _ s' hy hs'
              obtain ⟨d2, q4, q5, q6⟩ := ihr (i + 1) (by omega)
              refine ⟨d1 ++ d2, ?_, by simp [repSh, Sh.size, q2, q5], d1, d2, rfl, q2, q3, q6⟩
              have e1 : cs.drop (i * P.cellsOf e) = (cs.drop (i * P.cellsOf e)).take (P.cellsOf e) ++ cs.drop ((i + 1) * P.cellsOf e) := by
                rw [Nat.succ_mul, ← List.drop_drop, List.take_append_drop]
              rw [e1]
              exact q1.append q4
          obtain ⟨ds, h1, h2, h3⟩ := key n 0 (by omega)
          exact ⟨ds, by simpa using h1, h2, h3⟩
        · cases hs
      · cases hs
    · cases hs

end
end Go.AI

namespace Go.AI
open Go.RowKit

def HasArg : Sh → DV → Prop
  | .nil, d => ∃ cs, d = .agg cs ∧ HasSh .nil cs
  | .cons a b, d => ∃ cs, d = .agg cs ∧ HasSh (.cons a b) cs
  | s, d => HasSh s [d]

def HasArgs : List Sh → List DV → Prop
  | [], [] => True
  | s :: l, d :: m => HasArg s d ∧ HasArgs l m
  | _, _ => False

def shapes (P : Program) (k : Nat) : List TypeId → Option (List Sh)
  | [] => some []
  | t :: l => match shape P k t, shapes P k l with
    | some s, some m => some (s :: m)
    | _, _ => none

section
variable {H : Type} {enc : TypeId × Value → H} {P : Program} {W W' : World}

theorem open_agg {k : Nat} {t : TypeId} {s : Sh} {v : Value} {d : DataW H} {ps : List MemPlace} {spare : Nat → Bool} {held : Bool} {cs : Array Value} (hv : v = .agg cs) (hs : shape P k t = some s) (h : DataW.Trod enc P W 0 spare held t v d ps) :
    ∃ ds, Rep (Old W) W (.agg ds) v ∧ HasSh s ds := by
  obtain ⟨fuel, h⟩ := h
  subst hv
  obtain ⟨ds, h1, _, h3⟩ := open_cells k fuel t _ _ s h hs
  refine ⟨ds, ?_, h3⟩
  have := Rep.agg (F := Old W) (w := W) ds cs.toList (by simpa [Value.cells] using h1.1) (by simpa [Value.cells] using h1.2)
  simpa using this

theorem open_cell {k : Nat} {t : TypeId} {s : Sh} {v : Value} {d : DataW H} {ps : List MemPlace} {spare : Nat → Bool} {held : Bool} (hv : v.cells.toList = [v]) (hs : shape P k t = some s) (h1s : s.size = 1) (h : DataW.Trod enc P W 0 spare held t v d ps) :
    ∃ d, Rep (Old W) W d v ∧ HasSh s [d] := by
  obtain ⟨fuel, h⟩ := h
  obtain ⟨ds, h1, h2, h3⟩ := open_cells k fuel t _ _ s h hs
  rw [hv] at h1
  rw [h1s] at h2
  match ds, h2 with
  | [x], _ => exact ⟨x, h1.2 0 x v rfl rfl, h3⟩

theorem open_arg {k : Nat} {t : TypeId} {s : Sh} {v : Value} {d : DataW H} {ps : List MemPlace} {spare : Nat → Bool} {held : Bool} {r : Reach} {base : Nat} (hs : shape P k t = some s) (hval : Value.okWide P W r base t v) (h : DataW.Trod enc P W 0 spare held t v d ps) :
    ∃ x, Rep (Old W) W x v ∧ HasArg s x := by
  cases k with
  | zero => cases hs
  | succ k =>
    have hs0 := hs
    unfold shape at hs
    have one : ∀ {s : Sh}, s.size = 1 → v.cells.toList = [v] → shape P (k + 1) t = some s → (∀ x, HasSh s [x] → HasArg s x) → ∃ x, Rep (Old W) W x v ∧ HasArg s x := by
      intro s h1 hv hs hh
      obtain ⟨x, hx, hx'⟩ := open_cell hv hs h1 h
      exact ⟨x, hx, hh x hx'⟩
    have agg : ∀ {s : Sh}, (∃ cs, v = .agg cs) → shape P (k + 1) t = some s → (∀ ds, HasSh s ds → HasArg s (.agg ds)) → ∃ x, Rep (Old W) W x v ∧ HasArg s x := by
      rintro s ⟨cs, hv⟩ hs hh
      obtain ⟨ds, hx, hx'⟩ := open_agg hv hs h
      exact ⟨_, hx, hh ds hx'⟩
    split at hs
    · rename_i ht
      cases hs
      obtain ⟨b, rfl⟩ := WideShapes.okWide_bool ht hval
      exact one rfl rfl hs0 (fun _ h => h)
    · rename_i q ht
      cases hs
      obtain ⟨b, rfl⟩ := WideShapes.okWide_int ht hval
      exact one rfl rfl hs0 (fun _ h => h)
    · rename_i ht
      cases hs
      obtain ⟨b, rfl⟩ := WideShapes.okWide_string ht hval
      exact one rfl rfl hs0 (fun _ h => h)
    · rename_i e ht
      split at hs
      · split at hs
        · cases hs
          obtain ⟨b, rfl⟩ := WideShapes.okWide_pointer ht hval
          exact one rfl rfl hs0 (fun _ h => h)
        · cases hs
      · cases hs
    · rename_i e ht
      split at hs
      · split at hs
        · cases hs
          obtain ⟨a, l, c, rfl⟩ := WideShapes.okWide_slice ht hval
          exact one rfl rfl hs0 (fun _ h => h)
        · cases hs
      · cases hs
    · rename_i fs ht
      have hv : ∃ cs, v = .agg cs := by
        unfold Value.okWide at hval
        rw [ht] at hval
        obtain ⟨cs, h, _⟩ := hval
        exact ⟨cs, h⟩
      split at hs
      · rename_i s' hs'
        split at hs
        · cases hs
          refine agg hv hs0 (fun ds hd => ?_)
          generalize fs.toList = fl at hs'
          cases fl with
          | nil => cases hs'; exact ⟨ds, rfl, hd⟩
          | cons f fl =>
            simp only [fieldSh] at hs'
            split at hs'
            · split at hs'
              · cases hs'; exact ⟨ds, rfl, hd⟩
              · cases hs'
            · cases hs'
        · cases hs
      · cases hs
    · rename_i n e ht
      have hv : ∃ cs, v = .agg cs := by
        unfold Value.okWide at hval
        rw [ht] at hval
        obtain ⟨cs, h, _⟩ := hval
        exact ⟨cs, h⟩
      split at hs
      · rename_i s' hs'
        split at hs
        · cases hs
          refine agg hv hs0 (fun ds hd => ?_)
          cases n with
          | zero => exact ⟨ds, rfl, hd⟩
          | succ n => exact ⟨ds, rfl, hd⟩
        · cases hs
      · cases hs
    · cases hs

theorem open_args {k : Nat} {spare : Nat → Bool} {held : Bool} {r : Reach} {base : Nat} : ∀ {ts : List TypeId} {vs : List Value} {ds : List (DataW H)} {p : List MemPlace} {shs : List Sh}, DataW.TrodAll enc P W 0 spare held ts vs ds p → shapes P k ts = some shs →
    (∀ (j : Nat) t v, ts[j]? = some t → vs[j]? = some v → Value.okWide P W r base t v) → ∃ dvs, RepL (Old W) W dvs vs ∧ HasArgs shs dvs
  | [], vs, ds, p, shs, h, hs, _ => by
    obtain ⟨rfl, rfl, rfl⟩ := ChangeShapes.trodAll_nil h
    cases hs
    exact ⟨[], ⟨rfl, by simp⟩, trivial⟩
  | t :: ts, vs, ds, p, shs, h, hs, hval => by
    obtain ⟨v, vs', d, ds', p', q', rfl, rfl, rfl, h0, hr⟩ := ChangeShapes.trodAll_cons h
    simp only [shapes] at hs
    split at hs
    · rename_i s m h1 h2
      cases hs
      obtain ⟨x, hx, hx'⟩ := open_arg h1 (hval 0 t v rfl rfl) h0
      obtain ⟨xs, hxs, hxs'⟩ := open_args hr h2 (fun j t v q1 q2 => hval (j + 1) t v (by simpa using q1) (by simpa using q2))
      refine ⟨x :: xs, ?_, hx', hxs'⟩
      have := (RepL.one hx).append hxs
      simpa using this
    · cases hs

theorem keep_args (hl : laidOutB P = true) : ∀ {ts : List TypeId} {vs : List Value} {ds : List (DataW H)} {p : List MemPlace}, (ts.all fun t => P.readableRec t && decide (t < P.types.size)) = true → DataW.TrodAll enc P W 0 (fun _ => true) true ts vs ds p → Below W.heap.size W W' →
    DataW.TrodAll enc P W' 0 (fun b => decide (b < W.heap.size)) true ts vs ds p
  | [], vs, ds, p, _, h, _ => by
    obtain ⟨rfl, rfl, rfl⟩ := ChangeShapes.trodAll_nil h
    exact ChangeShapes.trodAll_mk0
  | t :: ts, vs, ds, p, ht, h, hb => by
    obtain ⟨v, vs', d, ds', p', q', rfl, rfl, rfl, h0, hr⟩ := ChangeShapes.trodAll_cons h
    simp only [List.all_cons, Bool.and_eq_true, decide_eq_true_eq] at ht
    refine trodAll_cons_mk (Below.trod hl ht.1.1 ht.1.2 h0 hb ?_) (keep_args hl (by simpa using ht.2) hr hb)
    obtain ⟨m, hm⟩ := h0
    exact DataW.trod_lt m _ _ _ hm

/-- What is shown of a law. -/
def LawOk (P : Program) (f : FuncId) (shs : List Sh) : Prop :=
  ∀ dvs, HasArgs shs dvs → ∀ (F : Nat → Prop) (w : World) (vs : List Value), RepL F w dvs vs → (∀ g, F g → g < w.heap.size) → Calls P f vs.toArray w fun e w' => e = .returned (.bool true) ∧ Grown w w'

theorem Grown.below {w w' : World} (h : Grown w w') : Below w.heap.size w w' := ⟨h.os, h.tape, h.output, h.size, h.heap⟩

theorem law_of_val {f : FuncId} {spec : List DV → Option DV} (h : ValOk P f spec) {shs : List Sh} (hs : ∀ dvs, HasArgs shs dvs → spec dvs = some (.bool true)) : LawOk P f shs := by
  intro dvs hd F w vs hr hF
  refine (h.2 dvs _ (hs dvs hd) F w vs hr hF).mono ?_
  rintro e w' ⟨v, F', rfl, hv, _, _, hg⟩
  cases hv
  exact ⟨rfl, hg⟩

/-- A law's own body, where nothing else calls it. -/
theorem law_of {C : FuncId → Con} (hC : ConOk P C) {f : FuncId} {af : AFn} (hf : compF P f = some af) {shs : List Sh}
    (h : ∀ dvs, HasArgs shs dvs → wpA C [] (fun _ => False) af.code (retQ fun s => outV s af.res = some (.bool true)) ⟨env0 (dvs.map .val) af.ntmps, mkH []⟩) : LawOk P f shs := by
  have := Classical.propDecidable
  refine law_of_val (spec := fun dvs => if HasArgs shs dvs then some (.bool true) else none) (val_of hC hf ?_) (fun dvs hd => by simp [hd])
  intro ds r hr

  split at hr
  · rename_i hd
    cases hr
    exact h ds hd
  · cases hr

end
end Go.AI

namespace Go.AI

def noC : FuncId → Con := fun _ => .none
def addC (C : FuncId → Con) (f : FuncId) (c : Con) : FuncId → Con := fun g => if g = f then c else C g

theorem noC_ok {P : Program} : ConOk P noC := fun _ => trivial
theorem addC_val {P : Program} {C : FuncId → Con} {f : FuncId} {spec : List DV → Option DV} (h : ConOk P C) (hv : ValOk P f spec) : ConOk P (addC C f (.val spec)) := by
  intro g
  unfold addC
  by_cases e : g = f
  · subst e; simp only [if_true]; exact hv
  · simp only [if_neg e]; exact h g

attribute [simp] addC

/-- Rows of bytes. -/
def byteRows (ns : List Nat) : List (List DV) := ns.map fun n : Nat => [.int .u8 (n : Int)]

def bytesN : List (List DV) → Option (List Nat)
  | [] => some []
  | [.int .u8 n] :: l => if 0 ≤ n ∧ n < 256 then (bytesN l).map (n.toNat :: ·) else none
  | _ => none

theorem bytesN_rows : ∀ {ns : List Nat}, (∀ n ∈ ns, n < 256) → bytesN (byteRows ns) = some ns
  | [], _ => rfl
  | n :: l, h => by
    have h1 := h n (by simp)
    have ih := bytesN_rows (ns := l) (fun x hx => h x (by simp [hx]))
    simp only [byteRows, List.map_cons, bytesN] at ih ⊢
    rw [if_pos (by omega), ih]
    simp

theorem bytesN_inv : ∀ {l : List (List DV)} {ns : List Nat}, bytesN l = some ns → l = byteRows ns ∧ ∀ n ∈ ns, n < 256
  | [], ns, h => by
    simp only [bytesN, Option.some.injEq] at h
    subst h
    exact ⟨rfl, by simp⟩
  | y :: l, ns, h => by
    unfold bytesN at h
    split at h
    · cases ‹_ = []›
    · rename_i n l' he
      cases he
      split at h
      · rename_i hn
        simp only [Option.map_eq_some_iff] at h
        obtain ⟨ms, h, rfl⟩ := h
        obtain ⟨rfl, h2⟩ := bytesN_inv h
        refine ⟨?_, ?_⟩
        · simp only [byteRows, List.map_cons]
          rw [Int.toNat_of_nonneg hn.1]
        · intro m hm
          rcases List.mem_cons.1 hm with rfl | hm
          · omega
          · exact h2 m hm
      · cases h
    · cases h

theorem wf_u8 {n : Int} (h : (Lit.int .u8 n).wf = true) : 0 ≤ n ∧ n < 256 := by
  simp [Lit.wf, IntKind.min, IntKind.max, IntKind.signed, IntKind.bits] at h
  omega
theorem wf_u32 {n : Int} (h : (Lit.int .u32 n).wf = true) : 0 ≤ n ∧ n < 4294967296 := by
  simp [Lit.wf, IntKind.min, IntKind.max, IntKind.signed, IntKind.bits] at h
  omega
theorem wf_u16 {n : Int} (h : (Lit.int .u16 n).wf = true) : 0 ≤ n ∧ n < 65536 := by
  simp [Lit.wf, IntKind.min, IntKind.max, IntKind.signed, IntKind.bits] at h
  omega
theorem wf_i64 {n : Int} (h : (Lit.int .i64 n).wf = true) : -9223372036854775808 ≤ n ∧ n < 9223372036854775808 := by
  simp [Lit.wf, IntKind.min, IntKind.max, IntKind.signed, IntKind.bits] at h
  omega

theorem has_int {k : IntKind} {d : DV} (h : HasArg (.int k) d) : ∃ n, d = .int k n ∧ (Lit.int k n).wf = true := by
  obtain ⟨n, h, hw⟩ := h
  cases h
  exact ⟨n, rfl, hw⟩

theorem byteRows_length (ns : List Nat) : (byteRows ns).length = ns.length := by simp [byteRows]
theorem byteRows_get (ns : List Nat) (j : Nat) : (byteRows ns)[j]? = (ns[j]?).map fun n : Nat => [DV.int .u8 (n : Int)] := by simp [byteRows]

theorem fdiv_nat (n k : Nat) : Int.fdiv (n : Int) (k : Int) = ((n / k : Nat) : Int) := by
  rw [Int.fdiv_eq_ediv_of_nonneg _ (by omega)]
  norm_cast
theorem tdiv_nat (n k : Nat) : Int.tdiv (n : Int) (k : Int) = ((n / k : Nat) : Int) := by
  rw [Int.tdiv_eq_ediv_of_nonneg (by omega)]
  norm_cast
theorem tmod_nat (n k : Nat) : Int.tmod (n : Int) (k : Int) = ((n % k : Nat) : Int) := by
  rw [Int.tmod_eq_emod_of_nonneg (by omega)]
  norm_cast
theorem wrap_u32_nat (n : Nat) (h : n < 4294967296) : IntKind.u32.wrap (n : Int) = n := by
  rw [IntKind.wrap_u32']; omega
theorem wrap_i64_of {n : Int} (h0 : -9223372036854775808 ≤ n) (h1 : n < 9223372036854775808) : IntKind.i64.wrap n = n := by
  rw [IntKind.wrap_i64]; omega

end Go.AI

namespace Go.AI

/-- What is shown of a run that may answer. -/
def Imp {ρ : Type} (o : Option ρ) (p : ρ → Prop) : Prop := ∀ r, o = some r → p r

section
variable {ρ α : Type} {o : Option ρ} {p : ρ → Prop}

theorem imp_some {x : ρ} (h : p x) : Imp (some x) p := by
  intro r hr
  cases hr
  exact h
theorem imp_none : Imp none p := by
  intro r hr
  cases hr
theorem imp_bind {x : Option α} {f : α → Option ρ} (h : ∀ v, x = some v → Imp (f v) p) : Imp (x.bind f) p := by
  intro r hr
  obtain ⟨v, h1, h2⟩ := Option.bind_eq_some_iff.1 hr
  exact h v h1 r h2
theorem imp_if {c : Prop} [Decidable c] {a b : Option ρ} (h1 : c → Imp a p) (h2 : ¬ c → Imp b p) : Imp (if c then a else b) p := by
  split
  · exact h1 ‹_›
  · exact h2 ‹_›
theorem imp_guard {c : Prop} [Decidable c] {a : Option ρ} (h1 : c → Imp a p) : Imp (if c then a else none) p := imp_if h1 fun _ => imp_none
theorem imp_cond {t : Bool} {a b : Option ρ} (h1 : t = true → Imp a p) (h2 : t = false → Imp b p) : Imp (bif t then a else b) p := by
  cases t
  · exact h2 rfl
  · exact h1 rfl
/-- Two ways come together. -/
theorem imp_join {x : Option α} {f : α → Option ρ} (K : α → ρ → Prop) (h1 : ∀ v, Imp (f v) (K v)) (h2 : ∀ r, Imp x fun v => K v r → p r) : Imp (x.bind f) p := by
  intro r hr
  obtain ⟨v, h3, h4⟩ := Option.bind_eq_some_iff.1 hr
  exact h2 r v h3 (h1 v r h4)
/-- Two ways come together, each of which always comes to something. -/
theorem imp_bif {t : Bool} {a b : α} {f : α → Option ρ} (h : Imp (Option.bind (bif t then some a else some b) f) p) : Imp (f (bif t then a else b)) p := by
  cases t <;> exact h
theorem imp_let {a : α} {f : α → Option ρ} (h : Imp ((some a).bind f) p) : Imp (f a) p := h
end

section
variable (P : Program) (C : FuncId → Con) (B : Id → Prop)

/-- What a row of operations comes to. -/
def RP (ops : List AIns) (K : St → Prop) (s : St) : Prop :=
  ConOk P C → ∀ (opsA : Array Oper) (l : List Oper), cInss P opsA l = some ops → ∀ (J0 : Id → JI) (F0 : Nat → Prop) (w0 : World) (d0 : List Deferred) (a : Act) (w : World) (Q : Exit → Act → World → Prop), Stands B J0 F0 w0 d0 s a w →
    (∀ s' a' w', Stands B J0 F0 w0 d0 s' a' w' → K s' → Q .normal a' w') → wpList P opsA Q l a w

/-- What code comes to. -/
def WP (ac : ACode) (Q : Exit → St → Prop) (s : St) : Prop :=
  ConOk P C → ∀ (c : Code), compC P c = some ac → ∀ (J0 : Id → JI) (F0 : Nat → Prop) (w0 : World) (d0 : List Deferred) (a : Act) (w : World) (Q' : Exit → Act → World → Prop), Stands B J0 F0 w0 d0 s a w →
    (∀ e s' a' w', Stands B J0 F0 w0 d0 s' a' w' → Q e s' → Q' e a' w') → c.wp P Q' a w

/-- What the rounds of a loop come to. -/
def RD (ac : ACode) (Q : Exit → St → Prop) (s : St) : Prop :=
  ConOk P C → ∀ (c : Code), compC P c = some ac → ∀ (J0 : Id → JI) (F0 : Nat → Prop) (w0 : World) (d0 : List Deferred) (a : Act) (w : World) (Q' : Exit → Act → World → Prop), Stands B J0 F0 w0 d0 s a w →
    (∀ e s' a' w', Stands B J0 F0 w0 d0 s' a' w' → Q e s' → Q' e a' w') → Rounds P c Q' a w
end

section
variable {P : Program} {C : FuncId → Con} {ns : Id} {B : Id → Prop} {Q : Exit → St → Prop} {K : St → Prop} {s s0 : St} {x y : ACode} {J0 : Id → JI} {F0 : Nat → Prop} {w0 w : World} {d0 : List Deferred} {a : Act}

theorem Stands.sub (h : Stands B J0 F0 w0 d0 s a w) (hs : Sub B s s0) : Stands B J0 F0 w0 d0 s0 a w := by
  obtain ⟨J, F, hE, hH, hX, hd⟩ := h
  obtain ⟨J', F', h1, h2, h3⟩ := hs J F w a hE hH
  exact ⟨J', F', h1, h2, hX.trans h3, hd⟩

theorem RP_sub {ops : List AIns} (hs : Sub B s s0) (h : RP P C B ops K s0) : RP P C B ops K s :=
  fun hC opsA l hl J0 F0 w0 d0 a w Q hS hQ => h hC opsA l hl J0 F0 w0 d0 a w Q (hS.sub hs) hQ
theorem WP_sub (hs : Sub B s s0) (h : WP P C B x Q s0) : WP P C B x Q s :=
  fun hC c hc J0 F0 w0 d0 a w Q' hS hQ => h hC c hc J0 F0 w0 d0 a w Q' (hS.sub hs) hQ
theorem RD_sub (hs : Sub B s s0) (h : RD P C B x Q s0) : RD P C B x Q s :=
  fun hC c hc J0 F0 w0 d0 a w Q' hS hQ => h hC c hc J0 F0 w0 d0 a w Q' (hS.sub hs) hQ

theorem cInss_nil {opsA : Array Oper} {l : List Oper} (h : cInss P opsA l = some []) : l = [] := by
  cases l with
  | nil => rfl
  | cons o l =>
    simp only [cInss] at h
    split at h <;> cases h

theorem cInss_cons {opsA : Array Oper} {l : List Oper} {i : AIns} {m : List AIns} (h : cInss P opsA l = some (i :: m)) : ∃ o l', l = o :: l' ∧ cIns P opsA o = some i ∧ cInss P opsA l' = some m := by
  cases l with
  | nil => cases h
  | cons o l =>
    simp only [cInss] at h
    split at h
    · rename_i i' m' h1 h2
      cases h
      exact ⟨o, l, rfl, h1, h2⟩
    · cases h

theorem RP_nil (h : K s) : RP P C B [] K s := by
  intro hC opsA l hl J0 F0 w0 d0 a w Q hS hQ
  cases cInss_nil hl
  exact hQ s a w hS h

theorem Stands.moves {s' : St} {a' : Act} {w' : World} {J : Id → JI} {F : Nat → Prop} (hX : Ext0 B J0 F0 w0 J F w) (hd : a.defers = d0) (h : Moves J F w s' a a' w') : Stands B J0 F0 w0 d0 s' a' w' := by
  obtain ⟨J', F', h1, h2, h3, h4⟩ := h
  exact ⟨J', F', h1, h2, hX.trans h3.to0, h4.trans hd⟩

theorem RP_step {i : AIns} {l : List AIns} {s' : St} (h1 : step C ns s i = some s') (h : RP P C B l K s') : RP P C B (i :: l) K s := by
  intro hC opsA l0 hl J0 F0 w0 d0 a w Q hS hQ
  obtain ⟨o, l', rfl, hi, hm⟩ := cInss_cons hl
  obtain ⟨J, F, hE, hH, hX, hd⟩ := hS
  unfold wpList
  have next : ∀ a1 w1, Moves J F w s' a a1 w1 → wpList P opsA Q l' a1 w1 := fun a1 w1 hM => h hC opsA l' hm J0 F0 w0 d0 a1 w1 Q (Stands.moves hX hd hM) hQ
  rcases step_sound hC hi hE hH h1 with ⟨hw, h⟩ | ⟨hw, h⟩
  · rw [if_pos hw]
    exact .inl (Oper.wp_mono next (h Q))
  · rw [hw]
    exact next _ _ h

/-- An operation that is done. -/
theorem RP_op (ns id : Id) {d n : Nat} {op : AOp} {g : Option (Nat × Bool)} {l : List AIns} {e : List (Nat × AV)} {H H' : Hp} {x : AV} (hg : gv ⟨n, e⟩ g = some true) (hd : d < n)
    (h1 : semE C H (fun x => unw true (evE ⟨n, e⟩ x)) (fun t x => unw t (evE ⟨n, e⟩ x)) ns id op = some (x, H')) (h : RP P C B l K ⟨⟨n, (d, x) :: e⟩, H'⟩) : RP P C B (⟨some d, op, g⟩ :: l) K ⟨⟨n, e⟩, H⟩ := by
  intro hC opsA l0 hl J0 F0 w0 d0 a w Q hS hQ
  obtain ⟨o, l', rfl, hi, hm⟩ := cInss_cons hl
  obtain ⟨J, F, hE, hH, hX, hd0⟩ := hS
  obtain ⟨hop, hdst, _⟩ := cIns_op hi
  unfold wpList
  have hw := gv_rel hE hi hg
  rw [if_pos hw]
  refine .inl (Oper.wp_mono ?_ (op_sound hC hH (orel hE) (fun b hb => by subst hb; exact orel hE) hop h1 Q))
  rintro a' w' ⟨v, J', F', rfl, k1, k2, k3⟩
  refine h hC opsA l' hm J0 F0 w0 d0 _ w' Q ⟨J', F', ?_, k2, hX.trans k3.to0, ?_⟩ hQ
  · have := put_rel (hE.ext hH k3) k1 (some d)
    simp only [putE] at this
    rw [if_pos hd] at this
    rw [← hdst]
    exact this
  · rw [← hdst]; exact hd0

/-- An operation whose answer nobody asks for. -/
theorem RP_op0 (ns id : Id) {n : Nat} {op : AOp} {g : Option (Nat × Bool)} {l : List AIns} {e : List (Nat × AV)} {H H' : Hp} {x : AV} (hg : gv ⟨n, e⟩ g = some true)
    (h1 : semE C H (fun x => unw true (evE ⟨n, e⟩ x)) (fun t x => unw t (evE ⟨n, e⟩ x)) ns id op = some (x, H')) (h : RP P C B l K ⟨⟨n, e⟩, H'⟩) : RP P C B (⟨none, op, g⟩ :: l) K ⟨⟨n, e⟩, H⟩ := by
  intro hC opsA l0 hl J0 F0 w0 d0 a w Q hS hQ
  obtain ⟨o, l', rfl, hi, hm⟩ := cInss_cons hl
  obtain ⟨J, F, hE, hH, hX, hd0⟩ := hS
  obtain ⟨hop, hdst, _⟩ := cIns_op hi
  unfold wpList
  have hw := gv_rel hE hi hg
  rw [if_pos hw]
  refine .inl (Oper.wp_mono ?_ (op_sound hC hH (orel hE) (fun b hb => by subst hb; exact orel hE) hop h1 Q))
  rintro a' w' ⟨v, J', F', rfl, k1, k2, k3⟩
  refine h hC opsA l' hm J0 F0 w0 d0 _ w' Q ⟨J', F', ?_, k2, hX.trans k3.to0, ?_⟩ hQ
  · rw [← hdst]; exact hE.ext hH k3
  · rw [← hdst]; exact hd0

/-- An operation that is passed by. -/
theorem RP_skip {d n : Nat} {op : AOp} {g : Option (Nat × Bool)} {l : List AIns} {e : List (Nat × AV)} {H : Hp} (hg : gv ⟨n, e⟩ g = some false) (hd : d < n)
    (h : RP P C B l K ⟨⟨n, (d, .val (.tup [])) :: e⟩, H⟩) : RP P C B (⟨some d, op, g⟩ :: l) K ⟨⟨n, e⟩, H⟩ := by
  intro hC opsA l0 hl J0 F0 w0 d0 a w Q hS hQ
  obtain ⟨o, l', rfl, hi, hm⟩ := cInss_cons hl
  obtain ⟨J, F, hE, hH, hX, hd0⟩ := hS
  obtain ⟨hop, hdst, _⟩ := cIns_op hi
  unfold wpList
  have hw := gv_rel hE hi hg
  rw [hw]
  refine h hC opsA l' hm J0 F0 w0 d0 _ w Q ⟨J, F, ?_, hH, hX, ?_⟩ hQ
  · have := put_rel hE (undef_rel (J := J) (F := F) (w := w)) (some d)
    simp only [putE] at this
    rw [if_pos hd] at this
    rw [← hdst]
    exact this
  · rw [← hdst]; exact hd0
theorem RP_skip0 {n : Nat} {op : AOp} {g : Option (Nat × Bool)} {l : List AIns} {e : List (Nat × AV)} {H : Hp} (hg : gv ⟨n, e⟩ g = some false)
    (h : RP P C B l K ⟨⟨n, e⟩, H⟩) : RP P C B (⟨none, op, g⟩ :: l) K ⟨⟨n, e⟩, H⟩ := by
  intro hC opsA l0 hl J0 F0 w0 d0 a w Q hS hQ
  obtain ⟨o, l', rfl, hi, hm⟩ := cInss_cons hl
  obtain ⟨J, F, hE, hH, hX, hd0⟩ := hS
  obtain ⟨hop, hdst, _⟩ := cIns_op hi
  unfold wpList
  have hw := gv_rel hE hi hg
  rw [hw]
  refine h hC opsA l' hm J0 F0 w0 d0 _ w Q ⟨J, F, ?_, hH, hX, ?_⟩ hQ
  · rw [← hdst]; exact hE
  · rw [← hdst]; exact hd0

/-! ### Code -/

theorem compC_inv : ∀ {c : Code} {ac : ACode}, compC P c = some ac → match ac with
    | .skip => c = .skip
    | .region ops => ∃ id opsA, c = .region id opsA false ∧ cInss P opsA opsA.toList = some ops
    | .draw m ct => ∃ id opsA, c = .region id opsA true ∧ cInss P opsA opsA.toList = some m ∧ ct = cutOf opsA m ∧ P.follows .mixedOrders = true
    | .drawA m _ _ ct => ∃ id opsA, c = .region id opsA true ∧ cInss P opsA opsA.toList = some m ∧ ct = cutOf opsA m ∧ P.follows .mixedOrders = true
    | .seq x y => ∃ cx cy, c = .seq cx cy ∧ compC P cx = some x ∧ compC P cy = some y
    | .cond k x y => ∃ o cx cy, c = .cond o cx cy ∧ cOpd o = some k ∧ compC P cx = some x ∧ compC P cy = some y
    | .block id x => ∃ cx, c = .block id cx ∧ compC P cx = some x
    | .loop x => ∃ cx, c = .loop cx ∧ compC P cx = some x
    | .exit id => c = .exit id
    | .bad => True
    | .ret => c = .ret := by
  intro c ac h
  cases c <;> simp only [compC, reduceCtorEq] at h
  case skip => cases h; rfl
  case region id ops draw =>
    split at h
    · rename_i m hm; cases h; exact ⟨id, ops, rfl, hm⟩
    · rename_i m hm
      split at h
      · rename_i hmix
        split at h
        · cases h; exact ⟨id, ops, rfl, hm, rfl, hmix⟩
        · split at h
          · cases h; exact ⟨id, ops, rfl, hm, rfl, hmix⟩
          · split at h
            · cases h; exact ⟨id, ops, rfl, hm, rfl, hmix⟩
            · cases h; trivial
      · cases h; trivial
    · cases h; trivial
  case seq cx cy =>
    split at h
    · rename_i h1 h2; cases h; exact ⟨cx, cy, rfl, h1, h2⟩
    · cases h
  case cond o cx cy =>
    split at h
    · rename_i h1 h2 h3; cases h; exact ⟨o, cx, cy, rfl, h1, h2, h3⟩
    · cases h
  case block id cx =>
    obtain ⟨x, h1, rfl⟩ := Option.map_eq_some_iff.1 h
    exact ⟨cx, rfl, h1⟩
  case loop cx =>
    obtain ⟨x, h1, rfl⟩ := Option.map_eq_some_iff.1 h
    exact ⟨cx, rfl, h1⟩
  case exit id => cases h; rfl
  case ret => cases h; rfl
  all_goals (cases h; trivial)

theorem WP_skip (h : Q .normal s) : WP P C B .skip Q s := by
  intro hC c hc J0 F0 w0 d0 a w Q' hS hQ
  cases compC_inv hc
  exact wp_skip (hQ _ _ _ _ hS h)

theorem WP_region {ops : List AIns} (h : RP P C B ops (Q .normal) s) : WP P C B (.region ops) Q s := by
  intro hC c hc J0 F0 w0 d0 a w Q' hS hQ
  obtain ⟨id, opsA, rfl, hm⟩ := compC_inv hc
  exact wp_region_list (h hC opsA opsA.toList hm J0 F0 w0 d0 a w Q' hS fun s' a' w' hS' hq => hQ _ s' a' w' hS' hq)

theorem WP_seq (h : WP P C B x (thenA (WP P C B y Q) Q) s) : WP P C B (.seq x y) Q s := by
  intro hC c hc J0 F0 w0 d0 a w Q' hS hQ
  obtain ⟨cx, cy, rfl, h1, h2⟩ := compC_inv hc
  refine wp_seq (h hC cx h1 J0 F0 w0 d0 a w _ hS ?_)
  intro e s' a' w' hS' hq
  cases e <;> try exact hQ _ s' a' w' hS' hq
  exact hq hC cy h2 J0 F0 w0 d0 a' w' Q' hS' hQ

theorem WP_cond {k : Opd} {t : Bool} (ht : unw true (evE s.env k) = .val (.bool t)) (h1 : t = true → WP P C B x Q s) (h2 : t = false → WP P C B y Q s) : WP P C B (.cond k x y) Q s := by
  intro hC c hc J0 F0 w0 d0 a w Q' hS hQ
  obtain ⟨o, cx, cy, rfl, ho, hx, hy⟩ := compC_inv hc
  have hS0 := hS
  obtain ⟨J, F, hE, hH, hX, hd⟩ := hS
  have hv := (orel hE).ev ho
  simp only [ht] at hv
  refine wp_cond hv.bool ?_
  cases t with
  | true => exact h1 rfl hC cx hx J0 F0 w0 d0 a w Q' hS0 hQ
  | false => exact h2 rfl hC cy hy J0 F0 w0 d0 a w Q' hS0 hQ

theorem WP_block {id : Nat} (h : WP P C B x (inBlockA id Q) s) : WP P C B (.block id x) Q s := by
  intro hC c hc J0 F0 w0 d0 a w Q' hS hQ
  obtain ⟨cx, rfl, h1⟩ := compC_inv hc
  refine wp_block (h hC cx h1 J0 F0 w0 d0 a w _ hS ?_)
  intro e s' a' w' hS' h
  cases e <;> try exact hQ _ s' a' w' hS' h
  rename_i id'
  simp only [inBlockA] at h
  simp only [Exit.inBlock]
  split at h
  · rename_i e; rw [if_pos e]; exact hQ _ s' a' w' hS' h
  · rename_i e; rw [if_neg e]; exact hQ _ s' a' w' hS' h

theorem WP_exit {id : Nat} (h : Q (.exit id) s) : WP P C B (.exit id) Q s := by
  intro hC c hc J0 F0 w0 d0 a w Q' hS hQ
  cases compC_inv hc
  exact wp_exit (hQ _ _ _ _ hS h)

theorem WP_ret (h : Q .ret s) : WP P C B .ret Q s := by
  intro hC c hc J0 F0 w0 d0 a w Q' hS hQ
  cases compC_inv hc
  exact wp_ret (hQ _ _ _ _ hS h)

theorem RD_step (hs : Sub B s s0) (h : WP P C B x (thenA (RD P C B x Q) Q) s0) : RD P C B x Q s := by
  intro hC c hc J0 F0 w0 d0 a w Q' hS hQ
  refine rounds_step (h hC c hc J0 F0 w0 d0 a w _ (hS.sub hs) ?_)
  intro e s' a' w' hS' hq
  cases e <;> try exact hQ _ s' a' w' hS' hq
  exact hq hC c hc J0 F0 w0 d0 a' w' Q' hS' hQ

theorem WP_loop (h : RD P C B x Q s) : WP P C B (.loop x) Q s := by
  intro hC c hc J0 F0 w0 d0 a w Q' hS hQ
  obtain ⟨cx, rfl, h1⟩ := compC_inv hc
  exact wp_rounds (h hC cx h1 J0 F0 w0 d0 a w Q' hS hQ)

/-- What is shown by running predicates. -/
theorem WP_of_wpA (h : wpA C ns B x Q s) : WP P C B x Q s := by
  intro hC c hc J0 F0 w0 d0 a w Q' hS hQ
  exact wpA_sound hC c x hc Q Q' s a w hS h hQ

/-- A region whose order is drawn. -/
theorem WP_draw {ops : List AIns} {ct : Option Nat} (h : runQ (flatC C) ns ops (fun s' => ∃ l, Has s'.env.l l ∧ Q .normal ⟨⟨s'.env.n, l⟩, s'.H⟩) s) : WP P C B (.draw ops ct) Q s := WP_of_wpA (wpA_draw.2 h)

/-- What an operation comes to, for other ways out. -/
theorem Oper_wp_q {P : Program} {o : Oper} {a : Act} {w : World} {K : Act → World → Prop} {Q Q' : Exit → Act → World → Prop} (hq : ∀ e a w, e ≠ .normal → Q e a w → Q' e a w) (h : o.wp P a w K Q) : o.wp P a w K Q' := by
  have lets : LetsOut Q → LetsOut Q' := fun ⟨a, w, h⟩ => ⟨a, w, hq _ a w (by simp) h⟩
  unfold Oper.wp at *
  generalize (execOp a.eval o).run P w = r at *
  cases r with
  | ok n w' =>
    cases n <;> simp only [Oper.upon] at h ⊢ <;> first
      | exact h
      | exact Calls.mono h (fun e w'' he => by
          cases e
          · exact he
          · exact hq _ _ _ (by simp) he
          · exact lets he)
  | halt x w' =>
    cases x <;> simp only [Oper.upon] at h ⊢ <;> first
      | exact h
      | exact hq _ _ _ (by simp) h

/-- A region whose order is drawn, cut at a call. -/
theorem WP_cut {ac : ACode} {m : List AIns} {c : Nat} {mi : AIns} {s1 : St} (hinv : ∀ cd, compC P cd = some ac → ∃ id opsA, cd = .region id opsA true ∧ cInss P opsA opsA.toList = some m ∧ some c = cutOf opsA m ∧ P.follows .mixedOrders = true) (hci : m[c]? = some mi)
    (h1 : run (flatC C) ns (m.take c) s = some s1) (hmid : ∀ sf, Eqv sf s1 → RP P C B [mi] (fun s2 => ∃ ns2 s3, run (flatC C) ns2 (m.drop (c + 1)) s2 = some s3 ∧ ∀ s3', Eqv s3' s3 → Q .normal s3') sf) : WP P C B ac Q s := by
  intro hC cd hc J0 F0 w0 d0 a w Q' hS hQ
  obtain ⟨id, opsA, rfl, hm, hct, hmix⟩ := hinv _ hc
  obtain ⟨J, F, hE, hH, hX, hd⟩ := hS
  have hH1 : HRel J F { w with drawn := w.drawn + 1 } s.H := hH.drew
  have hE1 : ERel J F { w with drawn := w.drawn + 1 } s.env a.tmps := hE.ext hH (ext_drew J F w)
  have hX1 : Ext0 B J0 F0 w0 J F { w with drawn := w.drawn + 1 } := hX.trans (ext_drew J F w).to0
  have hlen : m.length = opsA.size := by rw [(cInss_get hm).1]; simp
  have hcl : c < opsA.size := by rw [← hlen]; exact (List.getElem?_eq_some_iff.1 hci).1
  obtain ⟨x, hx1, hx2⟩ := (cInss_get hm).2 c opsA[c] (by simp)
  rw [hci] at hx1
  cases hx1
  refine wp_region_any hmix (draw_cut (ns := ns) hC hm hci (cutFrom_ok hct.symm) hE1 hH1 h1 ?_)
  intro sf a1 w1 hsf hmv K hK
  have hone : cInss P opsA [opsA[c]] = some [mi] := by simp only [cInss, hx2]
  have := hmid sf hsf hC opsA [opsA[c]] hone J0 F0 w0 d0 a1 w1 (fun e a w => match e with
    | .normal => K a w
    | e => Q' e a w) (Stands.moves hX1 hd hmv) (by
      rintro s2 a2 w2 ⟨J2, F2, hE2, hH2, hX2, hd2⟩ ⟨ns2, s3, hr, hq⟩
      exact hK a2 w2 s2 s3 J2 F2 ns2 hE2 hH2 hr (fun s3' a3 w3 heq hmv3 => hQ _ s3' a3 w3 (Stands.moves hX2 hd2 hmv3) (hq s3' heq)))
  unfold wpOp
  rw [Array.getElem?_eq_getElem hcl]
  simp only
  unfold wpList at this
  split
  · rename_i hw
    rw [if_pos hw] at this
    rcases this with h | ⟨h2, ⟨a3, w3, h3⟩⟩
    · refine .inl (Oper_wp_q (fun e a w hne h => ?_) (Oper.wp_mono (fun a w h => h) h))
      cases e <;> first | exact absurd rfl hne | exact h
    · exact .inr ⟨h2, a3, w3, h3⟩
  · rename_i hw
    rw [if_neg hw] at this
    exact this

/-! ### Loops -/

end

section
variable {τ ε : Type}
def iterO (f : τ → Option (τ ⊕ ε)) : Nat → τ → Option ε
  | 0, _ => none
  | n + 1, t => match f t with
    | some (.inl t') => iterO f n t'
    | some (.inr e) => some e
    | none => none

theorem iterO_mono {f : τ → Option (τ ⊕ ε)} : ∀ {n m : Nat} {t : τ} {e : ε}, iterO f n t = some e → n ≤ m → iterO f m t = some e
  | 0, _, _, _, h, _ => by cases h
  | n + 1, 0, _, _, _, hm => by omega
  | n + 1, m + 1, t, e, h, hm => by
    unfold iterO at h ⊢
    split at h
    · exact iterO_mono h (by omega)
    · exact h
    · cases h

open Classical in
/-- A loop: round after round, until one comes out. -/
noncomputable def loopO (f : τ → Option (τ ⊕ ε)) (t : τ) : Option ε :=
  if h : ∃ n e, iterO f n t = some e then some (Classical.choose (Classical.choose_spec h)) else none

theorem loopO_iff {f : τ → Option (τ ⊕ ε)} {t : τ} {e : ε} : loopO f t = some e ↔ ∃ n, iterO f n t = some e := by
  unfold loopO
  constructor
  · intro h
    split at h
    · rename_i hh
      cases h
      exact ⟨_, Classical.choose_spec (Classical.choose_spec hh)⟩
    · cases h
  · rintro ⟨n, hn⟩
    have hh : ∃ n e, iterO f n t = some e := ⟨n, e, hn⟩
    rw [dif_pos hh]
    have h1 := Classical.choose_spec (Classical.choose_spec hh)
    have h2 := iterO_mono h1 (Nat.le_max_left _ n)
    have h3 := iterO_mono hn (Nat.le_max_right (Classical.choose hh) n)
    rw [h2] at h3
    exact h3

/-- One round, and the loop again. -/
theorem loopO_eq (f : τ → Option (τ ⊕ ε)) (t : τ) : loopO f t = (f t).bind (Sum.elim (loopO f) some) := by
  apply Option.ext
  intro e
  rw [loopO_iff, Option.bind_eq_some_iff]
  constructor
  · rintro ⟨n, hn⟩
    cases n with
    | zero => cases hn
    | succ n =>
      unfold iterO at hn
      split at hn
      · rename_i t' h
        exact ⟨_, h, loopO_iff.2 ⟨n, hn⟩⟩
      · rename_i h
        cases hn
        exact ⟨_, h, rfl⟩
      · cases hn
  · rintro ⟨x, h, hx⟩
    cases x with
    | inl t' =>
      obtain ⟨n, hn⟩ := loopO_iff.1 hx
      refine ⟨n + 1, ?_⟩
      unfold iterO
      rw [h]
      exact hn
    | inr e' =>
      cases hx
      refine ⟨1, ?_⟩
      unfold iterO
      rw [h]

theorem loopO_next {f : τ → Option (τ ⊕ ε)} {t t' : τ} (h : f t = some (.inl t')) : loopO f t = loopO f t' := by rw [loopO_eq, h]; rfl
theorem loopO_out {f : τ → Option (τ ⊕ ε)} {t : τ} {e : ε} (h : f t = some (.inr e)) : loopO f t = some e := by rw [loopO_eq, h]; rfl

/-- What a loop comes to, by what goes down. -/
theorem loopO_ind {f : τ → Option (τ ⊕ ε)} (I : τ → Prop) (m : τ → Nat) (E : τ → ε → Prop) (h : ∀ t, I t → (∃ t', f t = some (.inl t') ∧ I t' ∧ m t' < m t ∧ ∀ e, E t' e → E t e) ∨ ∃ e, f t = some (.inr e) ∧ E t e) {t : τ} (h0 : I t) : ∃ e, loopO f t = some e ∧ E t e := by
  suffices key : ∀ n t, m t = n → I t → ∃ e, loopO f t = some e ∧ E t e from key _ t rfl h0
  intro n
  induction n using Nat.strongRecOn with
  | ind n ih =>
    rintro t rfl hI
    rcases h t hI with ⟨t', h1, h2, h3, h4⟩ | ⟨e, h1, h2⟩
    · obtain ⟨e, h5, h6⟩ := ih _ h3 t' rfl h2
      exact ⟨e, by rw [loopO_next h1]; exact h5, h4 e h6⟩
    · exact ⟨e, loopO_out h1, h2⟩

variable {P : Program} {C : FuncId → Con} {ns : Id} {B : Id → Prop} {Q : Exit → St → Prop} {x : ACode}

/-- **A loop.** -/
theorem imp_loop {f : τ → Option (τ ⊕ ε)} (enc : τ → St) (Kx : ε → Prop)
    (h : ∀ (R : St → Prop) t, Imp (f t) fun y => (match y with | .inl t' => ∀ s', Sub B s' (enc t') → R s' | .inr e => Kx e) → WP P C B x (thenA R Q) (enc t))
    {t0 : τ} {s : St} (hs : Sub B s (enc t0)) : Imp (loopO f t0) fun e => Kx e → WP P C B (.loop x) Q s := by
  intro e he hk
  obtain ⟨n, hn⟩ := loopO_iff.1 he
  refine WP_loop ?_
  induction n generalizing t0 s with
  | zero => cases hn
  | succ n ih =>
    unfold iterO at hn
    split at hn
    · rename_i t' ht
      exact RD_step hs (h (RD P C B x Q) t0 _ ht fun s' hs' => ih hs' (loopO_iff.2 ⟨n, hn⟩) hn)
    · rename_i e' ht
      cases hn
      exact RD_step hs (h (RD P C B x Q) t0 _ ht hk)
    · cases hn

end
end Go.AI

namespace Go.AI

/-- What is shown of a run that may answer, where something is known of the answer. -/
def Imq {ρ : Type} (o : Option ρ) (A p : ρ → Prop) : Prop := ∀ r, o = some r → A r → p r

/-- A statement at an exit. -/
def QP (Q : Exit → St → Prop) (e : Exit) (s : St) : Prop := Q e s

section
variable {ρ α : Type} {o : Option ρ} {A p q : ρ → Prop}

theorem q_some {x : ρ} (h : A x → p x) : Imq (some x) A p := by
  intro r hr ha
  cases hr
  exact h ha
theorem q_none : Imq none A p := by
  intro r hr
  cases hr
theorem q_bind {x : Option α} {f : α → Option ρ} (h : ∀ v, x = some v → Imq (f v) A p) : Imq (x.bind f) A p := by
  intro r hr ha
  obtain ⟨v, h1, h2⟩ := Option.bind_eq_some_iff.1 hr
  exact h v h1 r h2 ha
theorem q_guard {c : Prop} [Decidable c] {a : Option ρ} (h1 : c → Imq a A p) : Imq (if c then a else none) A p := by
  split
  · exact h1 ‹_›
  · exact q_none
theorem q_mono (h : ∀ r, q r → p r) (h1 : Imq o A q) : Imq o A p := fun r hr ha => h r (h1 r hr ha)
/-- Two ways come together. -/
theorem q_join {x : Option α} {f : α → Option ρ} (W : α → ρ → Prop) (h1 : ∀ v, Imq (f v) A (W v)) (h2 : ∀ r, A r → Imq x (fun v => W v r) fun _ => p r) : Imq (x.bind f) A p := by
  intro r hr ha
  obtain ⟨v, h3, h4⟩ := Option.bind_eq_some_iff.1 hr
  exact h2 r ha v h3 (h1 v r h4 ha)
theorem q_bif {t : Bool} {a b : Option ρ} (h1 : t = true → Imq a A p) (h2 : t = false → Imq b A p) : Imq (bif t then a else b) A p := by
  cases t
  · exact h2 rfl
  · exact h1 rfl
end

section
variable {ρ : Type} {o : Option ρ} {A : ρ → Prop} {P : Program} {C : FuncId → Con} {B : Id → Prop} {K : ρ → St → Prop} {Q : ρ → Exit → St → Prop} {x y : ACode} {s s0 : St}

theorem G_seq (h : Imq o A fun r => WP P C B x (thenA (WP P C B y (Q r)) (Q r)) s) : Imq o A fun r => WP P C B (.seq x y) (Q r) s := q_mono (fun _ => WP_seq) h
theorem G_region {ops : List AIns} (h : Imq o A fun r => RP P C B ops (QP (Q r) .normal) s) : Imq o A fun r => WP P C B (.region ops) (Q r) s := q_mono (fun _ => WP_region) h
theorem G_nil (h : Imq o A fun r => K r s) : Imq o A fun r => RP P C B [] (K r) s := q_mono (fun _ => RP_nil) h
theorem G_skip (h : Imq o A fun r => QP (Q r) .normal s) : Imq o A fun r => WP P C B .skip (Q r) s := q_mono (fun _ => WP_skip) h
theorem G_block {id : Nat} (h : Imq o A fun r => WP P C B x (inBlockA id (Q r)) s) : Imq o A fun r => WP P C B (.block id x) (Q r) s := q_mono (fun _ => WP_block) h
theorem G_exit {id : Nat} (h : Imq o A fun r => QP (Q r) (.exit id) s) : Imq o A fun r => WP P C B (.exit id) (Q r) s := q_mono (fun _ => WP_exit) h
theorem G_ret (h : Imq o A fun r => QP (Q r) .ret s) : Imq o A fun r => WP P C B .ret (Q r) s := q_mono (fun _ => WP_ret) h
theorem G_subW (hs : Sub B s s0) (h : Imq o A fun r => WP P C B x (Q r) s0) : Imq o A fun r => WP P C B x (Q r) s := q_mono (fun _ => WP_sub hs) h
theorem G_subR {ops : List AIns} (hs : Sub B s s0) (h : Imq o A fun r => RP P C B ops (K r) s0) : Imq o A fun r => RP P C B ops (K r) s := q_mono (fun _ => RP_sub hs) h

/-! ### Exits -/
theorem G_then {N : ρ → St → Prop} (h : Imq o A fun r => N r s) : Imq o A fun r => QP (thenA (N r) (Q r)) .normal s := h
theorem G_thenX {N : ρ → St → Prop} {i : Nat} (h : Imq o A fun r => QP (Q r) (.exit i) s) : Imq o A fun r => QP (thenA (N r) (Q r)) (.exit i) s := h
theorem G_thenR {N : ρ → St → Prop} (h : Imq o A fun r => QP (Q r) .ret s) : Imq o A fun r => QP (thenA (N r) (Q r)) .ret s := h
theorem G_inB {i : Nat} (h : Imq o A fun r => QP (Q r) .normal s) : Imq o A fun r => QP (inBlockA i (Q r)) .normal s := h
theorem G_inBR {i : Nat} (h : Imq o A fun r => QP (Q r) .ret s) : Imq o A fun r => QP (inBlockA i (Q r)) .ret s := h
theorem G_inBX {i : Nat} (h : Imq o A fun r => QP (Q r) .normal s) : Imq o A fun r => QP (inBlockA i (Q r)) (.exit i) s := by
  refine q_mono (fun r h => ?_) h
  show (if i = i then _ else _)
  rw [if_pos rfl]
  exact h
theorem G_inBO {i j : Nat} (hij : Nat.beq j i = false) (h : Imq o A fun r => QP (Q r) (.exit j) s) : Imq o A fun r => QP (inBlockA i (Q r)) (.exit j) s := by
  refine q_mono (fun r h => ?_) h
  show (if j = i then _ else _)
  rw [if_neg (fun e => by subst e; rw [Nat.beq_refl] at hij; cases hij)]
  exact h
theorem G_retR (h : Imq o A fun r => K r s) : Imq o A fun r => QP (retQ (K r)) .ret s := h
theorem G_retN (h : Imq o A fun r => K r s) : Imq o A fun r => QP (retQ (K r)) .normal s := h

/-! ### Conditions, operations -/
theorem G_cond {a b : Option ρ} {k : Opd} {t : Bool} (ht : unw true (evE s.env k) = .val (.bool t)) (h1 : t = true → Imq a A fun r => WP P C B x (Q r) s) (h2 : t = false → Imq b A fun r => WP P C B y (Q r) s) :
    Imq (bif t then a else b) A fun r => WP P C B (.cond k x y) (Q r) s := by
  cases t with
  | true => exact q_mono (fun r h => WP_cond ht (fun _ => h) (fun e => by cases e)) (h1 rfl)
  | false => exact q_mono (fun r h => WP_cond ht (fun e => by cases e) (fun _ => h)) (h2 rfl)
/-- A condition that is known. -/
theorem G_condT {k : Opd} (ht : unw true (evE s.env k) = .val (.bool true)) (h1 : Imq o A fun r => WP P C B x (Q r) s) : Imq o A fun r => WP P C B (.cond k x y) (Q r) s :=
  q_mono (fun r h => WP_cond ht (fun _ => h) (fun e => by cases e)) h1
theorem G_condF {k : Opd} (ht : unw true (evE s.env k) = .val (.bool false)) (h1 : Imq o A fun r => WP P C B y (Q r) s) : Imq o A fun r => WP P C B (.cond k x y) (Q r) s :=
  q_mono (fun r h => WP_cond ht (fun e => by cases e) (fun _ => h)) h1

section
variable {d n : Nat} {op : AOp} {g : Option (Nat × Bool)} {l : List AIns} {e : List (Nat × AV)} {H H' : Hp}
theorem lt_of_ble (h : Nat.ble (d + 1) n = true) : d < n := Nat.le_of_ble_eq_true h
theorem G_op (id : Id) {v : AV} (h1 : semE C H (fun x => unw true (evE ⟨n, e⟩ x)) (fun t x => unw t (evE ⟨n, e⟩ x)) [] id op = some (v, H')) (hg : gv ⟨n, e⟩ g = some true) (hd : Nat.ble (d + 1) n = true)
    (h : Imq o A fun r => RP P C B l (K r) ⟨⟨n, (d, v) :: e⟩, H'⟩) : Imq o A fun r => RP P C B (⟨some d, op, g⟩ :: l) (K r) ⟨⟨n, e⟩, H⟩ := q_mono (fun _ => RP_op [] id hg (lt_of_ble hd) h1) h
theorem G_op0 (id : Id) {v : AV} (h1 : semE C H (fun x => unw true (evE ⟨n, e⟩ x)) (fun t x => unw t (evE ⟨n, e⟩ x)) [] id op = some (v, H')) (hg : gv ⟨n, e⟩ g = some true)
    (h : Imq o A fun r => RP P C B l (K r) ⟨⟨n, e⟩, H'⟩) : Imq o A fun r => RP P C B (⟨none, op, g⟩ :: l) (K r) ⟨⟨n, e⟩, H⟩ := q_mono (fun _ => RP_op0 [] id hg h1) h
theorem G_off (hg : gv ⟨n, e⟩ g = some false) (hd : Nat.ble (d + 1) n = true) (h : Imq o A fun r => RP P C B l (K r) ⟨⟨n, (d, .val (.tup [])) :: e⟩, H⟩) : Imq o A fun r => RP P C B (⟨some d, op, g⟩ :: l) (K r) ⟨⟨n, e⟩, H⟩ := q_mono (fun _ => RP_skip hg (lt_of_ble hd)) h
theorem G_off0 (hg : gv ⟨n, e⟩ g = some false) (h : Imq o A fun r => RP P C B l (K r) ⟨⟨n, e⟩, H⟩) : Imq o A fun r => RP P C B (⟨none, op, g⟩ :: l) (K r) ⟨⟨n, e⟩, H⟩ := q_mono (fun _ => RP_skip0 hg) h

/-- A temporary that has a truth value, once that is known. -/
theorem Sub_lit {b v : Bool} {t : Nat} (hl : look e t = .val (.bool b)) (hb : b = v) : Sub B ⟨⟨n, e⟩, H⟩ ⟨⟨n, (t, .val (.bool v)) :: e⟩, H⟩ := by
  subst hb
  intro J F w a hE hH
  refine ⟨J, F, ⟨hE.1, fun j u h1 => ?_, fun j hj => ?_⟩, hH, Ext0.refl _ _ _⟩
  · have := hE.2.1 j u h1
    simp only [look]
    split
    · rename_i hj
      subst hj
      rwa [hl] at this
    · exact this
  · have := hE.2.2 j hj
    simp only [look]
    split
    · rename_i hj
      subst hj
      simp only at this
      rw [hl] at this
      cases this
    · exact this
end

/-! ### What may be forgotten -/

/-- Another word for what a value is. -/
inductive Wk : AV → AV → Prop
  | refl (x : AV) : Wk x x
  | norm (d d' : DV) (h : d.norm = d') : Wk (.val d) (.val d')
  | agg (l : List AV) (ds : List DV) (h : datas l = some ds) : Wk (.agg l) (.val (.agg ds))
  | aggN (l : List AV) (ds ds' : List DV) (h : datas l = some ds) (h' : ds.map DV.norm1 = ds') : Wk (.agg l) (.val (.agg ds'))
  | junk (x : AV) : Wk x .junk

theorem Wk.rel {J : Id → JI} {F : Nat → Prop} {w : World} {x y : AV} {v : Value} (h : Wk x y) (hv : VRel J F w x v) : VRel J F w y v := by
  have agg : ∀ {l : List AV} {ds : List DV}, datas l = some ds → VRel J F w (.agg l) v → Rep F w (.agg ds) v := by
    intro l ds hd hv
    cases hv with
    | agg _ vs hl hr =>
      have := datas_rel hd ⟨hl, hr⟩
      exact .agg ds vs this.1 this.2
  cases h with
  | refl => exact hv
  | norm d d' h => subst h; exact .val _ _ hv.inv_val.norm
  | agg l ds h => exact .val _ _ (agg h hv)
  | aggN l ds ds' h h' => subst h'; exact .val _ _ (agg h hv).norm
  | junk => exact .junk v

def HasW (l : List (Nat × AV)) : List (Nat × AV) → Prop
  | [] => True
  | (t, x) :: m => Wk (look l t) x ∧ HasW l m

theorem Sub_env {n : Nat} {l m : List (Nat × AV)} {H : Hp} (h : HasW l m) : Sub B ⟨⟨n, l⟩, H⟩ ⟨⟨n, m⟩, H⟩ := by
  intro J F w a hE hH
  have key : ∀ t, Wk (look l t) (look m t) := by
    intro t
    induction m with
    | nil => exact .junk _
    | cons p m ih =>
      obtain ⟨u, x⟩ := p
      simp only [look]
      split
      · rename_i e
        subst e
        exact h.1
      · exact ih h.2
  refine ⟨J, F, ⟨hE.1, fun t v h1 => (key t).rel (hE.2.1 t v h1), fun t ht => ?_⟩, hH, Ext0.refl _ _ _⟩
  have h1 := key t
  have h2 := hE.2.2 t ht
  simp only at h2 ⊢
  rw [h2] at h1
  generalize look m t = z at h1
  cases h1 <;> rfl

end
end Go.AI

namespace Go.AI

/-- A slice of nothing is the same, however large its elements would be. -/
def z1 : DV → DV
  | .sl _ [] => .sl 0 []
  | d => d

theorem z1_sl {s : Nat} {l m : List (List DV)} (h : z1 (.sl s l) = z1 (.sl s m)) : l = m := by
  cases l with
  | nil => cases m with
    | nil => rfl
    | cons => simp [z1] at h
  | cons => cases m with
    | nil => simp [z1] at h
    | cons => simpa [z1] using h

theorem z1_rep {F : Nat → Prop} {w : World} {d d' : DV} {v : Value} (h : z1 d = z1 d') (hr : Rep F w d v) : Rep F w d' v := by
  have nil : ∀ {s s' : Nat}, Rep F w (.sl s []) v → Rep F w (.sl s' []) v := by
    intro s s' h
    cases h with
    | sl0 _ a c => exact .sl0 s' a c
    | sl _ _ g o c vals => exact .sl0 s' _ c
  unfold z1 at h
  split at h
  · split at h
    · exact nil hr
    · rename_i hd
      cases d' <;> first | (cases h; done) | skip
      rename_i s' l'
      simp only [DV.sl.injEq] at h
      obtain ⟨rfl, rfl⟩ := h
      exact nil hr
  · split at h
    · subst h
      exact nil hr
    · subst h; exact hr

open Classical in
/-- A contract over data of a kind. -/
noncomputable def specT {α β : Type} (ea : α → List DV) (eb : β → DV) (g : α → Option β) : List DV → Option DV := fun ds =>
  if h : ∃ a, (ea a).map z1 = ds.map z1 then (g (Classical.choose h)).map eb else none

theorem specT_at {α β : Type} {ea : α → List DV} {eb : β → DV} {g : α → Option β} (inj : ∀ a b, (ea a).map z1 = (ea b).map z1 → a = b) (a : α) {ds : List DV} (hd : ds.map z1 = (ea a).map z1) : specT ea eb g ds = (g a).map eb := by
  have h : ∃ b, (ea b).map z1 = ds.map z1 := ⟨a, hd.symm⟩
  unfold specT
  rw [dif_pos h, inj _ _ ((Classical.choose_spec h).trans hd)]

section
variable {P : Program} {J J0 : Id → JI} {F F0 : Nat → Prop} {w w0 : World} {H : Hp} {a : Act} {C : FuncId → Con} {B : Id → Prop}

theorem calls_ofW (hC : ConOk P C) {f : FuncId} {af : AFn} (hf : compF P f = some af) {avs : List AV} {vs : List Value} (hH : HRel J F w H) (hv : vs.length = avs.length ∧ ∀ (j : Nat) y v, avs[j]? = some y → vs[j]? = some v → VRel J F w y v)
    {K : St → Prop} (h : WP P C B af.code (retQ K) ⟨env0 avs af.ntmps, H⟩) {R : Ending → World → Prop}
    (hR : ∀ (s : St) (a' : Act) (w' : World) (J' : Id → JI) (F' : Nat → Prop), ERel J' F' w' s.env a'.tmps → HRel J' F' w' s.H → Ext0 B J F w J' F' w' → K s → ∃ x, outA s af.res = some x ∧ ∀ v, VRel J' F' w' x v → R (.returned v) w') : Calls P f vs.toArray w R := by
  obtain ⟨fn, c, h1, h2, h3, h4, h5, _⟩ := compF_inv hf
  refine calls_of_wp h1 h2 ?_
  rw [h5]
  refine h hC c h3 J F w [] _ w _ ⟨J, F, env0_rel hv af.ntmps, hH, Ext0.refl _ _ _, rfl⟩ ?_
  rintro e s a' w' ⟨J', F', hE', hH', hX', hd'⟩ hq
  have done : K s → Act.defers a' = [] ∧ ∃ v, (results fn (Act.tmps a')).run P w' = .ok v w' ∧ R (.returned v) w' := by
    intro hk
    obtain ⟨x, hx, hr⟩ := hR s a' w' J' F' hE' hH' hX' hk
    obtain ⟨v, hv1, hv2⟩ := outA_run hE' hH' h4 hx
    exact ⟨hd', v, hv1, hr v hv2⟩
  cases e <;> first | exact done hq | exact hq.elim

/-- **A function that answers data of data.** -/
theorem val_ofW (hC : ConOk P C) {f : FuncId} {af : AFn} (hf : compF P f = some af) {spec : List DV → Option DV}
    (h : ∀ ds r, spec ds = some r → WP P C (fun _ => False) af.code (retQ fun s => outV s af.res = some r) ⟨env0 (ds.map .val) af.ntmps, mkH []⟩) : ValOk P f spec := by
  obtain ⟨fn, c, _, _, _, _, _, hent⟩ := compF_inv hf
  refine ⟨hent, fun ds r hr F w vs hrep hF => ?_⟩
  refine calls_ofW hC hf (J := fun _ => .none) (nothing F w hF) (avs := ds.map .val) ⟨by simp [hrep.1], fun j y v h1 h2 => ?_⟩ (h ds r hr) ?_
  · simp only [List.getElem?_map, Option.map_eq_some_iff] at h1
    obtain ⟨d, h1, rfl⟩ := h1
    exact .val _ _ (hrep.2 j d v h1 h2)
  · intro s a' w' J' F' hE' hH' hX' hk
    unfold outV at hk
    simp only [Option.bind_eq_some_iff] at hk
    obtain ⟨x, hx, hd⟩ := hk
    refine ⟨x, hx, fun v hv => ?_⟩
    have hnew : ∀ g, F' g ∨ Own J' g → F g ∨ w.heap.size ≤ g := by
      rintro g (h1 | h1)
      · rcases hX'.fnew g h1 with h2 | ⟨_, _, _, h2⟩ | h2
        · exact .inl h2
        · cases h2
        · exact .inr h2
      · rcases hX'.onew g h1 with ⟨_, _, _, h2⟩ | h2
        · cases h2
        · exact .inr h2
    have hsz : ∀ g, F' g ∨ Own J' g → g < w'.heap.size := by
      rintro g (h1 | ⟨_, _, _, h1⟩)
      · exact hH'.fsz g h1
      · exact hH'.live _ _ _ _ _ h1
    have hrel : Rep (fun g => F' g ∨ Own J' g) w' r v := by
      have widen : ∀ ids g, With J' F' ids g → F' g ∨ Own J' g := fun ids g h => h.imp (fun h => h) (fun ⟨i, _, s, c, h⟩ => ⟨i, s, c, h⟩)
      unfold outD at hd
      split at hd
      · rename_i l
        simp only [Option.map_eq_some_iff] at hd
        obtain ⟨⟨ds', ids⟩, hds, rfl⟩ := hd
        obtain ⟨hl, hr⟩ := (argD_rel hH' 99).2 _ _ _ hds
        cases hv with
        | tup _ us hul hur =>
          refine .tup _ _ (by rw [hul, hl]) (fun j d u q1 q2 => ?_)
          have hj : j < l.length := by rw [← hl]; exact (List.getElem?_eq_some_iff.1 q1).1
          exact (hr j _ d u (List.getElem?_eq_getElem hj) q1 (hur j _ u (List.getElem?_eq_getElem hj) q2)).mono (widen ids) (fun _ _ => rfl)
      · simp only [Option.map_eq_some_iff] at hd
        obtain ⟨⟨d, ids⟩, hds, rfl⟩ := hd
        exact ((argD_rel hH' 99).1 _ _ _ v hds hv).mono (widen ids) (fun _ _ => rfl)
    exact ⟨v, _, rfl, hrel, hnew, hsz, ⟨fun g hg => hX'.heap g hg (by rintro ⟨_, _, _, h⟩; cases h), hX'.size, hX'.os, hX'.tape, hX'.output⟩⟩

open Classical in
noncomputable def specE {α β : Type} (ea : α → List DV) (eb : β → DV) (g : α → Option β) : List DV → Option DV := fun ds =>
  if h : ∃ a, ea a = ds then (g (Classical.choose h)).map eb else none

/-- **A function of data with a kind.** -/
theorem valT_of (hC : ConOk P C) {f : FuncId} {af : AFn} (hf : compF P f = some af) {α β : Type} (ea : α → List DV) (eb : β → DV) (g : α → Option β) (inj : ∀ a b, (ea a).map z1 = (ea b).map z1 → a = b)
    (h : ∀ a, Imq (g a) (fun _ => True) fun r => WP P C (fun _ => False) af.code (retQ fun s => outV s af.res = some (eb r)) ⟨env0 ((ea a).map .val) af.ntmps, mkH []⟩) : ValOk P f (specT ea eb g) := by
  have key : ValOk P f (specE ea eb g) := by
    refine val_ofW hC hf fun ds r hr => ?_
    unfold specE at hr
    split at hr
    · rename_i hd
      obtain ⟨b, hb, rfl⟩ := Option.map_eq_some_iff.1 hr
      have := h _ b hb trivial
      rwa [(Classical.choose_spec hd)] at this
    · cases hr
  refine ⟨key.1, fun ds r hr F w vs hrep hF => ?_⟩
  unfold specT at hr
  split at hr
  · rename_i hd
    have hc := Classical.choose_spec hd
    refine key.2 (ea (Classical.choose hd)) r ?_ F w vs ⟨?_, fun j d v h1 h2 => ?_⟩ hF
    · unfold specE
      have h2 : ∃ b, ea b = ea (Classical.choose hd) := ⟨_, rfl⟩
      rw [dif_pos h2]
      rwa [inj _ _ (congrArg (List.map z1) (Classical.choose_spec h2))]
    · rw [hrep.1]
      have := congrArg List.length hc
      simpa using this.symm
    · have hl := congrArg (fun l => l[j]?) hc
      simp only [List.getElem?_map, h1, Option.map_some] at hl
      cases hq : ds[j]? with
      | none => rw [hq] at hl; cases hl
      | some d' =>
        rw [hq] at hl
        simp only [Option.map_some, Option.some.injEq] at hl
        exact z1_rep hl.symm (hrep.2 j d' v hq h2)
  · cases hr
end

/-! ### Operations -/
end Go.AI
