/- What an operation looks at. -/
import Derived.Test.YtpolaeonmmolnaaAIw
namespace Go.AI
set_option linter.unusedVariables false
set_option linter.unusedSimpArgs false

def optL : Option Opd → List Opd
  | some x => [x]
  | none => []

def opdsP : POp → List Opd
  | .mv x => [x]
  | .pick c a b => [c, a, b]
  | .bin _ x y => [x, y]
  | .eqs _ _ x y => [x, y]
  | .eqb _ x y => [x, y]
  | .eqn _ x => [x]
  | .un _ x => [x]
  | .conv _ x => [x]
  | .build _ ps => ps.map fun p => p.2.2
  | .field _ _ _ x => [x]
  | .idxS x i => [x, i]
  | .idxA _ _ _ x i => [x, i]
  | .slS x lo hi => x :: (optL lo ++ optL hi)
  | .foff _ x => [x]
  | .aoff _ _ x i => [x, i]
  | .soff _ x i => [x, i]
  | .slice _ x lo hi mx => x :: (optL lo ++ (optL hi ++ optL mx))
  | .chk x => [x]
  | .ext x _ => [x]
  | .len x => [x]
  | .lenS x => [x]
  | .lenc _ => []
  | .mnx _ x l => x :: l
  | .mkf _ l => l

def opdsR : ROp → List Opd
  | .load _ _ x => [x]
  | .b2s x => [x]
  | .s2b x => [x]
  | .call _ l => l
  | .callv x l => x :: l

def opdsA : AlOp → List Opd
  | .alloc _ => []
  | .bx x => [x]
  | .bsl _ _ _ ps => ps.map fun p => p.2
  | .mks _ _ _ l c => [l, c]

def opdsW : WOp → List Opd
  | .store _ x v => [x, v]
  | .app _ _ _ x y => [x, y]
  | .cpy _ x y => [x, y]
  | .s2s x => [x]

def opds : AOp → List Opd
  | .p o => opdsP o
  | .r o => opdsR o
  | .a o => opdsA o
  | .w o => opdsW o

section
variable {ρ ρ' : Opd → AV} {ρp ρp' : Bool → Opd → AV}

theorem map_same {l : List Opd} (h : ∀ x ∈ l, ρ x = ρ' x) : l.map ρ = l.map ρ' := List.map_congr_left h

theorem parts_same : ∀ (ps : List (Nat × Nat × Opd)) (cs : List AV), (∀ x ∈ ps.map (fun p => p.2.2), ρ x = ρ' x) → parts ρ cs ps = parts ρ' cs ps
  | [], _, _ => rfl
  | (o, n, x) :: l, cs, h => by
    simp only [parts]
    rw [h x (by simp)]
    split
    · split
      · exact parts_same l _ (fun y hy => h y (by simp at hy ⊢; exact .inr hy))
      · rfl
    · rfl

theorem optNum_same {d : Int} {x : Option Opd} (h : ∀ y ∈ optL x, ρ y = ρ' y) : optNum ρ d x = optNum ρ' d x := by
  cases x with
  | none => rfl
  | some y => simp only [optNum]; rw [h y (by simp [optL])]

theorem bounds_same {n : Nat} {lo hi mx : Option Opd} (h1 : ∀ y ∈ optL lo, ρ y = ρ' y) (h2 : ∀ y ∈ optL hi, ρ y = ρ' y) (h3 : ∀ y ∈ optL mx, ρ y = ρ' y) : bounds n ρ lo hi mx = bounds n ρ' lo hi mx := by
  unfold bounds
  rw [optNum_same h1, optNum_same h2, optNum_same h3]

theorem semP_same (o : POp) (h : ∀ x ∈ opdsP o, ρ x = ρ' x) (hp : ∀ t, ∀ x ∈ opdsP o, ρp t x = ρp' t x) : semP ρ ρp o = semP ρ' ρp' o := by
  cases o with
  | pick c a b =>
    simp only [semP]
    rw [h c (by simp [opdsP])]
    split
    · rename_i t _
      rw [hp t a (by simp [opdsP]), hp (!t) b (by simp [opdsP])]
    · rfl
  | build z ps => simp only [semP]; rw [parts_same ps _ h]
  | slS x lo hi =>
    simp only [semP]
    rw [h x (by simp [opdsP])]
    split
    · rw [bounds_same (ρ := ρ) (ρ' := ρ') (fun y hy => h y (by simp [opdsP, hy])) (fun y hy => h y (by simp [opdsP, hy])) (by simp [optL])]
    · rfl
  | slice s x lo hi mx =>
    have hb : ∀ n, bounds n ρ lo hi mx = bounds n ρ' lo hi mx := fun n => bounds_same (fun y hy => h y (by simp [opdsP, hy])) (fun y hy => h y (by simp [opdsP, hy])) (fun y hy => h y (by simp [opdsP, hy]))
    have hb' : ∀ n, bounds n ρ lo hi none = bounds n ρ' lo hi none := fun n => bounds_same (fun y hy => h y (by simp [opdsP, hy])) (fun y hy => h y (by simp [opdsP, hy])) (by simp [optL])
    simp only [semP]
    rw [h x (by simp [opdsP])]
    simp only [hb, hb']
  | mnx g x l =>
    simp only [semP]
    rw [h x (by simp [opdsP]), map_same (ρ := ρ) (ρ' := ρ') (fun y hy => h y (by simp [opdsP, hy]))]
  | mkf f l => simp only [semP]; rw [map_same (l := l) h]
  | lenc n => rfl
  | mv x => simp only [semP]; rw [h x (by simp [opdsP])]
  | un op x => simp only [semP]; rw [h x (by simp [opdsP])]
  | eqn n x => simp only [semP]; rw [h x (by simp [opdsP])]
  | conv k x => simp only [semP]; rw [h x (by simp [opdsP])]
  | field o n a x => simp only [semP]; rw [h x (by simp [opdsP])]
  | foff o x => simp only [semP]; rw [h x (by simp [opdsP])]
  | chk x => simp only [semP]; rw [h x (by simp [opdsP])]
  | ext x i => simp only [semP]; rw [h x (by simp [opdsP])]
  | len x => simp only [semP]; rw [h x (by simp [opdsP])]
  | lenS x => simp only [semP]; rw [h x (by simp [opdsP])]
  | bin op x y => simp only [semP]; rw [h x (by simp [opdsP]), h y (by simp [opdsP])]
  | eqs k n x y => simp only [semP]; rw [h x (by simp [opdsP]), h y (by simp [opdsP])]
  | eqb n x y => simp only [semP]; rw [h x (by simp [opdsP]), h y (by simp [opdsP])]
  | idxS x y => simp only [semP]; rw [h x (by simp [opdsP]), h y (by simp [opdsP])]
  | idxA l s a x y => simp only [semP]; rw [h x (by simp [opdsP]), h y (by simp [opdsP])]
  | aoff l s x y => simp only [semP]; rw [h x (by simp [opdsP]), h y (by simp [opdsP])]
  | soff s x y => simp only [semP]; rw [h x (by simp [opdsP]), h y (by simp [opdsP])]

theorem sets_same {H : Hp} {s : Nat} : ∀ (ps : List (Nat × Opd)) (es : List (List DV)), (∀ x ∈ ps.map (fun p => p.2), ρ x = ρ' x) → setParts H ρ s es ps = setParts H ρ' s es ps
  | [], _, _ => rfl
  | (i, x) :: l, es, h => by
    have ih := fun es => sets_same (H := H) (s := s) l es (fun y hy => h y (by simp at hy ⊢; exact .inr hy))
    simp only [setParts]
    rw [h x (by simp)]
    simp only [ih]

theorem semE_same {C : FuncId → Con} {H : Hp} {ns id : Id} (o : AOp) (h : ∀ x ∈ opds o, ρ x = ρ' x) (hp : ∀ t, ∀ x ∈ opds o, ρp t x = ρp' t x) : semE C H ρ ρp ns id o = semE C H ρ' ρp' ns id o := by
  cases o with
  | p o => simp only [semE]; rw [semP_same o h hp]
  | r o =>
    cases o with
    | load n a x => simp only [semE, semR]; rw [h x (by simp [opds, opdsR])]
    | b2s x => simp only [semE, semR]; rw [h x (by simp [opds, opdsR])]
    | s2b x => simp only [semE, semR]; rw [h x (by simp [opds, opdsR])]
    | call f l => simp only [semE]; rw [map_same (l := l) h]
    | callv x l => simp only [semE]; rw [h x (by simp [opds, opdsR]), map_same (l := l) (fun y hy => h y (by simp [opds, opdsR, hy]))]
  | a o =>
    cases o with
    | alloc z => rfl
    | bx x => simp only [semE, semA]; rw [h x (by simp [opds, opdsA])]
    | bsl s n z ps => simp only [semE, semA]; rw [sets_same (ρ := ρ) (ρ' := ρ') ps _ h]
    | mks s b z l c => simp only [semE, semA]; rw [h l (by simp [opds, opdsA]), h c (by simp [opds, opdsA])]
  | w o =>
    cases o with
    | store n x v => simp only [semE, semW]; rw [h x (by simp [opds, opdsW]), h v (by simp [opds, opdsW])]
    | app s b st x y => simp only [semE, semW]; rw [h x (by simp [opds, opdsW]), h y (by simp [opds, opdsW])]
    | cpy s x y => rfl
    | s2s x => simp only [semE, semW]; rw [h x (by simp [opds, opdsW])]

end

/-- What temporaries an operation looks at. -/
def readsI (i : AIns) : List Nat := (opds i.op).filterMap (fun | .t n => some n | .c _ => none) ++ (match i.guard with | some (t, _) => [t] | none => [])

theorem eff_same {C : FuncId → Con} {ns : Id} {s s' : St} {i : AIns} (hH : s.H = s'.H) (h : ∀ t ∈ readsI i, look s.env.l t = look s'.env.l t) : eff C ns s i = eff C ns s' i := by
  have hg : gv s.env i.guard = gv s'.env i.guard := by
    cases hq : i.guard with
    | none => rfl
    | some p =>
      obtain ⟨t, b⟩ := p
      simp only [gv]
      rw [h t (by simp [readsI, hq])]
  have ho : ∀ x ∈ opds i.op, evE s.env x = evE s'.env x := by
    intro x hx
    cases x with
    | t n => exact h n (by simp only [readsI, List.mem_append, List.mem_filterMap]; exact .inl ⟨.t n, hx, rfl⟩)
    | c d => rfl
  unfold eff
  rw [hg]
  split
  · rename_i g _
    unfold effG
    rw [hH]
    rw [semE_same (ρ := fun x => unw g (evE s.env x)) (ρ' := fun x => unw g (evE s'.env x)) (ρp := fun t x => unw (g && t) (evE s.env x)) (ρp' := fun t x => unw (g && t) (evE s'.env x)) i.op (fun x hx => by simp only [ho x hx]) (fun t x hx => by simp only [ho x hx]),
      semE_same (ρ := fun x => unw true (evE s.env x)) (ρ' := fun x => unw true (evE s'.env x)) (ρp := fun t x => unw t (evE s.env x)) (ρp' := fun t x => unw t (evE s'.env x)) i.op (fun x hx => by simp only [ho x hx]) (fun t x hx => by simp only [ho x hx])]
  · rfl

/-- Two states that say the same. -/
structure Eqv (s s' : St) : Prop where
  n : s.env.n = s'.env.n
  look : ∀ t, look s.env.l t = look s'.env.l t
  H : s.H = s'.H

theorem Eqv.refl (s : St) : Eqv s s := ⟨rfl, fun _ => rfl, rfl⟩
theorem Eqv.symm {s s' : St} (h : Eqv s s') : Eqv s' s := ⟨h.n.symm, fun t => (h.look t).symm, h.H.symm⟩
theorem Eqv.trans {s s' s'' : St} (h : Eqv s s') (h' : Eqv s' s'') : Eqv s s'' := ⟨h.n.trans h'.n, fun t => (h.look t).trans (h'.look t), h.H.trans h'.H⟩

theorem look_put (env : Env) (d : Option Nat) (x : AV) (t : Nat) : look (putE env d x).l t = if d = some t ∧ t < env.n then x else look env.l t := by
  cases d with
  | none => simp [putE]
  | some d =>
    simp only [putE]
    split
    · rename_i hd
      simp only [look]
      by_cases e : d = t
      · subst e; simp [hd]
      · simp [e]
    · rename_i hd
      rw [if_neg (by rintro ⟨h1, h2⟩; cases h1; exact hd h2)]

theorem n_put (env : Env) (d : Option Nat) (x : AV) : (putE env d x).n = env.n := by
  cases d with
  | none => rfl
  | some d => simp only [putE]; split <;> rfl

theorem Eqv.put {s s' : St} (h : Eqv s s') (d : Option Nat) (x : AV) (H : Hp) : Eqv ⟨putE s.env d x, H⟩ ⟨putE s'.env d x, H⟩ :=
  ⟨by rw [n_put, n_put]; exact h.n, fun t => by simp only [look_put, h.n, h.look t], rfl⟩

theorem Eqv.step {C : FuncId → Con} {ns : Id} {s s' t : St} {i : AIns} (h : Eqv s s') (hs : step C ns s i = some t) : ∃ t', step C ns s' i = some t' ∧ Eqv t t' := by
  have he' := eff_same (C := C) (ns := ns) (s := s) (s' := s') (i := i) h.H (fun t _ => h.look t)
  unfold AI.step at hs ⊢
  rw [← he']
  cases he : eff C ns s i with
  | none => rw [he] at hs; cases hs
  | some p =>
    obtain ⟨x, H⟩ := p
    rw [he] at hs
    simp only [Option.some.injEq] at hs
    subst hs
    exact ⟨_, rfl, h.put _ _ _⟩

theorem Eqv.run {C : FuncId → Con} {ns : Id} : ∀ {l : List AIns} {s s' t : St}, Eqv s s' → run C ns l s = some t → ∃ t', run C ns l s' = some t' ∧ Eqv t t'
  | [], s, s', t, h, hs => by
    simp only [AI.run, Option.some.injEq] at hs
    subst hs
    exact ⟨s', rfl, h⟩
  | i :: l, s, s', t, h, hs => by
    simp only [AI.run] at hs ⊢
    split at hs
    · rename_i s1 h1
      obtain ⟨s1', h2, h3⟩ := h.step h1
      rw [h2]
      exact Eqv.run h3 hs
    · cases hs

end Go.AI
