/- An abstract reading of Go code: part LC of the library. No condition. -/
import Derived.Test.YtganbdbpkoggmaaDoorLB
import Derived.Orders
import Derived.ChangeOld
import Derived.Carry
import Derived.OpenShut
import Derived.RowKit
import Derived.Laws.BitsAllLaws
import Derived.Laws.Runes
set_option linter.unusedVariables false
set_option linter.unusedSimpArgs false
namespace Go.AI
variable {tabI : Inhabited TabsD}
def qwO : Option Opd->List Opd
 | some x => [x]
 | none => []
def qh0 : POp->List Opd
 | .mv x => [x]
 | .pick c a b => [c, a, b]
 | .bin _ x y => [x, y]
 | .eqs _ _ x y => [x, y]
 | .eqb _ x y => [x, y]
 | .eqn _ x => [x]
 | .un _ x => [x]
 | .conv _ x => [x]
 | .build _ ps => ps.map fun p => p.2.2
 | .field _ _ _ x => [x]
 | .idxS x i => [x, i]
 | .idxA _ _ _ x i => [x, i]
 | .slS x lo hi => x :: (qwO lo ++ qwO hi)
 | .foff _ x => [x]
 | .aoff _ _ x i => [x, i]
 | .soff _ x i => [x, i]
 | .slice _ x lo hi mx => x :: (qwO lo ++ (qwO hi ++ qwO mx))
 | .chk x => [x]
 | .ext x _ => [x]
 | .len x => [x]
 | .lenS x => [x]
 | .lenc _ => []
 | .mnx _ x l => x :: l
 | .mkf _ l => l
 | .s2a _ x => [x]
def qiV : ROp->List Opd
 | .load _ _ x => [x]
 | .b2s x => [x]
 | .s2b x => [x]
 | .sla _ x lo hi => x :: (qwO lo ++ qwO hi)
 | .call _ l => l
 | .callv x l => x :: l
def opdsA : AlOp->List Opd
 | .alloc _ => []
 | .bx x => [x]
 | .bsl _ _ _ ps => ps.map fun p => p.2
 | .bsf _ _ _ ps => ps.map fun p => p.2
 | .mks _ _ _ l c => [l, c]
def qwP : WOp->List Opd
 | .store _ x v => [x, v]
 | .app _ _ _ x y => [x, y]
 | .clr _ _ x => [x]
 | .s2s x => [x]
def qgP : AOp->List Opd
 | .p o => qh0 o
 | .r o => qiV o
 | .a o => opdsA o
 | .w o => qwP o
section
variable {ρ ρ' : Opd->AV} {ρp ρp' : Bool->Opd->AV}
theorem qjF {l : List Opd} (h : ∀ x ∈ l, ρ x = ρ' x) : l.map ρ = l.map ρ' := List.map_congr_left h
theorem qoF : ∀ (ps : List (Nat × Nat × Opd)) (cs : List AV), (∀ x ∈ ps.map (fun p => p.2.2), ρ x = ρ' x)->parts ρ cs ps = parts ρ' cs ps
 | [], _, _ => rfl
 | (o, n, x) :: l, cs, h => by
  simp only [parts];rw [h x (by simp)];split
  ·split
   ·exact qoF l _ (fun y hy => h y (by simp at hy ⊢; exact .inr hy))
   ·rfl
  ·rfl
theorem qeC {d : Int} {x : Option Opd} (h : ∀ y ∈ qwO x, ρ y = ρ' y) : qo4 ρ d x = qo4 ρ' d x := by
 cases x with
 | none => rfl
 | some y => simp only [qo4]; rw [h y (by simp [qwO])]
theorem qaD {n : Nat} {lo hi mx : Option Opd} (h1 : ∀ y ∈ qwO lo, ρ y = ρ' y) (h2 : ∀ y ∈ qwO hi, ρ y = ρ' y) (h3 : ∀ y ∈ qwO mx, ρ y = ρ' y) : qm6 n ρ lo hi mx = qm6 n ρ' lo hi mx := by
 unfold qm6;rw [qeC h1, qeC h2, qeC h3]
theorem zn4 (o : POp) (h : ∀ x ∈ qh0 o, ρ x = ρ' x) (hp : ∀ t, ∀ x ∈ qh0 o, ρp t x = ρp' t x) : qe2 ρ ρp o = qe2 ρ' ρp' o := by
 cases o with
 | pick c a b =>
  simp only [qe2];rw [h c (by simp [qh0])];split
  ·rename_i t _
   rw [hp t a (by simp [qh0]), hp (!t) b (by simp [qh0])]
  ·rfl
 | build z ps => simp only [qe2]; rw [qoF ps _ h]
 | slS x lo hi =>
  simp only [qe2];rw [h x (by simp [qh0])];split
  ·rw [qaD (ρ := ρ) (ρ' := ρ') (fun y hy => h y (by simp [qh0, hy])) (fun y hy => h y (by simp [qh0, hy])) (by simp [qwO])]
  ·rfl
 | slice s x lo hi mx =>
  have hb : ∀ n, qm6 n ρ lo hi mx = qm6 n ρ' lo hi mx := fun n => qaD (fun y hy => h y (by simp [qh0, hy])) (fun y hy => h y (by simp [qh0, hy])) (fun y hy => h y (by simp [qh0, hy]))
  have hb' : ∀ n, qm6 n ρ lo hi none = qm6 n ρ' lo hi none := fun n => qaD (fun y hy => h y (by simp [qh0, hy])) (fun y hy => h y (by simp [qh0, hy])) (by simp [qwO])
  simp only [qe2];rw [h x (by simp [qh0])];simp only [hb, hb']
 | mnx g x l =>
  simp only [qe2];rw [h x (by simp [qh0]), qjF (ρ := ρ) (ρ' := ρ') (fun y hy => h y (by simp [qh0, hy]))]
 | mkf f l => simp only [qe2]; rw [qjF (l := l) h]
 | s2a n x => simp only [qe2]; rw [h x (by simp [qh0])]
 | lenc n => rfl
 | mv x => simp only [qe2]; rw [h x (by simp [qh0])]
 | un op x => simp only [qe2]; rw [h x (by simp [qh0])]
 | eqn n x => simp only [qe2]; rw [h x (by simp [qh0])]
 | conv k x => simp only [qe2]; rw [h x (by simp [qh0])]
 | field o n a x => simp only [qe2]; rw [h x (by simp [qh0])]
 | foff o x => simp only [qe2]; rw [h x (by simp [qh0])]
 | chk x => simp only [qe2]; rw [h x (by simp [qh0])]
 | ext x i => simp only [qe2]; rw [h x (by simp [qh0])]
 | len x => simp only [qe2]; rw [h x (by simp [qh0])]
 | lenS x => simp only [qe2]; rw [h x (by simp [qh0])]
 | bin op x y => simp only [qe2]; rw [h x (by simp [qh0]), h y (by simp [qh0])]
 | eqs k n x y => simp only [qe2]; rw [h x (by simp [qh0]), h y (by simp [qh0])]
 | eqb n x y => simp only [qe2]; rw [h x (by simp [qh0]), h y (by simp [qh0])]
 | idxS x y => simp only [qe2]; rw [h x (by simp [qh0]), h y (by simp [qh0])]
 | idxA l s a x y => simp only [qe2]; rw [h x (by simp [qh0]), h y (by simp [qh0])]
 | aoff l s x y => simp only [qe2]; rw [h x (by simp [qh0]), h y (by simp [qh0])]
 | soff s x y => simp only [qe2]; rw [h x (by simp [qh0]), h y (by simp [qh0])]
theorem qsV {H : Hp} {s : Nat} : ∀ (ps : List (Nat × Opd)) (es : List (List DV)), (∀ x ∈ ps.map (fun p => p.2), ρ x = ρ' x)->ql9 H ρ s es ps = ql9 H ρ' s es ps
 | [], _, _ => rfl
 | (i, x) :: l, es, h => by
  have ih := fun es => qsV (H := H) (s := s) l es (fun y hy => h y (by simp at hy ⊢; exact .inr hy))
  simp only [ql9];rw [h x (by simp)];simp only [ih]
theorem qoG {s : Nat} : ∀ (ps : List (Nat × Opd)) (es : List (List AV)), (∀ x ∈ ps.map (fun p => p.2), ρ x = ρ' x)->qm9 ρ s es ps = qm9 ρ' s es ps
 | [], _, _ => rfl
 | (i, x) :: l, es, h => by
  have ih := fun es => qoG (s := s) l es (fun y hy => h y (by simp at hy ⊢; exact .inr hy))
  simp only [qm9];rw [h x (by simp)];simp only [ih]
theorem qsW {C : FuncId->Con} {H : Hp} {ns id : Id} (o : AOp) (h : ∀ x ∈ qgP o, ρ x = ρ' x) (hp : ∀ t, ∀ x ∈ qgP o, ρp t x = ρp' t x) : qe7 C H ρ ρp ns id o = qe7 C H ρ' ρp' ns id o := by
 cases o with
 | p o => simp only [qe7]; rw [zn4 o h hp]
 | r o =>
  cases o with
  | load n a x => simp only [qe7, qiU]; rw [h x (by simp [qgP, qiV])]
  | b2s x => simp only [qe7, qiU]; rw [h x (by simp [qgP, qiV])]
  | s2b x => simp only [qe7, qiU]; rw [h x (by simp [qgP, qiV])]
  | sla n x lo hi =>
   simp only [qe7, qiU];rw [h x (by simp [qgP, qiV]), qaD (ρ := ρ) (ρ' := ρ') (fun y hy => h y (by simp [qgP, qiV, hy])) (fun y hy => h y (by simp [qgP, qiV, hy])) (by simp [qwO])]
  | call f l => simp only [qe7]; rw [qjF (l := l) h]
  | callv x l => simp only [qe7]; rw [h x (by simp [qgP, qiV]), qjF (l := l) (fun y hy => h y (by simp [qgP, qiV, hy]))]
 | a o =>
  cases o with
  | alloc z => rfl
  | bx x => simp only [qe7, qfF]; rw [h x (by simp [qgP, opdsA])]
  | bsl s n z ps => simp only [qe7, qfF]; rw [qsV (ρ := ρ) (ρ' := ρ') ps _ h]
  | bsf s n z ps => simp only [qe7, qfF]; rw [qoG (ρ := ρ) (ρ' := ρ') ps _ h]
  | mks s b z l c => simp only [qe7, qfF]; rw [h l (by simp [qgP, opdsA]), h c (by simp [qgP, opdsA])]
 | w o =>
  cases o with
  | store n x v => simp only [qe7, qdE]; rw [h x (by simp [qgP, qwP]), h v (by simp [qgP, qwP])]
  | app s b st x y => simp only [qe7, qdE]; rw [h x (by simp [qgP, qwP]), h y (by simp [qgP, qwP])]
  | clr s z x => simp only [qe7, qdE]; rw [h x (by simp [qgP, qwP])]
  | s2s x => simp only [qe7, qdE]; rw [h x (by simp [qgP, qwP])]
end
def qj4 (i : AIns) : List Nat := (qgP i.op).filterMap (fun | .t n => some n | .c _ => none) ++ (match i.guard with | some (t, _) => [t] | none => [])
theorem qzC {C : FuncId->Con} {ns : Id} {s s' : St} {i : AIns} (hH : s.H = s'.H) (h : ∀ t ∈ qj4 i, look s.env.l t = look s'.env.l t) : eff C ns s i = eff C ns s' i := by
 have hg : gv s.env i.guard = gv s'.env i.guard := by
  cases hq : i.guard with
  | none => rfl
  | some p =>
   obtain ⟨t, b⟩ := p;simp only [gv];rw [h t (by simp [qj4, hq])]
 have ho : ∀ x ∈ qgP i.op, evE s.env x = evE s'.env x := by
  intro x hx;cases x with
  | t n => exact h n (by simp only [qj4, List.mem_append, List.mem_filterMap]; exact .inl ⟨.t n, hx, rfl⟩)
  | c d => rfl
 unfold eff;rw [hg];split
 ·rename_i g _
  unfold qv7;rw [hH]
  rw [qsW (ρ := fun x => unw g (evE s.env x)) (ρ' := fun x => unw g (evE s'.env x)) (ρp := fun t x => unw (g && t) (evE s.env x)) (ρp' := fun t x => unw (g && t) (evE s'.env x)) i.op (fun x hx => by simp only [ho x hx]) (fun t x hx => by simp only [ho x hx]),
   qsW (ρ := fun x => unw true (evE s.env x)) (ρ' := fun x => unw true (evE s'.env x)) (ρp := fun t x => unw t (evE s.env x)) (ρp' := fun t x => unw t (evE s'.env x)) i.op (fun x hx => by simp only [ho x hx]) (fun t x hx => by simp only [ho x hx])]
 ·rfl
structure Eqv (s s' : St) : Prop where
 n : s.env.n = s'.env.n
 look : ∀ t, look s.env.l t = look s'.env.l t
 H : s.H = s'.H
theorem Eqv.refl (s : St) : Eqv s s := ⟨rfl, fun _ => rfl, rfl⟩
theorem Eqv.symm {s s' : St} (h : Eqv s s') : Eqv s' s := ⟨h.n.symm, fun t => (h.look t).symm, h.H.symm⟩
theorem Eqv.trans {s s' s'' : St} (h : Eqv s s') (h' : Eqv s' s'') : Eqv s s'' := ⟨h.n.trans h'.n, fun t => (h.look t).trans (h'.look t), h.H.trans h'.H⟩
theorem qt2 (env : Env) (d : Option Nat) (x : AV) (t : Nat) : look (qw9 env d x).l t = if d = some t/\t < env.n then x else look env.l t := by
 cases d with
 | none => simp [qw9]
 | some d =>
  simp only [qw9];split
  ·rename_i hd
   simp only [look];by_cases e : d = t
   ·subst e; simp [hd]
   ·simp [e]
  ·rename_i hd
   rw [if_neg (by rintro ⟨h1, h2⟩; cases h1; exact hd h2)]
theorem zn5 (env : Env) (d : Option Nat) (x : AV) : (qw9 env d x).n = env.n := by
 cases d with
 | none => rfl
 | some d => simp only [qw9]; split <;> rfl
theorem Eqv.put {s s' : St} (h : Eqv s s') (d : Option Nat) (x : AV) (H : Hp) : Eqv ⟨qw9 s.env d x, H⟩ ⟨qw9 s'.env d x, H⟩ :=
 ⟨by rw [zn5, zn5]; exact h.n, fun t => by simp only [qt2, h.n, h.look t], rfl⟩
theorem Eqv.step {C : FuncId->Con} {ns : Id} {s s' t : St} {i : AIns} (h : Eqv s s') (hs : step C ns s i = some t) : ∃ t', step C ns s' i = some t'/\Eqv t t' := by
 have he' := qzC (C := C) (ns := ns) (s := s) (s' := s') (i := i) h.H (fun t _ => h.look t);unfold AI.step at hs ⊢;rw [← he'];cases he : eff C ns s i with
 | none => rw [he] at hs; cases hs
 | some p =>
  obtain ⟨x, H⟩ := p;rw [he] at hs;simp only [Option.some.injEq] at hs;subst hs;exact ⟨_, rfl, h.put _ _ _⟩
theorem Eqv.run {C : FuncId->Con} {ns : Id} : ∀ {l : List AIns} {s s' t : St}, Eqv s s'->run C ns l s = some t->∃ t', run C ns l s' = some t'/\Eqv t t'
 | [], s, s', t, h, hs => by
  simp only [AI.run, Option.some.injEq] at hs;subst hs;exact ⟨s', rfl, h⟩
 | i :: l, s, s', t, h, hs => by
  simp only [AI.run] at hs ⊢;split at hs
  ·rename_i s1 h1
   obtain ⟨s1', h2, h3⟩ := h.step h1;rw [h2];exact Eqv.run h3 hs
  ·cases hs
def Le (H H' : Hp) : Prop := ∀ id b, H id = some b->H' id = some b
theorem qqH {H H' : Hp} (h : Le H H') : ∀ (k : Nat), (∀ x r, qz9 H k x = some r->qz9 H' k x = some r)/\(∀ l r, qf5 H k l = some r->qf5 H' k l = some r)
 | 0 => ⟨fun _ _ h => by simp [qz9] at h, fun _ _ h => by simp [qf5] at h⟩
 | k + 1 => by
  obtain ⟨ih1, ih2⟩ := qqH h k;constructor
  ·intro x r hr
   cases x <;> simp only [qz9, reduceCtorEq] at hr ⊢ <;> try exact hr
   case row id s o n =>
    cases hq : H id with
    | none => rw [hq] at hr; cases hr
    | some c => rw [h _ _ hq]; rw [hq] at hr; exact hr
   case box id o =>
    split at hr
    ·rename_i hb
     rw [h _ _ hb];simp only [Option.map_eq_some_iff] at hr ⊢;obtain ⟨a, ha, hr⟩ := hr;exact ⟨a, ih2 _ _ ha, hr⟩
    ·rename_i hb; rw [h _ _ hb]; exact hr
    ·cases hr
   case elt id i o =>
    split at hr
    ·rename_i hb; rw [h _ _ hb]; exact hr
    ·rename_i hb; rw [h _ _ hb]; exact hr
    ·cases hr
   case agg l =>
    simp only [Option.map_eq_some_iff] at hr ⊢;obtain ⟨a, ha, hr⟩ := hr;exact ⟨a, ih2 _ _ ha, hr⟩
   case clo f l =>
    simp only [Option.map_eq_some_iff] at hr ⊢;obtain ⟨a, ha, hr⟩ := hr;exact ⟨a, ih2 _ _ ha, hr⟩
  ·intro l r hr
   cases l with
   | nil => exact hr
   | cons x l =>
    simp only [qf5] at hr ⊢;split at hr
    ·rename_i h1 h2
     rw [ih1 _ _ h1, ih2 _ _ h2];exact hr
    ·cases hr
theorem elems_le {H H' : Hp} (h : Le H H') {s : Nat} {x : AV} {r : List (List DV)} (hr : elems H s x = some r) : elems H' s x = some r := by
 unfold elems at hr ⊢;split at hr <;> try exact hr
 split at hr
 ·rename_i hs
  rw [if_pos hs];split at hr
  ·rename_i hb; rw [h _ _ hb]; exact hr
  ·rename_i hb; rw [h _ _ hb]; exact hr
  ·cases hr
 ·cases hr
theorem loadA_le {H H' : Hp} (h : Le H H') {n : Nat} {agg : Bool} {x y : AV} (hr : qk1 H n agg x = some y) : qk1 H' n agg x = some y := by
 unfold qk1 at hr ⊢;split at hr <;> try exact hr
 ·split at hr
  ·rename_i hb; rw [h _ _ hb]; exact hr
  ·rename_i hb; rw [h _ _ hb]; exact hr
  ·cases hr
 ·split at hr
  ·rename_i hb; rw [h _ _ hb]; exact hr
  ·rename_i hb; rw [h _ _ hb]; exact hr
  ·rename_i hb; rw [h _ _ hb]; exact hr
  ·cases hr
def qf2 (C : FuncId->Con) : FuncId->Con := fun f => match C f with
 | .val spec => .shared fun _ args H => match qf5 H 99 args with
  | some (ds, ids) => (match spec ds with
   | some r => if (r.flat || ids.isEmpty) = true then some (.val r, H) else none
   | none => none)
  | none => none
 | _ => .none
theorem qsX {C : FuncId->Con} {f : FuncId} {spec : List DV->Option DV} (hq : C f = .val spec) {H H1 : Hp} {id : Id} {args : List AV} {x : AV} (h : qt8 (qf2 C) H id f args = some (x, H1)) :
  H1 = H/\∃ ds ids r, qf5 H 99 args = some (ds, ids)/\spec ds = some r/\x = .val r/\(r.flat || ids.isEmpty) = true := by
 unfold qt8 qf2 at h;rw [hq] at h;simp only at h;split at h
 ·rename_i ds ids ha
  split at h
  ·rename_i r hs
   split at h
   ·rename_i hf
    simp only [Option.some.injEq, Prod.mk.injEq] at h;exact ⟨h.2.symm, ds, ids, r, ha, hs, h.1.symm, hf⟩
   ·cases h
  ·cases h
 ·cases h
theorem qzD {C : FuncId->Con} {f : FuncId} {spec : List DV->Option DV} (hq : C f = .val spec) {H : Hp} {id : Id} {args : List AV} {ds : List DV} {ids : List Id} {r : DV} (ha : qf5 H 99 args = some (ds, ids)) (hs : spec ds = some r) (hf : (r.flat || ids.isEmpty) = true) : qt8 (qf2 C) H id f args = some (.val r, H) := by
 unfold qt8 qf2;rw [hq];simp only [ha, hs, hf, if_true]
theorem qcQ {P : Program} {C : FuncId->Con} (h : qr4 P C) : qr4 P (qf2 C) := by
 intro f;have hf := h f;cases hq : C f with
 | val spec =>
  rw [hq] at hf
  have : qj8 P f (fun id args H => qt8 (qf2 C) H id f args) := by
   refine ⟨hf.1, fun ns avs H x H' hs J F w vs hH hv => ?_⟩;obtain ⟨rfl, ds, ids, r, ha, hr, rfl, hfl⟩ := qsX hq hs
   have : qt8 C H' ns f avs = some (.val r, H') := by
    unfold qt8;rw [hq];simp only [qwG, ha, hr];rcases Bool.or_eq_true _ _ ▸ hfl with h1 | h1
    ·simp only [h1, if_true, fix, Option.map_some]
    ·have : ids = [] := by simpa using h1
     subst this;simp [fix]
   exact (qcO h hH hv this).2
  unfold qt8 qf2 at this;unfold qf2;rw [hq] at this ⊢;exact this
 | _ => unfold qf2; rw [hq]; trivial
theorem qfK {C : FuncId->Con} {H H' : Hp} {id : Id} {f : FuncId} {args : List AV} {x : AV} {H1 : Hp} (h : qt8 (qf2 C) H id f args = some (x, H1)) : H1 = H/\(Le H H'->qt8 (qf2 C) H' id f args = some (x, H')) := by
 cases hq : C f with
 | val spec =>
  obtain ⟨rfl, ds, ids, r, ha, hr, rfl, hfl⟩ := qsX hq h;exact ⟨rfl, fun hle => qzD hq ((qqH hle 99).2 _ _ ha) hr hfl⟩
 | none => unfold qt8 qf2 at h; rw [hq] at h; cases h
 | fresh s spec => unfold qt8 qf2 at h; rw [hq] at h; cases h
 | shared spec => unfold qt8 qf2 at h; rw [hq] at h; cases h
def cls : AOp->Nat
 | .p _ => 0
 | .r _ => 1
 | .a (.alloc _) => 2
 | .a (.bx _) => 2
 | .a (.bsl ..) => 4
 | _ => 3
section
variable {C : FuncId->Con} {ns : Id}
theorem semE0 {H : Hp} {ρ : Opd->AV} {ρp : Bool->Opd->AV} {id : Id} {o : AOp} (hc : cls o = 0) {x : AV} {H1 : Hp} (h : qe7 C H ρ ρp ns id o = some (x, H1)) : H1 = H/\∀ H', qe7 C H' ρ ρp ns id o = some (x, H') := by
 cases o with
 | p o =>
  simp only [qe7, Option.map_eq_some_iff, Prod.mk.injEq] at h ⊢;obtain ⟨v, h1, h2, h3⟩ := h;exact ⟨h3.symm, fun H' => ⟨v, h1, h2, trivial⟩⟩
 | r o => cases hc
 | a o => cases o <;> cases hc
 | w o => cases hc
theorem zf6 {H : Hp} {ρ : Opd->AV} {ρp : Bool->Opd->AV} {id : Id} {o : AOp} (hc : cls o = 0) (h : qe7 C H ρ ρp ns id o = none) : ∀ H', qe7 C H' ρ ρp ns id o = none := by
 intro H';cases hq : qe7 C H' ρ ρp ns id o with
 | none => rfl
 | some p =>
  obtain ⟨x, H1⟩ := p;rw [(semE0 hc hq).2 H] at h;cases h
theorem semE1 {H H' : Hp} {ρ : Opd->AV} {ρp : Bool->Opd->AV} {id : Id} {o : AOp} (hc : cls o = 1) {x : AV} {H1 : Hp} (h : qe7 (qf2 C) H ρ ρp ns id o = some (x, H1)) : H1 = H/\(Le H H'->qe7 (qf2 C) H' ρ ρp ns id o = some (x, H')) := by
 cases o with
 | p o => cases hc
 | a o => cases o <;> cases hc
 | w o => cases hc
 | r o =>
  cases o with
  | load n a y =>
   simp only [qe7, qiU, Option.map_eq_some_iff, Prod.mk.injEq] at h ⊢;obtain ⟨v, h1, h2, h3⟩ := h;exact ⟨h3.symm, fun hle => ⟨v, loadA_le hle h1, h2, trivial⟩⟩
  | b2s y =>
   simp only [qe7, qiU, Option.map_eq_some_iff, Prod.mk.injEq, Option.bind_eq_some_iff] at h ⊢;obtain ⟨v, ⟨l, ⟨e, h1, h4⟩, h5⟩, h2, h3⟩ := h;exact ⟨h3.symm, fun hle => ⟨v, ⟨l, ⟨e, elems_le hle h1, h4⟩, h5⟩, h2, trivial⟩⟩
  | s2b y =>
   simp only [qe7, qiU, Option.map_eq_some_iff, Prod.mk.injEq] at h ⊢;obtain ⟨v, h1, h2, h3⟩ := h;exact ⟨h3.symm, fun hle => ⟨v, h1, h2, trivial⟩⟩
  | sla n y lo hi =>
   simp only [qe7, qiU, Option.map_eq_some_iff, Prod.mk.injEq] at h ⊢;obtain ⟨v, h1, h2, h3⟩ := h;refine ⟨h3.symm, fun hle => ⟨v, ?_, h2, trivial⟩⟩;split at h1
   ·split at h1
    ·rename_i hb
     rw [hle _ _ hb];exact h1
    ·cases h1
   ·cases h1
  | call f l => exact qfK h
  | callv y l =>
   simp only [qe7] at h ⊢;split at h
   ·exact qfK h
   ·exact qfK h
   ·cases h
theorem semE2 {H : Hp} {ρ : Opd->AV} {ρp : Bool->Opd->AV} {id : Id} {o : AOp} (hc : cls o = 2) {x : AV} {H1 : Hp} (h : qe7 C H ρ ρp ns id o = some (x, H1)) :
  ∃ b, H id = none/\H1 = upd H id (some b)/\∀ H', H' id = none->qe7 C H' ρ ρp ns id o = some (x, upd H' id (some b)) := by
 cases o with
 | p o => cases hc
 | r o => cases hc
 | w o => cases hc
 | a o =>
  have hs : ∀ H', qfF C H' ρ id o = qfF C H ρ id o := by
   intro H';cases o with
   | alloc z => rfl
   | bx y => rfl
   | bsl => cases hc
   | bsf => cases hc
   | mks => cases hc
  simp only [qe7] at h;split at h
  ·cases h
  ·rename_i hid
   have hid : H id = none := by cases hq : H id <;> simp_all
   simp only [Option.map_eq_some_iff, Prod.mk.injEq] at h;obtain ⟨⟨y, b⟩, h1, rfl, rfl⟩ := h;refine ⟨b, hid, rfl, fun H' hid' => ?_⟩;simp only [qe7];rw [if_neg (by simp [hid']), hs H', h1];rfl
theorem qs8 {s : St} {i : AIns} {g : Bool} (h : gv s.env i.guard = some g) : eff C ns s i = qv7 C ns s i g := by
 unfold eff;rw [h]
theorem qg7 {s : St} {i : AIns} {r : AV × Hp} (h : eff C ns s i = some r) : ∃ g, gv s.env i.guard = some g/\qv7 C ns s i g = some r := by
 unfold eff at h;split at h
 ·rename_i g hg
  exact ⟨g, hg, h⟩
 ·cases h
theorem eff0 {s : St} {i : AIns} (hc : cls i.op = 0) {x : AV} {H1 : Hp} (h : eff C ns s i = some (x, H1)) : H1 = s.H/\∀ H', eff C ns ⟨s.env, H'⟩ i = some (x, H') := by
 obtain ⟨g, hg, h⟩ := qg7 h;have hg' : ∀ H', gv (St.mk s.env H').env i.guard = some g := fun _ => hg
 unfold qv7 at h;split at h
 ·rename_i hcalm
  cases hq : qe7 C s.H (fun x => unw g (evE s.env x)) (fun t x => unw (g && t) (evE s.env x)) ns (qj2 i ns) i.op with
  | none =>
   rw [hq] at h;have hn := zf6 hc hq;cases g with
   | true => cases h
   | false =>
    simp only [cond_false, Option.some.injEq, Prod.mk.injEq] at h;obtain ⟨rfl, rfl⟩ := h;refine ⟨rfl, fun H' => ?_⟩;rw [qs8 (hg' H')];unfold qv7;rw [if_pos hcalm];simp only [hn H'];rfl
  | some p =>
   obtain ⟨y, Hy⟩ := p;rw [hq] at h;simp only [Option.some.injEq, Prod.mk.injEq] at h;obtain ⟨rfl, rfl⟩ := h;refine ⟨rfl, fun H' => ?_⟩;rw [qs8 (hg' H')];unfold qv7;rw [if_pos hcalm];simp only [(semE0 hc hq).2 H']
 ·rename_i hcalm
  cases g with
  | true =>
   simp only [cond_true] at h;obtain ⟨h1, h2⟩ := semE0 hc h;refine ⟨h1, fun H' => ?_⟩;rw [qs8 (hg' H')];unfold qv7;rw [if_neg hcalm];exact h2 H'
  | false =>
   simp only [cond_false, Option.some.injEq, Prod.mk.injEq] at h;obtain ⟨rfl, rfl⟩ := h;refine ⟨rfl, fun H' => ?_⟩;rw [qs8 (hg' H')];unfold qv7;rw [if_neg hcalm];rfl
theorem eff1 {s : St} {i : AIns} (hc : cls i.op = 1) {x : AV} {H1 : Hp} (h : eff (qf2 C) ns s i = some (x, H1)) : H1 = s.H/\((qaC i.op && i.guard.isSome) = false->∀ H', Le s.H H'->eff (qf2 C) ns ⟨s.env, H'⟩ i = some (x, H')) := by
 obtain ⟨g, hg, h⟩ := qg7 h;have hg' : ∀ H', gv (St.mk s.env H').env i.guard = some g := fun _ => hg
 unfold qv7 at h;split at h
 ·rename_i hcalm
  refine ⟨?_, fun hno => by rw [hcalm] at hno; cases hno⟩;split at h
  ·simp only [Option.some.injEq, Prod.mk.injEq] at h
   exact h.2.symm
  ·cases g with
   | true => cases h
   | false =>
    simp only [cond_false, Option.some.injEq, Prod.mk.injEq] at h;exact h.2.symm
 ·rename_i hcalm
  cases g with
  | true =>
   simp only [cond_true] at h;refine ⟨(semE1 (H' := s.H) hc h).1, fun _ H' hle => ?_⟩;rw [qs8 (hg' H')];unfold qv7;rw [if_neg hcalm];exact (semE1 hc h).2 hle
  | false =>
   simp only [cond_false, Option.some.injEq, Prod.mk.injEq] at h;obtain ⟨rfl, rfl⟩ := h;refine ⟨rfl, fun _ H' _ => ?_⟩;rw [qs8 (hg' H')];unfold qv7;rw [if_neg hcalm];rfl
theorem eff2 {s : St} {i : AIns} (hc : cls i.op = 2) {x : AV} {H1 : Hp} (h : eff C ns s i = some (x, H1)) :
  (∃ b, s.H (qj2 i ns) = none/\H1 = upd s.H (qj2 i ns) (some b)/\∀ H', H' (qj2 i ns) = none->eff C ns ⟨s.env, H'⟩ i = some (x, upd H' (qj2 i ns) (some b)))\/(H1 = s.H/\∀ H', eff C ns ⟨s.env, H'⟩ i = some (x, H')) := by
 obtain ⟨g, hg, h⟩ := qg7 h;have hg' : ∀ H', gv (St.mk s.env H').env i.guard = some g := fun _ => hg
 have hcalm : ¬ (qaC i.op && i.guard.isSome) = true := by
  cases ho : i.op with
  | a o => simp [qaC]
  | p o => rw [ho] at hc; cases hc
  | r o => rw [ho] at hc; cases hc
  | w o => rw [ho] at hc; cases hc
 unfold qv7 at h;rw [if_neg hcalm] at h;cases g with
 | true =>
  simp only [cond_true] at h;obtain ⟨b, h1, h2, h3⟩ := semE2 hc h;refine .inl ⟨b, h1, h2, fun H' hid => ?_⟩;rw [qs8 (hg' H')];unfold qv7;rw [if_neg hcalm];exact h3 H' hid
 | false =>
  simp only [cond_false, Option.some.injEq, Prod.mk.injEq] at h;obtain ⟨rfl, rfl⟩ := h;refine .inr ⟨rfl, fun H' => ?_⟩;rw [qs8 (hg' H')];unfold qv7;rw [if_neg hcalm];rfl
theorem eff4 {s : St} {i : AIns} (hc : cls i.op = 4) {x : AV} {H1 : Hp} (h : eff C ns s i = some (x, H1)) :
  (∃ b, s.H (qj2 i ns) = none/\H1 = upd s.H (qj2 i ns) (some b))\/H1 = s.H := by
 obtain ⟨g, hg, h⟩ := qg7 h;cases ho : i.op with
 | p o => rw [ho] at hc; cases hc
 | r o => rw [ho] at hc; cases hc
 | w o => rw [ho] at hc; cases hc
 | a o =>
  have hcalm : ¬ (qaC i.op && i.guard.isSome) = true := by rw [ho]; simp [qaC]
  unfold qv7 at h;rw [if_neg hcalm] at h;cases g with
  | false =>
   simp only [cond_false, Option.some.injEq, Prod.mk.injEq] at h;exact .inr h.2.symm
  | true =>
   simp only [cond_true, ho, qe7] at h;split at h
   ·cases h
   ·rename_i hid
    simp only [Option.map_eq_some_iff, Prod.mk.injEq] at h;obtain ⟨⟨y, b⟩, _, rfl, rfl⟩ := h;refine .inl ⟨b, ?_, rfl⟩;cases hq : s.H (qj2 i ns) <;> simp_all
def qo8 (k i : AIns) : Bool :=
 (match k.dst with | some d => !(qj4 i).contains d && i.dst != some d | none => true) && (match i.dst with | some d => !(qj4 k).contains d | none => true)
def qgU (k i : AIns) : Bool := qo8 k i && (match cls k.op, cls i.op with
 | 0, _ => true
 | _, 0 => true
 | 1, 1 => true
 | 1, 2 => !(qaC k.op && k.guard.isSome)
 | 2, 2 => k.dst.isSome && i.dst.isSome
 | 1, 4 => !(qaC k.op && k.guard.isSome)
 | _, _ => false)
end
section
variable {C : FuncId->Con} {ns : Id}
theorem qeD {k i : AIns} (h : qo8 k i = true) : (∀ d, k.dst = some d->d ∉ qj4 i)/\(∀ d, i.dst = some d->d ∉ qj4 k)/\(∀ d, k.dst = some d->i.dst ≠ some d) := by
 unfold qo8 at h;simp only [Bool.and_eq_true] at h;obtain ⟨h1, h2⟩ := h;refine ⟨fun d hd => ?_, fun d hd => ?_, fun d hd => ?_⟩
 ·rw [hd] at h1; simp at h1; exact h1.1
 ·rw [hd] at h2; simpa using h2
 ·rw [hd] at h1; simp at h1; exact h1.2
theorem qaE {s t : St} {i : AIns} (h : step C ns s i = some t) : ∃ x H, eff C ns s i = some (x, H)/\t = ⟨qw9 s.env i.dst x, H⟩ := by
 unfold step at h;split at h
 ·cases h
  rename_i x H he;exact ⟨x, H, he, rfl⟩
 ·cases h
theorem qqI {s : St} {i : AIns} {x : AV} {H : Hp} (h : eff C ns s i = some (x, H)) : step C ns s i = some ⟨qw9 s.env i.dst x, H⟩ := by
 unfold step;rw [h]
theorem qqJ {env : Env} {H : Hp} {i : AIns} {d : Option Nat} {x : AV} (h : ∀ e, d = some e->e ∉ qj4 i) : eff C ns ⟨qw9 env d x, H⟩ i = eff C ns ⟨env, H⟩ i := by
 refine qzC rfl (fun t ht => ?_);simp only [qt2];rw [if_neg];rintro ⟨h1, _⟩;exact h t h1 ht
theorem qzE {env : Env} {d e : Option Nat} {x y : AV} (h : ∀ q, d = some q->e ≠ some q) (H : Hp) : Eqv ⟨qw9 (qw9 env e y) d x, H⟩ ⟨qw9 (qw9 env d x) e y, H⟩ := by
 refine ⟨by simp only [zn5], fun t => ?_, rfl⟩;simp only [qt2, zn5];by_cases h1 : d = some t/\t < env.n
 ·rw [if_pos h1]
  by_cases h2 : e = some t/\t < env.n
  ·exact absurd h2.1 (h t h1.1)
  ·rw [if_neg h2, if_pos h1]
 ·rw [if_neg h1]
  by_cases h2 : e = some t/\t < env.n
  ·rw [if_pos h2, if_pos h2]
  ·rw [if_neg h2, if_neg h2, if_neg h1]
theorem swap {s s1 s2 : St} {k i : AIns} (hc : qgU k i = true) (h1 : step (qf2 C) ns s k = some s1) (h2 : step (qf2 C) ns s1 i = some s2) :
  ∃ t t2, step (qf2 C) ns s i = some t/\step (qf2 C) ns t k = some t2/\Eqv t2 s2 := by
 unfold qgU at hc;simp only [Bool.and_eq_true] at hc;obtain ⟨ha, hk⟩ := hc;obtain ⟨a1, a2, a3⟩ := qeD ha;obtain ⟨x, H1, e1, rfl⟩ := qaE h1;obtain ⟨y, H2, e2, rfl⟩ := qaE h2;rw [qqJ a1] at e2
 -- what is left to be shown, once the heap behind is known
 have fin : ∀ Hi, eff (qf2 C) ns s i = some (y, Hi)->eff (qf2 C) ns ⟨s.env, Hi⟩ k = some (x, H2)->∃ t t2, step (qf2 C) ns s i = some t/\step (qf2 C) ns t k = some t2/\Eqv t2 ⟨qw9 (qw9 s.env k.dst x) i.dst y, H2⟩ := by
  intro Hi q1 q2;refine ⟨_, _, qqI q1, qqI (s := ⟨qw9 s.env i.dst y, Hi⟩) (x := x) (H := H2) ?_, qzE a3 H2⟩;rw [qqJ a2];exact q2
 have e1' : eff (qf2 C) ns ⟨s.env, s.H⟩ k = some (x, H1) := e1;split at hk
 ·rename_i c0
  obtain ⟨rfl, f⟩ := eff0 c0 e1;exact fin H2 e2 (f H2)
 ·rename_i c0 _
  obtain ⟨q1, q2⟩ := eff0 c0 e2;simp only at q1;subst q1;exact fin s.H (q2 s.H) e1'
 ·rename_i c1 c2
  obtain ⟨rfl, _⟩ := eff1 c1 e1;obtain ⟨q1, _⟩ := eff1 c2 e2;simp only at q1;subst q1;exact fin s.H e2 e1'
 ·rename_i c1 c2
  obtain ⟨rfl, f⟩ := eff1 c1 e1;rcases eff2 c2 e2 with ⟨b, q1, q2, q3⟩ | ⟨q2, q3⟩
  ·refine fin H2 e2 (f (by cases hq : (qaC k.op && k.guard.isSome) with | false => rfl | true => rw [hq] at hk; cases hk) H2 ?_)
   rw [q2];intro id bb hb;by_cases e : id = qj2 i ns
   ·subst e; simp only at q1; rw [q1] at hb; cases hb
   ·simp only [upd, if_neg e]; exact hb
  ·simp only at q2
   subst q2;exact fin s.H e2 e1'
 ·rename_i c1 c2
  simp only [Bool.and_eq_true] at hk
  have hne : qj2 k ns ≠ qj2 i ns := by
   intro e;unfold qj2 at e;obtain ⟨dk, hdk⟩ := Option.isSome_iff_exists.1 hk.1;obtain ⟨di, hdi⟩ := Option.isSome_iff_exists.1 hk.2;rw [hdk, hdi] at e;simp at e;exact a3 dk hdk (by rw [hdi, e])
  rcases eff2 c1 e1 with ⟨b, q1, q2, q3⟩ | ⟨q2, q3⟩
  ·rcases eff2 c2 e2 with ⟨b', r1, r2, r3⟩ | ⟨r2, r3⟩
   ·simp only at r1 r2
    have r0 : s.H (qj2 i ns) = none := by
     rw [q2] at r1;simpa [upd, Ne.symm hne] using r1
    refine fin (upd s.H (qj2 i ns) (some b')) (r3 s.H r0) ?_
    rw [q3 _ (by simp only [upd, if_neg hne]; exact q1)];rw [r2, q2]
    congr 2
    funext id
    simp only [upd];by_cases f1 : id = qj2 k ns
    ·subst f1; simp [hne]
    ·by_cases f2 : id = qj2 i ns
     ·subst f2; simp [f1]
     ·simp [f1, f2]
   ·simp only at r2
    subst r2;exact fin s.H (r3 s.H) e1'
  ·subst q2
   exact fin H2 e2 (by
    rcases eff2 c2 e2 with ⟨b', r1, r2, r3⟩ | ⟨r2, r3⟩
    ·exact q3 H2
    ·exact q3 H2)
 ·rename_i c1 c4
  obtain ⟨rfl, f⟩ := eff1 c1 e1;rcases eff4 c4 e2 with ⟨b, q1, q2⟩ | q2
  ·refine fin H2 e2 (f (by cases hq : (qaC k.op && k.guard.isSome) with | false => rfl | true => rw [hq] at hk; cases hk) H2 ?_)
   rw [q2];intro id bb hb;by_cases e : id = qj2 i ns
   ·subst e; simp only at q1; rw [q1] at hb; cases hb
   ·simp only [upd, if_neg e]; exact hb
  ·simp only at q2
   subst q2;exact fin s.H e2 e1'
 ·cases hk
def qdO (D : FuncId->Con) (ns : Id) (Inv : St->Prop) (k i : AIns) : Prop :=
 ∀ s s1 s2, Inv s->step D ns s k = some s1->step D ns s1 i = some s2->∃ t t2, step D ns s i = some t/\step D ns t k = some t2/\Eqv t2 s2
theorem qdO.of_commB {Inv : St->Prop} {k i : AIns} (hc : qgU k i = true) : qdO (qf2 C) ns Inv k i := fun _ _ _ _ h1 h2 => swap hc h1 h2
theorem qzF {D : FuncId->Con} {Inv : St->Prop} : ∀ (pre : List AIns) (i : AIns) (post : List AIns) (s sf : St), (∀ k ∈ pre, ∀ s s', Inv s->step D ns s k = some s'->Inv s')->Inv s->(∀ k ∈ pre, qdO D ns Inv k i)->run D ns (pre ++ i :: post) s = some sf->∃ s1 sf', step D ns s i = some s1/\run D ns (pre ++ post) s1 = some sf'/\Eqv sf' sf
 | [], i, post, s, sf, _, _, _, h => by
  simp only [List.nil_append, run] at h ⊢;split at h
  ·rename_i s1 h1
   exact ⟨s1, sf, h1, h, .refl _⟩
  ·cases h
 | k :: pre, i, post, s, sf, hp, hI, hk, h => by
  simp only [List.cons_append, run] at h ⊢;split at h
  ·rename_i s1 h1
   obtain ⟨s2, sf', q1, q2, q3⟩ := qzF pre i post s1 sf (fun k' hk' => hp k' (by simp [hk'])) (hp k (by simp) s s1 hI h1) (fun k' hk' => hk k' (by simp [hk'])) h;obtain ⟨t, t2, r1, r2, r3⟩ := hk k (by simp) s s1 s2 hI h1 q1;obtain ⟨sf'', u1, u2⟩ := Eqv.run r3.symm q2;refine ⟨t, sf'', r1, ?_, u2.symm.trans q3⟩;rw [r2];exact u1
  ·cases h
end
def qj5 (H : Hp) (bo : Option Id) (id : Id) (b : Blk) : Hp := match bo with
 | some k => upd (upd H k (some .dead)) id (some b)
 | none => upd H id (some b)
def LeR (H H' : Hp) : Prop := ∀ id b, H id = some b->(∃ s es, b = .row s es\/b = .frow s es)->H' id = some b
theorem qsY {H H' : Hp} (h : LeR H H') {s : Nat} {x : AV} {r : List (List DV)} (hr : elems H s x = some r) : elems H' s x = some r := by
 unfold elems at hr ⊢;split at hr <;> try exact hr
 split at hr
 ·rename_i hs
  rw [if_pos hs];split at hr
  ·rename_i s'' es hb
   rw [h _ _ hb ⟨s'', es, .inl rfl⟩];exact hr
  ·rename_i s'' es hb
   rw [h _ _ hb ⟨s'', es, .inr rfl⟩];exact hr
  ·cases hr
 ·cases hr
def qx0 (H : Hp) (s : Nat) : AV->Option (Option Id × List (List DV))
 | .val (.nils _) => some (none, [])
 | .row b s1 o n => (match H b with
  | some (.row s3 es) => if o = 0/\s1 = s/\s3 = s/\n = es.length then some (some b, es) else none
  | _ => none)
 | _ => none
theorem qkW {H : Hp} {s : Nat} {x : AV} {bo : Option Id} {es : List (List DV)} (h : qx0 H s x = some (bo, es)) : (∀ b, bo = some b->∃ s es, H b = some (.row s es))/\∀ H', LeR H H'->qx0 H' s x = some (bo, es) := by
 cases x <;> simp only [qx0, reduceCtorEq] at h
 ·rename_i d
  cases d <;> simp only [reduceCtorEq, Option.some.injEq, Prod.mk.injEq] at h
  obtain ⟨rfl, rfl⟩ := h;exact ⟨fun _ h => (by cases h), fun _ _ => rfl⟩
 ·rename_i b s1 o n
  split at h
  ·rename_i s3 es' hb
   split at h
   ·rename_i hc
    simp only [Option.some.injEq, Prod.mk.injEq] at h;obtain ⟨rfl, rfl⟩ := h;refine ⟨fun b' h => (by cases h; exact ⟨_, _, hb⟩), fun H' hle => ?_⟩;simp only [qx0, hle _ _ hb ⟨_, _, .inl rfl⟩];rw [if_pos hc]
   ·cases h
  ·cases h
def qc7 (k : LibK) (id : Id) (avs : List AV) (H : Hp) : Option (AV × Hp) := match H id with
 | some _ => none
 | none => match k, avs with
  | .clone s bytes, [x] => (match elems H s x with
   | some es => if es.length * bytes<=140737488355328/\es.length<=maxLen then some (.row id s 0 es.length, qj5 H none id (.row s es)) else none
   | none => none)
  | .ins s bytes, [x, .val (.int .i64 j), y] => (match qx0 H s x, qx0 H s y with
   | some (bo, es), some (some b', ys) => if bo ≠ some b'/\ys ≠ []/\0<=j/\j<=(es.length : Int)/\(es.length + ys.length) * bytes<=70368744177664/\es.length + ys.length<=maxLen/\0 < s then
     some (.row id s 0 (es.length + ys.length), qj5 H bo id (.row s (es.take j.toNat ++ ys ++ es.drop j.toNat))) else none
   | _, _ => none)
  | .del s, [x, .val (.int .i64 i), .val (.int .i64 j)] => (match qx0 H s x with
   | some (bo, es) => if 0<=i/\i<=j/\j<=(es.length : Int)/\es.length<=maxLen/\0 < s then
     some (.row id s 0 (i.toNat + (es.length - j.toNat)), qj5 H bo id (.row s (es.take i.toNat ++ es.drop j.toNat))) else none
   | _ => none)
  | .grow s bytes, [.val (.nils _), .val (.int .i64 n)] => if 0<=n/\n * (bytes : Int)<=70368744177664/\n<=(maxLen : Int)/\0 < s then some (.row id s 0 0, qj5 H none id (.row s [])) else none
  | _, _ => none
def LibK.isCl : LibK->Bool
 | .clone _ _ => true
 | _ => false
theorem qkX {k : LibK} {id : Id} {avs : List AV} {H H1 : Hp} {x : AV} (h : qc7 k id avs H = some (x, H1)) :
  ∃ bo blk, (∃ s es, blk = Blk.row s es)/\(∀ b, bo = some b->∃ s es, H b = some (.row s es))/\H id = none/\H1 = qj5 H bo id blk/\(k.isCl = true->bo = none)/\∀ H', LeR H H'->H' id = none->qc7 k id avs H' = some (x, qj5 H' bo id blk) := by
 unfold qc7 at h;split at h
 ·cases h
 ·rename_i hid
  split at h
  ·rename_i s bytes x'
   split at h
   ·rename_i es he
    split at h
    ·rename_i hc
     simp only [Option.some.injEq, Prod.mk.injEq] at h;obtain ⟨rfl, rfl⟩ := h;refine ⟨none, _, ⟨_, _, rfl⟩, fun _ h => (by cases h), hid, rfl, fun _ => rfl, fun H' hle hid' => ?_⟩;simp only [qc7, hid', qsY hle he];rw [if_pos hc]
    ·cases h
   ·cases h
  ·rename_i s bytes x' j y
   split at h
   ·rename_i bo es b' ys h1 h2
    split at h
    ·rename_i hc
     simp only [Option.some.injEq, Prod.mk.injEq] at h;obtain ⟨rfl, rfl⟩ := h;refine ⟨bo, _, ⟨_, _, rfl⟩, (qkW h1).1, hid, rfl, fun h => (by cases h), fun H' hle hid' => ?_⟩;simp only [qc7, hid', (qkW h1).2 _ hle, (qkW h2).2 _ hle];rw [if_pos hc]
    ·cases h
   ·cases h
  ·rename_i s x' i j
   split at h
   ·rename_i bo es h1
    split at h
    ·rename_i hc
     simp only [Option.some.injEq, Prod.mk.injEq] at h;obtain ⟨rfl, rfl⟩ := h;refine ⟨bo, _, ⟨_, _, rfl⟩, (qkW h1).1, hid, rfl, fun h => (by cases h), fun H' hle hid' => ?_⟩;simp only [qc7, hid', (qkW h1).2 _ hle];rw [if_pos hc]
    ·cases h
   ·cases h
  ·rename_i s bytes s' n
   split at h
   ·rename_i hc
    simp only [Option.some.injEq, Prod.mk.injEq] at h;obtain ⟨rfl, rfl⟩ := h;refine ⟨none, _, ⟨_, _, rfl⟩, fun _ h => (by cases h), hid, rfl, fun _ => rfl, fun H' hle hid' => ?_⟩;simp only [qc7, hid'];rw [if_pos hc]
   ·cases h
  ·cases h
def qx8 : List (FuncId × LibK)->FuncId->Option LibK
 | [], _ => none
 | (g, k) :: l, f => match Nat.beq g f with
  | true => some k
  | false => qx8 l f
theorem qkY : ∀ {l : List (FuncId × LibK)} {f : FuncId} {k : LibK}, qx8 l f = some k->(f, k) ∈ l
 | (g, k') :: l, f, k, h => by
  simp only [qx8] at h;split at h
  ·rename_i e
   cases h;rw [Nat.eq_of_beq_eq_true e];exact List.mem_cons_self ..
  ·exact List.mem_cons_of_mem _ (qkY h)
def qnO (H : Hp) (i : Id) : Bool := match H i with
 | some (.row _ _) => true
 | some (.frow _ _) => true
 | _ => false
def zf7 (spec : List DV->Option DV) (H : Hp) (args : List AV) : Option (AV × Hp) := match qf5 H 99 args with
 | some (ds, ids) => (match spec ds with
  | some r => (match (if r.flat then [] else ids).all (qnO H) with
   | true => (fix H (if r.flat then [] else ids)).map fun H' => (.val r, H')
   | false => none)
  | none => none)
 | none => none
theorem qjG {spec : List DV->Option DV} {H H1 : Hp} {args : List AV} {x : AV} (h : zf7 spec H args = some (x, H1)) :
  ∃ ds ids r, qf5 H 99 args = some (ds, ids)/\spec ds = some r/\x = .val r/\(∀ i ∈ (if r.flat then [] else ids), qnO H i = true)/\fix H (if r.flat then [] else ids) = some H1 := by
 unfold zf7 at h;split at h
 ·rename_i ds ids ha
  split at h
  ·rename_i r hr
   split at h
   ·rename_i hall
    simp only [Option.map_eq_some_iff, Prod.mk.injEq] at h;obtain ⟨H', h1, rfl, rfl⟩ := h;exact ⟨ds, ids, r, ha, hr, rfl, List.all_eq_true.1 hall, h1⟩
   ·cases h
  ·cases h
 ·cases h
theorem zn6 {spec : List DV->Option DV} {H H1 : Hp} {args : List AV} {ds : List DV} {ids : List Id} {r : DV} (ha : qf5 H 99 args = some (ds, ids)) (hr : spec ds = some r) (hi : ∀ i ∈ (if r.flat then [] else ids), qnO H i = true) (hf : fix H (if r.flat then [] else ids) = some H1) :
  zf7 spec H args = some (.val r, H1) := by
 unfold zf7;simp only [ha, hr, List.all_eq_true.2 hi, hf, Option.map_some]
theorem rowC_val {C : FuncId->Con} {f : FuncId} {spec : List DV->Option DV} (hq : C f = .val spec) {H H1 : Hp} {id : Id} {args : List AV} {x : AV} (h : zf7 spec H args = some (x, H1)) : qt8 C H id f args = some (x, H1) := by
 obtain ⟨ds, ids, r, ha, hr, rfl, _, hf⟩ := qjG h;unfold qt8;rw [hq];simp only [qwG, ha, hr, hf, Option.map_some]
def qm0 (S : List FuncId) (LB : List (FuncId × LibK)) (C : FuncId->Con) : FuncId->Con := fun f => match qx8 LB f with
 | some k => .shared (qc7 k)
 | none => match S.contains f with
  | true => (match C f with
   | .val spec => .shared fun _ args H => zf7 spec H args
   | _ => .none)
  | false => qf2 C f
theorem zn7 {P : Program} {S : List FuncId} {LB : List (FuncId × LibK)} {C : FuncId->Con} (h : qr4 P C) (hL : ∀ p ∈ LB, C p.1 = .shared (qc7 p.2)) : qr4 P (qm0 S LB C) := by
 intro f;have hf := h f;have hg := qcQ h f;cases hl : qx8 LB f with
 | some k =>
  have e : qm0 S LB C f = .shared (qc7 k) := by unfold qm0; rw [hl]
  rw [e];have := hL _ (qkY hl);simp only at this;rw [this] at hf;exact hf
 | none =>
  cases hS : S.contains f with
  | true =>
   have e : qm0 S LB C f = (match C f with
    | .val spec => .shared fun _ args H => zf7 spec H args
    | _ => .none) := by unfold qm0; rw [hl]; simp only [hS]
   rw [e];cases hq : C f with
   | val spec =>
    rw [hq] at hf;exact ⟨hf.1, fun ns avs H x H' hs J F w vs hH hv => (qcO h hH hv (rowC_val (id := ns) hq hs)).2⟩
   | none => trivial
   | fresh s spec => trivial
   | shared spec => trivial
  | false =>
   have e : qm0 S LB C f = qf2 C f := by unfold qm0; rw [hl]; simp only [hS]
   rw [e];exact hg
def qdP (S : List FuncId) (LB : List (FuncId × LibK)) : AOp->Bool
 | .r (.call f _) => !(S.contains f) && (qx8 LB f).isNone
 | .r (.callv _ _) => S.isEmpty && LB.isEmpty
 | _ => true
section
variable {C : FuncId->Con} {ns : Id} {S : List FuncId} {LB : List (FuncId × LibK)}
theorem qjH {H : Hp} {id : Id} {f : FuncId} {args : List AV} (hS : S.contains f = false) (hL : qx8 LB f = none) : qt8 (qm0 S LB C) H id f args = qt8 (qf2 C) H id f args := by
 have e : qm0 S LB C f = qf2 C f := by unfold qm0; rw [hL]; simp only [hS]
 unfold qt8;rw [e]
theorem qzG {H : Hp} {ρ : Opd->AV} {ρp : Bool->Opd->AV} {id : Id} {o : AOp} (hf : qdP S LB o = true) : qe7 (qm0 S LB C) H ρ ρp ns id o = qe7 (qf2 C) H ρ ρp ns id o := by
 cases o with
 | p o => rfl
 | a o => cases o <;> rfl
 | w o => cases o <;> rfl
 | r o =>
  cases o with
  | call f l =>
   simp only [qdP, Bool.and_eq_true, Bool.not_eq_true', Option.isNone_iff_eq_none] at hf;exact qjH hf.1 hf.2
  | callv x l =>
   simp only [qdP, Bool.and_eq_true, List.isEmpty_iff] at hf;obtain ⟨rfl, rfl⟩ := hf;have : ∀ f, ([] : List FuncId).contains f = false := fun _ => rfl
   have h2 : ∀ f, qx8 [] f = none := fun _ => rfl
   simp only [qe7, qjH (this _) (h2 _)]
  | load n a y => rfl
  | b2s y => rfl
  | s2b y => rfl
  | sla n y lo hi => rfl
theorem eff_mix {s : St} {i : AIns} (hf : qdP S LB i.op = true) : eff (qm0 S LB C) ns s i = eff (qf2 C) ns s i := by
 unfold eff qv7;simp only [qzG hf]
theorem qjI {s : St} {i : AIns} (hf : qdP S LB i.op = true) : step (qm0 S LB C) ns s i = step (qf2 C) ns s i := by
 unfold step;rw [eff_mix hf]
theorem qp3 {D : FuncId->Con} {Inv : St->Prop} {k i : AIns} (ha : qo8 k i = true) (h : ∀ s x y H1 H2, Inv s->eff D ns s k = some (x, H1)->eff D ns ⟨s.env, H1⟩ i = some (y, H2)->∃ Hi, eff D ns s i = some (y, Hi)/\eff D ns ⟨s.env, Hi⟩ k = some (x, H2)) : qdO D ns Inv k i := by
 intro s s1 s2 hI h1 h2;obtain ⟨a1, a2, a3⟩ := qeD ha;obtain ⟨x, H1, e1, rfl⟩ := qaE h1;obtain ⟨y, H2, e2, rfl⟩ := qaE h2;rw [qqJ a1] at e2;obtain ⟨Hi, q1, q2⟩ := h s x y H1 H2 hI e1 e2;refine ⟨_, _, qqI q1, qqI (s := ⟨qw9 s.env i.dst y, Hi⟩) (x := x) (H := H2) ?_, qzE a3 H2⟩;rw [qqJ a2];exact q2
theorem comm0 {D : FuncId->Con} {Inv : St->Prop} {k i : AIns} (ha : qo8 k i = true) (hc : cls k.op = 0\/cls i.op = 0) : qdO D ns Inv k i := qp3 ha fun s x y H1 H2 _ e1 e2 => by
 rcases hc with c0 | c0
 ·obtain ⟨rfl, f⟩ := eff0 c0 e1
  exact ⟨H2, e2, f H2⟩
 ·obtain ⟨q1, q2⟩ := eff0 c0 e2
  simp only at q1;subst q1;exact ⟨s.H, q2 s.H, e1⟩
theorem zn8 {Inv : St->Prop} {k i : AIns} (hk : qdP S LB k.op = true) (hi : qdP S LB i.op = true) (hc : qgU k i = true) : qdO (qm0 S LB C) ns Inv k i := by
 intro s s1 s2 _ h1 h2;rw [qjI hk] at h1;rw [qjI hi] at h2;obtain ⟨t, t2, q1, q2, q3⟩ := swap hc h1 h2;exact ⟨t, t2, by rw [qjI hi]; exact q1, by rw [qjI hk]; exact q2, q3⟩
def pB0 (i : Id) (b : Option Blk) : AV->Prop
 | .box id _ => id = i/\qe6 b = true
 | .elt .. => False
 | .may .. => False
 | _ => True
def pB (i : Id) (b : Option Blk) : AV->Prop
 | .may _ x => pB0 i b x
 | x => pB0 i b x
def nB0 : AV->Prop
 | .box .. => False
 | .may .. => False
 | _ => True
def nB : AV->Prop
 | .may _ x => nB0 x
 | x => nB0 x
theorem qiA {i : Id} {b : Option Blk} {v : AV} (h : pB i b v) (g : Bool) : pB0 i b (unw g v) := by
 cases v <;> first | exact h | skip
 rename_i c x;simp only [unw];split
 ·exact h
 ·trivial
theorem zn9 {v : AV} (h : nB v) (g : Bool) : nB0 (unw g v) := by
 cases v <;> first | exact h | skip
 rename_i c x;simp only [unw];split
 ·exact h
 ·trivial
theorem zo0 {i : Id} {b b' : Option Blk} {v : AV} (hb : qe6 b = true->qe6 b' = true) (h : pB i b v) : pB i b' v := by
 cases v <;> try exact h
 ·exact ⟨h.1, hb h.2⟩
 ·rename_i c x
  cases x <;> first | exact h | exact ⟨h.1, hb h.2⟩
def lk : List (Nat × Nat)->Nat->Option Nat
 | [], _ => none
 | (t, c) :: l, u => if t = u then some c else lk l u
structure InvB (L : List (Nat × Nat)) (EL : List Nat) (ids : Nat->Id) (s : St) : Prop where
 cl : ∀ t c, lk L t = some c->pB (ids c) (s.H (ids c)) (look s.env.l t)
 el : ∀ t, EL.contains t = true->nB (look s.env.l t)
def invT (ids : Nat->Id) (s : St) : List (Nat × Nat)->Prop
 | [] => True
 | (t, c) :: l => pB (ids c) (s.H (ids c)) (look s.env.l t)/\invT ids s l
def invE (s : St) : List Nat->Prop
 | [] => True
 | t :: l => nB (look s.env.l t)/\invE s l
theorem zo1 {ids : Nat->Id} {s : St} {L : List (Nat × Nat)} {EL : List Nat} (h : invT ids s L) (he : invE s EL) : InvB L EL ids s := by
 refine ⟨?_, ?_⟩
 ·intro t c hc
  induction L with
  | nil => cases hc
  | cons p L ih =>
   obtain ⟨u, d⟩ := p;simp only [lk] at hc;split at hc
   ·rename_i e
    cases hc;subst e;exact h.1
   ·exact ih h.2 hc
 ·intro t ht
  induction EL with
  | nil => cases ht
  | cons u l ih =>
   rw [List.contains_cons, Bool.or_eq_true] at ht;rcases ht with h1 | h1
   ·have : t = u := by simpa using h1
    subst this; exact he.1
   ·exact ih he.2 h1
def okB (L : List (Nat × Nat)) (EL AL : List Nat) (i : AIns) : Bool :=
 match i.dst with
 | none => true
 | some d => (match lk L d with
  | none => true
  | some c => (match i.op with
   | .p (.foff _ (.t b)) => lk L b == some c
   | .p (.aoff _ _ (.t b) _) => lk L b == some c
   | .p (.mv (.t b)) => lk L b == some c
   | .p (.chk (.t b)) => lk L b == some c
   | .a (.alloc _) => Nat.beq c d && AL.contains d
   | .a (.bx _) => Nat.beq c d && AL.contains d
   | _ => false)) && (!(EL.contains d) || (match i.op with
   | .p (.soff _ _ _) => true
   | .p (.foff _ (.t b)) => EL.contains b
   | .p (.aoff _ _ (.t b) _) => EL.contains b
   | .p (.mv (.t b)) => EL.contains b
   | .p (.chk (.t b)) => EL.contains b
   | _ => false))
theorem qqK {D : FuncId->Con} {s : St} {i : AIns} {o : POp} (ho : i.op = .p o) {x : AV} {H1 : Hp} (h : eff D ns s i = some (x, H1)) :
  H1 = s.H/\((∃ g gp y, qe2 (fun x => unw g (evE s.env x)) (fun t x => unw (gp && t) (evE s.env x)) o = some y/\(x = y\/∃ c, x = .may c y))\/x = .val (.tup [])) := by
 obtain ⟨g, hg, h⟩ := qg7 h;unfold qv7 at h;rw [ho] at h;simp only [qe7, qaC, Bool.true_and] at h;split at h
 ·cases hq : qe2 (fun x => unw g (evE s.env x)) (fun t x => unw (g && t) (evE s.env x)) o with
  | none =>
   rw [hq] at h;simp only [Option.map_none] at h;cases g with
   | true => cases h
   | false =>
    simp only [cond_false, Option.some.injEq, Prod.mk.injEq] at h;exact ⟨h.2.symm, .inr h.1.symm⟩
  | some y =>
   rw [hq] at h;simp only [Option.map_some, Option.some.injEq, Prod.mk.injEq] at h;exact ⟨h.2.symm, .inl ⟨g, g, y, hq, .inr ⟨g, h.1.symm⟩⟩⟩
 ·cases g with
  | false =>
   simp only [cond_false, Option.some.injEq, Prod.mk.injEq] at h;exact ⟨h.2.symm, .inr h.1.symm⟩
  | true =>
   simp only [cond_true, Option.map_eq_some_iff, Prod.mk.injEq] at h;obtain ⟨y, h1, h2, h3⟩ := h;refine ⟨h3.symm, .inl ⟨true, true, y, ?_, .inl h2.symm⟩⟩;simpa using h1
theorem qzH {i : Id} {b : Option Blk} {v y : AV} {o : Nat} (h : pB0 i b v) (hm : v.moved o = some y) : pB0 i b y := by
 cases v <;> simp only [AV.moved, reduceCtorEq, Option.some.injEq] at hm
 ·rename_i d
  cases d <;> simp only [reduceCtorEq, Option.some.injEq] at hm
  subst hm;trivial
 ·subst hm; exact h
 ·exact h.elim
theorem qzI {v y : AV} {o : Nat} (h : nB0 v) (hm : v.moved o = some y) : nB0 y := by
 cases v <;> simp only [AV.moved, reduceCtorEq, Option.some.injEq] at hm
 ·rename_i d
  cases d <;> simp only [reduceCtorEq, Option.some.injEq] at hm
  subst hm;trivial
 ·exact h.elim
 ·subst hm; trivial
theorem fixB_box {H : Hp} {b : Option Blk} : (qe6 b = true->∀ cells, b = some (.box cells)->∃ r, qf5 H 99 cells = some r)->qe6 b = true->qe6 (qsL H b) = true := by
 intro h hb;cases b with
 | none => cases hb
 | some b =>
  cases b with
  | box cells =>
   obtain ⟨⟨ds, more⟩, hr⟩ := h hb cells rfl;simp only [qsL, hr];rfl
  | row s es => cases hb
  | fbox cells => rfl
  | frow s es => cases hb
  | fns s es => cases hb
  | dead => cases hb
theorem qoH {H : Hp} {ids : List Id} {i : Id} (h : qdX H ids i = true) {cells : List AV} (hb : H i = some (.box cells)) : ∃ r, qf5 H 99 cells = some r := by
 unfold qdX at h;rw [hb] at h;simp only at h;split at h
 ·rename_i ds more hr
  exact ⟨_, hr⟩
 ·cases h
theorem zo2 {H H' : Hp} {ids : List Id} (h : fix H ids = some H') (i : Id) : H' i = (if ids.contains i = true then qsL H (H i) else H i)/\(ids.contains i = true->qdX H ids i = true) := by
 cases ids with
 | nil =>
  simp only [fix, Option.some.injEq] at h;subst h;exact ⟨rfl, fun h => by cases h⟩
 | cons a l =>
  simp only [fix] at h;split at h
  ·rename_i hall
   cases h;refine ⟨rfl, fun hc => ?_⟩;have hm : i ∈ a :: l := List.contains_iff_mem.1 hc;exact List.all_eq_true.1 hall i hm
  ·cases h
theorem qoI {H H' : Hp} {ids : List Id} (h : fix H ids = some H') {i : Id} (hb : qe6 (H i) = true) : qe6 (H' i) = true := by
 obtain ⟨h1, h2⟩ := zo2 h i;rw [h1];split
 ·rename_i hc
  exact fixB_box (fun _ cells he => qoH (h2 hc) he) hb
 ·exact hb
theorem fix_none {H H' : Hp} {ids : List Id} (h : fix H ids = some H') {i : Id} (hn : H' i = none) : H i = none := by
 obtain ⟨h1, h2⟩ := zo2 h i;rw [h1] at hn;split at hn
 ·rename_i hc
  cases hq : H i with
  | none => rfl
  | some b =>
   rw [hq] at hn;cases b with
   | box cells =>
    obtain ⟨⟨ds, more⟩, hr⟩ := qoH (h2 hc) hq;simp only [qsL, hr] at hn;cases hn
   | row s es => cases hn
   | fbox cells => cases hn
   | frow s es => cases hn
   | fns s es => cases hn
   | dead => cases hn
 ·exact hn
theorem qg6 {H : Hp} {id : Id} {b : Option Blk} (hn : qe6 (H id) = false) {i : Id} (hb : qe6 (H i) = true) : upd H id b i = H i := by
 unfold upd;split
 ·rename_i e
  subst e;rw [hn] at hb;cases hb
 ·rfl
theorem qiB {H : Hp} {bo : Option Id} {id : Id} {blk : Blk} (h2 : ∀ b, bo = some b->∃ s es, H b = some (.row s es)) (hid : H id = none) {i : Id} (hb : qe6 (H i) = true) : qj5 H bo id blk i = H i := by
 cases bo with
 | none => exact qg6 (by rw [hid]; rfl) hb
 | some b =>
  obtain ⟨s1, es1, hbb⟩ := h2 b rfl;show upd (upd H b (some .dead)) id (some blk) i = H i;have e1 : upd H b (some .dead) i = H i := qg6 (by rw [hbb]; rfl) hb
  have hn : upd H b (some .dead) id = none := by
   unfold upd;rw [if_neg (fun e => by subst e; rw [hid] at hbb; cases hbb), hid]
  rw [qg6 (by rw [hn]; rfl) (by rw [e1]; exact hb), e1]
theorem qeE {H H1 : Hp} {id : Id} {f : FuncId} {args : List AV} {x : AV} (h : qt8 (qm0 S LB C) H id f args = some (x, H1)) {i : Id} (hb : qe6 (H i) = true) : qe6 (H1 i) = true := by
 cases hl : qx8 LB f with
 | some k =>
  have e : qm0 S LB C f = .shared (qc7 k) := by unfold qm0; rw [hl]
  unfold qt8 at h;rw [e] at h;obtain ⟨bo, blk, _, h2, h3, rfl, _⟩ := qkX h;rw [qiB h2 h3 hb];exact hb
 | none =>
  cases hS : S.contains f with
  | false =>
   rw [qjH hS hl] at h;obtain ⟨rfl, _⟩ := qfK (H' := H) h;exact hb
  | true =>
   have e : qm0 S LB C f = (match C f with
    | .val spec => .shared fun _ args H => zf7 spec H args
    | _ => .none) := by unfold qm0; rw [hl]; simp only [hS]
   unfold qt8 at h;rw [e] at h;cases hq : C f with
   | val spec =>
    rw [hq] at h;simp only at h;obtain ⟨_, _, _, _, _, _, _, h1⟩ := qjG h;exact qoI h1 hb
   | none => rw [hq] at h; cases h
   | fresh s spec => rw [hq] at h; cases h
   | shared spec => rw [hq] at h; cases h
theorem qqL {H : Hp} {id : Id} {s bytes : Nat} {ys : List (List DV)} {x : AV} {r : AV} {H1 : Hp} (h : qr3 H id s bytes ys x = some (r, H1)) :
  ∃ bo blk, (∃ es, blk = Blk.row s es)/\(∀ b, bo = some b->∃ s es, H b = some (.row s es))/\H1 = qj5 H bo id blk/\∀ H', LeR H H'->qr3 H' id s bytes ys x = some (r, qj5 H' bo id blk) := by
 cases x <;> simp only [qr3, reduceCtorEq] at h
 ·rename_i d
  cases d <;> simp only [reduceCtorEq] at h
  split at h
  ·rename_i hc
   simp only [Option.some.injEq, Prod.mk.injEq] at h;obtain ⟨rfl, rfl⟩ := h;refine ⟨none, _, ⟨_, rfl⟩, fun _ h => (by cases h), rfl, fun H' _ => ?_⟩;simp only [qr3];rw [if_pos hc];rfl
  ·cases h
 ·rename_i b s' o n
  split at h
  ·rename_i s'' es hb
   split at h
   ·rename_i hc
    simp only [Option.some.injEq, Prod.mk.injEq] at h;obtain ⟨rfl, rfl⟩ := h;refine ⟨some b, _, ⟨_, rfl⟩, fun b' h => (by cases h; exact ⟨_, _, hb⟩), rfl, fun H' hle => ?_⟩;simp only [qr3, hle _ _ hb ⟨_, _, .inl rfl⟩];rw [if_pos hc];rfl
   ·cases h
  ·cases h
theorem qwQ {H H1 : Hp} {ρ : Opd->AV} {ρp : Bool->Opd->AV} {id : Id} {o : AOp} {x : AV} (h : qe7 (qm0 S LB C) H ρ ρp ns id o = some (x, H1)) {i : Id} (hb : qe6 (H i) = true) : qe6 (H1 i) = true := by
 cases o with
 | p o =>
  simp only [qe7, Option.map_eq_some_iff, Prod.mk.injEq] at h;obtain ⟨_, _, _, rfl⟩ := h;exact hb
 | r o =>
  cases o with
  | call f l => exact qeE h hb
  | callv y l =>
   simp only [qe7] at h;split at h
   ·exact qeE h hb
   ·exact qeE h hb
   ·cases h
  | load n a y => simp only [qe7, Option.map_eq_some_iff, Prod.mk.injEq] at h; obtain ⟨_, _, _, rfl⟩ := h; exact hb
  | b2s y => simp only [qe7, Option.map_eq_some_iff, Prod.mk.injEq] at h; obtain ⟨_, _, _, rfl⟩ := h; exact hb
  | s2b y => simp only [qe7, Option.map_eq_some_iff, Prod.mk.injEq] at h; obtain ⟨_, _, _, rfl⟩ := h; exact hb
  | sla n y lo hi => simp only [qe7, Option.map_eq_some_iff, Prod.mk.injEq] at h; obtain ⟨_, _, _, rfl⟩ := h; exact hb
 | a o =>
  simp only [qe7] at h;split at h
  ·cases h
  ·rename_i hid
   have hid : H id = none := by cases hq : H id <;> simp_all
   simp only [Option.map_eq_some_iff, Prod.mk.injEq] at h;obtain ⟨_, _, _, rfl⟩ := h;rw [qg6 (by rw [hid]; rfl) hb];exact hb
 | w o =>
  simp only [qe7] at h;cases o with
  | store n y v =>
   simp only [qdE] at h;split at h
   ·split at h
    ·split at h
     ·rename_i b o' _
      split at h
      ·rename_i cells hc
       split at h
       ·simp only [Option.some.injEq, Prod.mk.injEq] at h
        obtain ⟨_, rfl⟩ := h;unfold upd;split
        ·rfl
        ·exact hb
       ·cases h
      ·cases h
     ·rename_i b i' o' _
      split at h
      ·rename_i s' es ds ids hbb _
       split at h
       ·rename_i es' H' _ hf
        split at h
        ·cases h
        ·simp only [Option.some.injEq, Prod.mk.injEq] at h
         obtain ⟨_, rfl⟩ := h;by_cases e : i = b
         ·subst e
          rw [hbb] at hb;cases hb
         ·simp only [upd, if_neg e]
          exact qoI hf hb
       ·cases h
      ·cases h
     ·cases h
    ·cases h
   ·cases h
  | app s' bytes str y z =>
   simp only [qdE] at h;split at h
   ·split at h
    ·cases h
    ·rename_i hid
     have hid : H id = none := by cases hq : H id <;> simp_all
     obtain ⟨bo, blk, _, h2, rfl, _⟩ := qqL h;cases bo with
     | none =>
      show qe6 (upd H id (some blk) i) = true;rw [qg6 (by rw [hid]; rfl) hb];exact hb
     | some b =>
      obtain ⟨s1, es1, hbb⟩ := h2 b rfl;show qe6 (upd (upd H b (some .dead)) id (some blk) i) = true;have e1 : upd H b (some .dead) i = H i := qg6 (by rw [hbb]; rfl) hb
      have hn : upd H b (some .dead) id = none := by
       unfold upd;rw [if_neg (fun e => by subst e; rw [hid] at hbb; cases hbb), hid]
      rw [qg6 (by rw [hn]; rfl) (by rw [e1]; exact hb), e1];exact hb
   ·cases h
  | clr s' z y =>
   simp only [qdE] at h;split at h
   ·simp only [Option.some.injEq, Prod.mk.injEq] at h
    rw [← h.2]; exact hb
   ·split at h
    ·rename_i b _ _ _ _ _ _ hbb
     split at h
     ·simp only [Option.some.injEq, Prod.mk.injEq] at h
      obtain ⟨_, rfl⟩ := h;rw [qg6 (by rw [hbb]; rfl) hb];exact hb
     ·cases h
    ·cases h
   ·cases h
  | s2s y =>
   simp only [qdE] at h;split at h
   ·rename_i b s' o' n _
    split at h
    ·rename_i s'' es hbb
     split at h
     ·simp only [Option.some.injEq, Prod.mk.injEq] at h
      obtain ⟨_, rfl⟩ := h;rw [qg6 (by rw [hbb]; rfl) hb];exact hb
     ·cases h
    ·cases h
   ·cases h
theorem qoJ {s : St} {i : AIns} {x : AV} {H1 : Hp} (h : eff (qm0 S LB C) ns s i = some (x, H1)) {id : Id} (hb : qe6 (s.H id) = true) : qe6 (H1 id) = true := by
 obtain ⟨g, hg, h⟩ := qg7 h;unfold qv7 at h;split at h
 ·split at h
  ·simp only [Option.some.injEq, Prod.mk.injEq] at h
   rw [← h.2]; exact hb
  ·cases g with
   | true => cases h
   | false =>
    simp only [cond_false, Option.some.injEq, Prod.mk.injEq] at h;rw [← h.2]; exact hb
 ·cases g with
  | true => exact qwQ h hb
  | false =>
   simp only [cond_false, Option.some.injEq, Prod.mk.injEq] at h;rw [← h.2]; exact hb
theorem zo3 {D : FuncId->Con} {s : St} {i : AIns} (hc : (∃ z, i.op = .a (.alloc z))\/∃ z, i.op = .a (.bx z)) {x : AV} {H1 : Hp} (h : eff D ns s i = some (x, H1)) :
  x = .val (.tup [])\/(x = .box (qj2 i ns) 0/\qe6 (H1 (qj2 i ns)) = true) := by
 obtain ⟨g, hg, h⟩ := qg7 h;have hcalm : ¬ (qaC i.op && i.guard.isSome) = true := by rcases hc with ⟨z, ho⟩ | ⟨z, ho⟩ <;> rw [ho] <;> simp [qaC]
 unfold qv7 at h;rw [if_neg hcalm] at h;cases g with
 | false =>
  simp only [cond_false, Option.some.injEq, Prod.mk.injEq] at h;exact .inl h.1.symm
 | true =>
  simp only [cond_true] at h;rcases hc with ⟨z, ho⟩ | ⟨z, ho⟩
  ·rw [ho] at h
   simp only [qe7, qfF] at h;split at h
   ·cases h
   ·split at h
    ·simp only [Option.map_some, Option.some.injEq, Prod.mk.injEq] at h
     obtain ⟨rfl, rfl⟩ := h;exact .inr ⟨rfl, by rw [qc0]; rfl⟩
    ·cases h
  ·rw [ho] at h
   simp only [qe7, qfF] at h;split at h
   ·cases h
   ·split at h
    ·split at h
     ·simp only [Option.map_some, Option.some.injEq, Prod.mk.injEq] at h
      obtain ⟨rfl, rfl⟩ := h;exact .inr ⟨rfl, by rw [qc0]; rfl⟩
     ·cases h
    ·cases h
theorem InvB.step {L : List (Nat × Nat)} {EL AL : List Nat} {ids : Nat->Id} {s s' : St} {i : AIns} (hok : okB L EL AL i = true) (hAL : ∀ d ∈ AL, ids d = d :: ns) (hI : InvB L EL ids s) (h : AI.step (qm0 S LB C) ns s i = some s') : InvB L EL ids s' := by
 obtain ⟨x, H1, he, rfl⟩ := qaE h;have hbox : ∀ id, qe6 (s.H id) = true->qe6 (H1 id) = true := fun id => qoJ he
 have may : ∀ {i : Id} {b : Option Blk} {y x : AV}, pB0 i b y->(x = y\/∃ c, x = .may c y)->pB i b x := by
  rintro i b y x hy (rfl | ⟨c, rfl⟩)
  ·cases x <;> first | exact hy | exact hy.elim
  ·exact hy
 have mayn : ∀ {y x : AV}, nB0 y->(x = y\/∃ c, x = .may c y)->nB x := by
  rintro y x hy (rfl | ⟨c, rfl⟩)
  ·cases x <;> first | exact hy | exact hy.elim
  ·exact hy
 refine ⟨fun t c hc => ?_, fun t ht => ?_⟩
 ·simp only [qt2]
  split
  ·rename_i hd
   unfold okB at hok;rw [hd.1] at hok;simp only [hc, Bool.and_eq_true] at hok;have hop := hok.1;have base : ∀ b g, lk L b = some c->pB0 (ids c) (H1 (ids c)) (unw g (look s.env.l b)) := fun b g hb => qiA (zo0 (hbox _) (hI.cl b c hb)) g
   split at hop
   ·rename_i o b ho
    obtain ⟨_, ⟨g, gp, y, h1, h2⟩ | h2⟩ := qqK ho he
    ·simp only [qe2, evE] at h1
     exact may (qzH (base b g (by simpa using hop)) h1) h2
    ·rw [h2]; trivial
   ·rename_i n z b j ho
    obtain ⟨_, ⟨g, gp, y, h1, h2⟩ | h2⟩ := qqK ho he
    ·simp only [qe2, evE] at h1
     split at h1
     ·split at h1
      ·exact may (qzH (base b g (by simpa using hop)) h1) h2
      ·cases h1
     ·cases h1
    ·rw [h2]; trivial
   ·rename_i b ho
    obtain ⟨_, ⟨g, gp, y, h1, h2⟩ | h2⟩ := qqK ho he
    ·simp only [qe2, evE, Option.some.injEq] at h1
     have hb := base b g (by simpa using hop);rw [h1] at hb;exact may hb h2
    ·rw [h2]; trivial
   ·rename_i b ho
    obtain ⟨_, ⟨g, gp, y, h1, h2⟩ | h2⟩ := qqK ho he
    ·simp only [qe2, evE] at h1
     have hb := base b g (by simpa using hop);generalize unw g (look s.env.l b) = z at hb h1
     have : z = y := by
      split at h1 <;> first | (cases h1; rfl) | cases h1
     rw [this] at hb;exact may hb h2
    ·rw [h2]; trivial
   ·rename_i z ho
    simp only [Bool.and_eq_true] at hop;have hcd : c = t := Nat.eq_of_beq_eq_true hop.1
    have hi : ids c = qj2 i ns := by
     rw [hcd, hAL t (by simpa using hop.2)];unfold qj2;rw [hd.1];rfl
    rcases zo3 (.inl ⟨z, ho⟩) he with h2 | ⟨h2, h3⟩
    ·rw [h2]; trivial
    ·rw [h2, hi]; exact ⟨rfl, h3⟩
   ·rename_i z ho
    simp only [Bool.and_eq_true] at hop;have hcd : c = t := Nat.eq_of_beq_eq_true hop.1
    have hi : ids c = qj2 i ns := by
     rw [hcd, hAL t (by simpa using hop.2)];unfold qj2;rw [hd.1];rfl
    rcases zo3 (.inr ⟨z, ho⟩) he with h2 | ⟨h2, h3⟩
    ·rw [h2]; trivial
    ·rw [h2, hi]; exact ⟨rfl, h3⟩
   ·cases hop
  ·exact zo0 (hbox _) (hI.cl t c hc)
 ·simp only [qt2]
  split
  ·rename_i hd
   unfold okB at hok;rw [hd.1] at hok;simp only [ht, Bool.and_eq_true, Bool.not_true, Bool.false_or] at hok;have hop := hok.2;have base : ∀ b g, EL.contains b = true->nB0 (unw g (look s.env.l b)) := fun b g hb => zn9 (hI.el b hb) g
   split at hop
   ·rename_i s' b j ho
    obtain ⟨_, ⟨g, gp, y, h1, h2⟩ | h2⟩ := qqK ho he
    ·simp only [qe2] at h1
     refine mayn ?_ h2
     split at h1
     ·split at h1
      ·split at h1
       ·split at h1
        ·cases h1; trivial
        ·cases h1
       ·cases h1
      ·split at h1
       ·cases h1; trivial
       ·cases h1
      ·cases h1
     ·cases h1
    ·rw [h2]; trivial
   ·rename_i o b ho
    obtain ⟨_, ⟨g, gp, y, h1, h2⟩ | h2⟩ := qqK ho he
    ·simp only [qe2, evE] at h1
     exact mayn (qzI (base b g hop) h1) h2
    ·rw [h2]; trivial
   ·rename_i n z b j ho
    obtain ⟨_, ⟨g, gp, y, h1, h2⟩ | h2⟩ := qqK ho he
    ·simp only [qe2, evE] at h1
     split at h1
     ·split at h1
      ·exact mayn (qzI (base b g hop) h1) h2
      ·cases h1
     ·cases h1
    ·rw [h2]; trivial
   ·rename_i b ho
    obtain ⟨_, ⟨g, gp, y, h1, h2⟩ | h2⟩ := qqK ho he
    ·simp only [qe2, evE, Option.some.injEq] at h1
     have hb := base b g hop;rw [h1] at hb;exact mayn hb h2
    ·rw [h2]; trivial
   ·rename_i b ho
    obtain ⟨_, ⟨g, gp, y, h1, h2⟩ | h2⟩ := qqK ho he
    ·simp only [qe2, evE] at h1
     have hb := base b g hop;generalize unw g (look s.env.l b) = z at hb h1
     have : z = y := by
      split at h1 <;> first | (cases h1; rfl) | cases h1
     rw [this] at hb;exact mayn hb h2
    ·rw [h2]; trivial
   ·cases hop
  ·exact hI.el t ht
end
section
variable {C : FuncId->Con} {ns : Id} {S : List FuncId} {LB : List (FuncId × LibK)} {L : List (Nat × Nat)} {EL : List Nat} {ids : Nat->Id}
def zf8 (env : Env) (H : Hp) (guard : Option (Nat × Bool)) (r : Bool->Option AV) : Option (AV × Hp) :=
 match gv env guard with
 | some g => if guard.isSome = true then (match r g with
   | some v => some (.may g v, H)
   | none => bif g then none else some (.val (.tup []), H))
  else bif g then (r true).map fun v => (v, H) else some (.val (.tup []), H)
 | none => none
theorem qzJ {D : FuncId->Con} {env : Env} {H : Hp} {i : AIns} {n : Nat} {agg : Bool} {x : Nat} (ho : i.op = .r (.load n agg (.t x))) :
  eff D ns ⟨env, H⟩ i = zf8 env H i.guard fun g => qk1 H n agg (unw g (look env.l x)) := by
 unfold eff zf8 qv7;simp only;cases gv env i.guard with
 | none => rfl
 | some g =>
  simp only [ho, qe7, qiU, qaC, Bool.true_and, evE];cases hg : i.guard with
  | none =>
   simp only [Option.isSome_none, Bool.false_eq_true, if_false]
  | some p =>
   simp only [Option.isSome_some, if_true];cases qk1 H n agg (unw g (look env.l x)) <;> rfl
theorem zf9 {env : Env} {H : Hp} {guard : Option (Nat × Bool)} {r : Bool->Option AV} {y : AV} {H1 : Hp} (h : zf8 env H guard r = some (y, H1)) : H1 = H/\∀ H', zf8 env H' guard r = some (y, H') := by
 unfold zf8 at h ⊢;split at h
 ·rename_i g hg
  split at h
  ·rename_i hs
   split at h
   ·rename_i v hv
    simp only [Option.some.injEq, Prod.mk.injEq] at h;refine ⟨h.2.symm, fun H' => ?_⟩;rw [if_pos hs];simp only [hv, h.1]
   ·rename_i hv
    cases g with
    | true => cases h
    | false =>
     simp only [cond_false, Option.some.injEq, Prod.mk.injEq] at h;refine ⟨h.2.symm, fun H' => ?_⟩;rw [if_pos hs];simp only [hv, cond_false, h.1]
  ·rename_i hs
   cases g with
   | true =>
    simp only [cond_true, Option.map_eq_some_iff, Prod.mk.injEq] at h;obtain ⟨v, h1, h2, h3⟩ := h;refine ⟨h3.symm, fun H' => ?_⟩;rw [if_neg hs, h1, ← h2];rfl
   | false =>
    simp only [cond_false, Option.some.injEq, Prod.mk.injEq] at h;refine ⟨h.2.symm, fun H' => ?_⟩;rw [if_neg hs, ← h.1];rfl
 ·cases h
theorem qe3 {D : FuncId->Con} {env : Env} {H H' : Hp} {i : AIns} {n : Nat} {agg : Bool} {x : Nat} (ho : i.op = .r (.load n agg (.t x))) (hs : ∀ g, qk1 H' n agg (unw g (look env.l x)) = qk1 H n agg (unw g (look env.l x))) {y : AV} {H1 : Hp} (h : eff D ns ⟨env, H⟩ i = some (y, H1)) : H1 = H/\eff D ns ⟨env, H'⟩ i = some (y, H') := by
 rw [qzJ ho] at h ⊢;obtain ⟨h1, h2⟩ := zf9 h;refine ⟨h1, ?_⟩;have : (fun g => qk1 H' n agg (unw g (look env.l x))) = fun g => qk1 H n agg (unw g (look env.l x)) := funext hs
 rw [this];exact h2 H'
theorem qcR {H H' : Hp} {n : Nat} {agg : Bool} {v : AV} {i : Id} (hv : pB0 i (H i) v) (h : qe6 (H i) = true->H' i = H i) : qk1 H' n agg v = qk1 H n agg v := by
 cases v <;> try rfl
 ·rename_i d
  cases d <;> rfl
 ·rename_i id o
  obtain ⟨rfl, hb⟩ := hv;simp only [qk1, h hb]
 ·exact hv.elim
theorem loadA_el {H H' : Hp} {n : Nat} {agg : Bool} {v : AV} {b : Id} (hv : nB0 v) (hb : qe6 (H b) = true) (hb' : qe6 (H' b) = true) (h : ∀ id, id ≠ b->H' id = H id) : qk1 H' n agg v = qk1 H n agg v := by
 cases v <;> try rfl
 ·rename_i d
  cases d <;> rfl
 ·exact hv.elim
 ·rename_i id i o
  by_cases e : id = b
  ·subst e
   have : ∀ H : Hp, qe6 (H id) = true->qk1 H n agg (.elt id i o) = none := by
    intro H hx;simp only [qk1];cases hq : H id with
    | none => rfl
    | some b => cases b <;> first | rfl | (rw [hq] at hx; cases hx)
   rw [this _ hb, this _ hb']
  ·simp only [qk1, h id e]
def isLc (L : List (Nat × Nat)) (i : AIns) : Bool := match i.op with
 | .r (.load _ _ (.t x)) => (lk L x).isSome
 | _ => false
def isLe (EL : List Nat) (i : AIns) : Bool := match i.op with
 | .r (.load _ _ (.t x)) => EL.contains x
 | _ => false
def isSt (L : List (Nat × Nat)) (i : AIns) : Bool := match i.op with
 | .w (.store _ (.t y) _) => (lk L y).isSome
 | _ => false
def isLb (LB : List (FuncId × LibK)) : AOp->Bool
 | .r (.call f _) => (qx8 LB f).isSome
 | _ => false
def isSc (S : List FuncId) (LB : List (FuncId × LibK)) : AOp->Bool
 | .r (.call f _) => S.contains f && (qx8 LB f).isNone
 | _ => false
def qkZ (S : List FuncId) (LB : List (FuncId × LibK)) (o : AOp) : Bool := match o with
 | .p _ => true
 | .r o => qdP S LB (.r o) || isLb LB (.r o) || isSc S LB (.r o)
 | .a _ => true
 | .w (.app ..) => true
 | _ => false
theorem qqM {s : St} {i : AIns} (hk : qkZ S LB i.op = true) {x : AV} {H1 : Hp} (h : eff (qm0 S LB C) ns s i = some (x, H1)) {id : Id} (hb : qe6 (s.H id) = true) : H1 id = s.H id := by
 have key : ∀ {ρ : Opd->AV} {ρp : Bool->Opd->AV}, qe7 (qm0 S LB C) s.H ρ ρp ns (qj2 i ns) i.op = some (x, H1)->H1 id = s.H id := by
  intro ρ ρp h;cases ho : i.op with
  | p o =>
   rw [ho] at h;simp only [qe7, Option.map_eq_some_iff, Prod.mk.injEq] at h;obtain ⟨_, _, _, rfl⟩ := h;rfl
  | r o =>
   rw [ho] at h hk;simp only [qkZ, Bool.or_eq_true] at hk;rcases hk with (hk | hk) | hk
   ·rw [qzG hk] at h
    have : cls (.r o) = 1 := rfl;rw [(semE1 (H' := s.H) this h).1]
   ·cases o with
    | call f l =>
     obtain ⟨k, hl⟩ := Option.isSome_iff_exists.1 hk;have e : qm0 S LB C f = .shared (qc7 k) := by unfold qm0; rw [hl]
     simp only [qe7] at h;unfold qt8 at h;rw [e] at h;obtain ⟨bo, blk, _, h2, h3, rfl, _⟩ := qkX h;exact qiB h2 h3 hb
    | _ => cases hk
   ·cases o with
    | call f l =>
     simp only [isSc, Bool.and_eq_true, Option.isNone_iff_eq_none] at hk
     have e : qm0 S LB C f = (match C f with
      | .val spec => .shared fun _ args H => zf7 spec H args
      | _ => .none) := by unfold qm0; rw [hk.2]; simp only [hk.1] <;> cases C f <;> rfl
     simp only [qe7] at h;unfold qt8 at h;rw [e] at h;cases hq : C f with
     | val spec =>
      rw [hq] at h;simp only at h;obtain ⟨ds, ids, r, _, _, _, hall, hf⟩ := qjG h
      have hni : id ∉ (if r.flat then [] else ids) := by
       intro hm;have := hall id hm;unfold qnO at this;unfold qe6 at hb;cases hq : s.H id with
       | none => rw [hq] at this; cases this
       | some b => rw [hq] at this hb; cases b <;> simp at this hb
      exact qbO hf (by rw [← Bool.not_eq_true, List.contains_iff_mem]; exact hni)
     | none => rw [hq] at h; cases h
     | fresh s spec => rw [hq] at h; cases h
     | shared spec => rw [hq] at h; cases h
    | _ => cases hk
  | a o =>
   rw [ho] at h;simp only [qe7] at h;split at h
   ·cases h
   ·rename_i hid
    have hid : s.H (qj2 i ns) = none := by cases hq : s.H (qj2 i ns) <;> simp_all
    simp only [Option.map_eq_some_iff, Prod.mk.injEq] at h;obtain ⟨_, _, _, rfl⟩ := h;exact qg6 (by rw [hid]; rfl) hb
  | w o =>
   rw [ho] at h hk;cases o with
   | app s' bytes str y z =>
    simp only [qe7, qdE] at h;split at h
    ·split at h
     ·cases h
     ·rename_i hid
      have hid : s.H (qj2 i ns) = none := by cases hq : s.H (qj2 i ns) <;> simp_all
      obtain ⟨bo, blk, _, h2, rfl, _⟩ := qqL h;cases bo with
      | none => exact qg6 (by rw [hid]; rfl) hb
      | some b =>
       obtain ⟨s1, es1, hbb⟩ := h2 b rfl;show upd (upd s.H b (some .dead)) (qj2 i ns) (some blk) id = s.H id;have e1 : upd s.H b (some .dead) id = s.H id := qg6 (by rw [hbb]; rfl) hb
       have hn : upd s.H b (some .dead) (qj2 i ns) = none := by
        unfold upd;rw [if_neg (fun e => by subst e; rw [hid] at hbb; cases hbb), hid]
       rw [qg6 (by rw [hn]; rfl) (by rw [e1]; exact hb), e1]
    ·cases h
   | store => cases hk
   | clr => cases hk
   | s2s => cases hk
 obtain ⟨g, hg, h⟩ := qg7 h;unfold qv7 at h;split at h
 ·split at h
  ·simp only [Option.some.injEq, Prod.mk.injEq] at h
   rw [← h.2]
  ·cases g with
   | true => cases h
   | false =>
    simp only [cond_false, Option.some.injEq, Prod.mk.injEq] at h;rw [← h.2]
 ·cases g with
  | true => exact key h
  | false =>
   simp only [cond_false, Option.some.injEq, Prod.mk.injEq] at h;rw [← h.2]
theorem qjJ {i : AIns} (h : isLc L i = true) : ∃ n agg x c, i.op = .r (.load n agg (.t x))/\lk L x = some c := by
 unfold isLc at h;split at h
 ·rename_i n agg x ho
  obtain ⟨c, hc⟩ := Option.isSome_iff_exists.1 h;exact ⟨n, agg, x, c, ho, hc⟩
 ·cases h
theorem comm_lk {k i : AIns} (ha : qo8 k i = true) (hk : isLc L k = true) (hi : qkZ S LB i.op = true) : qdO (qm0 S LB C) ns (InvB L EL ids) k i := qp3 ha fun s x y H1 H2 hI e1 e2 => by
 obtain ⟨n, agg, t, c, ho, hc⟩ := qjJ hk;obtain ⟨rfl, _⟩ := qe3 (H' := s.H) ho (fun _ => rfl) (show eff (qm0 S LB C) ns ⟨s.env, s.H⟩ k = some (x, H1) from e1);refine ⟨H2, e2, ?_⟩;exact (qe3 ho (fun g => qcR (qiA (hI.cl t c hc) g) fun hb => qqM (s := ⟨s.env, s.H⟩) hi e2 hb) (show eff (qm0 S LB C) ns ⟨s.env, s.H⟩ k = some (x, s.H) from e1)).2
theorem comm_kl {k i : AIns} (ha : qo8 k i = true) (hk : qkZ S LB k.op = true) (hi : isLc L i = true) : qdO (qm0 S LB C) ns (InvB L EL ids) k i := qp3 ha fun s x y H1 H2 hI e1 e2 => by
 obtain ⟨n, agg, t, c, ho, hc⟩ := qjJ hi;have hb1 : qe6 (s.H (ids c)) = true->H1 (ids c) = s.H (ids c) := fun hb => qqM hk e1 hb
 obtain ⟨rfl, q⟩ := qe3 (H' := s.H) ho (fun g => by
  have := qcR (H' := H1) (n := n) (agg := agg) (qiA (hI.cl t c hc) g) hb1;exact this.symm) e2
 exact ⟨s.H, q, e1⟩
theorem qfL {s : St} {i : AIns} {n : Nat} {t : Nat} {v : Opd} {c : Nat} (ho : i.op = .w (.store n (.t t) v)) (hc : lk L t = some c) (hI : InvB L EL ids s) {D : FuncId->Con} {y : AV} {H2 : Hp} (h : eff D ns s i = some (y, H2)) :
  (∀ id, id ≠ ids c->H2 id = s.H id)/\(H2 = s.H\/(qe6 (s.H (ids c)) = true/\qe6 (H2 (ids c)) = true)) := by
 obtain ⟨g, hg, h⟩ := qg7 h;have hcalm : ¬ (qaC i.op && i.guard.isSome) = true := by rw [ho]; simp [qaC]
 unfold qv7 at h;rw [if_neg hcalm] at h;cases g with
 | false =>
  simp only [cond_false, Option.some.injEq, Prod.mk.injEq] at h;rw [← h.2];exact ⟨fun _ _ => rfl, .inl rfl⟩
 | true =>
  simp only [cond_true, ho, qe7, qdE, evE] at h;split at h
  ·split at h
   ·have hp := qiA (hI.cl t c hc) true
    generalize unw true (look s.env.l t) = p at h hp;cases p <;> simp only [reduceCtorEq] at h
    ·rename_i b o
     obtain ⟨rfl, hb⟩ := hp;split at h
     ·rename_i cells hcs
      split at h
      ·simp only [Option.some.injEq, Prod.mk.injEq] at h
       obtain ⟨_, rfl⟩ := h;exact ⟨fun id hne => qc1 _ _ hne, .inr ⟨hb, by rw [qc0]; rfl⟩⟩
      ·cases h
     ·cases h
    ·exact hp.elim
   ·cases h
  ·cases h
theorem isSt_inv {i : AIns} (h : isSt L i = true) : ∃ n t v c, i.op = .w (.store n (.t t) v)/\lk L t = some c := by
 unfold isSt at h;split at h
 ·rename_i n t v ho
  obtain ⟨c, hc⟩ := Option.isSome_iff_exists.1 h;exact ⟨n, t, v, c, ho, hc⟩
 ·cases h
theorem qzK {i : AIns} (h : isLe EL i = true) : ∃ n agg x, i.op = .r (.load n agg (.t x))/\EL.contains x = true := by
 unfold isLe at h;split at h
 ·rename_i n agg x ho
  exact ⟨n, agg, x, ho, h⟩
 ·cases h
theorem zo4 {s : St} {i k : AIns} (hk : isLe EL k = true) (hi : isSt L i = true) (hI : InvB L EL ids s) {y : AV} {H2 : Hp} {D : FuncId->Con} (h : eff D ns s i = some (y, H2)) :
  ∃ n agg t, k.op = .r (.load n agg (.t t))/\∀ g, qk1 H2 n agg (unw g (look s.env.l t)) = qk1 s.H n agg (unw g (look s.env.l t)) := by
 obtain ⟨n, agg, t, ho, ht⟩ := qzK hk;obtain ⟨n', t', v, c, hoi, hc⟩ := isSt_inv hi;refine ⟨n, agg, t, ho, fun g => ?_⟩;obtain ⟨q1, q2 | ⟨q2, q3⟩⟩ := qfL hoi hc hI h
 ·rw [q2]
 ·exact loadA_el (zn9 (hI.el t ht) g) q2 q3 q1
theorem comm_es {k i : AIns} (ha : qo8 k i = true) (hk : isLe EL k = true) (hi : isSt L i = true) : qdO (qm0 S LB C) ns (InvB L EL ids) k i := qp3 ha fun s x y H1 H2 hI e1 e2 => by
 obtain ⟨n0, agg0, t0, ho0, _⟩ := qzK hk;obtain ⟨rfl, _⟩ := qe3 (H' := s.H) ho0 (fun _ => rfl) (show eff (qm0 S LB C) ns ⟨s.env, s.H⟩ k = some (x, H1) from e1);obtain ⟨n, agg, t, ho, hl⟩ := zo4 hk hi hI e2;exact ⟨H2, e2, (qe3 ho hl (show eff (qm0 S LB C) ns ⟨s.env, s.H⟩ k = some (x, s.H) from e1)).2⟩
theorem comm_se {k i : AIns} (ha : qo8 k i = true) (hk : isSt L k = true) (hi : isLe EL i = true) : qdO (qm0 S LB C) ns (InvB L EL ids) k i := qp3 ha fun s x y H1 H2 hI e1 e2 => by
 obtain ⟨n, agg, t, ho, hl⟩ := zo4 hi hk hI e1;obtain ⟨rfl, q⟩ := qe3 (H' := s.H) ho (fun g => (hl g).symm) e2;exact ⟨s.H, q, e1⟩
def isSe (EL : List Nat) (i : AIns) : Bool := match i.op with
 | .w (.store _ (.t y) _) => EL.contains y
 | _ => false
theorem zo5 {H : Hp} {ids : List Id} (h : qhY H ids = false) {id : Id} (hb : qe6 (H id) = true) : ids.contains id = false := by
 induction ids with
 | nil => rfl
 | cons i l ih =>
  simp only [qhY, Bool.or_eq_false_iff] at h;rw [List.contains_cons, ih h.2, Bool.or_false];cases hq : (id == i) with
  | false => rfl
  | true =>
   have : id = i := by simpa using hq
   subst this;rw [hb] at h;cases h.1
theorem qoK {s : St} {i : AIns} (hi : isSe EL i = true) (hI : InvB L EL ids s) {D : FuncId->Con} {y : AV} {H2 : Hp} (h : eff D ns s i = some (y, H2)) {id : Id} (hb : qe6 (s.H id) = true) : H2 id = s.H id := by
 unfold isSe at hi;split at hi
 ·rename_i n t v ho
  obtain ⟨g, hg, h⟩ := qg7 h;have hcalm : ¬ (qaC i.op && i.guard.isSome) = true := by rw [ho]; simp [qaC]
  unfold qv7 at h;rw [if_neg hcalm] at h;cases g with
  | false =>
   simp only [cond_false, Option.some.injEq, Prod.mk.injEq] at h;rw [← h.2]
  | true =>
   simp only [cond_true, ho, qe7, qdE, evE] at h;split at h
   ·split at h
    ·have hp := zn9 (hI.el t hi) true
     generalize unw true (look s.env.l t) = p at h hp;cases p <;> simp only [reduceCtorEq] at h
     ·exact hp.elim
     ·rename_i b k o
      split at h
      ·rename_i s' es ds ids' hbb hd
       split at h
       ·rename_i es' H' hst hfix
        split at h
        ·cases h
        ·rename_i hno
         simp only [Option.some.injEq, Prod.mk.injEq] at h;obtain ⟨_, rfl⟩ := h;simp only [Bool.or_eq_true, not_or, Bool.not_eq_true] at hno
         have hne : id ≠ b := by
          intro e;subst e;rw [hbb] at hb;cases hb
         rw [qc1 _ _ hne];exact qbO hfix (zo5 hno.2 hb)
       ·cases h
      ·cases h
    ·cases h
   ·cases h
 ·cases hi
theorem comm_lt {k i : AIns} (ha : qo8 k i = true) (hk : isLc L k = true) (hi : isSe EL i = true) : qdO (qm0 S LB C) ns (InvB L EL ids) k i := qp3 ha fun s x y H1 H2 hI e1 e2 => by
 obtain ⟨n, agg, t, c, ho, hc⟩ := qjJ hk;obtain ⟨rfl, _⟩ := qe3 (H' := s.H) ho (fun _ => rfl) (show eff (qm0 S LB C) ns ⟨s.env, s.H⟩ k = some (x, H1) from e1);refine ⟨H2, e2, ?_⟩;exact (qe3 ho (fun g => qcR (qiA (hI.cl t c hc) g) fun hb => qoK (s := ⟨s.env, s.H⟩) hi hI e2 hb) (show eff (qm0 S LB C) ns ⟨s.env, s.H⟩ k = some (x, s.H) from e1)).2
theorem comm_tl {k i : AIns} (ha : qo8 k i = true) (hk : isSe EL k = true) (hi : isLc L i = true) : qdO (qm0 S LB C) ns (InvB L EL ids) k i := qp3 ha fun s x y H1 H2 hI e1 e2 => by
 obtain ⟨n, agg, t, c, ho, hc⟩ := qjJ hi;have hb1 : qe6 (s.H (ids c)) = true->H1 (ids c) = s.H (ids c) := fun hb => qoK hk hI e1 hb
 obtain ⟨rfl, q⟩ := qe3 (H' := s.H) ho (fun g => by
  have := qcR (H' := H1) (n := n) (agg := agg) (qiA (hI.cl t c hc) g) hb1;exact this.symm) e2
 exact ⟨s.H, q, e1⟩
def isLS (L needs : List (Nat × Nat)) (k i : AIns) : Bool := match k.op, i.op with
 | .r (.load _ _ (.t x)), .w (.store _ (.t y) _) => (match lk L x, lk L y with
  | some c, some d => needs.contains (c, d)
  | _, _ => false)
 | _, _ => false
theorem qzL {needs : List (Nat × Nat)} {k i : AIns} (h : isLS L needs k i = true) : ∃ n agg x c n' y v d, k.op = .r (.load n agg (.t x))/\lk L x = some c/\i.op = .w (.store n' (.t y) v)/\lk L y = some d/\(c, d) ∈ needs := by
 unfold isLS at h;split at h
 ·rename_i n agg x n' y v h1 h2
  split at h
  ·rename_i c d hc hd
   exact ⟨n, agg, x, c, n', y, v, d, h1, hc, h2, hd, by simpa using h⟩
  ·cases h
 ·cases h
theorem comm_ls {needs : List (Nat × Nat)} (hn : ∀ p ∈ needs, ids p.1 ≠ ids p.2) {k i : AIns} (ha : qo8 k i = true) (h : isLS L needs k i = true) : qdO (qm0 S LB C) ns (InvB L EL ids) k i := qp3 ha fun s x y H1 H2 hI e1 e2 => by
 obtain ⟨n, agg, t, c, n', t', v, d, ho, hc, hoi, hd, hm⟩ := qzL h;obtain ⟨rfl, _⟩ := qe3 (H' := s.H) ho (fun _ => rfl) (show eff (qm0 S LB C) ns ⟨s.env, s.H⟩ k = some (x, H1) from e1);obtain ⟨q1, _⟩ := qfL hoi hd hI e2;exact ⟨H2, e2, (qe3 ho (fun g => qcR (qiA (hI.cl t c hc) g) fun _ => q1 _ (hn _ hm)) (show eff (qm0 S LB C) ns ⟨s.env, s.H⟩ k = some (x, s.H) from e1)).2⟩
theorem comm_sl {needs : List (Nat × Nat)} (hn : ∀ p ∈ needs, ids p.1 ≠ ids p.2) {k i : AIns} (ha : qo8 k i = true) (h : isLS L needs i k = true) : qdO (qm0 S LB C) ns (InvB L EL ids) k i := qp3 ha fun s x y H1 H2 hI e1 e2 => by
 obtain ⟨n, agg, t, c, n', t', v, d, ho, hc, hoi, hd, hm⟩ := qzL h;obtain ⟨q1, _⟩ := qfL hoi hd hI e1
 obtain ⟨rfl, q⟩ := qe3 (H' := s.H) ho (fun g => by
  have := qcR (H' := H1) (n := n) (agg := agg) (qiA (hI.cl t c hc) g) fun _ => q1 _ (hn _ hm)
  exact this.symm) e2
 exact ⟨s.H, q, e1⟩
end
def LeF (H H' : Hp) : Prop := ∀ id b, H id = some b->((∃ s es, b = .frow s es)\/∃ cells, b = .fbox cells)->H' id = some b
theorem qzM {H H' : Hp} (h : LeF H H') : ∀ (k : Nat), (∀ x d, qz9 H k x = some (d, [])->qz9 H' k x = some (d, []))/\(∀ l ds, qf5 H k l = some (ds, [])->qf5 H' k l = some (ds, []))
 | 0 => ⟨fun _ _ h => by simp [qz9] at h, fun _ _ h => by simp [qf5] at h⟩
 | k + 1 => by
  obtain ⟨ih1, ih2⟩ := qzM h k;constructor
  ·intro x r hr
   cases x <;> simp only [qz9, reduceCtorEq] at hr ⊢ <;> try exact hr
   case row id s o n =>
    cases hq : H id with
    | none => rw [hq] at hr; cases hr
    | some c =>
     cases c with
     | row s' es =>
      rw [hq] at hr;dsimp only at hr;split at hr
      ·simp at hr
      ·cases hr
     | frow s' es => rw [h _ _ hq (.inl ⟨_, _, rfl⟩)]; rw [hq] at hr; exact hr
     | fbox cells => rw [h _ _ hq (.inr ⟨_, rfl⟩)]; rw [hq] at hr; exact hr
     | dead => rw [hq] at hr; cases hr
     | fns s es => rw [hq] at hr; cases hr
     | box cells =>
      rw [hq] at hr;dsimp only [qkH] at hr;cases hd : qbH cells with
      | none => rw [hd] at hr; cases hr
      | some ds =>
       rw [hd] at hr;dsimp only at hr;by_cases hl : ds.length<=65536
       ·rw [if_pos hl] at hr
        dsimp only at hr;split at hr
        ·simp at hr
        ·cases hr
       ·rw [if_neg hl] at hr; cases hr
   case box id o =>
    split at hr
    ·simp only [Option.map_eq_some_iff, Prod.mk.injEq] at hr
     obtain ⟨a, ha, _, hr⟩ := hr;cases hr
    ·rename_i cells hb; rw [h _ _ hb (.inr ⟨_, rfl⟩)]; exact hr
    ·cases hr
   case elt id i o =>
    split at hr
    ·rename_i s es hb; rw [h _ _ hb (.inl ⟨_, _, rfl⟩)]; exact hr
    ·simp only [Option.map_eq_some_iff, Prod.mk.injEq] at hr
     obtain ⟨a, ha, _, hr⟩ := hr;cases hr
    ·cases hr
   case agg l =>
    simp only [Option.map_eq_some_iff, Prod.mk.injEq] at hr ⊢;obtain ⟨⟨a, b⟩, ha, h1, h2⟩ := hr;simp only at h2;subst h2;exact ⟨_, ih2 _ _ ha, h1, rfl⟩
   case clo f l =>
    simp only [Option.map_eq_some_iff, Prod.mk.injEq] at hr ⊢;obtain ⟨⟨a, b⟩, ha, h1, h2⟩ := hr;simp only at h2;subst h2;exact ⟨_, ih2 _ _ ha, h1, rfl⟩
  ·intro l r hr
   cases l with
   | nil => exact hr
   | cons x l =>
    simp only [qf5] at hr ⊢;split at hr
    ·rename_i d a ds b h1 h2
     simp only [Option.some.injEq, Prod.mk.injEq, List.append_eq_nil_iff] at hr;obtain ⟨hr, rfl, rfl⟩ := hr;rw [ih1 _ _ h1, ih2 _ _ h2, ← hr];rfl
    ·cases hr
section
variable {C : FuncId->Con} {ns : Id} {S : List FuncId} {LB : List (FuncId × LibK)} {L : List (Nat × Nat)} {EL : List Nat} {ids : Nat->Id}
theorem qiC {H H' : Hp} (h : LeF H H') {ρ : Opd->AV} {s : Nat} : ∀ {l : List (Nat × Opd)} {es r : List (List DV)}, ql9 H ρ s es l = some r->ql9 H' ρ s es l = some r
 | [], es, r, hr => hr
 | (i, x) :: l, es, r, hr => by
  simp only [ql9] at hr ⊢;split at hr
  ·rename_i cs hc
   split at hr
   ·rename_i ds hd
    rw [(qzM h 99).2 _ _ hd];simp only;split at hr
    ·rename_i hh
     rw [if_pos hh];exact qiC h hr
    ·cases hr
   ·cases hr
  ·cases hr
def mk4 : AOp->Bool
 | .a (.alloc _) => true
 | .a (.bx _) => true
 | .a (.bsl ..) => true
 | _ => false
theorem qlA {D : FuncId->Con} {s : St} {i : AIns} (hc : mk4 i.op = true) {x : AV} {H1 : Hp} (h : eff D ns s i = some (x, H1)) :
  (∃ b, ((∃ cells, b = Blk.box cells)\/∃ s es, b = Blk.row s es)/\s.H (qj2 i ns) = none/\H1 = upd s.H (qj2 i ns) (some b)/\∀ H', LeF s.H H'->H' (qj2 i ns) = none->eff D ns ⟨s.env, H'⟩ i = some (x, upd H' (qj2 i ns) (some b)))\/(H1 = s.H/\∀ H', eff D ns ⟨s.env, H'⟩ i = some (x, H')) := by
 obtain ⟨g, hg, h⟩ := qg7 h;have hg' : ∀ H', gv (St.mk s.env H').env i.guard = some g := fun _ => hg
 cases ho : i.op with
 | p o => rw [ho] at hc; cases hc
 | r o => rw [ho] at hc; cases hc
 | w o => rw [ho] at hc; cases hc
 | a o =>
  have hcalm : ¬ (qaC i.op && i.guard.isSome) = true := by rw [ho]; simp [qaC]
  unfold qv7 at h;rw [if_neg hcalm] at h;cases g with
  | false =>
   simp only [cond_false, Option.some.injEq, Prod.mk.injEq] at h;obtain ⟨rfl, rfl⟩ := h;refine .inr ⟨rfl, fun H' => ?_⟩;rw [qs8 (hg' H')];unfold qv7;rw [if_neg hcalm];rfl
  | true =>
   simp only [cond_true, ho, qe7] at h;split at h
   ·cases h
   ·rename_i hid
    have hid : s.H (qj2 i ns) = none := by cases hq : s.H (qj2 i ns) <;> simp_all
    simp only [Option.map_eq_some_iff, Prod.mk.injEq] at h;obtain ⟨⟨y, b⟩, h1, rfl, rfl⟩ := h;refine .inl ⟨b, ?_, hid, rfl, fun H' hle hid' => ?_⟩
    ·cases o with
     | alloc z =>
      simp only [qfF] at h1;split at h1
      ·cases h1; exact .inl ⟨_, rfl⟩
      ·cases h1
     | bx z =>
      simp only [qfF] at h1;split at h1
      ·split at h1
       ·cases h1; exact .inl ⟨_, rfl⟩
       ·cases h1
      ·cases h1
     | bsl s' n z ps =>
      simp only [qfF] at h1;split at h1
      ·cases h1
      ·simp only [Option.map_eq_some_iff, Prod.mk.injEq] at h1
       obtain ⟨es, _, _, rfl⟩ := h1;exact .inr ⟨_, _, rfl⟩
     | bsf => rw [ho] at hc; cases hc
     | mks => rw [ho] at hc; cases hc
    ·rw [qs8 (hg' H')]
     unfold qv7;rw [if_neg hcalm];simp only [cond_true, ho, qe7];rw [if_neg (by simp [hid'])]
     have : qfF D H' (fun x => unw true (evE s.env x)) (qj2 i ns) o = some (y, b) := by
      cases o with
      | alloc z => exact h1
      | bx z => exact h1
      | bsl s' n z ps =>
       simp only [qfF] at h1 ⊢;split at h1
       ·cases h1
       ·rename_i hq
        rw [if_neg hq];simp only [Option.map_eq_some_iff, Prod.mk.injEq] at h1 ⊢;obtain ⟨es, h2, h3⟩ := h1;exact ⟨es, qiC hle h2, h3⟩
      | bsf => rw [ho] at hc; cases hc
      | mks => rw [ho] at hc; cases hc
     rw [this];rfl
theorem qqN {k i : AIns} (ha : qo8 k i = true) (hk : k.dst.isSome = true) (hi : i.dst.isSome = true) : qj2 k ns ≠ qj2 i ns := by
 obtain ⟨_, _, a3⟩ := qeD ha;intro e;unfold qj2 at e;obtain ⟨dk, hdk⟩ := Option.isSome_iff_exists.1 hk;obtain ⟨di, hdi⟩ := Option.isSome_iff_exists.1 hi;rw [hdk, hdi] at e;simp at e;exact a3 dk hdk (by rw [hdi, e])
theorem qv8 {H : Hp} {a b : Id} {x y : Option Blk} (h : a ≠ b) : upd (upd H a x) b y = upd (upd H b y) a x := by
 funext i
 simp only [upd];by_cases f1 : i = a
 ·subst f1; simp [h]
 ·by_cases f2 : i = b
  ·subst f2; simp [f1]
  ·simp [f1, f2]
theorem comm_mm {D : FuncId->Con} {Inv : St->Prop} {k i : AIns} (ha : qo8 k i = true) (hk : mk4 k.op = true) (hi : mk4 i.op = true) (hkd : k.dst.isSome = true) (hid : i.dst.isSome = true) : qdO D ns Inv k i := qp3 ha fun s x y H1 H2 _ e1 e2 => by
 have hne := qqN (ns := ns) ha hkd hid;rcases qlA hk e1 with ⟨b, hb, q1, q2, q3⟩ | ⟨q2, q3⟩
 ·rcases qlA hi e2 with ⟨b', hb', r1, r2, r3⟩ | ⟨r2, r3⟩
  ·simp only at r1 r2 r3
   have r0 : s.H (qj2 i ns) = none := by
    rw [q2] at r1;simpa [upd, Ne.symm hne] using r1
   have hle : LeF H1 s.H := by
    intro id c hc hf;rw [q2] at hc;simp only [upd] at hc;split at hc
    ·cases hc
     rcases hb with ⟨_, rfl⟩ | ⟨_, _, rfl⟩ <;> rcases hf with ⟨_, _, h⟩ | ⟨_, h⟩ <;> cases h
    ·exact hc
   have hle2 : LeF s.H (upd s.H (qj2 i ns) (some b')) := by
    intro id c hc _;simp only [upd];rw [if_neg (fun e => by subst e; rw [r0] at hc; cases hc)];exact hc
   refine ⟨_, r3 s.H hle r0, ?_⟩;rw [q3 _ hle2 (by simp only [upd, if_neg hne]; exact q1), r2, q2, qv8 (Ne.symm hne)]
  ·simp only at r2
   subst r2;exact ⟨s.H, r3 s.H, e1⟩
 ·subst q2
  exact ⟨H2, e2, q3 H2⟩
def zo6 : AOp->Bool
 | .w (.app ..) => true
 | _ => false
theorem zo7 {D : FuncId->Con} {s : St} {i : AIns} (hc : zo6 i.op = true) {x : AV} {H1 : Hp} (h : eff D ns s i = some (x, H1)) :
  (∃ bo b, (∃ s es, b = Blk.row s es)/\(∀ b, bo = some b->∃ s' es, s.H b = some (.row s' es))/\s.H (qj2 i ns) = none/\H1 = qj5 s.H bo (qj2 i ns) b/\∀ H', LeR s.H H'->H' (qj2 i ns) = none->eff D ns ⟨s.env, H'⟩ i = some (x, qj5 H' bo (qj2 i ns) b))\/(H1 = s.H/\∀ H', eff D ns ⟨s.env, H'⟩ i = some (x, H')) := by
 obtain ⟨g, hg, h⟩ := qg7 h;have hg' : ∀ H', gv (St.mk s.env H').env i.guard = some g := fun _ => hg
 cases ho : i.op with
 | p o => rw [ho] at hc; cases hc
 | r o => rw [ho] at hc; cases hc
 | a o => rw [ho] at hc; cases hc
 | w o =>
  cases o with
  | store => rw [ho] at hc; cases hc
  | clr => rw [ho] at hc; cases hc
  | s2s => rw [ho] at hc; cases hc
  | app s' bytes str y z =>
   have hcalm : ¬ (qaC i.op && i.guard.isSome) = true := by rw [ho]; simp [qaC]
   unfold qv7 at h;rw [if_neg hcalm] at h;cases g with
   | false =>
    simp only [cond_false, Option.some.injEq, Prod.mk.injEq] at h;obtain ⟨rfl, rfl⟩ := h;refine .inr ⟨rfl, fun H' => ?_⟩;rw [qs8 (hg' H')];unfold qv7;rw [if_neg hcalm];rfl
   | true =>
    simp only [cond_true, ho, qe7, qdE] at h;split at h
    ·rename_i ys hys
     split at h
     ·cases h
     ·rename_i hid
      have hid : s.H (qj2 i ns) = none := by cases hq : s.H (qj2 i ns) <;> simp_all
      obtain ⟨bo, blk, ⟨es, hb⟩, h2, h3, h4⟩ := qqL h;refine .inl ⟨bo, blk, ⟨_, es, hb⟩, h2, hid, h3, fun H' hle hid' => ?_⟩;rw [qs8 (hg' H')];unfold qv7;rw [if_neg hcalm];simp only [cond_true, ho, qe7, qdE]
      have hy : (if str = true then (match unw true (evE s.env z) with
        | .val (.str b) => some (qm7 b)
        | _ => none) else elems H' s' (unw true (evE s.env z))) = some ys := by
       cases str with
       | true => exact hys
       | false =>
        simp only [Bool.false_eq_true, if_false] at hys ⊢;exact qsY hle hys
      have hy2 := hy;split
      ·rename_i ys' hys'
       have : ys' = ys := by
        have e : some ys' = some ys := hys'.symm.trans hy;exact Option.some.inj e
       subst this;rw [if_neg (by simp [hid'])];exact h4 H' hle
      ·rename_i hn
       have e : none = some ys := hn.symm.trans hy;cases e
    ·cases h
theorem comm_am {D : FuncId->Con} {Inv : St->Prop} {k i : AIns} (ha : qo8 k i = true) (hk : zo6 k.op = true) (hi : mk4 i.op = true) (hkd : k.dst.isSome = true) (hid : i.dst.isSome = true) : qdO D ns Inv k i := qp3 ha fun s x y H1 H2 _ e1 e2 => by
 have hne := qqN (ns := ns) ha hkd hid;rcases zo7 hk e1 with ⟨bo, b, ⟨bs, bes, hb⟩, hbo, q1, q2, q3⟩ | ⟨q2, q3⟩
 ·rcases qlA hi e2 with ⟨b', hb', r1, r2, r3⟩ | ⟨r2, r3⟩
  ·simp only at r1 r2 r3
   have hk1 : ∀ id c, H1 id = some c->c = b\/c = .dead\/s.H id = some c := by
    intro id c hc;rw [q2] at hc;cases bo with
    | none =>
     simp only [qj5, upd] at hc;split at hc
     ·cases hc; exact .inl rfl
     ·exact .inr (.inr hc)
    | some k =>
     simp only [qj5, upd] at hc;split at hc
     ·cases hc; exact .inl rfl
     ·split at hc
      ·cases hc; exact .inr (.inl rfl)
      ·exact .inr (.inr hc)
   have r0 : s.H (qj2 i ns) = none := by
    cases hq : s.H (qj2 i ns) with
    | none => rfl
    | some c =>
     rw [q2] at r1;cases bo with
     | none => simp only [qj5, upd, if_neg (Ne.symm hne), hq] at r1; cases r1
     | some k =>
      simp only [qj5, upd, if_neg (Ne.symm hne)] at r1;split at r1
      ·cases r1
      ·rw [hq] at r1; cases r1
   have hbi : ∀ k, bo = some k->k ≠ qj2 i ns := by
    intro k hk e;obtain ⟨s', es, h⟩ := hbo k hk;rw [e, r0] at h;cases h
   have hle : LeF H1 s.H := by
    intro id c hc hf;rcases hk1 id c hc with rfl | rfl | h
    ·subst hb
     rcases hf with ⟨_, _, h⟩ | ⟨_, h⟩ <;> cases h
    ·rcases hf with ⟨_, _, h⟩ | ⟨_, h⟩ <;> cases h
    ·exact h
   have hle2 : LeR s.H (upd s.H (qj2 i ns) (some b')) := by
    intro id c hc _;simp only [upd];rw [if_neg (fun e => by subst e; rw [r0] at hc; cases hc)];exact hc
   refine ⟨_, r3 s.H hle r0, ?_⟩;rw [q3 _ hle2 (by simp only [upd, if_neg hne]; exact q1), r2, q2]
   congr 2
   cases bo with
   | none => simp only [qj5]; rw [qv8 (Ne.symm hne)]
   | some k =>
    simp only [qj5];rw [qv8 (Ne.symm (hbi k rfl)), qv8 (Ne.symm hne)]
  ·simp only at r2
   subst r2;exact ⟨s.H, r3 s.H, e1⟩
 ·subst q2
  exact ⟨H2, e2, q3 H2⟩
def isBx : AOp->Bool
 | .a (.alloc _) => true
 | .a (.bx _) => true
 | _ => false
theorem isBx_mk4 {o : AOp} (h : isBx o = true) : mk4 o = true := by
 cases o with
 | a o => cases o <;> first | rfl | cases h
 | _ => cases h
theorem eff_bx {D : FuncId->Con} {s : St} {i : AIns} (hc : isBx i.op = true) {x : AV} {H1 : Hp} (h : eff D ns s i = some (x, H1)) :
  (∃ cells, s.H (qj2 i ns) = none/\H1 = upd s.H (qj2 i ns) (some (.box cells))/\∀ H', H' (qj2 i ns) = none->eff D ns ⟨s.env, H'⟩ i = some (x, upd H' (qj2 i ns) (some (.box cells))))\/(H1 = s.H/\∀ H', eff D ns ⟨s.env, H'⟩ i = some (x, H')) := by
 have c2 : cls i.op = 2 := by
  cases ho : i.op with
  | a o => rw [ho] at hc; cases o <;> first | rfl | cases hc
  | p o => rw [ho] at hc; cases hc
  | r o => rw [ho] at hc; cases hc
  | w o => rw [ho] at hc; cases hc
 rcases eff2 c2 h with ⟨b, h1, h2, h3⟩ | h
 ·rcases qlA (isBx_mk4 hc) h with ⟨b', hb', _, h5, _⟩ | ⟨h5, _⟩
  ·have e : b = b' := by
    have := congrFun (h2.symm.trans h5) (qj2 i ns);simpa [upd] using this
   have hbox : ∃ cells, b = .box cells := by
    obtain ⟨g, hg, h⟩ := qg7 h
    have hcalm : ¬ (qaC i.op && i.guard.isSome) = true := by
     cases ho : i.op with
     | a o => simp [qaC]
     | p o => rw [ho] at hc; cases hc
     | r o => rw [ho] at hc; cases hc
     | w o => rw [ho] at hc; cases hc
    unfold qv7 at h;rw [if_neg hcalm] at h;cases g with
    | false =>
     simp only [cond_false, Option.some.injEq, Prod.mk.injEq] at h;have := congrFun (h2.symm.trans h.2.symm) (qj2 i ns);simp [upd, h1] at this
    | true =>
     simp only [cond_true] at h;cases ho : i.op with
     | p o => rw [ho] at hc; cases hc
     | r o => rw [ho] at hc; cases hc
     | w o => rw [ho] at hc; cases hc
     | a o =>
      rw [ho] at h hc;simp only [qe7] at h;split at h
      ·cases h
      ·simp only [Option.map_eq_some_iff, Prod.mk.injEq] at h
       obtain ⟨⟨y, b2⟩, h6, _, h7⟩ := h
       have e2 : b = b2 := by
        have := congrFun (h2.symm.trans h7.symm) (qj2 i ns);simpa [upd] using this
       subst e2;cases o with
       | alloc z =>
        simp only [qfF] at h6;split at h6
        ·cases h6; exact ⟨_, rfl⟩
        ·cases h6
       | bx z =>
        simp only [qfF] at h6;split at h6
        ·split at h6
         ·cases h6; exact ⟨_, rfl⟩
         ·cases h6
        ·cases h6
       | bsl => cases hc
       | bsf => cases hc
       | mks => cases hc
   obtain ⟨cells, rfl⟩ := hbox;exact .inl ⟨cells, h1, h2, h3⟩
  ·have := congrFun (h2.symm.trans h5) (qj2 i ns)
   simp [upd, h1] at this
 ·exact .inr h
theorem comm_ba {D : FuncId->Con} {Inv : St->Prop} {k i : AIns} (ha : qo8 k i = true) (hk : isBx k.op = true) (hi : zo6 i.op = true) (hkd : k.dst.isSome = true) (hid : i.dst.isSome = true) : qdO D ns Inv k i := qp3 ha fun s x y H1 H2 _ e1 e2 => by
 have hne := qqN (ns := ns) ha hkd hid;rcases eff_bx hk e1 with ⟨cells, q1, q2, q3⟩ | ⟨q2, q3⟩
 ·rcases zo7 hi e2 with ⟨bo, b, ⟨bs, bes, hb⟩, hbo, r1, r2, r3⟩ | ⟨r2, r3⟩
  ·simp only at r1 r2 r3 hbo
   have r0 : s.H (qj2 i ns) = none := by
    rw [q2] at r1;simpa [upd, Ne.symm hne] using r1
   have hle : LeR H1 s.H := by
    intro id c hc hf;rw [q2] at hc;simp only [upd] at hc;split at hc
    ·cases hc
     obtain ⟨_, _, h | h⟩ := hf <;> cases h
    ·exact hc
   have hbk : ∀ k', bo = some k'->k' ≠ qj2 k ns := by
    intro k' hk' e;obtain ⟨s', es, h⟩ := hbo k' hk';rw [q2, e] at h;simp [upd] at h
   refine ⟨_, r3 s.H hle r0, ?_⟩
   have hn : qj5 s.H bo (qj2 i ns) b (qj2 k ns) = none := by
    cases bo with
    | none => simp only [qj5, upd, if_neg hne]; exact q1
    | some k' => simp only [qj5, upd, if_neg hne, if_neg (Ne.symm (hbk k' rfl))]; exact q1
   rw [q3 _ hn, r2, q2]
   congr 2
   cases bo with
   | none => simp only [qj5]; rw [qv8 (Ne.symm hne)]
   | some k' =>
    simp only [qj5];rw [qv8 (Ne.symm hne), qv8 (hbk k' rfl)]
  ·simp only at r2
   subst r2;exact ⟨s.H, r3 s.H, e1⟩
 ·subst q2
  exact ⟨H2, e2, q3 H2⟩
theorem qzN {H : Hp} : ∀ (k : Nat), (∀ x d is, qz9 H k x = some (d, is)->∀ i ∈ is, H i ≠ none)/\(∀ l ds is, qf5 H k l = some (ds, is)->∀ i ∈ is, H i ≠ none)
 | 0 => ⟨fun _ _ _ h => by simp [qz9] at h, fun _ _ _ h => by simp [qf5] at h⟩
 | k + 1 => by
  obtain ⟨ih1, ih2⟩ := qzN (H := H) k;constructor
  ·intro x d is hr i hi
   cases x <;> simp only [qz9, reduceCtorEq] at hr
   case val d =>
    simp only [Option.some.injEq, Prod.mk.injEq] at hr;rw [← hr.2] at hi;cases hi
   case row id s o n =>
    split at hr
    ·rename_i s' es hb
     split at hr
     ·simp only [Option.some.injEq, Prod.mk.injEq] at hr
      rw [← hr.2] at hi;have : i = id := by simpa using hi
      rw [this, hb];simp
     ·cases hr
    ·split at hr
     ·simp only [Option.some.injEq, Prod.mk.injEq] at hr
      rw [← hr.2] at hi;cases hi
     ·cases hr
    ·split at hr
     ·rename_i es own hro
      split at hr
      ·simp only [Option.some.injEq, Prod.mk.injEq] at hr
       rw [← hr.2] at hi
       have : i = id := by
        cases own with
        | true => simpa using hi
        | false => simp at hi
       rw [this];intro hq;rw [hq] at hro;cases hro
      ·cases hr
     ·cases hr
   case box id o =>
    split at hr
    ·rename_i cells hb
     simp only [Option.map_eq_some_iff, Prod.mk.injEq] at hr;obtain ⟨⟨a, b⟩, ha, _, hr⟩ := hr;rw [← hr] at hi;rcases List.mem_cons.1 hi with rfl | hi
     ·rw [hb]; simp
     ·exact ih2 _ _ _ ha i hi
    ·simp only [Option.some.injEq, Prod.mk.injEq] at hr
     rw [← hr.2] at hi;cases hi
    ·cases hr
   case elt id j o =>
    split at hr
    ·simp only [Option.map_eq_some_iff, Prod.mk.injEq] at hr
     obtain ⟨a, ha, _, hr⟩ := hr;rw [← hr] at hi;cases hi
    ·rename_i s es hb
     simp only [Option.map_eq_some_iff, Prod.mk.injEq] at hr;obtain ⟨a, ha, _, hr⟩ := hr;rw [← hr] at hi;have : i = id := by simpa using hi
     rw [this, hb];simp
    ·cases hr
   case agg l =>
    simp only [Option.map_eq_some_iff, Prod.mk.injEq] at hr;obtain ⟨⟨a, b⟩, ha, _, hr⟩ := hr;rw [← hr] at hi;exact ih2 _ _ _ ha i hi
   case clo f l =>
    simp only [Option.map_eq_some_iff, Prod.mk.injEq] at hr;obtain ⟨⟨a, b⟩, ha, _, hr⟩ := hr;rw [← hr] at hi;exact ih2 _ _ _ ha i hi
  ·intro l ds is hr i hi
   cases l with
   | nil =>
    simp only [qf5, Option.some.injEq, Prod.mk.injEq] at hr;rw [← hr.2] at hi;cases hi
   | cons x l =>
    simp only [qf5] at hr;split at hr
    ·rename_i d a ds' b h1 h2
     simp only [Option.some.injEq, Prod.mk.injEq] at hr;rw [← hr.2] at hi;rcases List.mem_append.1 hi with hi | hi
     ·exact ih1 _ _ _ h1 i hi
     ·exact ih2 _ _ _ h2 i hi
    ·cases hr
theorem le_upd {H : Hp} {id : Id} {b : Option Blk} (h : H id = none) : Le H (upd H id b) := by
 intro i c hc;simp only [upd];rw [if_neg (fun e => by subst e; rw [h] at hc; cases hc)];exact hc
theorem fix_upd {H H1 : Hp} {is : List Id} {id : Id} {b : Blk} (h : fix H is = some H1) (hn : H id = none) (hi : ∀ i ∈ is, H i ≠ none) : fix (upd H id (some b)) is = some (upd H1 id (some b)) := by
 have hne : ∀ i ∈ is, i ≠ id := fun i hm e => hi i hm (by rw [e]; exact hn)
 have hle : Le H (upd H id (some b)) := le_upd hn
 have ok : ∀ i ∈ is, qdX H is i = true->qdX (upd H id (some b)) is i = true/\qsL (upd H id (some b)) (upd H id (some b) i) = qsL H (H i) := by
  intro i hm ho;have e : upd H id (some b) i = H i := qc1 _ _ (hne i hm);unfold qdX at ho ⊢;rw [e];cases hq : H i with
  | none => exact ⟨rfl, rfl⟩
  | some c =>
   rw [hq] at ho;cases c with
   | box cells =>
    simp only at ho;split at ho
    ·rename_i ds more hr
     have hr' := (qqH hle 99).2 _ _ hr;simp only [hr', qsL, hr, ho, and_self]
    ·cases ho
   | row s es => exact ⟨rfl, rfl⟩
   | fbox cells => exact ⟨rfl, rfl⟩
   | frow s es => exact ⟨rfl, rfl⟩
   | fns s es => cases ho
   | dead => exact ⟨rfl, rfl⟩
 have hat := zo2 h;cases is with
 | nil =>
  simp only [fix, Option.some.injEq] at h ⊢;rw [h]
 | cons a l =>
  simp only [fix];rw [if_pos]
  ·congr 1
   funext i
   by_cases hm : i ∈ a :: l
   ·have hc : (a :: l).contains i = true := List.contains_iff_mem.2 hm
    obtain ⟨h1, h2⟩ := hat i;rw [if_pos hc, (ok i hm (h2 hc)).2, qc1 _ _ (hne i hm), h1, if_pos hc]
   ·have hc : ¬ (a :: l).contains i = true := fun h => hm (List.contains_iff_mem.1 h)
    rw [if_neg hc];simp only [upd];split
    ·rfl
    ·rw [(hat i).1, if_neg hc]
  ·rw [List.all_eq_true]
   intro i hm;exact (ok i hm ((hat i).2 (List.contains_iff_mem.2 hm))).1
theorem eff_sc {s : St} {i : AIns} (hc : isSc S LB i.op = true) {x : AV} {H1 : Hp} (h : eff (qm0 S LB C) ns s i = some (x, H1)) :
  (∀ id, H1 id = none->s.H id = none)/\∀ id b, s.H id = none->eff (qm0 S LB C) ns ⟨s.env, upd s.H id (some b)⟩ i = some (x, upd H1 id (some b)) := by
 obtain ⟨g, hg, h⟩ := qg7 h;have hg' : ∀ H', gv (St.mk s.env H').env i.guard = some g := fun _ => hg
 cases ho : i.op with
 | p o => rw [ho] at hc; cases hc
 | a o => rw [ho] at hc; cases hc
 | w o => rw [ho] at hc; cases hc
 | r o =>
  cases o with
  | load => rw [ho] at hc; cases hc
  | b2s => rw [ho] at hc; cases hc
  | s2b => rw [ho] at hc; cases hc
  | sla => rw [ho] at hc; cases hc
  | callv => rw [ho] at hc; cases hc
  | call f l =>
   have hSL : S.contains f = true/\qx8 LB f = none := by rw [ho] at hc; simpa only [isSc, Bool.and_eq_true, Option.isNone_iff_eq_none] using hc
   obtain ⟨hS, hl⟩ := hSL;have hcalm : ¬ (qaC i.op && i.guard.isSome) = true := by rw [ho]; simp [qaC]
   unfold qv7 at h;rw [if_neg hcalm] at h;cases g with
   | false =>
    simp only [cond_false, Option.some.injEq, Prod.mk.injEq] at h;obtain ⟨rfl, rfl⟩ := h;refine ⟨fun _ h => h, fun id b _ => ?_⟩;rw [qs8 (hg' _)];unfold qv7;rw [if_neg hcalm];rfl
   | true =>
    simp only [cond_true, ho, qe7] at h
    have e : qm0 S LB C f = (match C f with
     | .val spec => .shared fun _ args H => zf7 spec H args
     | _ => .none) := by unfold qm0; rw [hl]; simp only [hS] <;> cases C f <;> rfl
    cases hq : C f with
    | none => unfold qt8 at h; rw [e, hq] at h; cases h
    | fresh s spec => unfold qt8 at h; rw [e, hq] at h; cases h
    | shared spec => unfold qt8 at h; rw [e, hq] at h; cases h
    | val spec =>
     have e : qm0 S LB C f = .shared fun _ args H => zf7 spec H args := by rw [e, hq]
     unfold qt8 at h;rw [e] at h;simp only at h;obtain ⟨ds, is', r, ha, hr, rfl, hall, hf⟩ := qjG h;have hids := (qzN 99).2 _ _ _ ha
     have hsub : ∀ i ∈ (if r.flat then [] else is'), s.H i ≠ none := by
      intro i hm;split at hm
      ·cases hm
      ·exact hids i hm
     refine ⟨fun id hn => fix_none hf hn, fun id b hn => ?_⟩;rw [qs8 (hg' _)];unfold qv7;rw [if_neg hcalm];simp only [cond_true, ho, qe7];unfold qt8;rw [e];simp only;refine zn6 ((qqH (le_upd (b := some b) hn) 99).2 _ _ ha) hr (fun i hm => ?_) (fix_upd hf hn hsub);have hne : i ≠ id := fun e => by subst e; exact hsub _ hm hn
     have := hall i hm;unfold qnO at this ⊢;simp only [upd];rw [if_neg hne];exact this
theorem comm_sb {Inv : St->Prop} {k i : AIns} (ha : qo8 k i = true) (hk : isSc S LB k.op = true) (hi : isBx i.op = true) : qdO (qm0 S LB C) ns Inv k i := qp3 ha fun s x y H1 H2 _ e1 e2 => by
 obtain ⟨q1, q2⟩ := eff_sc hk e1;rcases eff_bx hi e2 with ⟨cells, r1, r2, r3⟩ | ⟨r2, r3⟩
 ·simp only at r1 r2
  refine ⟨_, r3 s.H (q1 _ r1), ?_⟩;rw [q2 _ _ (q1 _ r1), r2]
 ·simp only at r2
  subst r2;exact ⟨s.H, r3 s.H, e1⟩
def isCl (LB : List (FuncId × LibK)) : AOp->Bool
 | .r (.call f _) => (match qx8 LB f with
  | some k => k.isCl
  | none => false)
 | _ => false
theorem eff_cl {s : St} {i : AIns} (hc : isCl LB i.op = true) {x : AV} {H1 : Hp} (h : eff (qm0 S LB C) ns s i = some (x, H1)) :
  (∃ b, (∃ s es, b = Blk.row s es)/\s.H (qj2 i ns) = none/\H1 = upd s.H (qj2 i ns) (some b)/\∀ H', LeR s.H H'->H' (qj2 i ns) = none->eff (qm0 S LB C) ns ⟨s.env, H'⟩ i = some (x, upd H' (qj2 i ns) (some b)))\/(H1 = s.H/\∀ H', eff (qm0 S LB C) ns ⟨s.env, H'⟩ i = some (x, H')) := by
 obtain ⟨g, hg, h⟩ := qg7 h;have hg' : ∀ H', gv (St.mk s.env H').env i.guard = some g := fun _ => hg
 cases ho : i.op with
 | p o => rw [ho] at hc; cases hc
 | a o => rw [ho] at hc; cases hc
 | w o => rw [ho] at hc; cases hc
 | r o =>
  cases o with
  | load => rw [ho] at hc; cases hc
  | b2s => rw [ho] at hc; cases hc
  | s2b => rw [ho] at hc; cases hc
  | sla => rw [ho] at hc; cases hc
  | callv => rw [ho] at hc; cases hc
  | call f l =>
   have hcalm : ¬ (qaC i.op && i.guard.isSome) = true := by rw [ho]; simp [qaC]
   unfold qv7 at h;rw [if_neg hcalm] at h;cases g with
   | false =>
    simp only [cond_false, Option.some.injEq, Prod.mk.injEq] at h;obtain ⟨rfl, rfl⟩ := h;refine .inr ⟨rfl, fun H' => ?_⟩;rw [qs8 (hg' H')];unfold qv7;rw [if_neg hcalm];rfl
   | true =>
    rw [ho] at hc;simp only [isCl] at hc;split at hc
    ·rename_i k hl
     have e : qm0 S LB C f = .shared (qc7 k) := by unfold qm0; rw [hl]
     simp only [cond_true, ho, qe7] at h;unfold qt8 at h;rw [e] at h;obtain ⟨bo, blk, h1, h2, h3, h4, h5, h6⟩ := qkX h;have hbo := h5 hc;subst hbo;refine .inl ⟨blk, h1, h3, h4, fun H' hle hid' => ?_⟩;rw [qs8 (hg' H')];unfold qv7;rw [if_neg hcalm];simp only [cond_true, ho, qe7];unfold qt8;rw [e];exact h6 H' hle hid'
    ·cases hc
theorem comm_cm {Inv : St->Prop} {k i : AIns} (ha : qo8 k i = true) (hk : isCl LB k.op = true) (hi : mk4 i.op = true) (hkd : k.dst.isSome = true) (hid : i.dst.isSome = true) : qdO (qm0 S LB C) ns Inv k i := qp3 ha fun s x y H1 H2 _ e1 e2 => by
 have hne := qqN (ns := ns) ha hkd hid;rcases eff_cl hk e1 with ⟨b, ⟨bs, bes, hb⟩, q1, q2, q3⟩ | ⟨q2, q3⟩
 ·rcases qlA hi e2 with ⟨b', hb', r1, r2, r3⟩ | ⟨r2, r3⟩
  ·simp only at r1 r2 r3
   have r0 : s.H (qj2 i ns) = none := by
    rw [q2] at r1;simpa [upd, Ne.symm hne] using r1
   have hle : LeF H1 s.H := by
    intro id c hc hf;rw [q2] at hc;simp only [upd] at hc;split at hc
    ·cases hc
     subst hb;rcases hf with ⟨_, _, h⟩ | ⟨_, h⟩ <;> cases h
    ·exact hc
   have hle2 : LeR s.H (upd s.H (qj2 i ns) (some b')) := by
    intro id c hc _;simp only [upd];rw [if_neg (fun e => by subst e; rw [r0] at hc; cases hc)];exact hc
   refine ⟨_, r3 s.H hle r0, ?_⟩;rw [q3 _ hle2 (by simp only [upd, if_neg hne]; exact q1), r2, q2, qv8 (Ne.symm hne)]
  ·simp only at r2
   subst r2;exact ⟨s.H, r3 s.H, e1⟩
 ·subst q2
  exact ⟨H2, e2, q3 H2⟩
def qlB (r : Rgn) (k i : AIns) : Bool :=
 qo8 k i && ((Nat.beq (cls k.op) 0 || Nat.beq (cls i.op) 0) || (qdP r.S r.LB k.op && qdP r.S r.LB i.op && qgU k i) || (isLc r.L k && qkZ r.S r.LB i.op) || (qkZ r.S r.LB k.op && isLc r.L i) || (isLe r.EL k && isSt r.L i) || (isSt r.L k && isLe r.EL i) || isLS r.L r.needs k i || isLS r.L r.needs i k ||
  (k.dst.isSome && i.dst.isSome && ((mk4 k.op && mk4 i.op) || (zo6 k.op && mk4 i.op) || (isBx k.op && zo6 i.op) || (isCl r.LB k.op && mk4 i.op))) || (isSc r.S r.LB k.op && isBx i.op) || (isLc r.L k && isSe r.EL i) || (isSe r.EL k && isLc r.L i))
theorem qdO.of_commX {r : Rgn} (hn : ∀ p ∈ r.needs, ids p.1 ≠ ids p.2) {k i : AIns} (h : qlB r k i = true) : qdO (qm0 r.S r.LB C) ns (InvB r.L r.EL ids) k i := by
 unfold qlB at h;simp only [Bool.and_eq_true, Bool.or_eq_true] at h;obtain ⟨ha, h⟩ := h;rcases h with ((((((((((((h | h) | ⟨⟨h1, h2⟩, h3⟩) | ⟨h1, h2⟩) | ⟨h1, h2⟩) | ⟨h1, h2⟩) | ⟨h1, h2⟩) | h) | h) | ⟨⟨h1, h2⟩, ((⟨h3, h4⟩ | ⟨h3, h4⟩) | ⟨h3, h4⟩) | ⟨h3, h4⟩⟩) | ⟨h1, h2⟩) | ⟨h1, h2⟩) | ⟨h1, h2⟩)
 ·exact comm0 ha (.inl (Nat.eq_of_beq_eq_true h))
 ·exact comm0 ha (.inr (Nat.eq_of_beq_eq_true h))
 ·exact zn8 h1 h2 h3
 ·exact comm_lk ha h1 h2
 ·exact comm_kl ha h1 h2
 ·exact comm_es ha h1 h2
 ·exact comm_se ha h1 h2
 ·exact comm_ls hn ha h
 ·exact comm_sl hn ha h
 ·exact comm_mm ha h3 h4 h1 h2
 ·exact comm_am ha h3 h4 h1 h2
 ·exact comm_ba ha h3 h4 h1 h2
 ·exact comm_cm ha h3 h4 h1 h2
 ·exact comm_sb ha h1 h2
 ·exact comm_lt ha h1 h2
 ·exact comm_tl ha h1 h2
end
inductive Anc (ops : Array Oper) : Nat->Nat->Prop
 | one (i k : Nat) (o : Oper) (e : Edge) (ho : ops[i]? = some o) (he : e ∈ o.after) (hb : Region.binds .any e = true) (hk : e.on = k) : Anc ops i k
 | more (i k : Nat) (o : Oper) (e : Edge) (ho : ops[i]? = some o) (he : e ∈ o.after) (hb : Region.binds .any e = true) (h : Anc ops e.on k) : Anc ops i k
def qjK (acc : List Nat) : List Edge->Nat->Nat
 | [], s => s
 | e :: l, s => qjK acc l (if Region.binds .any e = true then s ||| 2 ^ e.on ||| acc.getD e.on 0 else s)
def qx9 : List Oper->List Nat->List Nat
 | [], acc => acc
 | o :: l, acc => qx9 l (acc ++ [qjK acc o.after.toList 0])
theorem qiD (acc : List Nat) : ∀ (l : List Edge) (s k : Nat), (qjK acc l s).testBit k = true->s.testBit k = true\/∃ e ∈ l, Region.binds .any e = true/\(e.on = k\/(acc.getD e.on 0).testBit k = true)
 | [], s, k, h => .inl h
 | e :: l, s, k, h => by
  simp only [qjK] at h;rcases qiD acc l _ k h with h | ⟨e', he', hb, h⟩
  ·split at h
   ·rename_i hb
    rw [Nat.testBit_or, Nat.testBit_or, Nat.testBit_two_pow] at h;simp only [Bool.or_eq_true, decide_eq_true_eq] at h;rcases h with (h | h) | h
    ·exact .inl h
    ·exact .inr ⟨e, by simp, hb, .inl h⟩
    ·exact .inr ⟨e, by simp, hb, .inr h⟩
   ·exact .inl h
  ·exact .inr ⟨e', by simp [he'], hb, h⟩
theorem qfM (ops : Array Oper) : ∀ (l : List Oper) (acc : List Nat) (pre : List Oper), ops.toList = pre ++ l->pre.length = acc.length->(∀ i x, acc[i]? = some x->∀ k, x.testBit k = true->Anc ops i k) →
  ∀ i x, (qx9 l acc)[i]? = some x->∀ k, x.testBit k = true->Anc ops i k
 | [], acc, _, _, _, h => h
 | o :: l, acc, pre, hp, hl, h => by
  simp only [qx9];refine qfM ops l _ (pre ++ [o]) (by rw [hp]; simp) (by simp [hl]) ?_
  intro i x hx k hk;by_cases hi : i < acc.length
  ·rw [List.getElem?_append_left hi] at hx
   exact h i x hx k hk
  ·rw [List.getElem?_append_right (by omega)] at hx
   have hi0 : i = acc.length := by
    have := (List.getElem?_eq_some_iff.1 hx).1;simp at this;omega
   subst hi0;simp at hx;subst hx
   have ho : ops[acc.length]? = some o := by
    rw [← Array.getElem?_toList, hp, ← hl];simp
   rcases qiD acc _ 0 k hk with h0 | ⟨e, he, hb, h1 | h1⟩
   ·simp at h0
   ·exact .one _ _ o e ho (by simpa using he) hb h1
   ·refine .more _ _ o e ho (by simpa using he) hb ?_
    cases hq : acc[e.on]? with
    | none => rw [List.getD_eq_getElem?_getD, hq] at h1; simp at h1
    | some y =>
     rw [List.getD_eq_getElem?_getD, hq] at h1;exact h _ y hq k h1
def zo8 (ops : Array Oper) (m : List AIns) : Bool :=
 (List.range m.length).all fun i => (match ops[i]? with
  | some o => o.after.all fun e => !Region.binds .any e || decide (e.on < i)
  | none => false) && (List.range i).all fun k => ((qx9 ops.toList []).getD i 0).testBit k || (match m[k]?, m[i]? with
  | some x, some y => qgU x y
  | _, _ => false)
def qaF (ops : Array Oper) (m : List AIns) (r : Rgn) : Bool :=
 m.all (okB r.L r.EL r.AL) && (List.range m.length).all fun i => (match ops[i]? with
  | some o => o.after.all fun e => !Region.binds .any e || decide (e.on < i)
  | none => false) && (List.range i).all fun k => ((qx9 ops.toList []).getD i 0).testBit k || (match m[k]?, m[i]? with
  | some x, some y => qlB r x y
  | _, _ => false)
def zg0 : List AIns->List Nat->List Nat
 | [], l => l
 | i :: m, l => (match i.op with
  | .r (.load _ _ (.t x)) => zg0 m (x :: l)
  | .w (.store _ (.t x) _) => zg0 m (x :: l)
  | _ => zg0 m l)
def qqO : List AIns->List Nat->List Nat
 | [], l => l
 | i :: m, l => (match i.dst with
  | some d => (match l.contains d, i.op with
   | true, .p (.foff _ (.t b)) => qqO m (b :: l)
   | true, .p (.aoff _ _ (.t b) _) => qqO m (b :: l)
   | true, .p (.mv (.t b)) => qqO m (b :: l)
   | true, .p (.chk (.t b)) => qqO m (b :: l)
   | _, _ => qqO m l)
  | none => qqO m l)
def defAt : List AIns->Nat->Option AOp
 | [], _ => none
 | i :: m, t => match i.dst with
  | some d => (match Nat.beq d t with
   | true => some i.op
   | false => defAt m t)
  | none => defAt m t
def qfN (m : List AIns) : Nat->Nat->Nat × Nat
 | 0, t => (3, t)
 | n + 1, t => match defAt m t with
  | none => (0, t)
  | some (.p (.foff _ (.t b))) => qfN m n b
  | some (.p (.aoff _ _ (.t b) _)) => qfN m n b
  | some (.p (.mv (.t b))) => qfN m n b
  | some (.p (.chk (.t b))) => qfN m n b
  | some (.p (.soff _ _ _)) => (1, t)
  | some (.a (.alloc _)) => (2, t)
  | some (.a (.bx _)) => (2, t)
  | some _ => (3, t)
def zo9 (f : TypeId->Bool) : List TypeId->Bool
 | [] => true
 | t :: l => f t && zo9 f l
def flatT (P : Program) : Nat->TypeId->Bool
 | 0, _ => false
 | n + 1, t => match P.underlying t with
  | some .bool => true
  | some (.int _) => true
  | some .string => true
  | some (.array _ e) => flatT P n e
  | some (.struct fs) => zo9 (flatT P n) (fs.toList.map (·.type))
  | some (.tuple es) => zo9 (flatT P n) es.toList
  | _ => false
def boxLoad (m : List AIns) : AOp->Bool
 | .r (.load _ _ (.t x)) => (match qfN m 20 x with
  | (0, _) => true
  | (2, _) => true
  | _ => false)
 | _ => false
def qjL (bl : Bool) (P : Program) (ops : Array Oper) (m : List AIns) : List FuncId := (List.range m.length).filterMap fun j => match ops[j]?, m[j]? with
 | some o, some y => (match y.op with
  | .r (.call f _) => (match flatT P 9 o.type || !((List.range m.length).all fun k => match m[k]? with
    | some x => Nat.beq k j || Nat.beq (cls x.op) 0 || (bl && boxLoad m x.op) || (match Nat.blt k j with
     | true => ((qx9 ops.toList []).getD j 0).testBit k
     | false => ((qx9 ops.toList []).getD k 0).testBit j || isBx x.op)
    | none => false) with
   | true => none
   | false => some f)
  | _ => none)
 | _, _ => none
def libOf (P : Program) (f : FuncId) : Option LibK := match P.funcs[f]? with
 | some fn => (match fn.targs.toList with
  | [_, e] => (match P.info? e, fn.params.toList.map P.underlying, Nat.beq fn.ntmps 8, Nat.beq fn.ntmps 95, Nat.beq fn.ntmps 33, Nat.beq fn.ntmps 27 with
   | some i, [some (.slice _)], true, _, _, _ => some (.clone i.size i.bytes)
   | some i, [some (.slice _), some (.int .i64), some (.slice _)], _, true, _, _ => some (.ins i.size i.bytes)
   | some i, [some (.slice _), some (.int .i64), some (.int .i64)], _, _, true, _ => some (.del i.size)
   | some i, [some (.slice _), some (.int .i64)], _, _, _, true => some (.grow i.size i.bytes)
   | _, _, _, _, _, _ => none)
  | _ => none)
 | none => none
def qsZ (P : Program) : List AIns->List (FuncId × LibK)
 | [] => []
 | i :: m => (match i.op with
  | .r (.call f _) => (match libOf P f with
   | some k => (f, k) :: qsZ P m
   | none => qsZ P m)
  | _ => qsZ P m)
def qtA (P : Program) (ops : Array Oper) (m : List AIns) : Rgn :=
 let need := (qqO m.reverse (zg0 m [])).eraseDups
 let kd := need.map fun t => (t, qfN m 20 t)
 let L := kd.filterMap fun (t, k, c) => if k = 0\/k = 2 then some (t, c) else none
 let EL := kd.filterMap fun (t, k, _) => if k = 1 then some t else none
 let AL := kd.filterMap fun (t, k, _) => if k = 2 then some t else none
 let mk := qx9 ops.toList []
 let needs := (List.range m.length).flatMap fun i => (List.range i).filterMap fun k => if (mk.getD i 0).testBit k then none else (match m[k]?, m[i]? with
  | some x, some y => (match x.op, y.op with
   | .r (.load _ _ (.t a)), .w (.store _ (.t b) _) => (match lk L a, lk L b with
    | some c, some d => if c = d then none else some (c, d)
    | _, _ => none)
   | .w (.store _ (.t b) _), .r (.load _ _ (.t a)) => (match lk L a, lk L b with
    | some c, some d => if c = d then none else some (c, d)
    | _, _ => none)
   | _, _ => none)
  | _, _ => none)
 ⟨L, EL, AL, needs.eraseDups, (qjL true P ops m).filter fun f => (libOf P f).isNone, qsZ P m⟩
def zp0 (P : Program) (ops : Array Oper) (m : List AIns) : Rgn :=
 let need := (qqO m.reverse (zg0 m [])).eraseDups
 let kd := need.map fun t => (t, qfN m 20 t)
 let L := kd.filterMap fun (t, k, c) => if k = 2 then some (t, c) else none
 let EL := kd.filterMap fun (t, k, _) => if k = 1\/k = 0 then some t else none
 let AL := kd.filterMap fun (t, k, _) => if k = 2 then some t else none
 ⟨L, EL, AL, [], qjL false P ops m, []⟩
def zp1 (P : Program) (ops : Array Oper) (m : List AIns) : Rgn :=
 let need := (qqO m.reverse (zg0 m [])).eraseDups
 let kd := need.map fun t => (t, qfN m 20 t)
 let st := m.filterMap fun i => (match i.op with
  | .w (.store _ (.t x) _) => (match qfN m 20 x with
   | (0, c) => some c
   | _ => none)
  | _ => none)
 let L := kd.filterMap fun (t, k, c) => if k = 2\/(k = 0/\st.contains c = false) then some (t, c) else none
 let EL := kd.filterMap fun (t, k, c) => if k = 1\/(k = 0/\st.contains c = true) then some t else none
 let AL := kd.filterMap fun (t, k, _) => if k = 2 then some t else none
 ⟨L, EL, AL, [], qjL false P ops m, []⟩
def zp2 (P : Program) (ops : Array Oper) (m : List AIns) : Rgn := bif qaF ops m (zp0 P ops m) then zp0 P ops m else bif qaF ops m (zp1 P ops m) then zp1 P ops m else qtA P ops m
theorem zp3 {P : Program} {ops : Array Oper} {m : List AIns} (h : qaF ops m (qtA P ops m) = true) : qaF ops m (zp2 P ops m) = true := by
 unfold zp2;cases h2 : qaF ops m (zp0 P ops m) with
 | true => exact h2
 | false =>
  cases h3 : qaF ops m (zp1 P ops m) with
  | true => exact h3
  | false => exact h
def qy0 (ops : Array Oper) (listed : Array Bool) : Prop := ∀ i o, ops[i]? = some o->listed.getD i false = true->∀ e ∈ o.after, Region.binds .any e = true->listed.getD e.on false = true
theorem qq2 {ops : Array Oper} {listed : Array Bool} (hc : qy0 ops listed) {i k : Nat} (h : Anc ops i k) : (∀ o, ops[i]? = some o->∀ e ∈ o.after, Region.binds .any e = true->listed.getD e.on false = true)->listed.getD k false = true := by
 induction h with
 | one i k o e ho he hb hk => intro hl; subst hk; exact hl o ho e he hb
 | more i k o e ho he hb h ih => intro hl; exact ih fun o' ho' => hc _ o' ho' (hl o ho e he hb)
def left (m : List AIns) (listed : Array Bool) (l : List Nat) : List AIns := l.filterMap fun j => if listed.getD j true = true then none else m[j]?
theorem qn9 (m : List AIns) (listed : Array Bool) (a b : List Nat) : left m listed (a ++ b) = left m listed a ++ left m listed b := by simp [left]
theorem qaG (m : List AIns) (listed : Array Bool) (i : Nat) (l : List Nat) (h : i ∉ l) : left m (listed.setIfInBounds i true) l = left m listed l := by
 induction l with
 | nil => rfl
 | cons j l ih =>
  have hj : i ≠ j := fun e => h (by simp [e])
  have ih := ih (fun hm => h (by simp [hm]));simp only [left, List.filterMap_cons] at ih ⊢;rw [getD_set_ne true hj, ih]
theorem qwR {i n : Nat} (h : i < n) : List.range n = List.range i ++ i :: List.range' (i + 1) (n - (i + 1)) := by
 have h1 : n = i + (1 + (n - (i + 1))) := by omega
 have h2 := List.range'_append_1 (s := 0) (m := i) (n := 1 + (n - (i + 1)));have h3 := List.range'_append_1 (s := i) (m := 1) (n := n - (i + 1));rw [List.range_eq_range', List.range_eq_range']
 conv => lhs; rw [h1]
 rw [← h2, Nat.zero_add, ← h3];rfl
section
variable {P : Program} {C : FuncId->Con} {ns : Id}
theorem qg8 : ∀ {ops : Array Oper} {l : List Oper} {m : List AIns}, qk2 P ops l = some m->m.length = l.length/\∀ (i : Nat) (o : Oper), l[i]? = some o->∃ x, m[i]? = some x/\zn3 P ops o = some x
 | ops, [], m, h => by cases h; exact ⟨rfl, by simp⟩
 | ops, o :: l, m, h => by
  simp only [qk2] at h;split at h
  ·rename_i x m' h1 h2
   cases h;obtain ⟨h3, h4⟩ := qg8 h2;refine ⟨by simp [h3], fun i o' ho => ?_⟩;cases i with
   | zero => simp at ho; subst ho; exact ⟨x, rfl, h1⟩
   | succ i => simp at ho ⊢; exact h4 i o' ho
  ·cases h
theorem qn6 {m : List AIns} {listed : Array Bool} {l : List Nat} {x : AIns} : x ∈ left m listed l ↔ ∃ j ∈ l, listed.getD j true = false/\m[j]? = some x := by
 unfold left;rw [List.mem_filterMap];constructor
 ·rintro ⟨j, hj, h⟩
  split at h
  ·cases h
  ·rename_i hn
   exact ⟨j, hj, by simpa using hn, h⟩
 ·rintro ⟨j, hj, h1, h2⟩
  exact ⟨j, hj, by rw [if_neg (by simp [h1])]; exact h2⟩
theorem qgV {D : FuncId->Con} (hC : qr4 P D) {ops : Array Oper} {m : List AIns} (hm : qk2 P ops ops.toList = some m) (Inv : St->Prop)
  (hpres : ∀ i ∈ m, ∀ s s', Inv s->step D ns s i = some s'->Inv s')
  (hedge : ∀ {i o}, ops[i]? = some o->∀ e ∈ o.after, Region.binds .any e = true->e.on < i) (hpair : ∀ {i k x y}, k < i->m[i]? = some y->m[k]? = some x->Anc ops i k\/qdO D ns Inv x y) {Q : Exit->Act->World->Prop} :
  ∀ (fuel : Nat) (listed : Array Bool) (J : Id->JI) (F : Nat->Prop) (w : World) (a : Act) (s sf sf0 : St), listed.size = ops.size->qy0 ops listed->(left m listed (List.range m.length)).length<=fuel->Inv s->qcL J F w s.env a.tmps->HRel J F w s.H →
   run D ns (left m listed (List.range m.length)) s = some sf->Eqv sf sf0->(∀ a' w' sf, Eqv sf sf0->qr6 J F w sf a a' w'->Q .normal a' w')->wpAny P .any ops Q fuel listed a w := by
 obtain ⟨hml, hmg⟩ := qg8 hm;have hlen : m.length = ops.size := by rw [hml]; simp
 have hop : ∀ {i}, i < ops.size->∃ o x, ops[i]? = some o/\m[i]? = some x/\zn3 P ops o = some x := by
  intro i hi;have ho : ops[i]? = some ops[i] := Array.getElem?_eq_getElem hi
  obtain ⟨x, h1, h2⟩ := hmg i ops[i] (by simp);exact ⟨_, x, ho, h1, h2⟩
 have hin : ∀ {listed : Array Bool} {j}, listed.size = ops.size->listed.getD j true = false->j < ops.size := by
  intro listed j hs h;rcases Nat.lt_or_ge j ops.size with h1 | h1
  ·exact h1
  ·simp [Array.getD, hs, Nat.not_lt.2 h1] at h
 have hflip : ∀ {listed : Array Bool} {j}, listed.size = ops.size->j < ops.size->listed.getD j false = listed.getD j true := by
  intro listed j hs h;simp [Array.getD, hs, h]
 -- where nothing is ready, nothing is left
 have hnone : ∀ (listed : Array Bool), listed.size = ops.size->Region.ready .any ops listed = []->left m listed (List.range m.length) = [] := by
  intro listed hs hr
  have all : ∀ n j, j < n->listed.getD j true = true := by
   intro n
   induction n with
   | zero => intro j hj; omega
   | succ n ih =>
    intro j hj;by_cases hjn : j < n
    ·exact ih j hjn
    ·have hjn : j = n := by omega
     subst hjn;cases hq : listed.getD j true with
     | true => rfl
     | false =>
      have hj' := hin hs hq;obtain ⟨o, x, ho, _, _⟩ := hop hj'
      have : j ∈ Region.ready .any ops listed := mem_ready.2 ⟨hq, o, ho, fun e he hb => by
       have h1 := hedge ho e he hb;rw [hflip hs (by omega)];exact ih _ h1⟩
      rw [hr] at this;cases this
  cases hq : left m listed (List.range m.length) with
  | nil => rfl
  | cons x l =>
   have : x ∈ left m listed (List.range m.length) := by rw [hq]; simp
   obtain ⟨j, hj, h1, _⟩ := qn6.1 this;rw [all (j + 1) j (by omega)] at h1;cases h1
 intro fuel
 induction fuel with
 | zero =>
  intro listed J F w a s sf sf0 hs hcl hf hI hE hH hrun heq hQ;have h0 : left m listed (List.range m.length) = [] := List.eq_nil_of_length_eq_zero (by omega);rw [h0] at hrun;simp only [run, Option.some.injEq] at hrun;subst hrun;refine ⟨?_, hQ a w s heq ⟨J, F, hE, hH, Ext.refl _ _ _, rfl⟩⟩;cases hq : Region.ready .any ops listed with
  | nil => rfl
  | cons i l =>
   have hi : i ∈ Region.ready .any ops listed := by rw [hq]; simp
   obtain ⟨h1, o, ho, _⟩ := mem_ready.1 hi;obtain ⟨_, x, _, hx, _⟩ := hop (hin hs h1);have : x ∈ left m listed (List.range m.length) := qn6.2 ⟨i, by rw [List.mem_range, hlen]; exact hin hs h1, h1, hx⟩;rw [h0] at this;cases this
 | succ fuel ih =>
  intro listed J F w a s sf sf0 hs hcl hf hI hE hH hrun heq hQ;refine ⟨fun hr => ?_, fun i hi => ?_⟩
  ·rw [hnone listed hs hr] at hrun
   simp only [run, Option.some.injEq] at hrun;subst hrun;exact hQ a w s heq ⟨J, F, hE, hH, Ext.refl _ _ _, rfl⟩
  ·obtain ⟨h1, o, ho, hall⟩ := mem_ready.1 hi
   have hi' := hin hs h1;obtain ⟨o', x, ho', hx, hcx⟩ := hop hi';rw [ho] at ho';cases ho';have hsplit := qwR (i := i) (n := m.length) (by rw [hlen]; exact hi')
   have hleft : left m listed (List.range m.length) = left m listed (List.range i) ++ x :: left m listed (List.range' (i + 1) (m.length - (i + 1))) := by
    rw [hsplit, qn9]
    congr 1
    simp only [left, List.filterMap_cons, h1, hx];rfl
   have hleft' : left m (listed.setIfInBounds i true) (List.range m.length) = left m listed (List.range i) ++ left m listed (List.range' (i + 1) (m.length - (i + 1))) := by
    rw [hsplit, qn9, qaG _ _ _ _ (by simp)]
    congr 1
    rw [← qaG m listed i (List.range' (i + 1) (m.length - (i + 1))) (by rw [List.mem_range']; rintro ⟨_, _, h⟩; omega)];simp only [left, List.filterMap_cons];rw [show (listed.setIfInBounds i true).getD i true = true by simp [Array.getD, hs, hi']];rfl
   rw [hleft] at hrun hf
   obtain ⟨s1, sf', q1, q2, q3⟩ := qzF (Inv := Inv) _ x _ s sf (fun k hk => hpres k (by obtain ⟨j, _, _, hj2⟩ := qn6.1 hk; exact List.mem_of_getElem? hj2)) hI (fun k hk => by
    obtain ⟨j, hj, hj1, hj2⟩ := qn6.1 hk;have hji : j < i := by simpa using hj
    rcases hpair hji hx hj2 with hanc | hc
    ·have := qq2 hcl hanc (fun o' ho' e he hb => by rw [ho] at ho'; cases ho'; exact hall e he hb)
     rw [hflip hs (hin hs hj1), hj1] at this;cases this
    ·exact hc) hrun
   have hs' : (listed.setIfInBounds i true).size = ops.size := by simpa using hs
   have hcl' : qy0 ops (listed.setIfInBounds i true) := by
    intro j oj hoj hj e he hb;by_cases hji : j = i
    ·subst hji
     rw [ho] at hoj;cases hoj;exact getD_set_true (hall e he hb)
    ·rw [getD_set_ne false (Ne.symm hji)] at hj
     exact getD_set_true (hcl j oj hoj hj e he hb)
   have next : ∀ a1 w1, qr6 J F w s1 a a1 w1->wpAny P .any ops Q fuel (listed.setIfInBounds i true) a1 w1 := by
    rintro a1 w1 ⟨J1, F1, r1, r2, r3, r4⟩
    exact ih _ J1 F1 w1 a1 s1 sf' sf0 hs' hcl' (by rw [hleft']; simp at hf ⊢; omega) (hpres x (List.mem_of_getElem? hx) s s1 hI q1) r1 r2 (by rw [hleft']; exact q2) (q3.trans heq)
     (fun a' w' sf hsf hmv => hQ a' w' sf hsf (qr6.trans (s1 := s1) r3 r4 hmv))
   unfold wpOp;simp only [ho];rcases qcP hC hcx hE hH q1 with ⟨hw, h⟩ | ⟨hw, h⟩
   ·rw [if_pos hw]
    exact .inl (Oper.wp_mono next (h Q))
   ·rw [hw]
    exact next _ _ h
theorem qlC {ops : Array Oper} {m : List AIns} (hm : qk2 P ops ops.toList = some m) {f : Nat->Nat->Bool}
  (hok : ((List.range m.length).all fun i => (match ops[i]? with
   | some o => o.after.all fun e => !Region.binds .any e || decide (e.on < i)
   | none => false) && f i i) = true) : ∀ {i o}, ops[i]? = some o->∀ e ∈ o.after, Region.binds .any e = true->e.on < i := by
 intro i o ho e he hb;have hlen : m.length = ops.size := by rw [(qg8 hm).1]; simp
 have hi : i < m.length := by rw [hlen]; exact (Array.getElem?_eq_some_iff.1 ho).1
 have := List.all_eq_true.1 hok i (by simpa using hi);simp only [Bool.and_eq_true, ho] at this;have h2 := Array.all_eq_true_iff_forall_mem.1 this.1 e he;simpa [hb] using h2
theorem qeF {ops : Array Oper} {m : List AIns} (hm : qk2 P ops ops.toList = some m) {g : AIns->AIns->Bool}
  (hok : ((List.range m.length).all fun i => (match ops[i]? with
   | some o => o.after.all fun e => !Region.binds .any e || decide (e.on < i)
   | none => false) && (List.range i).all fun k => ((qx9 ops.toList []).getD i 0).testBit k || (match m[k]?, m[i]? with
   | some x, some y => g x y
   | _, _ => false)) = true) : ∀ {i k x y}, k < i->m[i]? = some y->m[k]? = some x->Anc ops i k\/g x y = true := by
 intro i k x y hki hy hx;have hi : i < m.length := (List.getElem?_eq_some_iff.1 hy).1;have := List.all_eq_true.1 hok i (by simpa using hi);simp only [Bool.and_eq_true] at this;have h2 := List.all_eq_true.1 this.2 k (by simpa using hki);simp only [Bool.or_eq_true, hx, hy] at h2;rcases h2 with h2 | h2
 ·left
  cases hq : (qx9 ops.toList [])[i]? with
  | none => rw [List.getD_eq_getElem?_getD, hq] at h2; simp at h2
  | some z =>
   rw [List.getD_eq_getElem?_getD, hq] at h2;exact qfM ops ops.toList [] [] rfl rfl (by simp) i z hq k h2
 ·exact .inr h2
end
section
variable {P : Program} {C : FuncId->Con} {ns : Id}
theorem qbP {lo n i : Nat} (h1 : lo<=i) (h2 : i < lo + n) : List.range' lo n = List.range' lo (i - lo) ++ i :: List.range' (i + 1) (lo + n - (i + 1)) := by
 have e : n = (i - lo) + (1 + (lo + n - (i + 1))) := by omega
 have h3 := List.range'_append_1 (s := lo) (m := i - lo) (n := 1 + (lo + n - (i + 1)));have h4 := List.range'_append_1 (s := lo + (i - lo)) (m := 1) (n := lo + n - (i + 1))
 conv => lhs; rw [e]
 rw [← h3, ← h4, show lo + (i - lo) = i by omega];rfl
theorem qy1 {m : List AIns} {listed : Array Bool} : ∀ (n lo : Nat), lo + n<=m.length->(∀ j, lo<=j->j < lo + n->listed.getD j true = false)->left m listed (List.range' lo n) = (m.drop lo).take n
 | 0, lo, _, _ => by simp [left]
 | n + 1, lo, hl, h => by
  have ih := qy1 (m := m) (listed := listed) n (lo + 1) (by omega) (fun j h1 h2 => h j (by omega) (by omega));have h0 := h lo (Nat.le_refl _) (by omega);have hd : m.drop lo = m[lo]'(by omega) :: m.drop (lo + 1) := List.drop_eq_getElem_cons (by omega);rw [List.range'_succ, hd, List.take_succ_cons, ← ih];simp only [left, List.filterMap_cons, h0, Bool.false_eq_true, if_false];rw [List.getElem?_eq_getElem (l := m) (i := lo) (by omega)]
theorem qlD {D : FuncId->Con} (hC : qr4 P D) {ops : Array Oper} {m : List AIns} (hm : qk2 P ops ops.toList = some m) (Inv : St->Prop)
  {S : Nat->Prop} (hpres : ∀ (i : Nat) (x : AIns), ¬ S i->m[i]? = some x->∀ s s', Inv s->step D ns s x = some s'->Inv s')
  (hedge : ∀ {i o}, ops[i]? = some o->∀ e ∈ o.after, Region.binds .any e = true->e.on < i) {lo n : Nat} (hlo : lo + n<=ops.size)
  (hpair : ∀ {i k x y}, ¬ S i->¬ S k->lo<=k->k < i->i < lo + n->m[i]? = some y->m[k]? = some x->Anc ops i k\/qdO D ns Inv x y)
  (hstop : ∀ listed : Array Bool, listed.size = ops.size->qy0 ops listed->(∃ j, lo<=j/\j < lo + n/\listed.getD j true = false)->∀ i ∈ Region.ready .any ops listed, i < lo + n)
  {Q : Exit->Act->World->Prop} {rest : Nat} :
  ∀ (k : Nat) (listed : Array Bool) (J : Id->JI) (F : Nat->Prop) (w : World) (a : Act) (s sf sf0 : St), listed.size = ops.size->qy0 ops listed->(∀ j, S j->listed.getD j true = true)->(∀ j, j < lo->listed.getD j true = true)->(∀ j, lo + n<=j->j < ops.size->listed.getD j true = false) →
   (left m listed (List.range' lo n)).length = k->Inv s->qcL J F w s.env a.tmps->HRel J F w s.H->run D ns (left m listed (List.range' lo n)) s = some sf->Eqv sf sf0 →
   (∀ listed' a' w' sf, Eqv sf sf0->qr6 J F w sf a a' w'->listed'.size = ops.size->qy0 ops listed'->(∀ j, j < lo + n->listed'.getD j true = true)->(∀ j, lo + n<=j->j < ops.size->listed'.getD j true = false)->wpAny P .any ops Q rest listed' a' w') →
   wpAny P .any ops Q (k + rest) listed a w := by
 obtain ⟨hml, hmg⟩ := qg8 hm;have hlen : m.length = ops.size := by rw [hml]; simp
 have hop : ∀ {i}, i < ops.size->∃ o x, ops[i]? = some o/\m[i]? = some x/\zn3 P ops o = some x := by
  intro i hi;have ho : ops[i]? = some ops[i] := Array.getElem?_eq_getElem hi
  obtain ⟨x, h1, h2⟩ := hmg i ops[i] (by simp);exact ⟨_, x, ho, h1, h2⟩
 have hin : ∀ {listed : Array Bool} {j}, listed.size = ops.size->listed.getD j true = false->j < ops.size := by
  intro listed j hs h;rcases Nat.lt_or_ge j ops.size with h1 | h1
  ·exact h1
  ·simp [Array.getD, hs, Nat.not_lt.2 h1] at h
 have hflip : ∀ {listed : Array Bool} {j}, listed.size = ops.size->j < ops.size->listed.getD j false = listed.getD j true := by
  intro listed j hs h;simp [Array.getD, hs, h]
 intro k
 induction k with
 | zero =>
  intro listed J F w a s sf sf0 hs hcl hS hbl hab hk hI hE hH hrun heq hfin;have h0 : left m listed (List.range' lo n) = [] := List.eq_nil_of_length_eq_zero hk;rw [h0] at hrun;simp only [run, Option.some.injEq] at hrun;subst hrun;rw [Nat.zero_add];refine hfin listed a w s heq ⟨J, F, hE, hH, Ext.refl _ _ _, rfl⟩ hs hcl (fun j hj => ?_) hab;rcases Nat.lt_or_ge j lo with h1 | h1
  ·exact hbl j h1
  ·cases hq : listed.getD j true with
   | true => rfl
   | false =>
    obtain ⟨_, x, _, hx, _⟩ := hop (hin hs hq);have : x ∈ left m listed (List.range' lo n) := qn6.2 ⟨j, by rw [List.mem_range']; exact ⟨j - lo, by omega, by omega⟩, hq, hx⟩;rw [h0] at this;cases this
 | succ k ih =>
  intro listed J F w a s sf sf0 hs hcl hS hbl hab hk hI hE hH hrun heq hfin
  have hun : ∃ j, lo<=j/\j < lo + n/\listed.getD j true = false := by
   cases hq : left m listed (List.range' lo n) with
   | nil => rw [hq] at hk; simp at hk
   | cons x l =>
    have : x ∈ left m listed (List.range' lo n) := by rw [hq]; simp
    obtain ⟨j, hj, h1, _⟩ := qn6.1 this;rw [List.mem_range'] at hj;obtain ⟨i, h2, h3⟩ := hj;exact ⟨j, by omega, by omega, h1⟩
  rw [Nat.succ_add];refine ⟨fun hr => ?_, fun i hi => ?_⟩
  ·-- something is ready
   exfalso
   have least : ∀ d j, j = lo + d->j < lo + n->listed.getD j true = true := by
    intro d
    induction d using Nat.strongRecOn with
    | _ d ihd =>
     intro j hj hjn;cases hq : listed.getD j true with
     | true => rfl
     | false =>
      have hj' := hin hs hq;obtain ⟨o, x, ho, _, _⟩ := hop hj'
      have : j ∈ Region.ready .any ops listed := mem_ready.2 ⟨hq, o, ho, fun e he hb => by
       have h1 := hedge ho e he hb;rw [hflip hs (by omega)];rcases Nat.lt_or_ge e.on lo with h2 | h2
       ·exact hbl _ h2
       ·exact ihd (e.on - lo) (by omega) e.on (by omega) (by omega)⟩
      rw [hr] at this;cases this
   obtain ⟨j, h1, h2, h3⟩ := hun;rw [least (j - lo) j (by omega) h2] at h3;cases h3
  ·have hin' := hstop listed hs hcl hun i hi
   obtain ⟨h1, o, ho, hall⟩ := mem_ready.1 hi;have hi' := hin hs h1
   have hil : lo<=i := by
    rcases Nat.lt_or_ge i lo with h2 | h2
    ·rw [hbl i h2] at h1; cases h1
    ·exact h2
   obtain ⟨o', x, ho', hx, hcx⟩ := hop hi';rw [ho] at ho';cases ho';have hsplit := qbP (lo := lo) (n := n) hil hin'
   have hleft : left m listed (List.range' lo n) = left m listed (List.range' lo (i - lo)) ++ x :: left m listed (List.range' (i + 1) (lo + n - (i + 1))) := by
    rw [hsplit, qn9]
    congr 1
    simp only [left, List.filterMap_cons, h1, hx];rfl
   have hleft' : left m (listed.setIfInBounds i true) (List.range' lo n) = left m listed (List.range' lo (i - lo)) ++ left m listed (List.range' (i + 1) (lo + n - (i + 1))) := by
    rw [hsplit, qn9, qaG _ _ _ _ (by rw [List.mem_range']; rintro ⟨_, h2, h3⟩; omega)]
    congr 1
    rw [← qaG m listed i (List.range' (i + 1) (lo + n - (i + 1))) (by rw [List.mem_range']; rintro ⟨_, _, h⟩; omega)];simp only [left, List.filterMap_cons];rw [show (listed.setIfInBounds i true).getD i true = true by simp [Array.getD, hs, hi']];rfl
   rw [hleft] at hrun hk
   obtain ⟨s1, sf', q1, q2, q3⟩ := qzF (Inv := Inv) _ x _ s sf (fun k hk => by obtain ⟨j, _, hj1, hj2⟩ := qn6.1 hk; exact hpres j k (fun q => by rw [hS j q] at hj1; cases hj1) hj2) hI (fun k hk => by
    obtain ⟨j, hj, hj1, hj2⟩ := qn6.1 hk;rw [List.mem_range'] at hj;obtain ⟨d, hd1, hd2⟩ := hj;rcases hpair (fun q => by rw [hS i q] at h1; cases h1) (fun q => by rw [hS j q] at hj1; cases hj1) (by omega) (show j < i by omega) hin' hx hj2 with hanc | hc
    ·have := qq2 hcl hanc (fun o' ho' e he hb => by rw [ho] at ho'; cases ho'; exact hall e he hb)
     rw [hflip hs (hin hs hj1), hj1] at this;cases this
    ·exact hc) hrun
   have hs' : (listed.setIfInBounds i true).size = ops.size := by simpa using hs
   have hcl' : qy0 ops (listed.setIfInBounds i true) := by
    intro j oj hoj hj e he hb;by_cases hji : j = i
    ·subst hji
     rw [ho] at hoj;cases hoj;exact getD_set_true (hall e he hb)
    ·rw [getD_set_ne false (Ne.symm hji)] at hj
     exact getD_set_true (hcl j oj hoj hj e he hb)
   have next : ∀ a1 w1, qr6 J F w s1 a a1 w1->wpAny P .any ops Q (k + rest) (listed.setIfInBounds i true) a1 w1 := by
    rintro a1 w1 ⟨J1, F1, r1, r2, r3, r4⟩
    refine ih _ J1 F1 w1 a1 s1 sf' sf0 hs' hcl' (fun j q => (Classical.em (j = i)).elim (fun e => by rw [e]; simp [Array.getD, hs, hi']) (fun e => by rw [getD_set_ne true (Ne.symm e)]; exact hS j q)) (fun j hj => ?_) (fun j hj hj2 => ?_) (by rw [hleft']; simp at hk ⊢; omega) (hpres i x (fun q => by rw [hS i q] at h1; cases h1) hx s s1 hI q1) r1 r2 (by rw [hleft']; exact q2) (q3.trans heq)
     (fun listed' a' w' sf hsf hmv => hfin listed' a' w' sf hsf (qr6.trans (s1 := s1) r3 r4 hmv))
    ·rw [getD_set_ne true (by omega)]; exact hbl j hj
    ·rw [getD_set_ne true (by omega)]; exact hab j hj hj2
   unfold wpOp;simp only [ho];rcases qcP hC hcx hE hH q1 with ⟨hw, h⟩ | ⟨hw, h⟩
   ·rw [if_pos hw]
    exact .inl (Oper.wp_mono next (h Q))
   ·rw [hw]
    exact next _ _ h
def qx1 (i : AIns) : Bool := i.guard.isNone && i.dst.isSome && (match i.op with
 | .p (.mv (.t _)) => true
 | .p (.chk (.t _)) => true
 | .p (.foff _ (.t _)) => true
 | .r (.load _ _ (.t _)) => true
 | _ => false)
def qwS (x y : AIns) : Bool := match x.dst with
 | some d => !(qj4 y).contains d
 | none => false
def rgnC (P : Program) (ops : Array Oper) (m : List AIns) : Rgn := ⟨(qtA P ops m).L, [], [], (qtA P ops m).needs, [], []⟩
def qoL (r : Rgn) (ops : Array Oper) (m : List AIns) (c : Nat) : Bool :=
 (List.range m.length).all fun i => (match ops[i]? with
  | some o => o.after.all fun e => !Region.binds .any e || decide (e.on < i)
  | none => false) && ((match m[i]? with
  | some x => !(Nat.blt c i || qx1 x) || okB r.L [] [] x
  | none => true) && (List.range i).all fun k => ((qx9 ops.toList []).getD i 0).testBit k || (match m[k]?, m[i]? with
  | some x, some y => (!Nat.beq i c && !Nat.beq k c && qgU x y) || (Nat.beq i c && (qx1 x && qwS x y)) || (Nat.blt c i && !Nat.beq k c && qlB r x y)
  | _, _ => false))
theorem qaH {r : Rgn} {ops : Array Oper} {m : List AIns} {c : Nat} (hok : qoL r ops m c = true) {i k : Nat} {x y : AIns} (hki : k < i) (hy : m[i]? = some y) (hx : m[k]? = some x) : Anc ops i k\/(i ≠ c/\k ≠ c/\(qgU x y = true\/(c < i/\qlB r x y = true)))\/(i = c/\qx1 x = true/\qwS x y = true) := by
 have hi : i < m.length := (List.getElem?_eq_some_iff.1 hy).1;have := List.all_eq_true.1 hok i (by simpa using hi);simp only [Bool.and_eq_true] at this;have h2 := List.all_eq_true.1 this.2.2 k (by simpa using hki);simp only [Bool.or_eq_true, Bool.and_eq_true, hx, hy, Bool.not_eq_true', Nat.beq_eq, Nat.blt_eq] at h2;rcases h2 with h2 | (⟨⟨h3, h4⟩, h5⟩ | ⟨h3, h4⟩) | ⟨⟨h3, h4⟩, h5⟩
 ·left
  cases hq : (qx9 ops.toList [])[i]? with
  | none => rw [List.getD_eq_getElem?_getD, hq] at h2; simp at h2
  | some z =>
   rw [List.getD_eq_getElem?_getD, hq] at h2;exact qfM ops ops.toList [] [] rfl rfl (by simp) i z hq k h2
 ·exact .inr (.inl ⟨fun e => by subst e; simp at h3, fun e => by subst e; simp at h4, .inl h5⟩)
 ·exact .inr (.inr ⟨h3, h4⟩)
 ·exact .inr (.inl ⟨by omega, fun e => by subst e; simp at h4, .inr ⟨h3, h5⟩⟩)
theorem zp4 {r : Rgn} {ops : Array Oper} {m : List AIns} {c : Nat} (hok : qoL r ops m c = true) {i : Nat} {x : AIns} (hx : m[i]? = some x) (h : c < i\/qx1 x = true) : okB r.L [] [] x = true := by
 have hi : i < m.length := (List.getElem?_eq_some_iff.1 hx).1;have := List.all_eq_true.1 hok i (by simpa using hi);simp only [Bool.and_eq_true] at this;have h2 := this.2.1;rw [hx] at h2;simp only [Bool.or_eq_true, Bool.not_eq_true', Bool.or_eq_false_iff] at h2;rcases h2 with ⟨h3, h4⟩ | h2
 ·rcases h with h | h
  ·rw [show Nat.blt c i = true by simpa [Nat.blt_eq] using h] at h3; cases h3
  ·rw [h] at h4; cases h4
 ·exact h2
theorem qzO : qm0 [] [] C = qf2 C := rfl
theorem draw_pre {G : AIns->Prop} {D : FuncId->Con} (hC : qr4 P D) {ops : Array Oper} {m : List AIns} (hm : qk2 P ops ops.toList = some m)
  (hedge : ∀ {i o}, ops[i]? = some o->∀ e ∈ o.after, Region.binds .any e = true->e.on < i) {c : Nat} (hc : c < ops.size)
  (hpair : ∀ {i k x y}, k < i->i < c->m[i]? = some y->m[k]? = some x->Anc ops i k\/qdO D ns (fun _ => True) x y)
  (hpc : ∀ {k x}, k < c->m[k]? = some x->Anc ops c k\/G x) (hci : ∀ {i}, c < i->i < ops.size->Anc ops i c)
  {Q : Exit->Act->World->Prop} {rest : Nat} :
  ∀ (k : Nat) (listed : Array Bool) (J : Id->JI) (F : Nat->Prop) (w : World) (a : Act) (s sf sf0 : St), listed.size = ops.size->qy0 ops listed->(∀ j, c<=j->j < ops.size->listed.getD j true = false) →
   (left m listed (List.range' 0 c)).length = k->qcL J F w s.env a.tmps->HRel J F w s.H->run D ns (left m listed (List.range' 0 c)) s = some sf->Eqv sf sf0 →
   (∀ listed' a' w' s' sf, listed'.size = ops.size->qy0 ops listed'->(∀ j, c<=j->j < ops.size->listed'.getD j true = false)->c ∈ Region.ready .any ops listed'->(∀ x ∈ left m listed' (List.range' 0 c), G x) →
    run D ns (left m listed' (List.range' 0 c)) s' = some sf->Eqv sf sf0->qr6 J F w s' a a' w'->wpOp P ops Q c (wpAny P .any ops Q ((left m listed' (List.range' 0 c)).length + rest) (listed'.setIfInBounds c true)) a' w') →
   wpAny P .any ops Q (k + (rest + 1)) listed a w := by
 obtain ⟨hml, hmg⟩ := qg8 hm;have hlen : m.length = ops.size := by rw [hml]; simp
 have hop : ∀ {i}, i < ops.size->∃ o x, ops[i]? = some o/\m[i]? = some x/\zn3 P ops o = some x := by
  intro i hi;have ho : ops[i]? = some ops[i] := Array.getElem?_eq_getElem hi
  obtain ⟨x, h1, h2⟩ := hmg i ops[i] (by simp);exact ⟨_, x, ho, h1, h2⟩
 have hin : ∀ {listed : Array Bool} {j}, listed.size = ops.size->listed.getD j true = false->j < ops.size := by
  intro listed j hs h;rcases Nat.lt_or_ge j ops.size with h1 | h1
  ·exact h1
  ·simp [Array.getD, hs, Nat.not_lt.2 h1] at h
 have hflip : ∀ {listed : Array Bool} {j}, listed.size = ops.size->j < ops.size->listed.getD j false = listed.getD j true := by
  intro listed j hs h;simp [Array.getD, hs, h]
 intro k
 induction k with
 | zero =>
  intro listed J F w a s sf sf0 hs hcl hab hk hE hH hrun heq hfin;have h0 : left m listed (List.range' 0 c) = [] := List.eq_nil_of_length_eq_zero hk
  have hbl : ∀ j, j < c->listed.getD j true = true := by
   intro j hj;cases hq : listed.getD j true with
   | true => rfl
   | false =>
    obtain ⟨_, x, _, hx, _⟩ := hop (hin hs hq);have : x ∈ left m listed (List.range' 0 c) := qn6.2 ⟨j, by rw [List.mem_range']; exact ⟨j, by omega, by omega⟩, hq, hx⟩;rw [h0] at this;cases this
  have hcl2 : listed.getD c true = false := hab c (Nat.le_refl _) hc;obtain ⟨oc, hoc⟩ : ∃ o, ops[c]? = some o := ⟨ops[c], Array.getElem?_eq_getElem hc⟩
  have hcr : c ∈ Region.ready .any ops listed := mem_ready.2 ⟨hcl2, oc, hoc, fun e he hb => by
   have := hedge hoc e he hb;rw [hflip hs (by omega)];exact hbl _ this⟩
  rw [Nat.zero_add];refine ⟨fun hr => ?_, fun i hi => ?_⟩
  ·rw [hr] at hcr; cases hcr
  ·have hic : i = c := by
    obtain ⟨h1, o, ho, hall⟩ := mem_ready.1 hi;rcases Nat.lt_trichotomy i c with h | h | h
    ·rw [hbl i h] at h1; cases h1
    ·exact h
    ·have := qq2 hcl (hci h (hin hs h1)) (fun o' ho' e he hb => by rw [ho] at ho'; cases ho'; exact hall e he hb)
     rw [hflip hs hc, hcl2] at this;cases this
   subst hic;have := hfin listed a w s sf hs hcl hab hi (by rw [h0]; simp) hrun heq ⟨J, F, hE, hH, Ext.refl _ _ _, rfl⟩
   rwa [h0, List.length_nil, Nat.zero_add] at this
 | succ k ih =>
  intro listed J F w a s sf sf0 hs hcl hab hk hE hH hrun heq hfin;rw [Nat.succ_add];refine ⟨fun hr => ?_, fun i hi => ?_⟩
  ·-- something is ready
   exfalso;have hcl2 : listed.getD c true = false := hab c (Nat.le_refl _) hc
   have least : ∀ j, j<=c->listed.getD j true = true := by
    intro j
    induction j using Nat.strongRecOn with
    | _ j ihd =>
     intro hjn;cases hq : listed.getD j true with
     | true => rfl
     | false =>
      have hj' := hin hs hq;obtain ⟨o, x, ho, _, _⟩ := hop hj'
      have : j ∈ Region.ready .any ops listed := mem_ready.2 ⟨hq, o, ho, fun e he hb => by
       have h1 := hedge ho e he hb;rw [hflip hs (by omega)];exact ihd e.on h1 (by omega)⟩
      rw [hr] at this;cases this
   rw [least c (Nat.le_refl _)] at hcl2;cases hcl2
  ·obtain ⟨h1, o, ho, hall⟩ := mem_ready.1 hi
   have hi' := hin hs h1;have hcl2 : listed.getD c true = false := hab c (Nat.le_refl _) hc;rcases Nat.lt_trichotomy i c with hin' | hic | hgt
   ·obtain ⟨o', x, ho', hx, hcx⟩ := hop hi'
    rw [ho] at ho';cases ho';have hsplit := qbP (lo := 0) (n := c) (Nat.zero_le i) (by omega);rw [Nat.sub_zero, Nat.zero_add] at hsplit
    have hleft : left m listed (List.range' 0 c) = left m listed (List.range' 0 i) ++ x :: left m listed (List.range' (i + 1) (c - (i + 1))) := by
     rw [hsplit, qn9]
     congr 1
     simp only [left, List.filterMap_cons, h1, hx];rfl
    have hleft' : left m (listed.setIfInBounds i true) (List.range' 0 c) = left m listed (List.range' 0 i) ++ left m listed (List.range' (i + 1) (c - (i + 1))) := by
     rw [hsplit, qn9, qaG _ _ _ _ (by rw [List.mem_range']; rintro ⟨_, h2, h3⟩; omega)]
     congr 1
     rw [← qaG m listed i (List.range' (i + 1) (c - (i + 1))) (by rw [List.mem_range']; rintro ⟨_, _, h⟩; omega)];simp only [left, List.filterMap_cons];rw [show (listed.setIfInBounds i true).getD i true = true by simp [Array.getD, hs, hi']];rfl
    rw [hleft] at hrun hk
    obtain ⟨s1, sf', q1, q2, q3⟩ := qzF (Inv := fun _ => True) _ x _ s sf (fun _ _ _ _ _ _ => trivial) trivial (fun k hk => by
     obtain ⟨j, hj, hj1, hj2⟩ := qn6.1 hk;rw [List.mem_range'] at hj;obtain ⟨d, hd1, hd2⟩ := hj;rcases hpair (show j < i by omega) hin' hx hj2 with hanc | hc
     ·have := qq2 hcl hanc (fun o' ho' e he hb => by rw [ho] at ho'; cases ho'; exact hall e he hb)
      rw [hflip hs (hin hs hj1), hj1] at this;cases this
     ·exact hc) hrun
    have hs' : (listed.setIfInBounds i true).size = ops.size := by simpa using hs
    have hcl' : qy0 ops (listed.setIfInBounds i true) := by
     intro j oj hoj hj e he hb;by_cases hji : j = i
     ·subst hji
      rw [ho] at hoj;cases hoj;exact getD_set_true (hall e he hb)
     ·rw [getD_set_ne false (Ne.symm hji)] at hj
      exact getD_set_true (hcl j oj hoj hj e he hb)
    have next : ∀ a1 w1, qr6 J F w s1 a a1 w1->wpAny P .any ops Q (k + (rest + 1)) (listed.setIfInBounds i true) a1 w1 := by
     rintro a1 w1 ⟨J1, F1, r1, r2, r3, r4⟩
     refine ih _ J1 F1 w1 a1 s1 sf' sf0 hs' hcl' (fun j hj hj2 => ?_) (by rw [hleft']; simp at hk ⊢; omega) r1 r2 (by rw [hleft']; exact q2) (q3.trans heq)
      (fun listed' a' w' s' sf g1 g2 g3 g4 g5 g6 g7 hmv => hfin listed' a' w' s' sf g1 g2 g3 g4 g5 g6 g7 (qr6.trans (s1 := s1) r3 r4 hmv))
     rw [getD_set_ne true (by omega)]; exact hab j hj hj2
    unfold wpOp;simp only [ho];rcases qcP hC hcx hE hH q1 with ⟨hw, h⟩ | ⟨hw, h⟩
    ·rw [if_pos hw]
     exact .inl (Oper.wp_mono next (h Q))
    ·rw [hw]
     exact next _ _ h
   ·subst hic
    have := hfin listed a w s sf hs hcl hab hi (fun x hx => by
     obtain ⟨j, hj, hj1, hj2⟩ := qn6.1 hx;rw [List.mem_range'] at hj;obtain ⟨d, hd1, hd2⟩ := hj;rcases hpc (show j < i by omega) hj2 with hanc | hc
     ·have := qq2 hcl hanc (fun o' ho' e he hb => by rw [ho] at ho'; cases ho'; exact hall e he hb)
      rw [hflip hs (hin hs hj1), hj1] at this;cases this
     ·exact hc) hrun heq ⟨J, F, hE, hH, Ext.refl _ _ _, rfl⟩
    rw [hk] at this
    rwa [show k + (rest + 1) = k + 1 + rest by omega]
   ·have := qq2 hcl (hci hgt hi') (fun o' ho' e he hb => by rw [ho] at ho'; cases ho'; exact hall e he hb)
    rw [hflip hs hc, hcl2] at this;cases this
theorem qzP {m : List AIns} {listed : Array Bool} : ∀ (n lo : Nat), (left m listed (List.range' lo n)).Sublist ((m.drop lo).take n)
 | 0, lo => by simp [left]
 | n + 1, lo => by
  have ih := qzP (m := m) (listed := listed) n (lo + 1);rw [List.range'_succ];rcases Nat.lt_or_ge lo m.length with h | h
  ·rw [List.drop_eq_getElem_cons h, List.take_succ_cons]
   simp only [left, List.filterMap_cons];split
   ·exact List.Sublist.cons _ ih
   ·rename_i x hx
    split at hx
    ·cases hx
    ·rw [List.getElem?_eq_getElem h] at hx
     cases hx;exact ih.cons_cons _
  ·have : left m listed (lo :: List.range' (lo + 1) n) = [] := by
    simp only [left, List.filterMap_eq_nil_iff];intro j hj
    have : m[j]? = none := by
     rw [List.getElem?_eq_none_iff];rcases List.mem_cons.1 hj with rfl | hj
     ·exact h
     ·rw [List.mem_range'] at hj; obtain ⟨_, _, rfl⟩ := hj; omega
    split
    ·rfl
    ·exact this
   rw [this]; simp
theorem zp5 (hC : qr4 P C) {ops : Array Oper} {m : List AIns} (hm : qk2 P ops ops.toList = some m) {c : Nat} {mi : AIns} {r : Rgn} (hrS : r.S = []) (hrB : r.LB = []) (hrE : r.EL = []) (hci : m[c]? = some mi) (hok : qoL r ops m c = true) {Q : Exit->Act->World->Prop} {J : Id->JI} {F : Nat->Prop} {w : World} {a : Act} {s s1 : St} (hE : qcL J F w s.env a.tmps) (hH : HRel J F w s.H)
  (h1 : run (qf2 C) ns (m.take c) s = some s1)
  (hmid : ∀ L sp sf a1 w1, L.Sublist (m.take c)->(∀ x ∈ L, qx1 x = true/\qwS x mi = true)->run (qf2 C) ns L sp = some sf->Eqv sf s1->qr6 J F w sp a a1 w1->∀ K : Act->World->Prop,
   (∀ a2 w2 s2 s3 J2 F2 ns2 ids, InvB r.L [] ids s2->(∀ p ∈ r.needs, ids p.1 ≠ ids p.2)->qcL J2 F2 w2 s2.env a2.tmps->HRel J2 F2 w2 s2.H->run (qf2 C) ns2 (L ++ m.drop (c + 1)) s2 = some s3->(∀ s3' a3 w3, Eqv s3' s3->qr6 J2 F2 w2 s3' a2 a3 w3->Q .normal a3 w3)->K a2 w2)->wpOp P ops Q c K a1 w1) :
  wpAny P .any ops Q ops.size (Array.replicate ops.size false) a w := by
 have hlen : m.length = ops.size := by rw [(qg8 hm).1]; simp
 have hc : c < ops.size := by rw [← hlen]; exact (List.getElem?_eq_some_iff.1 hci).1
 have hedge : ∀ {i o}, ops[i]? = some o->∀ e ∈ o.after, Region.binds .any e = true->e.on < i := fun {i o} => qlC hm (f := fun _ i => (match m[i]? with
  | some x => !(Nat.blt c i || qx1 x) || okB r.L [] [] x
  | none => true) && (List.range i).all fun k => ((qx9 ops.toList []).getD i 0).testBit k || (match m[k]?, m[i]? with
  | some x, some y => (!Nat.beq i c && !Nat.beq k c && qgU x y) || (Nat.beq i c && (qx1 x && qwS x y)) || (Nat.blt c i && !Nat.beq k c && qlB r x y)
  | _, _ => false)) hok (i := i) (o := o)
 have get : ∀ {i}, i < ops.size->∃ x, m[i]? = some x := fun {i} hi => ⟨m[i]'(by omega), List.getElem?_eq_getElem (by omega)⟩
 have ready_lt : ∀ {listed : Array Bool} {i}, i ∈ Region.ready .any ops listed->i < ops.size := fun {listed i} hi => by
  obtain ⟨_, o, ho, _⟩ := mem_ready.1 hi;exact (Array.getElem?_eq_some_iff.1 ho).1
 have hrep : ∀ j, j < ops.size->(Array.replicate ops.size false).getD j true = false := fun j hj => by simp [Array.getD, hj]
 have hl0 : left m (Array.replicate ops.size false) (List.range' 0 c) = m.take c := by
  rw [qy1 c 0 (by omega) (fun j _ hj => hrep j (by omega))];rfl
 have e0 : ops.size = c + ((ops.size - (c + 1)) + 1) := by omega
 conv => arg 5; rw [e0]
 refine draw_pre (G := fun x => qx1 x = true/\qwS x mi = true) (ns := ns) (qcQ hC) hm hedge hc (fun {i k x y} hki hi hy hx => ?_) (fun {k x} hk hx => ?_) (fun {i} hi hil => ?_) c _ J F w a s s1 s1 (by simp) ?_ (fun j _ hj => hrep j hj) (by rw [hl0, List.length_take]; omega) hE hH (by rw [hl0]; exact h1) (.refl _) ?_
 ·rcases qaH hok hki hy hx with h | ⟨_, _, h | ⟨h, _⟩⟩ | ⟨h, _⟩
  ·exact .inl h
  ·exact .inr (qdO.of_commB h)
  ·omega
  ·omega
 ·rcases qaH hok hk hci hx with h | ⟨h, _⟩ | ⟨_, h⟩
  ·exact .inl h
  ·exact absurd rfl h
  ·exact .inr h
 ·obtain ⟨y, hy⟩ := get hil
  rcases qaH hok hi hy hci with h | ⟨_, h, _⟩ | ⟨h, _⟩
  ·exact h
  ·exact absurd rfl h
  ·omega
 ·intro i o ho hi e he hb
  have : i < ops.size := (Array.getElem?_eq_some_iff.1 ho).1;simp [Array.getD, this] at hi
 ·intro listed a1 w1 sp sf hs hcl hab hcr hlk hrun heq hmv
  obtain ⟨_, oc, hoc, hall⟩ := mem_ready.1 hcr;have hs' : (listed.setIfInBounds c true).size = ops.size := by simpa using hs
  have hcl' : qy0 ops (listed.setIfInBounds c true) := by
   intro j oj hoj hj e he hb;by_cases hji : j = c
   ·subst hji
    rw [hoc] at hoj;cases hoj;exact getD_set_true (hall e he hb)
   ·rw [getD_set_ne false (Ne.symm hji)] at hj
    exact getD_set_true (hcl j oj hoj hj e he hb)
  refine hmid _ sp sf a1 w1 (by simpa using qzP (m := m) (listed := listed) c 0) hlk hrun heq hmv _ fun a2 w2 s2 s3 J2 F2 ns2 ids hI hne hE2 hH2 hr2 hq => ?_
  have hl2 : left m (listed.setIfInBounds c true) (List.range' 0 ops.size) = left m listed (List.range' 0 c) ++ m.drop (c + 1) := by
   have hsplit := qbP (lo := 0) (n := ops.size) (Nat.zero_le c) (by omega);rw [Nat.sub_zero, Nat.zero_add] at hsplit;rw [hsplit, qn9, qaG _ _ _ _ (by rw [List.mem_range']; rintro ⟨_, h2, h3⟩; omega)]
   congr 1
   have : left m (listed.setIfInBounds c true) (c :: List.range' (c + 1) (ops.size - (c + 1))) = left m (listed.setIfInBounds c true) (List.range' (c + 1) (ops.size - (c + 1))) := by
    simp only [left, List.filterMap_cons];rw [show (listed.setIfInBounds c true).getD c true = true by simp [Array.getD, hs, hc]];rfl
   rw [this, qy1 _ _ (by omega) (fun j h1 h2 => by rw [getD_set_ne true (by omega)]; exact hab j (by omega) (by omega)), List.take_of_length_le (by rw [List.length_drop]; omega)]
  have := qlD (ns := ns2) (qcQ hC) hm (InvB r.L [] ids) (S := fun j => j = c\/(j < c/\listed.getD j true = true)) (fun i x hi hx s s' hIs hst => by
   refine InvB.step (AL := []) (S := []) (LB := []) (C := C) (ns := ns2) (zp4 hok hx ?_) (by simp) hIs (by rw [qzO]; exact hst);rcases Nat.lt_trichotomy i c with h | h | h
   ·cases hq : listed.getD i true with
    | true => exact absurd (.inr ⟨h, hq⟩) hi
    | false => exact .inr (hlk x (qn6.2 ⟨i, by rw [List.mem_range']; exact ⟨i, by omega, by omega⟩, hq, hx⟩)).1
   ·exact absurd (.inl h) hi
   ·exact .inl h) hedge (lo := 0) (n := ops.size) (by omega) (fun {j k x y} n1 n2 h0 hki hj hy hx => by
   rcases qaH hok hki hy hx with h | ⟨_, _, h | ⟨_, h⟩⟩ | ⟨h, _⟩
   ·exact .inl h
   ·exact .inr (qdO.of_commB h)
   ·refine .inr ?_
    have := qdO.of_commX (C := C) (ns := ns2) hne h;rw [hrS, hrB, hrE, qzO] at this;exact this
   ·exact absurd (.inl h) n1) (fun listed hs hcl hun j hj => by have := ready_lt hj; omega) (Q := Q) (rest := 0) ((left m listed (List.range' 0 c)).length + (ops.size - (c + 1))) _ J2 F2 w2 a2 s2 s3 s3 hs' hcl' (fun j q => by
    rcases q with rfl | ⟨q1, q2⟩
    ·simp [Array.getD, hs, hc]
    ·rw [getD_set_ne true (by omega)]; exact q2) (fun j hj => by omega) (fun j h1 h2 => by omega) (by rw [hl2, List.length_append, List.length_drop]; omega) hI hE2 hH2 (by rw [hl2]; exact hr2) (.refl _) (fun listed' a' w' sf' hsf' hmv' hs2 _ hall _ => by
    refine ⟨?_, hq sf' a' w' hsf' hmv'⟩;cases hq : Region.ready .any ops listed' with
    | nil => rfl
    | cons j l =>
     have hj : j ∈ Region.ready .any ops listed' := by rw [hq]; simp
     have h5 := (mem_ready.1 hj).1;rw [hall j (by have := ready_lt hj; omega)] at h5;cases h5)
  simpa using this
def zp6 (ops : Array Oper) (m : List AIns) (c : Nat) : Bool :=
 (List.range m.length).all fun i => (match ops[i]? with
  | some o => o.after.all fun e => !Region.binds .any e || decide (e.on < i)
  | none => false) && (List.range i).all fun k => ((qx9 ops.toList []).getD i 0).testBit k || ((decide (i < c) || decide (c < k)) && (match m[k]?, m[i]? with
  | some x, some y => qgU x y
  | _, _ => false))
def isCall : AOp->Bool
 | .r (.call _ _) => true
 | .r (.callv _ _) => true
 | _ => false
def qlE (ops : Array Oper) (m : List AIns) : List Nat->Option Nat
 | [] => none
 | c :: l => (match m[c]? with
  | some i => (match isCall i.op && i.guard.isNone && zp6 ops m c with
   | true => some c
   | false => qlE ops m l)
  | none => qlE ops m l)
def qfO (P : Program) (ops : Array Oper) (m : List AIns) : List Nat->Option Nat
 | [] => none
 | c :: l => (match m[c]? with
  | some i => (match isCall i.op && i.guard.isNone && qoL (rgnC P ops m) ops m c with
   | true => some c
   | false => qfO P ops m l)
  | none => qfO P ops m l)
def qlF (P : Program) (ops : Array Oper) (m : List AIns) : Option Nat := match qlE ops m (List.range m.length) with
 | some c => (match Nat.blt c 1000 with
  | true => some c
  | false => none)
 | none => (match qfO P ops m (List.range m.length) with
  | some c => some (c + 1000)
  | none => none)
theorem qgW {ops : Array Oper} {m : List AIns} {c : Nat} : ∀ {l : List Nat}, qlE ops m l = some c->zp6 ops m c = true
 | [], h => by cases h
 | k :: l, h => by
  simp only [qlE] at h;split at h
  ·split at h
   ·rename_i hh
    cases h;simp only [Bool.and_eq_true] at hh;exact hh.2
   ·exact qgW h
  ·exact qgW h
theorem qeG {ops : Array Oper} {m : List AIns} {c : Nat} : ∀ {l : List Nat}, qfO P ops m l = some c->qoL (rgnC P ops m) ops m c = true
 | [], h => by cases h
 | k :: l, h => by
  simp only [qfO] at h;split at h
  ·split at h
   ·rename_i hh
    cases h;simp only [Bool.and_eq_true] at hh;exact hh.2
   ·exact qeG h
  ·exact qeG h
theorem qzQ {ops : Array Oper} {m : List AIns} {c : Nat} (h : qlF P ops m = some c) : (c < 1000/\zp6 ops m c = true)\/(1000<=c/\qoL (rgnC P ops m) ops m (c - 1000) = true) := by
 unfold qlF at h;split at h
 ·rename_i c' hc
  split at h
  ·rename_i hb
   cases h;exact .inl ⟨by simpa [Nat.blt_eq] using hb, qgW hc⟩
  ·cases h
 ·split at h
  ·rename_i c' hc
   cases h;exact .inr ⟨by omega, by rw [Nat.add_sub_cancel]; exact qeG hc⟩
  ·cases h
theorem qgX {ops : Array Oper} {m : List AIns} (hm : qk2 P ops ops.toList = some m) {c : Nat} (hok : zp6 ops m c = true) {i k : Nat} {x y : AIns} (hki : k < i) (hy : m[i]? = some y) (hx : m[k]? = some x) : Anc ops i k\/((i < c\/c < k)/\qgU x y = true) := by
 have _ := hm;have hi : i < m.length := (List.getElem?_eq_some_iff.1 hy).1;have := List.all_eq_true.1 hok i (by simpa using hi);simp only [Bool.and_eq_true] at this;have h2 := List.all_eq_true.1 this.2 k (by simpa using hki);simp only [Bool.or_eq_true, Bool.and_eq_true, decide_eq_true_eq, hx, hy] at h2;rcases h2 with h2 | h2
 ·left
  cases hq : (qx9 ops.toList [])[i]? with
  | none => rw [List.getD_eq_getElem?_getD, hq] at h2; simp at h2
  | some z =>
   rw [List.getD_eq_getElem?_getD, hq] at h2;exact qfM ops ops.toList [] [] rfl rfl (by simp) i z hq k h2
 ·exact .inr h2
theorem draw_cut (hC : qr4 P C) {ops : Array Oper} {m : List AIns} (hm : qk2 P ops ops.toList = some m) {c : Nat} {mi : AIns} (hci : m[c]? = some mi) (hok : zp6 ops m c = true) {Q : Exit->Act->World->Prop} {J : Id->JI} {F : Nat->Prop} {w : World} {a : Act} {s s1 : St} (hE : qcL J F w s.env a.tmps) (hH : HRel J F w s.H)
  (h1 : run (qf2 C) ns (m.take c) s = some s1)
  (hmid : ∀ sf a1 w1, Eqv sf s1->qr6 J F w sf a a1 w1->∀ K : Act->World->Prop,
   (∀ a2 w2 s2 s3 J2 F2 ns2, qcL J2 F2 w2 s2.env a2.tmps->HRel J2 F2 w2 s2.H->run (qf2 C) ns2 (m.drop (c + 1)) s2 = some s3->(∀ s3' a3 w3, Eqv s3' s3->qr6 J2 F2 w2 s3' a2 a3 w3->Q .normal a3 w3)->K a2 w2)->wpOp P ops Q c K a1 w1) :
  wpAny P .any ops Q ops.size (Array.replicate ops.size false) a w := by
 have hlen : m.length = ops.size := by rw [(qg8 hm).1]; simp
 have hc : c < ops.size := by rw [← hlen]; exact (List.getElem?_eq_some_iff.1 hci).1
 have hedge : ∀ {i o}, ops[i]? = some o->∀ e ∈ o.after, Region.binds .any e = true->e.on < i := fun {i o} => qlC hm (f := fun _ i => (List.range i).all fun k => ((qx9 ops.toList []).getD i 0).testBit k || ((decide (i < c) || decide (c < k)) && (match m[k]?, m[i]? with
  | some x, some y => qgU x y
  | _, _ => false))) hok (i := i) (o := o)
 have hflip : ∀ {listed : Array Bool} {j}, listed.size = ops.size->j < ops.size->listed.getD j false = listed.getD j true := by
  intro listed j hs h;simp [Array.getD, hs, h]
 have get : ∀ {i}, i < ops.size->∃ x, m[i]? = some x := fun {i} hi => ⟨m[i]'(by omega), List.getElem?_eq_getElem (by omega)⟩
 have anc : ∀ {i j}, j < i->i < ops.size->¬ (i < c)->¬ (c < j)->Anc ops i j := by
  intro i j hji hi h1 h2;obtain ⟨y, hy⟩ := get hi;obtain ⟨x, hx⟩ := get (show j < ops.size by omega);rcases qgX hm hok hji hy hx with h | ⟨h | h, _⟩
  ·exact h
  ·exact absurd h h1
  ·exact absurd h h2
 have blocked : ∀ listed : Array Bool, listed.size = ops.size->qy0 ops listed->∀ {i j}, i ∈ Region.ready .any ops listed->j < i->i < ops.size->¬ (i < c)->¬ (c < j)->listed.getD j true = true := by
  intro listed hs hcl i j hi hji hil h1 h2;obtain ⟨_, o, ho, hall⟩ := mem_ready.1 hi;have := qq2 hcl (anc hji hil h1 h2) (fun o' ho' e he hb => by rw [ho] at ho'; cases ho'; exact hall e he hb)
  rwa [hflip hs (by omega)] at this
 have ready_lt : ∀ {listed : Array Bool} {i}, i ∈ Region.ready .any ops listed->i < ops.size := fun {listed i} hi => by
  obtain ⟨_, o, ho, _⟩ := mem_ready.1 hi;exact (Array.getElem?_eq_some_iff.1 ho).1
 have hrep : ∀ j, j < ops.size->(Array.replicate ops.size false).getD j true = false := fun j hj => by simp [Array.getD, hj]
 have hl0 : left m (Array.replicate ops.size false) (List.range' 0 c) = m.take c := by
  rw [qy1 c 0 (by omega) (fun j _ hj => hrep j (by omega))];rfl
 have e0 : ops.size = c + ((ops.size - (c + 1)) + 1) := by omega
 conv => arg 5; rw [e0]
 refine qlD (ns := ns) (qcQ hC) hm (fun _ => True) (fun _ _ _ _ _ _ _ _ => trivial) hedge (lo := 0) (n := c) (by omega) (S := fun _ => False) (fun {i k x y} _ _ h0 hki hi hy hx => ?_) (fun listed hs hcl hun i hi => ?_) (rest := (ops.size - (c + 1)) + 1) c _ J F w a s s1 s1 (by simp) ?_ (fun j q => q.elim) (fun j hj => by omega) (fun j _ hj => hrep j hj) (by rw [hl0, List.length_take]; omega) trivial hE hH (by rw [hl0]; exact h1) (.refl _) ?_
 ·rcases qgX hm hok hki hy hx with h | ⟨_, h⟩
  ·exact .inl h
  ·exact .inr (qdO.of_commB h)
 ·obtain ⟨j, _, hj, hjl⟩ := hun
  apply Classical.byContradiction
  intro hge;rw [blocked listed hs hcl hi (by omega) (ready_lt hi) (by omega) (by omega)] at hjl;cases hjl
 ·intro i o ho hi e he hb
  have : i < ops.size := (Array.getElem?_eq_some_iff.1 ho).1;simp [Array.getD, this] at hi
 ·intro listed a1 w1 sf hsf hmv hs hcl hbl hab
  simp only [Nat.zero_add] at hbl hab;have hcl2 : listed.getD c true = false := hab c (Nat.le_refl _) hc;obtain ⟨oc, hoc⟩ : ∃ o, ops[c]? = some o := ⟨ops[c], Array.getElem?_eq_getElem hc⟩
  have hcr : c ∈ Region.ready .any ops listed := mem_ready.2 ⟨hcl2, oc, hoc, fun e he hb => by
   have := hedge hoc e he hb;rw [hflip hs (by omega)];exact hbl _ this⟩
  refine ⟨fun hr => ?_, fun i hi => ?_⟩
  ·rw [hr] at hcr; cases hcr
  ·have hic : i = c := by
    rcases Nat.lt_trichotomy i c with h | h | h
    ·have := (mem_ready.1 hi).1
     rw [hbl i h] at this;cases this
    ·exact h
    ·rw [blocked listed hs hcl hi h (ready_lt hi) (by omega) (by omega)] at hcl2
     cases hcl2
   subst hic;have hs' : (listed.setIfInBounds i true).size = ops.size := by simpa using hs
   have hcl' : qy0 ops (listed.setIfInBounds i true) := by
    intro j oj hoj hj e he hb;by_cases hji : j = i
    ·subst hji
     have h5 := hedge hoj e he hb;refine getD_set_true ?_
     rw [hflip hs (by omega)];exact hbl _ h5
    ·rw [getD_set_ne false (Ne.symm hji)] at hj
     exact getD_set_true (hcl j oj hoj hj e he hb)
   have hab' : ∀ j, i + 1<=j->j < ops.size->(listed.setIfInBounds i true).getD j true = false := fun j h1 h2 => by rw [getD_set_ne true (by omega)]; exact hab j (by omega) h2
   have hbl' : ∀ j, j < i + 1->(listed.setIfInBounds i true).getD j true = true := fun j hj => by
    by_cases hji : j = i
    ·subst hji; simp [Array.getD, hs, hc]
    ·rw [getD_set_ne true (Ne.symm hji)]; exact hbl j (by omega)
   refine hmid sf a1 w1 hsf hmv _ fun a2 w2 s2 s3 J2 F2 ns2 hE2 hH2 hr2 hq => ?_
   have hl2 : left m (listed.setIfInBounds i true) (List.range' (i + 1) (ops.size - (i + 1))) = m.drop (i + 1) := by
    rw [qy1 _ _ (by omega) (fun j h1 h2 => hab' j h1 (by omega)), List.take_of_length_le (by rw [List.length_drop]; omega)]
   have := qlD (ns := ns2) (qcQ hC) hm (fun _ => True) (fun _ _ _ _ _ _ _ _ => trivial) hedge (lo := i + 1) (n := ops.size - (i + 1)) (by omega) (S := fun _ => False) (fun {j k x y} _ _ h0 hki hj hy hx => by
    rcases qgX hm hok hki hy hx with h | ⟨_, h⟩
    ·exact .inl h
    ·exact .inr (qdO.of_commB h)) (fun listed hs hcl hun j hj => by have := ready_lt hj; omega) (Q := Q) (rest := 0) (ops.size - (i + 1)) _ J2 F2 w2 a2 s2 s3 s3 hs' hcl' (fun j q => q.elim) hbl' (fun j h1 h2 => by omega) (by rw [hl2, List.length_drop]; omega) trivial hE2 hH2 (by rw [hl2]; exact hr2) (.refl _) (fun listed' a' w' sf' hsf' hmv' hs2 _ hall _ => by
     refine ⟨?_, hq sf' a' w' hsf' hmv'⟩;cases hq : Region.ready .any ops listed' with
     | nil => rfl
     | cons j l =>
      have hj : j ∈ Region.ready .any ops listed' := by rw [hq]; simp
      have h5 := (mem_ready.1 hj).1;rw [hall j (by have := ready_lt hj; omega)] at h5;cases h5)
   simpa using this
end
structure Ext0 (B : Id->Prop) (J : Id->JI) (F : Nat->Prop) (w : World) (J' : Id->JI) (F' : Nat->Prop) (w' : World) : Prop where
 le : ∀ id, B id->(J id).le (J' id)
 fle : ∀ g, F g->F' g
 fnew : ∀ g, F' g->F g\/Own J g\/w.heap.size<=g
 onew : ∀ g, Own J' g->Own J g\/w.heap.size<=g
 heap : ∀ g, g < w.heap.size->¬ Own J g->w'.heap[g]? = w.heap[g]?
 size : w.heap.size<=w'.heap.size
 os : w'.os = w.os
 tape : w'.tape = w.tape
 output : w'.output = w.output
def Sub [Inhabited TabsD] (B : Id->Prop) (s s' : St) : Prop := ∀ (J : Id->JI) (F : Nat->Prop) (w : World) (a : Act), qcL J F w s.env a.tmps->HRel J F w s.H →
 ∃ J' F', qcL J' F' w s'.env a.tmps/\HRel J' F' w s'.H/\Ext0 B J F w J' F' w
def zg1 (next : St->Prop) (Q : Exit->St->Prop) : Exit->St->Prop
 | .normal, s => next s
 | e, s => Q e s
def qaI (id : Nat) (Q : Exit->St->Prop) : Exit->St->Prop
 | .exit id', s => if id' = id then Q .normal s else Q (.exit id') s
 | e, s => Q e s
def Has (l : List (Nat × AV)) : List (Nat × AV)->Prop
 | [] => True
 | (t, x) :: m => look l t = x/\Has l m
theorem Has.get {l : List (Nat × AV)} : ∀ {m : List (Nat × AV)}, Has l m->∀ p ∈ m, look l p.1 = p.2
 | [], _, p, hp => by cases hp
 | (t, x) :: m, h, p, hp => by
  rcases List.mem_cons.1 hp with rfl | hp
  ·exact h.1
  ·exact Has.get h.2 p hp
def wpA [Inhabited TabsD] (C : FuncId->Con) (ns : Id) (B : Id->Prop) : ACode->(Exit->St->Prop)->St->Prop
 | .skip, Q, s => Q .normal s
 | .region ops, Q, s => ∃ s', run C ns ops s = some s'/\Q .normal s'
 | .draw ops _, Q, s => ∃ s' l, run (qf2 C) ns ops s = some s'/\Has s'.env.l l/\Q .normal ⟨⟨s'.env.n, l⟩, s'.H⟩
 | .drawA ops r1 r2 _, Q, s => ∃ r : Rgn, (r = r1\/r = r2)/\∃ ids : Nat->Id, invT ids s r.L/\invE s r.EL/\(∀ d ∈ r.AL, ids d = d :: ns)/\(∀ p ∈ r.needs, ids p.1 ≠ ids p.2)/\(∀ p ∈ r.LB, C p.1 = .shared (qc7 p.2))/\∃ s' l, run (qm0 r.S r.LB C) ns ops s = some s'/\Has s'.env.l l/\Q .normal ⟨⟨s'.env.n, l⟩, s'.H⟩
 | .seq x y, Q, s => wpA C ns B x (zg1 (wpA C ns B y Q) Q) s
 | .cond c x y, Q, s => ∃ t, unw true (evE s.env c) = .val (.bool t)/\(t = true->wpA C ns B x Q s)/\(t = false->wpA C ns B y Q s)
 | .block id x, Q, s => wpA C ns B x (qaI id Q) s
 | .loop x, Q, s => ∀ R : St->Prop, (∀ s s0, Sub B s s0->wpA C ns B x (zg1 R Q) s0->R s)->R s
 | .exit id, Q, s => Q (.exit id) s
 | .bad, _, _ => False
 | .ret, Q, s => Q .ret s
def qm1 (P : Program) : Code->Option ACode
 | .skip => some .skip
 | .region _ ops draw => match draw, qk2 P ops ops.toList with
  | false, some m => some (.region m)
  | true, some m => if P.follows .mixedOrders = true then (if ((qjL true P ops m).isEmpty && (qsZ P m).isEmpty) = true/\zo8 ops m = true then some (.draw m (qlF P ops m)) else if qaF ops m (qtA P ops m) = true then some (.drawA m (qtA P ops m) (zp2 P ops m) (qlF P ops m)) else if zo8 ops m = true then some (.draw m (qlF P ops m)) else some .bad) else some .bad
  | _, none => some .bad
 | .seq x y => match qm1 P x, qm1 P y with
  | some x', some y' => some (.seq x' y')
  | _, _ => none
 | .cond c x y => match qo5 c, qm1 P x, qm1 P y with
  | some c', some x', some y' => some (.cond c' x' y')
  | _, _, _ => none
 | .block id x => (qm1 P x).map (.block id)
 | .loop x => (qm1 P x).map .loop
 | .exit id => some (.exit id)
 | .ret => some .ret
 | _ => some .bad
section
variable {P : Program} {J J0 : Id->JI} {F F0 : Nat->Prop} {w w0 : World} {H : Hp} {a : Act} {C : FuncId->Con} {B : Id->Prop}
theorem Ext.to0 {J' : Id->JI} {F' : Nat->Prop} {w' : World} (h : Ext J F w J' F' w') : Ext0 B J F w J' F' w' := ⟨fun id _ => h.le id, h.fle, h.fnew, h.onew, h.heap, h.size, h.os, h.tape, h.output⟩
theorem Ext0.trans {J' J'' : Id->JI} {F' F'' : Nat->Prop} {w' w'' : World} (h : Ext0 B J F w J' F' w') (h' : Ext0 B J' F' w' J'' F'' w'') : Ext0 B J F w J'' F'' w'' where
 le id hb := JI.le_trans (h.le id hb) (h'.le id hb)
 fle g hg := h'.fle g (h.fle g hg)
 fnew g hg := by
  rcases h'.fnew g hg with h1 | h1 | h1
  ·exact h.fnew g h1
  ·rcases h.onew g h1 with h2 | h2
   ·exact .inr (.inl h2)
   ·exact .inr (.inr h2)
  ·exact .inr (.inr (Nat.le_trans h.size h1))
 onew g hg := by
  rcases h'.onew g hg with h1 | h1
  ·exact h.onew g h1
  ·exact .inr (Nat.le_trans h.size h1)
 heap g hg ho := by
  rw [h'.heap g (Nat.lt_of_lt_of_le hg h.size) (fun h1 => by
   rcases h.onew g h1 with h2 | h2
   ·exact ho h2
   ·omega), h.heap g hg ho]
 size := Nat.le_trans h.size h'.size
 os := h'.os.trans h.os
 tape := h'.tape.trans h.tape
 output := h'.output.trans h.output
theorem Ext0.refl (J : Id->JI) (F : Nat->Prop) (w : World) : Ext0 B J F w J F w := (Ext.refl J F w).to0
def qq0 [Inhabited TabsD] (B : Id->Prop) (J0 : Id->JI) (F0 : Nat->Prop) (w0 : World) (d0 : List Deferred) (s : St) (a : Act) (w : World) : Prop :=
 ∃ J F, qcL J F w s.env a.tmps/\HRel J F w s.H/\Ext0 B J0 F0 w0 J F w/\a.defers = d0
def qtB (P : Program) (c : Code) (Q : Exit->Act->World->Prop) (a : Act) (w : World) : Prop :=
 ∀ (b : Frame) (k : List Item) (cs : List Go.Frame), ∃ e a' w', Q e a' w'/\Arrives P (lone (b.at a (.code c :: .inLoop c :: k)) cs w) b k cs e a' w'
theorem qlG {c : Code} {Q : Exit->Act->World->Prop} (h : c.wp P (Exit.then (qtB P c Q) Q) a w) : qtB P c Q a w := by
 intro b k cs;obtain ⟨e, a₁, w₁, hq, harr⟩ := h b (.inLoop c :: k) cs;cases e with
 | normal =>
  obtain ⟨e₂, a₂, w₂, hq₂, harr₂⟩ := hq b k cs;exact ⟨e₂, a₂, w₂, hq₂, .of_steps (Steps.trans harr (.one step_inLoop)) harr₂⟩
 | exit id => exact ⟨_, a₁, w₁, hq, .pass (x := .inLoop c) rfl (fun _ _ => .inl (by simp)) harr⟩
 | goto l => exact ⟨_, a₁, w₁, hq, .pass (x := .inLoop c) rfl (fun _ _ => .inl (by simp)) harr⟩
 | ret => exact ⟨_, a₁, w₁, hq, .pass (x := .inLoop c) rfl (fun _ _ => .inl (by simp)) harr⟩
 | panic ch => exact ⟨_, a₁, w₁, hq, .pass (x := .inLoop c) rfl (fun _ _ => .inl (by simp)) harr⟩
 | outgrown => exact ⟨_, a₁, w₁, hq, .pass (x := .inLoop c) rfl (fun _ _ => .inl (by simp)) harr⟩
theorem qtC {c : Code} {Q : Exit->Act->World->Prop} (h : qtB P c Q a w) : (Code.loop c).wp P Q a w := by
 intro b k cs;obtain ⟨e, a', w', hq, harr⟩ := h b k cs;exact ⟨e, a', w', hq, .of_steps (.one step_loop) harr⟩
theorem Sub.env {s : St} {l : List (Nat × AV)} (h : ∀ p ∈ l, look s.env.l p.1 = p.2) : Sub B s ⟨⟨s.env.n, l⟩, s.H⟩ := by
 intro J F w a hE hH
 have key : ∀ t, look l t = look s.env.l t\/look l t = .junk := by
  intro t
  induction l with
  | nil => exact .inr rfl
  | cons p l ih =>
   simp only [look];split
   ·rename_i e
    subst e;exact .inl (h p (by simp)).symm
   ·exact ih (fun q hq => h q (by simp [hq]))
 refine ⟨J, F, ⟨hE.1, fun t v h1 => ?_, fun t ht => ?_⟩, hH, Ext0.refl _ _ _⟩
 ·rcases key t with h2 | h2
  ·simp only [h2]; exact hE.2.1 t v h1
  ·simp only [h2]; exact .junk _
 ·rcases key t with h2 | h2
  ·simp only [h2]; exact hE.2.2 t ht
  ·exact h2
theorem qzR {ops : Array Oper} {m : List AIns} (hm : qk2 P ops ops.toList = some m) : left m (Array.replicate ops.size false) (List.range m.length) = m := by
 have hlen : m.length = ops.size := by have := (qg8 hm).1; simpa using this
 have hall : left m (Array.replicate ops.size false) (List.range m.length) = (List.range m.length).filterMap fun j => m[j]? := by
  unfold left
  have key : ∀ l : List Nat, (∀ j ∈ l, j < ops.size)->(l.filterMap fun j => if (Array.replicate ops.size false).getD j true = true then none else m[j]?) = l.filterMap fun j => m[j]? := by
   intro l
   induction l with
   | nil => intro _; rfl
   | cons j l ih =>
    intro hj;have h1 := hj j (by simp);simp only [List.filterMap_cons];rw [if_neg (by simp [Array.getD, h1]), ih (fun k hk => hj k (by simp [hk]))]
  exact key _ (fun j hj => by rw [← hlen]; simpa using hj)
 rw [hall]
 clear hall hlen
 have key2 : ∀ (m : List AIns) (p : List AIns), (List.range' p.length m.length).filterMap (fun j => (p ++ m)[j]?) = m := by
  intro m
  induction m with
  | nil => intro p; rfl
  | cons x m ih =>
   intro p;simp only [List.length_cons, List.range'_succ, List.filterMap_cons];have : (p ++ x :: m)[p.length]? = some x := by simp
   rw [this];simp only;have := ih (p ++ [x]);simp only [List.length_append, List.length_cons, List.length_nil, List.append_assoc, List.cons_append, List.nil_append] at this;rw [this]
 have := key2 m [];simpa [List.range_eq_range'] using this
theorem zp7 (hC : qr4 P C) {ns : Id} {d0 : List Deferred} : ∀ (c : Code) (ac : ACode), qm1 P c = some ac->∀ (Qa : Exit->St->Prop) (Q : Exit->Act->World->Prop) (s : St) (a : Act) (w : World), qq0 B J0 F0 w0 d0 s a w->wpA C ns B ac Qa s →
  (∀ e s' a' w', qq0 B J0 F0 w0 d0 s' a' w'->Qa e s'->Q e a' w')->c.wp P Q a w := by
 intro c
 induction c with
 | skip =>
  intro ac hc Qa Q s a w hS hw hQ;cases hc;exact wp_skip (hQ _ _ _ _ hS hw)
 | region id ops draw =>
  intro ac hc Qa Q s a w hS hw hQ;simp only [qm1] at hc;split at hc
  ·rename_i m hm
   cases hc;obtain ⟨s', hs', hq⟩ := hw;obtain ⟨J, F, hE, hH, hX, hd⟩ := hS;refine wp_region_list (qkV hC ops.toList m J F w a s s' hm hE hH hs' ?_);rintro a' w' ⟨J', F', h1, h2, h3, h4⟩;exact hQ _ _ _ _ ⟨J', F', h1, h2, hX.trans h3.to0, h4.trans hd⟩ hq
  ·rename_i m hm
   have hl : left m (Array.replicate ops.size false) (List.range m.length) = m := qzR hm;split at hc
   ·rename_i hmix
    have plain : zo8 ops m = true->wpA C ns B (.draw m none) Qa s->(Code.region id ops true).wp P Q a w := by
     rintro hok ⟨s', l, hs', hhas, hq⟩;obtain ⟨J, F, hE, hH, hX, hd⟩ := hS;have hH1 : HRel J F { w with drawn := w.drawn + 1 } s.H := hH.drew;have hE1 : qcL J F { w with drawn := w.drawn + 1 } s.env a.tmps := hE.ext hH (qh9 J F w)
     refine wp_region_any hmix (qgV (ns := ns) (qcQ hC) hm (fun _ => True) (fun _ _ _ _ _ _ => trivial) (fun {i o} => qlC hm (f := fun _ i => (List.range i).all fun k => ((qx9 ops.toList []).getD i 0).testBit k || (match m[k]?, m[i]? with
      | some x, some y => qgU x y
      | _, _ => false)) hok (i := i) (o := o)) (fun hki hy hx => (qeF hm hok hki hy hx).imp (fun h => h) qdO.of_commB) ops.size _ J F _ a s s' s' (by simp) ?_ ?_ trivial hE1 hH1 (by rw [hl]; exact hs') (.refl _) ?_)
     ·intro i o ho hi e he hb
      have : i < ops.size := (Array.getElem?_eq_some_iff.1 ho).1;simp [Array.getD, this] at hi
     ·rw [hl]
      have := (qg8 hm).1;simp at this;omega
     ·rintro a' w' s'' heq ⟨J', F', h1, h2, h3, h4⟩
      obtain ⟨J2, F2, k1, k2, k3⟩ := Sub.env (B := B) (s := s'') (l := l) (fun p hp => by rw [heq.look]; exact hhas.get p hp) J' F' w' a' h1 h2;rw [← heq.n, ← heq.H] at hq;exact hQ _ _ a' w' ⟨J2, F2, k1, k2, (hX.trans ((qh9 J F w).trans h3).to0).trans k3, h4.trans hd⟩ hq
    split at hc
    ·rename_i hok
     cases hc;exact plain hok.2 hw
    ·split at hc
     ·rename_i hok
      cases hc;obtain ⟨rr, hrr, ids, hI, hIE, hAL, hn, hLB, s', l, hs', hhas, hq⟩ := hw;obtain ⟨J, F, hE, hH, hX, hd⟩ := hS;have hH1 : HRel J F { w with drawn := w.drawn + 1 } s.H := hH.drew;have hE1 : qcL J F { w with drawn := w.drawn + 1 } s.env a.tmps := hE.ext hH (qh9 J F w)
      have hok2 : qaF ops m rr = true := by
       rcases hrr with rfl | rfl
       ·exact hok
       ·exact zp3 hok
      unfold qaF at hok2;rw [Bool.and_eq_true] at hok2
      refine wp_region_any hmix (qgV (ns := ns) (zn7 hC hLB) hm (InvB rr.L rr.EL ids) (fun i hi s s' h1 h2 => InvB.step (List.all_eq_true.1 hok2.1 i hi) hAL h1 h2) (fun {i o} => qlC hm (f := fun _ i => (List.range i).all fun k => ((qx9 ops.toList []).getD i 0).testBit k || (match m[k]?, m[i]? with
       | some x, some y => qlB rr x y
       | _, _ => false)) hok2.2 (i := i) (o := o)) (fun hki hy hx => (qeF hm (g := fun x y => qlB rr x y) hok2.2 hki hy hx).imp (fun h => h) (qdO.of_commX hn)) ops.size _ J F _ a s s' s' (by simp) ?_ ?_ (zo1 hI hIE) hE1 hH1 (by rw [hl]; exact hs') (.refl _) ?_)
      ·intro i o ho hi e he hb
       have : i < ops.size := (Array.getElem?_eq_some_iff.1 ho).1;simp [Array.getD, this] at hi
      ·rw [hl]
       have := (qg8 hm).1;simp at this;omega
      ·rintro a' w' s'' heq ⟨J', F', h1, h2, h3, h4⟩
       obtain ⟨J2, F2, k1, k2, k3⟩ := Sub.env (B := B) (s := s'') (l := l) (fun p hp => by rw [heq.look]; exact hhas.get p hp) J' F' w' a' h1 h2;rw [← heq.n, ← heq.H] at hq;exact hQ _ _ a' w' ⟨J2, F2, k1, k2, (hX.trans ((qh9 J F w).trans h3).to0).trans k3, h4.trans hd⟩ hq
     ·split at hc
      ·rename_i hok
       cases hc;exact plain hok hw
      ·cases hc; exact hw.elim
   ·cases hc; exact hw.elim
  ·cases hc; exact hw.elim
 | seq x y ihx ihy =>
  intro ac hc Qa Q s a w hS hw hQ;simp only [qm1] at hc;split at hc
  ·rename_i x' y' hx hy
   cases hc;refine wp_seq (ihx x' hx _ _ s a w hS hw ?_);intro e s' a' w' hS' h;cases e <;> try exact hQ _ s' a' w' hS' h
   exact ihy y' hy Qa Q s' a' w' hS' h hQ
  ·cases hc
 | cond c x y ihx ihy =>
  intro ac hc Qa Q s a w hS hw hQ;simp only [qm1] at hc;split at hc
  ·rename_i c' x' y' h1 hx hy
   cases hc;obtain ⟨t, ht, h2, h3⟩ := hw;obtain ⟨J, F, hE, hH, hX, hd⟩ := hS;have hv := (orel hE).ev h1;simp only [ht] at hv;refine wp_cond hv.bool ?_
   cases t with
   | true => exact ihx x' hx Qa Q s a w ⟨J, F, hE, hH, hX, hd⟩ (h2 rfl) hQ
   | false => exact ihy y' hy Qa Q s a w ⟨J, F, hE, hH, hX, hd⟩ (h3 rfl) hQ
  ·cases hc
 | block id x ih =>
  intro ac hc Qa Q s a w hS hw hQ;simp only [qm1, Option.map_eq_some_iff] at hc;obtain ⟨x', hx, rfl⟩ := hc;refine wp_block (ih x' hx _ _ s a w hS hw ?_);intro e s' a' w' hS' h;cases e <;> try exact hQ _ s' a' w' hS' h
  rename_i id';simp only [qaI] at h;simp only [Exit.inBlock];split at h
  ·rename_i e; rw [if_pos e]; exact hQ _ s' a' w' hS' h
  ·rename_i e; rw [if_neg e]; exact hQ _ s' a' w' hS' h
 | loop x ih =>
  intro ac hc Qa Q s a w hS hw hQ;simp only [qm1, Option.map_eq_some_iff] at hc;obtain ⟨x', hx, rfl⟩ := hc;refine qtC (hw (fun s => ∀ a w, qq0 B J0 F0 w0 d0 s a w->qtB P x Q a w) ?_ a w hS);intro s s0 hsub hx0 a w hS;obtain ⟨J, F, hE, hH, hX, hd⟩ := hS;obtain ⟨J', F', h1, h2, h3⟩ := hsub J F w a hE hH;refine qlG (ih x' hx _ _ s0 a w ⟨J', F', h1, h2, hX.trans h3, hd⟩ hx0 ?_);intro e s' a' w' hS' h;cases e <;> try exact hQ _ s' a' w' hS' h
  exact h a' w' hS'
 | exit id =>
  intro ac hc Qa Q s a w hS hw hQ;cases hc;exact wp_exit (hQ _ _ _ _ hS hw)
 | ret =>
  intro ac hc Qa Q s a w hS hw hQ;cases hc;exact wp_ret (hQ _ _ _ _ hS hw)
 | _ =>
  intro ac hc Qa Q s a w hS hw hQ;cases hc;exact hw.elim
theorem Sub.refl (s : St) : Sub B s s := fun J F w _ hE hH => ⟨J, F, hE, hH, Ext0.refl _ _ _⟩
end
inductive ARes where
 | tmp (t : Nat)
 | cell (t n : Nat) (agg : Bool)
structure AFn where
 code : ACode
 res : List ARes
 ntmps : Nat
def cRes (P : Program) : ResultVar->Option ARes
 | .tmp t => some (.tmp t)
 | .cell x t => match P.underlying t with
  | some _ => some (.cell x (P.cellsOf t) (qg1 P t))
  | none => none
def qwT (P : Program) : List ResultVar->Option (List ARes)
 | [] => some []
 | r :: l => match cRes P r, qwT P l with
  | some x, some m => some (x :: m)
  | _, _ => none
def qtD (P : Program) (f : FuncId) : Option AFn :=
 match P.funcs[f]? with
 | some fn => match fn.body, qwT P fn.results.toList with
  | some c, some rs => if fn.name == "runtime.NumGoroutine" then none else (qm1 P c).map fun ac => ⟨ac, rs, fn.ntmps⟩
  | _, _ => none
 | none => none
def res1 (s : St) : ARes->Option AV
 | .tmp t => some (unw true (look s.env.l t))
 | .cell t n agg => qk1 s.H n agg (unw true (look s.env.l t))
def ress (s : St) : List ARes->Option (List AV)
 | [] => some []
 | r :: l => match res1 s r, ress s l with
  | some x, some m => some (x :: m)
  | _, _ => none
def outA (s : St) (rs : List ARes) : Option AV :=
 match ress s rs with
 | some [x] => some x
 | some l => some (.tup l)
 | none => none
def qtE : Nat->List AV->List (Nat × AV)
 | _, [] => []
 | i, x :: l => (i, x) :: qtE (i + 1) l
def zg2 (avs : List AV) (n : Nat) : Env := ⟨avs.length + (n - avs.length), qtE 0 avs⟩
def retQ (K : St->Prop) : Exit->St->Prop
 | .normal, s => K s
 | .ret, s => K s
 | _, _ => False
def outD (H : Hp) : AV->Option DV
 | .tup l => (qf5 H 99 l).map fun (ds, _) => .tup ds
 | x => (qz9 H 99 x).map fun (d, _) => d
section
variable {P : Program} {J J0 : Id->JI} {F F0 : Nat->Prop} {w w0 : World} {H : Hp} {a : Act} {C : FuncId->Con} {B : Id->Prop}
theorem qwU {t : TypeId} {v u : Value} {p : Addr} (hv : v = .pointer (some p)) (h : (Instr.loadAt t v).run P w = .ok u w) : (do loadVar t (← asAddr v) : Sem Value).run P w = .ok u w := by
 subst hv;simpa [Instr.loadAt, Instr.sureAddr, asAddr] using h
theorem zp8 {n : Nat} {agg : Bool} {x y : AV} {v : Value} (hv : VRel J F w x v) (h : qk1 H n agg x = some y) : ∃ p, v = .pointer (some p) := by
 cases x <;> simp only [qk1, reduceCtorEq] at h
 case val d =>
  cases d <;> simp only [reduceCtorEq] at h
  cases hv.inv_val;exact ⟨_, rfl⟩
 case box => cases hv <;> exact ⟨_, rfl⟩
 case elt => cases hv <;> exact ⟨_, rfl⟩
def qtF (tmps : Array Value) : ResultVar->Sem Value
 | .tmp t => pure (tmps.getD t undef)
 | .cell x t => do loadVar t (← asAddr (tmps.getD x undef))
theorem qoM (fn : Func) (tmps : Array Value) : results fn tmps = (do
  let vs ← fn.results.mapM (qtF tmps)
  pure (if h : vs.size = 1 then vs[0] else .tuple vs)) := rfl
theorem qzS {s : St} (hE : qcL J F w s.env a.tmps) (hH : HRel J F w s.H) : ∀ (rs : List ResultVar) (ms : List ARes) (xs : List AV), qwT P rs = some ms->ress s ms = some xs →
  ∃ vs : List Value, (rs.mapM (qtF a.tmps)).run P w = .ok vs w/\vs.length = xs.length/\∀ (j : Nat) x v, xs[j]? = some x->vs[j]? = some v->VRel J F w x v
 | [], ms, xs, hc, hx => by
  cases hc;simp only [ress, Option.some.injEq] at hx;subst hx;exact ⟨[], rfl, rfl, by simp⟩
 | r :: rs, ms, xs, hc, hx => by
  simp only [qwT] at hc;split at hc
  ·rename_i m ms' hm hms
   cases hc;simp only [ress] at hx;split at hx
   ·rename_i x xs' h1 h2
    cases hx;obtain ⟨vs, h3, h4, h5⟩ := qzS hE hH rs ms' xs' hms h2
    have hone : ∃ v, (qtF a.tmps r).run P w = .ok v w/\VRel J F w x v := by
     cases r with
     | tmp t =>
      cases hm;simp only [res1, Option.some.injEq] at h1;subst h1;exact ⟨_, rfl, qwN (hE.ev (x := .tmp t) (y := .t t) rfl)⟩
     | cell t ty =>
      simp only [cRes] at hm;split at hm
      ·rename_i d hd
       cases hm;simp only [res1] at h1;have hv := qwN (hE.ev (x := .tmp t) (y := .t t) rfl);obtain ⟨u, hu, hr⟩ := qoA hH hd hv h1;obtain ⟨p, hp⟩ := zp8 hv h1;exact ⟨u, qwU hp hu, hr⟩
      ·cases hm
    obtain ⟨v, hv, hr⟩ := hone;refine ⟨v :: vs, ?_, by simp [h4], ?_⟩
    ·rw [List.mapM_cons]
     simp only [Sem.run_bind, hv, Result.andThen_ok, h3, Sem.run_pure]
    ·intro j x' v' q1 q2
     cases j with
     | zero => simp at q1 q2; subst q1; subst q2; exact hr
     | succ j => simp at q1 q2; exact h5 j x' v' q1 q2
   ·cases hx
  ·cases hc
theorem outA_run {s : St} (hE : qcL J F w s.env a.tmps) (hH : HRel J F w s.H) {fn : Func} {ms : List ARes} {x : AV} (hc : qwT P fn.results.toList = some ms) (hx : outA s ms = some x) : ∃ v, (results fn a.tmps).run P w = .ok v w/\VRel J F w x v := by
 unfold outA at hx
 have key : ∀ xs, ress s ms = some xs->∃ vs : List Value, (results fn a.tmps).run P w = .ok (if h : vs.toArray.size = 1 then vs.toArray[0] else .tuple vs.toArray) w/\vs.length = xs.length/\∀ (j : Nat) x v, xs[j]? = some x->vs[j]? = some v->VRel J F w x v := by
  intro xs hxs;obtain ⟨vs, h1, h2, h3⟩ := qzS hE hH _ _ _ hc hxs;refine ⟨vs, ?_, h2, h3⟩;rw [qoM];simp only [Sem.run_bind]
  have : (fn.results.mapM (qtF a.tmps)).run P w = .ok vs.toArray w := by
   rw [Array.mapM_eq_mapM_toList];simp only [map_eq_pure_bind, Sem.run_bind, h1, Result.andThen_ok, Sem.run_pure]
  rw [this];simp only [Result.andThen_ok, Sem.run_pure]
 split at hx
 ·rename_i x' hxs
  cases hx;obtain ⟨vs, h1, h2, h3⟩ := key _ hxs
  match vs, h2 with
  | [v], _ =>
   refine ⟨v, by rw [h1]; rfl, h3 0 x v rfl rfl⟩
 ·rename_i l hno hl
  cases hx;obtain ⟨vs, h1, h2, h3⟩ := key _ hl
  have hne : ¬ vs.toArray.size = 1 := by
   intro h;simp at h;rw [h2] at h
   match l, h with
   | [x], _ => exact hno x rfl
  rw [dif_neg hne] at h1;exact ⟨_, h1, .tup _ _ h2 h3⟩
 ·cases hx
theorem qlH : ∀ (l : List AV) (i t : Nat), look (qtE i l) t = if i<=t then l.getD (t - i) .junk else .junk
 | [], i, t => by simp [qtE, look]
 | x :: l, i, t => by
  simp only [qtE, look, qlH l (i + 1) t];by_cases e : i = t
  ·subst e; simp
  ·rw [if_neg e]
   by_cases h : i<=t
   ·rw [if_pos h, if_pos (by omega), show t - i = (t - (i + 1)) + 1 by omega]
    rfl
   ·rw [if_neg h, if_neg (by omega)]
theorem env0_rel {avs : List AV} {vs : List Value} (h : vs.length = avs.length/\∀ (j : Nat) y v, avs[j]? = some y->vs[j]? = some v->VRel J F w y v) (n : Nat) : qcL J F w (zg2 avs n) (vs.toArray ++ Array.replicate (n - vs.toArray.size) undef) := by
 refine ⟨by simp [zg2, h.1], fun j v h2 => ?_, fun t ht => ?_⟩
 ·simp only [zg2, qlH, Nat.zero_le, if_true, Nat.sub_zero, List.getD_eq_getElem?_getD]
  cases hq : avs[j]? with
  | none => exact .junk _
  | some y =>
   have hj : j < avs.length := (List.getElem?_eq_some_iff.1 hq).1;rw [Array.getElem?_append_left (by simpa [h.1] using hj)] at h2;exact h.2 j y v hq (by simpa using h2)
 ·simp only [zg2] at ht
  simp only [zg2, qlH, Nat.zero_le, if_true, Nat.sub_zero, List.getD_eq_getElem?_getD];rw [List.getElem?_eq_none (by omega)];rfl
theorem qlI {f : FuncId} {af : AFn} (h : qtD P f = some af) : ∃ fn c, P.funcs[f]? = some fn/\fn.body = some c/\qm1 P c = some af.code/\qwT P fn.results.toList = some af.res/\fn.ntmps = af.ntmps/\qv6 P f := by
 unfold qtD at h;split at h
 ·rename_i fn hfn
  split at h
  ·rename_i c rs hb hr
   split at h
   ·cases h
   ·rename_i hname
    simp only [Option.map_eq_some_iff] at h;obtain ⟨ac, hac, rfl⟩ := h;exact ⟨fn, c, hfn, hb, hac, hr, rfl, fn, hfn, by simpa using hname, by rw [hb]; rfl⟩
  ·cases h
 ·cases h
theorem nothing (F : Nat->Prop) (w : World) (hF : ∀ g, F g->g < w.heap.size) (hT : qbK F w) : HRel (fun _ => .none) F w (fun _ => none) :=
 {blk := fun _ _ h => by cases h
  none := fun _ _ => rfl
  inj := fun _ _ _ _ _ _ _ _ _ h => by cases h
  own := fun g ⟨_, _, _, h⟩ => by cases h
  live := fun _ _ _ _ _ h => by cases h
  fsz := hF
  tab := hT }
end
def runQ (C : FuncId->Con) (ns : Id) : List AIns->(St->Prop)->St->Prop
 | [], K, s => K s
 | i :: l, K, s => match eff C ns s i with
  | some (x, H) => runQ C ns l K ⟨qw9 s.env i.dst x, H⟩
  | none => False
theorem qjM (C : FuncId->Con) (ns : Id) : ∀ (l : List AIns) (K : St->Prop) (s : St), runQ C ns l K s ↔ ∃ s', run C ns l s = some s'/\K s'
 | [], K, s => by simp [runQ, run]
 | i :: l, K, s => by
  unfold runQ run step;cases h : eff C ns s i with
  | none => simp
  | some q =>
   obtain ⟨x, H⟩ := q;simp only;exact qjM C ns l K _
section
variable {C : FuncId->Con} {ns : Id} {B : Id->Prop} {Q : Exit->St->Prop} {s : St} {x y : ACode}
theorem qzT {ops : List AIns} {ct : Option Nat} : wpA C ns B (.draw ops ct) Q s ↔ runQ (qf2 C) ns ops (fun s' => ∃ l, Has s'.env.l l/\Q .normal ⟨⟨s'.env.n, l⟩, s'.H⟩) s := by
 rw [qjM];exact ⟨fun ⟨s', l, h1, h2, h3⟩ => ⟨s', h1, l, h2, h3⟩, fun ⟨s', h1, l, h2, h3⟩ => ⟨s', l, h1, h2, h3⟩⟩
end
attribute [simp] runQ qzT qf2 zg1 qaI retQ eff gv qv7 qaC qe7 qe2 qiU evE look qtE Has unw qw9 zg2 qj2 qsE unD AV.num qqE AV.moved AV.part AV.cells qw7 ql8 qk1 qo4 qm6 DV.single AV.single qfF qdE qt8 qwG qz9 qf5 DV.norm DV.norm1 DV.flat DV.scalar fix outA ress res1 outD
inductive Sh where
 | bool
 | int (k : IntKind)
 | str
 | ptr (s : Sh)
 | slice (n : Nat) (s : Sh)
 | nil
 | cons (a b : Sh)
def Sh.size : Sh->Nat
 | .nil => 0
 | .cons a b => a.size + b.size
 | _ => 1
def qx2 : Sh->List DV->Prop
 | .bool, ds => ∃ b, ds = [.bool b]
 | .int k, ds => ∃ n, ds = [.int k n]/\(Lit.int k n).wf = true
 | .str, ds => ∃ s, ds = [.str s]/\s.size<=maxLen
 | .ptr s, ds => ds = [.nilp]\/∃ cs, ds = [.pt cs]/\cs.length = s.size/\qx2 s cs
 | .slice n s, ds => ∃ l, ds = [DV.norm1 (.sl n l)]/\l.length<=maxLen/\∀ e ∈ l, e.length = n/\qx2 s e
 | .nil, ds => ds = []
 | .cons a b, ds => ∃ x y, ds = x ++ y/\x.length = a.size/\qx2 a x/\qx2 b y
def zq1 (a : Sh) : Nat->Sh
 | 0 => .nil
 | n + 1 => .cons a (zq1 a n)
def qlJ (P : Program) (g : TypeId->Option Sh) : Nat->List Field->Option Sh
 | _, [] => some .nil
 | o, f :: fs => match g f.type, qlJ P g (o + P.cellsOf f.type) fs with
  | some s, some r => if f.offset = o/\s.size = P.cellsOf f.type then some (.cons s r) else none
  | _, _ => none
def qbQ (P : Program) : Nat->TypeId->Option Sh
 | 0, _ => none
 | k + 1, t => match P.underlying t with
  | some .bool => some .bool
  | some (.int q) => some (.int q)
  | some .string => some .str
  | some (.pointer e) => match qbQ P k e with
   | some s => if s.size = P.cellsOf e/\0 < P.cellsOf e then some (.ptr s) else none
   | none => none
  | some (.slice e) => match qbQ P k e with
   | some s => if s.size = P.cellsOf e/\0 < P.cellsOf e then some (.slice (P.cellsOf e) s) else none
   | none => none
  | some (.struct fs) => match qlJ P (qbQ P k) 0 fs.toList with
   | some s => if s.size = P.cellsOf t then some s else none
   | none => none
  | some (.array n e) => match qbQ P k e with
   | some s => if s.size = P.cellsOf e/\n * P.cellsOf e = P.cellsOf t then some (zq1 s n) else none
   | none => none
  | _ => none
theorem qx2.single : ∀ {s : Sh} {ds : List DV}, qx2 s ds->∀ d ∈ ds, DV.single d = true
 | .bool, ds, ⟨b, h⟩ => by subst h; simp [DV.single]
 | .int k, ds, ⟨n, h, _⟩ => by subst h; simp [DV.single]
 | .str, ds, ⟨n, h, _⟩ => by subst h; simp [DV.single]
 | .ptr s, ds, h => by rcases h with h | ⟨cs, h, _⟩ <;> subst h <;> simp [DV.single]
 | .slice n s, ds, ⟨l, h, _⟩ => by
  subst h;intro d hd;rw [List.mem_singleton.1 hd];cases l <;> rfl
 | .nil, ds, h => by cases h; simp
 | .cons a b, ds, ⟨x, y, h, _, hx, hy⟩ => by
  subst h;intro d hd;rcases List.mem_append.1 hd with hd | hd
  ·exact hx.single d hd
  ·exact hy.single d hd
section
variable {H : Type} {enc : TypeId × Value->H} {P : Program} {W : World} {spare : Nat->Bool} {held : Bool}
def Old (w : World) : Nat->Prop := fun g => g < w.heap.size
theorem qtG {a : Addr} {n : Nat} {cs : List Value} (h : W.cells? 0 a n = some cs) : cs.length = n/\∀ (j : Nat) v, cs[j]? = some v->W.cell? (a.add j) = some v := by
 unfold World.cells? at h;rw [if_pos (Nat.zero_le _)] at h;have hl := mapM_some_length h;rw [List.length_range] at hl;refine ⟨hl, fun j v hv => ?_⟩;have hj : j < n := by rw [← hl]; exact (List.getElem?_eq_some_iff.1 hv).1
 rw [mapM_some_get h j j (by simp [hj]), hv]
theorem zg4 {n : Nat} {e t : TypeId} {fuel : Nat} {cs : List Value} {x : DataW H × List MemPlace} (ht : P.underlying t = some (.array n e)) (h : DataW.trod enc P W 0 spare held fuel t cs = some x) :
  ∃ m, fuel = m + 1/\cs.length = P.cellsOf t/\∀ i, i < n->∃ y, DataW.trod enc P W 0 spare held m e ((cs.drop (i * P.cellsOf e)).take (P.cellsOf e)) = some y := by
 cases fuel with
 | zero => simp [DataW.trod] at h
 | succ m =>
  unfold DataW.trod at h;rw [ht] at h;split at h <;> simp_all
  obtain ⟨hl, xs, hp, hd⟩ := h;intro i hi;have h1 := mapM_some_get hp i i (by simp [hi]);have h2 := mapM_some_length hp;rw [h1];exact ⟨_, _, List.getElem?_eq_getElem (by rw [h2]; simpa using hi)⟩
theorem qoN {w : World} {a : Addr} {v : Value} (h : w.cell? a = some v) : a.spot = none/\a.block < w.heap.size := by
 unfold World.cell? at h;split at h
 ·rename_i hb
  split at h
  ·cases h
  ·rename_i hs
   refine ⟨by cases hq : a.spot <;> simp_all, ?_⟩;rcases Nat.lt_or_ge a.block w.heap.size with h1 | h1
   ·exact h1
   ·rw [Array.getElem?_eq_none h1] at hb; cases hb
 ·cases h
theorem qdZ.append {F : Nat->Prop} {w : World} {a b : List DV} {u v : List Value} (h : qdZ F w a u) (h' : qdZ F w b v) : qdZ F w (a ++ b) (u ++ v) := by
 refine ⟨by simp [h.1, h'.1], fun j d x h1 h2 => ?_⟩;by_cases hj : j < a.length
 ·rw [List.getElem?_append_left hj] at h1
  rw [List.getElem?_append_left (by rw [h.1]; exact hj)] at h2;exact h.2 j d x h1 h2
 ·rw [List.getElem?_append_right (by omega)] at h1
  rw [List.getElem?_append_right (by rw [h.1]; omega), h.1] at h2;exact h'.2 _ d x h1 h2
theorem qdZ.one {F : Nat->Prop} {w : World} {d : DV} {v : Value} (h : Rep F w d v) : qdZ F w [d] [v] := ⟨rfl, fun j x y h1 h2 => by
 have : j = 0 := by have := (List.getElem?_eq_some_iff.1 h1).1; simpa using this
 subst this;simp at h1 h2;subst h1; subst h2; exact h⟩
theorem qgY : ∀ (k fuel : Nat) (t : TypeId) (cs : List Value) (x : DataW H × List MemPlace) (s : Sh), DataW.trod enc P W 0 spare held fuel t cs = some x->qbQ P k t = some s->∃ ds, qdZ (Old W) W ds cs/\ds.length = s.size/\qx2 s ds
 | 0, _, _, _, _, _, _, hs => by cases hs
 | k + 1, fuel, t, cs, x, s, h, hs => by
  have ih := qgY k;unfold qbQ at hs;split at hs
  ·rename_i ht
   cases hs;obtain ⟨b, rfl, _⟩ := DataW.trod_bool ht h;exact ⟨[.bool b], .one (.bool b), rfl, b, rfl⟩
  ·rename_i q ht
   cases hs;obtain ⟨n, rfl, _, hw⟩ := DataW.trod_int ht h;exact ⟨[.int q n], .one (.int q n), rfl, n, rfl, hw⟩
  ·rename_i ht
   cases hs;obtain ⟨b, rfl, _, hw⟩ := DataW.trod_string ht h;exact ⟨[.str b], .one (.str b), rfl, b, rfl, hw⟩
  ·rename_i e ht
   split at hs
   ·rename_i s' hs'
    split at hs
    ·rename_i hsz
     cases hs;rcases DataW.trod_pointer ht h with ⟨rfl, _⟩ | ⟨a, cs', y, n, _, rfl, _, hc, htr⟩
     ·exact ⟨[.nilp], .one .nilp, rfl, .inl rfl⟩
     ·obtain ⟨ds, h1, h2, h3⟩ := ih n e cs' y s' htr hs'
      obtain ⟨hl, hget⟩ := qtG hc
      have h0 : W.cell? a = some cs'[0] := by
       have := hget 0 cs'[0] (List.getElem?_eq_getElem (by omega));simpa [Addr.add] using this
      obtain ⟨hspot, hblk⟩ := qoN h0;obtain ⟨b, o, sp⟩ := a;cases hspot;refine ⟨[.pt ds], .one (.pt ds b o (fun j => cs'.getD j undef) hblk ?_ ?_), rfl, .inr ⟨ds, rfl, h2, h3⟩⟩
      ·intro j d hd
       have hj : j < cs'.length := by rw [h1.1]; exact (List.getElem?_eq_some_iff.1 hd).1
       have := hget j cs'[j] (List.getElem?_eq_getElem hj);rw [Addr.add_mid] at this;rw [this];simp [hj]
      ·intro j d hd
       have hj : j < cs'.length := by rw [h1.1]; exact (List.getElem?_eq_some_iff.1 hd).1
       exact h1.2 j d _ hd (by simp [hj])
    ·cases hs
   ·cases hs
  ·rename_i e ht
   split at hs
   ·rename_i s' hs'
    split at hs
    ·rename_i hsz
     cases hs;rcases DataW.trod_slice ht h with ⟨rfl, _⟩ | ⟨a, len, cap, elems, rest, n, _, rfl, _, _, hlc, hcm, hel, helem, _, _⟩
     ·exact ⟨[.sl 0 []], .one (.sl0 _ _ _), rfl, [], rfl, Nat.zero_le _, by simp⟩
     ·have each : ∀ i, ∃ p : List DV × List Value, i < len->qdZ (Old W) W p.1 p.2/\p.1.length = P.cellsOf e/\qx2 s' p.1/\∀ (j : Nat) v, p.2[j]? = some v->W.cell? ((a.add (i * P.cellsOf e)).add j) = some v := by
       intro i;by_cases hi : i < len
       ·have h1 := helem i hi
        rw [List.getElem?_eq_getElem (by omega)] at h1;simp only [Option.bind_eq_some_iff] at h1;obtain ⟨cs', hc, htr⟩ := h1;obtain ⟨ds, h1, h2, h3⟩ := ih n e cs' _ s' htr hs';exact ⟨(ds, cs'), fun _ => ⟨h1, h2.trans hsz.1, h3, (qtG hc).2⟩⟩
       ·exact ⟨([], []), fun h => absurd h hi⟩
      obtain ⟨f, hf⟩ := Classical.axiomOfChoice each;by_cases h0 : len = 0
      ·subst h0
       exact ⟨[.sl 0 []], .one (.sl0 _ _ _), rfl, [], rfl, Nat.zero_le _, by simp⟩
      ·have hfirst := hf 0 (by omega)
       have hpos : 0 < (f 0).2.length := by rw [hfirst.1.1, hfirst.2.1]; exact hsz.2
       have hcell := hfirst.2.2.2 0 (f 0).2[0] (List.getElem?_eq_getElem hpos);simp only [Nat.zero_mul, Addr.add, if_pos rfl] at hcell;obtain ⟨hspot, hblk⟩ := qoN hcell;obtain ⟨b, o, sp⟩ := a;cases hspot
       have hget : ∀ i x, ((List.range len).map fun i => (f i).1)[i]? = some x->i < len/\x = (f i).1 := by
        intro i x hx;rw [List.getElem?_map, Option.map_eq_some_iff] at hx;obtain ⟨y, hy, rfl⟩ := hx;have hi : i < len := by have := (List.getElem?_eq_some_iff.1 hy).1; simpa using this
        rw [List.getElem?_range hi] at hy;cases hy;exact ⟨hi, rfl⟩
       have hlen : ((List.range len).map fun i => (f i).1).length = len := by simp
       have hmem : ∀ x ∈ (List.range len).map fun i => (f i).1, x.length = P.cellsOf e/\qx2 s' x := by
        intro x hx;obtain ⟨i, hxi⟩ := List.getElem?_of_mem hx
        obtain ⟨hil, rfl⟩ := hget i x hxi;exact ⟨(hf i hil).2.1, (hf i hil).2.2.1⟩
       refine ⟨[DV.norm1 (.sl (P.cellsOf e) ((List.range len).map fun i => (f i).1))], .one (Rep.norm1 ?_), rfl, _, rfl, by rw [hlen]; omega, hmem⟩
       have hr := Rep.sl (F := Old W) (w := W) (P.cellsOf e) ((List.range len).map fun i => (f i).1) b o cap (fun i j => (f i).2.getD j undef) (fun x hx => (hmem x hx).1) (by rw [hlen]; omega)
        (fun x hx d hd => (hmem x hx).2.single d hd) hblk ?_ ?_
       ·rwa [hlen] at hr
       ·intro i j x d hx hd
        obtain ⟨hi, rfl⟩ := hget i x hx;have hj : j < (f i).2.length := by rw [(hf i hi).1.1]; exact (List.getElem?_eq_some_iff.1 hd).1
        have := (hf i hi).2.2.2 j (f i).2[j] (List.getElem?_eq_getElem hj);rw [Addr.add_mid, Addr.add_mid] at this;simp only [List.getD_eq_getElem?_getD, List.getElem?_eq_getElem hj, Option.getD_some];rw [← this, Nat.add_assoc]
       ·intro i j x d hx hd
        obtain ⟨hi, rfl⟩ := hget i x hx;have hj : j < (f i).2.length := by rw [(hf i hi).1.1]; exact (List.getElem?_eq_some_iff.1 hd).1
        refine (hf i hi).1.2 j d _ hd ?_
        simp [hj]
    ·cases hs
   ·cases hs
  ·rename_i fs ht
   split at hs
   ·rename_i s' hs'
    split at hs
    ·rename_i hsz
     cases hs;obtain ⟨xs, n, _, _, hcl, hxl, hfs⟩ := DataW.trod_struct ht h
     have key : ∀ (fl : List Field) (i o : Nat) (s : Sh), qlJ P (qbQ P k) o fl = some s->(∀ j f, fl[j]? = some f->fs[i + j]? = some f)->o + s.size = cs.length->∃ ds, qdZ (Old W) W ds (cs.drop o)/\ds.length = s.size/\qx2 s ds := by
      intro fl
      induction fl with
      | nil =>
       intro i o s h1 _ ho;cases h1;refine ⟨[], ⟨by simp [Sh.size] at ho ⊢; omega, by simp⟩, rfl, rfl⟩
      | cons f fl ihf =>
       intro i o s h1 h2 ho;simp only [qlJ] at h1;split at h1
       ·rename_i s1 r hs1 hr
        split at h1
        ·rename_i hc
         cases h1;have hf := hfs i f (by simpa using h2 0 f rfl)
         have hi : i < xs.length := by
          have := (Array.getElem?_eq_some_iff.1 (h2 0 f rfl)).1;rw [hxl]; simpa using this
         rw [List.getElem?_eq_getElem hi, hc.1] at hf;obtain ⟨d1, q1, q2, q3⟩ := ih n f.type _ _ s1 hf hs1
         obtain ⟨d2, q4, q5, q6⟩ := ihf (i + 1) (o + P.cellsOf f.type) r hr (fun j g hg => by
          have := h2 (j + 1) g (by simpa using hg)
          rwa [show i + (j + 1) = i + 1 + j by omega] at this) (by simp only [Sh.size] at ho; omega)
         refine ⟨d1 ++ d2, ?_, by simp [Sh.size, q2, q5], d1, d2, rfl, q2, q3, q6⟩
         have e : cs.drop o = (cs.drop o).take (P.cellsOf f.type) ++ cs.drop (o + P.cellsOf f.type) := by
          rw [← List.drop_drop, List.take_append_drop]
         rw [e];exact q1.append q4
        ·cases h1
       ·cases h1
     obtain ⟨ds, h1, h2, h3⟩ := key fs.toList 0 0 _ hs' (fun j f hf => by simpa using hf) (by rw [hcl]; omega);exact ⟨ds, by simpa using h1, h2, h3⟩
    ·cases hs
   ·cases hs
  ·rename_i n e ht
   split at hs
   ·rename_i s' hs'
    split at hs
    ·rename_i hsz
     cases hs;obtain ⟨m, _, hcl, hel⟩ := zg4 ht h
     have key : ∀ (r i : Nat), i + r = n->∃ ds, qdZ (Old W) W ds (cs.drop (i * P.cellsOf e))/\ds.length = (zq1 s' r).size/\qx2 (zq1 s' r) ds := by
      intro r
      induction r with
      | zero =>
       intro i hi;refine ⟨[], ⟨?_, by simp⟩, rfl, rfl⟩;have : i = n := by omega
       subst this;simp [hcl, hsz.2]
      | succ r ihr =>
       intro i hi;obtain ⟨y, hy⟩ := hel i (by omega);obtain ⟨d1, q1, q2, q3⟩ := ih m e _ _ s' hy hs';obtain ⟨d2, q4, q5, q6⟩ := ihr (i + 1) (by omega);refine ⟨d1 ++ d2, ?_, by simp [zq1, Sh.size, q2, q5], d1, d2, rfl, q2, q3, q6⟩
       have e1 : cs.drop (i * P.cellsOf e) = (cs.drop (i * P.cellsOf e)).take (P.cellsOf e) ++ cs.drop ((i + 1) * P.cellsOf e) := by
        rw [Nat.succ_mul, ← List.drop_drop, List.take_append_drop]
       rw [e1];exact q1.append q4
     obtain ⟨ds, h1, h2, h3⟩ := key n 0 (by omega);exact ⟨ds, by simpa using h1, h2, h3⟩
    ·cases hs
   ·cases hs
  ·cases hs
end
open Go.RowKit
def qoO : Sh->DV->Prop
 | .nil, d => ∃ cs, d = .agg cs/\qx2 .nil cs
 | .cons a b, d => ∃ cs, d = .agg cs/\qx2 (.cons a b) cs
 | s, d => qx2 s [d]
def qgZ : List Sh->List DV->Prop
 | [], [] => True
 | s :: l, d :: m => qoO s d/\qgZ l m
 | _, _ => False
def zq2 (P : Program) (k : Nat) : List TypeId->Option (List Sh)
 | [] => some []
 | t :: l => match qbQ P k t, zq2 P k l with
  | some s, some m => some (s :: m)
  | _, _ => none
section
variable {H : Type} {enc : TypeId × Value->H} {P : Program} {W W' : World}
theorem open_agg {k : Nat} {t : TypeId} {s : Sh} {v : Value} {d : DataW H} {ps : List MemPlace} {spare : Nat->Bool} {held : Bool} {cs : Array Value} (hv : v = .agg cs) (hs : qbQ P k t = some s) (h : DataW.Trod enc P W 0 spare held t v d ps) :
  ∃ ds, Rep (Old W) W (.agg ds) v/\qx2 s ds := by
 obtain ⟨fuel, h⟩ := h;subst hv;obtain ⟨ds, h1, _, h3⟩ := qgY k fuel t _ _ s h hs;refine ⟨ds, ?_, h3⟩;have := Rep.agg (F := Old W) (w := W) ds cs.toList (by simpa [Value.cells] using h1.1) (by simpa [Value.cells] using h1.2);simpa using this
theorem zq3 {k : Nat} {t : TypeId} {s : Sh} {v : Value} {d : DataW H} {ps : List MemPlace} {spare : Nat->Bool} {held : Bool} (hv : v.cells.toList = [v]) (hs : qbQ P k t = some s) (h1s : s.size = 1) (h : DataW.Trod enc P W 0 spare held t v d ps) :
  ∃ d, Rep (Old W) W d v/\qx2 s [d] := by
 obtain ⟨fuel, h⟩ := h;obtain ⟨ds, h1, h2, h3⟩ := qgY k fuel t _ _ s h hs;rw [hv] at h1;rw [h1s] at h2
 match ds, h2 with
 | [x], _ => exact ⟨x, h1.2 0 x v rfl rfl, h3⟩
theorem open_arg {k : Nat} {t : TypeId} {s : Sh} {v : Value} {d : DataW H} {ps : List MemPlace} {spare : Nat->Bool} {held : Bool} {r : Reach} {base : Nat} (hs : qbQ P k t = some s) (hval : Value.okWide P W r base t v) (h : DataW.Trod enc P W 0 spare held t v d ps) :
  ∃ x, Rep (Old W) W x v/\qoO s x := by
 cases k with
 | zero => cases hs
 | succ k =>
  have hs0 := hs;unfold qbQ at hs
  have one : ∀ {s : Sh}, s.size = 1->v.cells.toList = [v]->qbQ P (k + 1) t = some s->(∀ x, qx2 s [x]->qoO s x)->∃ x, Rep (Old W) W x v/\qoO s x := by
   intro s h1 hv hs hh;obtain ⟨x, hx, hx'⟩ := zq3 hv hs h1 h;exact ⟨x, hx, hh x hx'⟩
  have agg : ∀ {s : Sh}, (∃ cs, v = .agg cs)->qbQ P (k + 1) t = some s->(∀ ds, qx2 s ds->qoO s (.agg ds))->∃ x, Rep (Old W) W x v/\qoO s x := by
   rintro s ⟨cs, hv⟩ hs hh;obtain ⟨ds, hx, hx'⟩ := open_agg hv hs h;exact ⟨_, hx, hh ds hx'⟩
  split at hs
  ·rename_i ht
   cases hs;obtain ⟨b, rfl⟩ := WideShapes.okWide_bool ht hval;exact one rfl rfl hs0 (fun _ h => h)
  ·rename_i q ht
   cases hs;obtain ⟨b, rfl⟩ := WideShapes.okWide_int ht hval;exact one rfl rfl hs0 (fun _ h => h)
  ·rename_i ht
   cases hs;obtain ⟨b, rfl⟩ := WideShapes.okWide_string ht hval;exact one rfl rfl hs0 (fun _ h => h)
  ·rename_i e ht
   split at hs
   ·split at hs
    ·cases hs
     obtain ⟨b, rfl⟩ := WideShapes.okWide_pointer ht hval;exact one rfl rfl hs0 (fun _ h => h)
    ·cases hs
   ·cases hs
  ·rename_i e ht
   split at hs
   ·split at hs
    ·cases hs
     obtain ⟨a, l, c, rfl⟩ := WideShapes.okWide_slice ht hval;exact one rfl rfl hs0 (fun _ h => h)
    ·cases hs
   ·cases hs
  ·rename_i fs ht
   have hv : ∃ cs, v = .agg cs := by
    unfold Value.okWide at hval;rw [ht] at hval;obtain ⟨cs, h, _⟩ := hval;exact ⟨cs, h⟩
   split at hs
   ·rename_i s' hs'
    split at hs
    ·cases hs
     refine agg hv hs0 (fun ds hd => ?_);generalize fs.toList = fl at hs';cases fl with
     | nil => cases hs'; exact ⟨ds, rfl, hd⟩
     | cons f fl =>
      simp only [qlJ] at hs';split at hs'
      ·split at hs'
       ·cases hs'; exact ⟨ds, rfl, hd⟩
       ·cases hs'
      ·cases hs'
    ·cases hs
   ·cases hs
  ·rename_i n e ht
   have hv : ∃ cs, v = .agg cs := by
    unfold Value.okWide at hval;rw [ht] at hval;obtain ⟨cs, h, _⟩ := hval;exact ⟨cs, h⟩
   split at hs
   ·rename_i s' hs'
    split at hs
    ·cases hs
     refine agg hv hs0 (fun ds hd => ?_);cases n with
     | zero => exact ⟨ds, rfl, hd⟩
     | succ n => exact ⟨ds, rfl, hd⟩
    ·cases hs
   ·cases hs
  ·cases hs
theorem open_args {k : Nat} {spare : Nat->Bool} {held : Bool} {r : Reach} {base : Nat} : ∀ {ts : List TypeId} {vs : List Value} {ds : List (DataW H)} {p : List MemPlace} {shs : List Sh}, DataW.TrodAll enc P W 0 spare held ts vs ds p->zq2 P k ts = some shs →
  (∀ (j : Nat) t v, ts[j]? = some t->vs[j]? = some v->Value.okWide P W r base t v)->∃ dvs, qdZ (Old W) W dvs vs/\qgZ shs dvs
 | [], vs, ds, p, shs, h, hs, _ => by
  obtain ⟨rfl, rfl, rfl⟩ := ChangeShapes.trodAll_nil h;cases hs;exact ⟨[], ⟨rfl, by simp⟩, trivial⟩
 | t :: ts, vs, ds, p, shs, h, hs, hval => by
  obtain ⟨v, vs', d, ds', p', q', rfl, rfl, rfl, h0, hr⟩ := ChangeShapes.trodAll_cons h;simp only [zq2] at hs;split at hs
  ·rename_i s m h1 h2
   cases hs;obtain ⟨x, hx, hx'⟩ := open_arg h1 (hval 0 t v rfl rfl) h0;obtain ⟨xs, hxs, hxs'⟩ := open_args hr h2 (fun j t v q1 q2 => hval (j + 1) t v (by simpa using q1) (by simpa using q2));refine ⟨x :: xs, ?_, hx', hxs'⟩;have := (qdZ.one hx).append hxs;simpa using this
  ·cases hs
theorem keep_args (hl : laidOutB P = true) : ∀ {ts : List TypeId} {vs : List Value} {ds : List (DataW H)} {p : List MemPlace}, (ts.all fun t => P.readableRec t && decide (t < P.types.size)) = true->DataW.TrodAll enc P W 0 (fun _ => true) true ts vs ds p->Below W.heap.size W W' →
  DataW.TrodAll enc P W' 0 (fun b => decide (b < W.heap.size)) true ts vs ds p
 | [], vs, ds, p, _, h, _ => by
  obtain ⟨rfl, rfl, rfl⟩ := ChangeShapes.trodAll_nil h;exact ChangeShapes.trodAll_mk0
 | t :: ts, vs, ds, p, ht, h, hb => by
  obtain ⟨v, vs', d, ds', p', q', rfl, rfl, rfl, h0, hr⟩ := ChangeShapes.trodAll_cons h;simp only [List.all_cons, Bool.and_eq_true, decide_eq_true_eq] at ht;refine trodAll_cons_mk (Below.trod hl ht.1.1 ht.1.2 h0 hb ?_) (keep_args hl (by simpa using ht.2) hr hb);obtain ⟨m, hm⟩ := h0;exact DataW.trod_lt m _ _ _ hm
def qtH [Inhabited TabsD] (P : Program) (f : FuncId) (shs : List Sh) : Prop :=
 ∀ dvs, qgZ shs dvs->∀ (F : Nat->Prop) (w : World) (vs : List Value), qdZ F w dvs vs->(∀ g, F g->g < w.heap.size)->qbK F w->Calls P f vs.toArray w fun e w' => e = .returned (.bool true)/\Grown w w'
theorem Grown.below {w w' : World} (h : Grown w w') : Below w.heap.size w w' := ⟨h.os, h.tape, h.output, h.size, h.heap⟩
theorem law_of_valT {f : FuncId} {spec : List DV->Option DV} (h : qdF P f spec) {shs : List Sh} (hs : ∀ dvs, qgZ shs dvs->spec dvs = some (.bool true)) : qtH P f shs := by
 intro dvs hd F w vs hr hF hT;refine (h.2 dvs _ (hs dvs hd) F w vs hr hF hT).mono ?_
 rintro e w' ⟨v, F', rfl, hv, _, _, hg⟩;cases hv;exact ⟨rfl, hg⟩
end
theorem wf_u8 {n : Int} (h : (Lit.int .u8 n).wf = true) : 0<=n/\n < 256 := by
 simp [Lit.wf, IntKind.min, IntKind.max, IntKind.signed, IntKind.bits] at h;omega
theorem wf_u16 {n : Int} (h : (Lit.int .u16 n).wf = true) : 0<=n/\n < 65536 := by
 simp [Lit.wf, IntKind.min, IntKind.max, IntKind.signed, IntKind.bits] at h;omega
theorem qzU (n k : Nat) : Int.fdiv (n : Int) (k : Int) = ((n / k : Nat) : Int) := by
 rw [Int.fdiv_eq_ediv_of_nonneg _ (by omega)]
 norm_cast
theorem tmod_nat (n k : Nat) : Int.tmod (n : Int) (k : Int) = ((n % k : Nat) : Int) := by
 rw [Int.tmod_eq_emod_of_nonneg (by omega)]
 norm_cast
theorem qtI (n : Nat) (h : n < 4294967296) : IntKind.u32.wrap (n : Int) = n := by
 rw [IntKind.wrap_u32']; omega
section
variable {ρ α : Type} {o : Option ρ} {p : ρ->Prop}
end
section
variable (P : Program) (C : FuncId->Con) (B : Id->Prop)
def RP [Inhabited TabsD] (ops : List AIns) (K : St->Prop) (s : St) : Prop :=
 qr4 P C->∀ (opsA : Array Oper) (l : List Oper), qk2 P opsA l = some ops->∀ (J0 : Id->JI) (F0 : Nat->Prop) (w0 : World) (d0 : List Deferred) (a : Act) (w : World) (Q : Exit->Act->World->Prop), qq0 B J0 F0 w0 d0 s a w →
  (∀ s' a' w', qq0 B J0 F0 w0 d0 s' a' w'->K s'->Q .normal a' w')->wpList P opsA Q l a w
def WP [Inhabited TabsD] (ac : ACode) (Q : Exit->St->Prop) (s : St) : Prop :=
 qr4 P C->∀ (c : Code), qm1 P c = some ac->∀ (J0 : Id->JI) (F0 : Nat->Prop) (w0 : World) (d0 : List Deferred) (a : Act) (w : World) (Q' : Exit->Act->World->Prop), qq0 B J0 F0 w0 d0 s a w →
  (∀ e s' a' w', qq0 B J0 F0 w0 d0 s' a' w'->Q e s'->Q' e a' w')->c.wp P Q' a w
def RD [Inhabited TabsD] (ac : ACode) (Q : Exit->St->Prop) (s : St) : Prop :=
 qr4 P C->∀ (c : Code), qm1 P c = some ac->∀ (J0 : Id->JI) (F0 : Nat->Prop) (w0 : World) (d0 : List Deferred) (a : Act) (w : World) (Q' : Exit->Act->World->Prop), qq0 B J0 F0 w0 d0 s a w →
  (∀ e s' a' w', qq0 B J0 F0 w0 d0 s' a' w'->Q e s'->Q' e a' w')->qtB P c Q' a w
end
section
variable {P : Program} {C : FuncId->Con} {ns : Id} {B : Id->Prop} {Q : Exit->St->Prop} {K : St->Prop} {s s0 : St} {x y : ACode} {J0 : Id->JI} {F0 : Nat->Prop} {w0 w : World} {d0 : List Deferred} {a : Act}
theorem qq0.sub (h : qq0 B J0 F0 w0 d0 s a w) (hs : Sub B s s0) : qq0 B J0 F0 w0 d0 s0 a w := by
 obtain ⟨J, F, hE, hH, hX, hd⟩ := h;obtain ⟨J', F', h1, h2, h3⟩ := hs J F w a hE hH;exact ⟨J', F', h1, h2, hX.trans h3, hd⟩
theorem RP_sub {ops : List AIns} (hs : Sub B s s0) (h : RP P C B ops K s0) : RP P C B ops K s :=
 fun hC opsA l hl J0 F0 w0 d0 a w Q hS hQ => h hC opsA l hl J0 F0 w0 d0 a w Q (hS.sub hs) hQ
theorem WP_sub (hs : Sub B s s0) (h : WP P C B x Q s0) : WP P C B x Q s :=
 fun hC c hc J0 F0 w0 d0 a w Q' hS hQ => h hC c hc J0 F0 w0 d0 a w Q' (hS.sub hs) hQ
theorem zq4 {opsA : Array Oper} {l : List Oper} (h : qk2 P opsA l = some []) : l = [] := by
 cases l with
 | nil => rfl
 | cons o l =>
  simp only [qk2] at h;split at h <;> cases h
theorem qy2 {opsA : Array Oper} {l : List Oper} {i : AIns} {m : List AIns} (h : qk2 P opsA l = some (i :: m)) : ∃ o l', l = o :: l'/\zn3 P opsA o = some i/\qk2 P opsA l' = some m := by
 cases l with
 | nil => cases h
 | cons o l =>
  simp only [qk2] at h;split at h
  ·rename_i i' m' h1 h2
   cases h;exact ⟨o, l, rfl, h1, h2⟩
  ·cases h
theorem zq5 (h : K s) : RP P C B [] K s := by
 intro hC opsA l hl J0 F0 w0 d0 a w Q hS hQ;cases zq4 hl;exact hQ s a w hS h
theorem qq0.moves {s' : St} {a' : Act} {w' : World} {J : Id->JI} {F : Nat->Prop} (hX : Ext0 B J0 F0 w0 J F w) (hd : a.defers = d0) (h : qr6 J F w s' a a' w') : qq0 B J0 F0 w0 d0 s' a' w' := by
 obtain ⟨J', F', h1, h2, h3, h4⟩ := h;exact ⟨J', F', h1, h2, hX.trans h3.to0, h4.trans hd⟩
theorem RP_op (ns id : Id) {d n : Nat} {op : AOp} {g : Option (Nat × Bool)} {l : List AIns} {e : List (Nat × AV)} {H H' : Hp} {x : AV} (hg : gv ⟨n, e⟩ g = some true) (hd : d < n)
  (h1 : qe7 C H (fun x => unw true (evE ⟨n, e⟩ x)) (fun t x => unw t (evE ⟨n, e⟩ x)) ns id op = some (x, H')) (h : RP P C B l K ⟨⟨n, (d, x) :: e⟩, H'⟩) : RP P C B (⟨some d, op, g⟩ :: l) K ⟨⟨n, e⟩, H⟩ := by
 intro hC opsA l0 hl J0 F0 w0 d0 a w Q hS hQ;obtain ⟨o, l', rfl, hi, hm⟩ := qy2 hl;obtain ⟨J, F, hE, hH, hX, hd0⟩ := hS;obtain ⟨hop, hdst, _⟩ := qgT hi;unfold wpList;have hw := qoE hE hi hg;rw [if_pos hw];refine .inl (Oper.wp_mono ?_ (qqG hC hH (orel hE) (fun b hb => by subst hb; exact orel hE) hop h1 Q));rintro a' w' ⟨v, J', F', rfl, k1, k2, k3⟩;refine h hC opsA l' hm J0 F0 w0 d0 _ w' Q ⟨J', F', ?_, k2, hX.trans k3.to0, ?_⟩ hQ
 ·have := qkT (hE.ext hH k3) k1 (some d)
  simp only [qw9] at this;rw [if_pos hd] at this;rw [← hdst];exact this
 ·rw [← hdst]; exact hd0
theorem RP_op0 (ns id : Id) {n : Nat} {op : AOp} {g : Option (Nat × Bool)} {l : List AIns} {e : List (Nat × AV)} {H H' : Hp} {x : AV} (hg : gv ⟨n, e⟩ g = some true)
  (h1 : qe7 C H (fun x => unw true (evE ⟨n, e⟩ x)) (fun t x => unw t (evE ⟨n, e⟩ x)) ns id op = some (x, H')) (h : RP P C B l K ⟨⟨n, e⟩, H'⟩) : RP P C B (⟨none, op, g⟩ :: l) K ⟨⟨n, e⟩, H⟩ := by
 intro hC opsA l0 hl J0 F0 w0 d0 a w Q hS hQ;obtain ⟨o, l', rfl, hi, hm⟩ := qy2 hl;obtain ⟨J, F, hE, hH, hX, hd0⟩ := hS;obtain ⟨hop, hdst, _⟩ := qgT hi;unfold wpList;have hw := qoE hE hi hg;rw [if_pos hw];refine .inl (Oper.wp_mono ?_ (qqG hC hH (orel hE) (fun b hb => by subst hb; exact orel hE) hop h1 Q));rintro a' w' ⟨v, J', F', rfl, k1, k2, k3⟩;refine h hC opsA l' hm J0 F0 w0 d0 _ w' Q ⟨J', F', ?_, k2, hX.trans k3.to0, ?_⟩ hQ
 ·rw [← hdst]; exact hE.ext hH k3
 ·rw [← hdst]; exact hd0
theorem RP_skip {d n : Nat} {op : AOp} {g : Option (Nat × Bool)} {l : List AIns} {e : List (Nat × AV)} {H : Hp} (hg : gv ⟨n, e⟩ g = some false) (hd : d < n)
  (h : RP P C B l K ⟨⟨n, (d, .val (.tup [])) :: e⟩, H⟩) : RP P C B (⟨some d, op, g⟩ :: l) K ⟨⟨n, e⟩, H⟩ := by
 intro hC opsA l0 hl J0 F0 w0 d0 a w Q hS hQ;obtain ⟨o, l', rfl, hi, hm⟩ := qy2 hl;obtain ⟨J, F, hE, hH, hX, hd0⟩ := hS;obtain ⟨hop, hdst, _⟩ := qgT hi;unfold wpList;have hw := qoE hE hi hg;rw [hw];refine h hC opsA l' hm J0 F0 w0 d0 _ w Q ⟨J, F, ?_, hH, hX, ?_⟩ hQ
 ·have := qkT hE (qkU (J := J) (F := F) (w := w)) (some d)
  simp only [qw9] at this;rw [if_pos hd] at this;rw [← hdst];exact this
 ·rw [← hdst]; exact hd0
theorem RP_skip0 {n : Nat} {op : AOp} {g : Option (Nat × Bool)} {l : List AIns} {e : List (Nat × AV)} {H : Hp} (hg : gv ⟨n, e⟩ g = some false)
  (h : RP P C B l K ⟨⟨n, e⟩, H⟩) : RP P C B (⟨none, op, g⟩ :: l) K ⟨⟨n, e⟩, H⟩ := by
 intro hC opsA l0 hl J0 F0 w0 d0 a w Q hS hQ;obtain ⟨o, l', rfl, hi, hm⟩ := qy2 hl;obtain ⟨J, F, hE, hH, hX, hd0⟩ := hS;obtain ⟨hop, hdst, _⟩ := qgT hi;unfold wpList;have hw := qoE hE hi hg;rw [hw];refine h hC opsA l' hm J0 F0 w0 d0 _ w Q ⟨J, F, ?_, hH, hX, ?_⟩ hQ
 ·rw [← hdst]; exact hE
 ·rw [← hdst]; exact hd0
theorem qk7 : ∀ {c : Code} {ac : ACode}, qm1 P c = some ac->match ac with
  | .skip => c = .skip
  | .region ops => ∃ id opsA, c = .region id opsA false/\qk2 P opsA opsA.toList = some ops
  | .draw m ct => ∃ id opsA, c = .region id opsA true/\qk2 P opsA opsA.toList = some m/\ct = qlF P opsA m/\P.follows .mixedOrders = true
  | .drawA m r1 _ ct => ∃ id opsA, c = .region id opsA true/\qk2 P opsA opsA.toList = some m/\ct = qlF P opsA m/\P.follows .mixedOrders = true/\r1 = qtA P opsA m
  | .seq x y => ∃ cx cy, c = .seq cx cy/\qm1 P cx = some x/\qm1 P cy = some y
  | .cond k x y => ∃ o cx cy, c = .cond o cx cy/\qo5 o = some k/\qm1 P cx = some x/\qm1 P cy = some y
  | .block id x => ∃ cx, c = .block id cx/\qm1 P cx = some x
  | .loop x => ∃ cx, c = .loop cx/\qm1 P cx = some x
  | .exit id => c = .exit id
  | .bad => True
  | .ret => c = .ret := by
 intro c ac h;cases c <;> simp only [qm1, reduceCtorEq] at h
 case skip => cases h; rfl
 case region id ops draw =>
  split at h
  ·rename_i m hm; cases h; exact ⟨id, ops, rfl, hm⟩
  ·rename_i m hm
   split at h
   ·rename_i hmix
    split at h
    ·cases h; exact ⟨id, ops, rfl, hm, rfl, hmix⟩
    ·split at h
     ·cases h; exact ⟨id, ops, rfl, hm, rfl, hmix, rfl⟩
     ·split at h
      ·cases h; exact ⟨id, ops, rfl, hm, rfl, hmix⟩
      ·cases h; trivial
   ·cases h; trivial
  ·cases h; trivial
 case seq cx cy =>
  split at h
  ·rename_i h1 h2; cases h; exact ⟨cx, cy, rfl, h1, h2⟩
  ·cases h
 case cond o cx cy =>
  split at h
  ·rename_i h1 h2 h3; cases h; exact ⟨o, cx, cy, rfl, h1, h2, h3⟩
  ·cases h
 case block id cx =>
  obtain ⟨x, h1, rfl⟩ := Option.map_eq_some_iff.1 h;exact ⟨cx, rfl, h1⟩
 case loop cx =>
  obtain ⟨x, h1, rfl⟩ := Option.map_eq_some_iff.1 h;exact ⟨cx, rfl, h1⟩
 case exit id => cases h; rfl
 case ret => cases h; rfl
 all_goals (cases h; trivial)
theorem WP_skip (h : Q .normal s) : WP P C B .skip Q s := by
 intro hC c hc J0 F0 w0 d0 a w Q' hS hQ;cases qk7 hc;exact wp_skip (hQ _ _ _ _ hS h)
theorem zq6 {ops : List AIns} (h : RP P C B ops (Q .normal) s) : WP P C B (.region ops) Q s := by
 intro hC c hc J0 F0 w0 d0 a w Q' hS hQ;obtain ⟨id, opsA, rfl, hm⟩ := qk7 hc;exact wp_region_list (h hC opsA opsA.toList hm J0 F0 w0 d0 a w Q' hS fun s' a' w' hS' hq => hQ _ s' a' w' hS' hq)
theorem WP_seq (h : WP P C B x (zg1 (WP P C B y Q) Q) s) : WP P C B (.seq x y) Q s := by
 intro hC c hc J0 F0 w0 d0 a w Q' hS hQ;obtain ⟨cx, cy, rfl, h1, h2⟩ := qk7 hc;refine wp_seq (h hC cx h1 J0 F0 w0 d0 a w _ hS ?_);intro e s' a' w' hS' hq;cases e <;> try exact hQ _ s' a' w' hS' hq
 exact hq hC cy h2 J0 F0 w0 d0 a' w' Q' hS' hQ
theorem qqP {k : Opd} {t : Bool} (ht : unw true (evE s.env k) = .val (.bool t)) (h1 : t = true->WP P C B x Q s) (h2 : t = false->WP P C B y Q s) : WP P C B (.cond k x y) Q s := by
 intro hC c hc J0 F0 w0 d0 a w Q' hS hQ;obtain ⟨o, cx, cy, rfl, ho, hx, hy⟩ := qk7 hc;have hS0 := hS;obtain ⟨J, F, hE, hH, hX, hd⟩ := hS;have hv := (orel hE).ev ho;simp only [ht] at hv;refine wp_cond hv.bool ?_
 cases t with
 | true => exact h1 rfl hC cx hx J0 F0 w0 d0 a w Q' hS0 hQ
 | false => exact h2 rfl hC cy hy J0 F0 w0 d0 a w Q' hS0 hQ
theorem WP_block {id : Nat} (h : WP P C B x (qaI id Q) s) : WP P C B (.block id x) Q s := by
 intro hC c hc J0 F0 w0 d0 a w Q' hS hQ;obtain ⟨cx, rfl, h1⟩ := qk7 hc;refine wp_block (h hC cx h1 J0 F0 w0 d0 a w _ hS ?_);intro e s' a' w' hS' h;cases e <;> try exact hQ _ s' a' w' hS' h
 rename_i id';simp only [qaI] at h;simp only [Exit.inBlock];split at h
 ·rename_i e; rw [if_pos e]; exact hQ _ s' a' w' hS' h
 ·rename_i e; rw [if_neg e]; exact hQ _ s' a' w' hS' h
theorem WP_exit {id : Nat} (h : Q (.exit id) s) : WP P C B (.exit id) Q s := by
 intro hC c hc J0 F0 w0 d0 a w Q' hS hQ;cases qk7 hc;exact wp_exit (hQ _ _ _ _ hS h)
theorem WP_ret (h : Q .ret s) : WP P C B .ret Q s := by
 intro hC c hc J0 F0 w0 d0 a w Q' hS hQ;cases qk7 hc;exact wp_ret (hQ _ _ _ _ hS h)
theorem zq7 (hs : Sub B s s0) (h : WP P C B x (zg1 (RD P C B x Q) Q) s0) : RD P C B x Q s := by
 intro hC c hc J0 F0 w0 d0 a w Q' hS hQ;refine qlG (h hC c hc J0 F0 w0 d0 a w _ (hS.sub hs) ?_);intro e s' a' w' hS' hq;cases e <;> try exact hQ _ s' a' w' hS' hq
 exact hq hC c hc J0 F0 w0 d0 a' w' Q' hS' hQ
theorem zq8 (h : RD P C B x Q s) : WP P C B (.loop x) Q s := by
 intro hC c hc J0 F0 w0 d0 a w Q' hS hQ;obtain ⟨cx, rfl, h1⟩ := qk7 hc;exact qtC (h hC cx h1 J0 F0 w0 d0 a w Q' hS hQ)
theorem qtJ (h : wpA C ns B x Q s) : WP P C B x Q s := by
 intro hC c hc J0 F0 w0 d0 a w Q' hS hQ;exact zp7 hC c x hc Q Q' s a w hS h hQ
theorem WP_draw {ops : List AIns} {ct : Option Nat} (h : runQ (qf2 C) ns ops (fun s' => ∃ l, Has s'.env.l l/\Q .normal ⟨⟨s'.env.n, l⟩, s'.H⟩) s) : WP P C B (.draw ops ct) Q s := qtJ (qzT.2 h)
theorem qtK {P : Program} {o : Oper} {a : Act} {w : World} {K : Act->World->Prop} {Q Q' : Exit->Act->World->Prop} (hq : ∀ e a w, e ≠ .normal->Q e a w->Q' e a w) (h : o.wp P a w K Q) : o.wp P a w K Q' := by
 have lets : LetsOut Q->LetsOut Q' := fun ⟨a, w, h⟩ => ⟨a, w, hq _ a w (by simp) h⟩
 unfold Oper.wp at *;generalize (execOp a.eval o).run P w = r at *;cases r with
 | ok n w' =>
  cases n <;> simp only [Oper.upon] at h ⊢ <;> first
   | exact h
   | exact Calls.mono h (fun e w'' he => by
     cases e
     ·exact he
     ·exact hq _ _ _ (by simp) he
     ·exact lets he)
 | halt x w' =>
  cases x <;> simp only [Oper.upon] at h ⊢ <;> first
   | exact h
   | exact hq _ _ _ (by simp) h
theorem WP_cut {ac : ACode} {m : List AIns} {c : Nat} {mi : AIns} {s1 : St} (hlt : c < 1000) (hinv : ∀ cd, qm1 P cd = some ac->∃ id opsA, cd = .region id opsA true/\qk2 P opsA opsA.toList = some m/\some c = qlF P opsA m/\P.follows .mixedOrders = true) (hci : m[c]? = some mi)
  (h1 : run (qf2 C) ns (m.take c) s = some s1) (hmid : ∀ sf, Eqv sf s1->RP P C B [mi] (fun s2 => ∃ ns2 s3, run (qf2 C) ns2 (m.drop (c + 1)) s2 = some s3/\∀ s3', Eqv s3' s3->Q .normal s3') sf) : WP P C B ac Q s := by
 intro hC cd hc J0 F0 w0 d0 a w Q' hS hQ;obtain ⟨id, opsA, rfl, hm, hct, hmix⟩ := hinv _ hc;obtain ⟨J, F, hE, hH, hX, hd⟩ := hS;have hH1 : HRel J F { w with drawn := w.drawn + 1 } s.H := hH.drew;have hE1 : qcL J F { w with drawn := w.drawn + 1 } s.env a.tmps := hE.ext hH (qh9 J F w);have hX1 : Ext0 B J0 F0 w0 J F { w with drawn := w.drawn + 1 } := hX.trans (qh9 J F w).to0;have hlen : m.length = opsA.size := by rw [(qg8 hm).1]; simp
 have hcl : c < opsA.size := by rw [← hlen]; exact (List.getElem?_eq_some_iff.1 hci).1
 obtain ⟨x, hx1, hx2⟩ := (qg8 hm).2 c opsA[c] (by simp);rw [hci] at hx1;cases hx1;refine wp_region_any hmix (draw_cut (ns := ns) hC hm hci ((qzQ hct.symm).resolve_right (fun h => by omega)).2 hE1 hH1 h1 ?_);intro sf a1 w1 hsf hmv K hK;have hone : qk2 P opsA [opsA[c]] = some [mi] := by simp only [qk2, hx2]
 have := hmid sf hsf hC opsA [opsA[c]] hone J0 F0 w0 d0 a1 w1 (fun e a w => match e with
  | .normal => K a w
  | e => Q' e a w) (qq0.moves hX1 hd hmv) (by
   rintro s2 a2 w2 ⟨J2, F2, hE2, hH2, hX2, hd2⟩ ⟨ns2, s3, hr, hq⟩;exact hK a2 w2 s2 s3 J2 F2 ns2 hE2 hH2 hr (fun s3' a3 w3 heq hmv3 => hQ _ s3' a3 w3 (qq0.moves hX2 hd2 hmv3) (hq s3' heq)))
 unfold wpOp;rw [Array.getElem?_eq_getElem hcl];simp only;unfold wpList at this;split
 ·rename_i hw
  rw [if_pos hw] at this;rcases this with h | ⟨h2, ⟨a3, w3, h3⟩⟩
  ·refine .inl (qtK (fun e a w hne h => ?_) (Oper.wp_mono (fun a w h => h) h))
   cases e <;> first | exact absurd rfl hne | exact h
  ·exact .inr ⟨h2, a3, w3, h3⟩
 ·rename_i hw
  rw [if_neg hw] at this;exact this
theorem WP_cutM {ac : ACode} {r : Rgn} {m : List AIns} {c : Nat} {mi : AIns} {s1 : St} (hinv : ∀ cd, qm1 P cd = some ac->∃ id opsA, cd = .region id opsA true/\qk2 P opsA opsA.toList = some m/\some (c + 1000) = qlF P opsA m/\r = rgnC P opsA m/\P.follows .mixedOrders = true) (hci : m[c]? = some mi)
  (h1 : run (qf2 C) ns (m.take c) s = some s1) (hmid : ∀ L sp sf, L.Sublist (m.take c)->(∀ x ∈ L, qx1 x = true/\qwS x mi = true)->run (qf2 C) ns L sp = some sf->Eqv sf s1->RP P C B [mi] (fun s2 => ∃ s2', Sub B s2 s2'/\∃ ids, InvB r.L [] ids s2'/\(∀ p ∈ r.needs, ids p.1 ≠ ids p.2)/\∃ ns2 s3, run (qf2 C) ns2 (L ++ m.drop (c + 1)) s2' = some s3/\∀ s3', Eqv s3' s3->Q .normal s3') sp) : WP P C B ac Q s := by
 intro hC cd hc J0 F0 w0 d0 a w Q' hS hQ;obtain ⟨id, opsA, rfl, hm, hct, rfl, hmix⟩ := hinv _ hc;obtain ⟨J, F, hE, hH, hX, hd⟩ := hS;have hH1 : HRel J F { w with drawn := w.drawn + 1 } s.H := hH.drew;have hE1 : qcL J F { w with drawn := w.drawn + 1 } s.env a.tmps := hE.ext hH (qh9 J F w);have hX1 : Ext0 B J0 F0 w0 J F { w with drawn := w.drawn + 1 } := hX.trans (qh9 J F w).to0;have hlen : m.length = opsA.size := by rw [(qg8 hm).1]; simp
 have hcl : c < opsA.size := by rw [← hlen]; exact (List.getElem?_eq_some_iff.1 hci).1
 obtain ⟨x, hx1, hx2⟩ := (qg8 hm).2 c opsA[c] (by simp);rw [hci] at hx1;cases hx1;refine wp_region_any hmix (zp5 (ns := ns) hC hm (r := rgnC P opsA m) rfl rfl rfl hci (by simpa using ((qzQ hct.symm).resolve_left (fun h => by omega)).2) hE1 hH1 h1 ?_);intro L sp sf a1 w1 hL hlk hrun heq hmv K hK;have hone : qk2 P opsA [opsA[c]] = some [mi] := by simp only [qk2, hx2]
 have := hmid L sp sf hL hlk hrun heq hC opsA [opsA[c]] hone J0 F0 w0 d0 a1 w1 (fun e a w => match e with
  | .normal => K a w
  | e => Q' e a w) (qq0.moves hX1 hd hmv) (by
   rintro s2 a2 w2 hS2 ⟨s2', hsub, ids, hI, hne, ns2, s3, hr, hq⟩;obtain ⟨J2, F2, hE2, hH2, hX2, hd2⟩ := hS2.sub hsub;exact hK a2 w2 s2' s3 J2 F2 ns2 ids hI hne hE2 hH2 hr (fun s3' a3 w3 heq hmv3 => hQ _ s3' a3 w3 (qq0.moves hX2 hd2 hmv3) (hq s3' heq)))
 unfold wpOp;rw [Array.getElem?_eq_getElem hcl];simp only;unfold wpList at this;split
 ·rename_i hw
  rw [if_pos hw] at this;rcases this with h | ⟨h2, ⟨a3, w3, h3⟩⟩
  ·refine .inl (qtK (fun e a w hne h => ?_) (Oper.wp_mono (fun a w h => h) h))
   cases e <;> first | exact absurd rfl hne | exact h
  ·exact .inr ⟨h2, a3, w3, h3⟩
 ·rename_i hw
  rw [if_neg hw] at this;exact this
end
section
variable {τ ε : Type}
def qhA (f : τ->Option (τ ⊕ ε)) : Nat->τ->Option ε
 | 0, _ => none
 | n + 1, t => match f t with
  | some (.inl t') => qhA f n t'
  | some (.inr e) => some e
  | none => none
theorem qhB {f : τ->Option (τ ⊕ ε)} : ∀ {n m : Nat} {t : τ} {e : ε}, qhA f n t = some e->n<=m->qhA f m t = some e
 | 0, _, _, _, h, _ => by cases h
 | n + 1, 0, _, _, _, hm => by omega
 | n + 1, m + 1, t, e, h, hm => by
  unfold qhA at h ⊢;split at h
  ·exact qhB h (by omega)
  ·exact h
  ·cases h
open Classical in
noncomputable def qb9 (f : τ->Option (τ ⊕ ε)) (t : τ) : Option ε :=
 if h : ∃ n e, qhA f n t = some e then some (Classical.choose (Classical.choose_spec h)) else none
theorem qfP {f : τ->Option (τ ⊕ ε)} {t : τ} {e : ε} : qb9 f t = some e ↔ ∃ n, qhA f n t = some e := by
 unfold qb9;constructor
 ·intro h
  split at h
  ·rename_i hh
   cases h;exact ⟨_, Classical.choose_spec (Classical.choose_spec hh)⟩
  ·cases h
 ·rintro ⟨n, hn⟩
  have hh : ∃ n e, qhA f n t = some e := ⟨n, e, hn⟩;rw [dif_pos hh];have h1 := Classical.choose_spec (Classical.choose_spec hh);have h2 := qhB h1 (Nat.le_max_left _ n);have h3 := qhB hn (Nat.le_max_right (Classical.choose hh) n);rw [h2] at h3;exact h3
theorem qzV (f : τ->Option (τ ⊕ ε)) (t : τ) : qb9 f t = (f t).bind (Sum.elim (qb9 f) some) := by
 apply Option.ext
 intro e;rw [qfP, Option.bind_eq_some_iff];constructor
 ·rintro ⟨n, hn⟩
  cases n with
  | zero => cases hn
  | succ n =>
   unfold qhA at hn;split at hn
   ·rename_i t' h
    exact ⟨_, h, qfP.2 ⟨n, hn⟩⟩
   ·rename_i h
    cases hn;exact ⟨_, h, rfl⟩
   ·cases hn
 ·rintro ⟨x, h, hx⟩
  cases x with
  | inl t' =>
   obtain ⟨n, hn⟩ := qfP.1 hx;refine ⟨n + 1, ?_⟩;unfold qhA;rw [h];exact hn
  | inr e' =>
   cases hx;refine ⟨1, ?_⟩;unfold qhA;rw [h]
theorem qh1 {f : τ->Option (τ ⊕ ε)} {t t' : τ} (h : f t = some (.inl t')) : qb9 f t = qb9 f t' := by rw [qzV, h]; rfl
theorem qg2 {f : τ->Option (τ ⊕ ε)} {t : τ} {e : ε} (h : f t = some (.inr e)) : qb9 f t = some e := by rw [qzV, h]; rfl
variable {P : Program} {C : FuncId->Con} {ns : Id} {B : Id->Prop} {Q : Exit->St->Prop} {x : ACode}
end
def QP (Q : Exit->St->Prop) (e : Exit) (s : St) : Prop := Q e s
section
variable {ρ α : Type} {o : Option ρ} {A p q : ρ->Prop}
end
section
variable {ρ : Type} {o : Option ρ} {A : ρ->Prop} {P : Program} {C : FuncId->Con} {B : Id->Prop} {K : ρ->St->Prop} {Q : ρ->Exit->St->Prop} {x y : ACode} {s s0 : St}
section
variable {d n : Nat} {op : AOp} {g : Option (Nat × Bool)} {l : List AIns} {e : List (Nat × AV)} {H H' : Hp}
end
end
def z1 : DV->DV
 | .sl _ [] => .sl 0 []
 | d => d
theorem z1_sl {s : Nat} {l m : List (List DV)} (h : z1 (.sl s l) = z1 (.sl s m)) : l = m := by
 cases l with
 | nil => cases m with
  | nil => rfl
  | cons => simp [z1] at h
 | cons => cases m with
  | nil => simp [z1] at h
  | cons => simpa [z1] using h
theorem zq9 {F : Nat->Prop} {w : World} {d d' : DV} {v : Value} (h : z1 d = z1 d') (hr : Rep F w d v) : Rep F w d' v := by
 have nil : ∀ {s s' : Nat}, Rep F w (.sl s []) v->Rep F w (.sl s' []) v := by
  intro s s' h;cases h with
  | sl0 _ a c => exact .sl0 s' a c
  | sl _ _ g o c vals => exact .sl0 s' _ c
 unfold z1 at h;split at h
 ·split at h
  ·exact nil hr
  ·rename_i hd
   cases d' <;> first | (cases h; done) | skip
   rename_i s' l';simp only [DV.sl.injEq] at h;obtain ⟨rfl, rfl⟩ := h;exact nil hr
 ·split at h
  ·subst h
   exact nil hr
  ·subst h; exact hr
section
variable {P : Program} {J J0 : Id->JI} {F F0 : Nat->Prop} {w w0 : World} {H : Hp} {a : Act} {C : FuncId->Con} {B : Id->Prop}
theorem qtL (hC : qr4 P C) {f : FuncId} {af : AFn} (hf : qtD P f = some af) {avs : List AV} {vs : List Value} (hH : HRel J F w H) (hv : vs.length = avs.length/\∀ (j : Nat) y v, avs[j]? = some y->vs[j]? = some v->VRel J F w y v)
  {K : St->Prop} (h : WP P C B af.code (retQ K) ⟨zg2 avs af.ntmps, H⟩) {R : Ending->World->Prop}
  (hR : ∀ (s : St) (a' : Act) (w' : World) (J' : Id->JI) (F' : Nat->Prop), qcL J' F' w' s.env a'.tmps->HRel J' F' w' s.H->Ext0 B J F w J' F' w'->K s->∃ x, outA s af.res = some x/\∀ v, VRel J' F' w' x v->R (.returned v) w') : Calls P f vs.toArray w R := by
 obtain ⟨fn, c, h1, h2, h3, h4, h5, _⟩ := qlI hf;refine calls_of_wp h1 h2 ?_
 rw [h5];refine h hC c h3 J F w [] _ w _ ⟨J, F, env0_rel hv af.ntmps, hH, Ext0.refl _ _ _, rfl⟩ ?_
 rintro e s a' w' ⟨J', F', hE', hH', hX', hd'⟩ hq
 have done : K s->Act.defers a' = []/\∃ v, (results fn (Act.tmps a')).run P w' = .ok v w'/\R (.returned v) w' := by
  intro hk;obtain ⟨x, hx, hr⟩ := hR s a' w' J' F' hE' hH' hX' hk;obtain ⟨v, hv1, hv2⟩ := outA_run hE' hH' h4 hx;exact ⟨hd', v, hv1, hr v hv2⟩
 cases e <;> first | exact done hq | exact hq.elim
end
end Go.AI
